/- Texts of this proof, packed: RcChk2, RcChk3, RcChk4, RcRead3, RcRead4, RcRead5, RcRead6, RcRead7, RcRead8, RcRead9, RcReadA, RcReadB, RcReadC, FxEncN, RcWr, RcWr2, RcWr3, RcWr4, RcEnc, RcEnc2, RcPl, RcDec, RcDecS, RcPl2, RcPl3, RcRefK, RcRefK2, RcRefK3, RcRefK4. -/
import Derived.Test.YtckpcelchhmjcaaGreatPk5
set_option linter.unusedVariables false
set_option linter.unusedSimpArgs false
set_option linter.unusedSectionVars false
/- Which state of a shard may be: the whole of it. -/
namespace Go.Proofs.YtckpcelchhmjcaaGreat.Ab
open Go

/-! ### Structs that are the same -/
theorem in_rg (n : Nat) (a b : Rg) : pureRun Tryz.prog (Op.equalIn (n + 2) 27 (rv a) (rv b)) = some ([a.1 == b.1, a.2 == b.2].all id) :=
  pr_struct Tryz.underlying27 (by kernel_rfl) ⟨by decide, ⟨_, _, by kernel_rfl, by kernel_rfl, in_str _ _ _⟩, by decide, ⟨_, _, by kernel_rfl, by kernel_rfl, in_str _ _ _⟩, trivial⟩
theorem in_rgM (m n : Nat) (h : m = n + 2) (a b : Rg) : pureRun Tryz.prog (Op.equalIn m 27 (rv a) (rv b)) = some ([a.1 == b.1, a.2 == b.2].all id) := by
  subst h
  exact in_rg n a b
theorem max_2R : Op.maxDepth = 9998 + 2 := by decide
theorem rg_eql (o1 o2 : Operand) (a b : Rg) : abin Tryz.prog .eql 27 o1 o2 (rv a) (rv b) = some (.bool (a.1 == b.1 && a.2 == b.2)) := by
  have hg : pureRun Tryz.prog (eqGuard .eql 27 o1 o2 (.agg (prC.enc a).toArray) (.agg (prC.enc b).toArray)) = some () := by kernel_rfl
  have he : pureRun Tryz.prog (Op.equal 27 (rv a) (rv b)) = some ([a.1 == b.1, a.2 == b.2].all id) := by
    unfold Op.equal
    exact in_rgM _ 9998 max_2R a b
  have := ab_eqlS (xs := prC.enc a) (ys := prC.enc b) (prC.leaf a) (prC.leaf b) hg he
  rw [show ([a.1 == b.1, a.2 == b.2].all id) = (a.1 == b.1 && a.2 == b.2) by simp] at this
  exact this
abbrev In4 := Int × Int × Int × Rg
def inL (i : In4) : List Value := [.int .u64 i.1, .int .u64 i.2.1, .int .u64 i.2.2.1, sv i.2.2.2.1, sv i.2.2.2.2]
def inEq (a b : In4) : Bool := [a.1 == b.1, a.2.1 == b.2.1, a.2.2.1 == b.2.2.1, [a.2.2.2.1 == b.2.2.2.1, a.2.2.2.2 == b.2.2.2.2].all id].all id
theorem in_in (m n : Nat) (h : m = n + 3) (a b : In4) : pureRun Tryz.prog (Op.equalIn m 29 (.agg (inL a).toArray) (.agg (inL b).toArray)) = some (inEq a b) := by
  subst h
  exact pr_struct Tryz.underlying29 (by kernel_rfl) ⟨by decide, ⟨_, _, by kernel_rfl, by kernel_rfl, in_int Tryz.underlying22⟩, by decide, ⟨_, _, by kernel_rfl, by kernel_rfl, in_int Tryz.underlying22⟩, by decide, ⟨_, _, by kernel_rfl, by kernel_rfl, in_int Tryz.underlying22⟩, by decide, ⟨rv a.2.2.2, rv b.2.2.2, by kernel_rfl, by kernel_rfl, in_rg n _ _⟩, trivial⟩
theorem max_3R : Op.maxDepth = 9997 + 3 := by decide
theorem inL_leaf (a : In4) : (inL a).all leafOk = true := rfl
theorem in_eql (o1 o2 : Operand) (a b : In4) : abin Tryz.prog .eql 29 o1 o2 (.agg (inL a).toArray) (.agg (inL b).toArray) = some (.bool (inEq a b)) := by
  have hg : pureRun Tryz.prog (eqGuard .eql 29 o1 o2 (.agg (inL a).toArray) (.agg (inL b).toArray)) = some () := by kernel_rfl
  refine ab_eqlS (inL_leaf a) (inL_leaf b) hg ?_
  unfold Op.equal
  exact in_in _ 9997 max_3R a b

/-! ### Lists of what is held, of what is finished -/
theorem contains_ho {s : St} {v fv : Value} {l : List Ho} {p : Ho → Bool} (h : ListN hoN 32 l s v) (hp : Asks (run Tryz.prog (libL libT) hints) hoN true s l fv p) : ∃ t, (run Tryz.prog (libL libT) hints) 43 [v, fv] s = some (.bool (l.any p), t) ∧ Ext s.heap.length s t := by
  have hl : l.length < 140737488355328 := by
    have h1 : l.length * 32 ≤ 140737488351232 := h.1
    omega
  obtain ⟨k, t, h1, h2, h3⟩ := contains_gen (t1 := 64) (n := 2) rfl (.inl rfl) h hl hp
  refine ⟨t, slices_ContainsFunc_api_Hold_api_Hold_of rfl ?_, h3⟩
  have h4 := slices_IndexFunc_api_Hold_api_Hold_of (lib := libL libT) rfl h1
  unfold slices_ContainsFunc_api_Hold_api_Hold
  simp only [slices_IndexFunc_api_Hold_api_Hold_call, h4, h2, n_bind, n_map, getL_0, getL_1, getL_2, getL_3, getL_4, getL_5, getL_6, getL_7, getL_8, getL_9, getL_10, getL_11, getL_12, condV_t, condV_f, guardV_tt, guardV_ff, guardV_tf, guardV_ft, guardV_u, apick_t, apick_f, exV_exit, exV_ret, lookE_same, joinK_eq, seqA_n, seqA_e, seqA_r, e_add, e_sub, e_mul, e_eql, e_neq, e_lss, e_leq, e_gtr, e_geq, e_conv, e_not, e_neg, and_guard, or_guard]
  exact ret1 rfl
theorem rises_ho {s : St} {v : Value} {l : List Ho} (h : ListN hoN 32 l s v) : (run Tryz.prog (libL libT) hints) 44 [v, .func (.func 45) #[] #[]] s = some (.bool (risesK (fun h : Ho => h.1) none l), s) := by
  have hl : l.length < 140737488355328 := by
    have h1 : l.length * 32 ≤ 140737488351232 := h.1
    omega
  refine record_rising_api_Hold_of rfl (rises_gen (t1 := 64) (n := 2) (ag := true) rfl (.inl rfl) h hl ?_)
  intro a _ u cs hr hs t
  have hs : u = .agg cs.toArray := hs
  subst hs
  obtain ⟨o, rfl, w, ho⟩ := ho_inv hr
  rw [record_CheckShard_2_call]
  refine record_CheckShard_2_of rfl ?_
  have hb := lbox_cs (cs := [.int .u64 a.1, o]) (by simp only [List.all_cons, listN_leafR ho, List.all_nil]; rfl)
  have l0 : lload false 1 lptr (.agg [.int .u64 a.1, o].toArray) = some (.int .u64 a.1) := rfl
  unfold record_CheckShard_2
  simp only [hb, l0, n_bind, n_map, getL_0, getL_1, getL_2, getL_3, getL_4, getL_5, getL_6, getL_7, getL_8, getL_9, getL_10, getL_11, getL_12, condV_t, condV_f, guardV_tt, guardV_ff, guardV_tf, guardV_ft, guardV_u, apick_t, apick_f, exV_exit, exV_ret, lookE_same, joinK_eq, seqA_n, seqA_e, seqA_r, e_add, e_sub, e_mul, e_eql, e_neq, e_lss, e_leq, e_gtr, e_geq, e_conv, e_not, e_neg, and_guard, or_guard]
  exact ret1 rfl
theorem rises_u {s : St} {v : Value} {l : List Int} (h : ListN (wfN .u64) 8 l s v) : (run Tryz.prog (libL libT) hints) 46 [v, .func (.func 47) #[] #[]] s = some (.bool (risesK id none l), s) := by
  have hl : l.length < 140737488355328 := by
    have h1 : l.length * 8 ≤ 140737488351232 := h.1
    omega
  refine record_rising_uint64_of rfl (rises_gen (t1 := 22) (n := 1) (ag := false) rfl (.inr rfl) h hl ?_)
  intro a _ u cs hr hs t
  have hs : cs = [u] := hs
  subst hs
  obtain ⟨e, _⟩ := hr
  obtain rfl : u = .int .u64 a := (List.cons.inj e).1
  rw [record_CheckShard_3_call]
  refine record_CheckShard_3_of rfl ?_
  unfold record_CheckShard_3
  exact ret1 rfl
theorem want_run (b : Bool) (s : St) : (run Tryz.prog (libL libT) hints) 42 [.bool b] s = some (.int .i64 (if b = true then 0 else 1), s) := by
  refine record_want_of rfl ?_
  unfold record_want
  cases b
  · simp only [n_bind, n_map, getL_0, getL_1, getL_2, getL_3, getL_4, getL_5, getL_6, getL_7, getL_8, getL_9, getL_10, getL_11, getL_12, condV_t, condV_f, guardV_tt, guardV_ff, guardV_tf, guardV_ft, guardV_u, apick_t, apick_f, exV_exit, exV_ret, lookE_same, joinK_eq, seqA_n, seqA_e, seqA_r, e_add, e_sub, e_mul, e_eql, e_neq, e_lss, e_leq, e_gtr, e_geq, e_conv, e_not, e_neg, and_guard, or_guard, Bool.not_false]
    exact ret1 rfl
  · simp only [n_bind, n_map, getL_0, getL_1, getL_2, getL_3, getL_4, getL_5, getL_6, getL_7, getL_8, getL_9, getL_10, getL_11, getL_12, condV_t, condV_f, guardV_tt, guardV_ff, guardV_tf, guardV_ft, guardV_u, apick_t, apick_f, exV_exit, exV_ret, lookE_same, joinK_eq, seqA_n, seqA_e, seqA_r, e_add, e_sub, e_mul, e_eql, e_neq, e_lss, e_leq, e_gtr, e_geq, e_conv, e_not, e_neg, and_guard, or_guard, Bool.not_true]
    exact ret1 rfl

/-! ### The whole -/
def bad1 (d : Sd) : Bool := (((((decide (d.id < 1) || decide (d.id > 4)) || (eO d.owners != 0)) || decide ((d.held.length : Int) > 6)) || decide (IntKind.wrap .i64 ((d.held.length : Int) + (d.fin.length : Int)) > 64)) || (eR d.ir != 0)) || (eR d.cold != 0)
def good1 (d : Sd) : Bool := ((d.im != 0) || inEq (d.im, d.ia, d.inx, d.ir) (0, 0, 0, ([], []))) && ((d.frozen != 0) || (d.cold.1 == [] && d.cold.2 == []))
def good2 (d : Sd) : Bool := ((good1 d && !(d.held.any (badHo d.fin))) && risesK (fun h : Ho => h.1) none d.held) && risesK id none d.fin
def eSd (d : Sd) : Int := if bad1 d = true then 1 else if good2 d = true then 0 else 1
theorem anew_cells {cs : List Value} (h : cs.all isLeaf = true) (s : St) : anew (cellsV (.agg cs.toArray)) s = some (.pointer (some ⟨s.heap.length, 0, none⟩), s.push (.row 0 cs .act)) := by
  have hc : cellsV (.agg cs.toArray) = cs := by simp [cellsV]
  unfold anew
  rw [hc, if_pos h]
theorem ld_five {s : St} {B n i : Nat} {cells xs : List Value} {st : Stat} (h : s.heap[B]? = some (.row n cells st)) (hst : st ≠ .dead) (hx : (cells.drop i).take 5 = xs) (hl : i + 5 ≤ cells.length) : aload true 5 (.pointer (some ⟨B, i, none⟩)) s = some (.agg xs.toArray) := by
  have hr : readRow s B = some cells := by
    unfold Ab.readRow
    rw [h]
    cases st with
    | dead => exact absurd rfl hst
    | act => rfl
    | ro => rfl
  simp only [aload, if_true, readN, hr, Option.bind_some]
  rw [if_pos hl, hx]
  rfl
theorem or_guard2 {b c : Bool} {s : St} {β : Type} {K : List Value × St → Option β} : ((guardV (.bool b) false (some ([.bool c], s)) (some ([undef], s))).bind fun q => ((apick (.bool b) (.bool true) (getL q.1 0)).bind fun v => some ([v], q.2)).bind K) = K ([.bool (b || c)], s) := by
  cases b <;> rfl
theorem CheckShard_run {d : Sd} {s : St} {v : Value} (h : NArg sdN d s v) : ∃ t, (run Tryz.prog (libL libT) hints) 11 [v] s = some (.int .i64 (eSd d), t) ∧ Ext s.heap.length s t := by
  obtain ⟨cs, rfl, h⟩ := h
  obtain ⟨ow, he, fi, rfl, hs⟩ := sd_inv h
  have hnw := anew_cells (sd_leaf hs) s
  have hx1 : Ext s.heap.length s (s.push (.row 0 (sdCells d ow he fi) .act)) := .push _ (Nat.le_refl _) _
  have hg : (s.push (.row 0 (sdCells d ow he fi) .act)).heap[s.heap.length]? = some (.row 0 (sdCells d ow he fi) .act) := push_get
  have hs1 := hs.ext hx1
  generalize hS : s.push (.row 0 (sdCells d ow he fi) .act) = s1 at *
  generalize hN : s.heap.length = N at *
  have fld : ∀ {t : St} {i : Nat} {c : Value}, Ext s1.heap.length s1 t → (sdCells d ow he fi)[i]? = some c → aload false 1 (.pointer (some ⟨N, i, none⟩)) t = some c := fun hx hc => ld_cell (ext_get hg hx) (by simp) hc
  have r0 : Ext s1.heap.length s1 s1 := .refl _ _
  have f0 := fld (i := 0) r0 rfl
  have f5 := fld (i := 5) r0 rfl
  have f6 := fld (i := 6) r0 rfl
  have f7 := fld (i := 7) r0 rfl
  have f9 := fld (i := 9) r0 rfl
  have f12 := fld (i := 12) r0 rfl
  have f15 : aload true 2 (.pointer (some ⟨N, 15, none⟩)) s1 = some (rv d.ir) := ld_two hg (by simp) rfl rfl
  have f10 : aload true 2 (.pointer (some ⟨N, 10, none⟩)) s1 = some (rv d.cold) := ld_two hg (by simp) rfl rfl
  have f12b : aload true 5 (.pointer (some ⟨N, 12, none⟩)) s1 = some (.agg (inL (d.im, d.ia, d.inx, d.ir)).toArray) := ld_five hg (by simp) rfl (by simp [sdCells])
  obtain ⟨p1, _, p2⟩ := hs1.ow.plain
  have hol : d.owners.length < 140737488355328 := by omega
  have kO := k_chkO p1 hol
  have lh := listN_lenR hs1.he
  have lf := listN_lenR hs1.fi
  have hz5 : (Value.agg #[(.int .u64 0), (.int .u64 0), (.int .u64 0), (.string ⟨#[]⟩), (.string ⟨#[]⟩)]) = .agg (inL (0, 0, 0, ([], []))).toArray := rfl
  have hz2 : (Value.agg #[(.string ⟨#[]⟩), (.string ⟨#[]⟩)]) = rv ([], []) := rfl
  obtain ⟨t1, g1, x1⟩ := contains_ho hs1.he (bad_asks hg hs1)
  have k6 := fld (i := 6) x1 rfl
  have k7 := fld (i := 7) x1 rfl
  have rh := rises_ho (hs1.he.ext x1)
  have ru := rises_u (hs1.fi.ext x1)
  have hmk : amkFunc 37 [] [.pointer (some ⟨N, 0, none⟩)] = some (.func (.func 37) #[] #[.pointer (some ⟨N, 0, none⟩)]) := rfl
  have hr : ∀ n s, retV [.int .i64 n] s = some (.int .i64 n, s) := fun n s => ret1 rfl
  have hX1 := hx1.trans (x1.less (by have := hx1.1; omega))
  have hbad : bad1 d = ((((((decide (d.id < 1) || decide (d.id > 4)) || (eO d.owners != 0)) || decide ((d.held.length : Int) > 6)) || decide (IntKind.wrap .i64 ((d.held.length : Int) + (d.fin.length : Int)) > 64)) || (eR d.ir != 0)) || (eR d.cold != 0)) := rfl
  unfold eSd
  rcases Bool.eq_false_or_eq_true (bad1 d) with c | c
  · refine ⟨s1, record_CheckShard_of rfl ?_, hx1⟩
    rw [if_pos c]
    rw [hbad] at c
    unfold record_CheckShard
    simp only [hnw, ad_atR, Nat.zero_add, Nat.reduceAdd, f0, f5, f6, f7, f15, f10, owner_Check_call, kO, lh, lf, span_Check_call, k_chk, n_bind, n_map, getL_0, getL_1, getL_2, getL_3, getL_4, getL_5, getL_6, getL_7, getL_8, getL_9, getL_10, getL_11, getL_12, condV_t, condV_f, guardV_tt, guardV_ff, guardV_tf, guardV_ft, guardV_u, apick_t, apick_f, exV_exit, exV_ret, lookE_same, joinK_eq, seqA_n, seqA_e, seqA_r, e_add, e_sub, e_mul, e_eql, e_neq, e_lss, e_leq, e_gtr, e_geq, e_conv, e_not, e_neg, and_guard, or_guard, c, hr]
  · have hc : ¬ bad1 d = true := by rw [c]; simp
    rw [if_neg hc]
    rw [hbad] at c
    unfold good2 good1
    rcases Bool.eq_false_or_eq_true ((d.im != 0) || inEq (d.im, d.ia, d.inx, d.ir) (0, 0, 0, ([], []))) with c1 | c1
    · rcases Bool.eq_false_or_eq_true ((d.frozen != 0) || (d.cold.1 == [] && d.cold.2 == [])) with c2 | c2
      · rcases Bool.eq_false_or_eq_true (d.held.any (badHo d.fin)) with c3 | c3
        · refine ⟨t1, record_CheckShard_of rfl ?_, hX1⟩
          unfold record_CheckShard
          simp only [hnw, ad_atR, Nat.zero_add, Nat.reduceAdd, f0, f5, f6, f7, f9, f12, f12b, f15, f10, owner_Check_call, kO, lh, lf, span_Check_call, k_chk, n_bind, n_map, getL_0, getL_1, getL_2, getL_3, getL_4, getL_5, getL_6, getL_7, getL_8, getL_9, getL_10, getL_11, getL_12, condV_t, condV_f, guardV_tt, guardV_ff, guardV_tf, guardV_ft, guardV_u, apick_t, apick_f, exV_exit, exV_ret, lookE_same, joinK_eq, seqA_n, seqA_e, seqA_r, e_add, e_sub, e_mul, e_eql, e_neq, e_lss, e_leq, e_gtr, e_geq, e_conv, e_not, e_neg, and_guard, or_guard, c, hr, hmk, hz5, hz2, in_eql, rg_eql, c1, or_guard2, c2, slices_ContainsFunc_api_Hold_api_Hold_call, g1, c3, Bool.not_true, record_want_call, want_run, Bool.and_false, Bool.false_and, Bool.and_self, Bool.true_and, Bool.false_eq_true, if_false]
        · rcases Bool.eq_false_or_eq_true (risesK (fun h : Ho => h.1) none d.held) with c4 | c4
          · refine ⟨t1, record_CheckShard_of rfl ?_, hX1⟩
            unfold record_CheckShard
            simp only [hnw, ad_atR, Nat.zero_add, Nat.reduceAdd, f0, f5, f6, f7, f9, f12, f12b, f15, f10, owner_Check_call, kO, lh, lf, span_Check_call, k_chk, n_bind, n_map, getL_0, getL_1, getL_2, getL_3, getL_4, getL_5, getL_6, getL_7, getL_8, getL_9, getL_10, getL_11, getL_12, condV_t, condV_f, guardV_tt, guardV_ff, guardV_tf, guardV_ft, guardV_u, apick_t, apick_f, exV_exit, exV_ret, lookE_same, joinK_eq, seqA_n, seqA_e, seqA_r, e_add, e_sub, e_mul, e_eql, e_neq, e_lss, e_leq, e_gtr, e_geq, e_conv, e_not, e_neg, and_guard, or_guard, c, hr, hmk, hz5, hz2, in_eql, rg_eql, c1, or_guard2, c2, slices_ContainsFunc_api_Hold_api_Hold_call, g1, c3, Bool.not_false, record_rising_api_Hold_call, k6, rh, c4, record_rising_uint64_call, k7, ru, record_want_call, want_run, Bool.and_false, Bool.false_and, Bool.and_self, Bool.true_and]
          · refine ⟨t1, record_CheckShard_of rfl ?_, hX1⟩
            unfold record_CheckShard
            simp only [hnw, ad_atR, Nat.zero_add, Nat.reduceAdd, f0, f5, f6, f7, f9, f12, f12b, f15, f10, owner_Check_call, kO, lh, lf, span_Check_call, k_chk, n_bind, n_map, getL_0, getL_1, getL_2, getL_3, getL_4, getL_5, getL_6, getL_7, getL_8, getL_9, getL_10, getL_11, getL_12, condV_t, condV_f, guardV_tt, guardV_ff, guardV_tf, guardV_ft, guardV_u, apick_t, apick_f, exV_exit, exV_ret, lookE_same, joinK_eq, seqA_n, seqA_e, seqA_r, e_add, e_sub, e_mul, e_eql, e_neq, e_lss, e_leq, e_gtr, e_geq, e_conv, e_not, e_neg, and_guard, or_guard, c, hr, hmk, hz5, hz2, in_eql, rg_eql, c1, or_guard2, c2, slices_ContainsFunc_api_Hold_api_Hold_call, g1, c3, Bool.not_false, record_rising_api_Hold_call, k6, rh, c4, record_want_call, want_run, Bool.and_false, Bool.false_and, Bool.and_self, Bool.true_and, Bool.false_eq_true, if_false]
      · refine ⟨s1, record_CheckShard_of rfl ?_, hx1⟩
        have c2' : (d.frozen != 0) = false ∧ (d.cold.1 == [] && d.cold.2 == []) = false := by simpa only [Bool.or_eq_false_iff] using c2
        unfold record_CheckShard
        simp only [hnw, ad_atR, Nat.zero_add, Nat.reduceAdd, f0, f5, f6, f7, f9, f12, f12b, f15, f10, owner_Check_call, kO, lh, lf, span_Check_call, k_chk, n_bind, n_map, getL_0, getL_1, getL_2, getL_3, getL_4, getL_5, getL_6, getL_7, getL_8, getL_9, getL_10, getL_11, getL_12, condV_t, condV_f, guardV_tt, guardV_ff, guardV_tf, guardV_ft, guardV_u, apick_t, apick_f, exV_exit, exV_ret, lookE_same, joinK_eq, seqA_n, seqA_e, seqA_r, e_add, e_sub, e_mul, e_eql, e_neq, e_lss, e_leq, e_gtr, e_geq, e_conv, e_not, e_neg, and_guard, or_guard, c, hr, hmk, hz5, hz2, in_eql, rg_eql, c1, c2'.1, c2'.2, Bool.or_self, record_want_call, want_run, Bool.and_false, Bool.false_and, Bool.and_self, Bool.true_and, Bool.false_eq_true, if_false]
    · refine ⟨s1, record_CheckShard_of rfl ?_, hx1⟩
      unfold record_CheckShard
      simp only [hnw, ad_atR, Nat.zero_add, Nat.reduceAdd, f0, f5, f6, f7, f9, f12, f12b, f15, f10, owner_Check_call, kO, lh, lf, span_Check_call, k_chk, n_bind, n_map, getL_0, getL_1, getL_2, getL_3, getL_4, getL_5, getL_6, getL_7, getL_8, getL_9, getL_10, getL_11, getL_12, condV_t, condV_f, guardV_tt, guardV_ff, guardV_tf, guardV_ft, guardV_u, apick_t, apick_f, exV_exit, exV_ret, lookE_same, joinK_eq, seqA_n, seqA_e, seqA_r, e_add, e_sub, e_mul, e_eql, e_neq, e_lss, e_leq, e_gtr, e_geq, e_conv, e_not, e_neg, and_guard, or_guard, c, hr, hmk, hz5, hz2, in_eql, rg_eql, c1, record_want_call, want_run, Bool.and_false, Bool.false_and, Bool.and_self, Bool.true_and, Bool.false_eq_true, if_false]

end Go.Proofs.YtckpcelchhmjcaaGreat.Ab

/- Which state of the coordinator may be. -/
namespace Go.Proofs.YtckpcelchhmjcaaGreat.Ab
open Go

/-! ### A state in memory -/
def cdCells (c : Cd) (ow de la : Value) : List Value := [.int .i64 c.shards, .int .u64 c.boot, .int .u64 c.ver, .int .u64 c.epoch, ow, de, la]
structure CdIn (c : Cd) (s : St) (ow de la : Value) : Prop where
  ow : ListN (.ofC owC fun _ => True) 24 c.owners s ow
  de : ListN deN 56 c.decided s de
  la : ListN laN 48 c.last s la
  wsh : (Lit.int .i64 c.shards).wf = true
  wboot : (Lit.int .u64 c.boot).wf = true
  wver : (Lit.int .u64 c.ver).wf = true
  wepoch : (Lit.int .u64 c.epoch).wf = true
theorem CdIn.ext {c : Cd} {s t : St} {ow de la : Value} (h : CdIn c s ow de la) (hx : Ext s.heap.length s t) : CdIn c t ow de la :=
  ⟨h.ow.ext hx, h.de.ext hx, h.la.ext hx, h.wsh, h.wboot, h.wver, h.wepoch⟩
theorem cd_inv {c : Cd} {s : St} {cs : List Value} (h : cdN.rel c s cs) : ∃ ow de la, cs = cdCells c ow de la ∧ CdIn c s ow de la := by
  obtain ⟨_, _, rfl, ⟨rfl, w0⟩, _, _, rfl, ⟨rfl, w1⟩, _, _, rfl, ⟨rfl, w2⟩, _, _, rfl, ⟨rfl, w3⟩, _, _, rfl, ⟨ow, rfl, how⟩, _, _, rfl, ⟨de, rfl, hde⟩, _, _, rfl, ⟨la, rfl, hla⟩, rfl⟩ := h
  exact ⟨ow, de, la, rfl, how, hde, hla, w0, w1, w2, w3⟩
theorem CdIn.rel {c : Cd} {s : St} {ow de la : Value} (h : CdIn c s ow de la) : cdN.rel c s (cdCells c ow de la) :=
  ⟨_, _, rfl, ⟨rfl, h.wsh⟩, _, _, rfl, ⟨rfl, h.wboot⟩, _, _, rfl, ⟨rfl, h.wver⟩, _, _, rfl, ⟨rfl, h.wepoch⟩, _, _, rfl, ⟨ow, rfl, h.ow⟩, _, _, rfl, ⟨de, rfl, h.de⟩, _, _, rfl, ⟨la, rfl, h.la⟩, rfl⟩
theorem cd_leaf {c : Cd} {s : St} {ow de la : Value} (h : CdIn c s ow de la) : (cdCells c ow de la).all isLeaf = true := by
  have h1 := listN_leafR h.ow
  have h2 := listN_leafR h.de
  have h3 := listN_leafR h.la
  simp only [cdCells, List.all_cons, h1, h2, h3, List.all_nil]
  rfl
theorem de_inv {d : De} {s : St} {cs : List Value} (h : deN.rel d s cs) : ∃ l, cs = [.int .u64 d.1, .int .i64 d.2.1, .int .u64 d.2.2.1, .int .u64 d.2.2.2.1, l] ∧ ListN (wfN .i64) 8 d.2.2.2.2 s l ∧ (Lit.int .u64 d.1).wf = true ∧ (Lit.int .i64 d.2.1).wf = true ∧ (Lit.int .u64 d.2.2.1).wf = true ∧ (Lit.int .u64 d.2.2.2.1).wf = true := by
  obtain ⟨_, _, rfl, ⟨rfl, w0⟩, _, _, rfl, ⟨rfl, w1⟩, _, _, rfl, ⟨rfl, w2⟩, _, _, rfl, ⟨rfl, w3⟩, _, _, rfl, ⟨l, rfl, hl⟩, rfl⟩ := h
  exact ⟨l, rfl, hl, w0, w1, w2, w3⟩
theorem la_inv {a : La} {s : St} {cs : List Value} (h : laN.rel a s cs) : ∃ l, cs = [.int .i64 a.1, .int .u64 a.2.1, .int .u64 a.2.2.1, l] ∧ ListN rsN 48 a.2.2.2 s l ∧ (Lit.int .i64 a.1).wf = true ∧ (Lit.int .u64 a.2.1).wf = true ∧ (Lit.int .u64 a.2.2.1).wf = true := by
  obtain ⟨_, _, rfl, ⟨rfl, w0⟩, _, _, rfl, ⟨rfl, w1⟩, _, _, rfl, ⟨rfl, w2⟩, _, _, rfl, ⟨l, rfl, hl⟩, rfl⟩ := h
  exact ⟨l, rfl, hl, w0, w1, w2⟩
theorem rs_inv {r : Rs} {s : St} {cs : List Value} (h : rsN.rel r s cs) : ∃ l, cs = [.bool r.1, sv r.2.1, l] ∧ ListN (.ofC prC fun _ => True) 32 r.2.2 s l ∧ r.2.1.length ≤ reachBytes := by
  obtain ⟨_, _, rfl, ⟨rfl, _⟩, _, _, rfl, ⟨rfl, w1⟩, _, _, rfl, ⟨l, rfl, hl⟩, rfl⟩ := h
  exact ⟨l, rfl, hl, w1⟩

/-! ### Results -/
def badPr (p : Rg) : Bool := (eK p.1 != 0) || decide ((p.2.length : Int) > 16)
def badRs (r : Rs) : Bool := (decide ((r.2.1.length : Int) > 16) || decide ((r.2.2.length : Int) > 4)) || r.2.2.any badPr
def resOk (l : List Rs) : Bool := decide ((l.length : Int) ≤ 4) && !(l.any badRs)
def cliOk (n : Int) : Bool := decide (n ≥ 1) && decide (n ≤ 4)
theorem len_sv {k : BL} {s : St} : alenV .string (sv k) s = some (.int .i64 ((k.length : Nat) : Int)) := rfl
theorem badPr_asks {s0 : St} {l : List Rg} : Asks (run Tryz.prog (libL libT) hints) (.ofC prC fun _ => True) true s0 l (.func (.func 116) #[] #[]) badPr := by
  intro p _ t u cs _ hr hs
  obtain ⟨rfl, _⟩ := hr
  have hs : u = rv p := hs
  subst hs
  refine ⟨t, ?_, .refl _ _⟩
  rw [record_results_1_call]
  refine record_results_1_of rfl ?_
  have hb : lbox (rv p) = some (rv p) := rfl
  have l0 : lload false 1 lptr (rv p) = some (sv p.1) := rfl
  have l1 : lload false 1 (.pointer (some ⟨0, 1, none⟩)) (rv p) = some (sv p.2) := rfl
  unfold record_results_1 badPr
  simp only [hb, l0, l1, span_CheckKey_call, k_key, len_sv, n_bind, n_map, getL_0, getL_1, getL_2, getL_3, getL_4, getL_5, getL_6, getL_7, getL_8, getL_9, getL_10, getL_11, getL_12, condV_t, condV_f, guardV_tt, guardV_ff, guardV_tf, guardV_ft, guardV_u, apick_t, apick_f, exV_exit, exV_ret, lookE_same, joinK_eq, seqA_n, seqA_e, seqA_r, e_add, e_sub, e_mul, e_eql, e_neq, e_lss, e_leq, e_gtr, e_geq, e_conv, e_not, e_neg, and_guard, or_guard]
  exact ret1 rfl
theorem contains_pr {s : St} {v fv : Value} {l : List Rg} {p : Rg → Bool} (h : ListN (.ofC prC fun _ => True) 32 l s v) (hp : Asks (run Tryz.prog (libL libT) hints) (.ofC prC fun _ => True) true s l fv p) : ∃ t, (run Tryz.prog (libL libT) hints) 119 [v, fv] s = some (.bool (l.any p), t) ∧ Ext s.heap.length s t := by
  have hl : l.length < 140737488355328 := by
    have h1 : l.length * 32 ≤ 140737488351232 := h.1
    omega
  obtain ⟨k, t, h1, h2, h3⟩ := contains_gen (t1 := 150) (n := 2) rfl (.inl rfl) h hl hp
  refine ⟨t, slices_ContainsFunc_api_Pair_api_Pair_of rfl ?_, h3⟩
  have h4 := slices_IndexFunc_api_Pair_api_Pair_of (lib := libL libT) rfl h1
  unfold slices_ContainsFunc_api_Pair_api_Pair
  simp only [slices_IndexFunc_api_Pair_api_Pair_call, h4, h2, n_bind, n_map, getL_0, getL_1, getL_2, getL_3, getL_4, getL_5, getL_6, getL_7, getL_8, getL_9, getL_10, getL_11, getL_12, condV_t, condV_f, guardV_tt, guardV_ff, guardV_tf, guardV_ft, guardV_u, apick_t, apick_f, exV_exit, exV_ret, lookE_same, joinK_eq, seqA_n, seqA_e, seqA_r, e_add, e_sub, e_mul, e_eql, e_neq, e_lss, e_leq, e_gtr, e_geq, e_conv, e_not, e_neg, and_guard, or_guard]
  exact ret1 rfl
theorem contains_rs {s : St} {v fv : Value} {l : List Rs} {p : Rs → Bool} (h : ListN rsN 48 l s v) (hp : Asks (run Tryz.prog (libL libT) hints) rsN true s l fv p) : ∃ t, (run Tryz.prog (libL libT) hints) 117 [v, fv] s = some (.bool (l.any p), t) ∧ Ext s.heap.length s t := by
  have hl : l.length < 140737488355328 := by
    have h1 : l.length * 48 ≤ 140737488351232 := h.1
    omega
  obtain ⟨k, t, h1, h2, h3⟩ := contains_gen (t1 := 146) (n := 3) rfl (.inl rfl) h hl hp
  refine ⟨t, slices_ContainsFunc_api_Result_api_Result_of rfl ?_, h3⟩
  have h4 := slices_IndexFunc_api_Result_api_Result_of (lib := libL libT) rfl h1
  unfold slices_ContainsFunc_api_Result_api_Result
  simp only [slices_IndexFunc_api_Result_api_Result_call, h4, h2, n_bind, n_map, getL_0, getL_1, getL_2, getL_3, getL_4, getL_5, getL_6, getL_7, getL_8, getL_9, getL_10, getL_11, getL_12, condV_t, condV_f, guardV_tt, guardV_ff, guardV_tf, guardV_ft, guardV_u, apick_t, apick_f, exV_exit, exV_ret, lookE_same, joinK_eq, seqA_n, seqA_e, seqA_r, e_add, e_sub, e_mul, e_eql, e_neq, e_lss, e_leq, e_gtr, e_geq, e_conv, e_not, e_neg, and_guard, or_guard]
  exact ret1 rfl
theorem ret_b (b : Bool) (s : St) : retV [.bool b] s = some (.bool b, s) := ret1 rfl
theorem badRs_asks {s0 : St} {A : Nat} (hA : s0.heap[A]? = some (.row 0 [.func (.func 116) #[] #[]] .act)) {l : List Rs} : Asks (run Tryz.prog (libL libT) hints) rsN true s0 l (.func (.func 118) #[] #[.pointer (some ⟨A, 0, none⟩)]) badRs := by
  intro r _ t u cs hx hr hs
  have hs : u = .agg cs.toArray := hs
  subst hs
  obtain ⟨o, rfl, ho, _⟩ := rs_inv hr
  have hb := lbox_cs (cs := [.bool r.1, sv r.2.1, o]) (by simp only [List.all_cons, listN_leafR ho, List.all_nil]; rfl)
  have l1 : lload false 1 (.pointer (some ⟨0, 1, none⟩)) (.agg [.bool r.1, sv r.2.1, o].toArray) = some (sv r.2.1) := rfl
  have l2 : lload false 1 (.pointer (some ⟨0, 2, none⟩)) (.agg [.bool r.1, sv r.2.1, o].toArray) = some o := rfl
  have fA : aload false 1 (.pointer (some ⟨A, 0, none⟩)) t = some (.func (.func 116) #[] #[]) := ld_cell (ext_get hA hx) (by simp) rfl
  obtain ⟨t2, g1, g2⟩ := contains_pr ho (badPr_asks (s0 := t) (l := r.2.2))
  have hcall : callV Tryz.prog (run Tryz.prog (libL libT) hints) (.func (.func 118) #[] #[.pointer (some ⟨A, 0, none⟩)]) [.agg [.bool r.1, sv r.2.1, o].toArray] t = (run Tryz.prog (libL libT) hints) 118 [.agg [.bool r.1, sv r.2.1, o].toArray, .pointer (some ⟨A, 0, none⟩)] t := call_cap (fs := []) (cs := [.pointer (some ⟨A, 0, none⟩)]) record_results_2_ok
  rw [hcall]
  have len := listN_lenR ho
  unfold badRs
  rcases Bool.eq_false_or_eq_true (decide ((r.2.1.length : Int) > 16) || decide ((r.2.2.length : Int) > 4)) with c | c
  · refine ⟨t, record_results_2_of rfl ?_, .refl _ _⟩
    unfold record_results_2
    simp only [hb, l1, l2, len_sv, len, n_bind, n_map, getL_0, getL_1, getL_2, getL_3, getL_4, getL_5, getL_6, getL_7, getL_8, getL_9, getL_10, getL_11, getL_12, condV_t, condV_f, guardV_tt, guardV_ff, guardV_tf, guardV_ft, guardV_u, apick_t, apick_f, exV_exit, exV_ret, lookE_same, joinK_eq, seqA_n, seqA_e, seqA_r, e_add, e_sub, e_mul, e_eql, e_neq, e_lss, e_leq, e_gtr, e_geq, e_conv, e_not, e_neg, and_guard, or_guard, c, ret_b, Bool.true_or]
  · refine ⟨t2, record_results_2_of rfl ?_, g2⟩
    unfold record_results_2
    simp only [hb, l1, l2, len_sv, len, n_bind, n_map, getL_0, getL_1, getL_2, getL_3, getL_4, getL_5, getL_6, getL_7, getL_8, getL_9, getL_10, getL_11, getL_12, condV_t, condV_f, guardV_tt, guardV_ff, guardV_tf, guardV_ft, guardV_u, apick_t, apick_f, exV_exit, exV_ret, lookE_same, joinK_eq, seqA_n, seqA_e, seqA_r, e_add, e_sub, e_mul, e_eql, e_neq, e_lss, e_leq, e_gtr, e_geq, e_conv, e_not, e_neg, and_guard, or_guard, c, fA, slices_ContainsFunc_api_Pair_api_Pair_call, g1, ret_b, Bool.false_or]
theorem results_run {s : St} {v : Value} {l : List Rs} (h : ListN rsN 48 l s v) : ∃ t, (run Tryz.prog (libL libT) hints) 62 [v] s = some (.bool (resOk l), t) ∧ Ext s.heap.length s t := by
  have hnw : anew [.nilFunc] s = some (.pointer (some ⟨s.heap.length, 0, none⟩), s.push (.row 0 [.nilFunc] .act)) := rfl
  have hst : astore 1 (.pointer (some ⟨s.heap.length, 0, none⟩)) (.func (.func 116) #[] #[]) (s.push (.row 0 [.nilFunc] .act)) = some (s.push (.row 0 [.func (.func 116) #[] #[]] .act)) := by
    have h1 := st_cell (s := s.push (.row 0 [.nilFunc] .act)) (B := s.heap.length) (v := .func (.func 116) #[] #[]) push_get (i := 0) (by simp) rfl rfl
    rw [h1]
    simp [St.push, St.putB]
  have hx : Ext s.heap.length s (s.push (.row 0 [.func (.func 116) #[] #[]] .act)) := .push _ (Nat.le_refl _) _
  have hA : (s.push (.row 0 [.func (.func 116) #[] #[]] .act)).heap[s.heap.length]? = some (.row 0 [.func (.func 116) #[] #[]] .act) := push_get
  generalize s.push (.row 0 [.func (.func 116) #[] #[]] .act) = s1 at *
  obtain ⟨t, g1, g2⟩ := contains_rs (h.ext hx) (badRs_asks hA)
  have hmk : amkFunc 118 [] [.pointer (some ⟨s.heap.length, 0, none⟩)] = some (.func (.func 118) #[] #[.pointer (some ⟨s.heap.length, 0, none⟩)]) := rfl
  have len := listN_lenR h
  unfold resOk
  rcases Bool.eq_false_or_eq_true (decide ((l.length : Int) ≤ 4)) with c | c
  · refine ⟨t, record_results_of rfl ?_, hx.trans (g2.less hx.1)⟩
    unfold record_results
    simp only [hnw, hst, len, n_bind, n_map, getL_0, getL_1, getL_2, getL_3, getL_4, getL_5, getL_6, getL_7, getL_8, getL_9, getL_10, getL_11, getL_12, condV_t, condV_f, guardV_tt, guardV_ff, guardV_tf, guardV_ft, guardV_u, apick_t, apick_f, exV_exit, exV_ret, lookE_same, joinK_eq, seqA_n, seqA_e, seqA_r, e_add, e_sub, e_mul, e_eql, e_neq, e_lss, e_leq, e_gtr, e_geq, e_conv, e_not, e_neg, and_guard, or_guard, c, hmk, slices_ContainsFunc_api_Result_api_Result_call, g1, ret_b, Bool.true_and]
  · refine ⟨s1, record_results_of rfl ?_, hx⟩
    unfold record_results
    simp only [hnw, hst, len, n_bind, n_map, getL_0, getL_1, getL_2, getL_3, getL_4, getL_5, getL_6, getL_7, getL_8, getL_9, getL_10, getL_11, getL_12, condV_t, condV_f, guardV_tt, guardV_ff, guardV_tf, guardV_ft, guardV_u, apick_t, apick_f, exV_exit, exV_ret, lookE_same, joinK_eq, seqA_n, seqA_e, seqA_r, e_add, e_sub, e_mul, e_eql, e_neq, e_lss, e_leq, e_gtr, e_geq, e_conv, e_not, e_neg, and_guard, or_guard, c, ret_b, Bool.false_and]
theorem client_run (n : Int) (s : St) : (run Tryz.prog (libL libT) hints) 56 [.int .i64 n] s = some (.bool (cliOk n), s) := by
  refine record_client_of rfl ?_
  unfold record_client cliOk
  simp only [n_bind, n_map, getL_0, getL_1, getL_2, getL_3, getL_4, getL_5, getL_6, getL_7, getL_8, getL_9, getL_10, getL_11, getL_12, condV_t, condV_f, guardV_tt, guardV_ff, guardV_tf, guardV_ft, guardV_u, apick_t, apick_f, exV_exit, exV_ret, lookE_same, joinK_eq, seqA_n, seqA_e, seqA_r, e_add, e_sub, e_mul, e_eql, e_neq, e_lss, e_leq, e_gtr, e_geq, e_conv, e_not, e_neg, and_guard, or_guard, ret_b]
def badLa (a : La) : Bool := !(cliOk a.1) || !(resOk a.2.2.2)
theorem badLa_asks {s0 : St} {l : List La} : Asks (run Tryz.prog (libL libT) hints) laN true s0 l (.func (.func 61) #[] #[]) badLa := by
  intro a _ t u cs hx hr hs
  have hs : u = .agg cs.toArray := hs
  subst hs
  obtain ⟨o, rfl, ho, _⟩ := la_inv hr
  have hb := lbox_cs (cs := [.int .i64 a.1, .int .u64 a.2.1, .int .u64 a.2.2.1, o]) (by simp only [List.all_cons, listN_leafR ho, List.all_nil]; rfl)
  have l0 : lload false 1 lptr (.agg [.int .i64 a.1, .int .u64 a.2.1, .int .u64 a.2.2.1, o].toArray) = some (.int .i64 a.1) := rfl
  have l3 : lload false 1 (.pointer (some ⟨0, 3, none⟩)) (.agg [.int .i64 a.1, .int .u64 a.2.1, .int .u64 a.2.2.1, o].toArray) = some o := rfl
  obtain ⟨t2, g1, g2⟩ := results_run ho
  rw [record_CheckCoord_4_call]
  unfold badLa
  rcases Bool.eq_false_or_eq_true (cliOk a.1) with c | c
  · refine ⟨t2, record_CheckCoord_4_of rfl ?_, g2⟩
    unfold record_CheckCoord_4
    simp only [hb, l0, l3, record_client_call, client_run, c, record_results_call, g1, n_bind, n_map, getL_0, getL_1, getL_2, getL_3, getL_4, getL_5, getL_6, getL_7, getL_8, getL_9, getL_10, getL_11, getL_12, condV_t, condV_f, guardV_tt, guardV_ff, guardV_tf, guardV_ft, guardV_u, apick_t, apick_f, exV_exit, exV_ret, lookE_same, joinK_eq, seqA_n, seqA_e, seqA_r, e_add, e_sub, e_mul, e_eql, e_neq, e_lss, e_leq, e_gtr, e_geq, e_conv, e_not, e_neg, and_guard, or_guard, ret_b, Bool.not_true, Bool.false_or]
  · refine ⟨t, record_CheckCoord_4_of rfl ?_, .refl _ _⟩
    unfold record_CheckCoord_4
    simp only [hb, l0, l3, record_client_call, client_run, c, n_bind, n_map, getL_0, getL_1, getL_2, getL_3, getL_4, getL_5, getL_6, getL_7, getL_8, getL_9, getL_10, getL_11, getL_12, condV_t, condV_f, guardV_tt, guardV_ff, guardV_tf, guardV_ft, guardV_u, apick_t, apick_f, exV_exit, exV_ret, lookE_same, joinK_eq, seqA_n, seqA_e, seqA_r, e_add, e_sub, e_mul, e_eql, e_neq, e_lss, e_leq, e_gtr, e_geq, e_conv, e_not, e_neg, and_guard, or_guard, ret_b, Bool.not_false, Bool.true_or]

end Go.Proofs.YtckpcelchhmjcaaGreat.Ab

/- Which state of the coordinator may be: the whole of it. -/
namespace Go.Proofs.YtckpcelchhmjcaaGreat.Ab
open Go

theorem contains_ow {s : St} {v fv : Value} {l : List Ow} {p : Ow → Bool} (h : ListN (.ofC owC fun _ => True) 24 l s v) (hp : Asks (run Tryz.prog (libL libT) hints) (.ofC owC fun _ => True) true s l fv p) : ∃ t, (run Tryz.prog (libL libT) hints) 52 [v, fv] s = some (.bool (l.any p), t) ∧ Ext s.heap.length s t := by
  have hl : l.length < 140737488355328 := by
    have h1 : l.length * 24 ≤ 140737488351232 := h.1
    omega
  obtain ⟨k, t, h1, h2, h3⟩ := contains_gen (t1 := 54) (n := 2) rfl (.inl rfl) h hl hp
  refine ⟨t, slices_ContainsFunc_api_Owner_api_Owner_of rfl ?_, h3⟩
  have h4 := slices_IndexFunc_api_Owner_api_Owner_of (lib := libL libT) rfl h1
  unfold slices_ContainsFunc_api_Owner_api_Owner
  simp only [slices_IndexFunc_api_Owner_api_Owner_call, h4, h2, n_bind, n_map, getL_0, getL_1, getL_2, getL_3, getL_4, getL_5, getL_6, getL_7, getL_8, getL_9, getL_10, getL_11, getL_12, condV_t, condV_f, guardV_tt, guardV_ff, guardV_tf, guardV_ft, guardV_u, apick_t, apick_f, exV_exit, exV_ret, lookE_same, joinK_eq, seqA_n, seqA_e, seqA_r, e_add, e_sub, e_mul, e_eql, e_neq, e_lss, e_leq, e_gtr, e_geq, e_conv, e_not, e_neg, and_guard, or_guard]
  exact ret1 rfl
theorem contains_i {s : St} {v fv : Value} {l : List Int} {p : Int → Bool} (h : ListN (wfN .i64) 8 l s v) (hp : Asks (run Tryz.prog (libL libT) hints) (wfN .i64) false s l fv p) : ∃ t, (run Tryz.prog (libL libT) hints) 57 [v, fv] s = some (.bool (l.any p), t) ∧ Ext s.heap.length s t := by
  have hl : l.length < 140737488355328 := by
    have h1 : l.length * 8 ≤ 140737488351232 := h.1
    omega
  obtain ⟨k, t, h1, h2, h3⟩ := contains_gen (t1 := 3) (n := 1) rfl (.inr rfl) h hl hp
  refine ⟨t, slices_ContainsFunc_int_int_of rfl ?_, h3⟩
  have h4 := slices_IndexFunc_int_int_of (lib := libL libT) rfl h1
  unfold slices_ContainsFunc_int_int
  simp only [slices_IndexFunc_int_int_call, h4, h2, n_bind, n_map, getL_0, getL_1, getL_2, getL_3, getL_4, getL_5, getL_6, getL_7, getL_8, getL_9, getL_10, getL_11, getL_12, condV_t, condV_f, guardV_tt, guardV_ff, guardV_tf, guardV_ft, guardV_u, apick_t, apick_f, exV_exit, exV_ret, lookE_same, joinK_eq, seqA_n, seqA_e, seqA_r, e_add, e_sub, e_mul, e_eql, e_neq, e_lss, e_leq, e_gtr, e_geq, e_conv, e_not, e_neg, and_guard, or_guard]
  exact ret1 rfl
theorem contains_de {s : St} {v fv : Value} {l : List De} {p : De → Bool} (h : ListN deN 56 l s v) (hp : Asks (run Tryz.prog (libL libT) hints) deN true s l fv p) : ∃ t, (run Tryz.prog (libL libT) hints) 54 [v, fv] s = some (.bool (l.any p), t) ∧ Ext s.heap.length s t := by
  have hl : l.length < 140737488355328 := by
    have h1 : l.length * 56 ≤ 140737488351232 := h.1
    omega
  obtain ⟨k, t, h1, h2, h3⟩ := contains_gen (t1 := 77) (n := 5) rfl (.inl rfl) h hl hp
  refine ⟨t, slices_ContainsFunc_api_Decision_api_Decision_of rfl ?_, h3⟩
  have h4 := slices_IndexFunc_api_Decision_api_Decision_of (lib := libL libT) rfl h1
  unfold slices_ContainsFunc_api_Decision_api_Decision
  simp only [slices_IndexFunc_api_Decision_api_Decision_call, h4, h2, n_bind, n_map, getL_0, getL_1, getL_2, getL_3, getL_4, getL_5, getL_6, getL_7, getL_8, getL_9, getL_10, getL_11, getL_12, condV_t, condV_f, guardV_tt, guardV_ff, guardV_tf, guardV_ft, guardV_u, apick_t, apick_f, exV_exit, exV_ret, lookE_same, joinK_eq, seqA_n, seqA_e, seqA_r, e_add, e_sub, e_mul, e_eql, e_neq, e_lss, e_leq, e_gtr, e_geq, e_conv, e_not, e_neg, and_guard, or_guard]
  exact ret1 rfl
theorem contains_la {s : St} {v fv : Value} {l : List La} {p : La → Bool} (h : ListN laN 48 l s v) (hp : Asks (run Tryz.prog (libL libT) hints) laN true s l fv p) : ∃ t, (run Tryz.prog (libL libT) hints) 60 [v, fv] s = some (.bool (l.any p), t) ∧ Ext s.heap.length s t := by
  have hl : l.length < 140737488355328 := by
    have h1 : l.length * 48 ≤ 140737488351232 := h.1
    omega
  obtain ⟨k, t, h1, h2, h3⟩ := contains_gen (t1 := 82) (n := 4) rfl (.inl rfl) h hl hp
  refine ⟨t, slices_ContainsFunc_api_Last_api_Last_of rfl ?_, h3⟩
  have h4 := slices_IndexFunc_api_Last_api_Last_of (lib := libL libT) rfl h1
  unfold slices_ContainsFunc_api_Last_api_Last
  simp only [slices_IndexFunc_api_Last_api_Last_call, h4, h2, n_bind, n_map, getL_0, getL_1, getL_2, getL_3, getL_4, getL_5, getL_6, getL_7, getL_8, getL_9, getL_10, getL_11, getL_12, condV_t, condV_f, guardV_tt, guardV_ff, guardV_tf, guardV_ft, guardV_u, apick_t, apick_f, exV_exit, exV_ret, lookE_same, joinK_eq, seqA_n, seqA_e, seqA_r, e_add, e_sub, e_mul, e_eql, e_neq, e_lss, e_leq, e_gtr, e_geq, e_conv, e_not, e_neg, and_guard, or_guard]
  exact ret1 rfl

theorem rises_de {s : St} {v : Value} {l : List De} (h : ListN deN 56 l s v) : (run Tryz.prog (libL libT) hints) 63 [v, .func (.func 64) #[] #[]] s = some (.bool (risesK (fun d : De => d.1) none l), s) := by
  have hl : l.length < 140737488355328 := by
    have h1 : l.length * 56 ≤ 140737488351232 := h.1
    omega
  refine record_rising_api_Decision_of rfl (rises_gen (t1 := 77) (n := 5) (ag := true) rfl (.inl rfl) h hl ?_)
  intro a _ u cs hr hs t
  have hs : u = .agg cs.toArray := hs
  subst hs
  obtain ⟨o, rfl, ho, _⟩ := de_inv hr
  rw [record_CheckCoord_5_call]
  refine record_CheckCoord_5_of rfl ?_
  have hb := lbox_cs (cs := [.int .u64 a.1, .int .i64 a.2.1, .int .u64 a.2.2.1, .int .u64 a.2.2.2.1, o]) (by simp only [List.all_cons, listN_leafR ho, List.all_nil]; rfl)
  have l0 : lload false 1 lptr (.agg [.int .u64 a.1, .int .i64 a.2.1, .int .u64 a.2.2.1, .int .u64 a.2.2.2.1, o].toArray) = some (.int .u64 a.1) := rfl
  unfold record_CheckCoord_5
  simp only [hb, l0, n_bind, n_map, getL_0, getL_1, getL_2, getL_3, getL_4, getL_5, getL_6, getL_7, getL_8, getL_9, getL_10, getL_11, getL_12, condV_t, condV_f, guardV_tt, guardV_ff, guardV_tf, guardV_ft, guardV_u, apick_t, apick_f, exV_exit, exV_ret, lookE_same, joinK_eq, seqA_n, seqA_e, seqA_r, e_add, e_sub, e_mul, e_eql, e_neq, e_lss, e_leq, e_gtr, e_geq, e_conv, e_not, e_neg, and_guard, or_guard]
  exact ret1 rfl
theorem rises_la {s : St} {v : Value} {l : List La} (h : ListN laN 48 l s v) : (run Tryz.prog (libL libT) hints) 65 [v, .func (.func 66) #[] #[]] s = some (.bool (risesK (fun a : La => IntKind.wrap .u64 a.1) none l), s) := by
  have hl : l.length < 140737488355328 := by
    have h1 : l.length * 48 ≤ 140737488351232 := h.1
    omega
  refine record_rising_api_Last_of rfl (rises_gen (t1 := 82) (n := 4) (ag := true) rfl (.inl rfl) h hl ?_)
  intro a _ u cs hr hs t
  have hs : u = .agg cs.toArray := hs
  subst hs
  obtain ⟨o, rfl, ho, _⟩ := la_inv hr
  rw [record_CheckCoord_6_call]
  refine record_CheckCoord_6_of rfl ?_
  have hb := lbox_cs (cs := [.int .i64 a.1, .int .u64 a.2.1, .int .u64 a.2.2.1, o]) (by simp only [List.all_cons, listN_leafR ho, List.all_nil]; rfl)
  have l0 : lload false 1 lptr (.agg [.int .i64 a.1, .int .u64 a.2.1, .int .u64 a.2.2.1, o].toArray) = some (.int .i64 a.1) := rfl
  unfold record_CheckCoord_6
  simp only [hb, l0, n_bind, n_map, getL_0, getL_1, getL_2, getL_3, getL_4, getL_5, getL_6, getL_7, getL_8, getL_9, getL_10, getL_11, getL_12, condV_t, condV_f, guardV_tt, guardV_ff, guardV_tf, guardV_ft, guardV_u, apick_t, apick_f, exV_exit, exV_ret, lookE_same, joinK_eq, seqA_n, seqA_e, seqA_r, e_add, e_sub, e_mul, e_eql, e_neq, e_lss, e_leq, e_gtr, e_geq, e_conv, e_not, e_neg, and_guard, or_guard]
  exact ret1 rfl
theorem rises_i {s : St} {v : Value} {l : List Int} (h : ListN (wfN .i64) 8 l s v) : (run Tryz.prog (libL libT) hints) 58 [v, .func (.func 59) #[] #[]] s = some (.bool (risesK (fun n : Int => IntKind.wrap .u64 n) none l), s) := by
  have hl : l.length < 140737488355328 := by
    have h1 : l.length * 8 ≤ 140737488351232 := h.1
    omega
  refine record_rising_int_of rfl (rises_gen (t1 := 3) (n := 1) (ag := false) rfl (.inr rfl) h hl ?_)
  intro a _ u cs hr hs t
  have hs : cs = [u] := hs
  subst hs
  obtain ⟨e, _⟩ := hr
  obtain rfl : u = .int .i64 a := (List.cons.inj e).1
  rw [record_CheckCoord_3_1_call]
  refine record_CheckCoord_3_1_of rfl ?_
  unfold record_CheckCoord_3_1
  simp only [n_bind, n_map, getL_0, getL_1, getL_2, getL_3, getL_4, getL_5, getL_6, getL_7, getL_8, getL_9, getL_10, getL_11, getL_12, condV_t, condV_f, guardV_tt, guardV_ff, guardV_tf, guardV_ft, guardV_u, apick_t, apick_f, exV_exit, exV_ret, lookE_same, joinK_eq, seqA_n, seqA_e, seqA_r, e_add, e_sub, e_mul, e_eql, e_neq, e_lss, e_leq, e_gtr, e_geq, e_conv, e_not, e_neg, and_guard, or_guard]
  exact ret1 rfl

/-! ### The closures of CheckCoord -/
def aboveB (sh n : Int) : Bool := decide (n < 1) || decide (n > sh)
def limC (boot : Int) : Int := (((IntKind.wrap .u64 (boot + 1)).toNat * 2 ^ 32 % 2 ^ 64 : Nat) : Int)
def badDe (sh boot : Int) (d : De) : Bool := (((decide (d.1 ≥ limC boot) || !(cliOk d.2.1)) || ((d.2.2.2.2.length : Int) == 0)) || d.2.2.2.2.any (aboveB sh)) || !(risesK (fun n : Int => IntKind.wrap .u64 n) none d.2.2.2.2)
def aboveV (N : Nat) : Value := .func (.func 51) #[] #[.pointer (some ⟨N, 0, none⟩)]
/-- the state's copy, and the box of the closure 'above' -/
structure CInM (c : Cd) (s : St) (N A : Nat) (ow de la : Value) : Prop where
  row : s.heap[N]? = some (.row 0 (cdCells c ow de la) .act)
  box : s.heap[A]? = some (.row 0 [aboveV N] .act)
theorem CInM.ext {c : Cd} {s t : St} {N A : Nat} {ow de la : Value} (h : CInM c s N A ow de la) (hx : Ext s.heap.length s t) : CInM c t N A ow de la := ⟨ext_get h.row hx, ext_get h.box hx⟩
section
variable {c : Cd} {s0 : St} {N A : Nat} {ow de la : Value} (hm : CInM c s0 N A ow de la)
include hm
theorem above_call {t : St} (hx : Ext s0.heap.length s0 t) (n : Int) : callV Tryz.prog (run Tryz.prog (libL libT) hints) (aboveV N) [.int .i64 n] t = some (.bool (aboveB c.shards n), t) := by
  have f0 : aload false 1 (.pointer (some ⟨N, 0, none⟩)) t = some (.int .i64 c.shards) := ld_cell (ext_get hm.row hx) (by simp) rfl
  have hcall : callV Tryz.prog (run Tryz.prog (libL libT) hints) (aboveV N) [.int .i64 n] t = (run Tryz.prog (libL libT) hints) 51 [.int .i64 n, .pointer (some ⟨N, 0, none⟩)] t := call_cap (fs := []) (cs := [.pointer (some ⟨N, 0, none⟩)]) record_CheckCoord_1_ok
  rw [hcall]
  refine record_CheckCoord_1_of rfl ?_
  unfold record_CheckCoord_1 aboveB
  simp only [ad_atR, Nat.zero_add, f0, n_bind, n_map, getL_0, getL_1, getL_2, getL_3, getL_4, getL_5, getL_6, getL_7, getL_8, getL_9, getL_10, getL_11, getL_12, condV_t, condV_f, guardV_tt, guardV_ff, guardV_tf, guardV_ft, guardV_u, apick_t, apick_f, exV_exit, exV_ret, lookE_same, joinK_eq, seqA_n, seqA_e, seqA_r, e_add, e_sub, e_mul, e_eql, e_neq, e_lss, e_leq, e_gtr, e_geq, e_conv, e_not, e_neg, and_guard, or_guard, ret_b]
theorem above_asks {l : List Int} : Asks (run Tryz.prog (libL libT) hints) (wfN .i64) false s0 l (aboveV N) (aboveB c.shards) := by
  intro a _ t u cs hx hr hs
  have hs : cs = [u] := hs
  subst hs
  obtain ⟨e, _⟩ := hr
  obtain rfl : u = .int .i64 a := (List.cons.inj e).1
  exact ⟨t, above_call hm hx a, .refl _ _⟩
theorem owned_asks {l : List Ow} : Asks (run Tryz.prog (libL libT) hints) (.ofC owC fun _ => True) true s0 l (.func (.func 53) #[] #[.pointer (some ⟨A, 0, none⟩)]) fun o => aboveB c.shards o.2 := by
  intro o _ t u cs hx hr hs
  obtain ⟨rfl, _⟩ := hr
  have hs : u = owV o := hs
  subst hs
  have fA : aload false 1 (.pointer (some ⟨A, 0, none⟩)) t = some (aboveV N) := ld_cell (ext_get hm.box hx) (by simp) rfl
  have hcall : callV Tryz.prog (run Tryz.prog (libL libT) hints) (.func (.func 53) #[] #[.pointer (some ⟨A, 0, none⟩)]) [owV o] t = (run Tryz.prog (libL libT) hints) 53 [owV o, .pointer (some ⟨A, 0, none⟩)] t := call_cap (fs := []) (cs := [.pointer (some ⟨A, 0, none⟩)]) record_CheckCoord_2_ok
  refine ⟨t, ?_, .refl _ _⟩
  rw [hcall]
  refine record_CheckCoord_2_of rfl ?_
  unfold record_CheckCoord_2
  simp only [w_box, fA, w_1, above_call hm hx, n_bind, n_map, getL_0, getL_1, getL_2, getL_3, getL_4, getL_5, getL_6, getL_7, getL_8, getL_9, getL_10, getL_11, getL_12, condV_t, condV_f, guardV_tt, guardV_ff, guardV_tf, guardV_ft, guardV_u, apick_t, apick_f, exV_exit, exV_ret, lookE_same, joinK_eq, seqA_n, seqA_e, seqA_r, e_add, e_sub, e_mul, e_eql, e_neq, e_lss, e_leq, e_gtr, e_geq, e_conv, e_not, e_neg, and_guard, or_guard, ret_b]
theorem badDe_asks (hw : (Lit.int .u64 c.boot).wf = true) {l : List De} : Asks (run Tryz.prog (libL libT) hints) deN true s0 l (.func (.func 55) #[] #[.pointer (some ⟨N, 0, none⟩), .pointer (some ⟨A, 0, none⟩)]) (badDe c.shards c.boot) := by
  intro d _ t u cs hx hr hs
  have hs : u = .agg cs.toArray := hs
  subst hs
  obtain ⟨o, rfl, ho, _⟩ := de_inv hr
  generalize hu : (Value.agg [.int .u64 d.1, .int .i64 d.2.1, .int .u64 d.2.2.1, .int .u64 d.2.2.2.1, o].toArray) = u
  have hb : lbox u = some u := by
    rw [← hu]
    exact lbox_cs (cs := [.int .u64 d.1, .int .i64 d.2.1, .int .u64 d.2.2.1, .int .u64 d.2.2.2.1, o]) (by simp only [List.all_cons, listN_leafR ho, List.all_nil]; rfl)
  have l0 : lload false 1 lptr u = some (.int .u64 d.1) := by rw [← hu]; rfl
  have l1 : lload false 1 (.pointer (some ⟨0, 1, none⟩)) u = some (.int .i64 d.2.1) := by rw [← hu]; rfl
  have l4 : lload false 1 (.pointer (some ⟨0, 4, none⟩)) u = some o := by rw [← hu]; rfl
  have f1 : aload false 1 (.pointer (some ⟨N, 1, none⟩)) t = some (.int .u64 c.boot) := ld_cell (ext_get hm.row hx) (by simp) rfl
  have fA : aload false 1 (.pointer (some ⟨A, 0, none⟩)) t = some (aboveV N) := ld_cell (ext_get hm.box hx) (by simp) rfl
  have hshl : ∀ ty ox oy, abin Tryz.prog .shl ty ox oy (.int .u64 (IntKind.wrap .u64 (c.boot + 1))) (.int .u64 32) = some (.int .u64 (limC c.boot)) := fun ty ox oy => by
    have h0 : 0 ≤ IntKind.wrap .u64 (c.boot + 1) := by
      simp only [IntKind.wrap, IntKind.signed, IntKind.bits]
      simp
      omega
    have h1 := u_shl (P := Tryz.prog) (k := .u64) (k2 := .u64) (t := ty) (ox := ox) (oy := oy) (a := (IntKind.wrap .u64 (c.boot + 1)).toNat) (b := 32) rfl
    rw [Int.toNat_of_nonneg h0] at h1
    exact h1
  have len := listN_lenR ho
  obtain ⟨t2, g1, g2⟩ := contains_i ho (above_asks (s0 := t) (hm.ext hx) (l := d.2.2.2.2))
  have hri := rises_i (ho.ext g2)
  have hcall : callV Tryz.prog (run Tryz.prog (libL libT) hints) (.func (.func 55) #[] #[.pointer (some ⟨N, 0, none⟩), .pointer (some ⟨A, 0, none⟩)]) [u] t = (run Tryz.prog (libL libT) hints) 55 [u, .pointer (some ⟨N, 0, none⟩), .pointer (some ⟨A, 0, none⟩)] t := call_cap (fs := []) (cs := [.pointer (some ⟨N, 0, none⟩), .pointer (some ⟨A, 0, none⟩)]) record_CheckCoord_3_ok
  rw [hcall]
  unfold badDe
  rcases Bool.eq_false_or_eq_true ((decide (d.1 ≥ limC c.boot) || !(cliOk d.2.1)) || ((d.2.2.2.2.length : Int) == 0)) with k | k
  · refine ⟨t, record_CheckCoord_3_of rfl ?_, .refl _ _⟩
    unfold record_CheckCoord_3
    simp only [hb, l0, ad_atR, Nat.zero_add, f1, hshl, l1, record_client_call, client_run, l4, len, n_bind, n_map, getL_0, getL_1, getL_2, getL_3, getL_4, getL_5, getL_6, getL_7, getL_8, getL_9, getL_10, getL_11, getL_12, condV_t, condV_f, guardV_tt, guardV_ff, guardV_tf, guardV_ft, guardV_u, apick_t, apick_f, exV_exit, exV_ret, lookE_same, joinK_eq, seqA_n, seqA_e, seqA_r, e_add, e_sub, e_mul, e_eql, e_neq, e_lss, e_leq, e_gtr, e_geq, e_conv, e_not, e_neg, and_guard, or_guard, k, ret_b, Bool.true_or]
  · rcases Bool.eq_false_or_eq_true (d.2.2.2.2.any (aboveB c.shards)) with k2 | k2
    · refine ⟨t2, record_CheckCoord_3_of rfl ?_, g2⟩
      unfold record_CheckCoord_3
      simp only [hb, l0, ad_atR, Nat.zero_add, f1, hshl, l1, record_client_call, client_run, l4, len, n_bind, n_map, getL_0, getL_1, getL_2, getL_3, getL_4, getL_5, getL_6, getL_7, getL_8, getL_9, getL_10, getL_11, getL_12, condV_t, condV_f, guardV_tt, guardV_ff, guardV_tf, guardV_ft, guardV_u, apick_t, apick_f, exV_exit, exV_ret, lookE_same, joinK_eq, seqA_n, seqA_e, seqA_r, e_add, e_sub, e_mul, e_eql, e_neq, e_lss, e_leq, e_gtr, e_geq, e_conv, e_not, e_neg, and_guard, or_guard, k, fA, slices_ContainsFunc_int_int_call, g1, k2, ret_b, Bool.true_or, Bool.or_true]
    · refine ⟨t2, record_CheckCoord_3_of rfl ?_, g2⟩
      unfold record_CheckCoord_3
      simp only [hb, l0, ad_atR, Nat.zero_add, f1, hshl, l1, record_client_call, client_run, l4, len, n_bind, n_map, getL_0, getL_1, getL_2, getL_3, getL_4, getL_5, getL_6, getL_7, getL_8, getL_9, getL_10, getL_11, getL_12, condV_t, condV_f, guardV_tt, guardV_ff, guardV_tf, guardV_ft, guardV_u, apick_t, apick_f, exV_exit, exV_ret, lookE_same, joinK_eq, seqA_n, seqA_e, seqA_r, e_add, e_sub, e_mul, e_eql, e_neq, e_lss, e_leq, e_gtr, e_geq, e_conv, e_not, e_neg, and_guard, or_guard, k, fA, slices_ContainsFunc_int_int_call, g1, k2, record_rising_int_call, hri, ret_b, Bool.false_or, Bool.or_self]
end

/-! ### The whole -/
def bad1C (c : Cd) : Bool := ((((decide (c.shards < 1) || decide (c.shards > 4)) || decide (c.boot ≥ 2147483648)) || (eO c.owners != 0)) || decide ((c.decided.length : Int) > 8)) || decide ((c.last.length : Int) > 4)
def good2C (c : Cd) : Bool := (((!(c.owners.any fun o => aboveB c.shards o.2) && !(c.decided.any (badDe c.shards c.boot))) && !(c.last.any badLa)) && risesK (fun d : De => d.1) none c.decided) && risesK (fun a : La => IntKind.wrap .u64 a.1) none c.last
def eCd (c : Cd) : Int := if bad1C c = true then 1 else if good2C c = true then 0 else 1
theorem CheckCoord_run {d : Cd} {s : St} {v : Value} (h : NArg cdN d s v) : ∃ t, (run Tryz.prog (libL libT) hints) 13 [v] s = some (.int .i64 (eCd d), t) ∧ Ext s.heap.length s t := by
  obtain ⟨cs, rfl, h⟩ := h
  obtain ⟨ow, de, la, rfl, hs⟩ := cd_inv h
  have hnw := anew_cells (cd_leaf hs) s
  have hx1 : Ext s.heap.length s (s.push (.row 0 (cdCells d ow de la) .act)) := .push _ (Nat.le_refl _) _
  have hg : (s.push (.row 0 (cdCells d ow de la) .act)).heap[s.heap.length]? = some (.row 0 (cdCells d ow de la) .act) := push_get
  have hs1 := hs.ext hx1
  have hlen1 : (s.push (.row 0 (cdCells d ow de la) .act)).heap.length = s.heap.length + 1 := push_len
  generalize hS : s.push (.row 0 (cdCells d ow de la) .act) = s1 at *
  generalize hN : s.heap.length = N at *
  have r0 : Ext s1.heap.length s1 s1 := .refl _ _
  have f0 : aload false 1 (.pointer (some ⟨N, 0, none⟩)) s1 = some (.int .i64 d.shards) := ld_cell hg (by simp) rfl
  have f1 : aload false 1 (.pointer (some ⟨N, 1, none⟩)) s1 = some (.int .u64 d.boot) := ld_cell hg (by simp) rfl
  have f4 : aload false 1 (.pointer (some ⟨N, 4, none⟩)) s1 = some ow := ld_cell hg (by simp) rfl
  have f5 : aload false 1 (.pointer (some ⟨N, 5, none⟩)) s1 = some de := ld_cell hg (by simp) rfl
  have f6 : aload false 1 (.pointer (some ⟨N, 6, none⟩)) s1 = some la := ld_cell hg (by simp) rfl
  obtain ⟨p1, _, p2⟩ := hs1.ow.plain
  have hol : d.owners.length < 140737488355328 := by omega
  have kO := k_chkO p1 hol
  have ld := listN_lenR hs1.de
  have ll := listN_lenR hs1.la
  -- the box
  have hnw2 : anew [.nilFunc] s1 = some (.pointer (some ⟨s1.heap.length, 0, none⟩), s1.push (.row 0 [.nilFunc] .act)) := rfl
  have hst : astore 1 (.pointer (some ⟨s1.heap.length, 0, none⟩)) (aboveV N) (s1.push (.row 0 [.nilFunc] .act)) = some (s1.push (.row 0 [aboveV N] .act)) := by
    have h1 := st_cell (s := s1.push (.row 0 [.nilFunc] .act)) (B := s1.heap.length) (v := aboveV N) push_get (i := 0) (by simp) rfl rfl
    rw [h1]
    simp [St.push, St.putB]
  have hx2 : Ext s1.heap.length s1 (s1.push (.row 0 [aboveV N] .act)) := .push _ (Nat.le_refl _) _
  have hA : (s1.push (.row 0 [aboveV N] .act)).heap[s1.heap.length]? = some (.row 0 [aboveV N] .act) := push_get
  have hs2 := hs1.ext hx2
  have hg2 := ext_get hg hx2
  generalize hS2 : s1.push (.row 0 [aboveV N] .act) = s2 at *
  generalize hAA : s1.heap.length = A at *
  have hm : CInM d s2 N A ow de la := ⟨hg2, hA⟩
  obtain ⟨t1, g1, x1⟩ := contains_ow hs2.ow (owned_asks hm)
  have hm1 := hm.ext x1
  have hs3 := hs2.ext x1
  obtain ⟨t2, g2, x2⟩ := contains_de hs3.de (badDe_asks hm1 hs.wboot)
  have hm2 := hm1.ext x2
  have hs4 := hs3.ext x2
  obtain ⟨t3, g3, x3⟩ := contains_la hs4.la (badLa_asks (s0 := t2) (l := d.last))
  have hm3 := hm2.ext x3
  have hs5 := hs4.ext x3
  have j4 : aload false 1 (.pointer (some ⟨N, 4, none⟩)) s2 = some ow := ld_cell hm.row (by simp) rfl
  have j5 : aload false 1 (.pointer (some ⟨N, 5, none⟩)) t1 = some de := ld_cell hm1.row (by simp) rfl
  have j6 : aload false 1 (.pointer (some ⟨N, 6, none⟩)) t2 = some la := ld_cell hm2.row (by simp) rfl
  have m5 : aload false 1 (.pointer (some ⟨N, 5, none⟩)) t3 = some de := ld_cell hm3.row (by simp) rfl
  have m6 : aload false 1 (.pointer (some ⟨N, 6, none⟩)) t3 = some la := ld_cell hm3.row (by simp) rfl
  have rd := rises_de hs5.de
  have rl := rises_la hs5.la
  have hmk1 : amkFunc 51 [] [.pointer (some ⟨N, 0, none⟩)] = some (aboveV N) := rfl
  have hmk2 : amkFunc 53 [] [.pointer (some ⟨A, 0, none⟩)] = some (.func (.func 53) #[] #[.pointer (some ⟨A, 0, none⟩)]) := rfl
  have hmk3 : amkFunc 55 [] [.pointer (some ⟨N, 0, none⟩), .pointer (some ⟨A, 0, none⟩)] = some (.func (.func 55) #[] #[.pointer (some ⟨N, 0, none⟩), .pointer (some ⟨A, 0, none⟩)]) := rfl
  have hr : ∀ n s, retV [.int .i64 n] s = some (.int .i64 n, s) := fun n s => ret1 rfl
  have hX : Ext N s t3 := by
    have e2 : Ext N s1 s2 := hx2.less (by omega)
    have e3 : Ext N s2 t1 := x1.less (by have := hx2.1; omega)
    have e4 : Ext N t1 t2 := x2.less (by have := hx2.1; have := x1.1; omega)
    have e5 : Ext N t2 t3 := x3.less (by have := hx2.1; have := x1.1; have := x2.1; omega)
    exact hx1.trans (e2.trans (e3.trans (e4.trans e5)))
  have hbad : bad1C d = (((((decide (d.shards < 1) || decide (d.shards > 4)) || decide (d.boot ≥ 2147483648)) || (eO d.owners != 0)) || decide ((d.decided.length : Int) > 8)) || decide ((d.last.length : Int) > 4)) := rfl
  unfold eCd
  rcases Bool.eq_false_or_eq_true (bad1C d) with c | c
  · refine ⟨s1, record_CheckCoord_of rfl ?_, hx1⟩
    rw [if_pos c]
    rw [hbad] at c
    unfold record_CheckCoord
    simp only [hnw, ad_atR, Nat.zero_add, Nat.reduceAdd, f0, f1, f4, f5, f6, owner_Check_call, kO, ld, ll, n_bind, n_map, getL_0, getL_1, getL_2, getL_3, getL_4, getL_5, getL_6, getL_7, getL_8, getL_9, getL_10, getL_11, getL_12, condV_t, condV_f, guardV_tt, guardV_ff, guardV_tf, guardV_ft, guardV_u, apick_t, apick_f, exV_exit, exV_ret, lookE_same, joinK_eq, seqA_n, seqA_e, seqA_r, e_add, e_sub, e_mul, e_eql, e_neq, e_lss, e_leq, e_gtr, e_geq, e_conv, e_not, e_neg, and_guard, or_guard, c, hr]
  · have hc : ¬ bad1C d = true := by rw [c]; simp
    rw [if_neg hc]
    rw [hbad] at c
    refine ⟨t3, record_CheckCoord_of rfl ?_, hX⟩
    unfold good2C
    rcases Bool.eq_false_or_eq_true (d.owners.any fun o => aboveB d.shards o.2) with c1 | c1 <;>
    rcases Bool.eq_false_or_eq_true (d.decided.any (badDe d.shards d.boot)) with c2 | c2 <;>
    rcases Bool.eq_false_or_eq_true (d.last.any badLa) with c3 | c3 <;>
    rcases Bool.eq_false_or_eq_true (risesK (fun d : De => d.1) none d.decided) with c4 | c4 <;>
    (unfold record_CheckCoord
     simp only [hnw, ad_atR, Nat.zero_add, Nat.reduceAdd, f0, f1, f4, f5, f6, owner_Check_call, kO, ld, ll, n_bind, n_map, getL_0, getL_1, getL_2, getL_3, getL_4, getL_5, getL_6, getL_7, getL_8, getL_9, getL_10, getL_11, getL_12, condV_t, condV_f, guardV_tt, guardV_ff, guardV_tf, guardV_ft, guardV_u, apick_t, apick_f, exV_exit, exV_ret, lookE_same, joinK_eq, seqA_n, seqA_e, seqA_r, e_add, e_sub, e_mul, e_eql, e_neq, e_lss, e_leq, e_gtr, e_geq, e_conv, e_not, e_neg, and_guard, or_guard, c, hmk1, hnw2, hst, j4, hmk2, slices_ContainsFunc_api_Owner_api_Owner_call, g1, j5, hmk3, slices_ContainsFunc_api_Decision_api_Decision_call, g2, j6, slices_ContainsFunc_api_Last_api_Last_call, g3, c1, c2, c3, Bool.not_true, Bool.not_false, m5, record_rising_api_Decision_call, rd, c4, m6, record_rising_api_Last_call, rl, record_want_call, want_run, hr, Bool.and_false, Bool.false_and, Bool.and_self, Bool.true_and, Bool.and_true, Bool.false_eq_true, if_false])

end Go.Proofs.YtckpcelchhmjcaaGreat.Ab

/- States are read: numbers, pairs, owners, results. -/
namespace Go.Proofs.YtckpcelchhmjcaaGreat.Ab
open Go

def pI : Par Int := pIntR.map fun n => (n : Int)
def pTx : Par BL := pText 255
def pPr : Par Rg := pTx.bind fun k => pTx.bind fun v => .pure (k, v)
set_option maxRecDepth 4000 in
theorem manyPr_eq : record_many_api_Pair.b0 = manyB 2 32 [(.string ⟨#[]⟩), (.string ⟨#[]⟩)] := rfl
end Go.Proofs.YtckpcelchhmjcaaGreat.Ab

/- States are read: results; numbers through pointers. -/
namespace Go.Proofs.YtckpcelchhmjcaaGreat.Ab
open Go

def pRs : Par Rs := pFlagR.bind fun f => pTx.bind fun t => (pMany pPr).bind fun l => .pure (f, t, l)
/-! ### Numbers through pointers -/
end Go.Proofs.YtckpcelchhmjcaaGreat.Ab

/- States are read: decisions, what was last. -/
namespace Go.Proofs.YtckpcelchhmjcaaGreat.Ab
open Go

end Go.Proofs.YtckpcelchhmjcaaGreat.Ab

/- States are read: what was last; operations; what is held. -/
namespace Go.Proofs.YtckpcelchhmjcaaGreat.Ab
open Go

end Go.Proofs.YtckpcelchhmjcaaGreat.Ab

/- States are read: operations, what is held. -/
namespace Go.Proofs.YtckpcelchhmjcaaGreat.Ab
open Go

def pOp : Par OpT := pI.bind fun k => (pTx.rep 4).bind fun l => pI.bind fun m => .pure ⟨k, l.getD 0 [], l.getD 1 [], l.getD 2 [], l.getD 3 [], m⟩
end Go.Proofs.YtckpcelchhmjcaaGreat.Ab

/- States are read: into a state that lies below the reader. -/
namespace Go.Proofs.YtckpcelchhmjcaaGreat.Ab
open Go

/-- nothing has changed but in two rows -/
def FrB (N B : Nat) (s t : St) : Prop := s.heap.length ≤ t.heap.length ∧ ∀ b, b < s.heap.length → b ≠ N → b ≠ B → t.heap[b]? = s.heap[b]?
theorem FrB.refl (N B : Nat) (s : St) : FrB N B s s := ⟨Nat.le_refl _, fun _ _ _ _ => rfl⟩
theorem FrB.trans {N B : Nat} {s t u : St} (h : FrB N B s t) (g : FrB N B t u) : FrB N B s u := ⟨Nat.le_trans h.1 g.1, fun b h1 h2 h3 => (g.2 b (Nat.lt_of_lt_of_le h1 h.1) h2 h3).trans (h.2 b h1 h2 h3)⟩
end Go.Proofs.YtckpcelchhmjcaaGreat.Ab

/- States are read: the coordinator's. -/
namespace Go.Proofs.YtckpcelchhmjcaaGreat.Ab
open Go

end Go.Proofs.YtckpcelchhmjcaaGreat.Ab

/- States are read: a shard's. -/
namespace Go.Proofs.YtckpcelchhmjcaaGreat.Ab
open Go

end Go.Proofs.YtckpcelchhmjcaaGreat.Ab

/- States are read: the first byte. -/
namespace Go.Proofs.YtckpcelchhmjcaaGreat.Ab
open Go

end Go.Proofs.YtckpcelchhmjcaaGreat.Ab

/- States are read: all of some bytes. -/
namespace Go.Proofs.YtckpcelchhmjcaaGreat.Ab
open Go

end Go.Proofs.YtckpcelchhmjcaaGreat.Ab

/- Numbers' bytes: how long, what is read behind them, and back. -/
namespace Go.Proofs.YtckpcelchhmjcaaGreat.Ab
open Go

theorem hn_enc {n : Nat} (h : n < 18446744073709551616) : hn (enc n) = n := hn_encF 10 n (Nat.lt_of_lt_of_le h (by decide))
theorem readNum_enc {n : Nat} (h : n < 18446744073709551616) (rest : List UInt8) : readNum (enc n ++ rest) = (n, (enc n).length, 0) := by
  obtain ⟨pre, c, he, h1, h2, h3⟩ := enc_canon h
  have hl := @enc_len n
  have hh := hn_enc h
  rw [he] at hl hh
  simp only [List.length_append, List.length_cons, List.length_nil] at hl
  unfold readNum
  rw [he, List.append_assoc, List.singleton_append, rdN_low pre c rest 0 0 h1 h2 (by omega)]
  have hc : ¬ (0 + pre.length = 9 ∧ 1 < c.toNat) := by
    rintro ⟨hp, hc⟩
    have : hn (pre ++ [c]) = hn pre + 128 ^ pre.length * hn [c] := hn_append pre [c]
    rw [hh] at this
    have e9 : pre.length = 9 := by omega
    rw [e9] at this
    have e1 : hn [c] = c.toNat := by simp only [hn]; omega
    rw [e1] at this
    have : (128 : Nat) ^ 9 * 2 ≤ 128 ^ 9 * c.toNat := Nat.mul_le_mul_left _ hc
    have e2 : (128 : Nat) ^ 9 * 2 = 18446744073709551616 := by decide
    omega
  rw [if_neg hc, if_neg (by rintro ⟨hz, hp⟩; have := h3 hz; rw [this] at hp; simp at hp)]
  simp only [Option.getD_some, Nat.mul_zero, Nat.pow_zero, Nat.one_mul, Nat.zero_add, List.length_append, List.length_cons, List.length_nil, hh]
end Go.Proofs.YtckpcelchhmjcaaGreat.Ab

/- Bytes are written: the writer, and what its methods append. -/
namespace Go.Proofs.YtckpcelchhmjcaaGreat.Ab
open Go

abbrev wP (N : Nat) : Value := .pointer (some ⟨N, 0, none⟩)
abbrev unitV : Value := .tuple #[]
/-- the writer at N holds these bytes, in blocks of its own from lo on -/
def Wt (lo N : Nat) (s : St) (x : Value) (l : BL) : Prop := lo ≤ N ∧ s.heap[N]? = some (.row 0 [x] .act) ∧ Own lo 1 s x (bv l) ∧ blkOf x ≠ some N
/-- from one state to a later one: these are its bytes then; nothing else has changed -/
def WAp (lo N : Nat) (s t : St) (m : BL) : Prop := ∃ x y, s.heap[N]? = some (.row 0 [x] .act) ∧ Wt lo N t y m ∧ s.heap.length ≤ t.heap.length ∧ (∀ b, b < s.heap.length → b ≠ N → blkOf x ≠ some b → t.heap[b]? = s.heap[b]?) ∧ Fresh s x y ∧ (∀ c, blkOf x = some c → lo ≤ c)
theorem Wt.start {lo N : Nat} {s : St} {x : Value} {l : BL} (h : Wt lo N s x l) : WAp lo N s s l := ⟨x, x, h.2.1, h, Nat.le_refl _, fun _ _ _ _ => rfl, .inl rfl, fun c hc => (h.2.2.1.blk c hc).1⟩
theorem WAp.trans {lo N : Nat} {s t u : St} {m m2 : BL} (h : WAp lo N s t m) (g : WAp lo N t u m2) : WAp lo N s u m2 := by
  obtain ⟨x, y, h1, h2, h3, h4, h5, h6⟩ := h
  obtain ⟨y', z, g1, g2, g3, g4, g5, g6⟩ := g
  obtain rfl : y = y' := by
    have := h2.2.1.symm.trans g1
    simpa using this
  refine ⟨x, z, h1, g2, Nat.le_trans h3 g3, fun b hb hN hne => ?_, ?_, h6⟩
  · rw [g4 b (Nat.lt_of_lt_of_le hb h3) hN fun e => ?_, h4 b hb hN hne]
    rcases h5 with h | h
    · exact hne (by rw [← h]; exact e)
    · exact absurd (h b e) (by omega)
  · rcases g5 with g | g
    · rcases h5 with h | h
      · exact .inl (g.trans h)
      · exact .inr fun c hc => h c (by rw [← g]; exact hc)
    · exact .inr fun c hc => Nat.le_trans h3 (g c hc)
theorem WAp.ext {lo N : Nat} {s t : St} {m : BL} (h : WAp lo N s t m) (hs : lo ≤ s.heap.length) : Ext lo s t := by
  obtain ⟨x, y, h1, h2, h3, h4, h5, h6⟩ := h
  exact ⟨h3, fun b hb => h4 b (by omega) (by have := h2.1; omega) fun e => by have := h6 b e; omega⟩
theorem WAp.get {lo N : Nat} {s t : St} {m : BL} (h : WAp lo N s t m) {P : Nat} {B : Blk} (hP : s.heap[P]? = some B) (hN : P ≠ N) (hx : ∀ x, s.heap[N]? = some (.row 0 [x] .act) → blkOf x ≠ some P) : t.heap[P]? = some B := by
  obtain ⟨x, y, h1, h2, h3, h4, h5, h6⟩ := h
  rw [h4 P (List.getElem?_eq_some_iff.1 hP).1 hN (hx x h1)]
  exact hP
theorem WAp.wt {lo N : Nat} {s t : St} {m : BL} (h : WAp lo N s t m) : ∃ y, Wt lo N t y m := by
  obtain ⟨x, y, h1, h2, _⟩ := h
  exact ⟨y, h2⟩
theorem own_pushW {N : Nat} {s : St} {x : Value} {cs : List Value} {B : Blk} (h : Own N 1 s x cs) : Own N 1 (s.push B) x cs := by
  rcases h with h | ⟨b, len, rfl, h1, h2, h3, h4⟩
  · exact .inl h
  · refine .inr ⟨b, len, rfl, h1, ?_, h3, h4⟩
    simp only [St.push]
    rw [List.getElem?_append_left (List.getElem?_eq_some_iff.1 h2).1]
    exact h2
theorem Wt.push {lo N : Nat} {s : St} {x : Value} {l : BL} {B : Blk} (h : Wt lo N s x l) : Wt lo N (s.push B) x l := by
  refine ⟨h.1, ?_, own_pushW h.2.2.1, h.2.2.2⟩
  simp only [St.push]
  rw [List.getElem?_append_left (List.getElem?_eq_some_iff.1 h.2.1).1]
  exact h.2.1
theorem WAp.push {lo N : Nat} {s t : St} {m : BL} {x0 : Value} {l0 : BL} {B : Blk} (hw : Wt lo N s x0 l0) (h : WAp lo N (s.push B) t m) : WAp lo N s t m := by
  obtain ⟨x, y, h1, h2, h3, h4, h5, h6⟩ := h
  rw [push_len] at h3
  obtain rfl : x0 = x := by
    have := (hw.push (B := B)).2.1.symm.trans h1
    simpa using this
  refine ⟨x0, y, hw.2.1, h2, by omega, fun b hb hN hne => ?_, ?_, h6⟩
  · rw [h4 b (by rw [push_len]; omega) hN hne]
    simp only [St.push]
    rw [List.getElem?_append_left hb]
  · rcases h5 with h | h
    · exact .inl h
    · exact .inr fun c hc => by have := h c hc; rw [push_len] at this; omega
/-- new bytes are appended to the writer's own -/
theorem wt_new {lo N : Nat} {s : St} {x : Value} {l m : BL} (h : Wt lo N s x l) (hs : lo ≤ s.heap.length) (hb : l.length + m.length ≤ 140737488355328) :
    ∃ r t, aappend 1 1 x (newBytes m s).1 (newBytes m s).2 = some r ∧ (newBytes m s).2.heap.length ≤ r.2.heap.length ∧ astore 1 (.pointer (some ⟨N, 0, none⟩)) r.1 r.2 = some t ∧ r.2.heap.length ≤ t.heap.length ∧ WAp lo N s t (l ++ m) := by
  have hNlt := (List.getElem?_eq_some_iff.1 h.2.1).1
  have hp := h.push (B := .row 1 (bv m) .act)
  have hp' : Wt lo N (newBytes m s).2 x l := hp
  obtain ⟨v', s', h1, h2, _⟩ := own_more hp'.2.2.1 (by show lo ≤ (s.push _).heap.length; rw [push_len]; omega) (newBytes_bytes (l := m) (s := s)) hb
  obtain ⟨k1, k2⟩ := aappend_keep h1
  have hNlt2 : N < (newBytes m s).2.heap.length := (List.getElem?_eq_some_iff.1 hp'.2.1).1
  have hrow : s'.heap[N]? = some (.row 0 [x] .act) := by rw [k1.2 N hNlt2 hp'.2.2.2]; exact hp'.2.1
  have hlf : isLeaf v' = true ∧ cellsV v' = [v'] := by
    rcases h2 with ⟨rfl, _⟩ | ⟨b, len, rfl, _⟩ <;> exact ⟨rfl, rfl⟩
  have hst := st_cell (i := 0) hrow (by simp) hlf.1 hlf.2
  have hvN : blkOf v' ≠ some N := fun e => by
    rcases k2 with h | h
    · exact hp'.2.2.2 (by rw [← h]; exact e)
    · exact absurd (h N e) (by omega)
  have hN' : N < s'.heap.length := (List.getElem?_eq_some_iff.1 hrow).1
  refine ⟨(v', s'), _, h1, k1.1, hst, by simp [St.putB], ?_⟩
  refine WAp.push (B := .row 1 (bv m) .act) h ⟨x, v', hp.2.1, ⟨h.1, putB_get hN', ?_, hvN⟩, ?_, fun b hb2 hbN hbx => ?_, k2, fun c hc => (hp'.2.2.1.blk c hc).1⟩
  · rcases h2 with h | ⟨b, len, rfl, e1, e2, e3, e4⟩
    · exact .inl h
    · refine .inr ⟨b, len, rfl, e1, ?_, e3, e4⟩
      simp only [St.putB]
      rw [List.getElem?_set_ne (fun e => hvN (by rw [e]; rfl))]
      exact e2
  · have := k1.1
    simp only [St.putB, List.length_set]
    exact this
  · simp only [St.putB]
    rw [List.getElem?_set_ne (fun e => hbN e.symm)]
    exact k1.2 b hb2 hbx

/-! ### Numbers, texts -/
def tB (k : BL) : BL := enc k.length ++ k
theorem kn_num {n : Nat} (hn : n < 18446744073709551616) {s : St} : (run Tryz.prog (libL libT) hints) 94 [.int .u64 (n : Int)] s = some (newBytes (enc n) s) := (known (g := gNum) rfl).trans (gNum_eq hn)
theorem kn_text {k : BL} (hk : k.length ≤ 140737488300000) {s : St} : (run Tryz.prog (libL libT) hints) 130 [sv k] s = some (newBytes (tB k) s) := (known (g := gText) rfl).trans (gText_eq (t := ⟨k.toArray⟩) (s := s) hk)
theorem nil_wp {N : Nat} : anilCheck (wP N) = some (wP N) := rfl
theorem ad_wp {N : Nat} : afieldAddr 0 (wP N) = some (wP N) := rfl
theorem ret_0 (s : St) : retV [] s = some (unitV, s) := rfl
theorem frz_cell {s : St} {N : Nat} {x : Value} (h : s.heap[N]? = some (.row 0 [x] .act)) : aload false 1 (wP N) (frzS s) = some x := by
  have hr : readRow (frzS s) N = some [x] := by
    rw [readRow_frz]
    unfold Ab.readRow
    rw [h]
  simp only [aload, Bool.false_eq_true, if_false, hr, Option.bind_some]
  rfl
section
variable {lo N : Nat} {s : St} {x : Value} {l : BL} (h : Wt lo N s x l) (hs : lo ≤ s.heap.length)
include h hs
theorem w_num {n : Nat} (hn : n < 18446744073709551616) (hb : l.length + (enc n).length ≤ 140737488355328) : ∃ t, (run Tryz.prog (libL libT) hints) 25 [wP N, .int .u64 (n : Int)] s = some (unitV, t) ∧ WAp lo N s t (l ++ enc n) := by
  obtain ⟨r, t, h1, h2, h3, h4, h5⟩ := wt_new (m := enc n) h hs hb
  refine ⟨t, record_writer_num_of rfl ?_, h5⟩
  have o1 : ownR (newBytes (enc n) s).2 (r.1, r.2) = some (r.1, r.2) := by unfold ownR; rw [if_pos h2]
  have o2 : ownR r.2 (undef, t) = some (undef, t) := by unfold ownR; rw [if_pos h4]
  unfold record_writer_num
  simp only [nil_wp, ad_wp, frz_cell h.2.1, octet_Num_call, kn_num hn, Option.map_some, quiet_new2, h1, o1, h3, o2, ret_0, n_bind, n_map, getL_0, getL_1, getL_2, getL_3, getL_4, getL_5, getL_6, getL_7, getL_8, getL_9, getL_10, getL_11, getL_12, condV_t, condV_f, guardV_tt, guardV_ff, guardV_tf, guardV_ft, guardV_u, apick_t, apick_f, exV_exit, exV_ret, lookE_same, joinK_eq, seqA_n, seqA_e, seqA_r, e_add, e_sub, e_mul, e_eql, e_neq, e_lss, e_leq, e_gtr, e_geq, e_conv, e_not, e_neg, and_guard, or_guard]
theorem w_int {n : Nat} (hn : n < 9223372036854775808) (hb : l.length + (enc n).length ≤ 140737488355328) : ∃ t, (run Tryz.prog (libL libT) hints) 88 [wP N, .int .i64 (n : Int)] s = some (unitV, t) ∧ WAp lo N s t (l ++ enc n) := by
  obtain ⟨t, h1, h2⟩ := w_num h hs (n := n) (by omega) hb
  have hw : IntKind.wrap .u64 (n : Int) = (n : Int) := uwrap rfl (Nat.lt_trans hn (by decide))
  refine ⟨t, record_writer_int_of rfl ?_, h2⟩
  unfold record_writer_int
  simp only [hw, record_writer_num_call, h1, ret_0, n_bind, n_map, getL_0, getL_1, getL_2, getL_3, getL_4, getL_5, getL_6, getL_7, getL_8, getL_9, getL_10, getL_11, getL_12, condV_t, condV_f, guardV_tt, guardV_ff, guardV_tf, guardV_ft, guardV_u, apick_t, apick_f, exV_exit, exV_ret, lookE_same, joinK_eq, seqA_n, seqA_e, seqA_r, e_add, e_sub, e_mul, e_eql, e_neq, e_lss, e_leq, e_gtr, e_geq, e_conv, e_not, e_neg, and_guard, or_guard]
theorem w_text {k : BL} (hb : l.length + (tB k).length ≤ 140737488300000) : ∃ t, (run Tryz.prog (libL libT) hints) 90 [wP N, sv k] s = some (unitV, t) ∧ WAp lo N s t (l ++ tB k) := by
  have hk : k.length ≤ 140737488300000 := by unfold tB at hb; rw [List.length_append] at hb; omega
  obtain ⟨r, t, h1, h2, h3, h4, h5⟩ := wt_new (m := tB k) h hs (by omega)
  refine ⟨t, record_writer_text_of rfl ?_, h5⟩
  have o1 : ownR (newBytes (tB k) s).2 (r.1, r.2) = some (r.1, r.2) := by unfold ownR; rw [if_pos h2]
  have o2 : ownR r.2 (undef, t) = some (undef, t) := by unfold ownR; rw [if_pos h4]
  unfold record_writer_text
  simp only [nil_wp, ad_wp, frz_cell h.2.1, octet_Text_call, kn_text hk, Option.map_some, quiet_new2, h1, o1, h3, o2, ret_0, n_bind, n_map, getL_0, getL_1, getL_2, getL_3, getL_4, getL_5, getL_6, getL_7, getL_8, getL_9, getL_10, getL_11, getL_12, condV_t, condV_f, guardV_tt, guardV_ff, guardV_tf, guardV_ft, guardV_u, apick_t, apick_f, exV_exit, exV_ret, lookE_same, joinK_eq, seqA_n, seqA_e, seqA_r, e_add, e_sub, e_mul, e_eql, e_neq, e_lss, e_leq, e_gtr, e_geq, e_conv, e_not, e_neg, and_guard, or_guard]
theorem w_flag (b : Bool) (hb : l.length + 1 ≤ 140737488355328) : ∃ t, (run Tryz.prog (libL libT) hints) 134 [wP N, .bool b] s = some (unitV, t) ∧ WAp lo N s t (l ++ [if b = true then 1 else 0]) := by
  have hld : aload false 1 (wP N) s = some x := ld_cell h.2.1 (by simp) rfl
  have e1 : abuildSl 1 [.int .u8 0] 1 [(0, .int .u8 1)] s = some (newBytes [1] s) := rfl
  have e0 : abuildSl 1 [.int .u8 0] 1 [(0, .int .u8 0)] s = some (newBytes [0] s) := rfl
  cases b with
  | true =>
    obtain ⟨r, t, h1, h2, h3, h4, h5⟩ := wt_new (m := [1]) h hs hb
    refine ⟨t, record_writer_flag_of rfl ?_, h5⟩
    unfold record_writer_flag
    simp only [nil_wp, ad_wp, hld, e1, h1, h3, ret_0, n_bind, n_map, getL_0, getL_1, getL_2, getL_3, getL_4, getL_5, getL_6, getL_7, getL_8, getL_9, getL_10, getL_11, getL_12, condV_t, condV_f, guardV_tt, guardV_ff, guardV_tf, guardV_ft, guardV_u, apick_t, apick_f, exV_exit, exV_ret, lookE_same, joinK_eq, seqA_n, seqA_e, seqA_r, e_add, e_sub, e_mul, e_eql, e_neq, e_lss, e_leq, e_gtr, e_geq, e_conv, e_not, e_neg, and_guard, or_guard]
  | false =>
    obtain ⟨r, t, h1, h2, h3, h4, h5⟩ := wt_new (m := [0]) h hs hb
    refine ⟨t, record_writer_flag_of rfl ?_, h5⟩
    unfold record_writer_flag
    simp only [nil_wp, ad_wp, hld, e0, h1, h3, ret_0, n_bind, n_map, getL_0, getL_1, getL_2, getL_3, getL_4, getL_5, getL_6, getL_7, getL_8, getL_9, getL_10, getL_11, getL_12, condV_t, condV_f, guardV_tt, guardV_ff, guardV_tf, guardV_ft, guardV_u, apick_t, apick_f, exV_exit, exV_ret, lookE_same, joinK_eq, seqA_n, seqA_e, seqA_r, e_add, e_sub, e_mul, e_eql, e_neq, e_lss, e_leq, e_gtr, e_geq, e_conv, e_not, e_neg, and_guard, or_guard]
end

end Go.Proofs.YtckpcelchhmjcaaGreat.Ab

/- Bytes are written: lists. -/
namespace Go.Proofs.YtckpcelchhmjcaaGreat.Ab
open Go

/-- the elements of a list, as they lie in memory while the writer writes -/
def Elems {α : Type} (lo N : Nat) (s1 : St) (n : Nat) (ag : Bool) (v : Value) (l : List α) (Rel : α → List Value → Prop) : Prop :=
  (∀ ty t, alenV (.slice ty) v t = some (.int .i64 ((l.length : Nat) : Int))) ∧ ∀ (i : Nat) (hi : i < l.length), ∃ p u cs, aindexS n v (.int .i64 (i : Int)) = some p ∧ Shape ag u cs ∧ Rel l[i] cs ∧ ∀ t m, WAp lo N s1 t m → aload ag n p t = some u
/-- a function that writes an element -/
def Puts {α : Type} (lo N : Nat) (s1 : St) (Rel : α → List Value → Prop) (ag : Bool) (l : List α) (fv : Value) (f : α → BL) : Prop :=
  ∀ a ∈ l, ∀ t m u cs, WAp lo N s1 t m → Rel a cs → Shape ag u cs → m.length + (f a).length ≤ 140737488300000 → ∃ t', callV Tryz.prog (run Tryz.prog (libL libT) hints) fv [u] t = some (unitV, t') ∧ WAp lo N t t' (m ++ f a)
noncomputable def rowsS (n : Nat) (z : Value) (R : Caller) (T : List Value) (s : St) : Res :=
(abin Tryz.prog .lss 3 (.tmp 10) (.tmp 9) (getL T 3) (getL T 2)).bind fun v1 =>
condV v1
 ((aindexS n (getL T 1) (getL T 3)).bind fun v2 =>
(aload true n v2 s).bind fun v3 =>
(lstore n lptr v3 z).bind fun v4 =>
(lload true n lptr v4).bind fun v5 =>
(callV Tryz.prog R (getL T 0) [v5] s).bind fun r6 =>
(abin Tryz.prog .add 3 (.tmp 10) (.const (.int .i64 1)) (getL T 3) (.int .i64 1)).bind fun v7 =>
some (.normal, [(getL T 0), (getL T 1), (getL T 2), v7], r6.2))
 (some (.exit 0, [], s))
noncomputable def rowsI (R : Caller) (T : List Value) (s : St) : Res :=
(abin Tryz.prog .lss 3 (.tmp 10) (.tmp 9) (getL T 3) (getL T 2)).bind fun v1 =>
condV v1
 ((aindexS 1 (getL T 1) (getL T 3)).bind fun v2 =>
(aload false 1 v2 s).bind fun v3 =>
(callV Tryz.prog R (getL T 0) [v3] s).bind fun r4 =>
(abin Tryz.prog .add 3 (.tmp 10) (.const (.int .i64 1)) (getL T 3) (.int .i64 1)).bind fun v5 =>
some (.normal, [(getL T 0), (getL T 1), (getL T 2), v5], r4.2))
 (some (.exit 0, [], s))
theorem fm_consW {α : Type} (f : α → BL) (a : α) (l : List α) : (a :: l).flatMap f = f a ++ l.flatMap f := rfl
section
variable {α : Type} {Rel : α → List Value → Prop} {n lo N : Nat} {s1 : St} {v fv : Value} {l : List α} {f : α → BL} (hl : l.length < 140737488355328)
include hl
theorem rowsS_loop {zs : List Value} (hL : Elems lo N s1 n true v l Rel) (hz : zs.length = n) (hleaf : ∀ a cs, Rel a cs → cs.length = n ∧ cs.all isLeaf = true) (hp : Puts lo N s1 Rel true l fv f) : ∀ (rest : List α) (i : Nat) (t : St) (m : BL), l.drop i = rest → i ≤ l.length → WAp lo N s1 t m → m.length + (rest.flatMap f).length ≤ 140737488300000 →
    ∃ t', loopL (rowsS n (.agg zs.toArray) (run Tryz.prog (libL libT) hints)) [fv, v, .int .i64 ((l.length : Nat) : Int), .int .i64 (i : Int)] t = some (.exit 0, [], t') ∧ WAp lo N t t' (m ++ rest.flatMap f) := by
  intro rest
  induction rest with
  | nil =>
    intro i t m hi hle hw hb
    have h1 : decide ((i : Int) < ((l.length : Nat) : Int)) = false := by
      have := List.drop_eq_nil_iff.1 hi
      simp; omega
    obtain ⟨y, hy⟩ := hw.wt
    refine ⟨t, ?_, by rw [List.flatMap_nil, List.append_nil]; exact hy.start⟩
    rw [loopL_eq]
    simp only [rowsS, h1, n_bind, n_map, getL_0, getL_1, getL_2, getL_3, getL_4, getL_5, getL_6, getL_7, getL_8, getL_9, getL_10, getL_11, getL_12, condV_t, condV_f, guardV_tt, guardV_ff, guardV_tf, guardV_ft, guardV_u, apick_t, apick_f, exV_exit, exV_ret, lookE_same, joinK_eq, seqA_n, seqA_e, seqA_r, e_add, e_sub, e_mul, e_eql, e_neq, e_lss, e_leq, e_gtr, e_geq, e_conv, e_not, e_neg, and_guard, or_guard]
  | cons a rest ih =>
    intro i t m hi hle hw hb
    obtain ⟨hlt, he, hd⟩ := drop_nx hi
    have h1 : decide ((i : Int) < ((l.length : Nat) : Int)) = true := by simp; omega
    obtain ⟨q, u, cs, h2, h4, h5, h3⟩ := hL.2 i hlt
    have h3 := h3 t m hw
    rw [he] at h5
    rw [fm_consW, List.length_append] at hb
    have hsh : u = .agg cs.toArray := h4
    obtain ⟨hcl, hcf⟩ := hleaf a cs h5
    have p1 : lstore n lptr u (.agg zs.toArray) = some u := by rw [hsh]; exact arr_put hz hcl hcf
    have p2 : lload true n lptr u = some u := by rw [hsh]; exact arr_all hcl
    obtain ⟨t1, g1, g2⟩ := hp a (by rw [← he]; exact List.getElem_mem _) t m u cs hw h5 h4 (by omega)
    obtain ⟨t2, f1, f2⟩ := ih (i + 1) t1 (m ++ f a) hd (by omega) (hw.trans g2) (by rw [List.length_append]; omega)
    refine ⟨t2, ?_, by rw [fm_consW, ← List.append_assoc]; exact g2.trans f2⟩
    rw [loopL_eq]
    simp only [rowsS, h1, h2, h3, p1, p2, g1, inc_i (show i < 140737488355328 by omega), n_bind, n_map, getL_0, getL_1, getL_2, getL_3, getL_4, getL_5, getL_6, getL_7, getL_8, getL_9, getL_10, getL_11, getL_12, condV_t, condV_f, guardV_tt, guardV_ff, guardV_tf, guardV_ft, guardV_u, apick_t, apick_f, exV_exit, exV_ret, lookE_same, joinK_eq, seqA_n, seqA_e, seqA_r, e_add, e_sub, e_mul, e_eql, e_neq, e_lss, e_leq, e_gtr, e_geq, e_conv, e_not, e_neg, and_guard, or_guard]
    exact f1
theorem rowsI_loop (hL : Elems lo N s1 1 false v l Rel) (hp : Puts lo N s1 Rel false l fv f) : ∀ (rest : List α) (i : Nat) (t : St) (m : BL), l.drop i = rest → i ≤ l.length → WAp lo N s1 t m → m.length + (rest.flatMap f).length ≤ 140737488300000 →
    ∃ t', loopL (rowsI (run Tryz.prog (libL libT) hints)) [fv, v, .int .i64 ((l.length : Nat) : Int), .int .i64 (i : Int)] t = some (.exit 0, [], t') ∧ WAp lo N t t' (m ++ rest.flatMap f) := by
  intro rest
  induction rest with
  | nil =>
    intro i t m hi hle hw hb
    have h1 : decide ((i : Int) < ((l.length : Nat) : Int)) = false := by
      have := List.drop_eq_nil_iff.1 hi
      simp; omega
    obtain ⟨y, hy⟩ := hw.wt
    refine ⟨t, ?_, by rw [List.flatMap_nil, List.append_nil]; exact hy.start⟩
    rw [loopL_eq]
    simp only [rowsI, h1, n_bind, n_map, getL_0, getL_1, getL_2, getL_3, getL_4, getL_5, getL_6, getL_7, getL_8, getL_9, getL_10, getL_11, getL_12, condV_t, condV_f, guardV_tt, guardV_ff, guardV_tf, guardV_ft, guardV_u, apick_t, apick_f, exV_exit, exV_ret, lookE_same, joinK_eq, seqA_n, seqA_e, seqA_r, e_add, e_sub, e_mul, e_eql, e_neq, e_lss, e_leq, e_gtr, e_geq, e_conv, e_not, e_neg, and_guard, or_guard]
  | cons a rest ih =>
    intro i t m hi hle hw hb
    obtain ⟨hlt, he, hd⟩ := drop_nx hi
    have h1 : decide ((i : Int) < ((l.length : Nat) : Int)) = true := by simp; omega
    obtain ⟨q, u, cs, h2, h4, h5, h3⟩ := hL.2 i hlt
    have h3 := h3 t m hw
    rw [he] at h5
    rw [fm_consW, List.length_append] at hb
    obtain ⟨t1, g1, g2⟩ := hp a (by rw [← he]; exact List.getElem_mem _) t m u cs hw h5 h4 (by omega)
    obtain ⟨t2, f1, f2⟩ := ih (i + 1) t1 (m ++ f a) hd (by omega) (hw.trans g2) (by rw [List.length_append]; omega)
    refine ⟨t2, ?_, by rw [fm_consW, ← List.append_assoc]; exact g2.trans f2⟩
    rw [loopL_eq]
    simp only [rowsI, h1, h2, h3, g1, inc_i (show i < 140737488355328 by omega), n_bind, n_map, getL_0, getL_1, getL_2, getL_3, getL_4, getL_5, getL_6, getL_7, getL_8, getL_9, getL_10, getL_11, getL_12, condV_t, condV_f, guardV_tt, guardV_ff, guardV_tf, guardV_ft, guardV_u, apick_t, apick_f, exV_exit, exV_ret, lookE_same, joinK_eq, seqA_n, seqA_e, seqA_r, e_add, e_sub, e_mul, e_eql, e_neq, e_lss, e_leq, e_gtr, e_geq, e_conv, e_not, e_neg, and_guard, or_guard]
    exact f1
/-- the functions 'rows', whatever they are called -/
theorem rowsS_gen {zs : List Value} {t1 : TypeId} (hL : Elems lo N s1 n true v l Rel) (hz : zs.length = n) (hleaf : ∀ a cs, Rel a cs → cs.length = n ∧ cs.all isLeaf = true) (hp : Puts lo N s1 Rel true l fv f) {t : St} {m : BL} (hw : WAp lo N s1 t m) (hb : m.length + (l.flatMap f).length ≤ 140737488300000) :
    ∃ t', ((alenV (.slice t1) v t).bind fun v0 => (loopL (rowsS n (.agg zs.toArray) (run Tryz.prog (libL libT) hints)) [fv, v, v0, (.int .i64 0)] t).bind fun r8 => exV r8.1 [(0, retV [] r8.2.2)] (none)) = some (unitV, t') ∧ WAp lo N t t' (m ++ l.flatMap f) := by
  obtain ⟨t', h1, h2⟩ := rowsS_loop hl hL hz hleaf hp l 0 t m rfl (Nat.zero_le _) hw hb
  rw [show ((0 : Nat) : Int) = 0 from rfl] at h1
  refine ⟨t', ?_, h2⟩
  simp only [hL.1, h1, ret_0, n_bind, n_map, getL_0, getL_1, getL_2, getL_3, getL_4, getL_5, getL_6, getL_7, getL_8, getL_9, getL_10, getL_11, getL_12, condV_t, condV_f, guardV_tt, guardV_ff, guardV_tf, guardV_ft, guardV_u, apick_t, apick_f, exV_exit, exV_ret, lookE_same, joinK_eq, seqA_n, seqA_e, seqA_r, e_add, e_sub, e_mul, e_eql, e_neq, e_lss, e_leq, e_gtr, e_geq, e_conv, e_not, e_neg, and_guard, or_guard]
theorem rowsI_gen {t1 : TypeId} (hL : Elems lo N s1 1 false v l Rel) (hp : Puts lo N s1 Rel false l fv f) {t : St} {m : BL} (hw : WAp lo N s1 t m) (hb : m.length + (l.flatMap f).length ≤ 140737488300000) :
    ∃ t', ((alenV (.slice t1) v t).bind fun v0 => (loopL (rowsI (run Tryz.prog (libL libT) hints)) [fv, v, v0, (.int .i64 0)] t).bind fun r6 => exV r6.1 [(0, retV [] r6.2.2)] (none)) = some (unitV, t') ∧ WAp lo N t t' (m ++ l.flatMap f) := by
  obtain ⟨t', h1, h2⟩ := rowsI_loop hl hL hp l 0 t m rfl (Nat.zero_le _) hw hb
  rw [show ((0 : Nat) : Int) = 0 from rfl] at h1
  refine ⟨t', ?_, h2⟩
  simp only [hL.1, h1, ret_0, n_bind, n_map, getL_0, getL_1, getL_2, getL_3, getL_4, getL_5, getL_6, getL_7, getL_8, getL_9, getL_10, getL_11, getL_12, condV_t, condV_f, guardV_tt, guardV_ff, guardV_tf, guardV_ft, guardV_u, apick_t, apick_f, exV_exit, exV_ret, lookE_same, joinK_eq, seqA_n, seqA_e, seqA_r, e_add, e_sub, e_mul, e_eql, e_neq, e_lss, e_leq, e_gtr, e_geq, e_conv, e_not, e_neg, and_guard, or_guard]
end

/-! ### What is written -/
def eList {α : Type} (f : α → BL) (l : List α) : BL := enc l.length ++ l.flatMap f
def eN (n : Int) : BL := enc n.toNat
def eOw (o : Ow) : BL := tB o.1 ++ eN o.2
def eOp (o : OpT) : BL := eN o.kind ++ tB o.key ++ tB o.val ++ tB o.lo ++ tB o.hi ++ eN o.most
def eHo (h : Ho) : BL := eN h.1 ++ eList eOp h.2
def ePr (p : Rg) : BL := tB p.1 ++ tB p.2
def eRs (r : Rs) : BL := [if r.1 = true then 1 else 0] ++ tB r.2.1 ++ eList ePr r.2.2
def eDe (d : De) : BL := eN d.1 ++ eN d.2.1 ++ eN d.2.2.1 ++ eN d.2.2.2.1 ++ eList eN d.2.2.2.2
def eLa (a : La) : BL := eN a.1 ++ eN a.2.1 ++ eN a.2.2.1 ++ eList eRs a.2.2.2
def inN63 (n : Int) : Prop := 0 ≤ n ∧ n < 9223372036854775808
def inN64 (n : Int) : Prop := 0 ≤ n ∧ n < 18446744073709551616
theorem wf_64 {n : Int} (h : (Lit.int .u64 n).wf = true) : inN64 n := by
  simp [Lit.wf, IntKind.signed, IntKind.bits, IntKind.min, IntKind.max] at h
  exact ⟨by omega, by omega⟩
section
variable {lo N : Nat} {s : St} {l : BL} (h : ∃ x, Wt lo N s x l) (hs : lo ≤ s.heap.length)
include h hs
theorem w_num' {n : Int} (hn : inN64 n) (hb : l.length + (eN n).length ≤ 140737488300000) : ∃ t, (run Tryz.prog (libL libT) hints) 25 [wP N, .int .u64 n] s = some (unitV, t) ∧ WAp lo N s t (l ++ eN n) := by
  obtain ⟨x, h⟩ := h
  have := w_num h hs (n := n.toNat) (by have := hn.1; have := hn.2; omega) (by unfold eN at hb; omega)
  rw [Int.toNat_of_nonneg hn.1] at this
  exact this
theorem w_int' {n : Int} (hn : inN63 n) (hb : l.length + (eN n).length ≤ 140737488300000) : ∃ t, (run Tryz.prog (libL libT) hints) 88 [wP N, .int .i64 n] s = some (unitV, t) ∧ WAp lo N s t (l ++ eN n) := by
  obtain ⟨x, h⟩ := h
  have := w_int h hs (n := n.toNat) (by have := hn.1; have := hn.2; omega) (by unfold eN at hb; omega)
  rw [Int.toNat_of_nonneg hn.1] at this
  exact this
theorem w_text' {k : BL} (hb : l.length + (tB k).length ≤ 140737488300000) : ∃ t, (run Tryz.prog (libL libT) hints) 90 [wP N, sv k] s = some (unitV, t) ∧ WAp lo N s t (l ++ tB k) := by
  obtain ⟨x, h⟩ := h
  exact w_text h hs hb
theorem w_flag' (b : Bool) (hb : l.length + 1 ≤ 140737488300000) : ∃ t, (run Tryz.prog (libL libT) hints) 134 [wP N, .bool b] s = some (unitV, t) ∧ WAp lo N s t (l ++ [if b = true then 1 else 0]) := by
  obtain ⟨x, h⟩ := h
  exact w_flag h hs b (by omega)
end
theorem WAp.lo_le {lo N : Nat} {s t : St} {m : BL} (h : WAp lo N s t m) (hs : lo ≤ s.heap.length) : lo ≤ t.heap.length := Nat.le_trans hs (h.ext hs).1
section
variable {lo N : Nat} {s : St} {l : BL} (h : ∃ x, Wt lo N s x l) (hs : lo ≤ s.heap.length)
include h hs
theorem w_span {r : Rg} (hb : l.length + (ePr r).length ≤ 140737488300000) : ∃ t, (run Tryz.prog (libL libT) hints) 26 [wP N, rv r] s = some (unitV, t) ∧ WAp lo N s t (l ++ ePr r) := by
  unfold ePr at hb
  rw [List.length_append] at hb
  obtain ⟨t1, g1, g2⟩ := w_text' h hs (k := r.1) (by omega)
  obtain ⟨t2, f1, f2⟩ := w_text' g2.wt (g2.lo_le hs) (k := r.2) (by rw [List.length_append]; omega)
  have hb : lbox (rv r) = some (rv r) := rfl
  have l0 : lload false 1 lptr (rv r) = some (sv r.1) := rfl
  have l1 : lload false 1 (.pointer (some ⟨0, 1, none⟩)) (rv r) = some (sv r.2) := rfl
  refine ⟨t2, record_writer_span_of rfl ?_, by unfold ePr; rw [← List.append_assoc]; exact g2.trans f2⟩
  unfold record_writer_span
  simp only [hb, l0, l1, record_writer_text_call, g1, f1, ret_0, n_bind, n_map, getL_0, getL_1, getL_2, getL_3, getL_4, getL_5, getL_6, getL_7, getL_8, getL_9, getL_10, getL_11, getL_12, condV_t, condV_f, guardV_tt, guardV_ff, guardV_tf, guardV_ft, guardV_u, apick_t, apick_f, exV_exit, exV_ret, lookE_same, joinK_eq, seqA_n, seqA_e, seqA_r, e_add, e_sub, e_mul, e_eql, e_neq, e_lss, e_leq, e_gtr, e_geq, e_conv, e_not, e_neg, and_guard, or_guard]
theorem w_pair {r : Rg} (hb : l.length + (ePr r).length ≤ 140737488300000) : ∃ t, (run Tryz.prog (libL libT) hints) 136 [wP N, rv r] s = some (unitV, t) ∧ WAp lo N s t (l ++ ePr r) := by
  unfold ePr at hb
  rw [List.length_append] at hb
  obtain ⟨t1, g1, g2⟩ := w_text' h hs (k := r.1) (by omega)
  obtain ⟨t2, f1, f2⟩ := w_text' g2.wt (g2.lo_le hs) (k := r.2) (by rw [List.length_append]; omega)
  have hb : lbox (rv r) = some (rv r) := rfl
  have l0 : lload false 1 lptr (rv r) = some (sv r.1) := rfl
  have l1 : lload false 1 (.pointer (some ⟨0, 1, none⟩)) (rv r) = some (sv r.2) := rfl
  refine ⟨t2, record_writer_pair_of rfl ?_, by unfold ePr; rw [← List.append_assoc]; exact g2.trans f2⟩
  unfold record_writer_pair
  simp only [hb, l0, l1, record_writer_text_call, g1, f1, ret_0, n_bind, n_map, getL_0, getL_1, getL_2, getL_3, getL_4, getL_5, getL_6, getL_7, getL_8, getL_9, getL_10, getL_11, getL_12, condV_t, condV_f, guardV_tt, guardV_ff, guardV_tf, guardV_ft, guardV_u, apick_t, apick_f, exV_exit, exV_ret, lookE_same, joinK_eq, seqA_n, seqA_e, seqA_r, e_add, e_sub, e_mul, e_eql, e_neq, e_lss, e_leq, e_gtr, e_geq, e_conv, e_not, e_neg, and_guard, or_guard]
theorem w_owner {o : Ow} (ho : inN63 o.2) (hb : l.length + (eOw o).length ≤ 140737488300000) : ∃ t, (run Tryz.prog (libL libT) hints) 21 [wP N, owV o] s = some (unitV, t) ∧ WAp lo N s t (l ++ eOw o) := by
  unfold eOw at hb
  rw [List.length_append] at hb
  obtain ⟨t1, g1, g2⟩ := w_text' h hs (k := o.1) (by omega)
  obtain ⟨t2, f1, f2⟩ := w_int' g2.wt (g2.lo_le hs) (n := o.2) ho (by rw [List.length_append]; omega)
  refine ⟨t2, record_writer_owner_of rfl ?_, by unfold eOw; rw [← List.append_assoc]; exact g2.trans f2⟩
  unfold record_writer_owner
  simp only [w_box, w_0, w_1, record_writer_text_call, g1, record_writer_int_call, f1, ret_0, n_bind, n_map, getL_0, getL_1, getL_2, getL_3, getL_4, getL_5, getL_6, getL_7, getL_8, getL_9, getL_10, getL_11, getL_12, condV_t, condV_f, guardV_tt, guardV_ff, guardV_tf, guardV_ft, guardV_u, apick_t, apick_f, exV_exit, exV_ret, lookE_same, joinK_eq, seqA_n, seqA_e, seqA_r, e_add, e_sub, e_mul, e_eql, e_neq, e_lss, e_leq, e_gtr, e_geq, e_conv, e_not, e_neg, and_guard, or_guard]
end

end Go.Proofs.YtckpcelchhmjcaaGreat.Ab

/- Bytes are written: lists of each kind. -/
namespace Go.Proofs.YtckpcelchhmjcaaGreat.Ab
open Go

theorem ext_loadW {s0 t : St} (hx : Ext s0.heap.length s0 t) {ag : Bool} {n : Nat} {p u : Value} (h : aload ag n p s0 = some u) : aload ag n p t = some u := by
  unfold aload at h ⊢
  split at h
  · rename_i b off
    cases ag with
    | true =>
      simp only [if_true, Option.map_eq_some_iff] at h ⊢
      obtain ⟨cs, h1, h2⟩ := h
      refine ⟨cs, ?_, h2⟩
      unfold Ab.readN at h1 ⊢
      simp only [Option.bind_eq_some_iff] at h1 ⊢
      obtain ⟨r, g1, g2⟩ := h1
      exact ⟨r, by rw [Ext.readRow hx (readRow_lt g1)]; exact g1, g2⟩
    | false =>
      simp only [Bool.false_eq_true, if_false, Option.bind_eq_some_iff] at h ⊢
      obtain ⟨r, g1, g2⟩ := h
      exact ⟨r, by rw [Ext.readRow hx (readRow_lt g1)]; exact g1, g2⟩
  · cases h
theorem elems_arg {α : Type} {C : NCod α} {B lo N n : Nat} {ag : Bool} {s0 s1 : St} {v : Value} {l : List α} (h : ListN C B l s0 v) (hlo : s0.heap.length = lo) (hx : Ext lo s0 s1) (hn : n = C.n) (hag : ag = true ∨ n = 1) : Elems lo N s1 n ag v l fun a cs => C.rel a s0 cs := by
  refine ⟨fun ty t => listN_lenR h ty t, fun i hi => ?_⟩
  obtain ⟨p, u, cs, h1, h2, _, h3, h4⟩ := listN_get h hi hn hag
  subst hlo
  exact ⟨p, u, cs, h1, h3, h4, fun t m hw => ext_loadW (hx.trans (hw.ext hx.1)) h2⟩
theorem elems_tmp {α : Type} {lo N : Nat} {s : St} {l0 : BL} {ls : List α} (f : α → Value) (hw : ∃ x, Wt lo N s x l0) : Elems lo N (s.push (.row 1 (ls.map f) .act)) 1 false (.slice (some ⟨s.heap.length, 0, none⟩) ls.length ls.length) ls fun a cs => cs = [f a] := by
  obtain ⟨x, hw⟩ := hw
  refine ⟨fun ty t => rfl, fun i hi => ⟨.pointer (some ⟨s.heap.length, i, none⟩), f ls[i], [f ls[i]], by simp [aindexS]; omega, rfl, rfl, fun t m h => ?_⟩⟩
  have hN := (List.getElem?_eq_some_iff.1 hw.2.1).1
  have hP := h.get push_get (by omega) fun x' hx' e => by
    obtain rfl : x = x' := by
      have := (hw.push (B := .row 1 (ls.map f) .act)).2.1.symm.trans hx'
      simpa using this
    have := (hw.2.2.1.blk _ e).2
    omega
  exact ld_cell hP (by simp) (by rw [List.getElem?_map, List.getElem?_eq_getElem hi]; rfl)
theorem wt_push {lo N : Nat} {s : St} {l : BL} {B : Blk} (h : ∃ x, Wt lo N s x l) : ∃ x, Wt lo N (s.push B) x l := by
  obtain ⟨x, h⟩ := h
  exact ⟨x, h.push⟩
theorem wap_push {lo N : Nat} {s t : St} {l m : BL} {B : Blk} (h : ∃ x, Wt lo N s x l) (g : WAp lo N (s.push B) t m) : WAp lo N s t m := by
  obtain ⟨x, h⟩ := h
  exact .push h g
theorem wap_start {lo N : Nat} {s : St} {l : BL} (h : ∃ x, Wt lo N s x l) : WAp lo N s s l := by
  obtain ⟨x, h⟩ := h
  exact h.start
abbrev mv (f : FuncId) (N : Nat) : Value := .func (.func f) #[wP N] #[]
theorem call_mv {f : FuncId} {N : Nat} (h : funcOk Tryz.prog f = true) {u : Value} {s : St} : callV Tryz.prog (run Tryz.prog (libL libT) hints) (mv f N) [u] s = (run Tryz.prog (libL libT) hints) f [wP N, u] s := call_cap (fs := [wP N]) (cs := []) h
theorem eN_nat (n : Nat) : eN (n : Int) = enc n := by unfold eN; rw [Int.toNat_natCast]

theorem wl_api_Owner {α : Type} {lo N : Nat} {s : St} {m : BL} {v fv : Value} {ls : List α} {f : α → BL} {Rel : α → List Value → Prop} (h : ∃ x, Wt lo N s x m) (hs : lo ≤ s.heap.length) (hL : Elems lo N s 2 true v ls Rel) (hl : ls.length < 140737488355328) (hleaf : ∀ a cs, Rel a cs → cs.length = 2 ∧ cs.all isLeaf = true) (hp : Puts lo N s Rel true ls fv f) (hb : m.length + (eList f ls).length ≤ 140737488300000) :
    ∃ t, (run Tryz.prog (libL libT) hints) 20 [wP N, v, fv] s = some (unitV, t) ∧ WAp lo N s t (m ++ eList f ls) := by
  unfold eList at hb ⊢
  rw [List.length_append] at hb
  obtain ⟨t1, g1, g2⟩ := w_int' h hs (n := ((ls.length : Nat) : Int)) ⟨by omega, by omega⟩ (by rw [eN_nat]; omega)
  rw [eN_nat] at g2
  obtain ⟨t2, f1, f2⟩ := rowsS_gen (zs := [.string ⟨#[]⟩, .int .i64 0]) (t1 := 54) hl hL rfl hleaf hp g2 (by rw [List.length_append]; omega)
  have f3 := record_rows_api_Owner_of (lib := libL libT) (x0 := wP N) rfl f1
  refine ⟨t2, record_list_api_Owner_of rfl ?_, by rw [← List.append_assoc]; exact g2.trans f2⟩
  unfold record_list_api_Owner
  simp only [hL.1, record_writer_int_call, g1, record_rows_api_Owner_call, f3, ret_0, n_bind, n_map, getL_0, getL_1, getL_2, getL_3, getL_4, getL_5, getL_6, getL_7, getL_8, getL_9, getL_10, getL_11, getL_12, condV_t, condV_f, guardV_tt, guardV_ff, guardV_tf, guardV_ft, guardV_u, apick_t, apick_f, exV_exit, exV_ret, lookE_same, joinK_eq, seqA_n, seqA_e, seqA_r, e_add, e_sub, e_mul, e_eql, e_neq, e_lss, e_leq, e_gtr, e_geq, e_conv, e_not, e_neg, and_guard, or_guard]
theorem wl_api_Hold {α : Type} {lo N : Nat} {s : St} {m : BL} {v fv : Value} {ls : List α} {f : α → BL} {Rel : α → List Value → Prop} (h : ∃ x, Wt lo N s x m) (hs : lo ≤ s.heap.length) (hL : Elems lo N s 2 true v ls Rel) (hl : ls.length < 140737488355328) (hleaf : ∀ a cs, Rel a cs → cs.length = 2 ∧ cs.all isLeaf = true) (hp : Puts lo N s Rel true ls fv f) (hb : m.length + (eList f ls).length ≤ 140737488300000) :
    ∃ t, (run Tryz.prog (libL libT) hints) 22 [wP N, v, fv] s = some (unitV, t) ∧ WAp lo N s t (m ++ eList f ls) := by
  unfold eList at hb ⊢
  rw [List.length_append] at hb
  obtain ⟨t1, g1, g2⟩ := w_int' h hs (n := ((ls.length : Nat) : Int)) ⟨by omega, by omega⟩ (by rw [eN_nat]; omega)
  rw [eN_nat] at g2
  obtain ⟨t2, f1, f2⟩ := rowsS_gen (zs := [.int .u64 0, .slice none 0 0]) (t1 := 64) hl hL rfl hleaf hp g2 (by rw [List.length_append]; omega)
  have f3 := record_rows_api_Hold_of (lib := libL libT) (x0 := wP N) rfl f1
  refine ⟨t2, record_list_api_Hold_of rfl ?_, by rw [← List.append_assoc]; exact g2.trans f2⟩
  unfold record_list_api_Hold
  simp only [hL.1, record_writer_int_call, g1, record_rows_api_Hold_call, f3, ret_0, n_bind, n_map, getL_0, getL_1, getL_2, getL_3, getL_4, getL_5, getL_6, getL_7, getL_8, getL_9, getL_10, getL_11, getL_12, condV_t, condV_f, guardV_tt, guardV_ff, guardV_tf, guardV_ft, guardV_u, apick_t, apick_f, exV_exit, exV_ret, lookE_same, joinK_eq, seqA_n, seqA_e, seqA_r, e_add, e_sub, e_mul, e_eql, e_neq, e_lss, e_leq, e_gtr, e_geq, e_conv, e_not, e_neg, and_guard, or_guard]
theorem wl_uint64 {α : Type} {lo N : Nat} {s : St} {m : BL} {v fv : Value} {ls : List α} {f : α → BL} {Rel : α → List Value → Prop} (h : ∃ x, Wt lo N s x m) (hs : lo ≤ s.heap.length) (hL : Elems lo N s 1 false v ls Rel) (hl : ls.length < 140737488355328) (hp : Puts lo N s Rel false ls fv f) (hb : m.length + (eList f ls).length ≤ 140737488300000) :
    ∃ t, (run Tryz.prog (libL libT) hints) 24 [wP N, v, fv] s = some (unitV, t) ∧ WAp lo N s t (m ++ eList f ls) := by
  unfold eList at hb ⊢
  rw [List.length_append] at hb
  obtain ⟨t1, g1, g2⟩ := w_int' h hs (n := ((ls.length : Nat) : Int)) ⟨by omega, by omega⟩ (by rw [eN_nat]; omega)
  rw [eN_nat] at g2
  obtain ⟨t2, f1, f2⟩ := rowsI_gen (t1 := 22) hl hL hp g2 (by rw [List.length_append]; omega)
  have f3 := record_rows_uint64_of (lib := libL libT) (x0 := wP N) rfl f1
  refine ⟨t2, record_list_uint64_of rfl ?_, by rw [← List.append_assoc]; exact g2.trans f2⟩
  unfold record_list_uint64
  simp only [hL.1, record_writer_int_call, g1, record_rows_uint64_call, f3, ret_0, n_bind, n_map, getL_0, getL_1, getL_2, getL_3, getL_4, getL_5, getL_6, getL_7, getL_8, getL_9, getL_10, getL_11, getL_12, condV_t, condV_f, guardV_tt, guardV_ff, guardV_tf, guardV_ft, guardV_u, apick_t, apick_f, exV_exit, exV_ret, lookE_same, joinK_eq, seqA_n, seqA_e, seqA_r, e_add, e_sub, e_mul, e_eql, e_neq, e_lss, e_leq, e_gtr, e_geq, e_conv, e_not, e_neg, and_guard, or_guard]
theorem wl_api_Op {α : Type} {lo N : Nat} {s : St} {m : BL} {v fv : Value} {ls : List α} {f : α → BL} {Rel : α → List Value → Prop} (h : ∃ x, Wt lo N s x m) (hs : lo ≤ s.heap.length) (hL : Elems lo N s 6 true v ls Rel) (hl : ls.length < 140737488355328) (hleaf : ∀ a cs, Rel a cs → cs.length = 6 ∧ cs.all isLeaf = true) (hp : Puts lo N s Rel true ls fv f) (hb : m.length + (eList f ls).length ≤ 140737488300000) :
    ∃ t, (run Tryz.prog (libL libT) hints) 92 [wP N, v, fv] s = some (unitV, t) ∧ WAp lo N s t (m ++ eList f ls) := by
  unfold eList at hb ⊢
  rw [List.length_append] at hb
  obtain ⟨t1, g1, g2⟩ := w_int' h hs (n := ((ls.length : Nat) : Int)) ⟨by omega, by omega⟩ (by rw [eN_nat]; omega)
  rw [eN_nat] at g2
  obtain ⟨t2, f1, f2⟩ := rowsS_gen (zs := [.int .i64 0, .string ⟨#[]⟩, .string ⟨#[]⟩, .string ⟨#[]⟩, .string ⟨#[]⟩, .int .i64 0]) (t1 := 72) hl hL rfl hleaf hp g2 (by rw [List.length_append]; omega)
  have f3 := record_rows_api_Op_of (lib := libL libT) (x0 := wP N) rfl f1
  refine ⟨t2, record_list_api_Op_of rfl ?_, by rw [← List.append_assoc]; exact g2.trans f2⟩
  unfold record_list_api_Op
  simp only [hL.1, record_writer_int_call, g1, record_rows_api_Op_call, f3, ret_0, n_bind, n_map, getL_0, getL_1, getL_2, getL_3, getL_4, getL_5, getL_6, getL_7, getL_8, getL_9, getL_10, getL_11, getL_12, condV_t, condV_f, guardV_tt, guardV_ff, guardV_tf, guardV_ft, guardV_u, apick_t, apick_f, exV_exit, exV_ret, lookE_same, joinK_eq, seqA_n, seqA_e, seqA_r, e_add, e_sub, e_mul, e_eql, e_neq, e_lss, e_leq, e_gtr, e_geq, e_conv, e_not, e_neg, and_guard, or_guard]
theorem wl_api_Decision {α : Type} {lo N : Nat} {s : St} {m : BL} {v fv : Value} {ls : List α} {f : α → BL} {Rel : α → List Value → Prop} (h : ∃ x, Wt lo N s x m) (hs : lo ≤ s.heap.length) (hL : Elems lo N s 5 true v ls Rel) (hl : ls.length < 140737488355328) (hleaf : ∀ a cs, Rel a cs → cs.length = 5 ∧ cs.all isLeaf = true) (hp : Puts lo N s Rel true ls fv f) (hb : m.length + (eList f ls).length ≤ 140737488300000) :
    ∃ t, (run Tryz.prog (libL libT) hints) 30 [wP N, v, fv] s = some (unitV, t) ∧ WAp lo N s t (m ++ eList f ls) := by
  unfold eList at hb ⊢
  rw [List.length_append] at hb
  obtain ⟨t1, g1, g2⟩ := w_int' h hs (n := ((ls.length : Nat) : Int)) ⟨by omega, by omega⟩ (by rw [eN_nat]; omega)
  rw [eN_nat] at g2
  obtain ⟨t2, f1, f2⟩ := rowsS_gen (zs := [.int .u64 0, .int .i64 0, .int .u64 0, .int .u64 0, .slice none 0 0]) (t1 := 77) hl hL rfl hleaf hp g2 (by rw [List.length_append]; omega)
  have f3 := record_rows_api_Decision_of (lib := libL libT) (x0 := wP N) rfl f1
  refine ⟨t2, record_list_api_Decision_of rfl ?_, by rw [← List.append_assoc]; exact g2.trans f2⟩
  unfold record_list_api_Decision
  simp only [hL.1, record_writer_int_call, g1, record_rows_api_Decision_call, f3, ret_0, n_bind, n_map, getL_0, getL_1, getL_2, getL_3, getL_4, getL_5, getL_6, getL_7, getL_8, getL_9, getL_10, getL_11, getL_12, condV_t, condV_f, guardV_tt, guardV_ff, guardV_tf, guardV_ft, guardV_u, apick_t, apick_f, exV_exit, exV_ret, lookE_same, joinK_eq, seqA_n, seqA_e, seqA_r, e_add, e_sub, e_mul, e_eql, e_neq, e_lss, e_leq, e_gtr, e_geq, e_conv, e_not, e_neg, and_guard, or_guard]
theorem wl_int {α : Type} {lo N : Nat} {s : St} {m : BL} {v fv : Value} {ls : List α} {f : α → BL} {Rel : α → List Value → Prop} (h : ∃ x, Wt lo N s x m) (hs : lo ≤ s.heap.length) (hL : Elems lo N s 1 false v ls Rel) (hl : ls.length < 140737488355328) (hp : Puts lo N s Rel false ls fv f) (hb : m.length + (eList f ls).length ≤ 140737488300000) :
    ∃ t, (run Tryz.prog (libL libT) hints) 98 [wP N, v, fv] s = some (unitV, t) ∧ WAp lo N s t (m ++ eList f ls) := by
  unfold eList at hb ⊢
  rw [List.length_append] at hb
  obtain ⟨t1, g1, g2⟩ := w_int' h hs (n := ((ls.length : Nat) : Int)) ⟨by omega, by omega⟩ (by rw [eN_nat]; omega)
  rw [eN_nat] at g2
  obtain ⟨t2, f1, f2⟩ := rowsI_gen (t1 := 3) hl hL hp g2 (by rw [List.length_append]; omega)
  have f3 := record_rows_int_of (lib := libL libT) (x0 := wP N) rfl f1
  refine ⟨t2, record_list_int_of rfl ?_, by rw [← List.append_assoc]; exact g2.trans f2⟩
  unfold record_list_int
  simp only [hL.1, record_writer_int_call, g1, record_rows_int_call, f3, ret_0, n_bind, n_map, getL_0, getL_1, getL_2, getL_3, getL_4, getL_5, getL_6, getL_7, getL_8, getL_9, getL_10, getL_11, getL_12, condV_t, condV_f, guardV_tt, guardV_ff, guardV_tf, guardV_ft, guardV_u, apick_t, apick_f, exV_exit, exV_ret, lookE_same, joinK_eq, seqA_n, seqA_e, seqA_r, e_add, e_sub, e_mul, e_eql, e_neq, e_lss, e_leq, e_gtr, e_geq, e_conv, e_not, e_neg, and_guard, or_guard]
theorem wl_api_Last {α : Type} {lo N : Nat} {s : St} {m : BL} {v fv : Value} {ls : List α} {f : α → BL} {Rel : α → List Value → Prop} (h : ∃ x, Wt lo N s x m) (hs : lo ≤ s.heap.length) (hL : Elems lo N s 4 true v ls Rel) (hl : ls.length < 140737488355328) (hleaf : ∀ a cs, Rel a cs → cs.length = 4 ∧ cs.all isLeaf = true) (hp : Puts lo N s Rel true ls fv f) (hb : m.length + (eList f ls).length ≤ 140737488300000) :
    ∃ t, (run Tryz.prog (libL libT) hints) 32 [wP N, v, fv] s = some (unitV, t) ∧ WAp lo N s t (m ++ eList f ls) := by
  unfold eList at hb ⊢
  rw [List.length_append] at hb
  obtain ⟨t1, g1, g2⟩ := w_int' h hs (n := ((ls.length : Nat) : Int)) ⟨by omega, by omega⟩ (by rw [eN_nat]; omega)
  rw [eN_nat] at g2
  obtain ⟨t2, f1, f2⟩ := rowsS_gen (zs := [.int .i64 0, .int .u64 0, .int .u64 0, .slice none 0 0]) (t1 := 82) hl hL rfl hleaf hp g2 (by rw [List.length_append]; omega)
  have f3 := record_rows_api_Last_of (lib := libL libT) (x0 := wP N) rfl f1
  refine ⟨t2, record_list_api_Last_of rfl ?_, by rw [← List.append_assoc]; exact g2.trans f2⟩
  unfold record_list_api_Last
  simp only [hL.1, record_writer_int_call, g1, record_rows_api_Last_call, f3, ret_0, n_bind, n_map, getL_0, getL_1, getL_2, getL_3, getL_4, getL_5, getL_6, getL_7, getL_8, getL_9, getL_10, getL_11, getL_12, condV_t, condV_f, guardV_tt, guardV_ff, guardV_tf, guardV_ft, guardV_u, apick_t, apick_f, exV_exit, exV_ret, lookE_same, joinK_eq, seqA_n, seqA_e, seqA_r, e_add, e_sub, e_mul, e_eql, e_neq, e_lss, e_leq, e_gtr, e_geq, e_conv, e_not, e_neg, and_guard, or_guard]
theorem wl_api_Result {α : Type} {lo N : Nat} {s : St} {m : BL} {v fv : Value} {ls : List α} {f : α → BL} {Rel : α → List Value → Prop} (h : ∃ x, Wt lo N s x m) (hs : lo ≤ s.heap.length) (hL : Elems lo N s 3 true v ls Rel) (hl : ls.length < 140737488355328) (hleaf : ∀ a cs, Rel a cs → cs.length = 3 ∧ cs.all isLeaf = true) (hp : Puts lo N s Rel true ls fv f) (hb : m.length + (eList f ls).length ≤ 140737488300000) :
    ∃ t, (run Tryz.prog (libL libT) hints) 100 [wP N, v, fv] s = some (unitV, t) ∧ WAp lo N s t (m ++ eList f ls) := by
  unfold eList at hb ⊢
  rw [List.length_append] at hb
  obtain ⟨t1, g1, g2⟩ := w_int' h hs (n := ((ls.length : Nat) : Int)) ⟨by omega, by omega⟩ (by rw [eN_nat]; omega)
  rw [eN_nat] at g2
  obtain ⟨t2, f1, f2⟩ := rowsS_gen (zs := [.bool false, .string ⟨#[]⟩, .slice none 0 0]) (t1 := 146) hl hL rfl hleaf hp g2 (by rw [List.length_append]; omega)
  have f3 := record_rows_api_Result_of (lib := libL libT) (x0 := wP N) rfl f1
  refine ⟨t2, record_list_api_Result_of rfl ?_, by rw [← List.append_assoc]; exact g2.trans f2⟩
  unfold record_list_api_Result
  simp only [hL.1, record_writer_int_call, g1, record_rows_api_Result_call, f3, ret_0, n_bind, n_map, getL_0, getL_1, getL_2, getL_3, getL_4, getL_5, getL_6, getL_7, getL_8, getL_9, getL_10, getL_11, getL_12, condV_t, condV_f, guardV_tt, guardV_ff, guardV_tf, guardV_ft, guardV_u, apick_t, apick_f, exV_exit, exV_ret, lookE_same, joinK_eq, seqA_n, seqA_e, seqA_r, e_add, e_sub, e_mul, e_eql, e_neq, e_lss, e_leq, e_gtr, e_geq, e_conv, e_not, e_neg, and_guard, or_guard]
theorem wl_api_Pair {α : Type} {lo N : Nat} {s : St} {m : BL} {v fv : Value} {ls : List α} {f : α → BL} {Rel : α → List Value → Prop} (h : ∃ x, Wt lo N s x m) (hs : lo ≤ s.heap.length) (hL : Elems lo N s 2 true v ls Rel) (hl : ls.length < 140737488355328) (hleaf : ∀ a cs, Rel a cs → cs.length = 2 ∧ cs.all isLeaf = true) (hp : Puts lo N s Rel true ls fv f) (hb : m.length + (eList f ls).length ≤ 140737488300000) :
    ∃ t, (run Tryz.prog (libL libT) hints) 135 [wP N, v, fv] s = some (unitV, t) ∧ WAp lo N s t (m ++ eList f ls) := by
  unfold eList at hb ⊢
  rw [List.length_append] at hb
  obtain ⟨t1, g1, g2⟩ := w_int' h hs (n := ((ls.length : Nat) : Int)) ⟨by omega, by omega⟩ (by rw [eN_nat]; omega)
  rw [eN_nat] at g2
  obtain ⟨t2, f1, f2⟩ := rowsS_gen (zs := [.string ⟨#[]⟩, .string ⟨#[]⟩]) (t1 := 150) hl hL rfl hleaf hp g2 (by rw [List.length_append]; omega)
  have f3 := record_rows_api_Pair_of (lib := libL libT) (x0 := wP N) rfl f1
  refine ⟨t2, record_list_api_Pair_of rfl ?_, by rw [← List.append_assoc]; exact g2.trans f2⟩
  unfold record_list_api_Pair
  simp only [hL.1, record_writer_int_call, g1, record_rows_api_Pair_call, f3, ret_0, n_bind, n_map, getL_0, getL_1, getL_2, getL_3, getL_4, getL_5, getL_6, getL_7, getL_8, getL_9, getL_10, getL_11, getL_12, condV_t, condV_f, guardV_tt, guardV_ff, guardV_tf, guardV_ft, guardV_u, apick_t, apick_f, exV_exit, exV_ret, lookE_same, joinK_eq, seqA_n, seqA_e, seqA_r, e_add, e_sub, e_mul, e_eql, e_neq, e_lss, e_leq, e_gtr, e_geq, e_conv, e_not, e_neg, and_guard, or_guard]

/-! ### Several numbers -/
theorem puts_num {lo N : Nat} {s1 : St} (hs : lo ≤ s1.heap.length) {ls : List Int} (hp : ∀ a ∈ ls, inN64 a) {Rel : Int → List Value → Prop} (hR : ∀ a cs, Rel a cs → cs = [.int .u64 a]) : Puts lo N s1 Rel false ls (mv 25 N) eN := by
  intro a ha t m u cs hw hr hsh hb
  have hsh : cs = [u] := hsh
  subst hsh
  obtain rfl : u = .int .u64 a := (List.cons.inj (hR a _ hr)).1
  obtain ⟨t', g1, g2⟩ := w_num' hw.wt (hw.lo_le hs) (hp a ha) hb
  exact ⟨t', by rw [call_mv record_writer_num_ok]; exact g1, g2⟩
theorem puts_int {lo N : Nat} {s1 : St} (hs : lo ≤ s1.heap.length) {ls : List Int} (hp : ∀ a ∈ ls, inN63 a) {Rel : Int → List Value → Prop} (hR : ∀ a cs, Rel a cs → cs = [.int .i64 a]) : Puts lo N s1 Rel false ls (mv 88 N) eN := by
  intro a ha t m u cs hw hr hsh hb
  have hsh : cs = [u] := hsh
  subst hsh
  obtain rfl : u = .int .i64 a := (List.cons.inj (hR a _ hr)).1
  obtain ⟨t', g1, g2⟩ := w_int' hw.wt (hw.lo_le hs) (hp a ha) hb
  exact ⟨t', by rw [call_mv record_writer_int_ok]; exact g1, g2⟩
theorem w_nums {lo N : Nat} {s : St} {l : BL} (h : ∃ x, Wt lo N s x l) (hs : lo ≤ s.heap.length) {ls : List Int} {k : Nat} (hk : ls.length = k) (hl : ls.length < 1000) (hp : ∀ a ∈ ls, inN64 a) (hb : l.length + (ls.flatMap eN).length ≤ 140737488300000) :
    ∃ t, (run Tryz.prog (libL libT) hints) 19 [wP N, .slice (some ⟨s.heap.length, 0, none⟩) k k] (s.push (.row 1 (ls.map fun a => .int .u64 a) .act)) = some (unitV, t) ∧ WAp lo N s t (l ++ ls.flatMap eN) := by
  subst hk
  have hs1 : lo ≤ (s.push (.row 1 (ls.map fun a => Value.int .u64 a) .act)).heap.length := by rw [push_len]; omega
  obtain ⟨t, h1, h2⟩ := rowsI_gen (t1 := 22) (by omega) (elems_tmp (fun a : Int => Value.int .u64 a) h) (puts_num hs1 hp fun a cs h => h) (wap_start (wt_push h)) hb
  have h3 := record_rows_uint64_of (lib := libL libT) (x0 := wP N) rfl h1
  have hmk : amkFunc 25 [wP N] [] = some (mv 25 N) := rfl
  refine ⟨t, record_writer_nums_of rfl ?_, wap_push h h2⟩
  unfold record_writer_nums
  simp only [hmk, record_rows_uint64_call, h3, ret_0, n_bind, n_map, getL_0, getL_1, getL_2, getL_3, getL_4, getL_5, getL_6, getL_7, getL_8, getL_9, getL_10, getL_11, getL_12, condV_t, condV_f, guardV_tt, guardV_ff, guardV_tf, guardV_ft, guardV_u, apick_t, apick_f, exV_exit, exV_ret, lookE_same, joinK_eq, seqA_n, seqA_e, seqA_r, e_add, e_sub, e_mul, e_eql, e_neq, e_lss, e_leq, e_gtr, e_geq, e_conv, e_not, e_neg, and_guard, or_guard]

/-! ### An operation -/
def okOp (o : OpT) : Prop := inN63 o.kind ∧ inN63 o.most
theorem op_loop {lo N : Nat} {s1 : St} {v V : Value} {ks : List BL} (hL : Elems lo N s1 1 false v ks fun k cs => cs = [sv k]) (hl : ks.length < 1000) : ∀ (rest : List BL) (i : Nat) (t : St) (m : BL), ks.drop i = rest → i ≤ ks.length → lo ≤ s1.heap.length → WAp lo N s1 t m → m.length + (rest.flatMap tB).length ≤ 140737488300000 →
    ∃ t', loopL (record_writer_op.b0 (run Tryz.prog (libL libT) hints)) [wP N, lptr, v, .int .i64 ((ks.length : Nat) : Int), .int .i64 (i : Int), V] t = some (.exit 0, [wP N, lptr, V], t') ∧ WAp lo N t t' (m ++ rest.flatMap tB) := by
  intro rest
  induction rest with
  | nil =>
    intro i t m hi hle hs hw hb
    have h1 : decide ((i : Int) < ((ks.length : Nat) : Int)) = false := by
      have := List.drop_eq_nil_iff.1 hi
      simp; omega
    refine ⟨t, ?_, by rw [List.flatMap_nil, List.append_nil]; exact wap_start hw.wt⟩
    rw [loopL_eq]
    simp only [record_writer_op.b0, h1, n_bind, n_map, getL_0, getL_1, getL_2, getL_3, getL_4, getL_5, getL_6, getL_7, getL_8, getL_9, getL_10, getL_11, getL_12, condV_t, condV_f, guardV_tt, guardV_ff, guardV_tf, guardV_ft, guardV_u, apick_t, apick_f, exV_exit, exV_ret, lookE_same, joinK_eq, seqA_n, seqA_e, seqA_r, e_add, e_sub, e_mul, e_eql, e_neq, e_lss, e_leq, e_gtr, e_geq, e_conv, e_not, e_neg, and_guard, or_guard]
  | cons a rest ih =>
    intro i t m hi hle hs hw hb
    obtain ⟨hlt, he, hd⟩ := drop_nx hi
    have h1 : decide ((i : Int) < ((ks.length : Nat) : Int)) = true := by simp; omega
    obtain ⟨q, u, cs, h2, h4, h5, h3⟩ := hL.2 i hlt
    have h3 := h3 t m hw
    have h4 : cs = [u] := h4
    subst h4
    rw [he] at h5
    obtain rfl : u = sv a := (List.cons.inj h5).1
    rw [fm_consW, List.length_append] at hb
    obtain ⟨t1, g1, g2⟩ := w_text' hw.wt (hw.lo_le hs) (k := a) (by omega)
    obtain ⟨t2, f1, f2⟩ := ih (i + 1) t1 (m ++ tB a) hd (by omega) hs (hw.trans g2) (by rw [List.length_append]; omega)
    refine ⟨t2, ?_, by rw [fm_consW, ← List.append_assoc]; exact g2.trans f2⟩
    rw [loopL_eq]
    simp only [record_writer_op.b0, h1, h2, h3, record_writer_text_call, g1, inc_i (show i < 140737488355328 by omega), n_bind, n_map, getL_0, getL_1, getL_2, getL_3, getL_4, getL_5, getL_6, getL_7, getL_8, getL_9, getL_10, getL_11, getL_12, condV_t, condV_f, guardV_tt, guardV_ff, guardV_tf, guardV_ft, guardV_u, apick_t, apick_f, exV_exit, exV_ret, lookE_same, joinK_eq, seqA_n, seqA_e, seqA_r, e_add, e_sub, e_mul, e_eql, e_neq, e_lss, e_leq, e_gtr, e_geq, e_conv, e_not, e_neg, and_guard, or_guard]
    exact f1
theorem w_op {lo N : Nat} {s : St} {l : BL} (h : ∃ x, Wt lo N s x l) (hs : lo ≤ s.heap.length) {o : OpT} (ho : okOp o) (hb : l.length + (eOp o).length ≤ 140737488300000) : ∃ t, (run Tryz.prog (libL libT) hints) 93 [wP N, oV o] s = some (unitV, t) ∧ WAp lo N s t (l ++ eOp o) := by
  have he : eOp o = eN o.kind ++ ([o.key, o.val, o.lo, o.hi].flatMap tB ++ eN o.most) := by simp [eOp]
  rw [he] at hb ⊢
  rw [List.length_append, List.length_append] at hb
  obtain ⟨t1, g1, g2⟩ := w_int' h hs ho.1 (by omega)
  have hs1 := g2.lo_le hs
  obtain ⟨t2, f1, f2⟩ := op_loop (v := .slice (some ⟨t1.heap.length, 0, none⟩) 4 4) (V := oV o) (elems_tmp (ls := [o.key, o.val, o.lo, o.hi]) sv g2.wt) (by simp) [o.key, o.val, o.lo, o.hi] 0 (t1.push (.row 1 ([o.key, o.val, o.lo, o.hi].map sv) .act)) (l ++ eN o.kind) rfl (Nat.zero_le _) (by rw [push_len]; omega) (wap_start (wt_push g2.wt)) (by rw [List.length_append]; omega)
  have f3 := wap_push g2.wt f2
  obtain ⟨t3, k1, k2⟩ := w_int' f3.wt (f3.lo_le hs1) ho.2 (by rw [List.length_append, List.length_append]; omega)
  refine ⟨t3, record_writer_op_of rfl ?_, ?_⟩
  · have hbx : lbox (oV o) = some (oV o) := rfl
    have l0 : lload false 1 lptr (oV o) = some (.int .i64 o.kind) := rfl
    have l1 : lload false 1 (.pointer (some ⟨0, 1, none⟩)) (oV o) = some (sv o.key) := rfl
    have l2 : lload false 1 (.pointer (some ⟨0, 2, none⟩)) (oV o) = some (sv o.val) := rfl
    have l3 : lload false 1 (.pointer (some ⟨0, 3, none⟩)) (oV o) = some (sv o.lo) := rfl
    have l4 : lload false 1 (.pointer (some ⟨0, 4, none⟩)) (oV o) = some (sv o.hi) := rfl
    have l5 : lload false 1 (.pointer (some ⟨0, 5, none⟩)) (oV o) = some (.int .i64 o.most) := rfl
    have a5 : afieldAddr 5 lptr = some (.pointer (some ⟨0, 5, none⟩)) := rfl
    have hsl : abuildSl 1 [(.string ⟨#[]⟩)] 4 [(0, sv o.key), (1, sv o.val), (2, sv o.lo), (3, sv o.hi)] t1 = some (.slice (some ⟨t1.heap.length, 0, none⟩) 4 4, t1.push (.row 1 ([o.key, o.val, o.lo, o.hi].map sv) .act)) := rfl
    have hlen : ∀ ty t, alenV (.slice ty) (.slice (some ⟨t1.heap.length, 0, none⟩) 4 4) t = some (.int .i64 4) := fun _ _ => rfl
    have f1' : loopL (record_writer_op.b0 (run Tryz.prog (libL libT) hints)) [wP N, lptr, .slice (some ⟨t1.heap.length, 0, none⟩) 4 4, .int .i64 4, .int .i64 0, oV o] (t1.push (.row 1 ([o.key, o.val, o.lo, o.hi].map sv) .act)) = some (.exit 0, [wP N, lptr, oV o], t2) := f1
    unfold record_writer_op
    simp only [hbx, l0, record_writer_int_call, g1, l1, l2, l3, l4, hsl, hlen, f1', a5, l5, k1, ret_0, n_bind, n_map, getL_0, getL_1, getL_2, getL_3, getL_4, getL_5, getL_6, getL_7, getL_8, getL_9, getL_10, getL_11, getL_12, condV_t, condV_f, guardV_tt, guardV_ff, guardV_tf, guardV_ft, guardV_u, apick_t, apick_f, exV_exit, exV_ret, lookE_same, joinK_eq, seqA_n, seqA_e, seqA_r, e_add, e_sub, e_mul, e_eql, e_neq, e_lss, e_leq, e_gtr, e_geq, e_conv, e_not, e_neg, and_guard, or_guard]
  · have := g2.trans (f3.trans k2)
    simpa only [List.append_assoc] using this
theorem puts_op {lo N : Nat} {s1 : St} (hs : lo ≤ s1.heap.length) {ls : List OpT} (hp : ∀ a ∈ ls, okOp a) {s0 : St} : Puts lo N s1 (fun o cs => (NCod.ofC opC fun _ => True).rel o s0 cs) true ls (mv 93 N) eOp := by
  intro a ha t m u cs hw hr hsh hb
  obtain rfl := op_shape hr hsh
  obtain ⟨t', g1, g2⟩ := w_op hw.wt (hw.lo_le hs) (hp a ha) hb
  exact ⟨t', by rw [call_mv record_writer_op_ok]; exact g1, g2⟩
theorem puts_ow {lo N : Nat} {s1 : St} (hs : lo ≤ s1.heap.length) {ls : List Ow} (hp : ∀ a ∈ ls, inN63 a.2) {s0 : St} : Puts lo N s1 (fun o cs => (NCod.ofC owC fun _ => True).rel o s0 cs) true ls (mv 21 N) eOw := by
  intro a ha t m u cs hw hr hsh hb
  obtain ⟨rfl, _⟩ := hr
  have hsh : u = owV a := hsh
  subst hsh
  obtain ⟨t', g1, g2⟩ := w_owner hw.wt (hw.lo_le hs) (hp a ha) hb
  exact ⟨t', by rw [call_mv record_writer_owner_ok]; exact g1, g2⟩
theorem puts_pr {lo N : Nat} {s1 : St} (hs : lo ≤ s1.heap.length) {ls : List Rg} {s0 : St} : Puts lo N s1 (fun o cs => (NCod.ofC prC fun _ => True).rel o s0 cs) true ls (mv 136 N) ePr := by
  intro a ha t m u cs hw hr hsh hb
  obtain ⟨rfl, _⟩ := hr
  have hsh : u = rv a := hsh
  subst hsh
  obtain ⟨t', g1, g2⟩ := w_pair hw.wt (hw.lo_le hs) hb
  exact ⟨t', by rw [call_mv record_writer_pair_ok]; exact g1, g2⟩

end Go.Proofs.YtckpcelchhmjcaaGreat.Ab

/- Bytes are written: what is held, decisions, results; the whole of a state. -/
namespace Go.Proofs.YtckpcelchhmjcaaGreat.Ab
open Go

theorem ofC_len {α : Type} {C : Cod α} {Pr : α → Prop} {s0 : St} (a : α) (cs : List Value) (h : (NCod.ofC C Pr).rel a s0 cs) : cs.length = C.n ∧ cs.all isLeaf = true := by
  rw [h.1]
  exact ⟨C.len a, leaf_isLeaf (C.leaf a)⟩
theorem listN_short {α : Type} {C : NCod α} {B : Nat} {l : List α} {s : St} {v : Value} (h : ListN C B l s v) (hB : 1 ≤ B) : l.length < 140737488355328 := by
  have h1 : l.length * B ≤ 140737488351232 := h.1
  have : l.length * 1 ≤ l.length * B := Nat.mul_le_mul_left _ hB
  omega
section
variable {lo N : Nat} {s0 s1 : St} (hlo : s0.heap.length = lo) (hx : Ext lo s0 s1)
include hlo hx
theorem puts_ho {ls : List Ho} (hp : ∀ a ∈ ls, ∀ o ∈ a.2, okOp o) : Puts lo N s1 (fun h cs => hoN.rel h s0 cs) true ls (mv 23 N) eHo := by
  intro a ha t m u cs hw hr hsh hb
  have hsh : u = .agg cs.toArray := hsh
  subst hsh
  obtain ⟨o, rfl, w, ho⟩ := ho_inv hr
  have hs1 : lo ≤ s1.heap.length := by have := hx.1; omega
  have hxt : Ext lo s0 t := hx.trans (hw.ext hs1)
  unfold eHo at hb ⊢
  rw [List.length_append] at hb
  obtain ⟨t1, g1, g2⟩ := w_num' hw.wt (hw.lo_le hs1) (wf_64 w) (by omega)
  have hst := hw.lo_le hs1
  have hs2 := g2.lo_le hst
  obtain ⟨t2, f1, f2⟩ := wl_api_Op g2.wt hs2 (elems_arg ho hlo (hxt.trans (g2.ext hst)) (n := 6) rfl (.inl rfl)) (listN_short ho (by decide)) ofC_len (puts_op hs2 (hp a ha)) (by rw [List.length_append]; omega)
  refine ⟨t2, ?_, by rw [← List.append_assoc]; exact g2.trans f2⟩
  rw [call_mv record_writer_hold_ok]
  refine record_writer_hold_of rfl ?_
  have hbx := lbox_cs (cs := [.int .u64 a.1, o]) (by simp only [List.all_cons, listN_leafR ho, List.all_nil]; rfl)
  have l0 : lload false 1 lptr (.agg [.int .u64 a.1, o].toArray) = some (.int .u64 a.1) := rfl
  have l1 : lload false 1 (.pointer (some ⟨0, 1, none⟩)) (.agg [.int .u64 a.1, o].toArray) = some o := rfl
  have hmk : amkFunc 93 [wP N] [] = some (mv 93 N) := rfl
  unfold record_writer_hold
  simp only [hbx, l0, record_writer_num_call, g1, l1, hmk, record_list_api_Op_call, f1, ret_0, n_bind, n_map, getL_0, getL_1, getL_2, getL_3, getL_4, getL_5, getL_6, getL_7, getL_8, getL_9, getL_10, getL_11, getL_12, condV_t, condV_f, guardV_tt, guardV_ff, guardV_tf, guardV_ft, guardV_u, apick_t, apick_f, exV_exit, exV_ret, lookE_same, joinK_eq, seqA_n, seqA_e, seqA_r, e_add, e_sub, e_mul, e_eql, e_neq, e_lss, e_leq, e_gtr, e_geq, e_conv, e_not, e_neg, and_guard, or_guard]
theorem puts_rs {ls : List Rs} : Puts lo N s1 (fun r cs => rsN.rel r s0 cs) true ls (mv 101 N) eRs := by
  intro a ha t m u cs hw hr hsh hb
  have hsh : u = .agg cs.toArray := hsh
  subst hsh
  obtain ⟨o, rfl, ho, w⟩ := rs_inv hr
  have hs1 : lo ≤ s1.heap.length := by have := hx.1; omega
  have hxt : Ext lo s0 t := hx.trans (hw.ext hs1)
  unfold eRs at hb ⊢
  simp only [List.length_append, List.length_singleton] at hb
  have hst := hw.lo_le hs1
  obtain ⟨t1, g1, g2⟩ := w_flag' hw.wt hst a.1 (by omega)
  have hs2 := g2.lo_le hst
  obtain ⟨t2, f1, f2⟩ := w_text' g2.wt hs2 (k := a.2.1) (by simp only [List.length_append, List.length_singleton]; omega)
  have g3 := g2.trans f2
  have hs3 := g3.lo_le hst
  obtain ⟨t3, k1, k2⟩ := wl_api_Pair g3.wt hs3 (elems_arg ho hlo (hxt.trans (g3.ext hst)) (n := 2) rfl (.inl rfl)) (listN_short ho (by decide)) ofC_len (puts_pr hs3) (by simp only [List.length_append, List.length_singleton]; omega)
  refine ⟨t3, ?_, by simpa only [List.append_assoc] using g3.trans k2⟩
  rw [call_mv record_writer_result_ok]
  refine record_writer_result_of rfl ?_
  have hbx := lbox_cs (cs := [.bool a.1, sv a.2.1, o]) (by simp only [List.all_cons, listN_leafR ho, List.all_nil]; rfl)
  have l0 : lload false 1 lptr (.agg [.bool a.1, sv a.2.1, o].toArray) = some (.bool a.1) := rfl
  have l1 : lload false 1 (.pointer (some ⟨0, 1, none⟩)) (.agg [.bool a.1, sv a.2.1, o].toArray) = some (sv a.2.1) := rfl
  have l2 : lload false 1 (.pointer (some ⟨0, 2, none⟩)) (.agg [.bool a.1, sv a.2.1, o].toArray) = some o := rfl
  have hmk : amkFunc 136 [wP N] [] = some (mv 136 N) := rfl
  unfold record_writer_result
  simp only [hbx, l0, record_writer_flag_call, g1, l1, record_writer_text_call, f1, l2, hmk, record_list_api_Pair_call, k1, ret_0, n_bind, n_map, getL_0, getL_1, getL_2, getL_3, getL_4, getL_5, getL_6, getL_7, getL_8, getL_9, getL_10, getL_11, getL_12, condV_t, condV_f, guardV_tt, guardV_ff, guardV_tf, guardV_ft, guardV_u, apick_t, apick_f, exV_exit, exV_ret, lookE_same, joinK_eq, seqA_n, seqA_e, seqA_r, e_add, e_sub, e_mul, e_eql, e_neq, e_lss, e_leq, e_gtr, e_geq, e_conv, e_not, e_neg, and_guard, or_guard]
theorem puts_de {ls : List De} (hp : ∀ a ∈ ls, inN63 a.2.1 ∧ ∀ n ∈ a.2.2.2.2, inN63 n) : Puts lo N s1 (fun d cs => deN.rel d s0 cs) true ls (mv 31 N) eDe := by
  intro a ha t m u cs hw hr hsh hb
  have hsh : u = .agg cs.toArray := hsh
  subst hsh
  obtain ⟨o, rfl, ho, w0, w1, w2, w3⟩ := de_inv hr
  obtain ⟨p1, p2⟩ := hp a ha
  have hs1 : lo ≤ s1.heap.length := by have := hx.1; omega
  have hxt : Ext lo s0 t := hx.trans (hw.ext hs1)
  have he : eDe a = [a.1, a.2.1, a.2.2.1, a.2.2.2.1].flatMap eN ++ eList eN a.2.2.2.2 := by simp [eDe]
  rw [he] at hb ⊢
  rw [List.length_append] at hb
  have hst := hw.lo_le hs1
  obtain ⟨t1, g1, g2⟩ := w_nums hw.wt hst (ls := [a.1, a.2.1, a.2.2.1, a.2.2.2.1]) (k := 4) rfl (by simp) (by
    have q1 := wf_64 w0
    have q2 := wf_64 w2
    have q3 := wf_64 w3
    intro n hn
    simp only [List.mem_cons, List.not_mem_nil, or_false] at hn
    rcases hn with rfl | rfl | rfl | rfl
    · exact q1
    · exact ⟨p1.1, by have := p1.2; omega⟩
    · exact q2
    · exact q3) (by omega)
  have hs2 := g2.lo_le hst
  obtain ⟨t2, f1, f2⟩ := wl_int g2.wt hs2 (elems_arg ho hlo (hxt.trans (g2.ext hst)) (n := 1) rfl (.inr rfl)) (listN_short ho (by decide)) (puts_int hs2 p2 fun a cs h => h.1) (by rw [List.length_append]; omega)
  refine ⟨t2, ?_, by rw [← List.append_assoc]; exact g2.trans f2⟩
  rw [call_mv record_writer_decision_ok]
  refine record_writer_decision_of rfl ?_
  have hwc : IntKind.wrap .u64 a.2.1 = a.2.1 := by
    have := p1.1
    have h1 : a.2.1 = ((a.2.1.toNat : Nat) : Int) := (Int.toNat_of_nonneg p1.1).symm
    rw [h1]
    exact uwrap rfl (Nat.lt_trans (show a.2.1.toNat < 9223372036854775808 by have := p1.2; omega) (by decide))
  generalize hu : (Value.agg [.int .u64 a.1, .int .i64 a.2.1, .int .u64 a.2.2.1, .int .u64 a.2.2.2.1, o].toArray) = u
  have hbx : lbox u = some u := by
    rw [← hu]
    exact lbox_cs (cs := [.int .u64 a.1, .int .i64 a.2.1, .int .u64 a.2.2.1, .int .u64 a.2.2.2.1, o]) (by simp only [List.all_cons, listN_leafR ho, List.all_nil]; rfl)
  have l0 : lload false 1 lptr u = some (.int .u64 a.1) := by rw [← hu]; rfl
  have l1 : lload false 1 (.pointer (some ⟨0, 1, none⟩)) u = some (.int .i64 a.2.1) := by rw [← hu]; rfl
  have l2 : lload false 1 (.pointer (some ⟨0, 2, none⟩)) u = some (.int .u64 a.2.2.1) := by rw [← hu]; rfl
  have l3 : lload false 1 (.pointer (some ⟨0, 3, none⟩)) u = some (.int .u64 a.2.2.2.1) := by rw [← hu]; rfl
  have l4 : lload false 1 (.pointer (some ⟨0, 4, none⟩)) u = some o := by rw [← hu]; rfl
  have hsl : abuildSl 1 [(.int .u64 0)] 4 [(0, .int .u64 a.1), (1, .int .u64 a.2.1), (2, .int .u64 a.2.2.1), (3, .int .u64 a.2.2.2.1)] t = some (.slice (some ⟨t.heap.length, 0, none⟩) 4 4, t.push (.row 1 ([a.1, a.2.1, a.2.2.1, a.2.2.2.1].map fun a => .int .u64 a) .act)) := rfl
  have hmk : amkFunc 88 [wP N] [] = some (mv 88 N) := rfl
  unfold record_writer_decision
  simp only [hbx, l0, l1, hwc, l2, l3, hsl, record_writer_nums_call, g1, l4, hmk, record_list_int_call, f1, ret_0, n_bind, n_map, getL_0, getL_1, getL_2, getL_3, getL_4, getL_5, getL_6, getL_7, getL_8, getL_9, getL_10, getL_11, getL_12, condV_t, condV_f, guardV_tt, guardV_ff, guardV_tf, guardV_ft, guardV_u, apick_t, apick_f, exV_exit, exV_ret, lookE_same, joinK_eq, seqA_n, seqA_e, seqA_r, e_add, e_sub, e_mul, e_eql, e_neq, e_lss, e_leq, e_gtr, e_geq, e_conv, e_not, e_neg, and_guard, or_guard]
theorem puts_la {ls : List La} (hp : ∀ a ∈ ls, inN63 a.1) : Puts lo N s1 (fun d cs => laN.rel d s0 cs) true ls (mv 33 N) eLa := by
  intro a ha t m u cs hw hr hsh hb
  have hsh : u = .agg cs.toArray := hsh
  subst hsh
  obtain ⟨o, rfl, ho, w1, w2, w3⟩ := la_inv hr
  have p1 := hp a ha
  have hs1 : lo ≤ s1.heap.length := by have := hx.1; omega
  have hxt : Ext lo s0 t := hx.trans (hw.ext hs1)
  have he : eLa a = [a.1, a.2.1, a.2.2.1].flatMap eN ++ eList eRs a.2.2.2 := by simp [eLa]
  rw [he] at hb ⊢
  rw [List.length_append] at hb
  have hst := hw.lo_le hs1
  obtain ⟨t1, g1, g2⟩ := w_nums hw.wt hst (ls := [a.1, a.2.1, a.2.2.1]) (k := 3) rfl (by simp) (by
    have q2 := wf_64 w2
    have q3 := wf_64 w3
    intro n hn
    simp only [List.mem_cons, List.not_mem_nil, or_false] at hn
    rcases hn with rfl | rfl | rfl
    · exact ⟨p1.1, by have := p1.2; omega⟩
    · exact q2
    · exact q3) (by omega)
  have hs2 := g2.lo_le hst
  have hxt1 := hxt.trans (g2.ext hst)
  obtain ⟨t2, f1, f2⟩ := wl_api_Result g2.wt hs2 (elems_arg ho hlo hxt1 (n := 3) rfl (.inl rfl)) (listN_short ho (by decide)) (fun r cs h => by
    obtain ⟨o', rfl, ho', _⟩ := rs_inv h
    exact ⟨rfl, by simp only [List.all_cons, listN_leafR ho', List.all_nil]; rfl⟩) (puts_rs hlo hxt1) (by rw [List.length_append]; omega)
  refine ⟨t2, ?_, by rw [← List.append_assoc]; exact g2.trans f2⟩
  rw [call_mv record_writer_last_ok]
  refine record_writer_last_of rfl ?_
  have hwc : IntKind.wrap .u64 a.1 = a.1 := by
    have h1 : a.1 = ((a.1.toNat : Nat) : Int) := (Int.toNat_of_nonneg p1.1).symm
    rw [h1]
    exact uwrap rfl (Nat.lt_trans (show a.1.toNat < 9223372036854775808 by have := p1.2; omega) (by decide))
  generalize hu : (Value.agg [.int .i64 a.1, .int .u64 a.2.1, .int .u64 a.2.2.1, o].toArray) = u
  have hbx : lbox u = some u := by
    rw [← hu]
    exact lbox_cs (cs := [.int .i64 a.1, .int .u64 a.2.1, .int .u64 a.2.2.1, o]) (by simp only [List.all_cons, listN_leafR ho, List.all_nil]; rfl)
  have l0 : lload false 1 lptr u = some (.int .i64 a.1) := by rw [← hu]; rfl
  have l1 : lload false 1 (.pointer (some ⟨0, 1, none⟩)) u = some (.int .u64 a.2.1) := by rw [← hu]; rfl
  have l2 : lload false 1 (.pointer (some ⟨0, 2, none⟩)) u = some (.int .u64 a.2.2.1) := by rw [← hu]; rfl
  have l3 : lload false 1 (.pointer (some ⟨0, 3, none⟩)) u = some o := by rw [← hu]; rfl
  have hsl : abuildSl 1 [(.int .u64 0)] 3 [(0, .int .u64 a.1), (1, .int .u64 a.2.1), (2, .int .u64 a.2.2.1)] t = some (.slice (some ⟨t.heap.length, 0, none⟩) 3 3, t.push (.row 1 ([a.1, a.2.1, a.2.2.1].map fun a => .int .u64 a) .act)) := rfl
  have hmk : amkFunc 101 [wP N] [] = some (mv 101 N) := rfl
  unfold record_writer_last
  simp only [hbx, l0, l1, hwc, l2, l3, hsl, record_writer_nums_call, g1, hmk, record_list_api_Result_call, f1, ret_0, n_bind, n_map, getL_0, getL_1, getL_2, getL_3, getL_4, getL_5, getL_6, getL_7, getL_8, getL_9, getL_10, getL_11, getL_12, condV_t, condV_f, guardV_tt, guardV_ff, guardV_tf, guardV_ft, guardV_u, apick_t, apick_f, exV_exit, exV_ret, lookE_same, joinK_eq, seqA_n, seqA_e, seqA_r, e_add, e_sub, e_mul, e_eql, e_neq, e_lss, e_leq, e_gtr, e_geq, e_conv, e_not, e_neg, and_guard, or_guard]
end

end Go.Proofs.YtckpcelchhmjcaaGreat.Ab

/- A state's bytes. -/
namespace Go.Proofs.YtckpcelchhmjcaaGreat.Ab
open Go

def encSd (d : Sd) : BL := [83] ++ [d.id, d.boot, d.ver, d.epoch, d.move].flatMap eN ++ eList eOw d.owners ++ eList eHo d.held ++ eList eN d.fin ++ [d.low, d.frozen].flatMap eN ++ ePr d.cold ++ [d.im, d.ia, d.inx].flatMap eN ++ ePr d.ir
def encCd (c : Cd) : BL := [67] ++ [c.shards, c.boot, c.ver, c.epoch].flatMap eN ++ eList eOw c.owners ++ eList eDe c.decided ++ eList eLa c.last

/-! ### What a state that may be has -/
theorem ckO_ok {o : OpT} (h : ckO o = 0) : okOp o := by
  unfold ckO at h
  split at h
  · cases h
  · rename_i c
    simp only [Bool.or_eq_true, not_or, Bool.not_eq_true', Bool.and_eq_true, not_and] at c
    obtain ⟨⟨⟨⟨c1, _⟩, _⟩, _⟩, c5⟩ := c
    have hk := kinds (by simpa using c1 : okKind o.kind = true)
    split at h
    · cases h
    · split at h
      · cases h
      · split at h
        · cases h
        · split at h
          · cases h
          · rename_i c6
            refine ⟨⟨by omega, by omega⟩, ?_⟩
            by_cases h4 : o.kind = 4
            · simp only [h4, beq_self_eq_true, Bool.true_and, Bool.or_eq_true, decide_eq_true_eq, not_or] at c6
              exact ⟨by omega, by omega⟩
            · have : o.most = 0 := by
                by_cases hm : o.most = 0
                · exact hm
                · exact absurd (show (o.most != 0) = true by simp [hm]) (c5 (by simp [h4]))
              exact ⟨by omega, by omega⟩
theorem okF_sh : ∀ {l : List Ow} {p : Option BL}, okF p l = true → ∀ o ∈ l, inN63 o.2
  | [], _, _, o, ho => by cases ho
  | x :: l, p, h, o, ho => by
    have hx : shOk x.2 = true ∧ okF (some x.1) l = true := by
      cases p with
      | none => simpa [okF] using h
      | some p =>
        simp only [okF, Bool.and_eq_true] at h
        exact ⟨h.1.1, h.2⟩
    rcases List.mem_cons.1 ho with rfl | ho
    · have := hx.1
      simp only [shOk, Bool.and_eq_true, Bool.not_eq_true', decide_eq_false_iff_not] at this
      exact ⟨by omega, by omega⟩
    · exact okF_sh hx.2 o ho
theorem eO_sh {l : List Ow} (h : eO l = 0) : ∀ o ∈ l, inN63 o.2 := by
  have h1 : okO l = true := by
    have := eO_0 (l := l)
    rw [h] at this
    exact this.symm
  unfold okO at h1
  cases l with
  | nil => intro o ho; cases ho
  | cons x r =>
    simp only [Bool.and_eq_true] at h1
    exact okF_sh h1.2
structure SdOk (d : Sd) : Prop where
  id : inN63 d.id
  ow : ∀ o ∈ d.owners, inN63 o.2
  ops : ∀ h ∈ d.held, ∀ o ∈ h.2, okOp o
theorem eSd_ok {d : Sd} (h : eSd d = 0) : SdOk d := by
  unfold eSd at h
  by_cases c : bad1 d = true
  · rw [if_pos c] at h; cases h
  · rw [if_neg c] at h
    by_cases g : good2 d = true
    · simp only [bad1, Bool.or_eq_true, not_or, decide_eq_true_eq, bne_iff_ne, ne_eq, Decidable.not_not] at c
      obtain ⟨⟨⟨⟨⟨⟨c1, c2⟩, c3⟩, _⟩, _⟩, _⟩, _⟩ := c
      simp only [good2, Bool.and_eq_true, Bool.not_eq_true'] at g
      obtain ⟨⟨⟨_, g2⟩, _⟩, _⟩ := g
      refine ⟨⟨by omega, by omega⟩, eO_sh c3, fun x hx o ho => ckO_ok ?_⟩
      have h1 := List.any_eq_false.1 g2 x hx
      simp only [badHo, Bool.or_eq_true, not_or, Bool.not_eq_true, List.any_eq_false, Bool.not_eq_true', beq_eq_false_iff_ne, ne_eq, Decidable.not_not] at h1
      exact h1.2 o ho
    · rw [if_neg g] at h; cases h
theorem lst_u {l : List Int} {s : St} {v : Value} (h : ListN (wfN .u64) 8 l s v) : ∀ n ∈ l, inN64 n := by
  intro n hn
  obtain ⟨i, hi, rfl⟩ := List.getElem_of_mem hn
  obtain ⟨_, _, cs, _, _, _, _, h1⟩ := listN_get h hi (n := 1) rfl (ag := false) (.inr rfl)
  exact wf_64 h1.2
theorem wrap_pos {n : Int} (h : inN63 n) : IntKind.wrap .u64 n = n := by
  have h1 : n = ((n.toNat : Nat) : Int) := (Int.toNat_of_nonneg h.1).symm
  rw [h1]
  exact uwrap rfl (Nat.lt_trans (show n.toNat < 9223372036854775808 by have := h.2; have := h.1; omega) (by decide))
theorem in64 {n : Int} (h : inN63 n) : inN64 n := ⟨h.1, by have := h.2; omega⟩
/-- a new writer -/
theorem new_writer (c : UInt8) (t : St) : ∃ s1, anew (cellsV (.agg #[(newBytes [c] t).1])) (newBytes [c] t).2 = some (wP (t.heap.length + 1), s1) ∧ (∃ x, Wt t.heap.length (t.heap.length + 1) s1 x [c]) ∧ Ext t.heap.length t s1 := by
  refine ⟨(newBytes [c] t).2.push (.row 0 [(newBytes [c] t).1] .act), ?_, ⟨(newBytes [c] t).1, by omega, ?_, own_pushW (newBytes_own (Nat.le_refl _) (by simp)), ?_⟩, ?_⟩
  · have : (newBytes [c] t).2.heap.length = t.heap.length + 1 := push_len
    rw [← this]
    rfl
  · have : (newBytes [c] t).2.heap.length = t.heap.length + 1 := push_len
    rw [← this]
    exact push_get
  · simp [newBytes, blkOf]
  · exact (newBytes_ext (Nat.le_refl _)).trans (.push _ (by show t.heap.length ≤ (t.push _).heap.length; rw [push_len]; omega) _)
theorem w_abW {b : Nat} : abuild Tryz.prog 57 [(0, .slice (some ⟨b, 0, none⟩) 1 1)] = some (.agg #[.slice (some ⟨b, 0, none⟩) 1 1]) := by kernel_rfl
theorem wt_out {lo N : Nat} {s : St} {l : BL} (h : ∃ x, Wt lo N s x l) : ∃ x, aload false 1 (wP N) s = some x ∧ Own lo 1 s x (bv l) := by
  obtain ⟨x, h⟩ := h
  exact ⟨x, ld_cell h.2.1 (by simp) rfl, h.2.2.1⟩
theorem own_less {N M n : Nat} {s : St} {v : Value} {cs : List Value} (h : Own N n s v cs) (hM : M ≤ N) : Own M n s v cs := by
  rcases h with h | ⟨b, len, h1, h2, h3⟩
  · exact .inl h
  · exact .inr ⟨b, len, h1, Nat.le_trans hM h2, h3⟩
theorem ret_e {a : Value} {n : Int} {s : St} (h : noTup a = true) : retV [a, .int .i64 n] s = some (.tuple #[a, .int .i64 n], s) := by
  have : ([a, .int .i64 n] : List Value).all noTup = true := by simp only [List.all_cons, h, List.all_nil]; rfl
  unfold retV
  rw [if_pos this]
  rfl
theorem EncodeShard_run {d : Sd} {s : St} {v : Value} (h : NArg sdN d s v) (hb : eSd d = 0 → (encSd d).length ≤ 140737488300000) : ∃ x t, (run Tryz.prog (libL libT) hints) 7 [v] s = some (.tuple #[x, .int .i64 (eSd d)], t) ∧ Own s.heap.length 1 t x (bv (if eSd d = 0 then encSd d else [])) ∧ Ext s.heap.length s t := by
  obtain ⟨t0, c0, x0⟩ := CheckShard_run h
  obtain ⟨cs, rfl, hr⟩ := h
  obtain ⟨ow, he, fi, rfl, hs⟩ := sd_inv hr
  have hs0 := hs.ext x0
  generalize hu : (Value.agg (sdCells d ow he fi).toArray) = u at *
  have hbx : lbox u = some u := by rw [← hu]; exact lbox_cs (sd_leaf hs)
  have hal : lload true 17 lptr u = some u := by rw [← hu]; exact arr_all rfl
  have z0 : ((0 : Int) != 0) = false := rfl
  by_cases hz : eSd d = 0
  · have hb := hb hz
    have hok := eSd_ok hz
    rw [hz] at c0 ⊢
    rw [if_pos rfl]
    -- the writer
    have e1 : abuildSl 1 [(.int .u8 0)] 1 [(0, (.int .u8 83))] t0 = some (newBytes [83] t0) := rfl
    obtain ⟨s1, a1, w1, x1⟩ := new_writer 83 t0
    generalize hlo : t0.heap.length = lo at *
    have l1s : lo ≤ s1.heap.length := by have := x1.1; omega
    have i0 : lload false 1 lptr u = some (.int .i64 d.id) := by rw [← hu]; rfl
    have i1 : lload false 1 (.pointer (some ⟨0, 1, none⟩)) u = some (.int .u64 d.boot) := by rw [← hu]; rfl
    have i2 : lload false 1 (.pointer (some ⟨0, 2, none⟩)) u = some (.int .u64 d.ver) := by rw [← hu]; rfl
    have i3 : lload false 1 (.pointer (some ⟨0, 3, none⟩)) u = some (.int .u64 d.epoch) := by rw [← hu]; rfl
    have i4 : lload false 1 (.pointer (some ⟨0, 4, none⟩)) u = some (.int .u64 d.move) := by rw [← hu]; rfl
    have i5 : lload false 1 (.pointer (some ⟨0, 5, none⟩)) u = some ow := by rw [← hu]; rfl
    have i6 : lload false 1 (.pointer (some ⟨0, 6, none⟩)) u = some he := by rw [← hu]; rfl
    have i7 : lload false 1 (.pointer (some ⟨0, 7, none⟩)) u = some fi := by rw [← hu]; rfl
    have i8 : lload false 1 (.pointer (some ⟨0, 8, none⟩)) u = some (.int .u64 d.low) := by rw [← hu]; rfl
    have i9 : lload false 1 (.pointer (some ⟨0, 9, none⟩)) u = some (.int .u64 d.frozen) := by rw [← hu]; rfl
    have i10 : lload true 2 (.pointer (some ⟨0, 10, none⟩)) u = some (rv d.cold) := by rw [← hu]; rfl
    have i12 : lload false 1 (.pointer (some ⟨0, 12, none⟩)) u = some (.int .u64 d.im) := by rw [← hu]; rfl
    have i13 : lload false 1 (.pointer (some ⟨0, 13, none⟩)) u = some (.int .u64 d.ia) := by rw [← hu]; rfl
    have i14 : lload false 1 (.pointer (some ⟨0, 14, none⟩)) u = some (.int .u64 d.inx) := by rw [← hu]; rfl
    have i15 : lload true 2 (.pointer (some ⟨0, 15, none⟩)) u = some (rv d.ir) := by rw [← hu]; rfl
    unfold encSd at hb
    simp only [List.length_append, List.length_singleton] at hb
    obtain ⟨t1, a2, g2⟩ := w_nums w1 l1s (ls := [d.id, d.boot, d.ver, d.epoch, d.move]) (k := 5) rfl (by simp) (by
      have q1 := wf_64 hs.wboot
      have q2 := wf_64 hs.wver
      have q3 := wf_64 hs.wepoch
      have q4 := wf_64 hs.wmove
      intro n hn
      simp only [List.mem_cons, List.not_mem_nil, or_false] at hn
      rcases hn with rfl | rfl | rfl | rfl | rfl
      · exact in64 hok.id
      · exact q1
      · exact q2
      · exact q3
      · exact q4) (by rw [List.length_singleton]; omega)
    have l2 := g2.lo_le l1s
    have X2 := x1.trans (g2.ext l1s)
    obtain ⟨t2, a3, g3⟩ := wl_api_Owner g2.wt l2 (elems_arg hs0.ow hlo X2 (n := 2) rfl (.inl rfl)) (listN_short hs0.ow (by decide)) ofC_len (puts_ow l2 hok.ow) (by simp only [List.length_append, List.length_singleton]; omega)
    have l3 := g3.lo_le l2
    have X3 := X2.trans (g3.ext l2)
    obtain ⟨t3, a4, g4⟩ := wl_api_Hold g3.wt l3 (elems_arg hs0.he hlo X3 (n := 2) rfl (.inl rfl)) (listN_short hs0.he (by decide)) (fun r cs h => by
      obtain ⟨o', rfl, _, ho'⟩ := ho_inv h
      exact ⟨rfl, by simp only [List.all_cons, listN_leafR ho', List.all_nil]; rfl⟩) (puts_ho hlo X3 hok.ops) (by simp only [List.length_append, List.length_singleton]; omega)
    have l4 := g4.lo_le l3
    have X4 := X3.trans (g4.ext l3)
    obtain ⟨t4, a5, g5⟩ := wl_uint64 g4.wt l4 (elems_arg hs0.fi hlo X4 (n := 1) rfl (.inr rfl)) (listN_short hs0.fi (by decide)) (puts_num l4 (lst_u hs0.fi) fun a cs h => h.1) (by simp only [List.length_append, List.length_singleton]; omega)
    have l5 := g5.lo_le l4
    have X5 := X4.trans (g5.ext l4)
    obtain ⟨t5, a6, g6⟩ := w_nums g5.wt l5 (ls := [d.low, d.frozen]) (k := 2) rfl (by simp) (by
      have q1 := wf_64 hs.wlow
      have q2 := wf_64 hs.wfrozen
      intro n hn
      simp only [List.mem_cons, List.not_mem_nil, or_false] at hn
      rcases hn with rfl | rfl
      · exact q1
      · exact q2) (by simp only [List.length_append, List.length_singleton]; omega)
    have l6 := g6.lo_le l5
    have X6 := X5.trans (g6.ext l5)
    obtain ⟨t6, a7, g7⟩ := w_span g6.wt l6 (r := d.cold) (by simp only [List.length_append, List.length_singleton]; omega)
    have l7 := g7.lo_le l6
    have X7 := X6.trans (g7.ext l6)
    obtain ⟨t7, a8, g8⟩ := w_nums g7.wt l7 (ls := [d.im, d.ia, d.inx]) (k := 3) rfl (by simp) (by
      have q1 := wf_64 hs.wim
      have q2 := wf_64 hs.wia
      have q3 := wf_64 hs.winx
      intro n hn
      simp only [List.mem_cons, List.not_mem_nil, or_false] at hn
      rcases hn with rfl | rfl | rfl
      · exact q1
      · exact q2
      · exact q3) (by simp only [List.length_append, List.length_singleton]; omega)
    have l8 := g8.lo_le l7
    have X8 := X7.trans (g8.ext l7)
    obtain ⟨t8, a9, g9⟩ := w_span g8.wt l8 (r := d.ir) (by simp only [List.length_append, List.length_singleton]; omega)
    have X9 := X8.trans (g9.ext l8)
    obtain ⟨x, hx1, hx2⟩ := wt_out g9.wt
    have n5 : ∀ a b c d' e s, abuildSl 1 [(.int .u64 0)] 5 [(0, .int .u64 a), (1, .int .u64 b), (2, .int .u64 c), (3, .int .u64 d'), (4, .int .u64 e)] s = some (.slice (some ⟨s.heap.length, 0, none⟩) 5 5, s.push (.row 1 ([a, b, c, d', e].map fun a => .int .u64 a) .act)) := fun _ _ _ _ _ _ => rfl
    have n2 : ∀ a b s, abuildSl 1 [(.int .u64 0)] 2 [(0, .int .u64 a), (1, .int .u64 b)] s = some (.slice (some ⟨s.heap.length, 0, none⟩) 2 2, s.push (.row 1 ([a, b].map fun a => .int .u64 a) .act)) := fun _ _ _ => rfl
    have n3 : ∀ a b c s, abuildSl 1 [(.int .u64 0)] 3 [(0, .int .u64 a), (1, .int .u64 b), (2, .int .u64 c)] s = some (.slice (some ⟨s.heap.length, 0, none⟩) 3 3, s.push (.row 1 ([a, b, c].map fun a => .int .u64 a) .act)) := fun _ _ _ _ => rfl
    have hmk : ∀ f, amkFunc f [wP (lo + 1)] [] = some (mv f (lo + 1)) := fun f => rfl
    have hab : abuild Tryz.prog 57 [(0, (newBytes [83] t0).1)] = some (.agg #[(newBytes [83] t0).1]) := w_abW
    refine ⟨x, t8, record_EncodeShard_of rfl ?_, own_less (by unfold encSd; exact hx2) (by have := x0.1; omega), x0.trans (X9.less (by have := x0.1; omega))⟩
    unfold record_EncodeShard
    simp only [hbx, hal, record_CheckShard_call, c0, z0, e1, hab, a1, i0, wrap_pos hok.id, i1, i2, i3, i4, n5, record_writer_nums_call, a2, i5, hmk, record_list_api_Owner_call, a3, i6, record_list_api_Hold_call, a4, i7, record_list_uint64_call, a5, i8, i9, n2, a6, i10, record_writer_span_call, a7, i12, i13, i14, n3, a8, i15, a9, nil_wp, ad_wp, hx1, ret_e hx2.notup, n_bind, n_map, getL_0, getL_1, getL_2, getL_3, getL_4, getL_5, getL_6, getL_7, getL_8, getL_9, getL_10, getL_11, getL_12, condV_t, condV_f, guardV_tt, guardV_ff, guardV_tf, guardV_ft, guardV_u, apick_t, apick_f, exV_exit, exV_ret, lookE_same, joinK_eq, seqA_n, seqA_e, seqA_r, e_add, e_sub, e_mul, e_eql, e_neq, e_lss, e_leq, e_gtr, e_geq, e_conv, e_not, e_neg, and_guard, or_guard]
  · have n1 : (eSd d != 0) = true := by simp [hz]
    rw [if_neg hz]
    refine ⟨.slice none 0 0, t0, record_EncodeShard_of rfl ?_, .nil _ _ _, x0⟩
    unfold record_EncodeShard
    simp only [hbx, hal, record_CheckShard_call, c0, n1, ret_e (a := .slice none 0 0) rfl, n_bind, n_map, getL_0, getL_1, getL_2, getL_3, getL_4, getL_5, getL_6, getL_7, getL_8, getL_9, getL_10, getL_11, getL_12, condV_t, condV_f, guardV_tt, guardV_ff, guardV_tf, guardV_ft, guardV_u, apick_t, apick_f, exV_exit, exV_ret, lookE_same, joinK_eq, seqA_n, seqA_e, seqA_r, e_add, e_sub, e_mul, e_eql, e_neq, e_lss, e_leq, e_gtr, e_geq, e_conv, e_not, e_neg, and_guard, or_guard]

end Go.Proofs.YtckpcelchhmjcaaGreat.Ab

/- The coordinator's bytes. -/
namespace Go.Proofs.YtckpcelchhmjcaaGreat.Ab
open Go

structure CdOk (c : Cd) : Prop where
  sh : inN63 c.shards
  ow : ∀ o ∈ c.owners, inN63 o.2
  de : ∀ d ∈ c.decided, inN63 d.2.1 ∧ ∀ n ∈ d.2.2.2.2, inN63 n
  la : ∀ a ∈ c.last, inN63 a.1
theorem cli_in {n : Int} (h : cliOk n = true) : inN63 n := by
  simp only [cliOk, Bool.and_eq_true, decide_eq_true_eq] at h
  exact ⟨by omega, by omega⟩
theorem eCd_ok {c : Cd} (h : eCd c = 0) : CdOk c := by
  unfold eCd at h
  by_cases k : bad1C c = true
  · rw [if_pos k] at h; cases h
  · rw [if_neg k] at h
    by_cases g : good2C c = true
    · simp only [bad1C, Bool.or_eq_true, not_or, decide_eq_true_eq, bne_iff_ne, ne_eq, Decidable.not_not] at k
      obtain ⟨⟨⟨⟨⟨c1, c2⟩, _⟩, c3⟩, _⟩, _⟩ := k
      simp only [good2C, Bool.and_eq_true, Bool.not_eq_true'] at g
      obtain ⟨⟨⟨⟨_, g2⟩, g3⟩, _⟩, _⟩ := g
      refine ⟨⟨by omega, by omega⟩, eO_sh c3, fun d hd => ?_, fun a ha => ?_⟩
      · have h1 := List.any_eq_false.1 g2 d hd
        simp only [badDe, Bool.or_eq_true, not_or, Bool.not_eq_true, Bool.not_eq_false', List.any_eq_false] at h1
        obtain ⟨⟨⟨⟨_, h2⟩, _⟩, h3⟩, _⟩ := h1
        refine ⟨cli_in h2, fun n hn => ?_⟩
        have := h3 n hn
        simp only [aboveB, Bool.or_eq_false_iff, decide_eq_false_iff_not] at this
        exact ⟨by omega, by omega⟩
      · have h1 := List.any_eq_false.1 g3 a ha
        simp only [badLa, Bool.or_eq_true, not_or, Bool.not_eq_true, Bool.not_eq_false'] at h1
        exact cli_in h1.1
    · rw [if_neg g] at h; cases h
theorem EncodeCoord_run {d : Cd} {s : St} {v : Value} (h : NArg cdN d s v) (hb : eCd d = 0 → (encCd d).length ≤ 140737488300000) : ∃ x t, (run Tryz.prog (libL libT) hints) 9 [v] s = some (.tuple #[x, .int .i64 (eCd d)], t) ∧ Own s.heap.length 1 t x (bv (if eCd d = 0 then encCd d else [])) ∧ Ext s.heap.length s t := by
  obtain ⟨t0, c0, x0⟩ := CheckCoord_run h
  obtain ⟨cs, rfl, hr⟩ := h
  obtain ⟨ow, de, la, rfl, hs⟩ := cd_inv hr
  have hs0 := hs.ext x0
  generalize hu : (Value.agg (cdCells d ow de la).toArray) = u at *
  have hbx : lbox u = some u := by rw [← hu]; exact lbox_cs (cd_leaf hs)
  have hal : lload true 7 lptr u = some u := by rw [← hu]; exact arr_all rfl
  have z0 : ((0 : Int) != 0) = false := rfl
  by_cases hz : eCd d = 0
  · have hb := hb hz
    have hok := eCd_ok hz
    rw [hz] at c0 ⊢
    rw [if_pos rfl]
    have e1 : abuildSl 1 [(.int .u8 0)] 1 [(0, (.int .u8 67))] t0 = some (newBytes [67] t0) := rfl
    obtain ⟨s1, a1, w1, x1⟩ := new_writer 67 t0
    generalize hlo : t0.heap.length = lo at *
    have l1s : lo ≤ s1.heap.length := by have := x1.1; omega
    have i0 : lload false 1 lptr u = some (.int .i64 d.shards) := by rw [← hu]; rfl
    have i1 : lload false 1 (.pointer (some ⟨0, 1, none⟩)) u = some (.int .u64 d.boot) := by rw [← hu]; rfl
    have i2 : lload false 1 (.pointer (some ⟨0, 2, none⟩)) u = some (.int .u64 d.ver) := by rw [← hu]; rfl
    have i3 : lload false 1 (.pointer (some ⟨0, 3, none⟩)) u = some (.int .u64 d.epoch) := by rw [← hu]; rfl
    have i4 : lload false 1 (.pointer (some ⟨0, 4, none⟩)) u = some ow := by rw [← hu]; rfl
    have i5 : lload false 1 (.pointer (some ⟨0, 5, none⟩)) u = some de := by rw [← hu]; rfl
    have i6 : lload false 1 (.pointer (some ⟨0, 6, none⟩)) u = some la := by rw [← hu]; rfl
    unfold encCd at hb
    simp only [List.length_append, List.length_singleton] at hb
    obtain ⟨t1, a2, g2⟩ := w_nums w1 l1s (ls := [d.shards, d.boot, d.ver, d.epoch]) (k := 4) rfl (by simp) (by
      have q1 := wf_64 hs.wboot
      have q2 := wf_64 hs.wver
      have q3 := wf_64 hs.wepoch
      intro n hn
      simp only [List.mem_cons, List.not_mem_nil, or_false] at hn
      rcases hn with rfl | rfl | rfl | rfl
      · exact in64 hok.sh
      · exact q1
      · exact q2
      · exact q3) (by rw [List.length_singleton]; omega)
    have l2 := g2.lo_le l1s
    have X2 := x1.trans (g2.ext l1s)
    obtain ⟨t2, a3, g3⟩ := wl_api_Owner g2.wt l2 (elems_arg hs0.ow hlo X2 (n := 2) rfl (.inl rfl)) (listN_short hs0.ow (by decide)) ofC_len (puts_ow l2 hok.ow) (by simp only [List.length_append, List.length_singleton]; omega)
    have l3 := g3.lo_le l2
    have X3 := X2.trans (g3.ext l2)
    obtain ⟨t3, a4, g4⟩ := wl_api_Decision g3.wt l3 (elems_arg hs0.de hlo X3 (n := 5) rfl (.inl rfl)) (listN_short hs0.de (by decide)) (fun r cs h => by
      obtain ⟨o', rfl, ho', _⟩ := de_inv h
      exact ⟨rfl, by simp only [List.all_cons, listN_leafR ho', List.all_nil]; rfl⟩) (puts_de hlo X3 hok.de) (by simp only [List.length_append, List.length_singleton]; omega)
    have l4 := g4.lo_le l3
    have X4 := X3.trans (g4.ext l3)
    obtain ⟨t4, a5, g5⟩ := wl_api_Last g4.wt l4 (elems_arg hs0.la hlo X4 (n := 4) rfl (.inl rfl)) (listN_short hs0.la (by decide)) (fun r cs h => by
      obtain ⟨o', rfl, ho', _⟩ := la_inv h
      exact ⟨rfl, by simp only [List.all_cons, listN_leafR ho', List.all_nil]; rfl⟩) (puts_la hlo X4 hok.la) (by simp only [List.length_append, List.length_singleton]; omega)
    have X5 := X4.trans (g5.ext l4)
    obtain ⟨x, hx1, hx2⟩ := wt_out g5.wt
    have n4 : ∀ a b c d' s, abuildSl 1 [(.int .u64 0)] 4 [(0, .int .u64 a), (1, .int .u64 b), (2, .int .u64 c), (3, .int .u64 d')] s = some (.slice (some ⟨s.heap.length, 0, none⟩) 4 4, s.push (.row 1 ([a, b, c, d'].map fun a => .int .u64 a) .act)) := fun _ _ _ _ _ => rfl
    have hmk : ∀ f, amkFunc f [wP (lo + 1)] [] = some (mv f (lo + 1)) := fun f => rfl
    have hab : abuild Tryz.prog 57 [(0, (newBytes [67] t0).1)] = some (.agg #[(newBytes [67] t0).1]) := w_abW
    refine ⟨x, t4, record_EncodeCoord_of rfl ?_, own_less (by unfold encCd; exact hx2) (by have := x0.1; omega), x0.trans (X5.less (by have := x0.1; omega))⟩
    unfold record_EncodeCoord
    simp only [hbx, hal, record_CheckCoord_call, c0, z0, e1, hab, a1, i0, wrap_pos hok.sh, i1, i2, i3, n4, record_writer_nums_call, a2, i4, hmk, record_list_api_Owner_call, a3, i5, record_list_api_Decision_call, a4, i6, record_list_api_Last_call, a5, nil_wp, ad_wp, hx1, ret_e hx2.notup, n_bind, n_map, getL_0, getL_1, getL_2, getL_3, getL_4, getL_5, getL_6, getL_7, getL_8, getL_9, getL_10, getL_11, getL_12, condV_t, condV_f, guardV_tt, guardV_ff, guardV_tf, guardV_ft, guardV_u, apick_t, apick_f, exV_exit, exV_ret, lookE_same, joinK_eq, seqA_n, seqA_e, seqA_r, e_add, e_sub, e_mul, e_eql, e_neq, e_lss, e_leq, e_gtr, e_geq, e_conv, e_not, e_neg, and_guard, or_guard]
  · have n1 : (eCd d != 0) = true := by simp [hz]
    rw [if_neg hz]
    refine ⟨.slice none 0 0, t0, record_EncodeCoord_of rfl ?_, .nil _ _ _, x0⟩
    unfold record_EncodeCoord
    simp only [hbx, hal, record_CheckCoord_call, c0, n1, ret_e (a := .slice none 0 0) rfl, n_bind, n_map, getL_0, getL_1, getL_2, getL_3, getL_4, getL_5, getL_6, getL_7, getL_8, getL_9, getL_10, getL_11, getL_12, condV_t, condV_f, guardV_tt, guardV_ff, guardV_tf, guardV_ft, guardV_u, apick_t, apick_f, exV_exit, exV_ret, lookE_same, joinK_eq, seqA_n, seqA_e, seqA_r, e_add, e_sub, e_mul, e_eql, e_neq, e_lss, e_leq, e_gtr, e_geq, e_conv, e_not, e_neg, and_guard, or_guard]

end Go.Proofs.YtckpcelchhmjcaaGreat.Ab

/- States' bytes: what is written is what is read; what was cut is none (plain laws). -/
namespace Go.Proofs.YtckpcelchhmjcaaGreat.Ab
open Go

/-- a parser reads these bytes, and gives that; of a beginning of them it says that it is short -/
structure Cut {α : Type} (p : Par α) (b : BL) (a : α) : Prop where
  all : ∀ r, p (b ++ r) = .ok (a, r)
  cut : ∀ k, k < b.length → p (b.take k) = .error 10
section
variable {α β : Type} {p : Par α} {b : BL} {a : α}
theorem Cut.pure (a : α) : Cut (.pure a) [] a := ⟨fun _ => rfl, fun k h => absurd h (Nat.not_lt_zero _)⟩
theorem Cut.bind {q : α → Par β} {c : BL} {d : β} (h : Cut p b a) (g : Cut (q a) c d) : Cut (p.bind q) (b ++ c) d := by
  refine ⟨fun r => ?_, fun k hk => ?_⟩
  · unfold Par.bind
    rw [List.append_assoc, h.all]
    exact g.all r
  · unfold Par.bind
    rcases Nat.lt_or_ge k b.length with hb | hb
    · rw [List.take_append_of_le_length (Nat.le_of_lt hb), h.cut k hb]
    · obtain ⟨j, rfl⟩ := Nat.exists_eq_add_of_le hb
      rw [List.take_length_add_append, h.all]
      rw [List.length_append] at hk
      exact g.cut j (by omega)
theorem Cut.map {f : α → β} (h : Cut p b a) : Cut (p.map f) b (f a) := by
  have := h.bind (q := fun a => .pure (f a)) (Cut.pure (f a))
  rwa [List.append_nil] at this
theorem Cut.rep {e : α → BL} : ∀ {l : List α}, (∀ a ∈ l, Cut p (e a) a) → Cut (p.rep l.length) (l.flatMap e) l
  | [], _ => Cut.pure []
  | a :: l, h => by
    have h1 := Cut.rep (l := l) fun x hx => h x (List.mem_cons_of_mem _ hx)
    have h2 := (h a (List.mem_cons_self ..)).bind (q := fun a => (p.rep l.length).bind fun l => .pure (a :: l)) (h1.bind (q := fun l => .pure (a :: l)) (Cut.pure (a :: l)))
    rw [List.append_nil] at h2
    exact h2
theorem Cut.to {c : BL} (h : Cut p b a) (e : b = c) : Cut p c a := e ▸ h
end

theorem enc_small {n : Nat} (h : n < 128) : enc n = [UInt8.ofNat n] := by
  unfold enc encF
  rw [if_pos h]
theorem cut_num {n : Nat} (h : n < 18446744073709551616) : Cut pNumR (enc n) n := by
  refine ⟨fun r => ?_, fun k hk => ?_⟩
  · unfold pNumR
    rw [readNum_enc h]
    simp only [ne_eq, not_true, if_false]
    rw [List.drop_left]
  · obtain ⟨pre, c, he, h1, h2, h3⟩ := enc_canon h
    have hl := @enc_len n
    rw [he] at hl hk ⊢
    simp only [List.length_append, List.length_cons, List.length_nil, Nat.zero_add] at hl hk
    rw [List.take_append_of_le_length (by omega)]
    have : readNum (pre.take k) = (0, 0, 10) := by
      unfold readNum
      rw [rdN_high (pre.take k) 0 0 (by omega) (fun x hx => h1 x (List.mem_of_mem_take (List.mem_of_mem_take hx))), if_pos (by rw [List.length_take]; omega)]
      rfl
    unfold pNumR
    rw [this]
    rfl
theorem cut_intR {n : Nat} (h : n ≤ 255) : Cut pIntR (enc n) n := by
  have := (cut_num (n := n) (by omega)).bind (q := fun n => if 255 < n then Par.fail 11 else .pure n) (c := []) (d := n) (by rw [if_neg (by omega)]; exact Cut.pure n)
  rwa [List.append_nil] at this
theorem cut_i {n : Int} (h : 0 ≤ n ∧ n ≤ 255) : Cut pI (eN n) n := by
  have e : ((n.toNat : Nat) : Int) = n := Int.toNat_of_nonneg h.1
  have := (cut_intR (n := n.toNat) (by omega)).map (f := fun n : Nat => (n : Int))
  rwa [e] at this
theorem cut_text {k : BL} (h : k.length ≤ 255) : Cut pTx (tB k) k := by
  have hn : k.length < 18446744073709551616 := by omega
  refine ⟨fun r => ?_, fun j hj => ?_⟩
  · have hr : readNum (tB k ++ r) = (k.length, (enc k.length).length, 0) := by
      unfold tB
      rw [List.append_assoc]
      exact readNum_enc hn _
    have : readText (tB k ++ r) 255 = (k, (tB k).length, 0) := by
      unfold readText
      rw [hr]
      simp only [ne_eq, not_true, if_false]
      rw [if_neg (by omega), if_neg (by unfold tB; simp only [List.length_append]; omega)]
      unfold tB
      rw [List.append_assoc, List.drop_left, List.take_left]
      simp only [List.length_append]
    unfold pTx pText
    rw [this]
    simp only [ne_eq, not_true, if_false]
    rw [if_neg (by decide), List.drop_left]
  · have : (readText ((tB k).take j) 255).2.2 = 10 := by
      rcases Nat.lt_or_ge j (enc k.length).length with g | g
      · have e : (tB k).take j = (enc k.length).take j := List.take_append_of_le_length (Nat.le_of_lt g)
        have h1 := (cut_num hn).cut j g
        unfold pNumR at h1
        rw [e]
        unfold readText
        split at h1
        · rename_i h2
          rw [if_pos h2]
          injection h1
        · cases h1
      · obtain ⟨i, rfl⟩ := Nat.exists_eq_add_of_le g
        have e : (tB k).take ((enc k.length).length + i) = enc k.length ++ k.take i := List.take_length_add_append ..
        rw [e]
        unfold tB at hj
        rw [List.length_append] at hj
        unfold readText
        rw [readNum_enc hn]
        simp only [ne_eq, not_true, if_false]
        rw [if_neg (by omega), if_pos (by simp only [List.length_append, List.length_take]; omega)]
    unfold pTx pText
    rw [this, if_neg (by decide), if_pos (by decide)]
theorem cut_flag (f : Bool) : Cut pFlagR [if f = true then 1 else 0] f := by
  cases f
  · exact ⟨fun r => rfl, fun k hk => by
      have : k = 0 := by simpa using hk
      subst this; rfl⟩
  · exact ⟨fun r => rfl, fun k hk => by
      have : k = 0 := by simpa using hk
      subst this; rfl⟩
theorem cut_many {α : Type} {p : Par α} {e : α → BL} {l : List α} (hl : l.length ≤ 255) (h : ∀ a ∈ l, Cut p (e a) a) : Cut (pMany p) (eList e l) l :=
  (cut_intR hl).bind (Cut.rep h)
/-! ### The parts -/
theorem cut_pr {r : Rg} (h1 : r.1.length ≤ 255) (h2 : r.2.length ≤ 255) : Cut pPr (ePr r) r :=
  ((cut_text h1).bind ((cut_text h2).bind (Cut.pure (r.1, r.2)))).to (by simp [ePr])
theorem cut_op {o : OpT} (h1 : 0 ≤ o.kind ∧ o.kind ≤ 255) (h2 : 0 ≤ o.most ∧ o.most ≤ 255) (hk : o.key.length ≤ 255) (hv : o.val.length ≤ 255) (hlo : o.lo.length ≤ 255) (hhi : o.hi.length ≤ 255) : Cut pOp (eOp o) o := by
  have h4 : Cut (pTx.rep 4) ([o.key, o.val, o.lo, o.hi].flatMap tB) [o.key, o.val, o.lo, o.hi] := Cut.rep (e := tB) (l := [o.key, o.val, o.lo, o.hi]) fun a ha => by
    simp only [List.mem_cons, List.not_mem_nil, or_false] at ha
    rcases ha with rfl | rfl | rfl | rfl <;> exact cut_text (by assumption)
  exact ((cut_i h1).bind (h4.bind ((cut_i h2).bind (Cut.pure (⟨o.kind, o.key, o.val, o.lo, o.hi, o.most⟩ : OpT))))).to (by simp [eOp])
theorem cut_rs {r : Rs} (hv : r.2.1.length ≤ 255) (hl : r.2.2.length ≤ 255) (hp : ∀ p ∈ r.2.2, Cut pPr (ePr p) p) : Cut pRs (eRs r) r :=
  ((cut_flag r.1).bind ((cut_text hv).bind ((cut_many hl hp).bind (Cut.pure (r.1, r.2.1, r.2.2))))).to (by simp [eRs])
end Go.Proofs.YtckpcelchhmjcaaGreat.Ab

/- The coordinator's state of some bytes. -/
namespace Go.Proofs.YtckpcelchhmjcaaGreat.Ab
open Go

end Go.Proofs.YtckpcelchhmjcaaGreat.Ab

/- A shard's state of some bytes. -/
namespace Go.Proofs.YtckpcelchhmjcaaGreat.Ab
open Go

end Go.Proofs.YtckpcelchhmjcaaGreat.Ab

/- What a state that may be is bounded by; its bytes are read as it (plain laws). -/
namespace Go.Proofs.YtckpcelchhmjcaaGreat.Ab
open Go

/-! ### How long -/
theorem eN_len {n : Int} : (eN n).length ≤ 10 := enc_len
theorem eN_one {n : Int} (h : 0 ≤ n ∧ n ≤ 127) : (eN n).length = 1 := by unfold eN; rw [enc_small (by omega)]; rfl
theorem tB_one {k : BL} {m : Nat} (h : k.length ≤ m) (hm : m ≤ 127) : (tB k).length ≤ m + 1 := by unfold tB; rw [List.length_append, enc_small (by omega)]; simp only [List.length_singleton]; omega
theorem tB_eq {k : BL} (h : k.length ≤ 127) : (tB k).length = k.length + 1 := by unfold tB; rw [List.length_append, enc_small (by omega)]; simp only [List.length_singleton]; omega
theorem flatB_len {α : Type} {f : α → BL} {m : Nat} : ∀ {l : List α}, (∀ a ∈ l, (f a).length ≤ m) → (l.flatMap f).length ≤ l.length * m
  | [], _ => by simp
  | a :: l, h => by
    have h1 := flatB_len (l := l) fun x hx => h x (List.mem_cons_of_mem _ hx)
    have h2 := h a (List.mem_cons_self ..)
    simp only [List.flatMap_cons, List.length_append, List.length_cons, Nat.succ_mul]
    omega
theorem eList_len {α : Type} {f : α → BL} {m k : Nat} {l : List α} (hl : l.length ≤ k) (hk : k ≤ 127) (h : ∀ a ∈ l, (f a).length ≤ m) : (eList f l).length ≤ k * m + 1 := by
  have h1 := flatB_len h
  have h2 : l.length * m ≤ k * m := Nat.mul_le_mul_right _ hl
  unfold eList
  rw [List.length_append, enc_small (by omega)]
  simp only [List.length_singleton]
  omega

/-! ### What the checks say -/
theorem ckKl {k : BL} (h : ckK k = true) : k.length ≤ 12 := by
  simp only [ckK, Bool.and_eq_true, decide_eq_true_eq] at h
  exact h.2
theorem ckRl {r : Rg} (h : ckR r = true) : r.1.length ≤ 12 ∧ r.2.length ≤ 12 := by
  simp only [ckR, Bool.and_eq_true, decide_eq_true_eq] at h
  exact h.1
theorem eR_len {r : Rg} (h : eR r = 0) : r.1.length ≤ 12 ∧ r.2.length ≤ 12 := by
  unfold eR at h
  split at h
  · exact ckRl (by assumption)
  · cases h
theorem okF_b : ∀ {l : List Ow} {p : Option BL}, okF p l = true → (p = none → ∀ o ∈ l.head?, o.1.length ≤ 12) → ∀ o ∈ l, o.1.length ≤ 12 ∧ 1 ≤ o.2 ∧ o.2 ≤ 4
  | [], _, _, _, o, ho => by cases ho
  | x :: l, p, h, h0, o, ho => by
    have hx : shOk x.2 = true ∧ x.1.length ≤ 12 ∧ okF (some x.1) l = true := by
      cases p with
      | none =>
        simp only [okF, Bool.and_eq_true] at h
        exact ⟨h.1, h0 rfl x rfl, h.2⟩
      | some p =>
        simp only [okF, Bool.and_eq_true] at h
        exact ⟨h.1.1, ckKl h.1.2.1, h.2⟩
    rcases List.mem_cons.1 ho with rfl | ho
    · have := hx.1
      simp only [shOk, Bool.and_eq_true, Bool.not_eq_true', decide_eq_false_iff_not] at this
      exact ⟨hx.2.1, by omega, by omega⟩
    · exact okF_b hx.2.2 (fun h => by cases h) o ho
theorem eO_b {l : List Ow} (h : eO l = 0) : l.length ≤ 6 ∧ ∀ o ∈ l, o.1.length ≤ 12 ∧ 1 ≤ o.2 ∧ o.2 ≤ 4 := by
  have h1 : okO l = true := by
    have := eO_0 (l := l)
    rw [h] at this
    exact this.symm
  unfold okO at h1
  cases l with
  | nil => cases h1
  | cons x r =>
    simp only [Bool.and_eq_true, decide_eq_true_eq, beq_iff_eq] at h1
    refine ⟨by simp only [List.length_cons]; omega, okF_b h1.2 fun _ o ho => ?_⟩
    have : o = x := by simpa using ho.symm
    rw [this, h1.1.2]
    exact Nat.zero_le _
structure OpB (o : OpT) : Prop where
  kind : 0 ≤ o.kind ∧ o.kind ≤ 127
  most : 0 ≤ o.most ∧ o.most ≤ 127
  key : o.key.length ≤ 12
  val : o.val.length ≤ 16
  lo : o.lo.length ≤ 12
  hi : o.hi.length ≤ 12
  sum : o.key.length + o.val.length + o.lo.length + o.hi.length ≤ 28
theorem ckO_b {o : OpT} (h : ckO o = 0) : OpB o := by
  have hm := (ckO_ok h).2
  unfold ckO at h
  split at h
  · cases h
  · rename_i c
    simp only [Bool.or_eq_true, not_or, Bool.not_eq_true', Bool.and_eq_true, not_and, bne_iff_ne, ne_eq, Decidable.not_not] at c
    obtain ⟨⟨⟨⟨c1, c2⟩, c3⟩, c4⟩, c5⟩ := c
    have hk := kinds (by simpa using c1 : okKind o.kind = true)
    split at h
    · cases h
    · rename_i d1
      split at h
      · cases h
      · rename_i d2
        split at h
        · cases h
        · rename_i d3
          split at h
          · cases h
          · rename_i d4
            simp only [Bool.not_eq_true', decide_eq_false_iff_not, Decidable.not_not] at d2
            have hmost : 0 ≤ o.most ∧ o.most ≤ 127 := by
              by_cases h4 : o.kind = 4
              · simp only [h4, beq_self_eq_true, Bool.true_and, Bool.or_eq_true, decide_eq_true_eq, not_or] at d4
                exact ⟨by omega, by omega⟩
              · have := c5 h4
                exact ⟨by omega, by omega⟩
            by_cases hr : ranged o.kind = true
            · have hkey := c3 hr
              simp only [hr, Bool.true_and, Bool.not_eq_true', Bool.not_eq_false] at d3
              obtain ⟨r1, r2⟩ := ckRl d3
              have hv : o.val = [] := c4 (by
                intro e
                rw [e] at hr
                revert hr
                decide)
              exact ⟨⟨by omega, by omega⟩, hmost, by rw [hkey]; exact Nat.zero_le _, by rw [hv]; exact Nat.zero_le _, r1, r2, by rw [hkey, hv]; simp only [List.length_nil]; simp only at r1 r2; omega⟩
            · have hkd : keyed o.kind = true := by
                rcases hk with e | e | e | e | e <;> rw [e] at hr ⊢ <;> first | rfl | exact absurd rfl hr
              simp only [hkd, Bool.true_and, Bool.not_eq_true', Bool.not_eq_false] at d1
              have r1 := ckKl d1
              have h2 := c2 hkd
              have hlo : o.lo = [] := by
                by_cases e : o.lo = []
                · exact e
                · simp [e] at h2
              have hhi : o.hi = [] := by
                by_cases e : o.hi = []
                · exact e
                · simp [e] at h2
              exact ⟨⟨by omega, by omega⟩, hmost, r1, d2, by rw [hlo]; exact Nat.zero_le _, by rw [hhi]; exact Nat.zero_le _, by rw [hlo, hhi]; simp only [List.length_nil]; omega⟩
theorem OpB.len {o : OpT} (h : OpB o) : (eOp o).length ≤ 34 := by
  unfold eOp
  simp only [List.length_append, eN_one h.kind, eN_one h.most, tB_eq (Nat.le_trans h.key (by decide)), tB_eq (Nat.le_trans h.val (by decide)), tB_eq (Nat.le_trans h.lo (by decide)), tB_eq (Nat.le_trans h.hi (by decide))]
  have := h.sum
  omega
theorem OpB.cut {o : OpT} (h : OpB o) : Cut pOp (eOp o) o :=
  cut_op ⟨h.kind.1, Int.le_trans h.kind.2 (by decide)⟩ ⟨h.most.1, Int.le_trans h.most.2 (by decide)⟩ (Nat.le_trans h.key (by decide)) (Nat.le_trans h.val (by decide)) (Nat.le_trans h.lo (by decide)) (Nat.le_trans h.hi (by decide))

/-! ### What memory says -/
structure SdW (d : Sd) : Prop where
  nums : ∀ n ∈ [d.boot, d.ver, d.epoch, d.move, d.low, d.frozen, d.im, d.ia, d.inx], inN64 n
  fin : ∀ n ∈ d.fin, inN64 n
  held : ∀ h ∈ d.held, inN64 h.1
  short : d.fin.length ≤ reachBytes
  shortH : d.held.length ≤ reachBytes
theorem short_of {B n : Nat} (hB : 0 < B) (h : n * B ≤ reachBytes) : n ≤ reachBytes := Nat.le_trans (Nat.le_mul_of_pos_right n hB) h
theorem sd_w {d : Sd} {s : St} {v : Value} (h : NArg sdN d s v) : SdW d := by
  obtain ⟨cs, rfl, hr⟩ := h
  obtain ⟨ow, he, fi, rfl, hs⟩ := sd_inv hr
  refine ⟨?_, lst_u hs.fi, fun x hx => ?_, short_of (by decide) hs.fi.1, short_of (by decide) hs.he.1⟩
  · intro n hn
    simp only [List.mem_cons, List.not_mem_nil, or_false] at hn
    rcases hn with rfl | rfl | rfl | rfl | rfl | rfl | rfl | rfl | rfl
    · exact wf_64 hs.wboot
    · exact wf_64 hs.wver
    · exact wf_64 hs.wepoch
    · exact wf_64 hs.wmove
    · exact wf_64 hs.wlow
    · exact wf_64 hs.wfrozen
    · exact wf_64 hs.wim
    · exact wf_64 hs.wia
    · exact wf_64 hs.winx
  · obtain ⟨i, hi, rfl⟩ := List.getElem_of_mem hx
    obtain ⟨_, _, cs, _, _, _, _, h1⟩ := listN_get hs.he hi (n := 2) rfl (ag := true) (.inl rfl)
    obtain ⟨_, rfl, w, _⟩ := ho_inv h1
    exact wf_64 w

/-! ### A shard's state -/
structure SdB (d : Sd) : Prop where
  id : 0 ≤ d.id ∧ d.id ≤ 127
  owl : d.owners.length ≤ 6
  ow : ∀ o ∈ d.owners, o.1.length ≤ 12 ∧ 1 ≤ o.2 ∧ o.2 ≤ 4
  hel : d.held.length ≤ 6
  he : ∀ h ∈ d.held, h.2.length ≤ 24 ∧ ∀ o ∈ h.2, OpB o
  fi : d.fin.length ≤ 64
  cold : d.cold.1.length ≤ 12 ∧ d.cold.2.length ≤ 12
  ir : d.ir.1.length ≤ 12 ∧ d.ir.2.length ≤ 12
theorem eSd_b {d : Sd} (h : eSd d = 0) (w : SdW d) : SdB d := by
  unfold eSd at h
  by_cases c : bad1 d = true
  · rw [if_pos c] at h; cases h
  · rw [if_neg c] at h
    by_cases g : good2 d = true
    · simp only [bad1, Bool.or_eq_true, not_or, decide_eq_true_eq, bne_iff_ne, ne_eq, Decidable.not_not] at c
      obtain ⟨⟨⟨⟨⟨⟨c1, c2⟩, c3⟩, c4⟩, c5⟩, c6⟩, c7⟩ := c
      simp only [good2, Bool.and_eq_true, Bool.not_eq_true'] at g
      obtain ⟨⟨⟨_, g2⟩, _⟩, _⟩ := g
      have e := eO_b c3
      have hw := w.short
      have hw2 := w.shortH
      unfold reachBytes at hw hw2
      rw [wrap_i64 (by omega) (by omega)] at c5
      refine ⟨⟨by omega, by omega⟩, e.1, e.2, by omega, fun x hx => ?_, by omega, eR_len c7, eR_len c6⟩
      have h1 := List.any_eq_false.1 g2 x hx
      simp only [badHo, Bool.or_eq_true, not_or, Bool.not_eq_true, List.any_eq_false, Bool.not_eq_true', beq_eq_false_iff_ne, ne_eq, Decidable.not_not, decide_eq_false_iff_not] at h1
      obtain ⟨⟨⟨_, h2⟩, _⟩, h4⟩ := h1
      exact ⟨by omega, fun o ho => ckO_b (h4 o ho)⟩
    · rw [if_neg g] at h; cases h
theorem ow_len {o : Ow} (h : o.1.length ≤ 12 ∧ 1 ≤ o.2 ∧ o.2 ≤ 4) : (eOw o).length ≤ 14 := by
  unfold eOw
  rw [List.length_append, eN_one ⟨by omega, by omega⟩]
  have := tB_one h.1 (by decide)
  omega
theorem pr_len {r : Rg} {m n : Nat} (h : r.1.length ≤ m ∧ r.2.length ≤ n) (hm : m ≤ 127) (hn : n ≤ 127) : (ePr r).length ≤ m + n + 2 := by
  unfold ePr
  rw [List.length_append]
  have := tB_one h.1 hm
  have := tB_one h.2 hn
  omega
theorem nums_len {l : List Int} : (l.flatMap eN).length ≤ l.length * 10 := flatB_len fun _ _ => eN_len
def bodySd (d : Sd) : BL := eN d.id ++ ([d.boot, d.ver, d.epoch, d.move].flatMap eN ++ (eList eOw d.owners ++ (eList eHo d.held ++ (eList eN d.fin ++ ([d.low, d.frozen].flatMap eN ++ (ePr d.cold ++ ([d.im, d.ia, d.inx].flatMap eN ++ ePr d.ir)))))))
theorem encSd_body (d : Sd) : encSd d = [83] ++ bodySd d := by
  unfold encSd bodySd
  simp only [List.flatMap_cons, List.flatMap_nil, List.append_assoc, List.append_nil, List.singleton_append, List.cons_append]
theorem bodySd_len {d : Sd} (h : SdB d) : (bodySd d).length ≤ 8000 := by
  have h0 := eN_one h.id
  have h1 := nums_len (l := [d.boot, d.ver, d.epoch, d.move])
  have h2 := eList_len (f := eOw) h.owl (by decide) fun o ho => ow_len (h.ow o ho)
  have h3 := eList_len (f := eHo) h.hel (by decide) (m := 827) fun x hx => by
    have := eList_len (f := eOp) (h.he x hx).1 (by decide) fun o ho => ((h.he x hx).2 o ho).len
    have := @eN_len x.1
    unfold eHo
    rw [List.length_append]
    omega
  have h4 := eList_len (f := eN) h.fi (by decide) (m := 10) fun n _ => eN_len
  have h5 := nums_len (l := [d.low, d.frozen])
  have h6 := pr_len h.cold (by decide) (by decide)
  have h7 := nums_len (l := [d.im, d.ia, d.inx])
  have h8 := pr_len h.ir (by decide) (by decide)
  unfold bodySd
  simp only [List.length_append, List.length_cons, List.length_nil] at *
  omega
end Go.Proofs.YtckpcelchhmjcaaGreat.Ab

/- The coordinator's state: what it is bounded by; its bytes are read as it (plain laws). -/
namespace Go.Proofs.YtckpcelchhmjcaaGreat.Ab
open Go

structure CdW (c : Cd) : Prop where
  nums : ∀ n ∈ [c.boot, c.ver, c.epoch], inN64 n
  de : ∀ d ∈ c.decided, inN64 d.1 ∧ inN64 d.2.2.1 ∧ inN64 d.2.2.2.1
  la : ∀ a ∈ c.last, inN64 a.2.1 ∧ inN64 a.2.2.1
structure RsB (r : Rs) : Prop where
  val : r.2.1.length ≤ 16
  prl : r.2.2.length ≤ 4
  pr : ∀ p ∈ r.2.2, p.1.length ≤ 12 ∧ p.2.length ≤ 16
structure CdB (c : Cd) : Prop where
  sh : 0 ≤ c.shards ∧ c.shards ≤ 127
  owl : c.owners.length ≤ 6
  ow : ∀ o ∈ c.owners, o.1.length ≤ 12 ∧ 1 ≤ o.2 ∧ o.2 ≤ 4
  del : c.decided.length ≤ 8
  de : ∀ d ∈ c.decided, (0 ≤ d.2.1 ∧ d.2.1 ≤ 127) ∧ d.2.2.2.2.length ≤ 4 ∧ ∀ n ∈ d.2.2.2.2, 0 ≤ n ∧ n ≤ 127
  lal : c.last.length ≤ 4
  la : ∀ a ∈ c.last, (0 ≤ a.1 ∧ a.1 ≤ 127) ∧ a.2.2.2.length ≤ 4 ∧ ∀ r ∈ a.2.2.2, RsB r
theorem rises_len : ∀ {l : List Int} {k : Int}, 0 ≤ k → k ≤ 4 → (∀ n ∈ l, 1 ≤ n ∧ n ≤ 4) → risesK (fun n : Int => IntKind.wrap .u64 n) (some k) l = true → (l.length : Int) ≤ 4 - k
  | [], _, _, h4, _, _ => by simp only [List.length_nil]; omega
  | n :: l, k, h0, h4, hn, h => by
    have h1 := hn n (List.mem_cons_self ..)
    simp only [risesK, Bool.and_eq_true, decide_eq_true_eq] at h
    rw [wrap_pos ⟨by omega, by omega⟩] at h
    have := rises_len (l := l) (k := n) (by omega) (by omega) (fun x hx => hn x (List.mem_cons_of_mem _ hx)) h.2
    simp only [List.length_cons]
    omega
theorem rises_len0 {l : List Int} (hn : ∀ n ∈ l, 1 ≤ n ∧ n ≤ 4) (h : risesK (fun n : Int => IntKind.wrap .u64 n) none l = true) : l.length ≤ 4 := by
  cases l with
  | nil => exact Nat.zero_le _
  | cons n l =>
    have h1 := hn n (List.mem_cons_self ..)
    simp only [risesK] at h
    rw [wrap_pos ⟨by omega, by omega⟩] at h
    have := rises_len (l := l) (k := n) (by omega) (by omega) (fun x hx => hn x (List.mem_cons_of_mem _ hx)) h
    simp only [List.length_cons]
    omega
theorem cli_b {n : Int} (h : cliOk n = true) : 0 ≤ n ∧ n ≤ 127 := by
  simp only [cliOk, Bool.and_eq_true, decide_eq_true_eq] at h
  exact ⟨by omega, by omega⟩
theorem resOk_b {l : List Rs} (h : resOk l = true) : l.length ≤ 4 ∧ ∀ r ∈ l, RsB r := by
  simp only [resOk, Bool.and_eq_true, decide_eq_true_eq, Bool.not_eq_true'] at h
  refine ⟨by omega, fun r hr => ?_⟩
  have h1 := List.any_eq_false.1 h.2 r hr
  simp only [badRs, Bool.or_eq_true, not_or, Bool.not_eq_true, List.any_eq_false, decide_eq_false_iff_not] at h1
  refine ⟨by omega, by omega, fun p hp => ?_⟩
  have h2 := h1.2 p hp
  simp only [badPr, Bool.or_eq_false_iff, decide_eq_false_iff_not, bne_eq_false_iff_eq] at h2
  refine ⟨?_, by omega⟩
  have h3 := h2.1
  unfold eK at h3
  split at h3
  · exact ckKl (by assumption)
  · cases h3
theorem eCd_b {c : Cd} (h : eCd c = 0) : CdB c := by
  unfold eCd at h
  by_cases k : bad1C c = true
  · rw [if_pos k] at h; cases h
  · rw [if_neg k] at h
    by_cases g : good2C c = true
    · simp only [bad1C, Bool.or_eq_true, not_or, decide_eq_true_eq, bne_iff_ne, ne_eq, Decidable.not_not] at k
      obtain ⟨⟨⟨⟨⟨c1, c2⟩, _⟩, c3⟩, c4⟩, c5⟩ := k
      simp only [good2C, Bool.and_eq_true, Bool.not_eq_true'] at g
      obtain ⟨⟨⟨⟨_, g2⟩, g3⟩, _⟩, _⟩ := g
      have e := eO_b c3
      refine ⟨⟨by omega, by omega⟩, e.1, e.2, by omega, fun d hd => ?_, by omega, fun a ha => ?_⟩
      · have h1 := List.any_eq_false.1 g2 d hd
        simp only [badDe, Bool.or_eq_true, not_or, Bool.not_eq_true, Bool.not_eq_false', List.any_eq_false] at h1
        obtain ⟨⟨⟨⟨_, h2⟩, _⟩, h3⟩, h4⟩ := h1
        have hn : ∀ n ∈ d.2.2.2.2, 1 ≤ n ∧ n ≤ 4 := fun n hn => by
          have := h3 n hn
          simp only [aboveB, Bool.or_eq_false_iff, decide_eq_false_iff_not] at this
          exact ⟨by omega, by omega⟩
        exact ⟨cli_b h2, rises_len0 hn h4, fun n h => by have := hn n h; exact ⟨by omega, by omega⟩⟩
      · have h1 := List.any_eq_false.1 g3 a ha
        simp only [badLa, Bool.or_eq_true, not_or, Bool.not_eq_true, Bool.not_eq_false'] at h1
        exact ⟨cli_b h1.1, resOk_b h1.2⟩
    · rw [if_neg g] at h; cases h
theorem RsB.len {r : Rs} (h : RsB r) : (eRs r).length ≤ 139 := by
  have h1 := tB_one h.val (by decide)
  have h2 := eList_len (f := ePr) h.prl (by decide) fun p hp => pr_len (h.pr p hp) (by decide) (by decide)
  unfold eRs
  simp only [List.length_append, List.length_singleton]
  omega
theorem RsB.cut {r : Rs} (h : RsB r) : Cut pRs (eRs r) r :=
  cut_rs (Nat.le_trans h.val (by decide)) (Nat.le_trans h.prl (by decide)) fun p hp => cut_pr (Nat.le_trans (h.pr p hp).1 (by decide)) (Nat.le_trans (h.pr p hp).2 (by decide))
def bodyCd (c : Cd) : BL := eN c.shards ++ ([c.boot, c.ver, c.epoch].flatMap eN ++ (eList eOw c.owners ++ (eList eDe c.decided ++ eList eLa c.last)))
theorem encCd_body (c : Cd) : encCd c = [67] ++ bodyCd c := by
  unfold encCd bodyCd
  simp only [List.flatMap_cons, List.flatMap_nil, List.append_assoc, List.append_nil, List.singleton_append, List.cons_append]
theorem bodyCd_len {c : Cd} (h : CdB c) : (bodyCd c).length ≤ 8000 := by
  have h0 := eN_one h.sh
  have h1 := nums_len (l := [c.boot, c.ver, c.epoch])
  have h2 := eList_len (f := eOw) h.owl (by decide) fun o ho => ow_len (h.ow o ho)
  have h3 := eList_len (f := eDe) h.del (by decide) (m := 36) fun x hx => by
    have q := h.de x hx
    have := eList_len (f := eN) q.2.1 (by decide) (m := 1) fun n hn => Nat.le_of_eq (eN_one (q.2.2 n hn))
    have := @eN_len x.1
    have := eN_one q.1
    have := @eN_len x.2.2.1
    have := @eN_len x.2.2.2.1
    unfold eDe
    simp only [List.length_append]
    omega
  have h4 := eList_len (f := eLa) h.lal (by decide) (m := 578) fun x hx => by
    have q := h.la x hx
    have := eList_len (f := eRs) q.2.1 (by decide) (m := 139) fun r hr => (q.2.2 r hr).len
    have := eN_one q.1
    have := @eN_len x.2.1
    have := @eN_len x.2.2.1
    unfold eLa
    simp only [List.length_append]
    omega
  unfold bodyCd
  simp only [List.length_append, List.length_cons, List.length_nil] at *
  omega
end Go.Proofs.YtckpcelchhmjcaaGreat.Ab

/- The document's checks: operations, results, a shard's state. -/
namespace Go.Proofs.YtckpcelchhmjcaaGreat.Ab
open Go

/-- an element, its cells -/
theorem listN_cellS {α : Type} {C : NCod α} {B : Nat} {l : List α} {s : St} {v : Value} (h : ListN C B l s v) {i : Nat} (hi : i < l.length) {n : Nat} (hn : n = C.n) : ∃ (b : Nat) (cs : List Value), aindexS n v (.int .i64 (i : Int)) = some (.pointer (some ⟨b, i * n, none⟩)) ∧ C.rel l[i] s cs ∧ cs.length = n ∧ aload true n (.pointer (some ⟨b, i * n, none⟩)) s = some (.agg cs.toArray) ∧ ∀ j x, cs[j]? = some x → aload false 1 (.pointer (some ⟨b, i * n + j, none⟩)) s = some x := by
  subst hn
  obtain ⟨b, cells, c, rfl, h1, h2, h3, h4⟩ := listN_row h hi
  have hle : (i + 1) * C.n ≤ cells.length := by rw [h2]; exact Nat.mul_le_mul_right _ hi
  rw [Nat.add_mul, Nat.one_mul] at hle
  have hcl := C.len h4
  refine ⟨b, c, by simp [aindexS]; omega, h4, hcl, ?_, fun j x hx => ?_⟩
  · simp only [aload, if_true, readN, h1, Option.bind_some]
    rw [if_pos hle, h3]
    rfl
  · simp only [aload, h1, Option.bind_some, Bool.false_eq_true, if_false]
    have hj : j < c.length := (List.getElem?_eq_some_iff.1 hx).1
    rw [← h3, List.getElem?_take, if_pos (by omega), List.getElem?_drop] at hx
    exact hx
theorem dec_i64 {n : Nat} (h : n < 140737488355328) (h0 : 0 < n) : IntKind.wrap .i64 ((n : Int) - 1) = ((n - 1 : Nat) : Int) := by rw [wrap_i64 (by omega) (by omega)]; omega
def prvK {α : Type} (key : α → Int) (l : List α) : Nat → Option Int
  | 0 => none
  | i + 1 => l[i]?.map key
theorem prvK_nx {α : Type} {key : α → Int} {l : List α} {i : Nat} (hi : i < l.length) : prvK key l (i + 1) = some (key l[i]) := by
  show l[i]?.map key = _
  rw [List.getElem?_eq_getElem hi]
  rfl
def abvK (p : Option Int) (k : Int) : Bool := match p with
  | none => true
  | some q => decide (q < k)
theorem risesK_cons {α : Type} {key : α → Int} {p : Option Int} {a : α} {l : List α} : risesK key p (a :: l) = (abvK p (key a) && risesK key (some (key a)) l) := by
  cases p <;> simp [risesK, abvK]

/-! ### Operations -/
def errAll : List OpT → Int
  | [] => 0
  | o :: l => if ckO o = 0 then errAll l else ckO o
theorem errAll_0 : ∀ {l : List OpT}, (errAll l == 0) = !(l.any fun o => !(ckO o == 0))
  | [] => rfl
  | o :: l => by
    simp only [errAll, List.any_cons]
    by_cases h : ckO o = 0
    · rw [if_pos h, errAll_0, h]; rfl
    · rw [if_neg h]
      have : (ckO o == 0) = false := by simp [h]
      rw [this]; rfl
theorem k_refckO (o : OpT) (s : St) : (run Tryz.prog (libL libT) hints) 111 [oV o] s = some (.int .i64 (ckO o), s) := (known (g := gCkO) rfl).trans ckO_eq
theorem k_refchk (r : Rg) (s : St) : (run Tryz.prog (libL libT) hints) 49 [rv r] s = some (.int .i64 (eR r), s) := (known (g := gChk) rfl).trans chk_eq
theorem k_refkey (k : BL) (s : St) : (run Tryz.prog (libL libT) hints) 110 [sv k] s = some (.int .i64 (eK k), s) := (known (g := gKey) rfl).trans key_eq
theorem k_refO {v : Value} {s : St} {l : List Ow} (h : listOf owC v s = some l) (hl : l.length < 140737488355328) : (run Tryz.prog (libL libT) hints) 48 [v] s = some (.int .i64 (eO l), s) := (known (g := gEOr) rfl).trans (gL_eq h hl)
theorem all_loopK {v : Value} {s : St} {l : List OpT} (h : ListN (.ofC opC fun _ => True) 80 l s v) (hl : l.length < 140737488355328) : ∀ (rest : List OpT) (i : Nat), l.drop i = rest → i ≤ l.length →
    loopL (ref04_All.b0 (run Tryz.prog (libL libT) hints)) [v, .int .i64 ((l.length : Nat) : Int), .int .i64 (i : Int)] s = some (if errAll rest = 0 then (.exit 0, [], s) else (.ret, [.int .i64 (errAll rest)], s)) := by
  intro rest
  induction rest with
  | nil =>
    intro i h1 hle
    have := List.drop_eq_nil_iff.1 h1
    have hd : decide ((i : Int) < ((l.length : Nat) : Int)) = false := by simp; omega
    rw [loopL_eq]
    simp only [ref04_All.b0, hd, errAll, if_true, n_bind, n_map, getL_0, getL_1, getL_2, getL_3, getL_4, getL_5, getL_6, getL_7, getL_8, getL_9, getL_10, getL_11, getL_12, condV_t, condV_f, guardV_tt, guardV_ff, guardV_tf, guardV_ft, guardV_u, apick_t, apick_f, exV_exit, exV_ret, lookE_same, joinK_eq, seqA_n, seqA_e, seqA_r, e_add, e_sub, e_mul, e_eql, e_neq, e_lss, e_leq, e_gtr, e_geq, e_conv, e_not, e_neg, and_guard, or_guard]
  | cons o rest ih =>
    intro i h1 hle
    obtain ⟨hi, he, hd⟩ := drop_nx h1
    have hdc : decide ((i : Int) < ((l.length : Nat) : Int)) = true := by simp; omega
    obtain ⟨b, cs, a1, a2, a3, a4, a5⟩ := listN_cellS h hi (n := 6) rfl
    obtain ⟨rfl, _⟩ := a2
    rw [he] at a4
    have a4 : aload true 6 (.pointer (some ⟨b, i * 6, none⟩)) s = some (oV o) := a4
    have st : lstore 6 lptr (oV o) (.agg #[(.int .i64 0), (.string ⟨#[]⟩), (.string ⟨#[]⟩), (.string ⟨#[]⟩), (.string ⟨#[]⟩), (.int .i64 0)]) = some (oV o) := rfl
    have ld : lload true 6 lptr (oV o) = some (oV o) := rfl
    rw [loopL_eq]
    by_cases hz : ckO o = 0
    · have e : (ckO o != 0) = false := by simp [hz]
      simp only [ref04_All.b0, hdc, a1, a4, st, ld, ref04_CheckOp_call, k_refckO, e, inc_i64 (show i < 140737488355328 by omega), n_bind, n_map, getL_0, getL_1, getL_2, getL_3, getL_4, getL_5, getL_6, getL_7, getL_8, getL_9, getL_10, getL_11, getL_12, condV_t, condV_f, guardV_tt, guardV_ff, guardV_tf, guardV_ft, guardV_u, apick_t, apick_f, exV_exit, exV_ret, lookE_same, joinK_eq, seqA_n, seqA_e, seqA_r, e_add, e_sub, e_mul, e_eql, e_neq, e_lss, e_leq, e_gtr, e_geq, e_conv, e_not, e_neg, and_guard, or_guard]
      rw [ih (i + 1) hd hi]
      simp only [errAll, hz, if_true]
    · have e : (ckO o != 0) = true := by simp [hz]
      simp only [ref04_All.b0, hdc, a1, a4, st, ld, ref04_CheckOp_call, k_refckO, e, errAll, hz, if_false, n_bind, n_map, getL_0, getL_1, getL_2, getL_3, getL_4, getL_5, getL_6, getL_7, getL_8, getL_9, getL_10, getL_11, getL_12, condV_t, condV_f, guardV_tt, guardV_ff, guardV_tf, guardV_ft, guardV_u, apick_t, apick_f, exV_exit, exV_ret, lookE_same, joinK_eq, seqA_n, seqA_e, seqA_r, e_add, e_sub, e_mul, e_eql, e_neq, e_lss, e_leq, e_gtr, e_geq, e_conv, e_not, e_neg, and_guard, or_guard]
theorem all_runK {v : Value} {s : St} {l : List OpT} (h : ListN (.ofC opC fun _ => True) 80 l s v) : (run Tryz.prog (libL libT) hints) 50 [v] s = some (.int .i64 (errAll l), s) := by
  have hl := listN_short h (by decide)
  have h1 := all_loopK h hl l 0 rfl (Nat.zero_le _)
  rw [show ((0 : Nat) : Int) = 0 from rfl] at h1
  have hr : ∀ n, retV [.int .i64 n] s = some (.int .i64 n, s) := fun n => ret1 rfl
  refine ref04_All_of rfl ?_
  unfold ref04_All
  by_cases hz : errAll l = 0
  · rw [if_pos hz] at h1
    simp only [listN_lenR h, h1, hz, hr, n_bind, n_map, getL_0, getL_1, getL_2, getL_3, getL_4, getL_5, getL_6, getL_7, getL_8, getL_9, getL_10, getL_11, getL_12, condV_t, condV_f, guardV_tt, guardV_ff, guardV_tf, guardV_ft, guardV_u, apick_t, apick_f, exV_exit, exV_ret, lookE_same, joinK_eq, seqA_n, seqA_e, seqA_r, e_add, e_sub, e_mul, e_eql, e_neq, e_lss, e_leq, e_gtr, e_geq, e_conv, e_not, e_neg, and_guard, or_guard]
  · rw [if_neg hz] at h1
    simp only [listN_lenR h, h1, hr, n_bind, n_map, getL_0, getL_1, getL_2, getL_3, getL_4, getL_5, getL_6, getL_7, getL_8, getL_9, getL_10, getL_11, getL_12, condV_t, condV_f, guardV_tt, guardV_ff, guardV_tf, guardV_ft, guardV_u, apick_t, apick_f, exV_exit, exV_ret, lookE_same, joinK_eq, seqA_n, seqA_e, seqA_r, e_add, e_sub, e_mul, e_eql, e_neq, e_lss, e_leq, e_gtr, e_geq, e_conv, e_not, e_neg, and_guard, or_guard]

/-! ### Results -/
theorem respr_loop {v T0 T1 T2 : Value} {s : St} {l : List Rg} (h : ListN (.ofC prC fun _ => True) 32 l s v) (hl : l.length < 140737488355328) : ∀ (rest : List Rg) (i : Nat), l.drop i = rest → i ≤ l.length →
    loopL (ref18_Results.b1 (run Tryz.prog (libL libT) hints)) [T0, T1, T2, v, .int .i64 ((l.length : Nat) : Int), .int .i64 (i : Int)] s = some (if rest.any badPr = true then (.ret, [.bool false], s) else (.exit 2, [T0, T1, T2], s)) := by
  intro rest
  induction rest with
  | nil =>
    intro i h1 hle
    have := List.drop_eq_nil_iff.1 h1
    have hd : decide ((i : Int) < ((l.length : Nat) : Int)) = false := by simp; omega
    rw [loopL_eq]
    simp only [ref18_Results.b1, hd, List.any_nil, Bool.false_eq_true, if_false, n_bind, n_map, getL_0, getL_1, getL_2, getL_3, getL_4, getL_5, getL_6, getL_7, getL_8, getL_9, getL_10, getL_11, getL_12, condV_t, condV_f, guardV_tt, guardV_ff, guardV_tf, guardV_ft, guardV_u, apick_t, apick_f, exV_exit, exV_ret, lookE_same, joinK_eq, seqA_n, seqA_e, seqA_r, e_add, e_sub, e_mul, e_eql, e_neq, e_lss, e_leq, e_gtr, e_geq, e_conv, e_not, e_neg, and_guard, or_guard]
  | cons o rest ih =>
    intro i h1 hle
    obtain ⟨hi, he, hd⟩ := drop_nx h1
    have hdc : decide ((i : Int) < ((l.length : Nat) : Int)) = true := by simp; omega
    obtain ⟨b, cs, a1, a2, a3, a4, a5⟩ := listN_cellS h hi (n := 2) rfl
    obtain ⟨rfl, _⟩ := a2
    rw [he] at a4
    have a4 : aload true 2 (.pointer (some ⟨b, i * 2, none⟩)) s = some (rv o) := a4
    have st : lstore 2 lptr (rv o) (.agg #[(.string ⟨#[]⟩), (.string ⟨#[]⟩)]) = some (rv o) := rfl
    have l0 : lload false 1 lptr (rv o) = some (sv o.1) := rfl
    have l1 : lload false 1 (.pointer (some ⟨0, 1, none⟩)) (rv o) = some (sv o.2) := rfl
    rw [loopL_eq]
    have hc : (o :: rest).any badPr = (((eK o.1 != 0) || decide (((o.2.length : Nat) : Int) > 16)) || rest.any badPr) := rfl
    rw [hc]
    cases e : ((eK o.1 != 0) || decide (((o.2.length : Nat) : Int) > 16))
    · simp only [ref18_Results.b1, hdc, a1, a4, st, l0, l1, len_sv, ref02_CheckKey_call, k_refkey, e, inc_i64 (show i < 140737488355328 by omega), n_bind, n_map, getL_0, getL_1, getL_2, getL_3, getL_4, getL_5, getL_6, getL_7, getL_8, getL_9, getL_10, getL_11, getL_12, condV_t, condV_f, guardV_tt, guardV_ff, guardV_tf, guardV_ft, guardV_u, apick_t, apick_f, exV_exit, exV_ret, lookE_same, joinK_eq, seqA_n, seqA_e, seqA_r, e_add, e_sub, e_mul, e_eql, e_neq, e_lss, e_leq, e_gtr, e_geq, e_conv, e_not, e_neg, and_guard, or_guard]
      rw [ih (i + 1) hd hi, Bool.false_or]
    · simp only [ref18_Results.b1, hdc, a1, a4, st, l0, l1, len_sv, ref02_CheckKey_call, k_refkey, e, Bool.true_or, if_true, n_bind, n_map, getL_0, getL_1, getL_2, getL_3, getL_4, getL_5, getL_6, getL_7, getL_8, getL_9, getL_10, getL_11, getL_12, condV_t, condV_f, guardV_tt, guardV_ff, guardV_tf, guardV_ft, guardV_u, apick_t, apick_f, exV_exit, exV_ret, lookE_same, joinK_eq, seqA_n, seqA_e, seqA_r, e_add, e_sub, e_mul, e_eql, e_neq, e_lss, e_leq, e_gtr, e_geq, e_conv, e_not, e_neg, and_guard, or_guard]
theorem resrs_loop {v : Value} {s : St} {l : List Rs} (h : ListN rsN 48 l s v) (hl : l.length < 140737488355328) : ∀ (rest : List Rs) (i : Nat), l.drop i = rest → i ≤ l.length →
    loopL (ref18_Results.b0 (run Tryz.prog (libL libT) hints)) [v, .int .i64 ((l.length : Nat) : Int), .int .i64 (i : Int)] s = some (if rest.any badRs = true then (.ret, [.bool false], s) else (.exit 0, [], s)) := by
  intro rest
  induction rest with
  | nil =>
    intro i h1 hle
    have := List.drop_eq_nil_iff.1 h1
    have hd : decide ((i : Int) < ((l.length : Nat) : Int)) = false := by simp; omega
    rw [loopL_eq]
    simp only [ref18_Results.b0, hd, List.any_nil, Bool.false_eq_true, if_false, n_bind, n_map, getL_0, getL_1, getL_2, getL_3, getL_4, getL_5, getL_6, getL_7, getL_8, getL_9, getL_10, getL_11, getL_12, condV_t, condV_f, guardV_tt, guardV_ff, guardV_tf, guardV_ft, guardV_u, apick_t, apick_f, exV_exit, exV_ret, lookE_same, joinK_eq, seqA_n, seqA_e, seqA_r, e_add, e_sub, e_mul, e_eql, e_neq, e_lss, e_leq, e_gtr, e_geq, e_conv, e_not, e_neg, and_guard, or_guard]
  | cons o rest ih =>
    intro i h1 hle
    obtain ⟨hi, he, hd⟩ := drop_nx h1
    have hdc : decide ((i : Int) < ((l.length : Nat) : Int)) = true := by simp; omega
    obtain ⟨b, cs, a1, a2, a3, a4, a5⟩ := listN_cellS h hi (n := 3) rfl
    rw [he] at a2
    obtain ⟨z, rfl, hz, _⟩ := rs_inv a2
    have st : lstore 3 lptr (.agg [.bool o.1, sv o.2.1, z].toArray) (.agg #[(.bool false), (.string ⟨#[]⟩), (.slice none 0 0)]) = some (.agg [.bool o.1, sv o.2.1, z].toArray) := arr_put (cs := [(.bool false), (.string ⟨#[]⟩), (.slice none 0 0)]) rfl rfl (by simp only [List.all_cons, listN_leafR hz, List.all_nil]; rfl)
    have l1 : lload false 1 (.pointer (some ⟨0, 1, none⟩)) (.agg [.bool o.1, sv o.2.1, z].toArray) = some (sv o.2.1) := rfl
    have l2 : lload false 1 (.pointer (some ⟨0, 2, none⟩)) (.agg [.bool o.1, sv o.2.1, z].toArray) = some z := rfl
    have hc : (o :: rest).any badRs = (((decide (((o.2.1.length : Nat) : Int) > 16) || decide (((o.2.2.length : Nat) : Int) > 4)) || o.2.2.any badPr) || rest.any badRs) := rfl
    rw [loopL_eq, hc]
    cases e : (decide (((o.2.1.length : Nat) : Int) > 16) || decide (((o.2.2.length : Nat) : Int) > 4))
    · have L := respr_loop (T0 := v) (T1 := .int .i64 ((l.length : Nat) : Int)) (T2 := .int .i64 (i : Int)) hz (listN_short hz (by decide)) o.2.2 0 rfl (Nat.zero_le _)
      rw [show ((0 : Nat) : Int) = 0 from rfl] at L
      cases e2 : o.2.2.any badPr
      · rw [e2] at L
        simp only [Bool.false_eq_true, if_false] at L
        simp only [ref18_Results.b0, hdc, a1, a4, st, l1, l2, len_sv, listN_lenR hz, e, L, inc_i64 (show i < 140737488355328 by omega), n_bind, n_map, getL_0, getL_1, getL_2, getL_3, getL_4, getL_5, getL_6, getL_7, getL_8, getL_9, getL_10, getL_11, getL_12, condV_t, condV_f, guardV_tt, guardV_ff, guardV_tf, guardV_ft, guardV_u, apick_t, apick_f, exV_exit, exV_ret, lookE_same, joinK_eq, seqA_n, seqA_e, seqA_r, e_add, e_sub, e_mul, e_eql, e_neq, e_lss, e_leq, e_gtr, e_geq, e_conv, e_not, e_neg, and_guard, or_guard]
        rw [ih (i + 1) hd hi]
        simp only [Bool.false_or]
      · rw [e2] at L
        simp only [if_true] at L
        simp only [ref18_Results.b0, hdc, a1, a4, st, l1, l2, len_sv, listN_lenR hz, e, L, Bool.false_or, Bool.true_or, if_true, n_bind, n_map, getL_0, getL_1, getL_2, getL_3, getL_4, getL_5, getL_6, getL_7, getL_8, getL_9, getL_10, getL_11, getL_12, condV_t, condV_f, guardV_tt, guardV_ff, guardV_tf, guardV_ft, guardV_u, apick_t, apick_f, exV_exit, exV_ret, lookE_same, joinK_eq, seqA_n, seqA_e, seqA_r, e_add, e_sub, e_mul, e_eql, e_neq, e_lss, e_leq, e_gtr, e_geq, e_conv, e_not, e_neg, and_guard, or_guard]
    · simp only [ref18_Results.b0, hdc, a1, a4, st, l1, l2, len_sv, listN_lenR hz, e, Bool.true_or, if_true, n_bind, n_map, getL_0, getL_1, getL_2, getL_3, getL_4, getL_5, getL_6, getL_7, getL_8, getL_9, getL_10, getL_11, getL_12, condV_t, condV_f, guardV_tt, guardV_ff, guardV_tf, guardV_ft, guardV_u, apick_t, apick_f, exV_exit, exV_ret, lookE_same, joinK_eq, seqA_n, seqA_e, seqA_r, e_add, e_sub, e_mul, e_eql, e_neq, e_lss, e_leq, e_gtr, e_geq, e_conv, e_not, e_neg, and_guard, or_guard]
theorem refres_run {v : Value} {s : St} {l : List Rs} (h : ListN rsN 48 l s v) : (run Tryz.prog (libL libT) hints) 67 [v, .int .i64 4] s = some (.bool (resOk l), s) := by
  have hl := listN_short h (by decide)
  have h1 := resrs_loop h hl l 0 rfl (Nat.zero_le _)
  rw [show ((0 : Nat) : Int) = 0 from rfl] at h1
  have hr : ∀ b, retV [.bool b] s = some (.bool b, s) := fun n => ret1 rfl
  refine ref18_Results_of rfl ?_
  unfold ref18_Results resOk
  by_cases c : ((l.length : Nat) : Int) > 4
  · have c2 : decide (((l.length : Nat) : Int) ≤ 4) = false := by simp; omega
    simp only [listN_lenR h, decide_eq_true c, c2, Bool.false_and, hr, n_bind, n_map, getL_0, getL_1, getL_2, getL_3, getL_4, getL_5, getL_6, getL_7, getL_8, getL_9, getL_10, getL_11, getL_12, condV_t, condV_f, guardV_tt, guardV_ff, guardV_tf, guardV_ft, guardV_u, apick_t, apick_f, exV_exit, exV_ret, lookE_same, joinK_eq, seqA_n, seqA_e, seqA_r, e_add, e_sub, e_mul, e_eql, e_neq, e_lss, e_leq, e_gtr, e_geq, e_conv, e_not, e_neg, and_guard, or_guard]
  · have c2 : decide (((l.length : Nat) : Int) ≤ 4) = true := by simp; omega
    cases e2 : l.any badRs
    · rw [e2] at h1
      simp only [Bool.false_eq_true, if_false] at h1
      simp only [listN_lenR h, decide_eq_false c, c2, h1, hr, Bool.not_false, Bool.true_and, n_bind, n_map, getL_0, getL_1, getL_2, getL_3, getL_4, getL_5, getL_6, getL_7, getL_8, getL_9, getL_10, getL_11, getL_12, condV_t, condV_f, guardV_tt, guardV_ff, guardV_tf, guardV_ft, guardV_u, apick_t, apick_f, exV_exit, exV_ret, lookE_same, joinK_eq, seqA_n, seqA_e, seqA_r, e_add, e_sub, e_mul, e_eql, e_neq, e_lss, e_leq, e_gtr, e_geq, e_conv, e_not, e_neg, and_guard, or_guard]
    · rw [e2] at h1
      simp only [if_true] at h1
      simp only [listN_lenR h, decide_eq_false c, c2, h1, hr, Bool.not_true, Bool.true_and, n_bind, n_map, getL_0, getL_1, getL_2, getL_3, getL_4, getL_5, getL_6, getL_7, getL_8, getL_9, getL_10, getL_11, getL_12, condV_t, condV_f, guardV_tt, guardV_ff, guardV_tf, guardV_ft, guardV_u, apick_t, apick_f, exV_exit, exV_ret, lookE_same, joinK_eq, seqA_n, seqA_e, seqA_r, e_add, e_sub, e_mul, e_eql, e_neq, e_lss, e_leq, e_gtr, e_geq, e_conv, e_not, e_neg, and_guard, or_guard]

/-! ### A shard's state -/
theorem num_valK {k : IntKind} {a : Int} {s : St} {u : Value} {cs : List Value} (h : (wfN k).rel a s cs) (g : Shape false u cs) : u = .int k a := by
  obtain ⟨h1, _⟩ := h
  have g : cs = [u] := g
  rw [g] at h1
  exact (List.cons.inj h1).1
section
variable {d : Sd} {s : St} {ow he fi : Value} (hs : SdIn d s ow he fi)
include hs
theorem ckS_b1 {T3 T4 T5 T9 X : Value} {k : Int} (hX : lload false 1 lptr X = some (.int .u64 k)) (hl : d.fin.length < 140737488355328) : ∀ (rest : List Int) (i : Nat) (g : Bool), d.fin.drop i = rest → i ≤ d.fin.length →
    loopL (ref19_CheckShard.b1 (run Tryz.prog (libL libT) hints)) [lptr, .bool g, lptr, T3, T4, T5, fi, .int .i64 ((d.fin.length : Nat) : Int), .int .i64 (i : Int), T9, X] s = some (.exit 2, [lptr, .bool (g && rest.all fun n => n != k), T3, T4, T5, T9], s) := by
  have p0 : afieldAddr 0 lptr = some lptr := rfl
  intro rest
  induction rest with
  | nil =>
    intro i g h1 hle
    have := List.drop_eq_nil_iff.1 h1
    have hd : decide ((i : Int) < ((d.fin.length : Nat) : Int)) = false := by simp; omega
    rw [loopL_eq]
    simp only [ref19_CheckShard.b1, hd, List.all_nil, Bool.and_true, n_bind, n_map, getL_0, getL_1, getL_2, getL_3, getL_4, getL_5, getL_6, getL_7, getL_8, getL_9, getL_10, getL_11, getL_12, condV_t, condV_f, guardV_tt, guardV_ff, guardV_tf, guardV_ft, guardV_u, apick_t, apick_f, exV_exit, exV_ret, lookE_same, joinK_eq, seqA_n, seqA_e, seqA_r, e_add, e_sub, e_mul, e_eql, e_neq, e_lss, e_leq, e_gtr, e_geq, e_conv, e_not, e_neg, and_guard, or_guard]
  | cons o rest ih =>
    intro i g h1 hle
    obtain ⟨hi, he0, hd⟩ := drop_nx h1
    have hdc : decide ((i : Int) < ((d.fin.length : Nat) : Int)) = true := by simp; omega
    obtain ⟨p, x, cs, a1, a2, _, a3, a4⟩ := listN_get hs.fi hi (n := 1) rfl (ag := false) (.inr rfl)
    rw [num_valK a4 a3, he0] at a2
    rw [loopL_eq]
    simp only [ref19_CheckShard.b1, hdc, a1, a2, p0, hX, inc_i64 (show i < 140737488355328 by omega), n_bind, n_map, getL_0, getL_1, getL_2, getL_3, getL_4, getL_5, getL_6, getL_7, getL_8, getL_9, getL_10, getL_11, getL_12, condV_t, condV_f, guardV_tt, guardV_ff, guardV_tf, guardV_ft, guardV_u, apick_t, apick_f, exV_exit, exV_ret, lookE_same, joinK_eq, seqA_n, seqA_e, seqA_r, e_add, e_sub, e_mul, e_eql, e_neq, e_lss, e_leq, e_gtr, e_geq, e_conv, e_not, e_neg, and_guard, or_guard]
    rw [ih (i + 1) (g && (o != k)) hd hi]
    simp only [List.all_cons, Bool.and_assoc]
def stepH (fin : List Int) (p : Option Int) (h : Ho) : Bool := (((abvK p h.1 && decide (((h.2.length : Nat) : Int) ≥ 1)) && decide (((h.2.length : Nat) : Int) ≤ 24)) && (errAll h.2 == 0)) && fin.all fun n => n != h.1
def heldG (fin : List Int) : Option Int → List Ho → Bool
  | _, [] => true
  | p, h :: l => stepH fin p h && heldG fin (some h.1) l
theorem ckS_b0 (hl : d.held.length < 140737488355328) (hlf : d.fin.length < 140737488355328) : ∀ (rest : List Ho) (i : Nat) (g : Bool), d.held.drop i = rest → i ≤ d.held.length →
    loopL (ref19_CheckShard.b0 (run Tryz.prog (libL libT) hints)) [lptr, .bool g, he, .int .i64 ((d.held.length : Nat) : Int), .int .i64 (i : Int), .agg (sdCells d ow he fi).toArray] s = some (.exit 0, [lptr, .bool (g && heldG d.fin (prvK (fun h : Ho => h.1) d.held i) rest), .agg (sdCells d ow he fi).toArray], s) := by
  have p0 : afieldAddr 0 lptr = some lptr := rfl
  have p6 : afieldAddr 6 lptr = some (.pointer (some ⟨0, 6, none⟩)) := rfl
  have p7 : afieldAddr 7 lptr = some (.pointer (some ⟨0, 7, none⟩)) := rfl
  have i6 : lload false 1 (.pointer (some ⟨0, 6, none⟩)) (.agg (sdCells d ow he fi).toArray) = some he := rfl
  have i7 : lload false 1 (.pointer (some ⟨0, 7, none⟩)) (.agg (sdCells d ow he fi).toArray) = some fi := rfl
  generalize (Value.agg (sdCells d ow he fi).toArray) = u at *
  have lf := listN_lenR hs.fi
  intro rest
  induction rest with
  | nil =>
    intro i g h1 hle
    have := List.drop_eq_nil_iff.1 h1
    have hd : decide ((i : Int) < ((d.held.length : Nat) : Int)) = false := by simp; omega
    rw [loopL_eq]
    simp only [ref19_CheckShard.b0, hd, heldG, Bool.and_true, n_bind, n_map, getL_0, getL_1, getL_2, getL_3, getL_4, getL_5, getL_6, getL_7, getL_8, getL_9, getL_10, getL_11, getL_12, condV_t, condV_f, guardV_tt, guardV_ff, guardV_tf, guardV_ft, guardV_u, apick_t, apick_f, exV_exit, exV_ret, lookE_same, joinK_eq, seqA_n, seqA_e, seqA_r, e_add, e_sub, e_mul, e_eql, e_neq, e_lss, e_leq, e_gtr, e_geq, e_conv, e_not, e_neg, and_guard, or_guard]
  | cons o rest ih =>
    intro i g h1 hle
    obtain ⟨hi, he0, hd⟩ := drop_nx h1
    have hdc : decide ((i : Int) < ((d.held.length : Nat) : Int)) = true := by simp; omega
    obtain ⟨b, cs, a1, a2, a3, a4, a5⟩ := listN_cellS hs.he hi (n := 2) rfl
    rw [he0] at a2
    obtain ⟨z, rfl, _, hz⟩ := ho_inv a2
    have st : lstore 2 lptr (.agg [.int .u64 o.1, z].toArray) (.agg #[(.int .u64 0), (.slice none 0 0)]) = some (.agg [.int .u64 o.1, z].toArray) := arr_put (cs := [(.int .u64 0), (.slice none 0 0)]) rfl rfl (by simp only [List.all_cons, listN_leafR hz, List.all_nil]; rfl)
    have l0 : lload false 1 lptr (.agg [.int .u64 o.1, z].toArray) = some (.int .u64 o.1) := rfl
    have l1 : lload false 1 (.pointer (some ⟨0, 1, none⟩)) (.agg [.int .u64 o.1, z].toArray) = some z := rfl
    generalize (Value.agg [.int .u64 o.1, z].toArray) = X at *
    have L : ∀ g', loopL (ref19_CheckShard.b1 (run Tryz.prog (libL libT) hints)) [lptr, .bool g', lptr, he, .int .i64 ((d.held.length : Nat) : Int), .int .i64 (i : Int), fi, .int .i64 ((d.fin.length : Nat) : Int), .int .i64 0, u, X] s = some (.exit 2, [lptr, .bool (g' && d.fin.all fun n => n != o.1), he, .int .i64 ((d.held.length : Nat) : Int), .int .i64 (i : Int), u], s) := fun g' => ckS_b1 hs l0 hlf d.fin 0 g' rfl (Nat.zero_le _)
    have hAll := all_runK hz
    have lz := listN_lenR hz
    have hstep : loopL (ref19_CheckShard.b0 (run Tryz.prog (libL libT) hints)) [lptr, .bool g, he, .int .i64 ((d.held.length : Nat) : Int), .int .i64 (i : Int), u] s = loopL (ref19_CheckShard.b0 (run Tryz.prog (libL libT) hints)) [lptr, .bool (g && stepH d.fin (prvK (fun h : Ho => h.1) d.held i) o), he, .int .i64 ((d.held.length : Nat) : Int), .int .i64 ((i + 1 : Nat) : Int), u] s := by
      conv => lhs; rw [loopL_eq]
      have hinc := inc_i64 (show i < 140737488355328 by omega)
      cases g with
      | false => simp only [ref19_CheckShard.b0, hdc, a1, a4, st, p7, i7, lf, L, own_id, Bool.false_and, hinc, n_bind, n_map, getL_0, getL_1, getL_2, getL_3, getL_4, getL_5, getL_6, getL_7, getL_8, getL_9, getL_10, getL_11, getL_12, condV_t, condV_f, guardV_tt, guardV_ff, guardV_tf, guardV_ft, guardV_u, apick_t, apick_f, exV_exit, exV_ret, lookE_same, joinK_eq, seqA_n, seqA_e, seqA_r, e_add, e_sub, e_mul, e_eql, e_neq, e_lss, e_leq, e_gtr, e_geq, e_conv, e_not, e_neg, and_guard, or_guard]
      | true =>
        cases i with
        | zero =>
          have e0 : (((0 : Nat) : Int) == 0) = true := rfl
          unfold stepH
          simp only [prvK, abvK, Bool.true_and]
          cases c2 : decide (((o.2.length : Nat) : Int) ≥ 1)
          · simp only [ref19_CheckShard.b0, hdc, a1, a4, st, l0, l1, lz, e0, c2, p7, i7, lf, L, own_id, Bool.false_and, hinc, n_bind, n_map, getL_0, getL_1, getL_2, getL_3, getL_4, getL_5, getL_6, getL_7, getL_8, getL_9, getL_10, getL_11, getL_12, condV_t, condV_f, guardV_tt, guardV_ff, guardV_tf, guardV_ft, guardV_u, apick_t, apick_f, exV_exit, exV_ret, lookE_same, joinK_eq, seqA_n, seqA_e, seqA_r, e_add, e_sub, e_mul, e_eql, e_neq, e_lss, e_leq, e_gtr, e_geq, e_conv, e_not, e_neg, and_guard, or_guard]
          · cases c3 : decide (((o.2.length : Nat) : Int) ≤ 24)
            · simp only [ref19_CheckShard.b0, hdc, a1, a4, st, l0, l1, lz, e0, c2, c3, p7, i7, lf, L, own_id, Bool.false_and, Bool.true_and, hinc, n_bind, n_map, getL_0, getL_1, getL_2, getL_3, getL_4, getL_5, getL_6, getL_7, getL_8, getL_9, getL_10, getL_11, getL_12, condV_t, condV_f, guardV_tt, guardV_ff, guardV_tf, guardV_ft, guardV_u, apick_t, apick_f, exV_exit, exV_ret, lookE_same, joinK_eq, seqA_n, seqA_e, seqA_r, e_add, e_sub, e_mul, e_eql, e_neq, e_lss, e_leq, e_gtr, e_geq, e_conv, e_not, e_neg, and_guard, or_guard]
            · simp only [ref19_CheckShard.b0, hdc, a1, a4, st, l0, l1, lz, e0, c2, c3, ref04_All_call, hAll, p7, i7, lf, L, own_id, Bool.true_and, hinc, n_bind, n_map, getL_0, getL_1, getL_2, getL_3, getL_4, getL_5, getL_6, getL_7, getL_8, getL_9, getL_10, getL_11, getL_12, condV_t, condV_f, guardV_tt, guardV_ff, guardV_tf, guardV_ft, guardV_u, apick_t, apick_f, exV_exit, exV_ret, lookE_same, joinK_eq, seqA_n, seqA_e, seqA_r, e_add, e_sub, e_mul, e_eql, e_neq, e_lss, e_leq, e_gtr, e_geq, e_conv, e_not, e_neg, and_guard, or_guard]
        | succ j =>
          have e0 : (((j + 1 : Nat) : Int) == 0) = false := by rw [beq_eq_false_iff_ne]; omega
          have hj : j < d.held.length := by omega
          obtain ⟨b', cs', b1, b2, b3, b4, b5⟩ := listN_cellS hs.he hj (n := 2) rfl
          obtain ⟨z', rfl, _, _⟩ := ho_inv b2
          have q0 := b5 0 _ rfl
          have hdec := dec_i64 (n := j + 1) (by omega) (by omega)
          rw [Nat.add_sub_cancel] at hdec
          unfold stepH
          rw [prvK_nx hj]
          simp only [abvK, Bool.true_and]
          cases c1 : decide (d.held[j].1 < o.1)
          · simp only [ref19_CheckShard.b0, hdc, a1, a4, st, l0, l1, lz, e0, hdec, p6, i6, b1, ad_atR, q0, own_id, c1, p7, i7, lf, L, Bool.false_and, hinc, n_bind, n_map, getL_0, getL_1, getL_2, getL_3, getL_4, getL_5, getL_6, getL_7, getL_8, getL_9, getL_10, getL_11, getL_12, condV_t, condV_f, guardV_tt, guardV_ff, guardV_tf, guardV_ft, guardV_u, apick_t, apick_f, exV_exit, exV_ret, lookE_same, joinK_eq, seqA_n, seqA_e, seqA_r, e_add, e_sub, e_mul, e_eql, e_neq, e_lss, e_leq, e_gtr, e_geq, e_conv, e_not, e_neg, and_guard, or_guard]
          · cases c2 : decide (((o.2.length : Nat) : Int) ≥ 1)
            · simp only [ref19_CheckShard.b0, hdc, a1, a4, st, l0, l1, lz, e0, hdec, p6, i6, b1, ad_atR, q0, own_id, c1, c2, p7, i7, lf, L, Bool.false_and, Bool.true_and, hinc, n_bind, n_map, getL_0, getL_1, getL_2, getL_3, getL_4, getL_5, getL_6, getL_7, getL_8, getL_9, getL_10, getL_11, getL_12, condV_t, condV_f, guardV_tt, guardV_ff, guardV_tf, guardV_ft, guardV_u, apick_t, apick_f, exV_exit, exV_ret, lookE_same, joinK_eq, seqA_n, seqA_e, seqA_r, e_add, e_sub, e_mul, e_eql, e_neq, e_lss, e_leq, e_gtr, e_geq, e_conv, e_not, e_neg, and_guard, or_guard]
            · cases c3 : decide (((o.2.length : Nat) : Int) ≤ 24)
              · simp only [ref19_CheckShard.b0, hdc, a1, a4, st, l0, l1, lz, e0, hdec, p6, i6, b1, ad_atR, q0, own_id, c1, c2, c3, p7, i7, lf, L, Bool.false_and, Bool.true_and, hinc, n_bind, n_map, getL_0, getL_1, getL_2, getL_3, getL_4, getL_5, getL_6, getL_7, getL_8, getL_9, getL_10, getL_11, getL_12, condV_t, condV_f, guardV_tt, guardV_ff, guardV_tf, guardV_ft, guardV_u, apick_t, apick_f, exV_exit, exV_ret, lookE_same, joinK_eq, seqA_n, seqA_e, seqA_r, e_add, e_sub, e_mul, e_eql, e_neq, e_lss, e_leq, e_gtr, e_geq, e_conv, e_not, e_neg, and_guard, or_guard]
              · simp only [ref19_CheckShard.b0, hdc, a1, a4, st, l0, l1, lz, e0, hdec, p6, i6, b1, ad_atR, q0, own_id, c1, c2, c3, ref04_All_call, hAll, p7, i7, lf, L, Bool.true_and, hinc, n_bind, n_map, getL_0, getL_1, getL_2, getL_3, getL_4, getL_5, getL_6, getL_7, getL_8, getL_9, getL_10, getL_11, getL_12, condV_t, condV_f, guardV_tt, guardV_ff, guardV_tf, guardV_ft, guardV_u, apick_t, apick_f, exV_exit, exV_ret, lookE_same, joinK_eq, seqA_n, seqA_e, seqA_r, e_add, e_sub, e_mul, e_eql, e_neq, e_lss, e_leq, e_gtr, e_geq, e_conv, e_not, e_neg, and_guard, or_guard]
    rw [hstep, ih (i + 1) _ hd hi, prvK_nx hi, he0]
    simp only [heldG, Bool.and_assoc]
theorem ckS_b2 (hl : d.fin.length < 140737488355328) : ∀ (rest : List Int) (i : Nat) (g : Bool), d.fin.drop i = rest → i ≤ d.fin.length →
    loopL (ref19_CheckShard.b2 (run Tryz.prog (libL libT) hints)) [lptr, .bool g, fi, .int .i64 ((d.fin.length : Nat) : Int), .int .i64 (i : Int), .agg (sdCells d ow he fi).toArray] s = some (.exit 4, [.bool (g && risesK id (prvK id d.fin i) rest)], s) := by
  have p7 : afieldAddr 7 lptr = some (.pointer (some ⟨0, 7, none⟩)) := rfl
  have i7 : lload false 1 (.pointer (some ⟨0, 7, none⟩)) (.agg (sdCells d ow he fi).toArray) = some fi := rfl
  generalize (Value.agg (sdCells d ow he fi).toArray) = u at *
  intro rest
  induction rest with
  | nil =>
    intro i g h1 hle
    have := List.drop_eq_nil_iff.1 h1
    have hd : decide ((i : Int) < ((d.fin.length : Nat) : Int)) = false := by simp; omega
    rw [loopL_eq]
    simp only [ref19_CheckShard.b2, hd, risesK, Bool.and_true, n_bind, n_map, getL_0, getL_1, getL_2, getL_3, getL_4, getL_5, getL_6, getL_7, getL_8, getL_9, getL_10, getL_11, getL_12, condV_t, condV_f, guardV_tt, guardV_ff, guardV_tf, guardV_ft, guardV_u, apick_t, apick_f, exV_exit, exV_ret, lookE_same, joinK_eq, seqA_n, seqA_e, seqA_r, e_add, e_sub, e_mul, e_eql, e_neq, e_lss, e_leq, e_gtr, e_geq, e_conv, e_not, e_neg, and_guard, or_guard]
  | cons o rest ih =>
    intro i g h1 hle
    obtain ⟨hi, he0, hd⟩ := drop_nx h1
    have hdc : decide ((i : Int) < ((d.fin.length : Nat) : Int)) = true := by simp; omega
    obtain ⟨p, x, cs, a1, a2, _, a3, a4⟩ := listN_get hs.fi hi (n := 1) rfl (ag := false) (.inr rfl)
    rw [num_valK a4 a3, he0] at a2
    have hstep : loopL (ref19_CheckShard.b2 (run Tryz.prog (libL libT) hints)) [lptr, .bool g, fi, .int .i64 ((d.fin.length : Nat) : Int), .int .i64 (i : Int), u] s = loopL (ref19_CheckShard.b2 (run Tryz.prog (libL libT) hints)) [lptr, .bool (g && abvK (prvK id d.fin i) o), fi, .int .i64 ((d.fin.length : Nat) : Int), .int .i64 ((i + 1 : Nat) : Int), u] s := by
      conv => lhs; rw [loopL_eq]
      have hinc := inc_i64 (show i < 140737488355328 by omega)
      cases g with
      | false => simp only [ref19_CheckShard.b2, hdc, a1, a2, Bool.false_and, hinc, n_bind, n_map, getL_0, getL_1, getL_2, getL_3, getL_4, getL_5, getL_6, getL_7, getL_8, getL_9, getL_10, getL_11, getL_12, condV_t, condV_f, guardV_tt, guardV_ff, guardV_tf, guardV_ft, guardV_u, apick_t, apick_f, exV_exit, exV_ret, lookE_same, joinK_eq, seqA_n, seqA_e, seqA_r, e_add, e_sub, e_mul, e_eql, e_neq, e_lss, e_leq, e_gtr, e_geq, e_conv, e_not, e_neg, and_guard, or_guard]
      | true =>
        cases i with
        | zero =>
          have e0 : (((0 : Nat) : Int) == 0) = true := rfl
          simp only [ref19_CheckShard.b2, hdc, a1, a2, e0, prvK, abvK, Bool.true_and, hinc, n_bind, n_map, getL_0, getL_1, getL_2, getL_3, getL_4, getL_5, getL_6, getL_7, getL_8, getL_9, getL_10, getL_11, getL_12, condV_t, condV_f, guardV_tt, guardV_ff, guardV_tf, guardV_ft, guardV_u, apick_t, apick_f, exV_exit, exV_ret, lookE_same, joinK_eq, seqA_n, seqA_e, seqA_r, e_add, e_sub, e_mul, e_eql, e_neq, e_lss, e_leq, e_gtr, e_geq, e_conv, e_not, e_neg, and_guard, or_guard]
        | succ j =>
          have e0 : (((j + 1 : Nat) : Int) == 0) = false := by rw [beq_eq_false_iff_ne]; omega
          have hj : j < d.fin.length := by omega
          obtain ⟨p', x', cs', b1, b2, _, b3, b4⟩ := listN_get hs.fi hj (n := 1) rfl (ag := false) (.inr rfl)
          rw [num_valK b4 b3] at b2
          have hdec := dec_i64 (n := j + 1) (by omega) (by omega)
          rw [Nat.add_sub_cancel] at hdec
          rw [prvK_nx hj]
          simp only [ref19_CheckShard.b2, hdc, a1, a2, e0, hdec, p7, i7, b1, b2, abvK, id, Bool.true_and, hinc, n_bind, n_map, getL_0, getL_1, getL_2, getL_3, getL_4, getL_5, getL_6, getL_7, getL_8, getL_9, getL_10, getL_11, getL_12, condV_t, condV_f, guardV_tt, guardV_ff, guardV_tf, guardV_ft, guardV_u, apick_t, apick_f, exV_exit, exV_ret, lookE_same, joinK_eq, seqA_n, seqA_e, seqA_r, e_add, e_sub, e_mul, e_eql, e_neq, e_lss, e_leq, e_gtr, e_geq, e_conv, e_not, e_neg, and_guard, or_guard]
    rw [hstep, ih (i + 1) _ hd hi, prvK_nx hi, he0, risesK_cons]
    simp only [id, Bool.and_assoc]
end
theorem heldG_eq {fin : List Int} : ∀ {l : List Ho} {p : Option Int}, heldG fin p l = (!(l.any (badHo fin)) && risesK (fun h : Ho => h.1) p l)
  | [], _ => by simp [heldG, risesK]
  | h :: l, p => by
    have hb : badHo fin h = !((decide (((h.2.length : Nat) : Int) ≥ 1) && decide (((h.2.length : Nat) : Int) ≤ 24)) && (errAll h.2 == 0) && fin.all fun n => n != h.1) := by
      rw [errAll_0]
      unfold badHo
      have e1 : (((h.2.length : Nat) : Int) == 0) = !decide (((h.2.length : Nat) : Int) ≥ 1) := by
        rw [Bool.eq_iff_iff, beq_iff_eq, Bool.not_eq_true', decide_eq_false_iff_not]; omega
      have e2 : decide (((h.2.length : Nat) : Int) > 24) = !decide (((h.2.length : Nat) : Int) ≤ 24) := by
        rw [Bool.eq_iff_iff, decide_eq_true_eq, Bool.not_eq_true', decide_eq_false_iff_not]; omega
      have e3 : (fin.any fun n => h.1 == n) = !(fin.all fun n => n != h.1) := by
        rw [Bool.eq_iff_iff]
        simp only [List.any_eq_true, beq_iff_eq, Bool.not_eq_true', List.all_eq_false, bne_iff_ne, ne_eq, Decidable.not_not]
        constructor
        · rintro ⟨x, hx, e⟩; exact ⟨x, hx, e.symm⟩
        · rintro ⟨x, hx, e⟩; exact ⟨x, hx, e.symm⟩
      rw [e1, e2, e3]
      generalize decide (((h.2.length : Nat) : Int) ≥ 1) = a
      generalize decide (((h.2.length : Nat) : Int) ≤ 24) = b
      generalize (h.2.any fun o => !(ckO o == 0)) = c
      generalize (fin.all fun n => n != h.1) = e
      cases a <;> cases b <;> cases c <;> cases e <;> rfl
    rw [risesK_cons, List.any_cons, hb]
    simp only [heldG, stepH, heldG_eq]
    generalize decide (((h.2.length : Nat) : Int) ≥ 1) = a
    generalize decide (((h.2.length : Nat) : Int) ≤ 24) = b
    generalize (errAll h.2 == 0) = c
    generalize (fin.all fun n => n != h.1) = e
    generalize abvK p h.1 = f
    generalize l.any (badHo fin) = g
    generalize risesK (fun h : Ho => h.1) (some h.1) l = k
    cases a <;> cases b <;> cases c <;> cases e <;> cases f <;> cases g <;> cases k <;> rfl

end Go.Proofs.YtckpcelchhmjcaaGreat.Ab

/- The document's checks: a shard's state, the whole. -/
namespace Go.Proofs.YtckpcelchhmjcaaGreat.Ab
open Go

theorem or_part {β : Type} {a b c : Bool} {s : St} {K : List Value × St → Value → Option β} : ((guardV (.bool a) true (some ([.bool b], s)) (some ([undef], s))).bind fun q32 => (guardV (getL q32.1 0) false (some ([.bool c], q32.2)) (some ([undef], q32.2))).bind fun q35 => (guardV (.bool a) true ((apick (getL q32.1 0) (.bool true) (getL q35.1 0)).bind fun v36 => some ([v36], q35.2)) (some ([undef], q35.2))).bind fun q37 => (apick (.bool a) (getL q37.1 0) (.bool false)).bind (K q37)) = K ([if a = true then .bool (b || c) else undef], s) (.bool (a && (b || c))) := by
  cases a <;> cases b <;> rfl
def gS (d : Sd) : Bool := (((((((((((decide (d.id ≥ 1) && decide (d.id ≤ 4)) && (eO d.owners == 0)) && decide (((d.held.length : Nat) : Int) ≤ 6)) && decide (IntKind.wrap .i64 (((d.held.length : Nat) : Int) + ((d.fin.length : Nat) : Int)) ≤ 64)) && (eR d.ir == 0)) && ((d.im != 0) || inEq (d.im, d.ia, d.inx, d.ir) (0, 0, 0, ([], [])))) && (eR d.cold == 0)) && ((d.frozen != 0) || (d.cold.1 == [] && d.cold.2 == []))) && heldG d.fin none d.held)) && risesK id none d.fin)
theorem bool_S : ∀ a b c e f g i j k l m n : Bool, (if (((((((!a || !b) || !c) || !e) || !f) || !g) || !j) = true) then (1 : Int) else if ((((i && k) && !l) && m) && n) = true then 0 else 1) = if ((((((((((a && b) && c) && e) && f) && g) && i) && j) && k) && (!l && m)) && n) = true then 0 else 1 := by decide +kernel
theorem eSd_gS (d : Sd) : eSd d = if gS d = true then 0 else 1 := by
  unfold eSd bad1 good2 good1 gS
  rw [heldG_eq]
  have e1 : decide (d.id < 1) = !decide (d.id ≥ 1) := by rw [Bool.eq_iff_iff, decide_eq_true_eq, Bool.not_eq_true', decide_eq_false_iff_not]; omega
  have e2 : decide (d.id > 4) = !decide (d.id ≤ 4) := by rw [Bool.eq_iff_iff, decide_eq_true_eq, Bool.not_eq_true', decide_eq_false_iff_not]; omega
  have e3 : decide (((d.held.length : Nat) : Int) > 6) = !decide (((d.held.length : Nat) : Int) ≤ 6) := by rw [Bool.eq_iff_iff, decide_eq_true_eq, Bool.not_eq_true', decide_eq_false_iff_not]; omega
  have e4 : decide (IntKind.wrap .i64 (((d.held.length : Nat) : Int) + ((d.fin.length : Nat) : Int)) > 64) = !decide (IntKind.wrap .i64 (((d.held.length : Nat) : Int) + ((d.fin.length : Nat) : Int)) ≤ 64) := by rw [Bool.eq_iff_iff, decide_eq_true_eq, Bool.not_eq_true', decide_eq_false_iff_not]; omega
  rw [e1, e2, e3, e4]
  exact bool_S _ _ (eO d.owners == 0) _ _ (eR d.ir == 0) ((d.im != 0) || inEq (d.im, d.ia, d.inx, d.ir) (0, 0, 0, ([], []))) (eR d.cold == 0) ((d.frozen != 0) || (d.cold.1 == [] && d.cold.2 == [])) _ _ _
theorem refCkS {d : Sd} {s : St} {v : Value} (h : NArg sdN d s v) : (run Tryz.prog (libL libT) hints) 12 [v] s = some (.int .i64 (eSd d), s) := by
  obtain ⟨cs, rfl, hr⟩ := h
  obtain ⟨ow, he, fi, rfl, hs⟩ := sd_inv hr
  have hbx := lbox_cs (sd_leaf hs)
  have lH := listN_short hs.he (by decide)
  have lF := listN_short hs.fi (by decide)
  have L0 : ∀ g, loopL (ref19_CheckShard.b0 (run Tryz.prog (libL libT) hints)) [lptr, .bool g, he, .int .i64 ((d.held.length : Nat) : Int), .int .i64 0, .agg (sdCells d ow he fi).toArray] s = some (.exit 0, [lptr, .bool (g && heldG d.fin none d.held), .agg (sdCells d ow he fi).toArray], s) := fun g => ckS_b0 hs lH lF d.held 0 g rfl (Nat.zero_le _)
  have L2 : ∀ g, loopL (ref19_CheckShard.b2 (run Tryz.prog (libL libT) hints)) [lptr, .bool g, fi, .int .i64 ((d.fin.length : Nat) : Int), .int .i64 0, .agg (sdCells d ow he fi).toArray] s = some (.exit 4, [.bool (g && risesK id none d.fin)], s) := fun g => ckS_b2 hs lF d.fin 0 g rfl (Nat.zero_le _)
  have i0 : lload false 1 lptr (.agg (sdCells d ow he fi).toArray) = some (.int .i64 d.id) := rfl
  have i5 : lload false 1 (.pointer (some ⟨0, 5, none⟩)) (.agg (sdCells d ow he fi).toArray) = some ow := rfl
  have i6 : lload false 1 (.pointer (some ⟨0, 6, none⟩)) (.agg (sdCells d ow he fi).toArray) = some he := rfl
  have i7 : lload false 1 (.pointer (some ⟨0, 7, none⟩)) (.agg (sdCells d ow he fi).toArray) = some fi := rfl
  have i9 : lload false 1 (.pointer (some ⟨0, 9, none⟩)) (.agg (sdCells d ow he fi).toArray) = some (.int .u64 d.frozen) := rfl
  have i10 : lload true 2 (.pointer (some ⟨0, 10, none⟩)) (.agg (sdCells d ow he fi).toArray) = some (rv d.cold) := rfl
  have i12 : lload false 1 (.pointer (some ⟨0, 12, none⟩)) (.agg (sdCells d ow he fi).toArray) = some (.int .u64 d.im) := rfl
  have j12 : lload true 5 (.pointer (some ⟨0, 12, none⟩)) (.agg (sdCells d ow he fi).toArray) = some (.agg (inL (d.im, d.ia, d.inx, d.ir)).toArray) := rfl
  have i15 : lload true 2 (.pointer (some ⟨0, 15, none⟩)) (.agg (sdCells d ow he fi).toArray) = some (rv d.ir) := rfl
  have a7 : afieldAddr 7 lptr = some (.pointer (some ⟨0, 7, none⟩)) := rfl
  generalize (Value.agg (sdCells d ow he fi).toArray) = u at *
  have zi : (Value.agg #[(.int .u64 0), (.int .u64 0), (.int .u64 0), (.string ⟨#[]⟩), (.string ⟨#[]⟩)]) = .agg (inL (0, 0, 0, ([], []))).toArray := rfl
  have zr : (Value.agg #[(.string ⟨#[]⟩), (.string ⟨#[]⟩)]) = rv ([], []) := rfl
  have kO := k_refO (ListN.plain hs.ow).1 (listN_short hs.ow (by decide))
  have lh := listN_lenR hs.he
  have lf := listN_lenR hs.fi
  have hr1 : ∀ n, retV [.int .i64 n] s = some (.int .i64 n, s) := fun n => ret1 rfl
  refine ref19_CheckShard_of rfl ?_
  unfold ref19_CheckShard
  simp only [hbx, i0, i5, ref17_Check_call, kO, i6, lh, i7, lf, i15, ref02_Check_call, k_refchk, i12, j12, zi, in_eql, i10, i9, zr, rg_eql, or_part, L0, L2, a7, n_bind, n_map, getL_0, getL_1, getL_2, getL_3, getL_4, getL_5, getL_6, getL_7, getL_8, getL_9, getL_10, getL_11, getL_12, condV_t, condV_f, guardV_tt, guardV_ff, guardV_tf, guardV_ft, guardV_u, apick_t, apick_f, exV_exit, exV_ret, lookE_same, joinK_eq, seqA_n, seqA_e, seqA_r, e_add, e_sub, e_mul, e_eql, e_neq, e_lss, e_leq, e_gtr, e_geq, e_conv, e_not, e_neg, and_guard, or_guard]
  show condV (.bool (!(gS d))) _ _ = _
  rw [eSd_gS]
  cases gS d
  · simp only [Bool.not_false, hr1, Bool.false_eq_true, if_false, n_bind, n_map, getL_0, getL_1, getL_2, getL_3, getL_4, getL_5, getL_6, getL_7, getL_8, getL_9, getL_10, getL_11, getL_12, condV_t, condV_f, guardV_tt, guardV_ff, guardV_tf, guardV_ft, guardV_u, apick_t, apick_f, exV_exit, exV_ret, lookE_same, joinK_eq, seqA_n, seqA_e, seqA_r, e_add, e_sub, e_mul, e_eql, e_neq, e_lss, e_leq, e_gtr, e_geq, e_conv, e_not, e_neg, and_guard, or_guard]
  · simp only [Bool.not_true, hr1, if_true, n_bind, n_map, getL_0, getL_1, getL_2, getL_3, getL_4, getL_5, getL_6, getL_7, getL_8, getL_9, getL_10, getL_11, getL_12, condV_t, condV_f, guardV_tt, guardV_ff, guardV_tf, guardV_ft, guardV_u, apick_t, apick_f, exV_exit, exV_ret, lookE_same, joinK_eq, seqA_n, seqA_e, seqA_r, e_add, e_sub, e_mul, e_eql, e_neq, e_lss, e_leq, e_gtr, e_geq, e_conv, e_not, e_neg, and_guard, or_guard]

end Go.Proofs.YtckpcelchhmjcaaGreat.Ab

/- The document's checks: the coordinator's state. -/
namespace Go.Proofs.YtckpcelchhmjcaaGreat.Ab
open Go

def shG (sh : Int) (p : Option Int) : List Int → Bool
  | [] => true
  | n :: l => ((decide (n ≥ 1) && decide (n ≤ sh)) && abvK p n) && shG sh (some n) l
def stepD (sh boot : Int) (p : Option Int) (d : De) : Bool := (((((abvK p d.1 && decide (d.1 < limC boot)) && decide (d.2.1 ≥ 1)) && decide (d.2.1 ≤ 4)) && decide (((d.2.2.2.2.length : Nat) : Int) ≥ 1))) && shG sh none d.2.2.2.2
def decG (sh boot : Int) : Option Int → List De → Bool
  | _, [] => true
  | p, d :: l => stepD sh boot p d && decG sh boot (some d.1) l
def lasG : Option Int → List La → Bool
  | _, [] => true
  | p, a :: l => (((abvK p a.1 && decide (a.1 ≥ 1)) && decide (a.1 ≤ 4)) && resOk a.2.2.2) && lasG (some a.1) l
section
variable {d : Cd} {s : St} {ow de la : Value} (hs : CdIn d s ow de la)
include hs
theorem ckC_b0 (hl : d.owners.length < 140737488355328) : ∀ (rest : List Ow) (i : Nat) (g : Bool), d.owners.drop i = rest → i ≤ d.owners.length →
    loopL (ref19_CheckCoord.b0 (run Tryz.prog (libL libT) hints)) [lptr, .bool g, ow, .int .i64 ((d.owners.length : Nat) : Int), .int .i64 (i : Int), .agg (cdCells d ow de la).toArray] s = some (.exit 0, [lptr, .bool (g && rest.all fun o => decide (o.2 ≤ d.shards)), .agg (cdCells d ow de la).toArray], s) := by
  have p0 : afieldAddr 0 lptr = some lptr := rfl
  have i0 : lload false 1 lptr (.agg (cdCells d ow de la).toArray) = some (.int .i64 d.shards) := rfl
  generalize (Value.agg (cdCells d ow de la).toArray) = u at *
  intro rest
  induction rest with
  | nil =>
    intro i g h1 hle
    have := List.drop_eq_nil_iff.1 h1
    have hd : decide ((i : Int) < ((d.owners.length : Nat) : Int)) = false := by simp; omega
    rw [loopL_eq]
    simp only [ref19_CheckCoord.b0, hd, List.all_nil, Bool.and_true, n_bind, n_map, getL_0, getL_1, getL_2, getL_3, getL_4, getL_5, getL_6, getL_7, getL_8, getL_9, getL_10, getL_11, getL_12, condV_t, condV_f, guardV_tt, guardV_ff, guardV_tf, guardV_ft, guardV_u, apick_t, apick_f, exV_exit, exV_ret, lookE_same, joinK_eq, seqA_n, seqA_e, seqA_r, e_add, e_sub, e_mul, e_eql, e_neq, e_lss, e_leq, e_gtr, e_geq, e_conv, e_not, e_neg, and_guard, or_guard]
  | cons o rest ih =>
    intro i g h1 hle
    obtain ⟨hi, he0, hd⟩ := drop_nx h1
    have hdc : decide ((i : Int) < ((d.owners.length : Nat) : Int)) = true := by simp; omega
    obtain ⟨b, cs, a1, a2, a3, a4, a5⟩ := listN_cellS hs.ow hi (n := 2) rfl
    obtain ⟨rfl, _⟩ := a2
    rw [he0] at a4
    have a4 : aload true 2 (.pointer (some ⟨b, i * 2, none⟩)) s = some (owV o) := a4
    have st : lstore 2 lptr (owV o) (.agg #[(.string ⟨#[]⟩), (.int .i64 0)]) = some (owV o) := rfl
    have l1 : lload false 1 (.pointer (some ⟨0, 1, none⟩)) (owV o) = some (.int .i64 o.2) := rfl
    rw [loopL_eq]
    simp only [ref19_CheckCoord.b0, hdc, a1, a4, st, l1, p0, i0, inc_i64 (show i < 140737488355328 by omega), n_bind, n_map, getL_0, getL_1, getL_2, getL_3, getL_4, getL_5, getL_6, getL_7, getL_8, getL_9, getL_10, getL_11, getL_12, condV_t, condV_f, guardV_tt, guardV_ff, guardV_tf, guardV_ft, guardV_u, apick_t, apick_f, exV_exit, exV_ret, lookE_same, joinK_eq, seqA_n, seqA_e, seqA_r, e_add, e_sub, e_mul, e_eql, e_neq, e_lss, e_leq, e_gtr, e_geq, e_conv, e_not, e_neg, and_guard, or_guard]
    rw [ih (i + 1) _ hd hi]
    simp only [List.all_cons, Bool.and_assoc]
theorem ckC_b2 {T3 T4 T5 X sl : Value} {l : List Int} (hx : ListN (wfN .i64) 8 l s sl) (hX : lload false 1 (.pointer (some ⟨0, 4, none⟩)) X = some sl) (hl : l.length < 140737488355328) : ∀ (rest : List Int) (i : Nat) (g : Bool), l.drop i = rest → i ≤ l.length →
    loopL (ref19_CheckCoord.b2 (run Tryz.prog (libL libT) hints)) [lptr, .bool g, lptr, T3, T4, T5, sl, .int .i64 ((l.length : Nat) : Int), .int .i64 (i : Int), .agg (cdCells d ow de la).toArray, X] s = some (.exit 4, [lptr, .bool (g && shG d.shards (prvK id l i) rest), T3, T4, T5, .agg (cdCells d ow de la).toArray], s) := by
  have p0 : afieldAddr 0 lptr = some lptr := rfl
  have p4 : afieldAddr 4 lptr = some (.pointer (some ⟨0, 4, none⟩)) := rfl
  have i0 : lload false 1 lptr (.agg (cdCells d ow de la).toArray) = some (.int .i64 d.shards) := rfl
  generalize (Value.agg (cdCells d ow de la).toArray) = u at *
  intro rest
  induction rest with
  | nil =>
    intro i g h1 hle
    have := List.drop_eq_nil_iff.1 h1
    have hd : decide ((i : Int) < ((l.length : Nat) : Int)) = false := by simp; omega
    rw [loopL_eq]
    simp only [ref19_CheckCoord.b2, hd, shG, Bool.and_true, n_bind, n_map, getL_0, getL_1, getL_2, getL_3, getL_4, getL_5, getL_6, getL_7, getL_8, getL_9, getL_10, getL_11, getL_12, condV_t, condV_f, guardV_tt, guardV_ff, guardV_tf, guardV_ft, guardV_u, apick_t, apick_f, exV_exit, exV_ret, lookE_same, joinK_eq, seqA_n, seqA_e, seqA_r, e_add, e_sub, e_mul, e_eql, e_neq, e_lss, e_leq, e_gtr, e_geq, e_conv, e_not, e_neg, and_guard, or_guard]
  | cons o rest ih =>
    intro i g h1 hle
    obtain ⟨hi, he0, hd⟩ := drop_nx h1
    have hdc : decide ((i : Int) < ((l.length : Nat) : Int)) = true := by simp; omega
    obtain ⟨p, x, cs, a1, a2, _, a3, a4⟩ := listN_get hx hi (n := 1) rfl (ag := false) (.inr rfl)
    rw [num_valK a4 a3, he0] at a2
    have hinc := inc_i64 (show i < 140737488355328 by omega)
    have hstep : loopL (ref19_CheckCoord.b2 (run Tryz.prog (libL libT) hints)) [lptr, .bool g, lptr, T3, T4, T5, sl, .int .i64 ((l.length : Nat) : Int), .int .i64 (i : Int), u, X] s = loopL (ref19_CheckCoord.b2 (run Tryz.prog (libL libT) hints)) [lptr, .bool (g && ((decide (o ≥ 1) && decide (o ≤ d.shards)) && abvK (prvK id l i) o)), lptr, T3, T4, T5, sl, .int .i64 ((l.length : Nat) : Int), .int .i64 ((i + 1 : Nat) : Int), u, X] s := by
      conv => lhs; rw [loopL_eq]
      cases hg : (g && (decide (o ≥ 1) && decide (o ≤ d.shards))) with
      | false =>
        have e : (g && ((decide (o ≥ 1) && decide (o ≤ d.shards)) && abvK (prvK id l i) o)) = false := by rw [← Bool.and_assoc, hg, Bool.false_and]
        rw [e]
        rw [← Bool.and_assoc] at hg
        simp only [ref19_CheckCoord.b2, hdc, a1, a2, p0, i0, hg, hinc, n_bind, n_map, getL_0, getL_1, getL_2, getL_3, getL_4, getL_5, getL_6, getL_7, getL_8, getL_9, getL_10, getL_11, getL_12, condV_t, condV_f, guardV_tt, guardV_ff, guardV_tf, guardV_ft, guardV_u, apick_t, apick_f, exV_exit, exV_ret, lookE_same, joinK_eq, seqA_n, seqA_e, seqA_r, e_add, e_sub, e_mul, e_eql, e_neq, e_lss, e_leq, e_gtr, e_geq, e_conv, e_not, e_neg, and_guard, or_guard]
      | true =>
        have e : (g && ((decide (o ≥ 1) && decide (o ≤ d.shards)) && abvK (prvK id l i) o)) = abvK (prvK id l i) o := by rw [← Bool.and_assoc, hg, Bool.true_and]
        rw [e]
        rw [← Bool.and_assoc] at hg
        cases i with
        | zero =>
          have e0 : (((0 : Nat) : Int) == 0) = true := rfl
          simp only [ref19_CheckCoord.b2, hdc, a1, a2, p0, i0, hg, e0, prvK, abvK, hinc, n_bind, n_map, getL_0, getL_1, getL_2, getL_3, getL_4, getL_5, getL_6, getL_7, getL_8, getL_9, getL_10, getL_11, getL_12, condV_t, condV_f, guardV_tt, guardV_ff, guardV_tf, guardV_ft, guardV_u, apick_t, apick_f, exV_exit, exV_ret, lookE_same, joinK_eq, seqA_n, seqA_e, seqA_r, e_add, e_sub, e_mul, e_eql, e_neq, e_lss, e_leq, e_gtr, e_geq, e_conv, e_not, e_neg, and_guard, or_guard]
        | succ j =>
          have e0 : (((j + 1 : Nat) : Int) == 0) = false := by rw [beq_eq_false_iff_ne]; omega
          have hj : j < l.length := by omega
          obtain ⟨p', x', cs', b1, b2, _, b3, b4⟩ := listN_get hx hj (n := 1) rfl (ag := false) (.inr rfl)
          rw [num_valK b4 b3] at b2
          have hdec := dec_i64 (n := j + 1) (by omega) (by omega)
          rw [Nat.add_sub_cancel] at hdec
          rw [prvK_nx hj]
          simp only [ref19_CheckCoord.b2, hdc, a1, a2, p0, i0, hg, e0, hdec, p4, hX, b1, b2, abvK, id, hinc, n_bind, n_map, getL_0, getL_1, getL_2, getL_3, getL_4, getL_5, getL_6, getL_7, getL_8, getL_9, getL_10, getL_11, getL_12, condV_t, condV_f, guardV_tt, guardV_ff, guardV_tf, guardV_ft, guardV_u, apick_t, apick_f, exV_exit, exV_ret, lookE_same, joinK_eq, seqA_n, seqA_e, seqA_r, e_add, e_sub, e_mul, e_eql, e_neq, e_lss, e_leq, e_gtr, e_geq, e_conv, e_not, e_neg, and_guard, or_guard]
    rw [hstep, ih (i + 1) _ hd hi, prvK_nx hi, he0]
    simp only [shG, id, Bool.and_assoc]
theorem ckC_b1 (hl : d.decided.length < 140737488355328) : ∀ (rest : List De) (i : Nat) (g : Bool), d.decided.drop i = rest → i ≤ d.decided.length →
    loopL (ref19_CheckCoord.b1 (run Tryz.prog (libL libT) hints)) [lptr, .bool g, de, .int .i64 ((d.decided.length : Nat) : Int), .int .i64 (i : Int), .agg (cdCells d ow de la).toArray] s = some (.exit 2, [lptr, .bool (g && decG d.shards d.boot (prvK (fun d : De => d.1) d.decided i) rest), .agg (cdCells d ow de la).toArray], s) := by
  have p1 : afieldAddr 1 lptr = some (.pointer (some ⟨0, 1, none⟩)) := rfl
  have p5 : afieldAddr 5 lptr = some (.pointer (some ⟨0, 5, none⟩)) := rfl
  have i1 : lload false 1 (.pointer (some ⟨0, 1, none⟩)) (.agg (cdCells d ow de la).toArray) = some (.int .u64 d.boot) := rfl
  have i5 : lload false 1 (.pointer (some ⟨0, 5, none⟩)) (.agg (cdCells d ow de la).toArray) = some de := rfl
  have hb2 := fun (T3 T4 T5 X sl : Value) (l : List Int) (hx : ListN (wfN .i64) 8 l s sl) hX hl => @ckC_b2 d s ow de la hs T3 T4 T5 X sl l hx hX hl
  generalize (Value.agg (cdCells d ow de la).toArray) = u at *
  have hw : (Lit.int .u64 d.boot).wf = true := hs.wboot
  have hshl : ∀ ty ox oy, abin Tryz.prog .shl ty ox oy (.int .u64 (IntKind.wrap .u64 (d.boot + 1))) (.int .u64 32) = some (.int .u64 (limC d.boot)) := fun ty ox oy => by
    have h0 : 0 ≤ IntKind.wrap .u64 (d.boot + 1) := by
      simp only [IntKind.wrap, IntKind.signed, IntKind.bits]
      simp
      omega
    have h1 := u_shl (P := Tryz.prog) (k := .u64) (k2 := .u64) (t := ty) (ox := ox) (oy := oy) (a := (IntKind.wrap .u64 (d.boot + 1)).toNat) (b := 32) rfl
    rw [Int.toNat_of_nonneg h0] at h1
    exact h1
  intro rest
  induction rest with
  | nil =>
    intro i g h1 hle
    have := List.drop_eq_nil_iff.1 h1
    have hd : decide ((i : Int) < ((d.decided.length : Nat) : Int)) = false := by simp; omega
    rw [loopL_eq]
    simp only [ref19_CheckCoord.b1, hd, decG, Bool.and_true, n_bind, n_map, getL_0, getL_1, getL_2, getL_3, getL_4, getL_5, getL_6, getL_7, getL_8, getL_9, getL_10, getL_11, getL_12, condV_t, condV_f, guardV_tt, guardV_ff, guardV_tf, guardV_ft, guardV_u, apick_t, apick_f, exV_exit, exV_ret, lookE_same, joinK_eq, seqA_n, seqA_e, seqA_r, e_add, e_sub, e_mul, e_eql, e_neq, e_lss, e_leq, e_gtr, e_geq, e_conv, e_not, e_neg, and_guard, or_guard]
  | cons o rest ih =>
    intro i g h1 hle
    obtain ⟨hi, he0, hd⟩ := drop_nx h1
    have hdc : decide ((i : Int) < ((d.decided.length : Nat) : Int)) = true := by simp; omega
    obtain ⟨b, cs, a1, a2, a3, a4, a5⟩ := listN_cellS hs.de hi (n := 5) rfl
    rw [he0] at a2
    obtain ⟨z, rfl, hz, _⟩ := de_inv a2
    have st : lstore 5 lptr (.agg [.int .u64 o.1, .int .i64 o.2.1, .int .u64 o.2.2.1, .int .u64 o.2.2.2.1, z].toArray) (.agg #[(.int .u64 0), (.int .i64 0), (.int .u64 0), (.int .u64 0), (.slice none 0 0)]) = some (.agg [.int .u64 o.1, .int .i64 o.2.1, .int .u64 o.2.2.1, .int .u64 o.2.2.2.1, z].toArray) := arr_put (cs := [(.int .u64 0), (.int .i64 0), (.int .u64 0), (.int .u64 0), (.slice none 0 0)]) rfl rfl (by simp only [List.all_cons, listN_leafR hz, List.all_nil]; rfl)
    have l0 : lload false 1 lptr (.agg [.int .u64 o.1, .int .i64 o.2.1, .int .u64 o.2.2.1, .int .u64 o.2.2.2.1, z].toArray) = some (.int .u64 o.1) := rfl
    have l1 : lload false 1 (.pointer (some ⟨0, 1, none⟩)) (.agg [.int .u64 o.1, .int .i64 o.2.1, .int .u64 o.2.2.1, .int .u64 o.2.2.2.1, z].toArray) = some (.int .i64 o.2.1) := rfl
    have l4 : lload false 1 (.pointer (some ⟨0, 4, none⟩)) (.agg [.int .u64 o.1, .int .i64 o.2.1, .int .u64 o.2.2.1, .int .u64 o.2.2.2.1, z].toArray) = some z := rfl
    generalize (Value.agg [.int .u64 o.1, .int .i64 o.2.1, .int .u64 o.2.2.1, .int .u64 o.2.2.2.1, z].toArray) = X at *
    have L : ∀ g', loopL (ref19_CheckCoord.b2 (run Tryz.prog (libL libT) hints)) [lptr, .bool g', lptr, de, .int .i64 ((d.decided.length : Nat) : Int), .int .i64 (i : Int), z, .int .i64 ((o.2.2.2.2.length : Nat) : Int), .int .i64 0, u, X] s = some (.exit 4, [lptr, .bool (g' && shG d.shards none o.2.2.2.2), de, .int .i64 ((d.decided.length : Nat) : Int), .int .i64 (i : Int), u], s) := fun g' => hb2 _ _ _ X z o.2.2.2.2 hz l4 (listN_short hz (by decide)) o.2.2.2.2 0 g' rfl (Nat.zero_le _)
    have lz := listN_lenR hz
    have hinc := inc_i64 (show i < 140737488355328 by omega)
    have hstep : loopL (ref19_CheckCoord.b1 (run Tryz.prog (libL libT) hints)) [lptr, .bool g, de, .int .i64 ((d.decided.length : Nat) : Int), .int .i64 (i : Int), u] s = loopL (ref19_CheckCoord.b1 (run Tryz.prog (libL libT) hints)) [lptr, .bool (g && stepD d.shards d.boot (prvK (fun d : De => d.1) d.decided i) o), de, .int .i64 ((d.decided.length : Nat) : Int), .int .i64 ((i + 1 : Nat) : Int), u] s := by
      conv => lhs; rw [loopL_eq]
      unfold stepD
      cases g with
      | false => simp only [ref19_CheckCoord.b1, hdc, a1, a4, st, l4, lz, L, own_id, Bool.false_and, hinc, n_bind, n_map, getL_0, getL_1, getL_2, getL_3, getL_4, getL_5, getL_6, getL_7, getL_8, getL_9, getL_10, getL_11, getL_12, condV_t, condV_f, guardV_tt, guardV_ff, guardV_tf, guardV_ft, guardV_u, apick_t, apick_f, exV_exit, exV_ret, lookE_same, joinK_eq, seqA_n, seqA_e, seqA_r, e_add, e_sub, e_mul, e_eql, e_neq, e_lss, e_leq, e_gtr, e_geq, e_conv, e_not, e_neg, and_guard, or_guard]
      | true =>
        cases c2 : decide (o.1 < limC d.boot)
        all_goals cases c3 : decide (o.2.1 ≥ 1)
        all_goals cases c4 : decide (o.2.1 ≤ 4)
        all_goals cases i with
          | zero =>
            have e0 : (((0 : Nat) : Int) == 0) = true := rfl
            simp only [ref19_CheckCoord.b1, hdc, a1, a4, st, l0, l1, l4, lz, e0, p1, i1, hshl, c2, c3, c4, L, own_id, prvK, abvK, Bool.false_and, Bool.and_false, Bool.true_and, Bool.and_true, hinc, n_bind, n_map, getL_0, getL_1, getL_2, getL_3, getL_4, getL_5, getL_6, getL_7, getL_8, getL_9, getL_10, getL_11, getL_12, condV_t, condV_f, guardV_tt, guardV_ff, guardV_tf, guardV_ft, guardV_u, apick_t, apick_f, exV_exit, exV_ret, lookE_same, joinK_eq, seqA_n, seqA_e, seqA_r, e_add, e_sub, e_mul, e_eql, e_neq, e_lss, e_leq, e_gtr, e_geq, e_conv, e_not, e_neg, and_guard, or_guard]
          | succ j =>
            have e0 : (((j + 1 : Nat) : Int) == 0) = false := by rw [beq_eq_false_iff_ne]; omega
            have hj : j < d.decided.length := by omega
            obtain ⟨b', cs', b1, b2, b3, b4, b5⟩ := listN_cellS hs.de hj (n := 5) rfl
            obtain ⟨z', rfl, _⟩ := de_inv b2
            have q0 := b5 0 _ rfl
            have hdec := dec_i64 (n := j + 1) (by omega) (by omega)
            rw [Nat.add_sub_cancel] at hdec
            rw [prvK_nx hj]
            cases c1 : decide (d.decided[j].1 < o.1)
            · simp only [ref19_CheckCoord.b1, hdc, a1, a4, st, l0, l1, l4, lz, e0, hdec, p5, i5, b1, ad_atR, q0, own_id, abvK, c1, L, Bool.false_and, Bool.and_false, Bool.true_and, Bool.and_true, hinc, n_bind, n_map, getL_0, getL_1, getL_2, getL_3, getL_4, getL_5, getL_6, getL_7, getL_8, getL_9, getL_10, getL_11, getL_12, condV_t, condV_f, guardV_tt, guardV_ff, guardV_tf, guardV_ft, guardV_u, apick_t, apick_f, exV_exit, exV_ret, lookE_same, joinK_eq, seqA_n, seqA_e, seqA_r, e_add, e_sub, e_mul, e_eql, e_neq, e_lss, e_leq, e_gtr, e_geq, e_conv, e_not, e_neg, and_guard, or_guard]
            · simp only [ref19_CheckCoord.b1, hdc, a1, a4, st, l0, l1, l4, lz, e0, hdec, p5, i5, b1, ad_atR, q0, own_id, abvK, c1, p1, i1, hshl, c2, c3, c4, L, Bool.false_and, Bool.and_false, Bool.true_and, Bool.and_true, hinc, n_bind, n_map, getL_0, getL_1, getL_2, getL_3, getL_4, getL_5, getL_6, getL_7, getL_8, getL_9, getL_10, getL_11, getL_12, condV_t, condV_f, guardV_tt, guardV_ff, guardV_tf, guardV_ft, guardV_u, apick_t, apick_f, exV_exit, exV_ret, lookE_same, joinK_eq, seqA_n, seqA_e, seqA_r, e_add, e_sub, e_mul, e_eql, e_neq, e_lss, e_leq, e_gtr, e_geq, e_conv, e_not, e_neg, and_guard, or_guard]
    rw [hstep, ih (i + 1) _ hd hi, prvK_nx hi, he0]
    simp only [decG, Bool.and_assoc]
theorem ckC_b3 (hl : d.last.length < 140737488355328) : ∀ (rest : List La) (i : Nat) (g : Bool), d.last.drop i = rest → i ≤ d.last.length →
    loopL (ref19_CheckCoord.b3 (run Tryz.prog (libL libT) hints)) [lptr, .bool g, la, .int .i64 ((d.last.length : Nat) : Int), .int .i64 (i : Int), .agg (cdCells d ow de la).toArray] s = some (.exit 6, [.bool (g && lasG (prvK (fun a : La => a.1) d.last i) rest)], s) := by
  have p6 : afieldAddr 6 lptr = some (.pointer (some ⟨0, 6, none⟩)) := rfl
  have i6 : lload false 1 (.pointer (some ⟨0, 6, none⟩)) (.agg (cdCells d ow de la).toArray) = some la := rfl
  generalize (Value.agg (cdCells d ow de la).toArray) = u at *
  intro rest
  induction rest with
  | nil =>
    intro i g h1 hle
    have := List.drop_eq_nil_iff.1 h1
    have hd : decide ((i : Int) < ((d.last.length : Nat) : Int)) = false := by simp; omega
    rw [loopL_eq]
    simp only [ref19_CheckCoord.b3, hd, lasG, Bool.and_true, n_bind, n_map, getL_0, getL_1, getL_2, getL_3, getL_4, getL_5, getL_6, getL_7, getL_8, getL_9, getL_10, getL_11, getL_12, condV_t, condV_f, guardV_tt, guardV_ff, guardV_tf, guardV_ft, guardV_u, apick_t, apick_f, exV_exit, exV_ret, lookE_same, joinK_eq, seqA_n, seqA_e, seqA_r, e_add, e_sub, e_mul, e_eql, e_neq, e_lss, e_leq, e_gtr, e_geq, e_conv, e_not, e_neg, and_guard, or_guard]
  | cons o rest ih =>
    intro i g h1 hle
    obtain ⟨hi, he0, hd⟩ := drop_nx h1
    have hdc : decide ((i : Int) < ((d.last.length : Nat) : Int)) = true := by simp; omega
    obtain ⟨b, cs, a1, a2, a3, a4, a5⟩ := listN_cellS hs.la hi (n := 4) rfl
    rw [he0] at a2
    obtain ⟨z, rfl, hz, _⟩ := la_inv a2
    have st : lstore 4 lptr (.agg [.int .i64 o.1, .int .u64 o.2.1, .int .u64 o.2.2.1, z].toArray) (.agg #[(.int .i64 0), (.int .u64 0), (.int .u64 0), (.slice none 0 0)]) = some (.agg [.int .i64 o.1, .int .u64 o.2.1, .int .u64 o.2.2.1, z].toArray) := arr_put (cs := [(.int .i64 0), (.int .u64 0), (.int .u64 0), (.slice none 0 0)]) rfl rfl (by simp only [List.all_cons, listN_leafR hz, List.all_nil]; rfl)
    have l0 : lload false 1 lptr (.agg [.int .i64 o.1, .int .u64 o.2.1, .int .u64 o.2.2.1, z].toArray) = some (.int .i64 o.1) := rfl
    have l3 : lload false 1 (.pointer (some ⟨0, 3, none⟩)) (.agg [.int .i64 o.1, .int .u64 o.2.1, .int .u64 o.2.2.1, z].toArray) = some z := rfl
    generalize (Value.agg [.int .i64 o.1, .int .u64 o.2.1, .int .u64 o.2.2.1, z].toArray) = X at *
    have hR := refres_run hz
    have hinc := inc_i64 (show i < 140737488355328 by omega)
    have hstep : loopL (ref19_CheckCoord.b3 (run Tryz.prog (libL libT) hints)) [lptr, .bool g, la, .int .i64 ((d.last.length : Nat) : Int), .int .i64 (i : Int), u] s = loopL (ref19_CheckCoord.b3 (run Tryz.prog (libL libT) hints)) [lptr, .bool (g && (((abvK (prvK (fun a : La => a.1) d.last i) o.1 && decide (o.1 ≥ 1)) && decide (o.1 ≤ 4)) && resOk o.2.2.2)), la, .int .i64 ((d.last.length : Nat) : Int), .int .i64 ((i + 1 : Nat) : Int), u] s := by
      conv => lhs; rw [loopL_eq]
      cases g with
      | false => simp only [ref19_CheckCoord.b3, hdc, a1, a4, st, own_id, Bool.false_and, hinc, n_bind, n_map, getL_0, getL_1, getL_2, getL_3, getL_4, getL_5, getL_6, getL_7, getL_8, getL_9, getL_10, getL_11, getL_12, condV_t, condV_f, guardV_tt, guardV_ff, guardV_tf, guardV_ft, guardV_u, apick_t, apick_f, exV_exit, exV_ret, lookE_same, joinK_eq, seqA_n, seqA_e, seqA_r, e_add, e_sub, e_mul, e_eql, e_neq, e_lss, e_leq, e_gtr, e_geq, e_conv, e_not, e_neg, and_guard, or_guard]
      | true =>
        cases c2 : decide (o.1 ≥ 1)
        all_goals cases c3 : decide (o.1 ≤ 4)
        all_goals cases i with
          | zero =>
            have e0 : (((0 : Nat) : Int) == 0) = true := rfl
            simp only [ref19_CheckCoord.b3, hdc, a1, a4, st, l0, l3, e0, c2, c3, ref18_Results_call, hR, own_id, prvK, abvK, Bool.false_and, Bool.and_false, Bool.true_and, Bool.and_true, hinc, n_bind, n_map, getL_0, getL_1, getL_2, getL_3, getL_4, getL_5, getL_6, getL_7, getL_8, getL_9, getL_10, getL_11, getL_12, condV_t, condV_f, guardV_tt, guardV_ff, guardV_tf, guardV_ft, guardV_u, apick_t, apick_f, exV_exit, exV_ret, lookE_same, joinK_eq, seqA_n, seqA_e, seqA_r, e_add, e_sub, e_mul, e_eql, e_neq, e_lss, e_leq, e_gtr, e_geq, e_conv, e_not, e_neg, and_guard, or_guard]
          | succ j =>
            have e0 : (((j + 1 : Nat) : Int) == 0) = false := by rw [beq_eq_false_iff_ne]; omega
            have hj : j < d.last.length := by omega
            obtain ⟨b', cs', b1, b2, b3, b4, b5⟩ := listN_cellS hs.la hj (n := 4) rfl
            obtain ⟨z', rfl, _⟩ := la_inv b2
            have q0 := b5 0 _ rfl
            have hdec := dec_i64 (n := j + 1) (by omega) (by omega)
            rw [Nat.add_sub_cancel] at hdec
            rw [prvK_nx hj]
            cases c1 : decide (d.last[j].1 < o.1)
            · simp only [ref19_CheckCoord.b3, hdc, a1, a4, st, l0, l3, e0, hdec, p6, i6, b1, ad_atR, q0, own_id, abvK, c1, Bool.false_and, Bool.and_false, Bool.true_and, Bool.and_true, hinc, n_bind, n_map, getL_0, getL_1, getL_2, getL_3, getL_4, getL_5, getL_6, getL_7, getL_8, getL_9, getL_10, getL_11, getL_12, condV_t, condV_f, guardV_tt, guardV_ff, guardV_tf, guardV_ft, guardV_u, apick_t, apick_f, exV_exit, exV_ret, lookE_same, joinK_eq, seqA_n, seqA_e, seqA_r, e_add, e_sub, e_mul, e_eql, e_neq, e_lss, e_leq, e_gtr, e_geq, e_conv, e_not, e_neg, and_guard, or_guard]
            · simp only [ref19_CheckCoord.b3, hdc, a1, a4, st, l0, l3, e0, hdec, p6, i6, b1, ad_atR, q0, own_id, abvK, c1, c2, c3, ref18_Results_call, hR, Bool.false_and, Bool.and_false, Bool.true_and, Bool.and_true, hinc, n_bind, n_map, getL_0, getL_1, getL_2, getL_3, getL_4, getL_5, getL_6, getL_7, getL_8, getL_9, getL_10, getL_11, getL_12, condV_t, condV_f, guardV_tt, guardV_ff, guardV_tf, guardV_ft, guardV_u, apick_t, apick_f, exV_exit, exV_ret, lookE_same, joinK_eq, seqA_n, seqA_e, seqA_r, e_add, e_sub, e_mul, e_eql, e_neq, e_lss, e_leq, e_gtr, e_geq, e_conv, e_not, e_neg, and_guard, or_guard]
    rw [hstep, ih (i + 1) _ hd hi, prvK_nx hi, he0]
    simp only [lasG, Bool.and_assoc]
end

end Go.Proofs.YtckpcelchhmjcaaGreat.Ab

/- The document's checks: the coordinator's state, the whole. -/
namespace Go.Proofs.YtckpcelchhmjcaaGreat.Ab
open Go

theorem lt_ge {a b : Int} : decide (a < b) = !decide (a ≥ b) := by rw [Bool.eq_iff_iff, decide_eq_true_eq, Bool.not_eq_true', decide_eq_false_iff_not]; omega
theorem gt_le {a b : Int} : decide (a > b) = !decide (a ≤ b) := by rw [Bool.eq_iff_iff, decide_eq_true_eq, Bool.not_eq_true', decide_eq_false_iff_not]; omega
theorem shG_eq {sh : Int} (hsh : sh < 9223372036854775808) : ∀ {l : List Int} {p : Option Int}, shG sh p l = (!(l.any (aboveB sh)) && risesK (fun n : Int => IntKind.wrap .u64 n) p l)
  | [], _ => by simp [shG, risesK]
  | n :: l, p => by
    rw [risesK_cons, List.any_cons]
    have ha : aboveB sh n = !(decide (n ≥ 1) && decide (n ≤ sh)) := by
      unfold aboveB
      rw [lt_ge, gt_le]
      cases decide (n ≥ 1) <;> cases decide (n ≤ sh) <;> rfl
    cases hb : (decide (n ≥ 1) && decide (n ≤ sh)) with
    | false => rw [ha, hb]; simp only [shG, hb, Bool.not_false, Bool.true_or, Bool.not_true, Bool.false_and]
    | true =>
      have hn : 1 ≤ n ∧ n ≤ sh := by
        simp only [Bool.and_eq_true, decide_eq_true_eq] at hb
        exact ⟨by omega, by omega⟩
      rw [ha, hb, wrap_pos ⟨by omega, by omega⟩]
      simp only [shG, hb, Bool.not_true, Bool.false_or, Bool.true_and]
      rw [shG_eq hsh]
      generalize abvK p n = x
      generalize l.any (aboveB sh) = y
      generalize risesK (fun n : Int => IntKind.wrap .u64 n) (some n) l = z
      cases x <;> cases y <;> cases z <;> rfl
theorem decG_eq {sh boot : Int} (hsh : sh < 9223372036854775808) : ∀ {l : List De} {p : Option Int}, decG sh boot p l = (!(l.any (badDe sh boot)) && risesK (fun d : De => d.1) p l)
  | [], _ => by simp [decG, risesK]
  | d :: l, p => by
    rw [risesK_cons, List.any_cons]
    simp only [decG]
    rw [decG_eq hsh]
    unfold stepD badDe cliOk
    rw [shG_eq hsh]
    have e1 : (((d.2.2.2.2.length : Nat) : Int) == 0) = !decide (((d.2.2.2.2.length : Nat) : Int) ≥ 1) := by
      rw [Bool.eq_iff_iff, beq_iff_eq, Bool.not_eq_true', decide_eq_false_iff_not]; omega
    rw [e1, lt_ge]
    generalize decide (d.1 ≥ limC boot) = a
    generalize decide (d.2.1 ≥ 1) = b
    generalize decide (d.2.1 ≤ 4) = c
    generalize decide (((d.2.2.2.2.length : Nat) : Int) ≥ 1) = e
    generalize d.2.2.2.2.any (aboveB sh) = f
    generalize risesK (fun n : Int => IntKind.wrap .u64 n) none d.2.2.2.2 = g
    generalize abvK p d.1 = i
    generalize (l.any fun d => (((decide (d.1 ≥ limC boot) || !(decide (d.2.1 ≥ 1) && decide (d.2.1 ≤ 4))) || ((d.2.2.2.2.length : Int) == 0)) || d.2.2.2.2.any (aboveB sh)) || !(risesK (fun n : Int => IntKind.wrap .u64 n) none d.2.2.2.2)) = j
    generalize risesK (fun d : De => d.1) (some d.1) l = k
    revert a b c e f g i j k
    decide +kernel
theorem lasG_eq : ∀ {l : List La} {p : Option Int}, lasG p l = (!(l.any badLa) && risesK (fun a : La => IntKind.wrap .u64 a.1) p l)
  | [], _ => by simp [lasG, risesK]
  | a :: l, p => by
    rw [risesK_cons, List.any_cons]
    simp only [lasG]
    rw [lasG_eq]
    have hb : badLa a = !((decide (a.1 ≥ 1) && decide (a.1 ≤ 4)) && resOk a.2.2.2) := by
      unfold badLa cliOk
      cases (decide (a.1 ≥ 1) && decide (a.1 ≤ 4)) <;> cases resOk a.2.2.2 <;> rfl
    rw [hb]
    cases hc : (decide (a.1 ≥ 1) && decide (a.1 ≤ 4)) with
    | false =>
      have : ((abvK p a.1 && decide (a.1 ≥ 1)) && decide (a.1 ≤ 4)) = false := by rw [Bool.and_assoc, hc, Bool.and_false]
      rw [this]
      simp only [Bool.false_and, Bool.not_false, Bool.true_or, Bool.not_true]
    | true =>
      have hn : 1 ≤ a.1 ∧ a.1 ≤ 4 := by
        simp only [Bool.and_eq_true, decide_eq_true_eq] at hc
        exact ⟨by omega, by omega⟩
      have : ((abvK p a.1 && decide (a.1 ≥ 1)) && decide (a.1 ≤ 4)) = abvK p a.1 := by rw [Bool.and_assoc, hc, Bool.and_true]
      rw [this, wrap_pos ⟨by omega, by omega⟩]
      generalize abvK p a.1 = x
      generalize resOk a.2.2.2 = y
      generalize l.any badLa = z
      generalize risesK (fun a : La => IntKind.wrap .u64 a.1) (some a.1) l = w
      cases x <;> cases y <;> cases z <;> cases w <;> rfl
def gC (d : Cd) : Bool := ((((((((decide (d.shards ≥ 1) && decide (d.shards ≤ 4)) && decide (d.boot < 2147483648)) && (eO d.owners == 0)) && decide (((d.decided.length : Nat) : Int) ≤ 8)) && decide (((d.last.length : Nat) : Int) ≤ 4)) && (d.owners.all fun o => decide (o.2 ≤ d.shards))) && decG d.shards d.boot none d.decided) && lasG none d.last)
theorem bool_C : ∀ a b c e f g i j k l m : Bool, (if (((((!a || !b) || !c) || !e) || !f) || !g) = true then (1 : Int) else if ((((i && !j) && !k) && l) && m) = true then 0 else 1) = if ((((((((a && b) && c) && e) && f) && g) && i) && (!j && l)) && (!k && m)) = true then 0 else 1 := by decide +kernel
theorem eCd_gC (d : Cd) : eCd d = if gC d = true then 0 else 1 := by
  by_cases h4 : d.shards ≤ 4
  · by_cases hO : eO d.owners = 0
    · have h5 : (!(d.owners.any fun o => aboveB d.shards o.2)) = d.owners.all fun o => decide (o.2 ≤ d.shards) := by
        have hb := (eO_b hO).2
        have key : ∀ l : List Ow, (∀ o ∈ l, o.1.length ≤ 12 ∧ 1 ≤ o.2 ∧ o.2 ≤ 4) → (!(l.any fun o => aboveB d.shards o.2)) = l.all fun o => decide (o.2 ≤ d.shards) := by
          intro l
          induction l with
          | nil => intro _; rfl
          | cons o l ih =>
            intro hl
            have h1 := hl o (List.mem_cons_self ..)
            rw [List.any_cons, List.all_cons, ← ih fun x hx => hl x (List.mem_cons_of_mem _ hx)]
            unfold aboveB
            rw [lt_ge, gt_le, decide_eq_true (show o.2 ≥ 1 by omega)]
            cases decide (o.2 ≤ d.shards) <;> simp
        exact key _ hb
      unfold eCd bad1C good2C gC
      rw [decG_eq (by omega), lasG_eq, lt_ge, gt_le, gt_le, gt_le, lt_ge, h5]
      have := bool_C (decide (d.shards ≥ 1)) (decide (d.shards ≤ 4)) (!decide (d.boot ≥ 2147483648)) (eO d.owners == 0) (decide (((d.decided.length : Nat) : Int) ≤ 8)) (decide (((d.last.length : Nat) : Int) ≤ 4)) (d.owners.all fun o => decide (o.2 ≤ d.shards)) (d.decided.any (badDe d.shards d.boot)) (d.last.any badLa) (risesK (fun d : De => d.1) none d.decided) (risesK (fun a : La => IntKind.wrap .u64 a.1) none d.last)
      rw [Bool.not_not] at this
      exact this
    · have e1 : bad1C d = true := by
        unfold bad1C
        have : (eO d.owners != 0) = true := by simp [hO]
        rw [this]
        simp
      have e2 : gC d = false := by
        unfold gC
        have : (eO d.owners == 0) = false := by simp [hO]
        rw [this]
        simp
      unfold eCd
      rw [if_pos e1, e2]
      rfl
  · have e1 : bad1C d = true := by
      unfold bad1C
      rw [decide_eq_true (show d.shards > 4 by omega)]
      simp
    have e2 : gC d = false := by
      unfold gC
      rw [decide_eq_false h4]
      simp
    unfold eCd
    rw [if_pos e1, e2]
    rfl
theorem refCkC {d : Cd} {s : St} {v : Value} (h : NArg cdN d s v) : (run Tryz.prog (libL libT) hints) 14 [v] s = some (.int .i64 (eCd d), s) := by
  obtain ⟨cs, rfl, hr⟩ := h
  obtain ⟨ow, de, la, rfl, hs⟩ := cd_inv hr
  have hbx := lbox_cs (cd_leaf hs)
  have lO := listN_short hs.ow (by decide)
  have lD := listN_short hs.de (by decide)
  have lL := listN_short hs.la (by decide)
  have L0 : ∀ g, loopL (ref19_CheckCoord.b0 (run Tryz.prog (libL libT) hints)) [lptr, .bool g, ow, .int .i64 ((d.owners.length : Nat) : Int), .int .i64 0, .agg (cdCells d ow de la).toArray] s = some (.exit 0, [lptr, .bool (g && d.owners.all fun o => decide (o.2 ≤ d.shards)), .agg (cdCells d ow de la).toArray], s) := fun g => ckC_b0 hs lO d.owners 0 g rfl (Nat.zero_le _)
  have L1 : ∀ g, loopL (ref19_CheckCoord.b1 (run Tryz.prog (libL libT) hints)) [lptr, .bool g, de, .int .i64 ((d.decided.length : Nat) : Int), .int .i64 0, .agg (cdCells d ow de la).toArray] s = some (.exit 2, [lptr, .bool (g && decG d.shards d.boot none d.decided), .agg (cdCells d ow de la).toArray], s) := fun g => ckC_b1 hs lD d.decided 0 g rfl (Nat.zero_le _)
  have L3 : ∀ g, loopL (ref19_CheckCoord.b3 (run Tryz.prog (libL libT) hints)) [lptr, .bool g, la, .int .i64 ((d.last.length : Nat) : Int), .int .i64 0, .agg (cdCells d ow de la).toArray] s = some (.exit 6, [.bool (g && lasG none d.last)], s) := fun g => ckC_b3 hs lL d.last 0 g rfl (Nat.zero_le _)
  have i0 : lload false 1 lptr (.agg (cdCells d ow de la).toArray) = some (.int .i64 d.shards) := rfl
  have i1 : lload false 1 (.pointer (some ⟨0, 1, none⟩)) (.agg (cdCells d ow de la).toArray) = some (.int .u64 d.boot) := rfl
  have i4 : lload false 1 (.pointer (some ⟨0, 4, none⟩)) (.agg (cdCells d ow de la).toArray) = some ow := rfl
  have i5 : lload false 1 (.pointer (some ⟨0, 5, none⟩)) (.agg (cdCells d ow de la).toArray) = some de := rfl
  have i6 : lload false 1 (.pointer (some ⟨0, 6, none⟩)) (.agg (cdCells d ow de la).toArray) = some la := rfl
  have a5 : afieldAddr 5 lptr = some (.pointer (some ⟨0, 5, none⟩)) := rfl
  have a6 : afieldAddr 6 lptr = some (.pointer (some ⟨0, 6, none⟩)) := rfl
  generalize (Value.agg (cdCells d ow de la).toArray) = u at *
  have kO := k_refO (ListN.plain hs.ow).1 lO
  have lo := listN_lenR hs.ow
  have ld := listN_lenR hs.de
  have ll := listN_lenR hs.la
  have hr1 : ∀ n, retV [.int .i64 n] s = some (.int .i64 n, s) := fun n => ret1 rfl
  refine ref19_CheckCoord_of rfl ?_
  unfold ref19_CheckCoord
  simp only [hbx, i0, i1, i4, ref17_Check_call, kO, i5, ld, i6, ll, lo, L0, L1, L3, a5, a6, n_bind, n_map, getL_0, getL_1, getL_2, getL_3, getL_4, getL_5, getL_6, getL_7, getL_8, getL_9, getL_10, getL_11, getL_12, condV_t, condV_f, guardV_tt, guardV_ff, guardV_tf, guardV_ft, guardV_u, apick_t, apick_f, exV_exit, exV_ret, lookE_same, joinK_eq, seqA_n, seqA_e, seqA_r, e_add, e_sub, e_mul, e_eql, e_neq, e_lss, e_leq, e_gtr, e_geq, e_conv, e_not, e_neg, and_guard, or_guard]
  show condV (.bool (!(gC d))) _ _ = _
  rw [eCd_gC]
  cases gC d
  · simp only [Bool.not_false, hr1, Bool.false_eq_true, if_false, n_bind, n_map, getL_0, getL_1, getL_2, getL_3, getL_4, getL_5, getL_6, getL_7, getL_8, getL_9, getL_10, getL_11, getL_12, condV_t, condV_f, guardV_tt, guardV_ff, guardV_tf, guardV_ft, guardV_u, apick_t, apick_f, exV_exit, exV_ret, lookE_same, joinK_eq, seqA_n, seqA_e, seqA_r, e_add, e_sub, e_mul, e_eql, e_neq, e_lss, e_leq, e_gtr, e_geq, e_conv, e_not, e_neg, and_guard, or_guard]
  · simp only [Bool.not_true, hr1, if_true, n_bind, n_map, getL_0, getL_1, getL_2, getL_3, getL_4, getL_5, getL_6, getL_7, getL_8, getL_9, getL_10, getL_11, getL_12, condV_t, condV_f, guardV_tt, guardV_ff, guardV_tf, guardV_ft, guardV_u, apick_t, apick_f, exV_exit, exV_ret, lookE_same, joinK_eq, seqA_n, seqA_e, seqA_r, e_add, e_sub, e_mul, e_eql, e_neq, e_lss, e_leq, e_gtr, e_geq, e_conv, e_not, e_neg, and_guard, or_guard]

end Go.Proofs.YtckpcelchhmjcaaGreat.Ab
