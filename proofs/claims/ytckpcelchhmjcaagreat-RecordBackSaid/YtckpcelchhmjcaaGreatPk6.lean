/- Texts of this proof, packed: RcChk, RcChk2, RcChk3, RcChk4, RcRead3, RcRead4, RcRead5, RcRead6, RcRead7, RcRead8, RcRead9, RcReadA, RcReadB, RcReadC, FxEncN, RcWr, RcWr2, RcWr3, RcWr4, RcEnc, RcEnc2, RcPl. -/
import Derived.Test.YtckpcelchhmjcaaGreatPk5
set_option linter.unusedVariables false
set_option linter.unusedSimpArgs false
set_option linter.unusedSectionVars false
/- Which state of a shard may be. -/
namespace Go.Proofs.YtckpcelchhmjcaaGreat.Ab
open Go

theorem call_cap {R : Caller} {f : FuncId} (h : funcOk Tryz.prog f = true) {fs cs xs : List Value} {s : St} : callV Tryz.prog R (.func (.func f) fs.toArray cs.toArray) xs s = R f (fs ++ xs ++ cs) s := by
  simp [callV, h]
theorem ad_atR {B i j : Nat} : afieldAddr i (.pointer (some ⟨B, j, none⟩)) = some (.pointer (some ⟨B, j + i, none⟩)) := rfl
theorem ext_get {s t : St} {b : Nat} {B : Blk} (h : s.heap[b]? = some B) (hx : Ext s.heap.length s t) : t.heap[b]? = some B := by
  rw [hx.2 b (List.getElem?_eq_some_iff.1 h).1]
  exact h
theorem ld_two {s : St} {B n i : Nat} {cells : List Value} {st : Stat} {a b : Value} (h : s.heap[B]? = some (.row n cells st)) (hst : st ≠ .dead) (ha : cells[i]? = some a) (hb : cells[i + 1]? = some b) : aload true 2 (.pointer (some ⟨B, i, none⟩)) s = some (.agg #[a, b]) := by
  have hr : readRow s B = some cells := by
    unfold Ab.readRow
    rw [h]
    cases st with
    | dead => exact absurd rfl hst
    | act => rfl
    | ro => rfl
  obtain ⟨h1, h2⟩ := List.getElem?_eq_some_iff.1 hb
  obtain ⟨h3, h4⟩ := List.getElem?_eq_some_iff.1 ha
  simp only [aload, if_true, readN, hr, Option.bind_some]
  rw [if_pos (by omega)]
  have : (cells.drop i).take 2 = [a, b] := by
    rw [List.drop_eq_getElem_cons h3, List.drop_eq_getElem_cons h1, h4, h2]
    rfl
  rw [this]
  rfl

def sdCells (d : Sd) (ow he fi : Value) : List Value := [.int .i64 d.id, .int .u64 d.boot, .int .u64 d.ver, .int .u64 d.epoch, .int .u64 d.move, ow, he, fi, .int .u64 d.low, .int .u64 d.frozen, sv d.cold.1, sv d.cold.2, .int .u64 d.im, .int .u64 d.ia, .int .u64 d.inx, sv d.ir.1, sv d.ir.2]
structure SdIn (d : Sd) (s : St) (ow he fi : Value) : Prop where
  ow : ListN (.ofC owC fun _ => True) 24 d.owners s ow
  he : ListN hoN 32 d.held s he
  fi : ListN (wfN .u64) 8 d.fin s fi
  wid : (Lit.int .i64 d.id).wf = true
  wboot : (Lit.int .u64 d.boot).wf = true
  wver : (Lit.int .u64 d.ver).wf = true
  wepoch : (Lit.int .u64 d.epoch).wf = true
  wmove : (Lit.int .u64 d.move).wf = true
  wlow : (Lit.int .u64 d.low).wf = true
  wfrozen : (Lit.int .u64 d.frozen).wf = true
  wim : (Lit.int .u64 d.im).wf = true
  wia : (Lit.int .u64 d.ia).wf = true
  winx : (Lit.int .u64 d.inx).wf = true
theorem SdIn.ext {d : Sd} {s t : St} {ow he fi : Value} (h : SdIn d s ow he fi) (hx : Ext s.heap.length s t) : SdIn d t ow he fi :=
  ⟨h.ow.ext hx, h.he.ext hx, h.fi.ext hx, h.wid, h.wboot, h.wver, h.wepoch, h.wmove, h.wlow, h.wfrozen, h.wim, h.wia, h.winx⟩
theorem sd_inv {d : Sd} {s : St} {cs : List Value} (h : sdN.rel d s cs) : ∃ ow he fi, cs = sdCells d ow he fi ∧ SdIn d s ow he fi := by
  obtain ⟨_, _, rfl, ⟨rfl, w0⟩, _, _, rfl, ⟨rfl, w1⟩, _, _, rfl, ⟨rfl, w2⟩, _, _, rfl, ⟨rfl, w3⟩, _, _, rfl, ⟨rfl, w4⟩, _, _, rfl, ⟨ow, rfl, how⟩, _, _, rfl, ⟨he, rfl, hhe⟩, _, _, rfl, ⟨fi, rfl, hfi⟩, _, _, rfl, ⟨rfl, w5⟩, _, _, rfl, ⟨rfl, w6⟩, _, _, rfl, ⟨rfl, _⟩, _, _, rfl, ⟨_, _, rfl, ⟨rfl, w7⟩, _, _, rfl, ⟨rfl, w8⟩, _, _, rfl, ⟨rfl, w9⟩, _, _, rfl, ⟨rfl, _⟩, rfl⟩, rfl⟩ := h
  exact ⟨ow, he, fi, rfl, how, hhe, hfi, w0, w1, w2, w3, w4, w5, w6, w7, w8, w9⟩
theorem SdIn.rel {d : Sd} {s : St} {ow he fi : Value} (h : SdIn d s ow he fi) : sdN.rel d s (sdCells d ow he fi) :=
  ⟨_, _, rfl, ⟨rfl, h.wid⟩, _, _, rfl, ⟨rfl, h.wboot⟩, _, _, rfl, ⟨rfl, h.wver⟩, _, _, rfl, ⟨rfl, h.wepoch⟩, _, _, rfl, ⟨rfl, h.wmove⟩, _, _, rfl, ⟨ow, rfl, h.ow⟩, _, _, rfl, ⟨he, rfl, h.he⟩, _, _, rfl, ⟨fi, rfl, h.fi⟩, _, _, rfl, ⟨rfl, h.wlow⟩, _, _, rfl, ⟨rfl, h.wfrozen⟩, _, _, rfl, ⟨rfl, trivial⟩, _, _, rfl, ⟨_, _, rfl, ⟨rfl, h.wim⟩, _, _, rfl, ⟨rfl, h.wia⟩, _, _, rfl, ⟨rfl, h.winx⟩, _, _, rfl, ⟨rfl, trivial⟩, rfl⟩, rfl⟩
theorem sd_leaf {d : Sd} {s : St} {ow he fi : Value} (h : SdIn d s ow he fi) : (sdCells d ow he fi).all isLeaf = true := by
  have h1 := listN_leafR h.ow
  have h2 := listN_leafR h.he
  have h3 := listN_leafR h.fi
  simp only [sdCells, List.all_cons, h1, h2, h3, List.all_nil]
  rfl

theorem ho_inv {h : Ho} {s : St} {cs : List Value} (r : hoN.rel h s cs) : ∃ o, cs = [.int .u64 h.1, o] ∧ (Lit.int .u64 h.1).wf = true ∧ ListN (.ofC opC fun _ => True) 80 h.2 s o := by
  obtain ⟨_, _, rfl, ⟨rfl, w⟩, _, _, rfl, ⟨o, rfl, h1⟩, rfl⟩ := r
  exact ⟨o, rfl, w, h1⟩
theorem lbox_cs {cs : List Value} (h : cs.all isLeaf = true) : lbox (.agg cs.toArray) = some (.agg cs.toArray) := by
  have hc : cellsV (.agg cs.toArray) = cs := by simp [cellsV]
  unfold lbox
  rw [hc, if_pos h]
theorem op_shape {o : OpT} {t : St} {u : Value} {cs : List Value} (h : (NCod.ofC opC fun _ => True).rel o t cs) (g : Shape true u cs) : u = oV o := by
  obtain ⟨rfl, _⟩ := h
  exact g
theorem chk1_asks {s0 : St} {l : List OpT} : Asks (run Tryz.prog (libL libT) hints) (.ofC opC fun _ => True) true s0 l (.func (.func 40) #[] #[]) fun o => !(ckO o == 0) := by
  intro o _ t u cs _ hr hs
  obtain rfl := op_shape hr hs
  refine ⟨t, ?_, .refl _ _⟩
  rw [record_CheckShard_1_1_call]
  refine record_CheckShard_1_1_of rfl ?_
  have hb : lbox (oV o) = some (oV o) := rfl
  have hl : lload true 6 lptr (oV o) = some (oV o) := rfl
  have hne : (ckO o != 0) = !(ckO o == 0) := rfl
  unfold record_CheckShard_1_1
  simp only [hb, hl, op_CheckOp_call, k_ckO, hne, n_bind, n_map, getL_0, getL_1, getL_2, getL_3, getL_4, getL_5, getL_6, getL_7, getL_8, getL_9, getL_10, getL_11, getL_12, condV_t, condV_f, guardV_tt, guardV_ff, guardV_tf, guardV_ft, guardV_u, apick_t, apick_f, exV_exit, exV_ret, lookE_same, joinK_eq, seqA_n, seqA_e, seqA_r, e_add, e_sub, e_mul, e_eql, e_neq, e_lss, e_leq, e_gtr, e_geq, e_conv, e_not, e_neg, and_guard, or_guard]
  exact ret1 rfl
theorem contains_op {s : St} {v fv : Value} {l : List OpT} {p : OpT → Bool} (h : ListN (.ofC opC fun _ => True) 80 l s v) (hp : Asks (run Tryz.prog (libL libT) hints) (.ofC opC fun _ => True) true s l fv p) : ∃ t, (run Tryz.prog (libL libT) hints) 39 [v, fv] s = some (.bool (l.any p), t) ∧ Ext s.heap.length s t := by
  have hl : l.length < 140737488355328 := by
    have h1 : l.length * 80 ≤ 140737488351232 := h.1
    omega
  obtain ⟨k, t, h1, h2, h3⟩ := contains_gen (t1 := 72) (n := 6) rfl (.inl rfl) h hl hp
  refine ⟨t, slices_ContainsFunc_api_Op_api_Op_of rfl ?_, h3⟩
  have h4 := slices_IndexFunc_api_Op_api_Op_of (lib := libL libT) rfl h1
  unfold slices_ContainsFunc_api_Op_api_Op
  simp only [slices_IndexFunc_api_Op_api_Op_call, h4, h2, n_bind, n_map, getL_0, getL_1, getL_2, getL_3, getL_4, getL_5, getL_6, getL_7, getL_8, getL_9, getL_10, getL_11, getL_12, condV_t, condV_f, guardV_tt, guardV_ff, guardV_tf, guardV_ft, guardV_u, apick_t, apick_f, exV_exit, exV_ret, lookE_same, joinK_eq, seqA_n, seqA_e, seqA_r, e_add, e_sub, e_mul, e_eql, e_neq, e_lss, e_leq, e_gtr, e_geq, e_conv, e_not, e_neg, and_guard, or_guard]
  exact ret1 rfl
theorem index_loop {R : Caller} {s : St} {v : Value} {l : List Int} {x : Int} (h : ListN (wfN .u64) 8 l s v) (hl : l.length < 140737488355328) : ∀ (rest : List Int) (i : Nat), l.drop i = rest → i ≤ l.length →
    loopL (slices_Index_uint64_uint64.b0 R) [v, .int .u64 x, .int .i64 ((l.length : Nat) : Int), .int .i64 (i : Int)] s = match idxP (fun n => x == n) i rest with | some k => some (.ret, [.int .i64 (k : Int)], s) | none => some (.exit 0, [], s) := by
  intro rest
  induction rest with
  | nil =>
    intro i hi hle
    have h1 : decide ((i : Int) < ((l.length : Nat) : Int)) = false := by
      have := List.drop_eq_nil_iff.1 hi
      simp; omega
    rw [loopL_eq]
    simp only [slices_Index_uint64_uint64.b0, h1, idxP, n_bind, n_map, getL_0, getL_1, getL_2, getL_3, getL_4, getL_5, getL_6, getL_7, getL_8, getL_9, getL_10, getL_11, getL_12, condV_t, condV_f, guardV_tt, guardV_ff, guardV_tf, guardV_ft, guardV_u, apick_t, apick_f, exV_exit, exV_ret, lookE_same, joinK_eq, seqA_n, seqA_e, seqA_r, e_add, e_sub, e_mul, e_eql, e_neq, e_lss, e_leq, e_gtr, e_geq, e_conv, e_not, e_neg, and_guard, or_guard]
  | cons a rest ih =>
    intro i hi hle
    obtain ⟨hlt, he, hd⟩ := drop_nx hi
    have h1 : decide ((i : Int) < ((l.length : Nat) : Int)) = true := by simp; omega
    obtain ⟨q, u, cs, h2, h3, _, h4, h5⟩ := listN_get h hlt (n := 1) rfl (ag := false) (.inr rfl)
    rw [he] at h5
    have hu : u = .int .u64 a := by
      obtain ⟨e, _⟩ := h5
      have h4 : cs = [u] := h4
      rw [h4] at e
      exact (List.cons.inj e).1
    subst hu
    have nx := ih (i + 1) hd (by omega)
    rw [loopL_eq]
    rcases Bool.eq_false_or_eq_true (x == a) with c | c
    · simp only [slices_Index_uint64_uint64.b0, h1, h2, h3, c, idxP, if_true, n_bind, n_map, getL_0, getL_1, getL_2, getL_3, getL_4, getL_5, getL_6, getL_7, getL_8, getL_9, getL_10, getL_11, getL_12, condV_t, condV_f, guardV_tt, guardV_ff, guardV_tf, guardV_ft, guardV_u, apick_t, apick_f, exV_exit, exV_ret, lookE_same, joinK_eq, seqA_n, seqA_e, seqA_r, e_add, e_sub, e_mul, e_eql, e_neq, e_lss, e_leq, e_gtr, e_geq, e_conv, e_not, e_neg, and_guard, or_guard]
    · simp only [slices_Index_uint64_uint64.b0, h1, h2, h3, c, idxP, Bool.false_eq_true, if_false, inc_i (show i < 140737488355328 by omega), n_bind, n_map, getL_0, getL_1, getL_2, getL_3, getL_4, getL_5, getL_6, getL_7, getL_8, getL_9, getL_10, getL_11, getL_12, condV_t, condV_f, guardV_tt, guardV_ff, guardV_tf, guardV_ft, guardV_u, apick_t, apick_f, exV_exit, exV_ret, lookE_same, joinK_eq, seqA_n, seqA_e, seqA_r, e_add, e_sub, e_mul, e_eql, e_neq, e_lss, e_leq, e_gtr, e_geq, e_conv, e_not, e_neg, and_guard, or_guard]
      exact nx
theorem contains_u {s : St} {v : Value} {l : List Int} {x : Int} (h : ListN (wfN .u64) 8 l s v) : (run Tryz.prog (libL libT) hints) 38 [v, .int .u64 x] s = some (.bool (l.any fun n => x == n), s) := by
  have hl : l.length < 140737488355328 := by
    have h1 : l.length * 8 ≤ 140737488351232 := h.1
    omega
  have k1 := index_loop (R := (run Tryz.prog (libL libT) hints)) (x := x) h hl l 0 rfl (Nat.zero_le _)
  rw [show ((0 : Nat) : Int) = 0 from rfl] at k1
  have ha := idxP_any (p := fun n => x == n) (l := l) (i := 0)
  have hidx : ∃ k : Int, (run Tryz.prog (libL libT) hints) 105 [v, .int .u64 x] s = some (.int .i64 k, s) ∧ decide (k ≥ 0) = l.any fun n => x == n := by
    cases hk : idxP (fun n => x == n) 0 l with
    | none =>
      rw [hk] at k1 ha
      refine ⟨-1, slices_Index_uint64_uint64_of rfl ?_, by rw [← ha]; rfl⟩
      unfold slices_Index_uint64_uint64
      simp only [listN_lenR h, k1, ret_1 (v := .int .i64 (-1)) rfl, n_bind, n_map, getL_0, getL_1, getL_2, getL_3, getL_4, getL_5, getL_6, getL_7, getL_8, getL_9, getL_10, getL_11, getL_12, condV_t, condV_f, guardV_tt, guardV_ff, guardV_tf, guardV_ft, guardV_u, apick_t, apick_f, exV_exit, exV_ret, lookE_same, joinK_eq, seqA_n, seqA_e, seqA_r, e_add, e_sub, e_mul, e_eql, e_neq, e_lss, e_leq, e_gtr, e_geq, e_conv, e_not, e_neg, and_guard, or_guard]
    | some k =>
      rw [hk] at k1 ha
      refine ⟨(k : Int), slices_Index_uint64_uint64_of rfl ?_, by rw [← ha]; simp⟩
      unfold slices_Index_uint64_uint64
      simp only [listN_lenR h, k1, ret_1 (v := .int .i64 (k : Int)) rfl, n_bind, n_map, getL_0, getL_1, getL_2, getL_3, getL_4, getL_5, getL_6, getL_7, getL_8, getL_9, getL_10, getL_11, getL_12, condV_t, condV_f, guardV_tt, guardV_ff, guardV_tf, guardV_ft, guardV_u, apick_t, apick_f, exV_exit, exV_ret, lookE_same, joinK_eq, seqA_n, seqA_e, seqA_r, e_add, e_sub, e_mul, e_eql, e_neq, e_lss, e_leq, e_gtr, e_geq, e_conv, e_not, e_neg, and_guard, or_guard]
  obtain ⟨k, h1, h2⟩ := hidx
  refine slices_Contains_uint64_uint64_of rfl ?_
  unfold slices_Contains_uint64_uint64
  simp only [slices_Index_uint64_uint64_call, h1, h2, n_bind, n_map, getL_0, getL_1, getL_2, getL_3, getL_4, getL_5, getL_6, getL_7, getL_8, getL_9, getL_10, getL_11, getL_12, condV_t, condV_f, guardV_tt, guardV_ff, guardV_tf, guardV_ft, guardV_u, apick_t, apick_f, exV_exit, exV_ret, lookE_same, joinK_eq, seqA_n, seqA_e, seqA_r, e_add, e_sub, e_mul, e_eql, e_neq, e_lss, e_leq, e_gtr, e_geq, e_conv, e_not, e_neg, and_guard, or_guard]
  exact ret1 rfl
def badHo (fin : List Int) (h : Ho) : Bool := ((((h.2.length : Int) == 0) || decide ((h.2.length : Int) > 24)) || fin.any (fun n => h.1 == n)) || h.2.any fun o => !(ckO o == 0)
theorem bad_asks {d : Sd} {s1 : St} {N : Nat} {ow he fi : Value} (hN : s1.heap[N]? = some (.row 0 (sdCells d ow he fi) .act)) (hs : SdIn d s1 ow he fi) : Asks (run Tryz.prog (libL libT) hints) hoN true s1 d.held (.func (.func 37) #[] #[.pointer (some ⟨N, 0, none⟩)]) (badHo d.fin) := by
  intro h _ t u cs hx hr hsh
  have hsh : u = .agg cs.toArray := hsh
  subst hsh
  obtain ⟨o, rfl, w, ho⟩ := ho_inv hr
  have hl : lbox (.agg #[.int .u64 h.1, o]) = some (.agg #[.int .u64 h.1, o]) := lbox_cs (cs := [.int .u64 h.1, o]) (by simp only [List.all_cons, listN_leafR ho, List.all_nil]; rfl)
  have l0 : lload false 1 lptr (.agg #[.int .u64 h.1, o]) = some (.int .u64 h.1) := rfl
  have l1 : lload false 1 (.pointer (some ⟨0, 1, none⟩)) (.agg #[.int .u64 h.1, o]) = some o := rfl
  have f7 : aload false 1 (.pointer (some ⟨N, 7, none⟩)) t = some fi := ld_cell (ext_get hN hx) (by simp) rfl
  have hc := contains_u (x := h.1) (hs.fi.ext hx)
  obtain ⟨t2, g1, g2⟩ := contains_op ho (chk1_asks (s0 := t) (l := h.2))
  have hcall : callV Tryz.prog (run Tryz.prog (libL libT) hints) (.func (.func 37) #[] #[.pointer (some ⟨N, 0, none⟩)]) [.agg [.int .u64 h.1, o].toArray] t = (run Tryz.prog (libL libT) hints) 37 [.agg #[.int .u64 h.1, o], .pointer (some ⟨N, 0, none⟩)] t := call_cap (fs := []) (cs := [.pointer (some ⟨N, 0, none⟩)]) record_CheckShard_1_ok
  rw [hcall]
  unfold badHo
  have len := listN_lenR ho
  have hr : ∀ b s, retV [.bool b] s = some (.bool b, s) := fun b s => ret1 rfl
  rcases Bool.eq_false_or_eq_true (((((h.2.length : Nat) : Int) == 0) || decide (((h.2.length : Nat) : Int) > 24)) || d.fin.any fun n => h.1 == n) with c | c
  · refine ⟨t, record_CheckShard_1_of rfl ?_, .refl _ _⟩
    unfold record_CheckShard_1
    simp only [hl, l1, len, ad_atR, Nat.zero_add, f7, l0, slices_Contains_uint64_uint64_call, hc, n_bind, n_map, getL_0, getL_1, getL_2, getL_3, getL_4, getL_5, getL_6, getL_7, getL_8, getL_9, getL_10, getL_11, getL_12, condV_t, condV_f, guardV_tt, guardV_ff, guardV_tf, guardV_ft, guardV_u, apick_t, apick_f, exV_exit, exV_ret, lookE_same, joinK_eq, seqA_n, seqA_e, seqA_r, e_add, e_sub, e_mul, e_eql, e_neq, e_lss, e_leq, e_gtr, e_geq, e_conv, e_not, e_neg, and_guard, or_guard, c, hr, Bool.true_or]
  · refine ⟨t2, record_CheckShard_1_of rfl ?_, g2⟩
    unfold record_CheckShard_1
    simp only [hl, l1, len, ad_atR, Nat.zero_add, f7, l0, slices_Contains_uint64_uint64_call, hc, n_bind, n_map, getL_0, getL_1, getL_2, getL_3, getL_4, getL_5, getL_6, getL_7, getL_8, getL_9, getL_10, getL_11, getL_12, condV_t, condV_f, guardV_tt, guardV_ff, guardV_tf, guardV_ft, guardV_u, apick_t, apick_f, exV_exit, exV_ret, lookE_same, joinK_eq, seqA_n, seqA_e, seqA_r, e_add, e_sub, e_mul, e_eql, e_neq, e_lss, e_leq, e_gtr, e_geq, e_conv, e_not, e_neg, and_guard, or_guard, c, slices_ContainsFunc_api_Op_api_Op_call, g1, hr, Bool.false_or]

end Go.Proofs.YtckpcelchhmjcaaGreat.Ab

/- Which state of a shard may be: the whole of it. -/
namespace Go.Proofs.YtckpcelchhmjcaaGreat.Ab
open Go

theorem in_rg (n : Nat) (a b : Rg) : pureRun Tryz.prog (Op.equalIn (n + 2) 27 (rv a) (rv b)) = some ([a.1 == b.1, a.2 == b.2].all id) :=
  pr_struct Tryz.underlying27 (by kernel_rfl) ⟨by decide, ⟨_, _, by kernel_rfl, by kernel_rfl, in_str _ _ _⟩, by decide, ⟨_, _, by kernel_rfl, by kernel_rfl, in_str _ _ _⟩, trivial⟩
theorem in_rgM (m n : Nat) (h : m = n + 2) (a b : Rg) : pureRun Tryz.prog (Op.equalIn m 27 (rv a) (rv b)) = some ([a.1 == b.1, a.2 == b.2].all id) := by
  subst h
  exact in_rg n a b
theorem max_2R : Op.maxDepth = 9998 + 2 := by decide
theorem rg_eql (o1 o2 : Operand) (a b : Rg) : abin Tryz.prog .eql 27 o1 o2 (rv a) (rv b) = some (.bool (a.1 == b.1 && a.2 == b.2)) := by
  have hg : pureRun Tryz.prog (eqGuard .eql 27 o1 o2 (.agg (prC.enc a).toArray) (.agg (prC.enc b).toArray)) = some () := by kernel_rfl
  have he : pureRun Tryz.prog (Op.equal 27 (rv a) (rv b)) = some ([a.1 == b.1, a.2 == b.2].all id) := by
    unfold Op.equal
    exact in_rgM _ 9998 max_2R a b
  have := ab_eqlS (xs := prC.enc a) (ys := prC.enc b) (prC.leaf a) (prC.leaf b) hg he
  rw [show ([a.1 == b.1, a.2 == b.2].all id) = (a.1 == b.1 && a.2 == b.2) by simp] at this
  exact this
abbrev In4 := Int × Int × Int × Rg
def inL (i : In4) : List Value := [.int .u64 i.1, .int .u64 i.2.1, .int .u64 i.2.2.1, sv i.2.2.2.1, sv i.2.2.2.2]
def inEq (a b : In4) : Bool := [a.1 == b.1, a.2.1 == b.2.1, a.2.2.1 == b.2.2.1, [a.2.2.2.1 == b.2.2.2.1, a.2.2.2.2 == b.2.2.2.2].all id].all id
theorem in_in (m n : Nat) (h : m = n + 3) (a b : In4) : pureRun Tryz.prog (Op.equalIn m 29 (.agg (inL a).toArray) (.agg (inL b).toArray)) = some (inEq a b) := by
  subst h
  exact pr_struct Tryz.underlying29 (by kernel_rfl) ⟨by decide, ⟨_, _, by kernel_rfl, by kernel_rfl, in_int Tryz.underlying22⟩, by decide, ⟨_, _, by kernel_rfl, by kernel_rfl, in_int Tryz.underlying22⟩, by decide, ⟨_, _, by kernel_rfl, by kernel_rfl, in_int Tryz.underlying22⟩, by decide, ⟨rv a.2.2.2, rv b.2.2.2, by kernel_rfl, by kernel_rfl, in_rg n _ _⟩, trivial⟩
theorem max_3R : Op.maxDepth = 9997 + 3 := by decide
theorem inL_leaf (a : In4) : (inL a).all leafOk = true := rfl
theorem in_eql (o1 o2 : Operand) (a b : In4) : abin Tryz.prog .eql 29 o1 o2 (.agg (inL a).toArray) (.agg (inL b).toArray) = some (.bool (inEq a b)) := by
  have hg : pureRun Tryz.prog (eqGuard .eql 29 o1 o2 (.agg (inL a).toArray) (.agg (inL b).toArray)) = some () := by kernel_rfl
  refine ab_eqlS (inL_leaf a) (inL_leaf b) hg ?_
  unfold Op.equal
  exact in_in _ 9997 max_3R a b

theorem contains_ho {s : St} {v fv : Value} {l : List Ho} {p : Ho → Bool} (h : ListN hoN 32 l s v) (hp : Asks (run Tryz.prog (libL libT) hints) hoN true s l fv p) : ∃ t, (run Tryz.prog (libL libT) hints) 43 [v, fv] s = some (.bool (l.any p), t) ∧ Ext s.heap.length s t := by
  have hl : l.length < 140737488355328 := by
    have h1 : l.length * 32 ≤ 140737488351232 := h.1
    omega
  obtain ⟨k, t, h1, h2, h3⟩ := contains_gen (t1 := 64) (n := 2) rfl (.inl rfl) h hl hp
  refine ⟨t, slices_ContainsFunc_api_Hold_api_Hold_of rfl ?_, h3⟩
  have h4 := slices_IndexFunc_api_Hold_api_Hold_of (lib := libL libT) rfl h1
  unfold slices_ContainsFunc_api_Hold_api_Hold
  simp only [slices_IndexFunc_api_Hold_api_Hold_call, h4, h2, n_bind, n_map, getL_0, getL_1, getL_2, getL_3, getL_4, getL_5, getL_6, getL_7, getL_8, getL_9, getL_10, getL_11, getL_12, condV_t, condV_f, guardV_tt, guardV_ff, guardV_tf, guardV_ft, guardV_u, apick_t, apick_f, exV_exit, exV_ret, lookE_same, joinK_eq, seqA_n, seqA_e, seqA_r, e_add, e_sub, e_mul, e_eql, e_neq, e_lss, e_leq, e_gtr, e_geq, e_conv, e_not, e_neg, and_guard, or_guard]
  exact ret1 rfl
theorem rises_ho {s : St} {v : Value} {l : List Ho} (h : ListN hoN 32 l s v) : (run Tryz.prog (libL libT) hints) 44 [v, .func (.func 45) #[] #[]] s = some (.bool (risesK (fun h : Ho => h.1) none l), s) := by
  have hl : l.length < 140737488355328 := by
    have h1 : l.length * 32 ≤ 140737488351232 := h.1
    omega
  refine record_rising_api_Hold_of rfl (rises_gen (t1 := 64) (n := 2) (ag := true) rfl (.inl rfl) h hl ?_)
  intro a _ u cs hr hs t
  have hs : u = .agg cs.toArray := hs
  subst hs
  obtain ⟨o, rfl, w, ho⟩ := ho_inv hr
  rw [record_CheckShard_2_call]
  refine record_CheckShard_2_of rfl ?_
  have hb := lbox_cs (cs := [.int .u64 a.1, o]) (by simp only [List.all_cons, listN_leafR ho, List.all_nil]; rfl)
  have l0 : lload false 1 lptr (.agg [.int .u64 a.1, o].toArray) = some (.int .u64 a.1) := rfl
  unfold record_CheckShard_2
  simp only [hb, l0, n_bind, n_map, getL_0, getL_1, getL_2, getL_3, getL_4, getL_5, getL_6, getL_7, getL_8, getL_9, getL_10, getL_11, getL_12, condV_t, condV_f, guardV_tt, guardV_ff, guardV_tf, guardV_ft, guardV_u, apick_t, apick_f, exV_exit, exV_ret, lookE_same, joinK_eq, seqA_n, seqA_e, seqA_r, e_add, e_sub, e_mul, e_eql, e_neq, e_lss, e_leq, e_gtr, e_geq, e_conv, e_not, e_neg, and_guard, or_guard]
  exact ret1 rfl
theorem rises_u {s : St} {v : Value} {l : List Int} (h : ListN (wfN .u64) 8 l s v) : (run Tryz.prog (libL libT) hints) 46 [v, .func (.func 47) #[] #[]] s = some (.bool (risesK id none l), s) := by
  have hl : l.length < 140737488355328 := by
    have h1 : l.length * 8 ≤ 140737488351232 := h.1
    omega
  refine record_rising_uint64_of rfl (rises_gen (t1 := 22) (n := 1) (ag := false) rfl (.inr rfl) h hl ?_)
  intro a _ u cs hr hs t
  have hs : cs = [u] := hs
  subst hs
  obtain ⟨e, _⟩ := hr
  obtain rfl : u = .int .u64 a := (List.cons.inj e).1
  rw [record_CheckShard_3_call]
  refine record_CheckShard_3_of rfl ?_
  unfold record_CheckShard_3
  exact ret1 rfl
theorem want_run (b : Bool) (s : St) : (run Tryz.prog (libL libT) hints) 42 [.bool b] s = some (.int .i64 (if b = true then 0 else 1), s) := by
  refine record_want_of rfl ?_
  unfold record_want
  cases b
  · simp only [n_bind, n_map, getL_0, getL_1, getL_2, getL_3, getL_4, getL_5, getL_6, getL_7, getL_8, getL_9, getL_10, getL_11, getL_12, condV_t, condV_f, guardV_tt, guardV_ff, guardV_tf, guardV_ft, guardV_u, apick_t, apick_f, exV_exit, exV_ret, lookE_same, joinK_eq, seqA_n, seqA_e, seqA_r, e_add, e_sub, e_mul, e_eql, e_neq, e_lss, e_leq, e_gtr, e_geq, e_conv, e_not, e_neg, and_guard, or_guard, Bool.not_false]
    exact ret1 rfl
  · simp only [n_bind, n_map, getL_0, getL_1, getL_2, getL_3, getL_4, getL_5, getL_6, getL_7, getL_8, getL_9, getL_10, getL_11, getL_12, condV_t, condV_f, guardV_tt, guardV_ff, guardV_tf, guardV_ft, guardV_u, apick_t, apick_f, exV_exit, exV_ret, lookE_same, joinK_eq, seqA_n, seqA_e, seqA_r, e_add, e_sub, e_mul, e_eql, e_neq, e_lss, e_leq, e_gtr, e_geq, e_conv, e_not, e_neg, and_guard, or_guard, Bool.not_true]
    exact ret1 rfl

def bad1 (d : Sd) : Bool := (((((decide (d.id < 1) || decide (d.id > 4)) || (eO d.owners != 0)) || decide ((d.held.length : Int) > 6)) || decide (IntKind.wrap .i64 ((d.held.length : Int) + (d.fin.length : Int)) > 64)) || (eR d.ir != 0)) || (eR d.cold != 0)
def good1 (d : Sd) : Bool := ((d.im != 0) || inEq (d.im, d.ia, d.inx, d.ir) (0, 0, 0, ([], []))) && ((d.frozen != 0) || (d.cold.1 == [] && d.cold.2 == []))
def good2 (d : Sd) : Bool := ((good1 d && !(d.held.any (badHo d.fin))) && risesK (fun h : Ho => h.1) none d.held) && risesK id none d.fin
def eSd (d : Sd) : Int := if bad1 d = true then 1 else if good2 d = true then 0 else 1
theorem anew_cells {cs : List Value} (h : cs.all isLeaf = true) (s : St) : anew (cellsV (.agg cs.toArray)) s = some (.pointer (some ⟨s.heap.length, 0, none⟩), s.push (.row 0 cs .act)) := by
  have hc : cellsV (.agg cs.toArray) = cs := by simp [cellsV]
  unfold anew
  rw [hc, if_pos h]
theorem ld_five {s : St} {B n i : Nat} {cells xs : List Value} {st : Stat} (h : s.heap[B]? = some (.row n cells st)) (hst : st ≠ .dead) (hx : (cells.drop i).take 5 = xs) (hl : i + 5 ≤ cells.length) : aload true 5 (.pointer (some ⟨B, i, none⟩)) s = some (.agg xs.toArray) := by
  have hr : readRow s B = some cells := by
    unfold Ab.readRow
    rw [h]
    cases st with
    | dead => exact absurd rfl hst
    | act => rfl
    | ro => rfl
  simp only [aload, if_true, readN, hr, Option.bind_some]
  rw [if_pos hl, hx]
  rfl
theorem or_guard2 {b c : Bool} {s : St} {β : Type} {K : List Value × St → Option β} : ((guardV (.bool b) false (some ([.bool c], s)) (some ([undef], s))).bind fun q => ((apick (.bool b) (.bool true) (getL q.1 0)).bind fun v => some ([v], q.2)).bind K) = K ([.bool (b || c)], s) := by
  cases b <;> rfl
theorem CheckShard_run {d : Sd} {s : St} {v : Value} (h : NArg sdN d s v) : ∃ t, (run Tryz.prog (libL libT) hints) 11 [v] s = some (.int .i64 (eSd d), t) ∧ Ext s.heap.length s t := by
  obtain ⟨cs, rfl, h⟩ := h
  obtain ⟨ow, he, fi, rfl, hs⟩ := sd_inv h
  have hnw := anew_cells (sd_leaf hs) s
  have hx1 : Ext s.heap.length s (s.push (.row 0 (sdCells d ow he fi) .act)) := .push _ (Nat.le_refl _) _
  have hg : (s.push (.row 0 (sdCells d ow he fi) .act)).heap[s.heap.length]? = some (.row 0 (sdCells d ow he fi) .act) := push_get
  have hs1 := hs.ext hx1
  generalize hS : s.push (.row 0 (sdCells d ow he fi) .act) = s1 at *
  generalize hN : s.heap.length = N at *
  have fld : ∀ {t : St} {i : Nat} {c : Value}, Ext s1.heap.length s1 t → (sdCells d ow he fi)[i]? = some c → aload false 1 (.pointer (some ⟨N, i, none⟩)) t = some c := fun hx hc => ld_cell (ext_get hg hx) (by simp) hc
  have r0 : Ext s1.heap.length s1 s1 := .refl _ _
  have f0 := fld (i := 0) r0 rfl
  have f5 := fld (i := 5) r0 rfl
  have f6 := fld (i := 6) r0 rfl
  have f7 := fld (i := 7) r0 rfl
  have f9 := fld (i := 9) r0 rfl
  have f12 := fld (i := 12) r0 rfl
  have f15 : aload true 2 (.pointer (some ⟨N, 15, none⟩)) s1 = some (rv d.ir) := ld_two hg (by simp) rfl rfl
  have f10 : aload true 2 (.pointer (some ⟨N, 10, none⟩)) s1 = some (rv d.cold) := ld_two hg (by simp) rfl rfl
  have f12b : aload true 5 (.pointer (some ⟨N, 12, none⟩)) s1 = some (.agg (inL (d.im, d.ia, d.inx, d.ir)).toArray) := ld_five hg (by simp) rfl (by simp [sdCells])
  obtain ⟨p1, _, p2⟩ := hs1.ow.plain
  have hol : d.owners.length < 140737488355328 := by omega
  have kO := k_chkO p1 hol
  have lh := listN_lenR hs1.he
  have lf := listN_lenR hs1.fi
  have hz5 : (Value.agg #[(.int .u64 0), (.int .u64 0), (.int .u64 0), (.string ⟨#[]⟩), (.string ⟨#[]⟩)]) = .agg (inL (0, 0, 0, ([], []))).toArray := rfl
  have hz2 : (Value.agg #[(.string ⟨#[]⟩), (.string ⟨#[]⟩)]) = rv ([], []) := rfl
  obtain ⟨t1, g1, x1⟩ := contains_ho hs1.he (bad_asks hg hs1)
  have k6 := fld (i := 6) x1 rfl
  have k7 := fld (i := 7) x1 rfl
  have rh := rises_ho (hs1.he.ext x1)
  have ru := rises_u (hs1.fi.ext x1)
  have hmk : amkFunc 37 [] [.pointer (some ⟨N, 0, none⟩)] = some (.func (.func 37) #[] #[.pointer (some ⟨N, 0, none⟩)]) := rfl
  have hr : ∀ n s, retV [.int .i64 n] s = some (.int .i64 n, s) := fun n s => ret1 rfl
  have hX1 := hx1.trans (x1.less (by have := hx1.1; omega))
  have hbad : bad1 d = ((((((decide (d.id < 1) || decide (d.id > 4)) || (eO d.owners != 0)) || decide ((d.held.length : Int) > 6)) || decide (IntKind.wrap .i64 ((d.held.length : Int) + (d.fin.length : Int)) > 64)) || (eR d.ir != 0)) || (eR d.cold != 0)) := rfl
  unfold eSd
  rcases Bool.eq_false_or_eq_true (bad1 d) with c | c
  · refine ⟨s1, record_CheckShard_of rfl ?_, hx1⟩
    rw [if_pos c]
    rw [hbad] at c
    unfold record_CheckShard
    simp only [hnw, ad_atR, Nat.zero_add, Nat.reduceAdd, f0, f5, f6, f7, f15, f10, owner_Check_call, kO, lh, lf, span_Check_call, k_chk, n_bind, n_map, getL_0, getL_1, getL_2, getL_3, getL_4, getL_5, getL_6, getL_7, getL_8, getL_9, getL_10, getL_11, getL_12, condV_t, condV_f, guardV_tt, guardV_ff, guardV_tf, guardV_ft, guardV_u, apick_t, apick_f, exV_exit, exV_ret, lookE_same, joinK_eq, seqA_n, seqA_e, seqA_r, e_add, e_sub, e_mul, e_eql, e_neq, e_lss, e_leq, e_gtr, e_geq, e_conv, e_not, e_neg, and_guard, or_guard, c, hr]
  · have hc : ¬ bad1 d = true := by rw [c]; simp
    rw [if_neg hc]
    rw [hbad] at c
    unfold good2 good1
    rcases Bool.eq_false_or_eq_true ((d.im != 0) || inEq (d.im, d.ia, d.inx, d.ir) (0, 0, 0, ([], []))) with c1 | c1
    · rcases Bool.eq_false_or_eq_true ((d.frozen != 0) || (d.cold.1 == [] && d.cold.2 == [])) with c2 | c2
      · rcases Bool.eq_false_or_eq_true (d.held.any (badHo d.fin)) with c3 | c3
        · refine ⟨t1, record_CheckShard_of rfl ?_, hX1⟩
          unfold record_CheckShard
          simp only [hnw, ad_atR, Nat.zero_add, Nat.reduceAdd, f0, f5, f6, f7, f9, f12, f12b, f15, f10, owner_Check_call, kO, lh, lf, span_Check_call, k_chk, n_bind, n_map, getL_0, getL_1, getL_2, getL_3, getL_4, getL_5, getL_6, getL_7, getL_8, getL_9, getL_10, getL_11, getL_12, condV_t, condV_f, guardV_tt, guardV_ff, guardV_tf, guardV_ft, guardV_u, apick_t, apick_f, exV_exit, exV_ret, lookE_same, joinK_eq, seqA_n, seqA_e, seqA_r, e_add, e_sub, e_mul, e_eql, e_neq, e_lss, e_leq, e_gtr, e_geq, e_conv, e_not, e_neg, and_guard, or_guard, c, hr, hmk, hz5, hz2, in_eql, rg_eql, c1, or_guard2, c2, slices_ContainsFunc_api_Hold_api_Hold_call, g1, c3, Bool.not_true, record_want_call, want_run, Bool.and_false, Bool.false_and, Bool.and_self, Bool.true_and, Bool.false_eq_true, if_false]
        · rcases Bool.eq_false_or_eq_true (risesK (fun h : Ho => h.1) none d.held) with c4 | c4
          · refine ⟨t1, record_CheckShard_of rfl ?_, hX1⟩
            unfold record_CheckShard
            simp only [hnw, ad_atR, Nat.zero_add, Nat.reduceAdd, f0, f5, f6, f7, f9, f12, f12b, f15, f10, owner_Check_call, kO, lh, lf, span_Check_call, k_chk, n_bind, n_map, getL_0, getL_1, getL_2, getL_3, getL_4, getL_5, getL_6, getL_7, getL_8, getL_9, getL_10, getL_11, getL_12, condV_t, condV_f, guardV_tt, guardV_ff, guardV_tf, guardV_ft, guardV_u, apick_t, apick_f, exV_exit, exV_ret, lookE_same, joinK_eq, seqA_n, seqA_e, seqA_r, e_add, e_sub, e_mul, e_eql, e_neq, e_lss, e_leq, e_gtr, e_geq, e_conv, e_not, e_neg, and_guard, or_guard, c, hr, hmk, hz5, hz2, in_eql, rg_eql, c1, or_guard2, c2, slices_ContainsFunc_api_Hold_api_Hold_call, g1, c3, Bool.not_false, record_rising_api_Hold_call, k6, rh, c4, record_rising_uint64_call, k7, ru, record_want_call, want_run, Bool.and_false, Bool.false_and, Bool.and_self, Bool.true_and]
          · refine ⟨t1, record_CheckShard_of rfl ?_, hX1⟩
            unfold record_CheckShard
            simp only [hnw, ad_atR, Nat.zero_add, Nat.reduceAdd, f0, f5, f6, f7, f9, f12, f12b, f15, f10, owner_Check_call, kO, lh, lf, span_Check_call, k_chk, n_bind, n_map, getL_0, getL_1, getL_2, getL_3, getL_4, getL_5, getL_6, getL_7, getL_8, getL_9, getL_10, getL_11, getL_12, condV_t, condV_f, guardV_tt, guardV_ff, guardV_tf, guardV_ft, guardV_u, apick_t, apick_f, exV_exit, exV_ret, lookE_same, joinK_eq, seqA_n, seqA_e, seqA_r, e_add, e_sub, e_mul, e_eql, e_neq, e_lss, e_leq, e_gtr, e_geq, e_conv, e_not, e_neg, and_guard, or_guard, c, hr, hmk, hz5, hz2, in_eql, rg_eql, c1, or_guard2, c2, slices_ContainsFunc_api_Hold_api_Hold_call, g1, c3, Bool.not_false, record_rising_api_Hold_call, k6, rh, c4, record_want_call, want_run, Bool.and_false, Bool.false_and, Bool.and_self, Bool.true_and, Bool.false_eq_true, if_false]
      · refine ⟨s1, record_CheckShard_of rfl ?_, hx1⟩
        have c2' : (d.frozen != 0) = false ∧ (d.cold.1 == [] && d.cold.2 == []) = false := by simpa only [Bool.or_eq_false_iff] using c2
        unfold record_CheckShard
        simp only [hnw, ad_atR, Nat.zero_add, Nat.reduceAdd, f0, f5, f6, f7, f9, f12, f12b, f15, f10, owner_Check_call, kO, lh, lf, span_Check_call, k_chk, n_bind, n_map, getL_0, getL_1, getL_2, getL_3, getL_4, getL_5, getL_6, getL_7, getL_8, getL_9, getL_10, getL_11, getL_12, condV_t, condV_f, guardV_tt, guardV_ff, guardV_tf, guardV_ft, guardV_u, apick_t, apick_f, exV_exit, exV_ret, lookE_same, joinK_eq, seqA_n, seqA_e, seqA_r, e_add, e_sub, e_mul, e_eql, e_neq, e_lss, e_leq, e_gtr, e_geq, e_conv, e_not, e_neg, and_guard, or_guard, c, hr, hmk, hz5, hz2, in_eql, rg_eql, c1, c2'.1, c2'.2, Bool.or_self, record_want_call, want_run, Bool.and_false, Bool.false_and, Bool.and_self, Bool.true_and, Bool.false_eq_true, if_false]
    · refine ⟨s1, record_CheckShard_of rfl ?_, hx1⟩
      unfold record_CheckShard
      simp only [hnw, ad_atR, Nat.zero_add, Nat.reduceAdd, f0, f5, f6, f7, f9, f12, f12b, f15, f10, owner_Check_call, kO, lh, lf, span_Check_call, k_chk, n_bind, n_map, getL_0, getL_1, getL_2, getL_3, getL_4, getL_5, getL_6, getL_7, getL_8, getL_9, getL_10, getL_11, getL_12, condV_t, condV_f, guardV_tt, guardV_ff, guardV_tf, guardV_ft, guardV_u, apick_t, apick_f, exV_exit, exV_ret, lookE_same, joinK_eq, seqA_n, seqA_e, seqA_r, e_add, e_sub, e_mul, e_eql, e_neq, e_lss, e_leq, e_gtr, e_geq, e_conv, e_not, e_neg, and_guard, or_guard, c, hr, hmk, hz5, hz2, in_eql, rg_eql, c1, record_want_call, want_run, Bool.and_false, Bool.false_and, Bool.and_self, Bool.true_and, Bool.false_eq_true, if_false]

end Go.Proofs.YtckpcelchhmjcaaGreat.Ab

/- Which state of the coordinator may be. -/
namespace Go.Proofs.YtckpcelchhmjcaaGreat.Ab
open Go

def cdCells (c : Cd) (ow de la : Value) : List Value := [.int .i64 c.shards, .int .u64 c.boot, .int .u64 c.ver, .int .u64 c.epoch, ow, de, la]
structure CdIn (c : Cd) (s : St) (ow de la : Value) : Prop where
  ow : ListN (.ofC owC fun _ => True) 24 c.owners s ow
  de : ListN deN 56 c.decided s de
  la : ListN laN 48 c.last s la
  wsh : (Lit.int .i64 c.shards).wf = true
  wboot : (Lit.int .u64 c.boot).wf = true
  wver : (Lit.int .u64 c.ver).wf = true
  wepoch : (Lit.int .u64 c.epoch).wf = true
theorem CdIn.ext {c : Cd} {s t : St} {ow de la : Value} (h : CdIn c s ow de la) (hx : Ext s.heap.length s t) : CdIn c t ow de la :=
  ⟨h.ow.ext hx, h.de.ext hx, h.la.ext hx, h.wsh, h.wboot, h.wver, h.wepoch⟩
theorem cd_inv {c : Cd} {s : St} {cs : List Value} (h : cdN.rel c s cs) : ∃ ow de la, cs = cdCells c ow de la ∧ CdIn c s ow de la := by
  obtain ⟨_, _, rfl, ⟨rfl, w0⟩, _, _, rfl, ⟨rfl, w1⟩, _, _, rfl, ⟨rfl, w2⟩, _, _, rfl, ⟨rfl, w3⟩, _, _, rfl, ⟨ow, rfl, how⟩, _, _, rfl, ⟨de, rfl, hde⟩, _, _, rfl, ⟨la, rfl, hla⟩, rfl⟩ := h
  exact ⟨ow, de, la, rfl, how, hde, hla, w0, w1, w2, w3⟩
theorem CdIn.rel {c : Cd} {s : St} {ow de la : Value} (h : CdIn c s ow de la) : cdN.rel c s (cdCells c ow de la) :=
  ⟨_, _, rfl, ⟨rfl, h.wsh⟩, _, _, rfl, ⟨rfl, h.wboot⟩, _, _, rfl, ⟨rfl, h.wver⟩, _, _, rfl, ⟨rfl, h.wepoch⟩, _, _, rfl, ⟨ow, rfl, h.ow⟩, _, _, rfl, ⟨de, rfl, h.de⟩, _, _, rfl, ⟨la, rfl, h.la⟩, rfl⟩
theorem cd_leaf {c : Cd} {s : St} {ow de la : Value} (h : CdIn c s ow de la) : (cdCells c ow de la).all isLeaf = true := by
  have h1 := listN_leafR h.ow
  have h2 := listN_leafR h.de
  have h3 := listN_leafR h.la
  simp only [cdCells, List.all_cons, h1, h2, h3, List.all_nil]
  rfl
theorem de_inv {d : De} {s : St} {cs : List Value} (h : deN.rel d s cs) : ∃ l, cs = [.int .u64 d.1, .int .i64 d.2.1, .int .u64 d.2.2.1, .int .u64 d.2.2.2.1, l] ∧ ListN (wfN .i64) 8 d.2.2.2.2 s l ∧ (Lit.int .u64 d.1).wf = true ∧ (Lit.int .i64 d.2.1).wf = true ∧ (Lit.int .u64 d.2.2.1).wf = true ∧ (Lit.int .u64 d.2.2.2.1).wf = true := by
  obtain ⟨_, _, rfl, ⟨rfl, w0⟩, _, _, rfl, ⟨rfl, w1⟩, _, _, rfl, ⟨rfl, w2⟩, _, _, rfl, ⟨rfl, w3⟩, _, _, rfl, ⟨l, rfl, hl⟩, rfl⟩ := h
  exact ⟨l, rfl, hl, w0, w1, w2, w3⟩
theorem la_inv {a : La} {s : St} {cs : List Value} (h : laN.rel a s cs) : ∃ l, cs = [.int .i64 a.1, .int .u64 a.2.1, .int .u64 a.2.2.1, l] ∧ ListN rsN 48 a.2.2.2 s l ∧ (Lit.int .i64 a.1).wf = true ∧ (Lit.int .u64 a.2.1).wf = true ∧ (Lit.int .u64 a.2.2.1).wf = true := by
  obtain ⟨_, _, rfl, ⟨rfl, w0⟩, _, _, rfl, ⟨rfl, w1⟩, _, _, rfl, ⟨rfl, w2⟩, _, _, rfl, ⟨l, rfl, hl⟩, rfl⟩ := h
  exact ⟨l, rfl, hl, w0, w1, w2⟩
theorem rs_inv {r : Rs} {s : St} {cs : List Value} (h : rsN.rel r s cs) : ∃ l, cs = [.bool r.1, sv r.2.1, l] ∧ ListN (.ofC prC fun _ => True) 32 r.2.2 s l ∧ r.2.1.length ≤ reachBytes := by
  obtain ⟨_, _, rfl, ⟨rfl, _⟩, _, _, rfl, ⟨rfl, w1⟩, _, _, rfl, ⟨l, rfl, hl⟩, rfl⟩ := h
  exact ⟨l, rfl, hl, w1⟩

def badPr (p : Rg) : Bool := (eK p.1 != 0) || decide ((p.2.length : Int) > 16)
def badRs (r : Rs) : Bool := (decide ((r.2.1.length : Int) > 16) || decide ((r.2.2.length : Int) > 4)) || r.2.2.any badPr
def resOk (l : List Rs) : Bool := decide ((l.length : Int) ≤ 4) && !(l.any badRs)
def cliOk (n : Int) : Bool := decide (n ≥ 1) && decide (n ≤ 4)
theorem len_sv {k : BL} {s : St} : alenV .string (sv k) s = some (.int .i64 ((k.length : Nat) : Int)) := rfl
theorem badPr_asks {s0 : St} {l : List Rg} : Asks (run Tryz.prog (libL libT) hints) (.ofC prC fun _ => True) true s0 l (.func (.func 116) #[] #[]) badPr := by
  intro p _ t u cs _ hr hs
  obtain ⟨rfl, _⟩ := hr
  have hs : u = rv p := hs
  subst hs
  refine ⟨t, ?_, .refl _ _⟩
  rw [record_results_1_call]
  refine record_results_1_of rfl ?_
  have hb : lbox (rv p) = some (rv p) := rfl
  have l0 : lload false 1 lptr (rv p) = some (sv p.1) := rfl
  have l1 : lload false 1 (.pointer (some ⟨0, 1, none⟩)) (rv p) = some (sv p.2) := rfl
  unfold record_results_1 badPr
  simp only [hb, l0, l1, span_CheckKey_call, k_key, len_sv, n_bind, n_map, getL_0, getL_1, getL_2, getL_3, getL_4, getL_5, getL_6, getL_7, getL_8, getL_9, getL_10, getL_11, getL_12, condV_t, condV_f, guardV_tt, guardV_ff, guardV_tf, guardV_ft, guardV_u, apick_t, apick_f, exV_exit, exV_ret, lookE_same, joinK_eq, seqA_n, seqA_e, seqA_r, e_add, e_sub, e_mul, e_eql, e_neq, e_lss, e_leq, e_gtr, e_geq, e_conv, e_not, e_neg, and_guard, or_guard]
  exact ret1 rfl
theorem contains_pr {s : St} {v fv : Value} {l : List Rg} {p : Rg → Bool} (h : ListN (.ofC prC fun _ => True) 32 l s v) (hp : Asks (run Tryz.prog (libL libT) hints) (.ofC prC fun _ => True) true s l fv p) : ∃ t, (run Tryz.prog (libL libT) hints) 119 [v, fv] s = some (.bool (l.any p), t) ∧ Ext s.heap.length s t := by
  have hl : l.length < 140737488355328 := by
    have h1 : l.length * 32 ≤ 140737488351232 := h.1
    omega
  obtain ⟨k, t, h1, h2, h3⟩ := contains_gen (t1 := 150) (n := 2) rfl (.inl rfl) h hl hp
  refine ⟨t, slices_ContainsFunc_api_Pair_api_Pair_of rfl ?_, h3⟩
  have h4 := slices_IndexFunc_api_Pair_api_Pair_of (lib := libL libT) rfl h1
  unfold slices_ContainsFunc_api_Pair_api_Pair
  simp only [slices_IndexFunc_api_Pair_api_Pair_call, h4, h2, n_bind, n_map, getL_0, getL_1, getL_2, getL_3, getL_4, getL_5, getL_6, getL_7, getL_8, getL_9, getL_10, getL_11, getL_12, condV_t, condV_f, guardV_tt, guardV_ff, guardV_tf, guardV_ft, guardV_u, apick_t, apick_f, exV_exit, exV_ret, lookE_same, joinK_eq, seqA_n, seqA_e, seqA_r, e_add, e_sub, e_mul, e_eql, e_neq, e_lss, e_leq, e_gtr, e_geq, e_conv, e_not, e_neg, and_guard, or_guard]
  exact ret1 rfl
theorem contains_rs {s : St} {v fv : Value} {l : List Rs} {p : Rs → Bool} (h : ListN rsN 48 l s v) (hp : Asks (run Tryz.prog (libL libT) hints) rsN true s l fv p) : ∃ t, (run Tryz.prog (libL libT) hints) 117 [v, fv] s = some (.bool (l.any p), t) ∧ Ext s.heap.length s t := by
  have hl : l.length < 140737488355328 := by
    have h1 : l.length * 48 ≤ 140737488351232 := h.1
    omega
  obtain ⟨k, t, h1, h2, h3⟩ := contains_gen (t1 := 146) (n := 3) rfl (.inl rfl) h hl hp
  refine ⟨t, slices_ContainsFunc_api_Result_api_Result_of rfl ?_, h3⟩
  have h4 := slices_IndexFunc_api_Result_api_Result_of (lib := libL libT) rfl h1
  unfold slices_ContainsFunc_api_Result_api_Result
  simp only [slices_IndexFunc_api_Result_api_Result_call, h4, h2, n_bind, n_map, getL_0, getL_1, getL_2, getL_3, getL_4, getL_5, getL_6, getL_7, getL_8, getL_9, getL_10, getL_11, getL_12, condV_t, condV_f, guardV_tt, guardV_ff, guardV_tf, guardV_ft, guardV_u, apick_t, apick_f, exV_exit, exV_ret, lookE_same, joinK_eq, seqA_n, seqA_e, seqA_r, e_add, e_sub, e_mul, e_eql, e_neq, e_lss, e_leq, e_gtr, e_geq, e_conv, e_not, e_neg, and_guard, or_guard]
  exact ret1 rfl
theorem ret_b (b : Bool) (s : St) : retV [.bool b] s = some (.bool b, s) := ret1 rfl
theorem badRs_asks {s0 : St} {A : Nat} (hA : s0.heap[A]? = some (.row 0 [.func (.func 116) #[] #[]] .act)) {l : List Rs} : Asks (run Tryz.prog (libL libT) hints) rsN true s0 l (.func (.func 118) #[] #[.pointer (some ⟨A, 0, none⟩)]) badRs := by
  intro r _ t u cs hx hr hs
  have hs : u = .agg cs.toArray := hs
  subst hs
  obtain ⟨o, rfl, ho, _⟩ := rs_inv hr
  have hb := lbox_cs (cs := [.bool r.1, sv r.2.1, o]) (by simp only [List.all_cons, listN_leafR ho, List.all_nil]; rfl)
  have l1 : lload false 1 (.pointer (some ⟨0, 1, none⟩)) (.agg [.bool r.1, sv r.2.1, o].toArray) = some (sv r.2.1) := rfl
  have l2 : lload false 1 (.pointer (some ⟨0, 2, none⟩)) (.agg [.bool r.1, sv r.2.1, o].toArray) = some o := rfl
  have fA : aload false 1 (.pointer (some ⟨A, 0, none⟩)) t = some (.func (.func 116) #[] #[]) := ld_cell (ext_get hA hx) (by simp) rfl
  obtain ⟨t2, g1, g2⟩ := contains_pr ho (badPr_asks (s0 := t) (l := r.2.2))
  have hcall : callV Tryz.prog (run Tryz.prog (libL libT) hints) (.func (.func 118) #[] #[.pointer (some ⟨A, 0, none⟩)]) [.agg [.bool r.1, sv r.2.1, o].toArray] t = (run Tryz.prog (libL libT) hints) 118 [.agg [.bool r.1, sv r.2.1, o].toArray, .pointer (some ⟨A, 0, none⟩)] t := call_cap (fs := []) (cs := [.pointer (some ⟨A, 0, none⟩)]) record_results_2_ok
  rw [hcall]
  have len := listN_lenR ho
  unfold badRs
  rcases Bool.eq_false_or_eq_true (decide ((r.2.1.length : Int) > 16) || decide ((r.2.2.length : Int) > 4)) with c | c
  · refine ⟨t, record_results_2_of rfl ?_, .refl _ _⟩
    unfold record_results_2
    simp only [hb, l1, l2, len_sv, len, n_bind, n_map, getL_0, getL_1, getL_2, getL_3, getL_4, getL_5, getL_6, getL_7, getL_8, getL_9, getL_10, getL_11, getL_12, condV_t, condV_f, guardV_tt, guardV_ff, guardV_tf, guardV_ft, guardV_u, apick_t, apick_f, exV_exit, exV_ret, lookE_same, joinK_eq, seqA_n, seqA_e, seqA_r, e_add, e_sub, e_mul, e_eql, e_neq, e_lss, e_leq, e_gtr, e_geq, e_conv, e_not, e_neg, and_guard, or_guard, c, ret_b, Bool.true_or]
  · refine ⟨t2, record_results_2_of rfl ?_, g2⟩
    unfold record_results_2
    simp only [hb, l1, l2, len_sv, len, n_bind, n_map, getL_0, getL_1, getL_2, getL_3, getL_4, getL_5, getL_6, getL_7, getL_8, getL_9, getL_10, getL_11, getL_12, condV_t, condV_f, guardV_tt, guardV_ff, guardV_tf, guardV_ft, guardV_u, apick_t, apick_f, exV_exit, exV_ret, lookE_same, joinK_eq, seqA_n, seqA_e, seqA_r, e_add, e_sub, e_mul, e_eql, e_neq, e_lss, e_leq, e_gtr, e_geq, e_conv, e_not, e_neg, and_guard, or_guard, c, fA, slices_ContainsFunc_api_Pair_api_Pair_call, g1, ret_b, Bool.false_or]
theorem results_run {s : St} {v : Value} {l : List Rs} (h : ListN rsN 48 l s v) : ∃ t, (run Tryz.prog (libL libT) hints) 62 [v] s = some (.bool (resOk l), t) ∧ Ext s.heap.length s t := by
  have hnw : anew [.nilFunc] s = some (.pointer (some ⟨s.heap.length, 0, none⟩), s.push (.row 0 [.nilFunc] .act)) := rfl
  have hst : astore 1 (.pointer (some ⟨s.heap.length, 0, none⟩)) (.func (.func 116) #[] #[]) (s.push (.row 0 [.nilFunc] .act)) = some (s.push (.row 0 [.func (.func 116) #[] #[]] .act)) := by
    have h1 := st_cell (s := s.push (.row 0 [.nilFunc] .act)) (B := s.heap.length) (v := .func (.func 116) #[] #[]) push_get (i := 0) (by simp) rfl rfl
    rw [h1]
    simp [St.push, St.putB]
  have hx : Ext s.heap.length s (s.push (.row 0 [.func (.func 116) #[] #[]] .act)) := .push _ (Nat.le_refl _) _
  have hA : (s.push (.row 0 [.func (.func 116) #[] #[]] .act)).heap[s.heap.length]? = some (.row 0 [.func (.func 116) #[] #[]] .act) := push_get
  generalize s.push (.row 0 [.func (.func 116) #[] #[]] .act) = s1 at *
  obtain ⟨t, g1, g2⟩ := contains_rs (h.ext hx) (badRs_asks hA)
  have hmk : amkFunc 118 [] [.pointer (some ⟨s.heap.length, 0, none⟩)] = some (.func (.func 118) #[] #[.pointer (some ⟨s.heap.length, 0, none⟩)]) := rfl
  have len := listN_lenR h
  unfold resOk
  rcases Bool.eq_false_or_eq_true (decide ((l.length : Int) ≤ 4)) with c | c
  · refine ⟨t, record_results_of rfl ?_, hx.trans (g2.less hx.1)⟩
    unfold record_results
    simp only [hnw, hst, len, n_bind, n_map, getL_0, getL_1, getL_2, getL_3, getL_4, getL_5, getL_6, getL_7, getL_8, getL_9, getL_10, getL_11, getL_12, condV_t, condV_f, guardV_tt, guardV_ff, guardV_tf, guardV_ft, guardV_u, apick_t, apick_f, exV_exit, exV_ret, lookE_same, joinK_eq, seqA_n, seqA_e, seqA_r, e_add, e_sub, e_mul, e_eql, e_neq, e_lss, e_leq, e_gtr, e_geq, e_conv, e_not, e_neg, and_guard, or_guard, c, hmk, slices_ContainsFunc_api_Result_api_Result_call, g1, ret_b, Bool.true_and]
  · refine ⟨s1, record_results_of rfl ?_, hx⟩
    unfold record_results
    simp only [hnw, hst, len, n_bind, n_map, getL_0, getL_1, getL_2, getL_3, getL_4, getL_5, getL_6, getL_7, getL_8, getL_9, getL_10, getL_11, getL_12, condV_t, condV_f, guardV_tt, guardV_ff, guardV_tf, guardV_ft, guardV_u, apick_t, apick_f, exV_exit, exV_ret, lookE_same, joinK_eq, seqA_n, seqA_e, seqA_r, e_add, e_sub, e_mul, e_eql, e_neq, e_lss, e_leq, e_gtr, e_geq, e_conv, e_not, e_neg, and_guard, or_guard, c, ret_b, Bool.false_and]
theorem client_run (n : Int) (s : St) : (run Tryz.prog (libL libT) hints) 56 [.int .i64 n] s = some (.bool (cliOk n), s) := by
  refine record_client_of rfl ?_
  unfold record_client cliOk
  simp only [n_bind, n_map, getL_0, getL_1, getL_2, getL_3, getL_4, getL_5, getL_6, getL_7, getL_8, getL_9, getL_10, getL_11, getL_12, condV_t, condV_f, guardV_tt, guardV_ff, guardV_tf, guardV_ft, guardV_u, apick_t, apick_f, exV_exit, exV_ret, lookE_same, joinK_eq, seqA_n, seqA_e, seqA_r, e_add, e_sub, e_mul, e_eql, e_neq, e_lss, e_leq, e_gtr, e_geq, e_conv, e_not, e_neg, and_guard, or_guard, ret_b]
def badLa (a : La) : Bool := !(cliOk a.1) || !(resOk a.2.2.2)
theorem badLa_asks {s0 : St} {l : List La} : Asks (run Tryz.prog (libL libT) hints) laN true s0 l (.func (.func 61) #[] #[]) badLa := by
  intro a _ t u cs hx hr hs
  have hs : u = .agg cs.toArray := hs
  subst hs
  obtain ⟨o, rfl, ho, _⟩ := la_inv hr
  have hb := lbox_cs (cs := [.int .i64 a.1, .int .u64 a.2.1, .int .u64 a.2.2.1, o]) (by simp only [List.all_cons, listN_leafR ho, List.all_nil]; rfl)
  have l0 : lload false 1 lptr (.agg [.int .i64 a.1, .int .u64 a.2.1, .int .u64 a.2.2.1, o].toArray) = some (.int .i64 a.1) := rfl
  have l3 : lload false 1 (.pointer (some ⟨0, 3, none⟩)) (.agg [.int .i64 a.1, .int .u64 a.2.1, .int .u64 a.2.2.1, o].toArray) = some o := rfl
  obtain ⟨t2, g1, g2⟩ := results_run ho
  rw [record_CheckCoord_4_call]
  unfold badLa
  rcases Bool.eq_false_or_eq_true (cliOk a.1) with c | c
  · refine ⟨t2, record_CheckCoord_4_of rfl ?_, g2⟩
    unfold record_CheckCoord_4
    simp only [hb, l0, l3, record_client_call, client_run, c, record_results_call, g1, n_bind, n_map, getL_0, getL_1, getL_2, getL_3, getL_4, getL_5, getL_6, getL_7, getL_8, getL_9, getL_10, getL_11, getL_12, condV_t, condV_f, guardV_tt, guardV_ff, guardV_tf, guardV_ft, guardV_u, apick_t, apick_f, exV_exit, exV_ret, lookE_same, joinK_eq, seqA_n, seqA_e, seqA_r, e_add, e_sub, e_mul, e_eql, e_neq, e_lss, e_leq, e_gtr, e_geq, e_conv, e_not, e_neg, and_guard, or_guard, ret_b, Bool.not_true, Bool.false_or]
  · refine ⟨t, record_CheckCoord_4_of rfl ?_, .refl _ _⟩
    unfold record_CheckCoord_4
    simp only [hb, l0, l3, record_client_call, client_run, c, n_bind, n_map, getL_0, getL_1, getL_2, getL_3, getL_4, getL_5, getL_6, getL_7, getL_8, getL_9, getL_10, getL_11, getL_12, condV_t, condV_f, guardV_tt, guardV_ff, guardV_tf, guardV_ft, guardV_u, apick_t, apick_f, exV_exit, exV_ret, lookE_same, joinK_eq, seqA_n, seqA_e, seqA_r, e_add, e_sub, e_mul, e_eql, e_neq, e_lss, e_leq, e_gtr, e_geq, e_conv, e_not, e_neg, and_guard, or_guard, ret_b, Bool.not_false, Bool.true_or]

end Go.Proofs.YtckpcelchhmjcaaGreat.Ab

/- Which state of the coordinator may be: the whole of it. -/
namespace Go.Proofs.YtckpcelchhmjcaaGreat.Ab
open Go

theorem contains_ow {s : St} {v fv : Value} {l : List Ow} {p : Ow → Bool} (h : ListN (.ofC owC fun _ => True) 24 l s v) (hp : Asks (run Tryz.prog (libL libT) hints) (.ofC owC fun _ => True) true s l fv p) : ∃ t, (run Tryz.prog (libL libT) hints) 52 [v, fv] s = some (.bool (l.any p), t) ∧ Ext s.heap.length s t := by
  have hl : l.length < 140737488355328 := by
    have h1 : l.length * 24 ≤ 140737488351232 := h.1
    omega
  obtain ⟨k, t, h1, h2, h3⟩ := contains_gen (t1 := 54) (n := 2) rfl (.inl rfl) h hl hp
  refine ⟨t, slices_ContainsFunc_api_Owner_api_Owner_of rfl ?_, h3⟩
  have h4 := slices_IndexFunc_api_Owner_api_Owner_of (lib := libL libT) rfl h1
  unfold slices_ContainsFunc_api_Owner_api_Owner
  simp only [slices_IndexFunc_api_Owner_api_Owner_call, h4, h2, n_bind, n_map, getL_0, getL_1, getL_2, getL_3, getL_4, getL_5, getL_6, getL_7, getL_8, getL_9, getL_10, getL_11, getL_12, condV_t, condV_f, guardV_tt, guardV_ff, guardV_tf, guardV_ft, guardV_u, apick_t, apick_f, exV_exit, exV_ret, lookE_same, joinK_eq, seqA_n, seqA_e, seqA_r, e_add, e_sub, e_mul, e_eql, e_neq, e_lss, e_leq, e_gtr, e_geq, e_conv, e_not, e_neg, and_guard, or_guard]
  exact ret1 rfl
theorem contains_i {s : St} {v fv : Value} {l : List Int} {p : Int → Bool} (h : ListN (wfN .i64) 8 l s v) (hp : Asks (run Tryz.prog (libL libT) hints) (wfN .i64) false s l fv p) : ∃ t, (run Tryz.prog (libL libT) hints) 57 [v, fv] s = some (.bool (l.any p), t) ∧ Ext s.heap.length s t := by
  have hl : l.length < 140737488355328 := by
    have h1 : l.length * 8 ≤ 140737488351232 := h.1
    omega
  obtain ⟨k, t, h1, h2, h3⟩ := contains_gen (t1 := 3) (n := 1) rfl (.inr rfl) h hl hp
  refine ⟨t, slices_ContainsFunc_int_int_of rfl ?_, h3⟩
  have h4 := slices_IndexFunc_int_int_of (lib := libL libT) rfl h1
  unfold slices_ContainsFunc_int_int
  simp only [slices_IndexFunc_int_int_call, h4, h2, n_bind, n_map, getL_0, getL_1, getL_2, getL_3, getL_4, getL_5, getL_6, getL_7, getL_8, getL_9, getL_10, getL_11, getL_12, condV_t, condV_f, guardV_tt, guardV_ff, guardV_tf, guardV_ft, guardV_u, apick_t, apick_f, exV_exit, exV_ret, lookE_same, joinK_eq, seqA_n, seqA_e, seqA_r, e_add, e_sub, e_mul, e_eql, e_neq, e_lss, e_leq, e_gtr, e_geq, e_conv, e_not, e_neg, and_guard, or_guard]
  exact ret1 rfl
theorem contains_de {s : St} {v fv : Value} {l : List De} {p : De → Bool} (h : ListN deN 56 l s v) (hp : Asks (run Tryz.prog (libL libT) hints) deN true s l fv p) : ∃ t, (run Tryz.prog (libL libT) hints) 54 [v, fv] s = some (.bool (l.any p), t) ∧ Ext s.heap.length s t := by
  have hl : l.length < 140737488355328 := by
    have h1 : l.length * 56 ≤ 140737488351232 := h.1
    omega
  obtain ⟨k, t, h1, h2, h3⟩ := contains_gen (t1 := 77) (n := 5) rfl (.inl rfl) h hl hp
  refine ⟨t, slices_ContainsFunc_api_Decision_api_Decision_of rfl ?_, h3⟩
  have h4 := slices_IndexFunc_api_Decision_api_Decision_of (lib := libL libT) rfl h1
  unfold slices_ContainsFunc_api_Decision_api_Decision
  simp only [slices_IndexFunc_api_Decision_api_Decision_call, h4, h2, n_bind, n_map, getL_0, getL_1, getL_2, getL_3, getL_4, getL_5, getL_6, getL_7, getL_8, getL_9, getL_10, getL_11, getL_12, condV_t, condV_f, guardV_tt, guardV_ff, guardV_tf, guardV_ft, guardV_u, apick_t, apick_f, exV_exit, exV_ret, lookE_same, joinK_eq, seqA_n, seqA_e, seqA_r, e_add, e_sub, e_mul, e_eql, e_neq, e_lss, e_leq, e_gtr, e_geq, e_conv, e_not, e_neg, and_guard, or_guard]
  exact ret1 rfl
theorem contains_la {s : St} {v fv : Value} {l : List La} {p : La → Bool} (h : ListN laN 48 l s v) (hp : Asks (run Tryz.prog (libL libT) hints) laN true s l fv p) : ∃ t, (run Tryz.prog (libL libT) hints) 60 [v, fv] s = some (.bool (l.any p), t) ∧ Ext s.heap.length s t := by
  have hl : l.length < 140737488355328 := by
    have h1 : l.length * 48 ≤ 140737488351232 := h.1
    omega
  obtain ⟨k, t, h1, h2, h3⟩ := contains_gen (t1 := 82) (n := 4) rfl (.inl rfl) h hl hp
  refine ⟨t, slices_ContainsFunc_api_Last_api_Last_of rfl ?_, h3⟩
  have h4 := slices_IndexFunc_api_Last_api_Last_of (lib := libL libT) rfl h1
  unfold slices_ContainsFunc_api_Last_api_Last
  simp only [slices_IndexFunc_api_Last_api_Last_call, h4, h2, n_bind, n_map, getL_0, getL_1, getL_2, getL_3, getL_4, getL_5, getL_6, getL_7, getL_8, getL_9, getL_10, getL_11, getL_12, condV_t, condV_f, guardV_tt, guardV_ff, guardV_tf, guardV_ft, guardV_u, apick_t, apick_f, exV_exit, exV_ret, lookE_same, joinK_eq, seqA_n, seqA_e, seqA_r, e_add, e_sub, e_mul, e_eql, e_neq, e_lss, e_leq, e_gtr, e_geq, e_conv, e_not, e_neg, and_guard, or_guard]
  exact ret1 rfl

theorem rises_de {s : St} {v : Value} {l : List De} (h : ListN deN 56 l s v) : (run Tryz.prog (libL libT) hints) 63 [v, .func (.func 64) #[] #[]] s = some (.bool (risesK (fun d : De => d.1) none l), s) := by
  have hl : l.length < 140737488355328 := by
    have h1 : l.length * 56 ≤ 140737488351232 := h.1
    omega
  refine record_rising_api_Decision_of rfl (rises_gen (t1 := 77) (n := 5) (ag := true) rfl (.inl rfl) h hl ?_)
  intro a _ u cs hr hs t
  have hs : u = .agg cs.toArray := hs
  subst hs
  obtain ⟨o, rfl, ho, _⟩ := de_inv hr
  rw [record_CheckCoord_5_call]
  refine record_CheckCoord_5_of rfl ?_
  have hb := lbox_cs (cs := [.int .u64 a.1, .int .i64 a.2.1, .int .u64 a.2.2.1, .int .u64 a.2.2.2.1, o]) (by simp only [List.all_cons, listN_leafR ho, List.all_nil]; rfl)
  have l0 : lload false 1 lptr (.agg [.int .u64 a.1, .int .i64 a.2.1, .int .u64 a.2.2.1, .int .u64 a.2.2.2.1, o].toArray) = some (.int .u64 a.1) := rfl
  unfold record_CheckCoord_5
  simp only [hb, l0, n_bind, n_map, getL_0, getL_1, getL_2, getL_3, getL_4, getL_5, getL_6, getL_7, getL_8, getL_9, getL_10, getL_11, getL_12, condV_t, condV_f, guardV_tt, guardV_ff, guardV_tf, guardV_ft, guardV_u, apick_t, apick_f, exV_exit, exV_ret, lookE_same, joinK_eq, seqA_n, seqA_e, seqA_r, e_add, e_sub, e_mul, e_eql, e_neq, e_lss, e_leq, e_gtr, e_geq, e_conv, e_not, e_neg, and_guard, or_guard]
  exact ret1 rfl
theorem rises_la {s : St} {v : Value} {l : List La} (h : ListN laN 48 l s v) : (run Tryz.prog (libL libT) hints) 65 [v, .func (.func 66) #[] #[]] s = some (.bool (risesK (fun a : La => IntKind.wrap .u64 a.1) none l), s) := by
  have hl : l.length < 140737488355328 := by
    have h1 : l.length * 48 ≤ 140737488351232 := h.1
    omega
  refine record_rising_api_Last_of rfl (rises_gen (t1 := 82) (n := 4) (ag := true) rfl (.inl rfl) h hl ?_)
  intro a _ u cs hr hs t
  have hs : u = .agg cs.toArray := hs
  subst hs
  obtain ⟨o, rfl, ho, _⟩ := la_inv hr
  rw [record_CheckCoord_6_call]
  refine record_CheckCoord_6_of rfl ?_
  have hb := lbox_cs (cs := [.int .i64 a.1, .int .u64 a.2.1, .int .u64 a.2.2.1, o]) (by simp only [List.all_cons, listN_leafR ho, List.all_nil]; rfl)
  have l0 : lload false 1 lptr (.agg [.int .i64 a.1, .int .u64 a.2.1, .int .u64 a.2.2.1, o].toArray) = some (.int .i64 a.1) := rfl
  unfold record_CheckCoord_6
  simp only [hb, l0, n_bind, n_map, getL_0, getL_1, getL_2, getL_3, getL_4, getL_5, getL_6, getL_7, getL_8, getL_9, getL_10, getL_11, getL_12, condV_t, condV_f, guardV_tt, guardV_ff, guardV_tf, guardV_ft, guardV_u, apick_t, apick_f, exV_exit, exV_ret, lookE_same, joinK_eq, seqA_n, seqA_e, seqA_r, e_add, e_sub, e_mul, e_eql, e_neq, e_lss, e_leq, e_gtr, e_geq, e_conv, e_not, e_neg, and_guard, or_guard]
  exact ret1 rfl
theorem rises_i {s : St} {v : Value} {l : List Int} (h : ListN (wfN .i64) 8 l s v) : (run Tryz.prog (libL libT) hints) 58 [v, .func (.func 59) #[] #[]] s = some (.bool (risesK (fun n : Int => IntKind.wrap .u64 n) none l), s) := by
  have hl : l.length < 140737488355328 := by
    have h1 : l.length * 8 ≤ 140737488351232 := h.1
    omega
  refine record_rising_int_of rfl (rises_gen (t1 := 3) (n := 1) (ag := false) rfl (.inr rfl) h hl ?_)
  intro a _ u cs hr hs t
  have hs : cs = [u] := hs
  subst hs
  obtain ⟨e, _⟩ := hr
  obtain rfl : u = .int .i64 a := (List.cons.inj e).1
  rw [record_CheckCoord_3_1_call]
  refine record_CheckCoord_3_1_of rfl ?_
  unfold record_CheckCoord_3_1
  simp only [n_bind, n_map, getL_0, getL_1, getL_2, getL_3, getL_4, getL_5, getL_6, getL_7, getL_8, getL_9, getL_10, getL_11, getL_12, condV_t, condV_f, guardV_tt, guardV_ff, guardV_tf, guardV_ft, guardV_u, apick_t, apick_f, exV_exit, exV_ret, lookE_same, joinK_eq, seqA_n, seqA_e, seqA_r, e_add, e_sub, e_mul, e_eql, e_neq, e_lss, e_leq, e_gtr, e_geq, e_conv, e_not, e_neg, and_guard, or_guard]
  exact ret1 rfl

def aboveB (sh n : Int) : Bool := decide (n < 1) || decide (n > sh)
def limC (boot : Int) : Int := (((IntKind.wrap .u64 (boot + 1)).toNat * 2 ^ 32 % 2 ^ 64 : Nat) : Int)
def badDe (sh boot : Int) (d : De) : Bool := (((decide (d.1 ≥ limC boot) || !(cliOk d.2.1)) || ((d.2.2.2.2.length : Int) == 0)) || d.2.2.2.2.any (aboveB sh)) || !(risesK (fun n : Int => IntKind.wrap .u64 n) none d.2.2.2.2)
def aboveV (N : Nat) : Value := .func (.func 51) #[] #[.pointer (some ⟨N, 0, none⟩)]
structure CInM (c : Cd) (s : St) (N A : Nat) (ow de la : Value) : Prop where
  row : s.heap[N]? = some (.row 0 (cdCells c ow de la) .act)
  box : s.heap[A]? = some (.row 0 [aboveV N] .act)
theorem CInM.ext {c : Cd} {s t : St} {N A : Nat} {ow de la : Value} (h : CInM c s N A ow de la) (hx : Ext s.heap.length s t) : CInM c t N A ow de la := ⟨ext_get h.row hx, ext_get h.box hx⟩
section
variable {c : Cd} {s0 : St} {N A : Nat} {ow de la : Value} (hm : CInM c s0 N A ow de la)
include hm
theorem above_call {t : St} (hx : Ext s0.heap.length s0 t) (n : Int) : callV Tryz.prog (run Tryz.prog (libL libT) hints) (aboveV N) [.int .i64 n] t = some (.bool (aboveB c.shards n), t) := by
  have f0 : aload false 1 (.pointer (some ⟨N, 0, none⟩)) t = some (.int .i64 c.shards) := ld_cell (ext_get hm.row hx) (by simp) rfl
  have hcall : callV Tryz.prog (run Tryz.prog (libL libT) hints) (aboveV N) [.int .i64 n] t = (run Tryz.prog (libL libT) hints) 51 [.int .i64 n, .pointer (some ⟨N, 0, none⟩)] t := call_cap (fs := []) (cs := [.pointer (some ⟨N, 0, none⟩)]) record_CheckCoord_1_ok
  rw [hcall]
  refine record_CheckCoord_1_of rfl ?_
  unfold record_CheckCoord_1 aboveB
  simp only [ad_atR, Nat.zero_add, f0, n_bind, n_map, getL_0, getL_1, getL_2, getL_3, getL_4, getL_5, getL_6, getL_7, getL_8, getL_9, getL_10, getL_11, getL_12, condV_t, condV_f, guardV_tt, guardV_ff, guardV_tf, guardV_ft, guardV_u, apick_t, apick_f, exV_exit, exV_ret, lookE_same, joinK_eq, seqA_n, seqA_e, seqA_r, e_add, e_sub, e_mul, e_eql, e_neq, e_lss, e_leq, e_gtr, e_geq, e_conv, e_not, e_neg, and_guard, or_guard, ret_b]
theorem above_asks {l : List Int} : Asks (run Tryz.prog (libL libT) hints) (wfN .i64) false s0 l (aboveV N) (aboveB c.shards) := by
  intro a _ t u cs hx hr hs
  have hs : cs = [u] := hs
  subst hs
  obtain ⟨e, _⟩ := hr
  obtain rfl : u = .int .i64 a := (List.cons.inj e).1
  exact ⟨t, above_call hm hx a, .refl _ _⟩
theorem owned_asks {l : List Ow} : Asks (run Tryz.prog (libL libT) hints) (.ofC owC fun _ => True) true s0 l (.func (.func 53) #[] #[.pointer (some ⟨A, 0, none⟩)]) fun o => aboveB c.shards o.2 := by
  intro o _ t u cs hx hr hs
  obtain ⟨rfl, _⟩ := hr
  have hs : u = owV o := hs
  subst hs
  have fA : aload false 1 (.pointer (some ⟨A, 0, none⟩)) t = some (aboveV N) := ld_cell (ext_get hm.box hx) (by simp) rfl
  have hcall : callV Tryz.prog (run Tryz.prog (libL libT) hints) (.func (.func 53) #[] #[.pointer (some ⟨A, 0, none⟩)]) [owV o] t = (run Tryz.prog (libL libT) hints) 53 [owV o, .pointer (some ⟨A, 0, none⟩)] t := call_cap (fs := []) (cs := [.pointer (some ⟨A, 0, none⟩)]) record_CheckCoord_2_ok
  refine ⟨t, ?_, .refl _ _⟩
  rw [hcall]
  refine record_CheckCoord_2_of rfl ?_
  unfold record_CheckCoord_2
  simp only [w_box, fA, w_1, above_call hm hx, n_bind, n_map, getL_0, getL_1, getL_2, getL_3, getL_4, getL_5, getL_6, getL_7, getL_8, getL_9, getL_10, getL_11, getL_12, condV_t, condV_f, guardV_tt, guardV_ff, guardV_tf, guardV_ft, guardV_u, apick_t, apick_f, exV_exit, exV_ret, lookE_same, joinK_eq, seqA_n, seqA_e, seqA_r, e_add, e_sub, e_mul, e_eql, e_neq, e_lss, e_leq, e_gtr, e_geq, e_conv, e_not, e_neg, and_guard, or_guard, ret_b]
theorem badDe_asks (hw : (Lit.int .u64 c.boot).wf = true) {l : List De} : Asks (run Tryz.prog (libL libT) hints) deN true s0 l (.func (.func 55) #[] #[.pointer (some ⟨N, 0, none⟩), .pointer (some ⟨A, 0, none⟩)]) (badDe c.shards c.boot) := by
  intro d _ t u cs hx hr hs
  have hs : u = .agg cs.toArray := hs
  subst hs
  obtain ⟨o, rfl, ho, _⟩ := de_inv hr
  generalize hu : (Value.agg [.int .u64 d.1, .int .i64 d.2.1, .int .u64 d.2.2.1, .int .u64 d.2.2.2.1, o].toArray) = u
  have hb : lbox u = some u := by
    rw [← hu]
    exact lbox_cs (cs := [.int .u64 d.1, .int .i64 d.2.1, .int .u64 d.2.2.1, .int .u64 d.2.2.2.1, o]) (by simp only [List.all_cons, listN_leafR ho, List.all_nil]; rfl)
  have l0 : lload false 1 lptr u = some (.int .u64 d.1) := by rw [← hu]; rfl
  have l1 : lload false 1 (.pointer (some ⟨0, 1, none⟩)) u = some (.int .i64 d.2.1) := by rw [← hu]; rfl
  have l4 : lload false 1 (.pointer (some ⟨0, 4, none⟩)) u = some o := by rw [← hu]; rfl
  have f1 : aload false 1 (.pointer (some ⟨N, 1, none⟩)) t = some (.int .u64 c.boot) := ld_cell (ext_get hm.row hx) (by simp) rfl
  have fA : aload false 1 (.pointer (some ⟨A, 0, none⟩)) t = some (aboveV N) := ld_cell (ext_get hm.box hx) (by simp) rfl
  have hshl : ∀ ty ox oy, abin Tryz.prog .shl ty ox oy (.int .u64 (IntKind.wrap .u64 (c.boot + 1))) (.int .u64 32) = some (.int .u64 (limC c.boot)) := fun ty ox oy => by
    have h0 : 0 ≤ IntKind.wrap .u64 (c.boot + 1) := by
      simp only [IntKind.wrap, IntKind.signed, IntKind.bits]
      simp
      omega
    have h1 := u_shl (P := Tryz.prog) (k := .u64) (k2 := .u64) (t := ty) (ox := ox) (oy := oy) (a := (IntKind.wrap .u64 (c.boot + 1)).toNat) (b := 32) rfl
    rw [Int.toNat_of_nonneg h0] at h1
    exact h1
  have len := listN_lenR ho
  obtain ⟨t2, g1, g2⟩ := contains_i ho (above_asks (s0 := t) (hm.ext hx) (l := d.2.2.2.2))
  have hri := rises_i (ho.ext g2)
  have hcall : callV Tryz.prog (run Tryz.prog (libL libT) hints) (.func (.func 55) #[] #[.pointer (some ⟨N, 0, none⟩), .pointer (some ⟨A, 0, none⟩)]) [u] t = (run Tryz.prog (libL libT) hints) 55 [u, .pointer (some ⟨N, 0, none⟩), .pointer (some ⟨A, 0, none⟩)] t := call_cap (fs := []) (cs := [.pointer (some ⟨N, 0, none⟩), .pointer (some ⟨A, 0, none⟩)]) record_CheckCoord_3_ok
  rw [hcall]
  unfold badDe
  rcases Bool.eq_false_or_eq_true ((decide (d.1 ≥ limC c.boot) || !(cliOk d.2.1)) || ((d.2.2.2.2.length : Int) == 0)) with k | k
  · refine ⟨t, record_CheckCoord_3_of rfl ?_, .refl _ _⟩
    unfold record_CheckCoord_3
    simp only [hb, l0, ad_atR, Nat.zero_add, f1, hshl, l1, record_client_call, client_run, l4, len, n_bind, n_map, getL_0, getL_1, getL_2, getL_3, getL_4, getL_5, getL_6, getL_7, getL_8, getL_9, getL_10, getL_11, getL_12, condV_t, condV_f, guardV_tt, guardV_ff, guardV_tf, guardV_ft, guardV_u, apick_t, apick_f, exV_exit, exV_ret, lookE_same, joinK_eq, seqA_n, seqA_e, seqA_r, e_add, e_sub, e_mul, e_eql, e_neq, e_lss, e_leq, e_gtr, e_geq, e_conv, e_not, e_neg, and_guard, or_guard, k, ret_b, Bool.true_or]
  · rcases Bool.eq_false_or_eq_true (d.2.2.2.2.any (aboveB c.shards)) with k2 | k2
    · refine ⟨t2, record_CheckCoord_3_of rfl ?_, g2⟩
      unfold record_CheckCoord_3
      simp only [hb, l0, ad_atR, Nat.zero_add, f1, hshl, l1, record_client_call, client_run, l4, len, n_bind, n_map, getL_0, getL_1, getL_2, getL_3, getL_4, getL_5, getL_6, getL_7, getL_8, getL_9, getL_10, getL_11, getL_12, condV_t, condV_f, guardV_tt, guardV_ff, guardV_tf, guardV_ft, guardV_u, apick_t, apick_f, exV_exit, exV_ret, lookE_same, joinK_eq, seqA_n, seqA_e, seqA_r, e_add, e_sub, e_mul, e_eql, e_neq, e_lss, e_leq, e_gtr, e_geq, e_conv, e_not, e_neg, and_guard, or_guard, k, fA, slices_ContainsFunc_int_int_call, g1, k2, ret_b, Bool.true_or, Bool.or_true]
    · refine ⟨t2, record_CheckCoord_3_of rfl ?_, g2⟩
      unfold record_CheckCoord_3
      simp only [hb, l0, ad_atR, Nat.zero_add, f1, hshl, l1, record_client_call, client_run, l4, len, n_bind, n_map, getL_0, getL_1, getL_2, getL_3, getL_4, getL_5, getL_6, getL_7, getL_8, getL_9, getL_10, getL_11, getL_12, condV_t, condV_f, guardV_tt, guardV_ff, guardV_tf, guardV_ft, guardV_u, apick_t, apick_f, exV_exit, exV_ret, lookE_same, joinK_eq, seqA_n, seqA_e, seqA_r, e_add, e_sub, e_mul, e_eql, e_neq, e_lss, e_leq, e_gtr, e_geq, e_conv, e_not, e_neg, and_guard, or_guard, k, fA, slices_ContainsFunc_int_int_call, g1, k2, record_rising_int_call, hri, ret_b, Bool.false_or, Bool.or_self]
end

def bad1C (c : Cd) : Bool := ((((decide (c.shards < 1) || decide (c.shards > 4)) || decide (c.boot ≥ 2147483648)) || (eO c.owners != 0)) || decide ((c.decided.length : Int) > 8)) || decide ((c.last.length : Int) > 4)
def good2C (c : Cd) : Bool := (((!(c.owners.any fun o => aboveB c.shards o.2) && !(c.decided.any (badDe c.shards c.boot))) && !(c.last.any badLa)) && risesK (fun d : De => d.1) none c.decided) && risesK (fun a : La => IntKind.wrap .u64 a.1) none c.last
def eCd (c : Cd) : Int := if bad1C c = true then 1 else if good2C c = true then 0 else 1
theorem CheckCoord_run {d : Cd} {s : St} {v : Value} (h : NArg cdN d s v) : ∃ t, (run Tryz.prog (libL libT) hints) 13 [v] s = some (.int .i64 (eCd d), t) ∧ Ext s.heap.length s t := by
  obtain ⟨cs, rfl, h⟩ := h
  obtain ⟨ow, de, la, rfl, hs⟩ := cd_inv h
  have hnw := anew_cells (cd_leaf hs) s
  have hx1 : Ext s.heap.length s (s.push (.row 0 (cdCells d ow de la) .act)) := .push _ (Nat.le_refl _) _
  have hg : (s.push (.row 0 (cdCells d ow de la) .act)).heap[s.heap.length]? = some (.row 0 (cdCells d ow de la) .act) := push_get
  have hs1 := hs.ext hx1
  have hlen1 : (s.push (.row 0 (cdCells d ow de la) .act)).heap.length = s.heap.length + 1 := push_len
  generalize hS : s.push (.row 0 (cdCells d ow de la) .act) = s1 at *
  generalize hN : s.heap.length = N at *
  have r0 : Ext s1.heap.length s1 s1 := .refl _ _
  have f0 : aload false 1 (.pointer (some ⟨N, 0, none⟩)) s1 = some (.int .i64 d.shards) := ld_cell hg (by simp) rfl
  have f1 : aload false 1 (.pointer (some ⟨N, 1, none⟩)) s1 = some (.int .u64 d.boot) := ld_cell hg (by simp) rfl
  have f4 : aload false 1 (.pointer (some ⟨N, 4, none⟩)) s1 = some ow := ld_cell hg (by simp) rfl
  have f5 : aload false 1 (.pointer (some ⟨N, 5, none⟩)) s1 = some de := ld_cell hg (by simp) rfl
  have f6 : aload false 1 (.pointer (some ⟨N, 6, none⟩)) s1 = some la := ld_cell hg (by simp) rfl
  obtain ⟨p1, _, p2⟩ := hs1.ow.plain
  have hol : d.owners.length < 140737488355328 := by omega
  have kO := k_chkO p1 hol
  have ld := listN_lenR hs1.de
  have ll := listN_lenR hs1.la
  -- the box
  have hnw2 : anew [.nilFunc] s1 = some (.pointer (some ⟨s1.heap.length, 0, none⟩), s1.push (.row 0 [.nilFunc] .act)) := rfl
  have hst : astore 1 (.pointer (some ⟨s1.heap.length, 0, none⟩)) (aboveV N) (s1.push (.row 0 [.nilFunc] .act)) = some (s1.push (.row 0 [aboveV N] .act)) := by
    have h1 := st_cell (s := s1.push (.row 0 [.nilFunc] .act)) (B := s1.heap.length) (v := aboveV N) push_get (i := 0) (by simp) rfl rfl
    rw [h1]
    simp [St.push, St.putB]
  have hx2 : Ext s1.heap.length s1 (s1.push (.row 0 [aboveV N] .act)) := .push _ (Nat.le_refl _) _
  have hA : (s1.push (.row 0 [aboveV N] .act)).heap[s1.heap.length]? = some (.row 0 [aboveV N] .act) := push_get
  have hs2 := hs1.ext hx2
  have hg2 := ext_get hg hx2
  generalize hS2 : s1.push (.row 0 [aboveV N] .act) = s2 at *
  generalize hAA : s1.heap.length = A at *
  have hm : CInM d s2 N A ow de la := ⟨hg2, hA⟩
  obtain ⟨t1, g1, x1⟩ := contains_ow hs2.ow (owned_asks hm)
  have hm1 := hm.ext x1
  have hs3 := hs2.ext x1
  obtain ⟨t2, g2, x2⟩ := contains_de hs3.de (badDe_asks hm1 hs.wboot)
  have hm2 := hm1.ext x2
  have hs4 := hs3.ext x2
  obtain ⟨t3, g3, x3⟩ := contains_la hs4.la (badLa_asks (s0 := t2) (l := d.last))
  have hm3 := hm2.ext x3
  have hs5 := hs4.ext x3
  have j4 : aload false 1 (.pointer (some ⟨N, 4, none⟩)) s2 = some ow := ld_cell hm.row (by simp) rfl
  have j5 : aload false 1 (.pointer (some ⟨N, 5, none⟩)) t1 = some de := ld_cell hm1.row (by simp) rfl
  have j6 : aload false 1 (.pointer (some ⟨N, 6, none⟩)) t2 = some la := ld_cell hm2.row (by simp) rfl
  have m5 : aload false 1 (.pointer (some ⟨N, 5, none⟩)) t3 = some de := ld_cell hm3.row (by simp) rfl
  have m6 : aload false 1 (.pointer (some ⟨N, 6, none⟩)) t3 = some la := ld_cell hm3.row (by simp) rfl
  have rd := rises_de hs5.de
  have rl := rises_la hs5.la
  have hmk1 : amkFunc 51 [] [.pointer (some ⟨N, 0, none⟩)] = some (aboveV N) := rfl
  have hmk2 : amkFunc 53 [] [.pointer (some ⟨A, 0, none⟩)] = some (.func (.func 53) #[] #[.pointer (some ⟨A, 0, none⟩)]) := rfl
  have hmk3 : amkFunc 55 [] [.pointer (some ⟨N, 0, none⟩), .pointer (some ⟨A, 0, none⟩)] = some (.func (.func 55) #[] #[.pointer (some ⟨N, 0, none⟩), .pointer (some ⟨A, 0, none⟩)]) := rfl
  have hr : ∀ n s, retV [.int .i64 n] s = some (.int .i64 n, s) := fun n s => ret1 rfl
  have hX : Ext N s t3 := by
    have e2 : Ext N s1 s2 := hx2.less (by omega)
    have e3 : Ext N s2 t1 := x1.less (by have := hx2.1; omega)
    have e4 : Ext N t1 t2 := x2.less (by have := hx2.1; have := x1.1; omega)
    have e5 : Ext N t2 t3 := x3.less (by have := hx2.1; have := x1.1; have := x2.1; omega)
    exact hx1.trans (e2.trans (e3.trans (e4.trans e5)))
  have hbad : bad1C d = (((((decide (d.shards < 1) || decide (d.shards > 4)) || decide (d.boot ≥ 2147483648)) || (eO d.owners != 0)) || decide ((d.decided.length : Int) > 8)) || decide ((d.last.length : Int) > 4)) := rfl
  unfold eCd
  rcases Bool.eq_false_or_eq_true (bad1C d) with c | c
  · refine ⟨s1, record_CheckCoord_of rfl ?_, hx1⟩
    rw [if_pos c]
    rw [hbad] at c
    unfold record_CheckCoord
    simp only [hnw, ad_atR, Nat.zero_add, Nat.reduceAdd, f0, f1, f4, f5, f6, owner_Check_call, kO, ld, ll, n_bind, n_map, getL_0, getL_1, getL_2, getL_3, getL_4, getL_5, getL_6, getL_7, getL_8, getL_9, getL_10, getL_11, getL_12, condV_t, condV_f, guardV_tt, guardV_ff, guardV_tf, guardV_ft, guardV_u, apick_t, apick_f, exV_exit, exV_ret, lookE_same, joinK_eq, seqA_n, seqA_e, seqA_r, e_add, e_sub, e_mul, e_eql, e_neq, e_lss, e_leq, e_gtr, e_geq, e_conv, e_not, e_neg, and_guard, or_guard, c, hr]
  · have hc : ¬ bad1C d = true := by rw [c]; simp
    rw [if_neg hc]
    rw [hbad] at c
    refine ⟨t3, record_CheckCoord_of rfl ?_, hX⟩
    unfold good2C
    rcases Bool.eq_false_or_eq_true (d.owners.any fun o => aboveB d.shards o.2) with c1 | c1 <;>
    rcases Bool.eq_false_or_eq_true (d.decided.any (badDe d.shards d.boot)) with c2 | c2 <;>
    rcases Bool.eq_false_or_eq_true (d.last.any badLa) with c3 | c3 <;>
    rcases Bool.eq_false_or_eq_true (risesK (fun d : De => d.1) none d.decided) with c4 | c4 <;>
    (unfold record_CheckCoord
     simp only [hnw, ad_atR, Nat.zero_add, Nat.reduceAdd, f0, f1, f4, f5, f6, owner_Check_call, kO, ld, ll, n_bind, n_map, getL_0, getL_1, getL_2, getL_3, getL_4, getL_5, getL_6, getL_7, getL_8, getL_9, getL_10, getL_11, getL_12, condV_t, condV_f, guardV_tt, guardV_ff, guardV_tf, guardV_ft, guardV_u, apick_t, apick_f, exV_exit, exV_ret, lookE_same, joinK_eq, seqA_n, seqA_e, seqA_r, e_add, e_sub, e_mul, e_eql, e_neq, e_lss, e_leq, e_gtr, e_geq, e_conv, e_not, e_neg, and_guard, or_guard, c, hmk1, hnw2, hst, j4, hmk2, slices_ContainsFunc_api_Owner_api_Owner_call, g1, j5, hmk3, slices_ContainsFunc_api_Decision_api_Decision_call, g2, j6, slices_ContainsFunc_api_Last_api_Last_call, g3, c1, c2, c3, Bool.not_true, Bool.not_false, m5, record_rising_api_Decision_call, rd, c4, m6, record_rising_api_Last_call, rl, record_want_call, want_run, hr, Bool.and_false, Bool.false_and, Bool.and_self, Bool.true_and, Bool.and_true, Bool.false_eq_true, if_false])

end Go.Proofs.YtckpcelchhmjcaaGreat.Ab

/- States are read: numbers, pairs, owners, results. -/
namespace Go.Proofs.YtckpcelchhmjcaaGreat.Ab
open Go

theorem reads_call {α : Type} {N : Nat} {f : FuncId} {ag : Bool} {O : OCod α} {p : Par α} (h : Reads N (fun s => (run Tryz.prog (libL libT) hints) f [rp N] s) ag O p) (hf : funcOk Tryz.prog f = true) : Reads N (fun s => callV Tryz.prog (run Tryz.prog (libL libT) hints) (.func (.func f) #[rp N] #[]) [] s) ag O p :=
  h.run fun s r hr => (call_cap (fs := [rp N]) (cs := []) (xs := []) hf).trans hr
abbrev oU : OCod Int := .ofC (intC .u64) fun i => (Lit.int .u64 i).wf = true
abbrev oI : OCod Int := .ofC (intC .i64) fun i => (Lit.int .i64 i).wf = true
abbrev oPr : OCod Rg := .ofC prC fun _ => True
abbrev oOw : OCod Ow := .ofC owC fun _ => True
def pU : Par Int := pNumR.map fun n => (n : Int)
def pI : Par Int := pIntR.map fun n => (n : Int)
def pTx : Par BL := pText 255
def pPr : Par Rg := pTx.bind fun k => pTx.bind fun v => .pure (k, v)
def pOw : Par Ow := pTx.bind fun k => pI.bind fun n => .pure (k, n)
theorem u_reads {N : Nat} : Reads N (fun s => (run Tryz.prog (libL libT) hints) 77 [rp N] s) false oU pU := by
  intro s x hx
  obtain ⟨a, u1, c1, s1, y1, f1, f2, f3, f4, f5, f6⟩ := num_runR s x hx
  obtain ⟨rfl, h⟩ := nat_valR f5 f4
  exact ⟨(a : Int), _, _, s1, y1, f1, f2, f3, rfl, ⟨rfl, by simp [Lit.wf, IntKind.signed, IntKind.bits, IntKind.min, IntKind.max]; omega⟩, f6.map⟩
theorem i_reads {N : Nat} : Reads N (fun s => (run Tryz.prog (libL libT) hints) 70 [rp N] s) false oI pI := by
  intro s x hx
  obtain ⟨a, u1, c1, s1, y1, f1, f2, f3, f4, f5, f6⟩ := int_runR s x hx
  obtain ⟨rfl, h⟩ := nat_valR f5 f4
  exact ⟨(a : Int), _, _, s1, y1, f1, f2, f3, rfl, ⟨rfl, by simp [Lit.wf, IntKind.signed, IntKind.bits, IntKind.min, IntKind.max]; omega⟩, f6.map⟩
theorem str_valR {lo hi : Nat} {a : BL} {s : St} {u : Value} {cs : List Value} (h : oStr.own lo hi a s cs) (g : Shape false u cs) : u = sv a ∧ a.length ≤ reachBytes := by
  obtain ⟨h1, h2⟩ := h
  have g : cs = [u] := g
  rw [g] at h1
  exact ⟨(List.cons.inj h1).1, h2⟩
theorem int_valR {k : IntKind} {lo hi : Nat} {a : Int} {s : St} {u : Value} {cs : List Value} (h : (OCod.ofC (intC k) fun i => (Lit.int k i).wf = true).own lo hi a s cs) (g : Shape false u cs) : u = .int k a ∧ (Lit.int k a).wf = true := by
  obtain ⟨h1, h2⟩ := h
  have g : cs = [u] := g
  rw [g] at h1
  exact ⟨(List.cons.inj h1).1, h2⟩
theorem ab_prR (x y : BL) : abuild Tryz.prog 150 [(0, sv x), (1, sv y)] = some (rv (x, y)) := by kernel_rfl
theorem ab_rgR (x y : BL) : abuild Tryz.prog 27 [(0, sv x), (1, sv y)] = some (rv (x, y)) := by kernel_rfl
theorem z_rvR : (Value.agg #[(.string ⟨#[]⟩), (.string ⟨#[]⟩)]) = rv ([], []) := rfl
theorem pair_runR {N : Nat} : Reads N (fun s => (run Tryz.prog (libL libT) hints) 143 [rp N] s) true oPr pPr := by
  intro s x hx
  obtain ⟨a, u1, c1, s1, y1, f1, f2, f3, f4, f5, f6⟩ := text_runR s x hx
  obtain ⟨b, u2, c2, s2, y2, g1, g2, g3, g4, g5, g6⟩ := text_runR s1 y1 f2
  obtain ⟨rfl, _⟩ := str_valR f5 f4
  obtain ⟨rfl, _⟩ := str_valR g5 g4
  refine ⟨(a, b), rv (a, b), _, s2, y2, record_reader_pair_of rfl ?_, g2, f3.trans g3, rfl, ⟨rfl, trivial⟩, f6.bind (g6.bind .pure)⟩
  have f1 : (run Tryz.prog (libL libT) hints) 122 [rp N] s = some (sv a, s1) := f1
  have g1 : (run Tryz.prog (libL libT) hints) 122 [rp N] s1 = some (sv b, s2) := g1
  unfold record_reader_pair
  simp only [record_reader_text_call, f1, g1, ab_prR, z_rvR, st_rv, ld_rv, n_bind, n_map, getL_0, getL_1, getL_2, getL_3, getL_4, getL_5, getL_6, getL_7, getL_8, getL_9, getL_10, getL_11, getL_12, condV_t, condV_f, guardV_tt, guardV_ff, guardV_tf, guardV_ft, guardV_u, apick_t, apick_f, exV_exit, exV_ret, lookE_same, joinK_eq, seqA_n, seqA_e, seqA_r, e_add, e_sub, e_mul, e_eql, e_neq, e_lss, e_leq, e_gtr, e_geq, e_conv, e_not, e_neg, and_guard, or_guard]
  exact ret1 rfl
theorem span_runR {N : Nat} : Reads N (fun s => (run Tryz.prog (libL libT) hints) 78 [rp N] s) true oPr pPr := by
  intro s x hx
  obtain ⟨a, u1, c1, s1, y1, f1, f2, f3, f4, f5, f6⟩ := text_runR s x hx
  obtain ⟨b, u2, c2, s2, y2, g1, g2, g3, g4, g5, g6⟩ := text_runR s1 y1 f2
  obtain ⟨rfl, _⟩ := str_valR f5 f4
  obtain ⟨rfl, _⟩ := str_valR g5 g4
  refine ⟨(a, b), rv (a, b), _, s2, y2, record_reader_span_of rfl ?_, g2, f3.trans g3, rfl, ⟨rfl, trivial⟩, f6.bind (g6.bind .pure)⟩
  have f1 : (run Tryz.prog (libL libT) hints) 122 [rp N] s = some (sv a, s1) := f1
  have g1 : (run Tryz.prog (libL libT) hints) 122 [rp N] s1 = some (sv b, s2) := g1
  unfold record_reader_span
  simp only [record_reader_text_call, f1, g1, ab_rgR, z_rvR, st_rv, ld_rv, n_bind, n_map, getL_0, getL_1, getL_2, getL_3, getL_4, getL_5, getL_6, getL_7, getL_8, getL_9, getL_10, getL_11, getL_12, condV_t, condV_f, guardV_tt, guardV_ff, guardV_tf, guardV_ft, guardV_u, apick_t, apick_f, exV_exit, exV_ret, lookE_same, joinK_eq, seqA_n, seqA_e, seqA_r, e_add, e_sub, e_mul, e_eql, e_neq, e_lss, e_leq, e_gtr, e_geq, e_conv, e_not, e_neg, and_guard, or_guard]
  exact ret1 rfl
theorem ld_ow (o : Ow) : lload true 2 lptr (owV o) = some (owV o) := rfl
theorem owner_runR {N : Nat} : Reads N (fun s => (run Tryz.prog (libL libT) hints) 73 [rp N] s) true oOw pOw := by
  intro s x hx
  obtain ⟨a, u1, c1, s1, y1, f1, f2, f3, f4, f5, f6⟩ := text_runR s x hx
  obtain ⟨b, u2, c2, s2, y2, g1, g2, g3, g4, g5, g6⟩ := i_reads s1 y1 f2
  obtain ⟨rfl, _⟩ := str_valR f5 f4
  obtain ⟨rfl, _⟩ := int_valR g5 g4
  refine ⟨(a, b), owV (a, b), _, s2, y2, record_reader_owner_of rfl ?_, g2, f3.trans g3, rfl, ⟨rfl, trivial⟩, f6.bind (g6.bind .pure)⟩
  have f1 : (run Tryz.prog (libL libT) hints) 122 [rp N] s = some (sv a, s1) := f1
  have g1 : (run Tryz.prog (libL libT) hints) 70 [rp N] s1 = some (.int .i64 b, s2) := g1
  unfold record_reader_owner
  simp only [record_reader_text_call, f1, record_reader_int_call, g1, w_ab, w_z, w_st, ld_ow, n_bind, n_map, getL_0, getL_1, getL_2, getL_3, getL_4, getL_5, getL_6, getL_7, getL_8, getL_9, getL_10, getL_11, getL_12, condV_t, condV_f, guardV_tt, guardV_ff, guardV_tf, guardV_ft, guardV_u, apick_t, apick_f, exV_exit, exV_ret, lookE_same, joinK_eq, seqA_n, seqA_e, seqA_r, e_add, e_sub, e_mul, e_eql, e_neq, e_lss, e_leq, e_gtr, e_geq, e_conv, e_not, e_neg, and_guard, or_guard]
  exact ret1 rfl
set_option maxRecDepth 4000 in
theorem manyPr_eq : record_many_api_Pair.b0 = manyB 2 32 [(.string ⟨#[]⟩), (.string ⟨#[]⟩)] := rfl
abbrev mvR (f : FuncId) (N : Nat) : Value := .func (.func f) #[rp N] #[]
theorem many_pr {N : Nat} : Reads N (fun s => (run Tryz.prog (libL libT) hints) 142 [rp N, mvR 143 N] s) false (oPr.list 32) (pMany pPr) :=
  (many_reads (n := 2) (w := 32) (z := [(.string ⟨#[]⟩), (.string ⟨#[]⟩)]) (reads_call pair_runR record_reader_pair_ok) (by decide) (by decide) (by decide) rfl (by decide) (by decide) rfl rfl).run fun s r h => record_many_api_Pair_of rfl (by unfold record_many_api_Pair; simp only [record_reader_int_call]; exact h)
theorem many_ow {N : Nat} : Reads N (fun s => (run Tryz.prog (libL libT) hints) 72 [rp N, mvR 73 N] s) false (oOw.list 24) (pMany pOw) :=
  (many_reads (n := 2) (w := 24) (z := [(.string ⟨#[]⟩), (.int .i64 0)]) (reads_call owner_runR record_reader_owner_ok) (by decide) (by decide) (by decide) rfl (by decide) (by decide) rfl rfl).run fun s r h => record_many_api_Owner_of rfl (by unfold record_many_api_Owner; simp only [record_reader_int_call]; exact h)
theorem many_u {N : Nat} : Reads N (fun s => (run Tryz.prog (libL libT) hints) 76 [rp N, mvR 77 N] s) false (oU.list 8) (pMany pU) :=
  (many_reads (n := 1) (w := 8) (z := [(.int .u64 0)]) (reads_call u_reads record_reader_num_ok) (by decide) (by decide) (by decide) rfl (by decide) (by decide) rfl rfl).run fun s r h => record_many_uint64_of rfl (by unfold record_many_uint64; simp only [record_reader_int_call]; exact h)
theorem many_i {N : Nat} : Reads N (fun s => (run Tryz.prog (libL libT) hints) 126 [rp N, mvR 70 N] s) false (oI.list 8) (pMany pI) :=
  (many_reads (n := 1) (w := 8) (z := [(.int .i64 0)]) (reads_call i_reads record_reader_int_ok) (by decide) (by decide) (by decide) rfl (by decide) (by decide) rfl rfl).run fun s r h => record_many_int_of rfl (by unfold record_many_int; simp only [record_reader_int_call]; exact h)

end Go.Proofs.YtckpcelchhmjcaaGreat.Ab

/- States are read: results; numbers through pointers. -/
namespace Go.Proofs.YtckpcelchhmjcaaGreat.Ab
open Go

def oRs : OCod Rs := .map (.pair (.ofC blnC fun _ => True) (.pair oStr (.pair (oPr.list 32) .unit))) fun r => (r.1, r.2.1, r.2.2, ())
def pRs : Par Rs := pFlagR.bind fun f => pTx.bind fun t => (pMany pPr).bind fun l => .pure (f, t, l)
theorem bool_valR {lo hi : Nat} {a : Bool} {s : St} {u : Value} {cs : List Value} (h : (OCod.ofC blnC fun _ => True).own lo hi a s cs) (g : Shape false u cs) : u = .bool a := by
  obtain ⟨h1, h2⟩ := h
  have g : cs = [u] := g
  rw [g] at h1
  exact (List.cons.inj h1).1
theorem result_runR {N : Nat} : Reads N (fun s => (run Tryz.prog (libL libT) hints) 128 [rp N] s) true oRs pRs := by
  intro s x hx
  obtain ⟨a, u1, c1, s1, y1, f1, f2, f3, f4, f5, f6⟩ := flag_runR s x hx
  obtain ⟨b, u2, c2, s2, y2, g1, g2, g3, g4, g5, g6⟩ := text_runR s1 y1 f2
  obtain ⟨l, u3, c3, s3, y3, h1, h2, h3, h4, h5, h6⟩ := many_pr s2 y2 g2
  obtain rfl := bool_valR f5 f4
  obtain ⟨rfl, hb⟩ := str_valR g5 g4
  have hlf := OCod.leaf _ h5
  have h4 : c3 = [u3] := h4
  subst h4
  have hu3 : isLeaf u3 = true := by simpa using hlf
  have hcu : cellsV u3 = [u3] := by cases u3 <;> first | rfl | (simp [isLeaf] at hu3)
  have f1 : (run Tryz.prog (libL libT) hints) 141 [rp N] s = some (.bool a, s1) := f1
  have g1 : (run Tryz.prog (libL libT) hints) 122 [rp N] s1 = some (sv b, s2) := g1
  have h1 : (run Tryz.prog (libL libT) hints) 142 [rp N, mvR 143 N] s2 = some (u3, s3) := h1
  have hmk : amkFunc 143 [rp N] [] = some (mvR 143 N) := rfl
  have k1 : lstore 1 lptr (.bool a) (.agg #[(.bool false), (.string ⟨#[]⟩), (.slice none 0 0)]) = some (.agg #[.bool a, (.string ⟨#[]⟩), (.slice none 0 0)]) := rfl
  have k2 : lstore 1 (.pointer (some ⟨0, 1, none⟩)) (sv b) (.agg #[.bool a, (.string ⟨#[]⟩), (.slice none 0 0)]) = some (.agg #[.bool a, sv b, (.slice none 0 0)]) := rfl
  have k3 : lstore 1 (.pointer (some ⟨0, 2, none⟩)) u3 (.agg #[.bool a, sv b, (.slice none 0 0)]) = some (.agg #[.bool a, sv b, u3]) := by
    cases u3 <;> first | rfl | (simp [isLeaf] at hu3)
  have k4 : lload true 3 lptr (.agg #[.bool a, sv b, u3]) = some (.agg #[.bool a, sv b, u3]) := arr_all (cs := [.bool a, sv b, u3]) rfl
  have k5 : lstore 3 lptr (.agg #[.bool a, sv b, u3]) (.agg #[(.bool false), (.string ⟨#[]⟩), (.slice none 0 0)]) = some (.agg #[.bool a, sv b, u3]) := arr_put (cs := [(.bool false), (.string ⟨#[]⟩), (.slice none 0 0)]) (ds := [.bool a, sv b, u3]) rfl rfl (by simp only [List.all_cons, hu3, List.all_nil]; rfl)
  refine ⟨(a, b, l), .agg #[.bool a, sv b, u3], [.bool a, sv b, u3], s3, y3, record_reader_result_of rfl ?_, h2, f3.trans (g3.trans h3), rfl, ?_, f6.bind (g6.bind (h6.bind .pure))⟩
  · unfold record_reader_result
    simp only [record_reader_flag_call, f1, record_reader_text_call, g1, k1, k2, hmk, record_many_api_Pair_call, h1, k3, k4, k5, n_bind, n_map, getL_0, getL_1, getL_2, getL_3, getL_4, getL_5, getL_6, getL_7, getL_8, getL_9, getL_10, getL_11, getL_12, condV_t, condV_f, guardV_tt, guardV_ff, guardV_tf, guardV_ft, guardV_u, apick_t, apick_f, exV_exit, exV_ret, lookE_same, joinK_eq, seqA_n, seqA_e, seqA_r, e_add, e_sub, e_mul, e_eql, e_neq, e_lss, e_leq, e_gtr, e_geq, e_conv, e_not, e_neg, and_guard, or_guard]
    exact ret1 rfl
  · have n1 := f3.1
    have n2 := g3.1
    have n3 := h3.1
    exact ⟨[.bool a], [sv b, u3], s.heap.length, rfl, Nat.le_refl _, by omega, ⟨rfl, trivial⟩, [sv b], [u3], s.heap.length, rfl, Nat.le_refl _, by omega, ⟨rfl, hb⟩, [u3], [], s3.heap.length, by simp, by omega, Nat.le_refl _, OCod.mono _ h5 (by omega) (Nat.le_refl _), rfl⟩
theorem many_rs {N : Nat} : Reads N (fun s => (run Tryz.prog (libL libT) hints) 127 [rp N, mvR 128 N] s) false (oRs.list 48) (pMany pRs) :=
  (many_reads (n := 3) (w := 48) (z := [(.bool false), (.string ⟨#[]⟩), (.slice none 0 0)]) (reads_call result_runR record_reader_result_ok) (by decide) (by decide) (by decide) rfl (by decide) (by decide) rfl rfl).run fun s r h => record_many_api_Result_of rfl (by unfold record_many_api_Result; simp only [record_reader_int_call]; exact h)

def setAll (cells : List Value) : List Nat → List Int → List Value
  | j :: js, n :: ns => setAll (cells.set j (.int .u64 n)) js ns
  | _, _ => cells
def ptrsR (B : Nat) (js : List Nat) : List Value := js.map fun j => .pointer (some ⟨B, j, none⟩)
theorem nums_loopR {N B P M : Nat} {full : List Nat} (hl : full.length ≤ 100) : ∀ (rest : List Nat) (i : Nat) (s : St) (x : BL × Int) (cells : List Value), full.drop i = rest → i ≤ full.length → Rd N s x → N < M → M ≤ B → M ≤ P → P ≠ B → s.heap[B]? = some (.row 0 cells .act) → s.heap[P]? = some (.row 1 (ptrsR B full) .act) → (∀ j ∈ full, j < cells.length) →
    ∃ (ns : List Int) (s' : St) (y : BL × Int), loopL (record_reader_nums.b0 (run Tryz.prog (libL libT) hints)) [rp N, .slice (some ⟨P, 0, none⟩) full.length full.length, .int .i64 ((full.length : Nat) : Int), .int .i64 (i : Int)] s = some (.exit 0, [], s') ∧ ns.length = rest.length ∧ Rd N s' y ∧ s'.heap[B]? = some (.row 0 (setAll cells rest ns) .act) ∧ (∀ n ∈ ns, (Lit.int .u64 n).wf = true) ∧ FrM N M s s' ∧ (∀ b, b < s.heap.length → b ≠ N → b ≠ B → s'.heap[b]? = s.heap[b]?) ∧ Does (pU.rep rest.length) x ns y := by
  intro rest
  induction rest with
  | nil =>
    intro i s x cells hi hle hx hN hB hPM hPB hrow hptr hj
    have h1 : decide ((i : Int) < ((full.length : Nat) : Int)) = false := by
      have := List.drop_eq_nil_iff.1 hi
      simp; omega
    refine ⟨[], s, x, ?_, rfl, hx, hrow, (fun n hn => by cases hn), .refl _ _ _, fun _ _ _ _ => rfl, .pure⟩
    rw [loopL_eq]
    simp only [record_reader_nums.b0, h1, n_bind, n_map, getL_0, getL_1, getL_2, getL_3, getL_4, getL_5, getL_6, getL_7, getL_8, getL_9, getL_10, getL_11, getL_12, condV_t, condV_f, guardV_tt, guardV_ff, guardV_tf, guardV_ft, guardV_u, apick_t, apick_f, exV_exit, exV_ret, lookE_same, joinK_eq, seqA_n, seqA_e, seqA_r, e_add, e_sub, e_mul, e_eql, e_neq, e_lss, e_leq, e_gtr, e_geq, e_conv, e_not, e_neg, and_guard, or_guard]
  | cons j rest ih =>
    intro i s x cells hi hle hx hN hB hPM hPB hrow hptr hj
    obtain ⟨hlt, he, hd⟩ := drop_nx hi
    have h1 : decide ((i : Int) < ((full.length : Nat) : Int)) = true := by simp; omega
    have h2 : aindexS 1 (.slice (some ⟨P, 0, none⟩) full.length full.length) (.int .i64 (i : Int)) = some (.pointer (some ⟨P, i, none⟩)) := by simp [aindexS]; omega
    have h3 : aload false 1 (.pointer (some ⟨P, i, none⟩)) s = some (.pointer (some ⟨B, j, none⟩)) := ld_cell hptr (by simp) (by
      unfold ptrsR
      rw [List.getElem?_map, List.getElem?_eq_getElem hlt, he]
      rfl)
    obtain ⟨n, u, cs, s1, y1, f1, f2, f3, f4, f5, f6⟩ := u_reads s x hx
    obtain ⟨rfl, hwf⟩ := int_valR f5 f4
    have f1 : (run Tryz.prog (libL libT) hints) 77 [rp N] s = some (.int .u64 n, s1) := f1
    have hBl : B < s.heap.length := (List.getElem?_eq_some_iff.1 hrow).1
    have hPl : P < s.heap.length := (List.getElem?_eq_some_iff.1 hptr).1
    have hrow1 : s1.heap[B]? = some (.row 0 cells .act) := by rw [f3.2 B hBl fun e => by have := Option.some.inj e; omega]; exact hrow
    have hptr1 : s1.heap[P]? = some (.row 1 (ptrsR B full) .act) := by rw [f3.2 P hPl fun e => by have := Option.some.inj e; omega]; exact hptr
    have hjl : j < cells.length := hj j (by rw [← he]; exact List.getElem_mem _)
    have hst := st_cell hrow1 hjl (v := .int .u64 n) rfl rfl
    have hB1 : B < s1.heap.length := by have := f3.1; omega
    obtain ⟨ns, s', y, k1, k2, k3, k4, k5, k6, k7, k8⟩ := ih (i + 1) (s1.putB B (.row 0 (cells.set j (.int .u64 n)) .act)) y1 (cells.set j (.int .u64 n)) hd (by omega) (f2.put (by omega)) hN hB hPM hPB (putB_get hB1) (by rw [putB_ne hPB]; exact hptr1) (by simpa using hj)
    refine ⟨n :: ns, s', y, ?_, by simp [k2], k3, k4, ?_, (f3.frM (by omega)).trans ((frM_put hB).trans k6), fun b hb1 hb2 hb3 => ?_, f6.bind (k8.bind .pure)⟩
    · rw [loopL_eq]
      have hnil : anilCheck (.pointer (some ⟨B, j, none⟩)) = some (.pointer (some ⟨B, j, none⟩)) := rfl
      simp only [record_reader_nums.b0, h1, h2, h3, record_reader_num_call, f1, hnil, hst, inc_i (show i < 140737488355328 by omega), n_bind, n_map, getL_0, getL_1, getL_2, getL_3, getL_4, getL_5, getL_6, getL_7, getL_8, getL_9, getL_10, getL_11, getL_12, condV_t, condV_f, guardV_tt, guardV_ff, guardV_tf, guardV_ft, guardV_u, apick_t, apick_f, exV_exit, exV_ret, lookE_same, joinK_eq, seqA_n, seqA_e, seqA_r, e_add, e_sub, e_mul, e_eql, e_neq, e_lss, e_leq, e_gtr, e_geq, e_conv, e_not, e_neg, and_guard, or_guard]
      exact k1
    · intro n' hn'
      rcases List.mem_cons.1 hn' with rfl | hn'
      · exact hwf
      · exact k5 n' hn'
    · rw [k7 b (by rw [putB_len]; have := f3.1; omega) hb2 hb3, putB_ne hb3, f3.2 b hb1 fun e => hb2 (Option.some.inj e).symm]

end Go.Proofs.YtckpcelchhmjcaaGreat.Ab

/- States are read: decisions, what was last. -/
namespace Go.Proofs.YtckpcelchhmjcaaGreat.Ab
open Go

theorem nums_runR {N B M : Nat} {js : List Nat} {k : Nat} (hk : js.length = k) (hl : js.length ≤ 100) {s : St} {x : BL × Int} {cells : List Value} (hx : Rd N s x) (hN : N < M) (hM : M ≤ B) (hrow : s.heap[B]? = some (.row 0 cells .act)) (hj : ∀ j ∈ js, j < cells.length) :
    ∃ (ns : List Int) (s' : St) (y : BL × Int), (run Tryz.prog (libL libT) hints) 71 [rp N, .slice (some ⟨s.heap.length, 0, none⟩) k k] (s.push (.row 1 (ptrsR B js) .act)) = some (undef, s') ∧ ns.length = k ∧ Rd N s' y ∧ s'.heap[B]? = some (.row 0 (setAll cells js ns) .act) ∧ (∀ n ∈ ns, (Lit.int .u64 n).wf = true) ∧ FrM N M s s' ∧ (∀ b, b < s.heap.length → b ≠ N → b ≠ B → s'.heap[b]? = s.heap[b]?) ∧ Does (pU.rep k) x ns y := by
  subst hk
  have hBl : B < s.heap.length := (List.getElem?_eq_some_iff.1 hrow).1
  obtain ⟨ns, s', y, h1, h2, h3, h4, h5, h6, h7, h8⟩ := nums_loopR (P := s.heap.length) (full := js) hl js 0 (s.push (.row 1 (ptrsR B js) .act)) x cells rfl (Nat.zero_le _) hx.push hN hM (by omega) (by omega) (by rw [push_old hBl]; exact hrow) push_get hj
  rw [show ((0 : Nat) : Int) = 0 from rfl] at h1
  refine ⟨ns, s', y, record_reader_nums_of rfl ?_, h2, h3, h4, h5, (frM_push (by omega)).trans h6, fun b b1 b2 b3 => ?_, h8⟩
  · have hlen : ∀ ty t, alenV (.slice ty) (.slice (some ⟨s.heap.length, 0, none⟩) js.length js.length) t = some (.int .i64 ((js.length : Nat) : Int)) := fun _ _ => rfl
    unfold record_reader_nums
    simp only [hlen, h1, ret0, n_bind, n_map, getL_0, getL_1, getL_2, getL_3, getL_4, getL_5, getL_6, getL_7, getL_8, getL_9, getL_10, getL_11, getL_12, condV_t, condV_f, guardV_tt, guardV_ff, guardV_tf, guardV_ft, guardV_u, apick_t, apick_f, exV_exit, exV_ret, lookE_same, joinK_eq, seqA_n, seqA_e, seqA_r, e_add, e_sub, e_mul, e_eql, e_neq, e_lss, e_leq, e_gtr, e_geq, e_conv, e_not, e_neg, and_guard, or_guard]
  · rw [h7 b (by rw [push_len]; omega) b2 b3, push_old b1]
def oDe : OCod De := .map (.pair oU (.pair oI (.pair oU (.pair oU (.pair (oI.list 8) .unit))))) fun d => (d.1, d.2.1, d.2.2.1, d.2.2.2.1, d.2.2.2.2, ())
def pDe : Par De := pU.bind fun t => pI.bind fun c => (pU.rep 2).bind fun ns => (pMany pI).bind fun l => .pure (t, c, ns.getD 0 0, ns.getD 1 0, l)
def deL (t c b r : Int) (l : Value) : List Value := [.int .u64 t, .int .i64 c, .int .u64 b, .int .u64 r, l]
theorem decision_runR {N : Nat} : Reads N (fun s => (run Tryz.prog (libL libT) hints) 83 [rp N] s) true oDe pDe := by
  intro s x hx
  have hN := hx.lt
  have hnw : anew [(.int .u64 0), (.int .i64 0), (.int .u64 0), (.int .u64 0), (.slice none 0 0)] s = some (.pointer (some ⟨s.heap.length, 0, none⟩), s.push (.row 0 (deL 0 0 0 0 (.slice none 0 0)) .act)) := rfl
  have hx0 : Rd N (s.push (.row 0 (deL 0 0 0 0 (.slice none 0 0)) .act)) x := hx.push
  have h0 : (s.push (.row 0 (deL 0 0 0 0 (.slice none 0 0)) .act)).heap[s.heap.length]? = some (.row 0 (deL 0 0 0 0 (.slice none 0 0)) .act) := push_get
  have fr0 : FrM N s.heap.length s (s.push (.row 0 (deL 0 0 0 0 (.slice none 0 0)) .act)) := frM_push (Nat.le_refl _)
  have l0 : (s.push (.row 0 (deL 0 0 0 0 (.slice none 0 0)) .act)).heap.length = s.heap.length + 1 := push_len
  generalize hS0 : s.push (.row 0 (deL 0 0 0 0 (.slice none 0 0)) .act) = s0 at *
  generalize hB : s.heap.length = B at *
  obtain ⟨t, u1, c1, s1, y1, f1, f2, f3, f4, f5, f6⟩ := u_reads s0 x hx0
  obtain ⟨rfl, wt⟩ := int_valR f5 f4
  obtain ⟨c, u2, c2, s2, y2, g1, g2, g3, g4, g5, g6⟩ := i_reads s1 y1 f2
  obtain ⟨rfl, wc⟩ := int_valR g5 g4
  have f1 : (run Tryz.prog (libL libT) hints) 77 [rp N] s0 = some (.int .u64 t, s1) := f1
  have g1 : (run Tryz.prog (libL libT) hints) 70 [rp N] s1 = some (.int .i64 c, s2) := g1
  have n1 := f3.1
  have n2 := g3.1
  have h2 : s2.heap[B]? = some (.row 0 (deL 0 0 0 0 (.slice none 0 0)) .act) := by
    rw [g3.2 B (by omega) fun e => by have := Option.some.inj e; omega, f3.2 B (by omega) fun e => by have := Option.some.inj e; omega]
    exact h0
  have st1 : astore 1 (.pointer (some ⟨B, 0, none⟩)) (.int .u64 t) s2 = some (s2.putB B (.row 0 (deL t 0 0 0 (.slice none 0 0)) .act)) := st_cell h2 (by simp [deL]) rfl rfl
  have h3 : (s2.putB B (.row 0 (deL t 0 0 0 (.slice none 0 0)) .act)).heap[B]? = some (.row 0 (deL t 0 0 0 (.slice none 0 0)) .act) := putB_get (by omega)
  have st2 : astore 1 (.pointer (some ⟨B, 1, none⟩)) (.int .i64 c) (s2.putB B (.row 0 (deL t 0 0 0 (.slice none 0 0)) .act)) = some ((s2.putB B (.row 0 (deL t 0 0 0 (.slice none 0 0)) .act)).putB B (.row 0 (deL t c 0 0 (.slice none 0 0)) .act)) := st_cell h3 (by simp [deL]) rfl rfl
  have h4 : ((s2.putB B (.row 0 (deL t 0 0 0 (.slice none 0 0)) .act)).putB B (.row 0 (deL t c 0 0 (.slice none 0 0)) .act)).heap[B]? = some (.row 0 (deL t c 0 0 (.slice none 0 0)) .act) := putB_get (by rw [putB_len]; omega)
  have rd4 : Rd N ((s2.putB B (.row 0 (deL t 0 0 0 (.slice none 0 0)) .act)).putB B (.row 0 (deL t c 0 0 (.slice none 0 0)) .act)) y2 := (g2.put (by omega)).put (by omega)
  have fr4 : FrM N B s ((s2.putB B (.row 0 (deL t 0 0 0 (.slice none 0 0)) .act)).putB B (.row 0 (deL t c 0 0 (.slice none 0 0)) .act)) := fr0.trans ((f3.frM (by omega)).trans ((g3.frM (by omega)).trans ((frM_put (Nat.le_refl _)).trans (frM_put (Nat.le_refl _)))))
  have l4 : ((s2.putB B (.row 0 (deL t 0 0 0 (.slice none 0 0)) .act)).putB B (.row 0 (deL t c 0 0 (.slice none 0 0)) .act)).heap.length = s2.heap.length := by rw [putB_len, putB_len]
  generalize hS4 : (s2.putB B (.row 0 (deL t 0 0 0 (.slice none 0 0)) .act)).putB B (.row 0 (deL t c 0 0 (.slice none 0 0)) .act) = s4 at *
  obtain ⟨ns, s5, y5, a1, a2, a3, a4, a5, a6, a7, a8⟩ := nums_runR (js := [2, 3]) (k := 2) rfl (by simp) rd4 (show N < B by omega) (Nat.le_refl B) h4 (by simp [deL])
  match ns, a2 with
  | [b, r], _ =>
    have a4 : s5.heap[B]? = some (.row 0 (deL t c b r (.slice none 0 0)) .act) := a4
    have n5 := a6.1
    obtain ⟨l, u6, c6, s6, y6, b1, b2, b3, b4, b5, b6⟩ := many_i s5 y5 a3
    have b4 : c6 = [u6] := b4
    subst b4
    have hu6 : isLeaf u6 = true := by simpa using OCod.leaf _ b5
    have hcu : cellsV u6 = [u6] := by cases u6 <;> first | rfl | (simp [isLeaf] at hu6)
    have b1 : (run Tryz.prog (libL libT) hints) 126 [rp N, mvR 70 N] s5 = some (u6, s6) := b1
    have n6 := b3.1
    have h6 : s6.heap[B]? = some (.row 0 (deL t c b r (.slice none 0 0)) .act) := by
      rw [b3.2 B (by omega) fun e => by have := Option.some.inj e; omega]
      exact a4
    have st3 : astore 1 (.pointer (some ⟨B, 4, none⟩)) u6 s6 = some (s6.putB B (.row 0 (deL t c b r u6) .act)) := st_cell h6 (by simp [deL]) hu6 hcu
    have h7 : (s6.putB B (.row 0 (deL t c b r u6) .act)).heap[B]? = some (.row 0 (deL t c b r u6) .act) := putB_get (by omega)
    have ld7 : aload true 5 (.pointer (some ⟨B, 0, none⟩)) (s6.putB B (.row 0 (deL t c b r u6) .act)) = some (.agg (deL t c b r u6).toArray) := ld_cells h7 (by simp) rfl
    have k5 : lstore 5 lptr (.agg (deL t c b r u6).toArray) (.agg #[(.int .u64 0), (.int .i64 0), (.int .u64 0), (.int .u64 0), (.slice none 0 0)]) = some (.agg (deL t c b r u6).toArray) := arr_put (cs := [(.int .u64 0), (.int .i64 0), (.int .u64 0), (.int .u64 0), (.slice none 0 0)]) rfl rfl (by simp only [deL, List.all_cons, hu6, List.all_nil]; rfl)
    have k6 : lload true 5 lptr (.agg (deL t c b r u6).toArray) = some (.agg (deL t c b r u6).toArray) := arr_all rfl
    have hsl : abuildSl 1 [(.pointer none)] 2 [(0, .pointer (some ⟨B, 2, none⟩)), (1, .pointer (some ⟨B, 3, none⟩))] s4 = some (.slice (some ⟨s4.heap.length, 0, none⟩) 2 2, s4.push (.row 1 (ptrsR B [2, 3]) .act)) := rfl
    have hmk : amkFunc 70 [rp N] [] = some (mvR 70 N) := rfl
    refine ⟨(t, c, b, r, l), .agg (deL t c b r u6).toArray, deL t c b r u6, s6.putB B (.row 0 (deL t c b r u6) .act), y6, record_reader_decision_of rfl ?_, b2.put (by omega), ?_, rfl, ?_, f6.bind (g6.bind (a8.bind (b6.bind .pure)))⟩
    · unfold record_reader_decision
      simp only [hnw, record_reader_num_call, f1, record_reader_int_call, g1, ad_atR, Nat.zero_add, st1, st2, hsl, record_reader_nums_call, a1, hmk, record_many_int_call, b1, st3, ld7, k5, k6, n_bind, n_map, getL_0, getL_1, getL_2, getL_3, getL_4, getL_5, getL_6, getL_7, getL_8, getL_9, getL_10, getL_11, getL_12, condV_t, condV_f, guardV_tt, guardV_ff, guardV_tf, guardV_ft, guardV_u, apick_t, apick_f, exV_exit, exV_ret, lookE_same, joinK_eq, seqA_n, seqA_e, seqA_r, e_add, e_sub, e_mul, e_eql, e_neq, e_lss, e_leq, e_gtr, e_geq, e_conv, e_not, e_neg, and_guard, or_guard]
      exact ret1 rfl
    · have : FrM N B s (s6.putB B (.row 0 (deL t c b r u6) .act)) := fr4.trans (a6.trans ((b3.frM (by omega)).trans (frM_put (Nat.le_refl _))))
      have e : FrM N s.heap.length s (s6.putB B (.row 0 (deL t c b r u6) .act)) := by rw [hB]; exact this
      exact e.keep
    · have ow : (oI.list 8).own s5.heap.length s6.heap.length l (s6.putB B (.row 0 (deL t c b r u6) .act)) [u6] := OCod.keep _ b5 fun q q1 q2 => putB_ne (by omega)
      have hlen : (s6.putB B (.row 0 (deL t c b r u6) .act)).heap.length = s6.heap.length := putB_len
      exact ⟨[.int .u64 t], [.int .i64 c, .int .u64 b, .int .u64 r, u6], B, rfl, Nat.le_refl _, by omega, ⟨rfl, wt⟩, [.int .i64 c], [.int .u64 b, .int .u64 r, u6], B, rfl, Nat.le_refl _, by omega, ⟨rfl, wc⟩, [.int .u64 b], [.int .u64 r, u6], B, rfl, Nat.le_refl _, by omega, ⟨rfl, a5 b (by simp)⟩, [.int .u64 r], [u6], B, rfl, Nat.le_refl _, by omega, ⟨rfl, a5 r (by simp)⟩, [u6], [], s6.heap.length, by simp, by omega, by omega, OCod.mono _ ow (by omega) (Nat.le_refl _), rfl⟩

end Go.Proofs.YtckpcelchhmjcaaGreat.Ab

/- States are read: what was last; operations; what is held. -/
namespace Go.Proofs.YtckpcelchhmjcaaGreat.Ab
open Go

theorem push_putR {s : St} {X Y : Blk} : (s.push X).putB s.heap.length Y = s.push Y := by
  simp only [St.push, St.putB]
  congr 1
  simp [List.set_append]
def oLa : OCod La := .map (.pair oI (.pair oU (.pair oU (.pair (oRs.list 48) .unit)))) fun a => (a.1, a.2.1, a.2.2.1, a.2.2.2, ())
def pLa : Par La := pI.bind fun c => (pU.rep 2).bind fun ns => (pMany pRs).bind fun l => .pure (c, ns.getD 0 0, ns.getD 1 0, l)
def laL (c b r : Int) (l : Value) : List Value := [.int .i64 c, .int .u64 b, .int .u64 r, l]
theorem ab_la (n : Int) : abuild Tryz.prog 82 [(0, .int .i64 n)] = some (.agg (laL n 0 0 (.slice none 0 0)).toArray) := by kernel_rfl
theorem last_runR {N : Nat} : Reads N (fun s => (run Tryz.prog (libL libT) hints) 85 [rp N] s) true oLa pLa := by
  intro s x hx
  have hN := hx.lt
  obtain ⟨c, u1, c1, s1, y1, f1, f2, f3, f4, f5, f6⟩ := i_reads s x hx
  obtain ⟨rfl, wc⟩ := int_valR f5 f4
  have f1 : (run Tryz.prog (libL libT) hints) 70 [rp N] s = some (.int .i64 c, s1) := f1
  have n1 := f3.1
  have hnw : anew [(.int .i64 0), (.int .u64 0), (.int .u64 0), (.slice none 0 0)] s1 = some (.pointer (some ⟨s1.heap.length, 0, none⟩), s1.push (.row 0 (laL 0 0 0 (.slice none 0 0)) .act)) := rfl
  have hst : astore 4 (.pointer (some ⟨s1.heap.length, 0, none⟩)) (.agg (laL c 0 0 (.slice none 0 0)).toArray) (s1.push (.row 0 (laL 0 0 0 (.slice none 0 0)) .act)) = some (s1.push (.row 0 (laL c 0 0 (.slice none 0 0)) .act)) :=
    (st_cells (vs := laL c 0 0 (.slice none 0 0)) (cells := laL 0 0 0 (.slice none 0 0)) push_get rfl rfl rfl).trans (by rw [push_putR])
  have h4 : (s1.push (.row 0 (laL c 0 0 (.slice none 0 0)) .act)).heap[s1.heap.length]? = some (.row 0 (laL c 0 0 (.slice none 0 0)) .act) := push_get
  have rd4 : Rd N (s1.push (.row 0 (laL c 0 0 (.slice none 0 0)) .act)) y1 := f2.push
  have fr4 : FrM N s.heap.length s (s1.push (.row 0 (laL c 0 0 (.slice none 0 0)) .act)) := (f3.frM (Nat.le_refl _)).trans (frM_push (by omega))
  have l4 : (s1.push (.row 0 (laL c 0 0 (.slice none 0 0)) .act)).heap.length = s1.heap.length + 1 := push_len
  generalize hS4 : s1.push (.row 0 (laL c 0 0 (.slice none 0 0)) .act) = s4 at *
  generalize hB : s1.heap.length = B at *
  obtain ⟨ns, s5, y5, a1, a2, a3, a4, a5, a6, a7, a8⟩ := nums_runR (js := [1, 2]) (k := 2) rfl (by simp) rd4 hN (show s.heap.length ≤ B by omega) h4 (by simp [laL])
  match ns, a2 with
  | [b, r], _ =>
    have a4 : s5.heap[B]? = some (.row 0 (laL c b r (.slice none 0 0)) .act) := a4
    have n5 := a6.1
    obtain ⟨l, u6, c6, s6, y6, b1, b2, b3, b4, b5, b6⟩ := many_rs s5 y5 a3
    have b4 : c6 = [u6] := b4
    subst b4
    have hu6 : isLeaf u6 = true := by simpa using OCod.leaf _ b5
    have hcu : cellsV u6 = [u6] := by cases u6 <;> first | rfl | (simp [isLeaf] at hu6)
    have b1 : (run Tryz.prog (libL libT) hints) 127 [rp N, mvR 128 N] s5 = some (u6, s6) := b1
    have n6 := b3.1
    have h6 : s6.heap[B]? = some (.row 0 (laL c b r (.slice none 0 0)) .act) := by
      rw [b3.2 B (by omega) fun e => by have := Option.some.inj e; omega]
      exact a4
    have st3 : astore 1 (.pointer (some ⟨B, 3, none⟩)) u6 s6 = some (s6.putB B (.row 0 (laL c b r u6) .act)) := st_cell h6 (by simp [laL]) hu6 hcu
    have h7 : (s6.putB B (.row 0 (laL c b r u6) .act)).heap[B]? = some (.row 0 (laL c b r u6) .act) := putB_get (by omega)
    have ld7 : aload true 4 (.pointer (some ⟨B, 0, none⟩)) (s6.putB B (.row 0 (laL c b r u6) .act)) = some (.agg (laL c b r u6).toArray) := ld_cells h7 (by simp) rfl
    have k5 : lstore 4 lptr (.agg (laL c b r u6).toArray) (.agg #[(.int .i64 0), (.int .u64 0), (.int .u64 0), (.slice none 0 0)]) = some (.agg (laL c b r u6).toArray) := arr_put (cs := [(.int .i64 0), (.int .u64 0), (.int .u64 0), (.slice none 0 0)]) rfl rfl (by simp only [laL, List.all_cons, hu6, List.all_nil]; rfl)
    have k6 : lload true 4 lptr (.agg (laL c b r u6).toArray) = some (.agg (laL c b r u6).toArray) := arr_all rfl
    have hsl : abuildSl 1 [(.pointer none)] 2 [(0, .pointer (some ⟨B, 1, none⟩)), (1, .pointer (some ⟨B, 2, none⟩))] s4 = some (.slice (some ⟨s4.heap.length, 0, none⟩) 2 2, s4.push (.row 1 (ptrsR B [1, 2]) .act)) := rfl
    have hmk : amkFunc 128 [rp N] [] = some (mvR 128 N) := rfl
    have hlen : (s6.putB B (.row 0 (laL c b r u6) .act)).heap.length = s6.heap.length := putB_len
    refine ⟨(c, b, r, l), .agg (laL c b r u6).toArray, laL c b r u6, s6.putB B (.row 0 (laL c b r u6) .act), y6, record_reader_last_of rfl ?_, b2.put (by omega), ?_, rfl, ?_, f6.bind (a8.bind (b6.bind .pure))⟩
    · unfold record_reader_last
      simp only [record_reader_int_call, f1, ab_la, hnw, hst, ad_atR, Nat.zero_add, hsl, record_reader_nums_call, a1, hmk, record_many_api_Result_call, b1, st3, ld7, k5, k6, n_bind, n_map, getL_0, getL_1, getL_2, getL_3, getL_4, getL_5, getL_6, getL_7, getL_8, getL_9, getL_10, getL_11, getL_12, condV_t, condV_f, guardV_tt, guardV_ff, guardV_tf, guardV_ft, guardV_u, apick_t, apick_f, exV_exit, exV_ret, lookE_same, joinK_eq, seqA_n, seqA_e, seqA_r, e_add, e_sub, e_mul, e_eql, e_neq, e_lss, e_leq, e_gtr, e_geq, e_conv, e_not, e_neg, and_guard, or_guard]
      exact ret1 rfl
    · have e : FrM N s.heap.length s (s6.putB B (.row 0 (laL c b r u6) .act)) := fr4.trans (a6.trans ((b3.frM (by omega)).trans (frM_put (by omega))))
      exact e.keep
    · have ow : (oRs.list 48).own s5.heap.length s6.heap.length l (s6.putB B (.row 0 (laL c b r u6) .act)) [u6] := OCod.keep _ b5 fun q q1 q2 => putB_ne (by omega)
      exact ⟨[.int .i64 c], [.int .u64 b, .int .u64 r, u6], s.heap.length, rfl, Nat.le_refl _, by omega, ⟨rfl, wc⟩, [.int .u64 b], [.int .u64 r, u6], s.heap.length, rfl, Nat.le_refl _, by omega, ⟨rfl, a5 b (by simp)⟩, [.int .u64 r], [u6], s.heap.length, rfl, Nat.le_refl _, by omega, ⟨rfl, a5 r (by simp)⟩, [u6], [], s6.heap.length, by simp, by omega, by omega, OCod.mono _ ow (by omega) (Nat.le_refl _), rfl⟩
theorem many_de {N : Nat} : Reads N (fun s => (run Tryz.prog (libL libT) hints) 82 [rp N, mvR 83 N] s) false (oDe.list 56) (pMany pDe) :=
  (many_reads (n := 5) (w := 56) (z := [(.int .u64 0), (.int .i64 0), (.int .u64 0), (.int .u64 0), (.slice none 0 0)]) (reads_call decision_runR record_reader_decision_ok) (by decide) (by decide) (by decide) rfl (by decide) (by decide) rfl rfl).run fun s r h => record_many_api_Decision_of rfl (by unfold record_many_api_Decision; simp only [record_reader_int_call]; exact h)
theorem many_la {N : Nat} : Reads N (fun s => (run Tryz.prog (libL libT) hints) 84 [rp N, mvR 85 N] s) false (oLa.list 48) (pMany pLa) :=
  (many_reads (n := 4) (w := 48) (z := [(.int .i64 0), (.int .u64 0), (.int .u64 0), (.slice none 0 0)]) (reads_call last_runR record_reader_last_ok) (by decide) (by decide) (by decide) rfl (by decide) (by decide) rfl rfl).run fun s r h => record_many_api_Last_of rfl (by unfold record_many_api_Last; simp only [record_reader_int_call]; exact h)

end Go.Proofs.YtckpcelchhmjcaaGreat.Ab

/- States are read: operations, what is held. -/
namespace Go.Proofs.YtckpcelchhmjcaaGreat.Ab
open Go

def setTx (cells : List Value) : List Nat → List BL → List Value
  | j :: js, n :: ns => setTx (cells.set j (sv n)) js ns
  | _, _ => cells
theorem op_loopR {N B P M : Nat} {T1 T2 T6 : Value} {full : List Nat} (hl : full.length ≤ 100) : ∀ (rest : List Nat) (i : Nat) (s : St) (x : BL × Int) (cells : List Value), full.drop i = rest → i ≤ full.length → Rd N s x → N < M → M ≤ B → M ≤ P → P ≠ B → s.heap[B]? = some (.row 0 cells .act) → s.heap[P]? = some (.row 1 (ptrsR B full) .act) → (∀ j ∈ full, j < cells.length) →
    ∃ (ns : List BL) (s' : St) (y : BL × Int), loopL (record_reader_op.b0 (run Tryz.prog (libL libT) hints)) [rp N, T1, T2, .slice (some ⟨P, 0, none⟩) full.length full.length, .int .i64 ((full.length : Nat) : Int), .int .i64 (i : Int), T6] s = some (.exit 0, [rp N, T1, T2, T6], s') ∧ ns.length = rest.length ∧ Rd N s' y ∧ s'.heap[B]? = some (.row 0 (setTx cells rest ns) .act) ∧ FrM N M s s' ∧ Does (pTx.rep rest.length) x ns y := by
  intro rest
  induction rest with
  | nil =>
    intro i s x cells hi hle hx hN hB hPM hPB hrow hptr hj
    have h1 : decide ((i : Int) < ((full.length : Nat) : Int)) = false := by
      have := List.drop_eq_nil_iff.1 hi
      simp; omega
    refine ⟨[], s, x, ?_, rfl, hx, hrow, .refl _ _ _, .pure⟩
    rw [loopL_eq]
    simp only [record_reader_op.b0, h1, n_bind, n_map, getL_0, getL_1, getL_2, getL_3, getL_4, getL_5, getL_6, getL_7, getL_8, getL_9, getL_10, getL_11, getL_12, condV_t, condV_f, guardV_tt, guardV_ff, guardV_tf, guardV_ft, guardV_u, apick_t, apick_f, exV_exit, exV_ret, lookE_same, joinK_eq, seqA_n, seqA_e, seqA_r, e_add, e_sub, e_mul, e_eql, e_neq, e_lss, e_leq, e_gtr, e_geq, e_conv, e_not, e_neg, and_guard, or_guard]
  | cons j rest ih =>
    intro i s x cells hi hle hx hN hB hPM hPB hrow hptr hj
    obtain ⟨hlt, he, hd⟩ := drop_nx hi
    have h1 : decide ((i : Int) < ((full.length : Nat) : Int)) = true := by simp; omega
    have h2 : aindexS 1 (.slice (some ⟨P, 0, none⟩) full.length full.length) (.int .i64 (i : Int)) = some (.pointer (some ⟨P, i, none⟩)) := by simp [aindexS]; omega
    have h3 : aload false 1 (.pointer (some ⟨P, i, none⟩)) s = some (.pointer (some ⟨B, j, none⟩)) := ld_cell hptr (by simp) (by
      unfold ptrsR
      rw [List.getElem?_map, List.getElem?_eq_getElem hlt, he]
      rfl)
    obtain ⟨n, u, cs, s1, y1, f1, f2, f3, f4, f5, f6⟩ := text_runR s x hx
    obtain ⟨rfl, _⟩ := str_valR f5 f4
    have f1 : (run Tryz.prog (libL libT) hints) 122 [rp N] s = some (sv n, s1) := f1
    have hBl : B < s.heap.length := (List.getElem?_eq_some_iff.1 hrow).1
    have hPl : P < s.heap.length := (List.getElem?_eq_some_iff.1 hptr).1
    have hrow1 : s1.heap[B]? = some (.row 0 cells .act) := by rw [f3.2 B hBl fun e => by have := Option.some.inj e; omega]; exact hrow
    have hptr1 : s1.heap[P]? = some (.row 1 (ptrsR B full) .act) := by rw [f3.2 P hPl fun e => by have := Option.some.inj e; omega]; exact hptr
    have hjl : j < cells.length := hj j (by rw [← he]; exact List.getElem_mem _)
    have hst := st_cell hrow1 hjl (v := sv n) rfl rfl
    have hB1 : B < s1.heap.length := by have := f3.1; omega
    obtain ⟨ns, s', y, k1, k2, k3, k4, k6, k8⟩ := ih (i + 1) (s1.putB B (.row 0 (cells.set j (sv n)) .act)) y1 (cells.set j (sv n)) hd (by omega) (f2.put (by omega)) hN hB hPM hPB (putB_get hB1) (by rw [putB_ne hPB]; exact hptr1) (by simpa using hj)
    refine ⟨n :: ns, s', y, ?_, by simp [k2], k3, k4, (f3.frM (by omega)).trans ((frM_put hB).trans k6), f6.bind (k8.bind .pure)⟩
    rw [loopL_eq]
    have hnil : anilCheck (.pointer (some ⟨B, j, none⟩)) = some (.pointer (some ⟨B, j, none⟩)) := rfl
    simp only [record_reader_op.b0, h1, h2, h3, record_reader_text_call, f1, hnil, hst, inc_i (show i < 140737488355328 by omega), n_bind, n_map, getL_0, getL_1, getL_2, getL_3, getL_4, getL_5, getL_6, getL_7, getL_8, getL_9, getL_10, getL_11, getL_12, condV_t, condV_f, guardV_tt, guardV_ff, guardV_tf, guardV_ft, guardV_u, apick_t, apick_f, exV_exit, exV_ret, lookE_same, joinK_eq, seqA_n, seqA_e, seqA_r, e_add, e_sub, e_mul, e_eql, e_neq, e_lss, e_leq, e_gtr, e_geq, e_conv, e_not, e_neg, and_guard, or_guard]
    exact k1
abbrev oOp : OCod OpT := .ofC opC fun _ => True
def pOp : Par OpT := pI.bind fun k => (pTx.rep 4).bind fun l => pI.bind fun m => .pure ⟨k, l.getD 0 [], l.getD 1 [], l.getD 2 [], l.getD 3 [], m⟩
def opL (k : Int) (a b c d : BL) (m : Int) : List Value := [.int .i64 k, sv a, sv b, sv c, sv d, .int .i64 m]
theorem ab_op (n : Int) : abuild Tryz.prog 72 [(0, .int .i64 n)] = some (.agg (opL n [] [] [] [] 0).toArray) := by kernel_rfl
theorem op_runR {N : Nat} : Reads N (fun s => (run Tryz.prog (libL libT) hints) 124 [rp N] s) true oOp pOp := by
  intro s x hx
  have hN := hx.lt
  obtain ⟨k, u1, c1, s1, y1, f1, f2, f3, f4, f5, f6⟩ := i_reads s x hx
  obtain ⟨rfl, wc⟩ := int_valR f5 f4
  have f1 : (run Tryz.prog (libL libT) hints) 70 [rp N] s = some (.int .i64 k, s1) := f1
  have n1 := f3.1
  have hnw : anew [(.int .i64 0), (.string ⟨#[]⟩), (.string ⟨#[]⟩), (.string ⟨#[]⟩), (.string ⟨#[]⟩), (.int .i64 0)] s1 = some (.pointer (some ⟨s1.heap.length, 0, none⟩), s1.push (.row 0 (opL 0 [] [] [] [] 0) .act)) := rfl
  have hst : astore 6 (.pointer (some ⟨s1.heap.length, 0, none⟩)) (.agg (opL k [] [] [] [] 0).toArray) (s1.push (.row 0 (opL 0 [] [] [] [] 0) .act)) = some (s1.push (.row 0 (opL k [] [] [] [] 0) .act)) :=
    (st_cells (vs := opL k [] [] [] [] 0) (cells := opL 0 [] [] [] [] 0) push_get rfl rfl rfl).trans (by rw [push_putR])
  have h4 : (s1.push (.row 0 (opL k [] [] [] [] 0) .act)).heap[s1.heap.length]? = some (.row 0 (opL k [] [] [] [] 0) .act) := push_get
  have rd4 : Rd N (s1.push (.row 0 (opL k [] [] [] [] 0) .act)) y1 := f2.push
  have fr4 : FrM N s.heap.length s (s1.push (.row 0 (opL k [] [] [] [] 0) .act)) := (f3.frM (Nat.le_refl _)).trans (frM_push (by omega))
  have l4 : (s1.push (.row 0 (opL k [] [] [] [] 0) .act)).heap.length = s1.heap.length + 1 := push_len
  generalize hS4 : s1.push (.row 0 (opL k [] [] [] [] 0) .act) = s4 at *
  generalize hB : s1.heap.length = B at *
  have hBl : B < s4.heap.length := by omega
  obtain ⟨ns, s5, y5, a1, a2, a3, a4, a6, a8⟩ := op_loopR (P := s4.heap.length) (T1 := lptr) (T2 := .pointer (some ⟨B, 0, none⟩)) (T6 := .agg #[(.int .i64 0), (.string ⟨#[]⟩), (.string ⟨#[]⟩), (.string ⟨#[]⟩), (.string ⟨#[]⟩), (.int .i64 0)]) (full := [1, 2, 3, 4]) (by simp) [1, 2, 3, 4] 0 (s4.push (.row 1 (ptrsR B [1, 2, 3, 4]) .act)) y1 (opL k [] [] [] [] 0) rfl (Nat.zero_le _) rd4.push hN (show s.heap.length ≤ B by omega) (by omega) (by omega) (by rw [push_old hBl]; exact h4) push_get (by simp [opL])
  match ns, a2 with
  | [a, b, c, d], _ =>
    have a4 : s5.heap[B]? = some (.row 0 (opL k a b c d 0) .act) := a4
    have n5 := a6.1
    rw [push_len] at n5
    obtain ⟨m, u6, c6, s6, y6, b1, b2, b3, b4, b5, b6⟩ := i_reads s5 y5 a3
    obtain ⟨rfl, _⟩ := int_valR b5 b4
    have b1 : (run Tryz.prog (libL libT) hints) 70 [rp N] s5 = some (.int .i64 m, s6) := b1
    have n6 := b3.1
    have h6 : s6.heap[B]? = some (.row 0 (opL k a b c d 0) .act) := by
      rw [b3.2 B (by omega) fun e => by have := Option.some.inj e; omega]
      exact a4
    have st3 : astore 1 (.pointer (some ⟨B, 5, none⟩)) (.int .i64 m) s6 = some (s6.putB B (.row 0 (opL k a b c d m) .act)) := st_cell h6 (by simp [opL]) rfl rfl
    have h7 : (s6.putB B (.row 0 (opL k a b c d m) .act)).heap[B]? = some (.row 0 (opL k a b c d m) .act) := putB_get (by omega)
    have ld7 : aload true 6 (.pointer (some ⟨B, 0, none⟩)) (s6.putB B (.row 0 (opL k a b c d m) .act)) = some (.agg (opL k a b c d m).toArray) := ld_cells h7 (by simp) rfl
    have k5 : lstore 6 lptr (.agg (opL k a b c d m).toArray) (.agg #[(.int .i64 0), (.string ⟨#[]⟩), (.string ⟨#[]⟩), (.string ⟨#[]⟩), (.string ⟨#[]⟩), (.int .i64 0)]) = some (.agg (opL k a b c d m).toArray) := rfl
    have k6 : lload true 6 lptr (.agg (opL k a b c d m).toArray) = some (.agg (opL k a b c d m).toArray) := rfl
    have hsl : abuildSl 1 [(.pointer none)] 4 [(0, .pointer (some ⟨B, 1, none⟩)), (1, .pointer (some ⟨B, 2, none⟩)), (2, .pointer (some ⟨B, 3, none⟩)), (3, .pointer (some ⟨B, 4, none⟩))] s4 = some (.slice (some ⟨s4.heap.length, 0, none⟩) 4 4, s4.push (.row 1 (ptrsR B [1, 2, 3, 4]) .act)) := rfl
    have hal : ∀ ty t, alenV (.slice ty) (.slice (some ⟨s4.heap.length, 0, none⟩) 4 4) t = some (.int .i64 4) := fun _ _ => rfl
    have a1' : loopL (record_reader_op.b0 (run Tryz.prog (libL libT) hints)) [rp N, lptr, .pointer (some ⟨B, 0, none⟩), .slice (some ⟨s4.heap.length, 0, none⟩) 4 4, .int .i64 4, .int .i64 0, .agg #[(.int .i64 0), (.string ⟨#[]⟩), (.string ⟨#[]⟩), (.string ⟨#[]⟩), (.string ⟨#[]⟩), (.int .i64 0)]] (s4.push (.row 1 (ptrsR B [1, 2, 3, 4]) .act)) = some (.exit 0, [rp N, lptr, .pointer (some ⟨B, 0, none⟩), .agg #[(.int .i64 0), (.string ⟨#[]⟩), (.string ⟨#[]⟩), (.string ⟨#[]⟩), (.string ⟨#[]⟩), (.int .i64 0)]], s5) := a1
    refine ⟨⟨k, a, b, c, d, m⟩, .agg (opL k a b c d m).toArray, opL k a b c d m, s6.putB B (.row 0 (opL k a b c d m) .act), y6, record_reader_op_of rfl ?_, b2.put (by omega), ?_, rfl, ⟨rfl, trivial⟩, f6.bind (a8.bind (b6.bind .pure))⟩
    · unfold record_reader_op
      simp only [record_reader_int_call, f1, ab_op, hnw, hst, ad_atR, Nat.zero_add, hsl, hal, a1', b1, st3, ld7, k5, k6, n_bind, n_map, getL_0, getL_1, getL_2, getL_3, getL_4, getL_5, getL_6, getL_7, getL_8, getL_9, getL_10, getL_11, getL_12, condV_t, condV_f, guardV_tt, guardV_ff, guardV_tf, guardV_ft, guardV_u, apick_t, apick_f, exV_exit, exV_ret, lookE_same, joinK_eq, seqA_n, seqA_e, seqA_r, e_add, e_sub, e_mul, e_eql, e_neq, e_lss, e_leq, e_gtr, e_geq, e_conv, e_not, e_neg, and_guard, or_guard]
      exact ret1 rfl
    · have e : FrM N s.heap.length s (s6.putB B (.row 0 (opL k a b c d m) .act)) := fr4.trans ((frM_push (by omega)).trans (a6.trans ((b3.frM (by omega)).trans (frM_put (by omega)))))
      exact e.keep
theorem many_op {N : Nat} : Reads N (fun s => (run Tryz.prog (libL libT) hints) 123 [rp N, mvR 124 N] s) false (oOp.list 80) (pMany pOp) :=
  (many_reads (n := 6) (w := 80) (z := [(.int .i64 0), (.string ⟨#[]⟩), (.string ⟨#[]⟩), (.string ⟨#[]⟩), (.string ⟨#[]⟩), (.int .i64 0)]) (reads_call op_runR record_reader_op_ok) (by decide) (by decide) (by decide) rfl (by decide) (by decide) rfl rfl).run fun s r h => record_many_api_Op_of rfl (by unfold record_many_api_Op; simp only [record_reader_int_call]; exact h)
def oHo : OCod Ho := .map (.pair oU (.pair (oOp.list 80) .unit)) fun h => (h.1, h.2, ())
def pHo : Par Ho := pU.bind fun t => (pMany pOp).bind fun l => .pure (t, l)
theorem ab_ho (n : Int) (u : Value) (hu : ∃ a len cap, u = .slice a len cap) : abuild Tryz.prog 64 [(0, .int .u64 n), (1, u)] = some (.agg #[.int .u64 n, u]) := by
  obtain ⟨a, len, cap, rfl⟩ := hu
  kernel_rfl
theorem hold_runR {N : Nat} : Reads N (fun s => (run Tryz.prog (libL libT) hints) 75 [rp N] s) true oHo pHo := by
  intro s x hx
  obtain ⟨a, u1, c1, s1, y1, f1, f2, f3, f4, f5, f6⟩ := u_reads s x hx
  obtain ⟨l, u3, c3, s3, y3, h1, h2, h3, h4, h5, h6⟩ := many_op s1 y1 f2
  obtain ⟨rfl, wa⟩ := int_valR f5 f4
  have h4 : c3 = [u3] := h4
  subst h4
  have hu3 : isLeaf u3 = true := by simpa using OCod.leaf _ h5
  have hsl : ∃ a len cap, u3 = .slice a len cap := by
    obtain ⟨v, e, h⟩ := h5
    cases e
    rcases h.2 with ⟨rfl, _⟩ | ⟨b, css, rfl, _⟩
    · exact ⟨_, _, _, rfl⟩
    · exact ⟨_, _, _, rfl⟩
  have f1 : (run Tryz.prog (libL libT) hints) 77 [rp N] s = some (.int .u64 a, s1) := f1
  have h1 : (run Tryz.prog (libL libT) hints) 123 [rp N, mvR 124 N] s1 = some (u3, s3) := h1
  have hmk : amkFunc 124 [rp N] [] = some (mvR 124 N) := rfl
  have k4 : lload true 2 lptr (.agg #[.int .u64 a, u3]) = some (.agg #[.int .u64 a, u3]) := arr_all (cs := [.int .u64 a, u3]) rfl
  have k5 : lstore 2 lptr (.agg #[.int .u64 a, u3]) (.agg #[(.int .u64 0), (.slice none 0 0)]) = some (.agg #[.int .u64 a, u3]) := arr_put (cs := [(.int .u64 0), (.slice none 0 0)]) (ds := [.int .u64 a, u3]) rfl rfl (by simp only [List.all_cons, hu3, List.all_nil]; rfl)
  refine ⟨(a, l), .agg #[.int .u64 a, u3], [.int .u64 a, u3], s3, y3, record_reader_hold_of rfl ?_, h2, f3.trans h3, rfl, ?_, f6.bind (h6.bind .pure)⟩
  · unfold record_reader_hold
    simp only [record_reader_num_call, f1, hmk, record_many_api_Op_call, h1, ab_ho _ _ hsl, k4, k5, n_bind, n_map, getL_0, getL_1, getL_2, getL_3, getL_4, getL_5, getL_6, getL_7, getL_8, getL_9, getL_10, getL_11, getL_12, condV_t, condV_f, guardV_tt, guardV_ff, guardV_tf, guardV_ft, guardV_u, apick_t, apick_f, exV_exit, exV_ret, lookE_same, joinK_eq, seqA_n, seqA_e, seqA_r, e_add, e_sub, e_mul, e_eql, e_neq, e_lss, e_leq, e_gtr, e_geq, e_conv, e_not, e_neg, and_guard, or_guard]
    exact ret1 rfl
  · have n1 := f3.1
    have n3 := h3.1
    exact ⟨[.int .u64 a], [u3], s.heap.length, rfl, Nat.le_refl _, by omega, ⟨rfl, wa⟩, [u3], [], s3.heap.length, by simp, by omega, Nat.le_refl _, OCod.mono _ h5 (by omega) (Nat.le_refl _), rfl⟩
theorem many_ho {N : Nat} : Reads N (fun s => (run Tryz.prog (libL libT) hints) 74 [rp N, mvR 75 N] s) false (oHo.list 32) (pMany pHo) :=
  (many_reads (n := 2) (w := 32) (z := [(.int .u64 0), (.slice none 0 0)]) (reads_call hold_runR record_reader_hold_ok) (by decide) (by decide) (by decide) rfl (by decide) (by decide) rfl rfl).run fun s r h => record_many_api_Hold_of rfl (by unfold record_many_api_Hold; simp only [record_reader_int_call]; exact h)

end Go.Proofs.YtckpcelchhmjcaaGreat.Ab

/- States are read: into a state that lies below the reader. -/
namespace Go.Proofs.YtckpcelchhmjcaaGreat.Ab
open Go

theorem rd_put_row {N B n : Nat} {s : St} {cells cells' : List Value} {x : BL × Int} (h : Rd N s x) (hBN : N ≠ B) (hB : s.heap[B]? = some (.row n cells .act)) (hlen : cells'.length = cells.length) (hno : ∀ c ∈ cells, ∀ b, c ≠ .int .u8 b) : Rd N (s.putB B (.row n cells' .act)) x := by
  obtain ⟨v, hv⟩ := h
  have hBl : B < s.heap.length := (List.getElem?_eq_some_iff.1 hB).1
  refine ⟨v, ⟨by rw [putB_ne hBN]; exact hv.blk, ?_, hv.apart, hv.small⟩⟩
  by_cases hb : blkOf v = some B
  · have hbyt := hv.byt
    unfold bytesOf at hbyt ⊢
    simp only [Option.bind_eq_some_iff] at hbyt ⊢
    obtain ⟨cs, h1, h2⟩ := hbyt
    have hcs := ubs_some h2
    unfold cellsOf at h1
    split at h1
    · cases hb
    · rename_i b o len cap
      have hbB : b = B := Option.some.inj hb
      subst hbB
      split at h1
      case isFalse => cases h1
      rename_i hlc
      have hr : readRow s b = some cells := by
        unfold Ab.readRow
        rw [hB]
      unfold Ab.readN at h1
      rw [hr] at h1
      simp only [Option.bind_some] at h1
      split at h1
      case isFalse => cases h1
      rename_i hle
      have e1 := Option.some.inj h1
      have hx0 : x.1 = [] := by
        cases hl : x.1 with
        | nil => rfl
        | cons c l =>
          rw [hl] at hcs
          have hm : (.int .u8 ((c.toNat : Nat) : Int) : Value) ∈ cells := by
            have : (.int .u8 ((c.toNat : Nat) : Int) : Value) ∈ (cells.drop o).take (len * 1) := by
              rw [e1, hcs]
              simp [bv]
            exact List.mem_of_mem_drop (List.mem_of_mem_take this)
          exact absurd rfl (hno _ hm _)
      rw [hx0] at hcs
      have hlen0 : len = 0 := by
        have h3 := congrArg List.length (e1.trans hcs)
        simp only [List.length_take, List.length_drop, bv_length, List.length_nil] at h3
        omega
      subst hlen0
      refine ⟨[], ?_, by rw [hx0]; rfl⟩
      have hr' : readRow (s.putB b (.row n cells' .act)) b = some cells' := by
        unfold Ab.readRow
        rw [putB_get hBl]
      unfold cellsOf
      simp only [if_pos hlc]
      unfold Ab.readN
      rw [hr']
      simp only [Option.bind_some]
      rw [if_pos (by omega)]
      simp
    · cases h1
  · exact bytes_same hv.byt fun c hc => putB_ne fun e => hb (by rw [← e]; exact hc)

def noU8 (cells : List Value) : Prop := ∀ c ∈ cells, ∀ b, c ≠ .int .u8 b
theorem noU8_set {cells : List Value} (h : noU8 cells) {j : Nat} {v : Value} (hv : ∀ b, v ≠ .int .u8 b) : noU8 (cells.set j v) := fun c hc b => by
  rcases List.mem_or_eq_of_mem_set hc with h1 | h1
  · exact h c h1 b
  · rw [h1]; exact hv b
def FrB (N B : Nat) (s t : St) : Prop := s.heap.length ≤ t.heap.length ∧ ∀ b, b < s.heap.length → b ≠ N → b ≠ B → t.heap[b]? = s.heap[b]?
theorem FrB.refl (N B : Nat) (s : St) : FrB N B s s := ⟨Nat.le_refl _, fun _ _ _ _ => rfl⟩
theorem FrB.trans {N B : Nat} {s t u : St} (h : FrB N B s t) (g : FrB N B t u) : FrB N B s u := ⟨Nat.le_trans h.1 g.1, fun b h1 h2 h3 => (g.2 b (Nat.lt_of_lt_of_le h1 h.1) h2 h3).trans (h.2 b h1 h2 h3)⟩
theorem Keep.frB {N B : Nat} {s t : St} (h : Keep (some N) s t) : FrB N B s t := ⟨h.1, fun b h1 h2 _ => h.2 b h1 fun e => h2 (Option.some.inj e).symm⟩
theorem frB_put {N B : Nat} {s : St} {X : Blk} : FrB N B s (s.putB B X) := ⟨by simp [St.putB], fun b _ _ h3 => putB_ne h3⟩
theorem frB_push {N B : Nat} {s : St} {X : Blk} : FrB N B s (s.push X) := ⟨by rw [push_len]; omega, fun b h1 _ _ => push_old h1⟩
theorem nums_loopB {N B P : Nat} {full : List Nat} (hl : full.length ≤ 100) : ∀ (rest : List Nat) (i : Nat) (s : St) (x : BL × Int) (cells : List Value), full.drop i = rest → i ≤ full.length → Rd N s x → N ≠ B → P ≠ N → P ≠ B → s.heap[B]? = some (.row 0 cells .act) → s.heap[P]? = some (.row 1 (ptrsR B full) .act) → (∀ j ∈ full, j < cells.length) → noU8 cells →
    ∃ (ns : List Int) (s' : St) (y : BL × Int), loopL (record_reader_nums.b0 (run Tryz.prog (libL libT) hints)) [rp N, .slice (some ⟨P, 0, none⟩) full.length full.length, .int .i64 ((full.length : Nat) : Int), .int .i64 (i : Int)] s = some (.exit 0, [], s') ∧ ns.length = rest.length ∧ Rd N s' y ∧ s'.heap[B]? = some (.row 0 (setAll cells rest ns) .act) ∧ (∀ n ∈ ns, (Lit.int .u64 n).wf = true) ∧ FrB N B s s' ∧ Does (pU.rep rest.length) x ns y := by
  intro rest
  induction rest with
  | nil =>
    intro i s x cells hi hle hx hNB hPN hPB hrow hptr hj hno
    have h1 : decide ((i : Int) < ((full.length : Nat) : Int)) = false := by
      have := List.drop_eq_nil_iff.1 hi
      simp; omega
    refine ⟨[], s, x, ?_, rfl, hx, hrow, (fun n hn => by cases hn), .refl _ _ _, .pure⟩
    rw [loopL_eq]
    simp only [record_reader_nums.b0, h1, n_bind, n_map, getL_0, getL_1, getL_2, getL_3, getL_4, getL_5, getL_6, getL_7, getL_8, getL_9, getL_10, getL_11, getL_12, condV_t, condV_f, guardV_tt, guardV_ff, guardV_tf, guardV_ft, guardV_u, apick_t, apick_f, exV_exit, exV_ret, lookE_same, joinK_eq, seqA_n, seqA_e, seqA_r, e_add, e_sub, e_mul, e_eql, e_neq, e_lss, e_leq, e_gtr, e_geq, e_conv, e_not, e_neg, and_guard, or_guard]
  | cons j rest ih =>
    intro i s x cells hi hle hx hNB hPN hPB hrow hptr hj hno
    obtain ⟨hlt, he, hd⟩ := drop_nx hi
    have h1 : decide ((i : Int) < ((full.length : Nat) : Int)) = true := by simp; omega
    have h2 : aindexS 1 (.slice (some ⟨P, 0, none⟩) full.length full.length) (.int .i64 (i : Int)) = some (.pointer (some ⟨P, i, none⟩)) := by simp [aindexS]; omega
    have h3 : aload false 1 (.pointer (some ⟨P, i, none⟩)) s = some (.pointer (some ⟨B, j, none⟩)) := ld_cell hptr (by simp) (by
      unfold ptrsR
      rw [List.getElem?_map, List.getElem?_eq_getElem hlt, he]
      rfl)
    obtain ⟨n, u, cs, s1, y1, f1, f2, f3, f4, f5, f6⟩ := u_reads s x hx
    obtain ⟨rfl, hwf⟩ := int_valR f5 f4
    have f1 : (run Tryz.prog (libL libT) hints) 77 [rp N] s = some (.int .u64 n, s1) := f1
    have hBl : B < s.heap.length := (List.getElem?_eq_some_iff.1 hrow).1
    have hPl : P < s.heap.length := (List.getElem?_eq_some_iff.1 hptr).1
    have hrow1 : s1.heap[B]? = some (.row 0 cells .act) := by rw [f3.2 B hBl fun e => hNB (Option.some.inj e)]; exact hrow
    have hptr1 : s1.heap[P]? = some (.row 1 (ptrsR B full) .act) := by rw [f3.2 P hPl fun e => hPN (Option.some.inj e).symm]; exact hptr
    have hjl : j < cells.length := hj j (by rw [← he]; exact List.getElem_mem _)
    have hst := st_cell hrow1 hjl (v := .int .u64 n) rfl rfl
    have hB1 : B < s1.heap.length := by have := f3.1; omega
    obtain ⟨ns, s', y, k1, k2, k3, k4, k5, k6, k8⟩ := ih (i + 1) (s1.putB B (.row 0 (cells.set j (.int .u64 n)) .act)) y1 (cells.set j (.int .u64 n)) hd (by omega) (rd_put_row f2 hNB hrow1 (by simp) hno) hNB hPN hPB (putB_get hB1) (by rw [putB_ne hPB]; exact hptr1) (by simpa using hj) (noU8_set hno fun b e => by cases e)
    refine ⟨n :: ns, s', y, ?_, by simp [k2], k3, k4, ?_, f3.frB.trans (frB_put.trans k6), f6.bind (k8.bind .pure)⟩
    · rw [loopL_eq]
      have hnil : anilCheck (.pointer (some ⟨B, j, none⟩)) = some (.pointer (some ⟨B, j, none⟩)) := rfl
      simp only [record_reader_nums.b0, h1, h2, h3, record_reader_num_call, f1, hnil, hst, inc_i (show i < 140737488355328 by omega), n_bind, n_map, getL_0, getL_1, getL_2, getL_3, getL_4, getL_5, getL_6, getL_7, getL_8, getL_9, getL_10, getL_11, getL_12, condV_t, condV_f, guardV_tt, guardV_ff, guardV_tf, guardV_ft, guardV_u, apick_t, apick_f, exV_exit, exV_ret, lookE_same, joinK_eq, seqA_n, seqA_e, seqA_r, e_add, e_sub, e_mul, e_eql, e_neq, e_lss, e_leq, e_gtr, e_geq, e_conv, e_not, e_neg, and_guard, or_guard]
      exact k1
    · intro n' hn'
      rcases List.mem_cons.1 hn' with rfl | hn'
      · exact hwf
      · exact k5 n' hn'
theorem nums_runB {N B : Nat} {js : List Nat} {k : Nat} (hk : js.length = k) (hl : js.length ≤ 100) {s : St} {x : BL × Int} {cells : List Value} (hx : Rd N s x) (hNB : N ≠ B) (hrow : s.heap[B]? = some (.row 0 cells .act)) (hj : ∀ j ∈ js, j < cells.length) (hno : noU8 cells) :
    ∃ (ns : List Int) (s' : St) (y : BL × Int), (run Tryz.prog (libL libT) hints) 71 [rp N, .slice (some ⟨s.heap.length, 0, none⟩) k k] (s.push (.row 1 (ptrsR B js) .act)) = some (undef, s') ∧ ns.length = k ∧ Rd N s' y ∧ s'.heap[B]? = some (.row 0 (setAll cells js ns) .act) ∧ (∀ n ∈ ns, (Lit.int .u64 n).wf = true) ∧ FrB N B s s' ∧ Does (pU.rep k) x ns y := by
  subst hk
  have hBl : B < s.heap.length := (List.getElem?_eq_some_iff.1 hrow).1
  have hNl := hx.lt
  obtain ⟨ns, s', y, h1, h2, h3, h4, h5, h6, h8⟩ := nums_loopB (P := s.heap.length) (full := js) hl js 0 (s.push (.row 1 (ptrsR B js) .act)) x cells rfl (Nat.zero_le _) hx.push hNB (by omega) (by omega) (by rw [push_old hBl]; exact hrow) push_get hj hno
  rw [show ((0 : Nat) : Int) = 0 from rfl] at h1
  refine ⟨ns, s', y, record_reader_nums_of rfl ?_, h2, h3, h4, h5, frB_push.trans h6, h8⟩
  have hlen : ∀ ty t, alenV (.slice ty) (.slice (some ⟨s.heap.length, 0, none⟩) js.length js.length) t = some (.int .i64 ((js.length : Nat) : Int)) := fun _ _ => rfl
  unfold record_reader_nums
  simp only [hlen, h1, ret0, n_bind, n_map, getL_0, getL_1, getL_2, getL_3, getL_4, getL_5, getL_6, getL_7, getL_8, getL_9, getL_10, getL_11, getL_12, condV_t, condV_f, guardV_tt, guardV_ff, guardV_tf, guardV_ft, guardV_u, apick_t, apick_f, exV_exit, exV_ret, lookE_same, joinK_eq, seqA_n, seqA_e, seqA_r, e_add, e_sub, e_mul, e_eql, e_neq, e_lss, e_leq, e_gtr, e_geq, e_conv, e_not, e_neg, and_guard, or_guard]

end Go.Proofs.YtckpcelchhmjcaaGreat.Ab

/- States are read: the coordinator's. -/
namespace Go.Proofs.YtckpcelchhmjcaaGreat.Ab
open Go

def oCd : OCod Cd := .map (.pair oI (.pair oU (.pair oU (.pair oU (.pair (oOw.list 24) (.pair (oDe.list 56) (.pair (oLa.list 48) .unit)))))))
  fun c => (c.shards, c.boot, c.ver, c.epoch, c.owners, c.decided, c.last, ())
def pCd : Par Cd := pI.bind fun s => (pU.rep 3).bind fun ns => (pMany pOw).bind fun o => (pMany pDe).bind fun d => (pMany pLa).bind fun l => .pure ⟨s, ns.getD 0 0, ns.getD 1 0, ns.getD 2 0, o, d, l⟩
def cdL (s b v e : Int) (o d l : Value) : List Value := [.int .i64 s, .int .u64 b, .int .u64 v, .int .u64 e, o, d, l]
theorem cdL_no {s b v e : Int} {o d l : Value} (ho : ∀ q, o ≠ .int .u8 q) (hd : ∀ q, d ≠ .int .u8 q) (hl : ∀ q, l ≠ .int .u8 q) : noU8 (cdL s b v e o d l) := fun c hc q => by
  simp only [cdL, List.mem_cons, List.not_mem_nil, or_false] at hc
  rcases hc with rfl | rfl | rfl | rfl | rfl | rfl | rfl
  · intro e; cases e
  · intro e; cases e
  · intro e; cases e
  · intro e; cases e
  · exact ho q
  · exact hd q
  · exact hl q
theorem list_val {α : Type} {O : OCod α} {B lo hi : Nat} {l : List α} {s : St} {u : Value} {cs : List Value} (h : (O.list B).own lo hi l s cs) (g : Shape false u cs) : cs = [u] ∧ isLeaf u = true ∧ cellsV u = [u] ∧ (∀ q, u ≠ .int .u8 q) ∧ noTup u = true := by
  have g : cs = [u] := g
  obtain ⟨v, e, h⟩ := h
  obtain rfl : u = v := by
    rw [g] at e
    exact (List.cons.inj e).1
  rcases h.2 with ⟨rfl, _⟩ | ⟨b, css, rfl, _⟩
  · exact ⟨g, rfl, rfl, (fun q e => by cases e), rfl⟩
  · exact ⟨g, rfl, rfl, (fun q e => by cases e), rfl⟩
theorem dcoord_run {N B : Nat} {s : St} {x : BL × Int} (hx : Rd N s x) (hBN : B < N) (hrow : s.heap[B]? = some (.row 0 (cdL 0 0 0 0 (.slice none 0 0) (.slice none 0 0) (.slice none 0 0)) .act)) :
    ∃ (c : Cd) (cells : List Value) (s' : St) (y : BL × Int), (run Tryz.prog (libL libT) hints) 81 [rp N, .pointer (some ⟨B, 0, none⟩)] s = some (undef, s') ∧ Rd N s' y ∧ s'.heap[B]? = some (.row 0 cells .act) ∧ oCd.own s.heap.length s'.heap.length c s' cells ∧ FrB N B s s' ∧ Does pCd x c y := by
  have hN := hx.lt
  have hNB : N ≠ B := by omega
  have nn : ∀ q, (Value.slice none 0 0) ≠ .int .u8 q := fun q e => by cases e
  obtain ⟨c, u1, c1, s1, y1, f1, f2, f3, f4, f5, f6⟩ := i_reads s x hx
  obtain ⟨rfl, wc⟩ := int_valR f5 f4
  have f1 : (run Tryz.prog (libL libT) hints) 70 [rp N] s = some (.int .i64 c, s1) := f1
  have n1 := f3.1
  have h1 : s1.heap[B]? = some (.row 0 (cdL 0 0 0 0 (.slice none 0 0) (.slice none 0 0) (.slice none 0 0)) .act) := by rw [f3.2 B (by omega) fun e => hNB (Option.some.inj e)]; exact hrow
  have st1 : astore 1 (.pointer (some ⟨B, 0, none⟩)) (.int .i64 c) s1 = some (s1.putB B (.row 0 (cdL c 0 0 0 (.slice none 0 0) (.slice none 0 0) (.slice none 0 0)) .act)) := st_cell h1 (by simp [cdL]) rfl rfl
  have rd2 : Rd N (s1.putB B (.row 0 (cdL c 0 0 0 (.slice none 0 0) (.slice none 0 0) (.slice none 0 0)) .act)) y1 := rd_put_row f2 hNB h1 (by simp [cdL]) (cdL_no nn nn nn)
  have h2 : (s1.putB B (.row 0 (cdL c 0 0 0 (.slice none 0 0) (.slice none 0 0) (.slice none 0 0)) .act)).heap[B]? = some (.row 0 (cdL c 0 0 0 (.slice none 0 0) (.slice none 0 0) (.slice none 0 0)) .act) := putB_get (by omega)
  have fr2 : FrB N B s (s1.putB B (.row 0 (cdL c 0 0 0 (.slice none 0 0) (.slice none 0 0) (.slice none 0 0)) .act)) := f3.frB.trans frB_put
  generalize s1.putB B (.row 0 (cdL c 0 0 0 (.slice none 0 0) (.slice none 0 0) (.slice none 0 0)) .act) = s2 at *
  obtain ⟨ns, s3, y3, a1, a2, a3, a4, a5, a6, a8⟩ := nums_runB (js := [1, 2, 3]) (k := 3) rfl (by simp) rd2 hNB h2 (by simp [cdL]) (cdL_no nn nn nn)
  match ns, a2 with
  | [b, v, e], _ =>
    have a4 : s3.heap[B]? = some (.row 0 (cdL c b v e (.slice none 0 0) (.slice none 0 0) (.slice none 0 0)) .act) := a4
    have n2 := fr2.1
    have n3 := a6.1
    obtain ⟨ow, u4, c4, s4, y4, g1, g2, g3, g4, g5, g6⟩ := many_ow s3 y3 a3
    obtain ⟨rfl, lo4, cv4, no4, _⟩ := list_val g5 g4
    obtain ⟨de, u5, c5, s5, y5, k1, k2, k3, k4, k5, k6⟩ := many_de s4 y4 g2
    obtain ⟨rfl, lo5, cv5, no5, _⟩ := list_val k5 k4
    obtain ⟨la, u6, c6, s6, y6, m1, m2, m3, m4, m5, m6⟩ := many_la s5 y5 k2
    obtain ⟨rfl, lo6, cv6, no6, _⟩ := list_val m5 m4
    have n4 := g3.1
    have n5 := k3.1
    have n6 := m3.1
    have g1 : (run Tryz.prog (libL libT) hints) 72 [rp N, mvR 73 N] s3 = some (u4, s4) := g1
    have k1 : (run Tryz.prog (libL libT) hints) 82 [rp N, mvR 83 N] s4 = some (u5, s5) := k1
    have m1 : (run Tryz.prog (libL libT) hints) 84 [rp N, mvR 85 N] s5 = some (u6, s6) := m1
    have hne : ∀ {t : Nat}, B < t → ∀ e : some N = some B, False := fun _ e => hNB (Option.some.inj e)
    have h6 : s6.heap[B]? = some (.row 0 (cdL c b v e (.slice none 0 0) (.slice none 0 0) (.slice none 0 0)) .act) := by
      rw [m3.2 B (by omega) fun e => hNB (Option.some.inj e), k3.2 B (by omega) fun e => hNB (Option.some.inj e), g3.2 B (by omega) fun e => hNB (Option.some.inj e)]
      exact a4
    have st7 : astore 1 (.pointer (some ⟨B, 4, none⟩)) u4 s6 = some (s6.putB B (.row 0 (cdL c b v e u4 (.slice none 0 0) (.slice none 0 0)) .act)) := st_cell h6 (by simp [cdL]) lo4 cv4
    have h7 : (s6.putB B (.row 0 (cdL c b v e u4 (.slice none 0 0) (.slice none 0 0)) .act)).heap[B]? = some (.row 0 (cdL c b v e u4 (.slice none 0 0) (.slice none 0 0)) .act) := putB_get (by omega)
    have rd7 : Rd N (s6.putB B (.row 0 (cdL c b v e u4 (.slice none 0 0) (.slice none 0 0)) .act)) y6 := rd_put_row m2 hNB h6 (by simp [cdL]) (cdL_no nn nn nn)
    have fr7 : FrB N B s6 (s6.putB B (.row 0 (cdL c b v e u4 (.slice none 0 0) (.slice none 0 0)) .act)) := frB_put
    have l7 : (s6.putB B (.row 0 (cdL c b v e u4 (.slice none 0 0) (.slice none 0 0)) .act)).heap.length = s6.heap.length := putB_len
    generalize s6.putB B (.row 0 (cdL c b v e u4 (.slice none 0 0) (.slice none 0 0)) .act) = s7 at *
    have st8 : astore 1 (.pointer (some ⟨B, 5, none⟩)) u5 s7 = some (s7.putB B (.row 0 (cdL c b v e u4 u5 (.slice none 0 0)) .act)) := st_cell h7 (by simp [cdL]) lo5 cv5
    have h8 : (s7.putB B (.row 0 (cdL c b v e u4 u5 (.slice none 0 0)) .act)).heap[B]? = some (.row 0 (cdL c b v e u4 u5 (.slice none 0 0)) .act) := putB_get (by omega)
    have rd8 : Rd N (s7.putB B (.row 0 (cdL c b v e u4 u5 (.slice none 0 0)) .act)) y6 := rd_put_row rd7 hNB h7 (by simp [cdL]) (cdL_no no4 nn nn)
    have fr8 : FrB N B s7 (s7.putB B (.row 0 (cdL c b v e u4 u5 (.slice none 0 0)) .act)) := frB_put
    have l8 : (s7.putB B (.row 0 (cdL c b v e u4 u5 (.slice none 0 0)) .act)).heap.length = s7.heap.length := putB_len
    generalize s7.putB B (.row 0 (cdL c b v e u4 u5 (.slice none 0 0)) .act) = s8 at *
    have st9 : astore 1 (.pointer (some ⟨B, 6, none⟩)) u6 s8 = some (s8.putB B (.row 0 (cdL c b v e u4 u5 u6) .act)) := st_cell h8 (by simp [cdL]) lo6 cv6
    have h9 : (s8.putB B (.row 0 (cdL c b v e u4 u5 u6) .act)).heap[B]? = some (.row 0 (cdL c b v e u4 u5 u6) .act) := putB_get (by omega)
    have rd9 : Rd N (s8.putB B (.row 0 (cdL c b v e u4 u5 u6) .act)) y6 := rd_put_row rd8 hNB h8 (by simp [cdL]) (cdL_no no4 no5 nn)
    have fr9 : FrB N B s8 (s8.putB B (.row 0 (cdL c b v e u4 u5 u6) .act)) := frB_put
    have l9 : (s8.putB B (.row 0 (cdL c b v e u4 u5 u6) .act)).heap.length = s8.heap.length := putB_len
    generalize s8.putB B (.row 0 (cdL c b v e u4 u5 u6) .act) = s9 at *
    have fr69 : FrB N B s6 s9 := fr7.trans (fr8.trans fr9)
    have hsl : abuildSl 1 [(.pointer none)] 3 [(0, .pointer (some ⟨B, 1, none⟩)), (1, .pointer (some ⟨B, 2, none⟩)), (2, .pointer (some ⟨B, 3, none⟩))] s2 = some (.slice (some ⟨s2.heap.length, 0, none⟩) 3 3, s2.push (.row 1 (ptrsR B [1, 2, 3]) .act)) := rfl
    have hmk : ∀ f, amkFunc f [rp N] [] = some (mvR f N) := fun f => rfl
    refine ⟨⟨c, b, v, e, ow, de, la⟩, cdL c b v e u4 u5 u6, s9, y6, record_DecodeCoord_1_of rfl ?_, rd9, h9, ?_, fr2.trans (a6.trans (g3.frB.trans (k3.frB.trans (m3.frB.trans fr69)))), f6.bind (a8.bind (g6.bind (k6.bind (m6.bind .pure))))⟩
    · unfold record_DecodeCoord_1
      simp only [record_reader_int_call, f1, ad_atR, Nat.zero_add, st1, hsl, record_reader_nums_call, a1, hmk, record_many_api_Owner_call, g1, record_many_api_Decision_call, k1, record_many_api_Last_call, m1, st7, st8, st9, ret0, n_bind, n_map, getL_0, getL_1, getL_2, getL_3, getL_4, getL_5, getL_6, getL_7, getL_8, getL_9, getL_10, getL_11, getL_12, condV_t, condV_f, guardV_tt, guardV_ff, guardV_tf, guardV_ft, guardV_u, apick_t, apick_f, exV_exit, exV_ret, lookE_same, joinK_eq, seqA_n, seqA_e, seqA_r, e_add, e_sub, e_mul, e_eql, e_neq, e_lss, e_leq, e_gtr, e_geq, e_conv, e_not, e_neg, and_guard, or_guard]
    · have o4 : (oOw.list 24).own s3.heap.length s4.heap.length ow s9 [u4] := OCod.keep _ g5 fun q q1 q2 => by
        rw [fr69.2 q (by omega) (by omega) (by omega), m3.2 q (by omega) fun e => by have := Option.some.inj e; omega, k3.2 q (by omega) fun e => by have := Option.some.inj e; omega]
      have o5 : (oDe.list 56).own s4.heap.length s5.heap.length de s9 [u5] := OCod.keep _ k5 fun q q1 q2 => by
        rw [fr69.2 q (by omega) (by omega) (by omega), m3.2 q (by omega) fun e => by have := Option.some.inj e; omega]
      have o6 : (oLa.list 48).own s5.heap.length s6.heap.length la s9 [u6] := OCod.keep _ m5 fun q q1 q2 => fr69.2 q (by omega) (by omega) (by omega)
      exact ⟨[.int .i64 c], [.int .u64 b, .int .u64 v, .int .u64 e, u4, u5, u6], s.heap.length, rfl, Nat.le_refl _, by omega, ⟨rfl, wc⟩, [.int .u64 b], [.int .u64 v, .int .u64 e, u4, u5, u6], s.heap.length, rfl, Nat.le_refl _, by omega, ⟨rfl, a5 b (by simp)⟩, [.int .u64 v], [.int .u64 e, u4, u5, u6], s.heap.length, rfl, Nat.le_refl _, by omega, ⟨rfl, a5 v (by simp)⟩, [.int .u64 e], [u4, u5, u6], s.heap.length, rfl, Nat.le_refl _, by omega, ⟨rfl, a5 e (by simp)⟩,
        [u4], [u5, u6], s4.heap.length, rfl, by omega, by omega, OCod.mono _ o4 (by omega) (Nat.le_refl _), [u5], [u6], s5.heap.length, rfl, by omega, by omega, o5, [u6], [], s9.heap.length, by simp, by omega, Nat.le_refl _, OCod.mono _ o6 (Nat.le_refl _) (by omega), rfl⟩

end Go.Proofs.YtckpcelchhmjcaaGreat.Ab

/- States are read: a shard's. -/
namespace Go.Proofs.YtckpcelchhmjcaaGreat.Ab
open Go

abbrev nS : Value := .slice none 0 0
abbrev oIn : OCod (Int × Int × Int × Rg) := .map (.pair oU (.pair oU (.pair oU (.pair oPr .unit)))) fun i => (i.1, i.2.1, i.2.2.1, i.2.2.2, ())
def oSd : OCod Sd := .map (.pair oI (.pair oU (.pair oU (.pair oU (.pair oU (.pair (oOw.list 24) (.pair (oHo.list 32) (.pair (oU.list 8) (.pair oU (.pair oU (.pair oPr (.pair oIn .unit))))))))))))
  fun s => (s.id, s.boot, s.ver, s.epoch, s.move, s.owners, s.held, s.fin, s.low, s.frozen, s.cold, (s.im, s.ia, s.inx, s.ir), ())
def pSd : Par Sd := pI.bind fun i => (pU.rep 4).bind fun ns => (pMany pOw).bind fun o => (pMany pHo).bind fun h => (pMany pU).bind fun f => (pU.rep 2).bind fun ms => pPr.bind fun c => (pU.rep 3).bind fun qs => pPr.bind fun r =>
  .pure ⟨i, ns.getD 0 0, ns.getD 1 0, ns.getD 2 0, ns.getD 3 0, o, h, f, ms.getD 0 0, ms.getD 1 0, c, qs.getD 0 0, qs.getD 1 0, qs.getD 2 0, r⟩
def sdL (i b v e m : Int) (o h f : Value) (lw fz : Int) (c1 c2 : BL) (im ia inx : Int) (r1 r2 : BL) : List Value := [.int .i64 i, .int .u64 b, .int .u64 v, .int .u64 e, .int .u64 m, o, h, f, .int .u64 lw, .int .u64 fz, sv c1, sv c2, .int .u64 im, .int .u64 ia, .int .u64 inx, sv r1, sv r2]
theorem sdL_no {i b v e m : Int} {o h f : Value} {lw fz : Int} {c1 c2 : BL} {im ia inx : Int} {r1 r2 : BL} (ho : ∀ q, o ≠ .int .u8 q) (hh : ∀ q, h ≠ .int .u8 q) (hf : ∀ q, f ≠ .int .u8 q) : noU8 (sdL i b v e m o h f lw fz c1 c2 im ia inx r1 r2) := fun c hc q => by
  simp only [sdL, List.mem_cons, List.not_mem_nil, or_false] at hc
  rcases hc with rfl | rfl | rfl | rfl | rfl | rfl | rfl | rfl | rfl | rfl | rfl | rfl | rfl | rfl | rfl | rfl | rfl <;> first | exact ho q | exact hh q | exact hf q | (intro e; cases e)
theorem st_two {s : St} {B n i : Nat} {cells : List Value} (h : s.heap[B]? = some (.row n cells .act)) (hi : i + 2 ≤ cells.length) (r : Rg) : astore 2 (.pointer (some ⟨B, i, none⟩)) (rv r) s = some (s.putB B (.row n (putCells cells i [sv r.1, sv r.2]) .act)) := by
  have h1 : cellsV (rv r) = [sv r.1, sv r.2] := rfl
  have hv : [sv r.1, sv r.2].all isLeaf = true := rfl
  have hl : [sv r.1, sv r.2].length = 2 := rfl
  unfold astore
  simp only [h1]
  rw [if_pos ⟨hl, hv⟩]
  unfold writeN
  simp only [h]
  rw [if_pos (by rw [hl]; exact hi)]

theorem dshard_run {N B : Nat} {s : St} {x : BL × Int} (hx : Rd N s x) (hBN : B < N) (hrow : s.heap[B]? = some (.row 0 (sdL 0 0 0 0 0 nS nS nS 0 0 [] [] 0 0 0 [] []) .act)) :
    ∃ (d : Sd) (cells : List Value) (s' : St) (y : BL × Int), (run Tryz.prog (libL libT) hints) 69 [rp N, .pointer (some ⟨B, 0, none⟩)] s = some (undef, s') ∧ Rd N s' y ∧ s'.heap[B]? = some (.row 0 cells .act) ∧ oSd.own s.heap.length s'.heap.length d s' cells ∧ FrB N B s s' ∧ Does pSd x d y := by
  have hN := hx.lt
  have hNB : N ≠ B := by omega
  have nn : ∀ q, nS ≠ .int .u8 q := fun q e => by cases e
  obtain ⟨i, u1, c1, s1, y1, f1, f2, f3, f4, f5, f6⟩ := i_reads s x hx
  obtain ⟨rfl, wi⟩ := int_valR f5 f4
  have f1 : (run Tryz.prog (libL libT) hints) 70 [rp N] s = some (.int .i64 i, s1) := f1
  have n1 := f3.1
  have h1 : s1.heap[B]? = some (.row 0 (sdL 0 0 0 0 0 nS nS nS 0 0 [] [] 0 0 0 [] []) .act) := by rw [f3.2 B (by omega) fun e => hNB (Option.some.inj e)]; exact hrow
  have st1 : astore 1 (.pointer (some ⟨B, 0, none⟩)) (.int .i64 i) s1 = some (s1.putB B (.row 0 (sdL i 0 0 0 0 nS nS nS 0 0 [] [] 0 0 0 [] []) .act)) := st_cell h1 (by simp [sdL]) rfl rfl
  have rd2 : Rd N (s1.putB B (.row 0 (sdL i 0 0 0 0 nS nS nS 0 0 [] [] 0 0 0 [] []) .act)) y1 := rd_put_row f2 hNB h1 (by simp [sdL]) (sdL_no nn nn nn)
  have h2 : (s1.putB B (.row 0 (sdL i 0 0 0 0 nS nS nS 0 0 [] [] 0 0 0 [] []) .act)).heap[B]? = some (.row 0 (sdL i 0 0 0 0 nS nS nS 0 0 [] [] 0 0 0 [] []) .act) := putB_get (by omega)
  have fr2 : FrB N B s (s1.putB B (.row 0 (sdL i 0 0 0 0 nS nS nS 0 0 [] [] 0 0 0 [] []) .act)) := f3.frB.trans frB_put
  generalize s1.putB B (.row 0 (sdL i 0 0 0 0 nS nS nS 0 0 [] [] 0 0 0 [] []) .act) = s2 at *
  obtain ⟨ns, s3, y3, a1, a2, a3, a4, a5, a6, a8⟩ := nums_runB (js := [1, 2, 3, 4]) (k := 4) rfl (by simp) rd2 hNB h2 (by simp [sdL]) (sdL_no nn nn nn)
  match ns, a2 with
  | [b, v, e, m], _ =>
    have a4 : s3.heap[B]? = some (.row 0 (sdL i b v e m nS nS nS 0 0 [] [] 0 0 0 [] []) .act) := a4
    have n2 := fr2.1
    have n3 := a6.1
    obtain ⟨ow, u4, c4, s4, y4, g1, g2, g3, g4, g5, g6⟩ := many_ow s3 y3 a3
    obtain ⟨rfl, lo4, cv4, no4, _⟩ := list_val g5 g4
    obtain ⟨ho, u5, c5, s5, y5, k1, k2, k3, k4, k5, k6⟩ := many_ho s4 y4 g2
    obtain ⟨rfl, lo5, cv5, no5, _⟩ := list_val k5 k4
    obtain ⟨fi, u6, c6, s6, y6, m1, m2, m3, m4, m5, m6⟩ := many_u s5 y5 k2
    obtain ⟨rfl, lo6, cv6, no6, _⟩ := list_val m5 m4
    have n4 := g3.1
    have n5 := k3.1
    have n6 := m3.1
    have g1 : (run Tryz.prog (libL libT) hints) 72 [rp N, mvR 73 N] s3 = some (u4, s4) := g1
    have k1 : (run Tryz.prog (libL libT) hints) 74 [rp N, mvR 75 N] s4 = some (u5, s5) := k1
    have m1 : (run Tryz.prog (libL libT) hints) 76 [rp N, mvR 77 N] s5 = some (u6, s6) := m1
    have h6 : s6.heap[B]? = some (.row 0 (sdL i b v e m nS nS nS 0 0 [] [] 0 0 0 [] []) .act) := by
      rw [m3.2 B (by omega) fun e => hNB (Option.some.inj e), k3.2 B (by omega) fun e => hNB (Option.some.inj e), g3.2 B (by omega) fun e => hNB (Option.some.inj e)]
      exact a4
    have rd6 := m2
    have st7 : astore 1 (.pointer (some ⟨B, 5, none⟩)) u4 s6 = some (s6.putB B (.row 0 (sdL i b v e m u4 nS nS 0 0 [] [] 0 0 0 [] []) .act)) := st_cell h6 (by simp [sdL]) lo4 cv4
    have h7 : (s6.putB B (.row 0 (sdL i b v e m u4 nS nS 0 0 [] [] 0 0 0 [] []) .act)).heap[B]? = some (.row 0 (sdL i b v e m u4 nS nS 0 0 [] [] 0 0 0 [] []) .act) := putB_get (by omega)
    have rd7 : Rd N (s6.putB B (.row 0 (sdL i b v e m u4 nS nS 0 0 [] [] 0 0 0 [] []) .act)) y6 := rd_put_row rd6 hNB h6 (by simp [sdL]) (sdL_no nn nn nn)
    have fr7 : FrB N B s6 (s6.putB B (.row 0 (sdL i b v e m u4 nS nS 0 0 [] [] 0 0 0 [] []) .act)) := frB_put
    have l7 : (s6.putB B (.row 0 (sdL i b v e m u4 nS nS 0 0 [] [] 0 0 0 [] []) .act)).heap.length = s6.heap.length := putB_len
    generalize s6.putB B (.row 0 (sdL i b v e m u4 nS nS 0 0 [] [] 0 0 0 [] []) .act) = s7 at *
    have st8 : astore 1 (.pointer (some ⟨B, 6, none⟩)) u5 s7 = some (s7.putB B (.row 0 (sdL i b v e m u4 u5 nS 0 0 [] [] 0 0 0 [] []) .act)) := st_cell h7 (by simp [sdL]) lo5 cv5
    have h8 : (s7.putB B (.row 0 (sdL i b v e m u4 u5 nS 0 0 [] [] 0 0 0 [] []) .act)).heap[B]? = some (.row 0 (sdL i b v e m u4 u5 nS 0 0 [] [] 0 0 0 [] []) .act) := putB_get (by omega)
    have rd8 : Rd N (s7.putB B (.row 0 (sdL i b v e m u4 u5 nS 0 0 [] [] 0 0 0 [] []) .act)) y6 := rd_put_row rd7 hNB h7 (by simp [sdL]) (sdL_no no4 nn nn)
    have fr8 : FrB N B s7 (s7.putB B (.row 0 (sdL i b v e m u4 u5 nS 0 0 [] [] 0 0 0 [] []) .act)) := frB_put
    have l8 : (s7.putB B (.row 0 (sdL i b v e m u4 u5 nS 0 0 [] [] 0 0 0 [] []) .act)).heap.length = s7.heap.length := putB_len
    generalize s7.putB B (.row 0 (sdL i b v e m u4 u5 nS 0 0 [] [] 0 0 0 [] []) .act) = s8 at *
    have st9 : astore 1 (.pointer (some ⟨B, 7, none⟩)) u6 s8 = some (s8.putB B (.row 0 (sdL i b v e m u4 u5 u6 0 0 [] [] 0 0 0 [] []) .act)) := st_cell h8 (by simp [sdL]) lo6 cv6
    have h9 : (s8.putB B (.row 0 (sdL i b v e m u4 u5 u6 0 0 [] [] 0 0 0 [] []) .act)).heap[B]? = some (.row 0 (sdL i b v e m u4 u5 u6 0 0 [] [] 0 0 0 [] []) .act) := putB_get (by omega)
    have rd9 : Rd N (s8.putB B (.row 0 (sdL i b v e m u4 u5 u6 0 0 [] [] 0 0 0 [] []) .act)) y6 := rd_put_row rd8 hNB h8 (by simp [sdL]) (sdL_no no4 no5 nn)
    have fr9 : FrB N B s8 (s8.putB B (.row 0 (sdL i b v e m u4 u5 u6 0 0 [] [] 0 0 0 [] []) .act)) := frB_put
    have l9 : (s8.putB B (.row 0 (sdL i b v e m u4 u5 u6 0 0 [] [] 0 0 0 [] []) .act)).heap.length = s8.heap.length := putB_len
    generalize s8.putB B (.row 0 (sdL i b v e m u4 u5 u6 0 0 [] [] 0 0 0 [] []) .act) = s9 at *
    obtain ⟨ms, sA, yA, A1, A2, A3, A4, A5, A6, A8⟩ := nums_runB (js := [8, 9]) (k := 2) rfl (by simp) rd9 hNB h9 (by simp [sdL]) (sdL_no no4 no5 no6)
    match ms, A2 with
    | [lw, fz], _ =>
      have A4 : sA.heap[B]? = some (.row 0 (sdL i b v e m u4 u5 u6 lw fz [] [] 0 0 0 [] []) .act) := A4
      have nA := A6.1
      obtain ⟨cc, uB, cB, sB, yB, B1, B2, B3, B4, B5, B6⟩ := span_runR sA yA A3
      obtain ⟨rfl, _⟩ := B5
      have B4 : uB = rv cc := B4
      subst B4
      have B1 : (run Tryz.prog (libL libT) hints) 78 [rp N] sA = some (rv cc, sB) := B1
      have nB := B3.1
      have hB : sB.heap[B]? = some (.row 0 (sdL i b v e m u4 u5 u6 lw fz [] [] 0 0 0 [] []) .act) := by rw [B3.2 B (by omega) fun e => hNB (Option.some.inj e)]; exact A4
      have stC : astore 2 (.pointer (some ⟨B, 10, none⟩)) (rv cc) sB = some (sB.putB B (.row 0 (sdL i b v e m u4 u5 u6 lw fz cc.1 cc.2 0 0 0 [] []) .act)) := st_two hB (by simp [sdL]) cc
      have hC : (sB.putB B (.row 0 (sdL i b v e m u4 u5 u6 lw fz cc.1 cc.2 0 0 0 [] []) .act)).heap[B]? = some (.row 0 (sdL i b v e m u4 u5 u6 lw fz cc.1 cc.2 0 0 0 [] []) .act) := putB_get (by omega)
      have rdC : Rd N (sB.putB B (.row 0 (sdL i b v e m u4 u5 u6 lw fz cc.1 cc.2 0 0 0 [] []) .act)) yB := rd_put_row B2 hNB hB (by simp [sdL]) (sdL_no no4 no5 no6)
      have frC : FrB N B sB (sB.putB B (.row 0 (sdL i b v e m u4 u5 u6 lw fz cc.1 cc.2 0 0 0 [] []) .act)) := frB_put
      generalize sB.putB B (.row 0 (sdL i b v e m u4 u5 u6 lw fz cc.1 cc.2 0 0 0 [] []) .act) = sC at *
      obtain ⟨qs, sD, yD, D1, D2, D3, D4, D5, D6, D8⟩ := nums_runB (js := [12, 13, 14]) (k := 3) rfl (by simp) rdC hNB hC (by simp [sdL]) (sdL_no no4 no5 no6)
      match qs, D2 with
      | [im, ia, inx], _ =>
        have D4 : sD.heap[B]? = some (.row 0 (sdL i b v e m u4 u5 u6 lw fz cc.1 cc.2 im ia inx [] []) .act) := D4
        have nC := frC.1
        have nD := D6.1
        obtain ⟨rr, uE, cE, sE, yE, E1, E2, E3, E4, E5, E6⟩ := span_runR sD yD D3
        obtain ⟨rfl, _⟩ := E5
        have E4 : uE = rv rr := E4
        subst E4
        have E1 : (run Tryz.prog (libL libT) hints) 78 [rp N] sD = some (rv rr, sE) := E1
        have nE := E3.1
        have hE : sE.heap[B]? = some (.row 0 (sdL i b v e m u4 u5 u6 lw fz cc.1 cc.2 im ia inx [] []) .act) := by rw [E3.2 B (by omega) fun e => hNB (Option.some.inj e)]; exact D4
        have stF : astore 2 (.pointer (some ⟨B, 15, none⟩)) (rv rr) sE = some (sE.putB B (.row 0 (sdL i b v e m u4 u5 u6 lw fz cc.1 cc.2 im ia inx rr.1 rr.2) .act)) := st_two hE (by simp [sdL]) rr
        have hF : (sE.putB B (.row 0 (sdL i b v e m u4 u5 u6 lw fz cc.1 cc.2 im ia inx rr.1 rr.2) .act)).heap[B]? = some (.row 0 (sdL i b v e m u4 u5 u6 lw fz cc.1 cc.2 im ia inx rr.1 rr.2) .act) := putB_get (by omega)
        have rdF : Rd N (sE.putB B (.row 0 (sdL i b v e m u4 u5 u6 lw fz cc.1 cc.2 im ia inx rr.1 rr.2) .act)) yE := rd_put_row E2 hNB hE (by simp [sdL]) (sdL_no no4 no5 no6)
        have frF : FrB N B sE (sE.putB B (.row 0 (sdL i b v e m u4 u5 u6 lw fz cc.1 cc.2 im ia inx rr.1 rr.2) .act)) := frB_put
        generalize sE.putB B (.row 0 (sdL i b v e m u4 u5 u6 lw fz cc.1 cc.2 im ia inx rr.1 rr.2) .act) = sF at *
        have nF := frF.1
        have fr6F : FrB N B s6 sF := fr7.trans (fr8.trans (fr9.trans (A6.trans (B3.frB.trans (frC.trans (D6.trans (E3.frB.trans frF)))))))
        have s4l : ∀ a b c d s, abuildSl 1 [(.pointer none)] 4 [(0, .pointer (some ⟨B, a, none⟩)), (1, .pointer (some ⟨B, b, none⟩)), (2, .pointer (some ⟨B, c, none⟩)), (3, .pointer (some ⟨B, d, none⟩))] s = some (.slice (some ⟨s.heap.length, 0, none⟩) 4 4, s.push (.row 1 (ptrsR B [a, b, c, d]) .act)) := fun _ _ _ _ _ => rfl
        have s2l : ∀ a b s, abuildSl 1 [(.pointer none)] 2 [(0, .pointer (some ⟨B, a, none⟩)), (1, .pointer (some ⟨B, b, none⟩))] s = some (.slice (some ⟨s.heap.length, 0, none⟩) 2 2, s.push (.row 1 (ptrsR B [a, b]) .act)) := fun _ _ _ => rfl
        have s3l : ∀ a b c s, abuildSl 1 [(.pointer none)] 3 [(0, .pointer (some ⟨B, a, none⟩)), (1, .pointer (some ⟨B, b, none⟩)), (2, .pointer (some ⟨B, c, none⟩))] s = some (.slice (some ⟨s.heap.length, 0, none⟩) 3 3, s.push (.row 1 (ptrsR B [a, b, c]) .act)) := fun _ _ _ _ => rfl
        have hmk : ∀ f, amkFunc f [rp N] [] = some (mvR f N) := fun f => rfl
        refine ⟨⟨i, b, v, e, m, ow, ho, fi, lw, fz, cc, im, ia, inx, rr⟩, (sdL i b v e m u4 u5 u6 lw fz cc.1 cc.2 im ia inx rr.1 rr.2), sF, yE, record_DecodeShard_1_of rfl ?_, rdF, hF, ?_, fr2.trans (a6.trans (g3.frB.trans (k3.frB.trans (m3.frB.trans fr6F)))), f6.bind (a8.bind (g6.bind (k6.bind (m6.bind (A8.bind (B6.bind (D8.bind (E6.bind .pure))))))))⟩
        · unfold record_DecodeShard_1
          simp only [record_reader_int_call, f1, ad_atR, Nat.zero_add, Nat.add_zero, Nat.reduceAdd, st1, s4l, record_reader_nums_call, a1, hmk, record_many_api_Owner_call, g1, record_many_api_Hold_call, k1, record_many_uint64_call, m1, st7, st8, st9, s2l, A1, record_reader_span_call, B1, stC, s3l, D1, E1, stF, ret0, n_bind, n_map, getL_0, getL_1, getL_2, getL_3, getL_4, getL_5, getL_6, getL_7, getL_8, getL_9, getL_10, getL_11, getL_12, condV_t, condV_f, guardV_tt, guardV_ff, guardV_tf, guardV_ft, guardV_u, apick_t, apick_f, exV_exit, exV_ret, lookE_same, joinK_eq, seqA_n, seqA_e, seqA_r, e_add, e_sub, e_mul, e_eql, e_neq, e_lss, e_leq, e_gtr, e_geq, e_conv, e_not, e_neg, and_guard, or_guard]
        · have o4 : (oOw.list 24).own s3.heap.length s4.heap.length ow sF [u4] := OCod.keep _ g5 fun q q1 q2 => by
            rw [fr6F.2 q (by omega) (by omega) (by omega), m3.2 q (by omega) fun e => by have := Option.some.inj e; omega, k3.2 q (by omega) fun e => by have := Option.some.inj e; omega]
          have o5 : (oHo.list 32).own s4.heap.length s5.heap.length ho sF [u5] := OCod.keep _ k5 fun q q1 q2 => by
            rw [fr6F.2 q (by omega) (by omega) (by omega), m3.2 q (by omega) fun e => by have := Option.some.inj e; omega]
          have o6 : (oU.list 8).own s5.heap.length s6.heap.length fi sF [u6] := OCod.keep _ m5 fun q q1 q2 => fr6F.2 q (by omega) (by omega) (by omega)
          have hlo : s.heap.length ≤ s3.heap.length := by omega
          have hhi : s6.heap.length ≤ sF.heap.length := fr6F.1
          exact ⟨[_], _, s.heap.length, rfl, Nat.le_refl _, by omega, ⟨rfl, wi⟩, [_], _, s.heap.length, rfl, Nat.le_refl _, by omega, ⟨rfl, a5 b (by simp)⟩, [_], _, s.heap.length, rfl, Nat.le_refl _, by omega, ⟨rfl, a5 v (by simp)⟩, [_], _, s.heap.length, rfl, Nat.le_refl _, by omega, ⟨rfl, a5 e (by simp)⟩, [_], _, s.heap.length, rfl, Nat.le_refl _, by omega, ⟨rfl, a5 m (by simp)⟩,
            [u4], _, s4.heap.length, rfl, by omega, by omega, OCod.mono _ o4 (by omega) (Nat.le_refl _), [u5], _, s5.heap.length, rfl, by omega, by omega, o5, [u6], _, s6.heap.length, rfl, by omega, hhi, OCod.mono _ o6 (Nat.le_refl _) (Nat.le_refl _),
            [_], _, s6.heap.length, rfl, Nat.le_refl _, hhi, ⟨rfl, A5 lw (by simp)⟩, [_], _, s6.heap.length, rfl, Nat.le_refl _, hhi, ⟨rfl, A5 fz (by simp)⟩, [_, _], _, s6.heap.length, rfl, Nat.le_refl _, hhi, ⟨rfl, trivial⟩,
            [_, _, _, _, _], [], sF.heap.length, by simp, hhi, Nat.le_refl _, ⟨[_], _, s6.heap.length, rfl, Nat.le_refl _, hhi, ⟨rfl, D5 im (by simp)⟩, [_], _, s6.heap.length, rfl, Nat.le_refl _, hhi, ⟨rfl, D5 ia (by simp)⟩, [_], _, s6.heap.length, rfl, Nat.le_refl _, hhi, ⟨rfl, D5 inx (by simp)⟩, [_, _], [], s6.heap.length, rfl, Nat.le_refl _, hhi, ⟨rfl, trivial⟩, rfl⟩, rfl⟩

end Go.Proofs.YtckpcelchhmjcaaGreat.Ab

/- States are read: the first byte. -/
namespace Go.Proofs.YtckpcelchhmjcaaGreat.Ab
open Go

def pMark (c : Nat) : Par Unit := fun r => match r with
  | [] => .error 10
  | d :: r => if d.toNat = c then .ok ((), r) else .error 11
theorem mark_run {N c : Nat} {s : St} {l : BL} (hx : Rd N s (l, 0)) : ∃ (s' : St) (y : BL × Int), (run Tryz.prog (libL libT) hints) 120 [rp N, .int .u8 (c : Int)] s = some (undef, s') ∧ Rd N s' y ∧ Keep (some N) s s' ∧ Does (pMark c) (l, 0) () y := by
  obtain ⟨v, h⟩ := hx
  cases hl : l with
  | nil =>
    subst hl
    have h1 : ((([] : BL).length : Int) == 0) = true := rfl
    refine ⟨_, ([], 10), record_reader_mark_of rfl ?_, h.seterr 10, setR_keep, .of_err rfl (e := 10) rfl (by decide) rfl⟩
    unfold record_reader_mark
    simp only [rp_nil, rp_f0, h.ld0, bytes_len h.byt, h1, record_reader_fail_call, fail_run h rfl 10, ret0, n_bind, n_map, getL_0, getL_1, getL_2, getL_3, getL_4, getL_5, getL_6, getL_7, getL_8, getL_9, getL_10, getL_11, getL_12, condV_t, condV_f, guardV_tt, guardV_ff, guardV_tf, guardV_ft, guardV_u, apick_t, apick_f, exV_exit, exV_ret, lookE_same, joinK_eq, seqA_n, seqA_e, seqA_r, e_add, e_sub, e_mul, e_eql, e_neq, e_lss, e_leq, e_gtr, e_geq, e_conv, e_not, e_neg, and_guard, or_guard]
  | cons d r =>
    subst hl
    have h1 : (((d :: r).length : Int) == 0) = false := by simp; omega
    obtain ⟨p, f1, f2⟩ := bytes_at h.byt (i := 0) (by simp) (k := .i64)
    obtain ⟨u, g1, g2, g3⟩ := h.drop (i := 1) (by simp) (k := .i64)
    have f2 : aload false 1 p s = some (.int .u8 ((d.toNat : Nat) : Int)) := f2
    have f1' : aindexS 1 v (.int .i64 0) = some p := f1
    have g1' : asliceV 1 v (some (.int .i64 1)) none none = some u := g1
    by_cases hc : d.toNat = c
    · have h2 : (((d.toNat : Nat) : Int) != (c : Int)) = false := by simp [hc]
      refine ⟨_, (r, 0), record_reader_mark_of rfl ?_, g3, setR_keep, .of_ok rfl (by show (if d.toNat = c then _ else _) = _; rw [if_pos hc]) rfl⟩
      unfold record_reader_mark
      simp only [rp_nil, rp_f0, h.ld0, bytes_len h.byt, h1, f1', f2, h2, g1', g2, ret0, n_bind, n_map, getL_0, getL_1, getL_2, getL_3, getL_4, getL_5, getL_6, getL_7, getL_8, getL_9, getL_10, getL_11, getL_12, condV_t, condV_f, guardV_tt, guardV_ff, guardV_tf, guardV_ft, guardV_u, apick_t, apick_f, exV_exit, exV_ret, lookE_same, joinK_eq, seqA_n, seqA_e, seqA_r, e_add, e_sub, e_mul, e_eql, e_neq, e_lss, e_leq, e_gtr, e_geq, e_conv, e_not, e_neg, and_guard, or_guard]
    · have h2 : (((d.toNat : Nat) : Int) != (c : Int)) = true := by simp; omega
      refine ⟨_, (d :: r, 11), record_reader_mark_of rfl ?_, h.seterr 11, setR_keep, .of_err rfl (e := 11) (by show (if d.toNat = c then _ else _) = _; rw [if_neg hc]) (by decide) rfl⟩
      unfold record_reader_mark
      simp only [rp_nil, rp_f0, h.ld0, bytes_len h.byt, h1, f1', f2, h2, record_reader_fail_call, fail_run h rfl 11, ret0, n_bind, n_map, getL_0, getL_1, getL_2, getL_3, getL_4, getL_5, getL_6, getL_7, getL_8, getL_9, getL_10, getL_11, getL_12, condV_t, condV_f, guardV_tt, guardV_ff, guardV_tf, guardV_ft, guardV_u, apick_t, apick_f, exV_exit, exV_ret, lookE_same, joinK_eq, seqA_n, seqA_e, seqA_r, e_add, e_sub, e_mul, e_eql, e_neq, e_lss, e_leq, e_gtr, e_geq, e_conv, e_not, e_neg, and_guard, or_guard]

end Go.Proofs.YtckpcelchhmjcaaGreat.Ab

/- States are read: all of some bytes. -/
namespace Go.Proofs.YtckpcelchhmjcaaGreat.Ab
open Go

def Body {α : Type} (B : Nat) (cells : List Value) (O : OCod α) (p : Par α) (fv : Value) : Prop :=
  ∀ (N : Nat) (s : St) (x : BL × Int), Rd N s x → B < N → s.heap[B]? = some (.row 0 cells .act) → ∃ (a : α) (cs : List Value) (s' : St) (y : BL × Int), callV Tryz.prog (run Tryz.prog (libL libT) hints) fv [rp N] s = some (undef, s') ∧ Rd N s' y ∧ s'.heap[B]? = some (.row 0 cs .act) ∧ O.own s.heap.length s'.heap.length a s' cs ∧ FrB N B s s' ∧ Does p x a y
def readAll {α : Type} (c : Nat) (p : Par α) (b : BL) : Except Int α := if 8192 < b.length then .error 2 else
  match ((pMark c).bind fun _ => p) b with
  | .error e => .error e
  | .ok (a, []) => .ok a
  | .ok (_, _ :: _) => .error 11
theorem ab_rdr {b o len cap : Nat} : abuild Tryz.prog 170 [(0, .slice (some ⟨b, o, none⟩) len cap)] = some (.agg #[.slice (some ⟨b, o, none⟩) len cap, .int .i64 0]) := by kernel_rfl
theorem ab_rdr0 : abuild Tryz.prog 170 [(0, .slice none 0 0)] = some (.agg #[.slice none 0 0, .int .i64 0]) := by kernel_rfl
theorem read_run {α : Type} {B c : Nat} {cells : List Value} {O : OCod α} {p : Par α} {fv v : Value} {b : BL} {s : St} (hF : Body B cells O p fv) (hv : bytesOf v s = some b) (hl : b.length ≤ 140737488355328) (hB : s.heap[B]? = some (.row 0 cells .act)) :
    ∃ (e : Int) (s' : St), (run Tryz.prog (libL libT) hints) 68 [v, .int .u8 (c : Int), fv] s = some (.int .i64 e, s') ∧ FrB s.heap.length B s s' ∧
      ((e ≠ 0 ∧ readAll c p b = .error e) ∨ (e = 0 ∧ ∃ a cs, readAll c p b = .ok a ∧ s'.heap[B]? = some (.row 0 cs .act) ∧ O.own (s.heap.length + 1) s'.heap.length a s' cs)) := by
  have hBl : B < s.heap.length := (List.getElem?_eq_some_iff.1 hB).1
  by_cases hb : 8192 < b.length
  · have h1 : decide (((b.length : Nat) : Int) > 8192) = true := by simp; omega
    refine ⟨2, s, record_read_of rfl ?_, .refl _ _ _, .inl ⟨by decide, by unfold readAll; rw [if_pos hb]⟩⟩
    unfold record_read
    simp only [bytes_len hv, h1, n_bind, n_map, getL_0, getL_1, getL_2, getL_3, getL_4, getL_5, getL_6, getL_7, getL_8, getL_9, getL_10, getL_11, getL_12, condV_t, condV_f, guardV_tt, guardV_ff, guardV_tf, guardV_ft, guardV_u, apick_t, apick_f, exV_exit, exV_ret, lookE_same, joinK_eq, seqA_n, seqA_e, seqA_r, e_add, e_sub, e_mul, e_eql, e_neq, e_lss, e_leq, e_gtr, e_geq, e_conv, e_not, e_neg, and_guard, or_guard]
    exact ret1 rfl
  · have h1 : decide (((b.length : Nat) : Int) > 8192) = false := by simp; omega
    obtain ⟨hlf, hcv, _⟩ := blk_slice hv
    have hab : abuild Tryz.prog 170 [(0, v)] = some (.agg #[v, .int .i64 0]) := by
      unfold bytesOf at hv
      simp only [Option.bind_eq_some_iff] at hv
      obtain ⟨cs, g1, _⟩ := hv
      unfold cellsOf at g1
      split at g1
      · exact ab_rdr0
      · exact ab_rdr
      · cases g1
    have hnw : anew (cellsV (.agg #[v, .int .i64 0])) s = some (rp s.heap.length, s.push (.row 0 [v, .int .i64 0] .act)) := anew_cells (cs := [v, .int .i64 0]) (by simp only [List.all_cons, hlf, List.all_nil]; rfl) s
    have rd0 := rd_new hv hl
    obtain ⟨s1, y1, m1, m2, m3, m4⟩ := mark_run (c := c) rd0
    have l0 : (s.push (.row 0 [v, .int .i64 0] .act)).heap.length = s.heap.length + 1 := push_len
    have hB0 : (s.push (.row 0 [v, .int .i64 0] .act)).heap[B]? = some (.row 0 cells .act) := by rw [push_old hBl]; exact hB
    have fr0 : FrB s.heap.length B s (s.push (.row 0 [v, .int .i64 0] .act)) := frB_push
    generalize s.push (.row 0 [v, .int .i64 0] .act) = s0 at *
    have n1 := m3.1
    have hB1 : s1.heap[B]? = some (.row 0 cells .act) := by rw [m3.2 B (by omega) fun e => by have := Option.some.inj e; omega]; exact hB0
    obtain ⟨a, cs, s2, y2, b1, b2, b3, b4, b5, b6⟩ := hF s.heap.length s1 y1 m2 hBl hB1
    have hD : Does ((pMark c).bind fun _ => p) (b, 0) a y2 := m4.bind b6
    obtain ⟨w, hw⟩ := b2
    have hl2 : ∀ t s3, alenV (.slice t) w s3 = some (.int .i64 ((y2.1.length : Nat) : Int)) := fun t s3 => bytes_len hw.byt
    have hr1 : ∀ (n : Int) (s : St), retV [.int .i64 n] s = some (.int .i64 n, s) := fun n s => ret1 rfl
    have fr2 : FrB s.heap.length B s s2 := fr0.trans (m3.frB.trans b5)
    have hnl : readAll c p b = match ((pMark c).bind fun _ => p) b with
        | .error e => .error e
        | .ok (a, []) => .ok a
        | .ok (_, _ :: _) => .error 11 := by unfold readAll; rw [if_neg hb]
    by_cases hy : y2.2 = 0
    · have hok := hD.ok_of rfl hy
      cases hr : y2.1 with
      | nil =>
        have d1 : decide (((y2.1.length : Nat) : Int) > 0) = false := by rw [hr]; rfl
        refine ⟨y2.2, s2, record_read_of rfl ?_, fr2, .inr ⟨hy, a, cs, by rw [hnl, hok, hr], b3, OCod.mono _ b4 (by omega) (Nat.le_refl _)⟩⟩
        unfold record_read
        simp only [bytes_len hv, h1, hab, hnw, record_reader_mark_call, m1, b1, rp_nil, rp_f0, rp_f1, hw.ld0, hw.ld1, hl2, d1, joinK_eq, record_read.j0, hr1, n_bind, n_map, getL_0, getL_1, getL_2, getL_3, getL_4, getL_5, getL_6, getL_7, getL_8, getL_9, getL_10, getL_11, getL_12, condV_t, condV_f, guardV_tt, guardV_ff, guardV_tf, guardV_ft, guardV_u, apick_t, apick_f, exV_exit, exV_ret, lookE_same, joinK_eq, seqA_n, seqA_e, seqA_r, e_add, e_sub, e_mul, e_eql, e_neq, e_lss, e_leq, e_gtr, e_geq, e_conv, e_not, e_neg, and_guard, or_guard]
      | cons q r =>
        have d1 : decide (((y2.1.length : Nat) : Int) > 0) = true := by rw [hr]; simp
        obtain ⟨w', hw'⟩ := hw.seterr 11
        have l1 := hw'.ld1
        refine ⟨11, setR s.heap.length w 11 s2, record_read_of rfl ?_, fr2.trans (Keep.frB setR_keep), .inl ⟨by decide, by rw [hnl, hok, hr]⟩⟩
        unfold record_read
        simp only [bytes_len hv, h1, hab, hnw, record_reader_mark_call, m1, b1, rp_nil, rp_f0, rp_f1, hw.ld0, hl2, d1, record_reader_fail_call, fail_run hw hy 11, joinK_eq, record_read.j0, l1, hr1, n_bind, n_map, getL_0, getL_1, getL_2, getL_3, getL_4, getL_5, getL_6, getL_7, getL_8, getL_9, getL_10, getL_11, getL_12, condV_t, condV_f, guardV_tt, guardV_ff, guardV_tf, guardV_ft, guardV_u, apick_t, apick_f, exV_exit, exV_ret, lookE_same, joinK_eq, seqA_n, seqA_e, seqA_r, e_add, e_sub, e_mul, e_eql, e_neq, e_lss, e_leq, e_gtr, e_geq, e_conv, e_not, e_neg, and_guard, or_guard]
    · have herr := hD.err_of rfl hy
      refine ⟨y2.2, s2, record_read_of rfl ?_, fr2, .inl ⟨hy, by rw [hnl, herr]⟩⟩
      unfold record_read
      by_cases d : ((y2.1.length : Nat) : Int) > 0
      · simp only [bytes_len hv, h1, hab, hnw, record_reader_mark_call, m1, b1, rp_nil, rp_f0, rp_f1, hw.ld0, hw.ld1, hl2, decide_eq_true d, record_reader_fail_call, fail_no hw hy 11, joinK_eq, record_read.j0, hr1, n_bind, n_map, getL_0, getL_1, getL_2, getL_3, getL_4, getL_5, getL_6, getL_7, getL_8, getL_9, getL_10, getL_11, getL_12, condV_t, condV_f, guardV_tt, guardV_ff, guardV_tf, guardV_ft, guardV_u, apick_t, apick_f, exV_exit, exV_ret, lookE_same, joinK_eq, seqA_n, seqA_e, seqA_r, e_add, e_sub, e_mul, e_eql, e_neq, e_lss, e_leq, e_gtr, e_geq, e_conv, e_not, e_neg, and_guard, or_guard]
      · simp only [bytes_len hv, h1, hab, hnw, record_reader_mark_call, m1, b1, rp_nil, rp_f0, rp_f1, hw.ld0, hw.ld1, hl2, decide_eq_false d, joinK_eq, record_read.j0, hr1, n_bind, n_map, getL_0, getL_1, getL_2, getL_3, getL_4, getL_5, getL_6, getL_7, getL_8, getL_9, getL_10, getL_11, getL_12, condV_t, condV_f, guardV_tt, guardV_ff, guardV_tf, guardV_ft, guardV_u, apick_t, apick_f, exV_exit, exV_ret, lookE_same, joinK_eq, seqA_n, seqA_e, seqA_r, e_add, e_sub, e_mul, e_eql, e_neq, e_lss, e_leq, e_gtr, e_geq, e_conv, e_not, e_neg, and_guard, or_guard]

end Go.Proofs.YtckpcelchhmjcaaGreat.Ab

/- Numbers' bytes: how long, what is read behind them, and back. -/
namespace Go.Proofs.YtckpcelchhmjcaaGreat.Ab
open Go

theorem hn_enc {n : Nat} (h : n < 18446744073709551616) : hn (enc n) = n := hn_encF 10 n (Nat.lt_of_lt_of_le h (by decide))
theorem readNum_enc {n : Nat} (h : n < 18446744073709551616) (rest : List UInt8) : readNum (enc n ++ rest) = (n, (enc n).length, 0) := by
  obtain ⟨pre, c, he, h1, h2, h3⟩ := enc_canon h
  have hl := @enc_len n
  have hh := hn_enc h
  rw [he] at hl hh
  simp only [List.length_append, List.length_cons, List.length_nil] at hl
  unfold readNum
  rw [he, List.append_assoc, List.singleton_append, rdN_low pre c rest 0 0 h1 h2 (by omega)]
  have hc : ¬ (0 + pre.length = 9 ∧ 1 < c.toNat) := by
    rintro ⟨hp, hc⟩
    have : hn (pre ++ [c]) = hn pre + 128 ^ pre.length * hn [c] := hn_append pre [c]
    rw [hh] at this
    have e9 : pre.length = 9 := by omega
    rw [e9] at this
    have e1 : hn [c] = c.toNat := by simp only [hn]; omega
    rw [e1] at this
    have : (128 : Nat) ^ 9 * 2 ≤ 128 ^ 9 * c.toNat := Nat.mul_le_mul_left _ hc
    have e2 : (128 : Nat) ^ 9 * 2 = 18446744073709551616 := by decide
    omega
  rw [if_neg hc, if_neg (by rintro ⟨hz, hp⟩; have := h3 hz; rw [this] at hp; simp at hp)]
  simp only [Option.getD_some, Nat.mul_zero, Nat.pow_zero, Nat.one_mul, Nat.zero_add, List.length_append, List.length_cons, List.length_nil, hh]
theorem enc_readNum {l : List UInt8} (h : (readNum l).2.2 = 0) : enc (readNum l).1 = l.take (readNum l).2.1 := by
  rw [← refRead_eq] at h ⊢
  unfold refRead at h ⊢
  cases hf : findLow 10 l with
  | none =>
    rw [hf] at h
    simp only at h
    split at h <;> cases h
  | some d =>
    rw [hf] at h
    simp only at h ⊢
    split at h
    · rename_i he
      rw [if_pos he]
      exact he
    · cases h

end Go.Proofs.YtckpcelchhmjcaaGreat.Ab

/- Bytes are written: the writer, and what its methods append. -/
namespace Go.Proofs.YtckpcelchhmjcaaGreat.Ab
open Go

abbrev wP (N : Nat) : Value := .pointer (some ⟨N, 0, none⟩)
abbrev unitV : Value := .tuple #[]
def Wt (lo N : Nat) (s : St) (x : Value) (l : BL) : Prop := lo ≤ N ∧ s.heap[N]? = some (.row 0 [x] .act) ∧ Own lo 1 s x (bv l) ∧ blkOf x ≠ some N
def WAp (lo N : Nat) (s t : St) (m : BL) : Prop := ∃ x y, s.heap[N]? = some (.row 0 [x] .act) ∧ Wt lo N t y m ∧ s.heap.length ≤ t.heap.length ∧ (∀ b, b < s.heap.length → b ≠ N → blkOf x ≠ some b → t.heap[b]? = s.heap[b]?) ∧ Fresh s x y ∧ (∀ c, blkOf x = some c → lo ≤ c)
theorem Wt.start {lo N : Nat} {s : St} {x : Value} {l : BL} (h : Wt lo N s x l) : WAp lo N s s l := ⟨x, x, h.2.1, h, Nat.le_refl _, fun _ _ _ _ => rfl, .inl rfl, fun c hc => (h.2.2.1.blk c hc).1⟩
theorem WAp.trans {lo N : Nat} {s t u : St} {m m2 : BL} (h : WAp lo N s t m) (g : WAp lo N t u m2) : WAp lo N s u m2 := by
  obtain ⟨x, y, h1, h2, h3, h4, h5, h6⟩ := h
  obtain ⟨y', z, g1, g2, g3, g4, g5, g6⟩ := g
  obtain rfl : y = y' := by
    have := h2.2.1.symm.trans g1
    simpa using this
  refine ⟨x, z, h1, g2, Nat.le_trans h3 g3, fun b hb hN hne => ?_, ?_, h6⟩
  · rw [g4 b (Nat.lt_of_lt_of_le hb h3) hN fun e => ?_, h4 b hb hN hne]
    rcases h5 with h | h
    · exact hne (by rw [← h]; exact e)
    · exact absurd (h b e) (by omega)
  · rcases g5 with g | g
    · rcases h5 with h | h
      · exact .inl (g.trans h)
      · exact .inr fun c hc => h c (by rw [← g]; exact hc)
    · exact .inr fun c hc => Nat.le_trans h3 (g c hc)
theorem WAp.ext {lo N : Nat} {s t : St} {m : BL} (h : WAp lo N s t m) (hs : lo ≤ s.heap.length) : Ext lo s t := by
  obtain ⟨x, y, h1, h2, h3, h4, h5, h6⟩ := h
  exact ⟨h3, fun b hb => h4 b (by omega) (by have := h2.1; omega) fun e => by have := h6 b e; omega⟩
theorem WAp.get {lo N : Nat} {s t : St} {m : BL} (h : WAp lo N s t m) {P : Nat} {B : Blk} (hP : s.heap[P]? = some B) (hN : P ≠ N) (hx : ∀ x, s.heap[N]? = some (.row 0 [x] .act) → blkOf x ≠ some P) : t.heap[P]? = some B := by
  obtain ⟨x, y, h1, h2, h3, h4, h5, h6⟩ := h
  rw [h4 P (List.getElem?_eq_some_iff.1 hP).1 hN (hx x h1)]
  exact hP
theorem WAp.wt {lo N : Nat} {s t : St} {m : BL} (h : WAp lo N s t m) : ∃ y, Wt lo N t y m := by
  obtain ⟨x, y, h1, h2, _⟩ := h
  exact ⟨y, h2⟩
theorem own_pushW {N : Nat} {s : St} {x : Value} {cs : List Value} {B : Blk} (h : Own N 1 s x cs) : Own N 1 (s.push B) x cs := by
  rcases h with h | ⟨b, len, rfl, h1, h2, h3, h4⟩
  · exact .inl h
  · refine .inr ⟨b, len, rfl, h1, ?_, h3, h4⟩
    simp only [St.push]
    rw [List.getElem?_append_left (List.getElem?_eq_some_iff.1 h2).1]
    exact h2
theorem Wt.push {lo N : Nat} {s : St} {x : Value} {l : BL} {B : Blk} (h : Wt lo N s x l) : Wt lo N (s.push B) x l := by
  refine ⟨h.1, ?_, own_pushW h.2.2.1, h.2.2.2⟩
  simp only [St.push]
  rw [List.getElem?_append_left (List.getElem?_eq_some_iff.1 h.2.1).1]
  exact h.2.1
theorem WAp.push {lo N : Nat} {s t : St} {m : BL} {x0 : Value} {l0 : BL} {B : Blk} (hw : Wt lo N s x0 l0) (h : WAp lo N (s.push B) t m) : WAp lo N s t m := by
  obtain ⟨x, y, h1, h2, h3, h4, h5, h6⟩ := h
  rw [push_len] at h3
  obtain rfl : x0 = x := by
    have := (hw.push (B := B)).2.1.symm.trans h1
    simpa using this
  refine ⟨x0, y, hw.2.1, h2, by omega, fun b hb hN hne => ?_, ?_, h6⟩
  · rw [h4 b (by rw [push_len]; omega) hN hne]
    simp only [St.push]
    rw [List.getElem?_append_left hb]
  · rcases h5 with h | h
    · exact .inl h
    · exact .inr fun c hc => by have := h c hc; rw [push_len] at this; omega
theorem wt_new {lo N : Nat} {s : St} {x : Value} {l m : BL} (h : Wt lo N s x l) (hs : lo ≤ s.heap.length) (hb : l.length + m.length ≤ 140737488355328) :
    ∃ r t, aappend 1 1 x (newBytes m s).1 (newBytes m s).2 = some r ∧ (newBytes m s).2.heap.length ≤ r.2.heap.length ∧ astore 1 (.pointer (some ⟨N, 0, none⟩)) r.1 r.2 = some t ∧ r.2.heap.length ≤ t.heap.length ∧ WAp lo N s t (l ++ m) := by
  have hNlt := (List.getElem?_eq_some_iff.1 h.2.1).1
  have hp := h.push (B := .row 1 (bv m) .act)
  have hp' : Wt lo N (newBytes m s).2 x l := hp
  obtain ⟨v', s', h1, h2, _⟩ := own_more hp'.2.2.1 (by show lo ≤ (s.push _).heap.length; rw [push_len]; omega) (newBytes_bytes (l := m) (s := s)) hb
  obtain ⟨k1, k2⟩ := aappend_keep h1
  have hNlt2 : N < (newBytes m s).2.heap.length := (List.getElem?_eq_some_iff.1 hp'.2.1).1
  have hrow : s'.heap[N]? = some (.row 0 [x] .act) := by rw [k1.2 N hNlt2 hp'.2.2.2]; exact hp'.2.1
  have hlf : isLeaf v' = true ∧ cellsV v' = [v'] := by
    rcases h2 with ⟨rfl, _⟩ | ⟨b, len, rfl, _⟩ <;> exact ⟨rfl, rfl⟩
  have hst := st_cell (i := 0) hrow (by simp) hlf.1 hlf.2
  have hvN : blkOf v' ≠ some N := fun e => by
    rcases k2 with h | h
    · exact hp'.2.2.2 (by rw [← h]; exact e)
    · exact absurd (h N e) (by omega)
  have hN' : N < s'.heap.length := (List.getElem?_eq_some_iff.1 hrow).1
  refine ⟨(v', s'), _, h1, k1.1, hst, by simp [St.putB], ?_⟩
  refine WAp.push (B := .row 1 (bv m) .act) h ⟨x, v', hp.2.1, ⟨h.1, putB_get hN', ?_, hvN⟩, ?_, fun b hb2 hbN hbx => ?_, k2, fun c hc => (hp'.2.2.1.blk c hc).1⟩
  · rcases h2 with h | ⟨b, len, rfl, e1, e2, e3, e4⟩
    · exact .inl h
    · refine .inr ⟨b, len, rfl, e1, ?_, e3, e4⟩
      simp only [St.putB]
      rw [List.getElem?_set_ne (fun e => hvN (by rw [e]; rfl))]
      exact e2
  · have := k1.1
    simp only [St.putB, List.length_set]
    exact this
  · simp only [St.putB]
    rw [List.getElem?_set_ne (fun e => hbN e.symm)]
    exact k1.2 b hb2 hbx

def tB (k : BL) : BL := enc k.length ++ k
theorem kn_num {n : Nat} (hn : n < 18446744073709551616) {s : St} : (run Tryz.prog (libL libT) hints) 94 [.int .u64 (n : Int)] s = some (newBytes (enc n) s) := (known (g := gNum) rfl).trans (gNum_eq hn)
theorem kn_text {k : BL} (hk : k.length ≤ 140737488300000) {s : St} : (run Tryz.prog (libL libT) hints) 130 [sv k] s = some (newBytes (tB k) s) := (known (g := gText) rfl).trans (gText_eq (t := ⟨k.toArray⟩) (s := s) hk)
theorem nil_wp {N : Nat} : anilCheck (wP N) = some (wP N) := rfl
theorem ad_wp {N : Nat} : afieldAddr 0 (wP N) = some (wP N) := rfl
theorem ret_0 (s : St) : retV [] s = some (unitV, s) := rfl
theorem frz_cell {s : St} {N : Nat} {x : Value} (h : s.heap[N]? = some (.row 0 [x] .act)) : aload false 1 (wP N) (frzS s) = some x := by
  have hr : readRow (frzS s) N = some [x] := by
    rw [readRow_frz]
    unfold Ab.readRow
    rw [h]
  simp only [aload, Bool.false_eq_true, if_false, hr, Option.bind_some]
  rfl
section
variable {lo N : Nat} {s : St} {x : Value} {l : BL} (h : Wt lo N s x l) (hs : lo ≤ s.heap.length)
include h hs
theorem w_num {n : Nat} (hn : n < 18446744073709551616) (hb : l.length + (enc n).length ≤ 140737488355328) : ∃ t, (run Tryz.prog (libL libT) hints) 25 [wP N, .int .u64 (n : Int)] s = some (unitV, t) ∧ WAp lo N s t (l ++ enc n) := by
  obtain ⟨r, t, h1, h2, h3, h4, h5⟩ := wt_new (m := enc n) h hs hb
  refine ⟨t, record_writer_num_of rfl ?_, h5⟩
  have o1 : ownR (newBytes (enc n) s).2 (r.1, r.2) = some (r.1, r.2) := by unfold ownR; rw [if_pos h2]
  have o2 : ownR r.2 (undef, t) = some (undef, t) := by unfold ownR; rw [if_pos h4]
  unfold record_writer_num
  simp only [nil_wp, ad_wp, frz_cell h.2.1, octet_Num_call, kn_num hn, Option.map_some, quiet_new2, h1, o1, h3, o2, ret_0, n_bind, n_map, getL_0, getL_1, getL_2, getL_3, getL_4, getL_5, getL_6, getL_7, getL_8, getL_9, getL_10, getL_11, getL_12, condV_t, condV_f, guardV_tt, guardV_ff, guardV_tf, guardV_ft, guardV_u, apick_t, apick_f, exV_exit, exV_ret, lookE_same, joinK_eq, seqA_n, seqA_e, seqA_r, e_add, e_sub, e_mul, e_eql, e_neq, e_lss, e_leq, e_gtr, e_geq, e_conv, e_not, e_neg, and_guard, or_guard]
theorem w_int {n : Nat} (hn : n < 9223372036854775808) (hb : l.length + (enc n).length ≤ 140737488355328) : ∃ t, (run Tryz.prog (libL libT) hints) 88 [wP N, .int .i64 (n : Int)] s = some (unitV, t) ∧ WAp lo N s t (l ++ enc n) := by
  obtain ⟨t, h1, h2⟩ := w_num h hs (n := n) (by omega) hb
  have hw : IntKind.wrap .u64 (n : Int) = (n : Int) := uwrap rfl (Nat.lt_trans hn (by decide))
  refine ⟨t, record_writer_int_of rfl ?_, h2⟩
  unfold record_writer_int
  simp only [hw, record_writer_num_call, h1, ret_0, n_bind, n_map, getL_0, getL_1, getL_2, getL_3, getL_4, getL_5, getL_6, getL_7, getL_8, getL_9, getL_10, getL_11, getL_12, condV_t, condV_f, guardV_tt, guardV_ff, guardV_tf, guardV_ft, guardV_u, apick_t, apick_f, exV_exit, exV_ret, lookE_same, joinK_eq, seqA_n, seqA_e, seqA_r, e_add, e_sub, e_mul, e_eql, e_neq, e_lss, e_leq, e_gtr, e_geq, e_conv, e_not, e_neg, and_guard, or_guard]
theorem w_text {k : BL} (hb : l.length + (tB k).length ≤ 140737488300000) : ∃ t, (run Tryz.prog (libL libT) hints) 90 [wP N, sv k] s = some (unitV, t) ∧ WAp lo N s t (l ++ tB k) := by
  have hk : k.length ≤ 140737488300000 := by unfold tB at hb; rw [List.length_append] at hb; omega
  obtain ⟨r, t, h1, h2, h3, h4, h5⟩ := wt_new (m := tB k) h hs (by omega)
  refine ⟨t, record_writer_text_of rfl ?_, h5⟩
  have o1 : ownR (newBytes (tB k) s).2 (r.1, r.2) = some (r.1, r.2) := by unfold ownR; rw [if_pos h2]
  have o2 : ownR r.2 (undef, t) = some (undef, t) := by unfold ownR; rw [if_pos h4]
  unfold record_writer_text
  simp only [nil_wp, ad_wp, frz_cell h.2.1, octet_Text_call, kn_text hk, Option.map_some, quiet_new2, h1, o1, h3, o2, ret_0, n_bind, n_map, getL_0, getL_1, getL_2, getL_3, getL_4, getL_5, getL_6, getL_7, getL_8, getL_9, getL_10, getL_11, getL_12, condV_t, condV_f, guardV_tt, guardV_ff, guardV_tf, guardV_ft, guardV_u, apick_t, apick_f, exV_exit, exV_ret, lookE_same, joinK_eq, seqA_n, seqA_e, seqA_r, e_add, e_sub, e_mul, e_eql, e_neq, e_lss, e_leq, e_gtr, e_geq, e_conv, e_not, e_neg, and_guard, or_guard]
theorem w_flag (b : Bool) (hb : l.length + 1 ≤ 140737488355328) : ∃ t, (run Tryz.prog (libL libT) hints) 134 [wP N, .bool b] s = some (unitV, t) ∧ WAp lo N s t (l ++ [if b = true then 1 else 0]) := by
  have hld : aload false 1 (wP N) s = some x := ld_cell h.2.1 (by simp) rfl
  have e1 : abuildSl 1 [.int .u8 0] 1 [(0, .int .u8 1)] s = some (newBytes [1] s) := rfl
  have e0 : abuildSl 1 [.int .u8 0] 1 [(0, .int .u8 0)] s = some (newBytes [0] s) := rfl
  cases b with
  | true =>
    obtain ⟨r, t, h1, h2, h3, h4, h5⟩ := wt_new (m := [1]) h hs hb
    refine ⟨t, record_writer_flag_of rfl ?_, h5⟩
    unfold record_writer_flag
    simp only [nil_wp, ad_wp, hld, e1, h1, h3, ret_0, n_bind, n_map, getL_0, getL_1, getL_2, getL_3, getL_4, getL_5, getL_6, getL_7, getL_8, getL_9, getL_10, getL_11, getL_12, condV_t, condV_f, guardV_tt, guardV_ff, guardV_tf, guardV_ft, guardV_u, apick_t, apick_f, exV_exit, exV_ret, lookE_same, joinK_eq, seqA_n, seqA_e, seqA_r, e_add, e_sub, e_mul, e_eql, e_neq, e_lss, e_leq, e_gtr, e_geq, e_conv, e_not, e_neg, and_guard, or_guard]
  | false =>
    obtain ⟨r, t, h1, h2, h3, h4, h5⟩ := wt_new (m := [0]) h hs hb
    refine ⟨t, record_writer_flag_of rfl ?_, h5⟩
    unfold record_writer_flag
    simp only [nil_wp, ad_wp, hld, e0, h1, h3, ret_0, n_bind, n_map, getL_0, getL_1, getL_2, getL_3, getL_4, getL_5, getL_6, getL_7, getL_8, getL_9, getL_10, getL_11, getL_12, condV_t, condV_f, guardV_tt, guardV_ff, guardV_tf, guardV_ft, guardV_u, apick_t, apick_f, exV_exit, exV_ret, lookE_same, joinK_eq, seqA_n, seqA_e, seqA_r, e_add, e_sub, e_mul, e_eql, e_neq, e_lss, e_leq, e_gtr, e_geq, e_conv, e_not, e_neg, and_guard, or_guard]
end

end Go.Proofs.YtckpcelchhmjcaaGreat.Ab

/- Bytes are written: lists. -/
namespace Go.Proofs.YtckpcelchhmjcaaGreat.Ab
open Go

def Elems {α : Type} (lo N : Nat) (s1 : St) (n : Nat) (ag : Bool) (v : Value) (l : List α) (Rel : α → List Value → Prop) : Prop :=
  (∀ ty t, alenV (.slice ty) v t = some (.int .i64 ((l.length : Nat) : Int))) ∧ ∀ (i : Nat) (hi : i < l.length), ∃ p u cs, aindexS n v (.int .i64 (i : Int)) = some p ∧ Shape ag u cs ∧ Rel l[i] cs ∧ ∀ t m, WAp lo N s1 t m → aload ag n p t = some u
def Puts {α : Type} (lo N : Nat) (s1 : St) (Rel : α → List Value → Prop) (ag : Bool) (l : List α) (fv : Value) (f : α → BL) : Prop :=
  ∀ a ∈ l, ∀ t m u cs, WAp lo N s1 t m → Rel a cs → Shape ag u cs → m.length + (f a).length ≤ 140737488300000 → ∃ t', callV Tryz.prog (run Tryz.prog (libL libT) hints) fv [u] t = some (unitV, t') ∧ WAp lo N t t' (m ++ f a)
noncomputable def rowsS (n : Nat) (z : Value) (R : Caller) (T : List Value) (s : St) : Res :=
(abin Tryz.prog .lss 3 (.tmp 10) (.tmp 9) (getL T 3) (getL T 2)).bind fun v1 =>
condV v1
 ((aindexS n (getL T 1) (getL T 3)).bind fun v2 =>
(aload true n v2 s).bind fun v3 =>
(lstore n lptr v3 z).bind fun v4 =>
(lload true n lptr v4).bind fun v5 =>
(callV Tryz.prog R (getL T 0) [v5] s).bind fun r6 =>
(abin Tryz.prog .add 3 (.tmp 10) (.const (.int .i64 1)) (getL T 3) (.int .i64 1)).bind fun v7 =>
some (.normal, [(getL T 0), (getL T 1), (getL T 2), v7], r6.2))
 (some (.exit 0, [], s))
noncomputable def rowsI (R : Caller) (T : List Value) (s : St) : Res :=
(abin Tryz.prog .lss 3 (.tmp 10) (.tmp 9) (getL T 3) (getL T 2)).bind fun v1 =>
condV v1
 ((aindexS 1 (getL T 1) (getL T 3)).bind fun v2 =>
(aload false 1 v2 s).bind fun v3 =>
(callV Tryz.prog R (getL T 0) [v3] s).bind fun r4 =>
(abin Tryz.prog .add 3 (.tmp 10) (.const (.int .i64 1)) (getL T 3) (.int .i64 1)).bind fun v5 =>
some (.normal, [(getL T 0), (getL T 1), (getL T 2), v5], r4.2))
 (some (.exit 0, [], s))
theorem fm_consW {α : Type} (f : α → BL) (a : α) (l : List α) : (a :: l).flatMap f = f a ++ l.flatMap f := rfl
section
variable {α : Type} {Rel : α → List Value → Prop} {n lo N : Nat} {s1 : St} {v fv : Value} {l : List α} {f : α → BL} (hl : l.length < 140737488355328)
include hl
theorem rowsS_loop {zs : List Value} (hL : Elems lo N s1 n true v l Rel) (hz : zs.length = n) (hleaf : ∀ a cs, Rel a cs → cs.length = n ∧ cs.all isLeaf = true) (hp : Puts lo N s1 Rel true l fv f) : ∀ (rest : List α) (i : Nat) (t : St) (m : BL), l.drop i = rest → i ≤ l.length → WAp lo N s1 t m → m.length + (rest.flatMap f).length ≤ 140737488300000 →
    ∃ t', loopL (rowsS n (.agg zs.toArray) (run Tryz.prog (libL libT) hints)) [fv, v, .int .i64 ((l.length : Nat) : Int), .int .i64 (i : Int)] t = some (.exit 0, [], t') ∧ WAp lo N t t' (m ++ rest.flatMap f) := by
  intro rest
  induction rest with
  | nil =>
    intro i t m hi hle hw hb
    have h1 : decide ((i : Int) < ((l.length : Nat) : Int)) = false := by
      have := List.drop_eq_nil_iff.1 hi
      simp; omega
    obtain ⟨y, hy⟩ := hw.wt
    refine ⟨t, ?_, by rw [List.flatMap_nil, List.append_nil]; exact hy.start⟩
    rw [loopL_eq]
    simp only [rowsS, h1, n_bind, n_map, getL_0, getL_1, getL_2, getL_3, getL_4, getL_5, getL_6, getL_7, getL_8, getL_9, getL_10, getL_11, getL_12, condV_t, condV_f, guardV_tt, guardV_ff, guardV_tf, guardV_ft, guardV_u, apick_t, apick_f, exV_exit, exV_ret, lookE_same, joinK_eq, seqA_n, seqA_e, seqA_r, e_add, e_sub, e_mul, e_eql, e_neq, e_lss, e_leq, e_gtr, e_geq, e_conv, e_not, e_neg, and_guard, or_guard]
  | cons a rest ih =>
    intro i t m hi hle hw hb
    obtain ⟨hlt, he, hd⟩ := drop_nx hi
    have h1 : decide ((i : Int) < ((l.length : Nat) : Int)) = true := by simp; omega
    obtain ⟨q, u, cs, h2, h4, h5, h3⟩ := hL.2 i hlt
    have h3 := h3 t m hw
    rw [he] at h5
    rw [fm_consW, List.length_append] at hb
    have hsh : u = .agg cs.toArray := h4
    obtain ⟨hcl, hcf⟩ := hleaf a cs h5
    have p1 : lstore n lptr u (.agg zs.toArray) = some u := by rw [hsh]; exact arr_put hz hcl hcf
    have p2 : lload true n lptr u = some u := by rw [hsh]; exact arr_all hcl
    obtain ⟨t1, g1, g2⟩ := hp a (by rw [← he]; exact List.getElem_mem _) t m u cs hw h5 h4 (by omega)
    obtain ⟨t2, f1, f2⟩ := ih (i + 1) t1 (m ++ f a) hd (by omega) (hw.trans g2) (by rw [List.length_append]; omega)
    refine ⟨t2, ?_, by rw [fm_consW, ← List.append_assoc]; exact g2.trans f2⟩
    rw [loopL_eq]
    simp only [rowsS, h1, h2, h3, p1, p2, g1, inc_i (show i < 140737488355328 by omega), n_bind, n_map, getL_0, getL_1, getL_2, getL_3, getL_4, getL_5, getL_6, getL_7, getL_8, getL_9, getL_10, getL_11, getL_12, condV_t, condV_f, guardV_tt, guardV_ff, guardV_tf, guardV_ft, guardV_u, apick_t, apick_f, exV_exit, exV_ret, lookE_same, joinK_eq, seqA_n, seqA_e, seqA_r, e_add, e_sub, e_mul, e_eql, e_neq, e_lss, e_leq, e_gtr, e_geq, e_conv, e_not, e_neg, and_guard, or_guard]
    exact f1
theorem rowsI_loop (hL : Elems lo N s1 1 false v l Rel) (hp : Puts lo N s1 Rel false l fv f) : ∀ (rest : List α) (i : Nat) (t : St) (m : BL), l.drop i = rest → i ≤ l.length → WAp lo N s1 t m → m.length + (rest.flatMap f).length ≤ 140737488300000 →
    ∃ t', loopL (rowsI (run Tryz.prog (libL libT) hints)) [fv, v, .int .i64 ((l.length : Nat) : Int), .int .i64 (i : Int)] t = some (.exit 0, [], t') ∧ WAp lo N t t' (m ++ rest.flatMap f) := by
  intro rest
  induction rest with
  | nil =>
    intro i t m hi hle hw hb
    have h1 : decide ((i : Int) < ((l.length : Nat) : Int)) = false := by
      have := List.drop_eq_nil_iff.1 hi
      simp; omega
    obtain ⟨y, hy⟩ := hw.wt
    refine ⟨t, ?_, by rw [List.flatMap_nil, List.append_nil]; exact hy.start⟩
    rw [loopL_eq]
    simp only [rowsI, h1, n_bind, n_map, getL_0, getL_1, getL_2, getL_3, getL_4, getL_5, getL_6, getL_7, getL_8, getL_9, getL_10, getL_11, getL_12, condV_t, condV_f, guardV_tt, guardV_ff, guardV_tf, guardV_ft, guardV_u, apick_t, apick_f, exV_exit, exV_ret, lookE_same, joinK_eq, seqA_n, seqA_e, seqA_r, e_add, e_sub, e_mul, e_eql, e_neq, e_lss, e_leq, e_gtr, e_geq, e_conv, e_not, e_neg, and_guard, or_guard]
  | cons a rest ih =>
    intro i t m hi hle hw hb
    obtain ⟨hlt, he, hd⟩ := drop_nx hi
    have h1 : decide ((i : Int) < ((l.length : Nat) : Int)) = true := by simp; omega
    obtain ⟨q, u, cs, h2, h4, h5, h3⟩ := hL.2 i hlt
    have h3 := h3 t m hw
    rw [he] at h5
    rw [fm_consW, List.length_append] at hb
    obtain ⟨t1, g1, g2⟩ := hp a (by rw [← he]; exact List.getElem_mem _) t m u cs hw h5 h4 (by omega)
    obtain ⟨t2, f1, f2⟩ := ih (i + 1) t1 (m ++ f a) hd (by omega) (hw.trans g2) (by rw [List.length_append]; omega)
    refine ⟨t2, ?_, by rw [fm_consW, ← List.append_assoc]; exact g2.trans f2⟩
    rw [loopL_eq]
    simp only [rowsI, h1, h2, h3, g1, inc_i (show i < 140737488355328 by omega), n_bind, n_map, getL_0, getL_1, getL_2, getL_3, getL_4, getL_5, getL_6, getL_7, getL_8, getL_9, getL_10, getL_11, getL_12, condV_t, condV_f, guardV_tt, guardV_ff, guardV_tf, guardV_ft, guardV_u, apick_t, apick_f, exV_exit, exV_ret, lookE_same, joinK_eq, seqA_n, seqA_e, seqA_r, e_add, e_sub, e_mul, e_eql, e_neq, e_lss, e_leq, e_gtr, e_geq, e_conv, e_not, e_neg, and_guard, or_guard]
    exact f1
theorem rowsS_gen {zs : List Value} {t1 : TypeId} (hL : Elems lo N s1 n true v l Rel) (hz : zs.length = n) (hleaf : ∀ a cs, Rel a cs → cs.length = n ∧ cs.all isLeaf = true) (hp : Puts lo N s1 Rel true l fv f) {t : St} {m : BL} (hw : WAp lo N s1 t m) (hb : m.length + (l.flatMap f).length ≤ 140737488300000) :
    ∃ t', ((alenV (.slice t1) v t).bind fun v0 => (loopL (rowsS n (.agg zs.toArray) (run Tryz.prog (libL libT) hints)) [fv, v, v0, (.int .i64 0)] t).bind fun r8 => exV r8.1 [(0, retV [] r8.2.2)] (none)) = some (unitV, t') ∧ WAp lo N t t' (m ++ l.flatMap f) := by
  obtain ⟨t', h1, h2⟩ := rowsS_loop hl hL hz hleaf hp l 0 t m rfl (Nat.zero_le _) hw hb
  rw [show ((0 : Nat) : Int) = 0 from rfl] at h1
  refine ⟨t', ?_, h2⟩
  simp only [hL.1, h1, ret_0, n_bind, n_map, getL_0, getL_1, getL_2, getL_3, getL_4, getL_5, getL_6, getL_7, getL_8, getL_9, getL_10, getL_11, getL_12, condV_t, condV_f, guardV_tt, guardV_ff, guardV_tf, guardV_ft, guardV_u, apick_t, apick_f, exV_exit, exV_ret, lookE_same, joinK_eq, seqA_n, seqA_e, seqA_r, e_add, e_sub, e_mul, e_eql, e_neq, e_lss, e_leq, e_gtr, e_geq, e_conv, e_not, e_neg, and_guard, or_guard]
theorem rowsI_gen {t1 : TypeId} (hL : Elems lo N s1 1 false v l Rel) (hp : Puts lo N s1 Rel false l fv f) {t : St} {m : BL} (hw : WAp lo N s1 t m) (hb : m.length + (l.flatMap f).length ≤ 140737488300000) :
    ∃ t', ((alenV (.slice t1) v t).bind fun v0 => (loopL (rowsI (run Tryz.prog (libL libT) hints)) [fv, v, v0, (.int .i64 0)] t).bind fun r6 => exV r6.1 [(0, retV [] r6.2.2)] (none)) = some (unitV, t') ∧ WAp lo N t t' (m ++ l.flatMap f) := by
  obtain ⟨t', h1, h2⟩ := rowsI_loop hl hL hp l 0 t m rfl (Nat.zero_le _) hw hb
  rw [show ((0 : Nat) : Int) = 0 from rfl] at h1
  refine ⟨t', ?_, h2⟩
  simp only [hL.1, h1, ret_0, n_bind, n_map, getL_0, getL_1, getL_2, getL_3, getL_4, getL_5, getL_6, getL_7, getL_8, getL_9, getL_10, getL_11, getL_12, condV_t, condV_f, guardV_tt, guardV_ff, guardV_tf, guardV_ft, guardV_u, apick_t, apick_f, exV_exit, exV_ret, lookE_same, joinK_eq, seqA_n, seqA_e, seqA_r, e_add, e_sub, e_mul, e_eql, e_neq, e_lss, e_leq, e_gtr, e_geq, e_conv, e_not, e_neg, and_guard, or_guard]
end

def eList {α : Type} (f : α → BL) (l : List α) : BL := enc l.length ++ l.flatMap f
def eN (n : Int) : BL := enc n.toNat
def eOw (o : Ow) : BL := tB o.1 ++ eN o.2
def eOp (o : OpT) : BL := eN o.kind ++ tB o.key ++ tB o.val ++ tB o.lo ++ tB o.hi ++ eN o.most
def eHo (h : Ho) : BL := eN h.1 ++ eList eOp h.2
def ePr (p : Rg) : BL := tB p.1 ++ tB p.2
def eRs (r : Rs) : BL := [if r.1 = true then 1 else 0] ++ tB r.2.1 ++ eList ePr r.2.2
def eDe (d : De) : BL := eN d.1 ++ eN d.2.1 ++ eN d.2.2.1 ++ eN d.2.2.2.1 ++ eList eN d.2.2.2.2
def eLa (a : La) : BL := eN a.1 ++ eN a.2.1 ++ eN a.2.2.1 ++ eList eRs a.2.2.2
def inN63 (n : Int) : Prop := 0 ≤ n ∧ n < 9223372036854775808
def inN64 (n : Int) : Prop := 0 ≤ n ∧ n < 18446744073709551616
theorem wf_64 {n : Int} (h : (Lit.int .u64 n).wf = true) : inN64 n := by
  simp [Lit.wf, IntKind.signed, IntKind.bits, IntKind.min, IntKind.max] at h
  exact ⟨by omega, by omega⟩
section
variable {lo N : Nat} {s : St} {l : BL} (h : ∃ x, Wt lo N s x l) (hs : lo ≤ s.heap.length)
include h hs
theorem w_num' {n : Int} (hn : inN64 n) (hb : l.length + (eN n).length ≤ 140737488300000) : ∃ t, (run Tryz.prog (libL libT) hints) 25 [wP N, .int .u64 n] s = some (unitV, t) ∧ WAp lo N s t (l ++ eN n) := by
  obtain ⟨x, h⟩ := h
  have := w_num h hs (n := n.toNat) (by have := hn.1; have := hn.2; omega) (by unfold eN at hb; omega)
  rw [Int.toNat_of_nonneg hn.1] at this
  exact this
theorem w_int' {n : Int} (hn : inN63 n) (hb : l.length + (eN n).length ≤ 140737488300000) : ∃ t, (run Tryz.prog (libL libT) hints) 88 [wP N, .int .i64 n] s = some (unitV, t) ∧ WAp lo N s t (l ++ eN n) := by
  obtain ⟨x, h⟩ := h
  have := w_int h hs (n := n.toNat) (by have := hn.1; have := hn.2; omega) (by unfold eN at hb; omega)
  rw [Int.toNat_of_nonneg hn.1] at this
  exact this
theorem w_text' {k : BL} (hb : l.length + (tB k).length ≤ 140737488300000) : ∃ t, (run Tryz.prog (libL libT) hints) 90 [wP N, sv k] s = some (unitV, t) ∧ WAp lo N s t (l ++ tB k) := by
  obtain ⟨x, h⟩ := h
  exact w_text h hs hb
theorem w_flag' (b : Bool) (hb : l.length + 1 ≤ 140737488300000) : ∃ t, (run Tryz.prog (libL libT) hints) 134 [wP N, .bool b] s = some (unitV, t) ∧ WAp lo N s t (l ++ [if b = true then 1 else 0]) := by
  obtain ⟨x, h⟩ := h
  exact w_flag h hs b (by omega)
end
theorem WAp.lo_le {lo N : Nat} {s t : St} {m : BL} (h : WAp lo N s t m) (hs : lo ≤ s.heap.length) : lo ≤ t.heap.length := Nat.le_trans hs (h.ext hs).1
section
variable {lo N : Nat} {s : St} {l : BL} (h : ∃ x, Wt lo N s x l) (hs : lo ≤ s.heap.length)
include h hs
theorem w_span {r : Rg} (hb : l.length + (ePr r).length ≤ 140737488300000) : ∃ t, (run Tryz.prog (libL libT) hints) 26 [wP N, rv r] s = some (unitV, t) ∧ WAp lo N s t (l ++ ePr r) := by
  unfold ePr at hb
  rw [List.length_append] at hb
  obtain ⟨t1, g1, g2⟩ := w_text' h hs (k := r.1) (by omega)
  obtain ⟨t2, f1, f2⟩ := w_text' g2.wt (g2.lo_le hs) (k := r.2) (by rw [List.length_append]; omega)
  have hb : lbox (rv r) = some (rv r) := rfl
  have l0 : lload false 1 lptr (rv r) = some (sv r.1) := rfl
  have l1 : lload false 1 (.pointer (some ⟨0, 1, none⟩)) (rv r) = some (sv r.2) := rfl
  refine ⟨t2, record_writer_span_of rfl ?_, by unfold ePr; rw [← List.append_assoc]; exact g2.trans f2⟩
  unfold record_writer_span
  simp only [hb, l0, l1, record_writer_text_call, g1, f1, ret_0, n_bind, n_map, getL_0, getL_1, getL_2, getL_3, getL_4, getL_5, getL_6, getL_7, getL_8, getL_9, getL_10, getL_11, getL_12, condV_t, condV_f, guardV_tt, guardV_ff, guardV_tf, guardV_ft, guardV_u, apick_t, apick_f, exV_exit, exV_ret, lookE_same, joinK_eq, seqA_n, seqA_e, seqA_r, e_add, e_sub, e_mul, e_eql, e_neq, e_lss, e_leq, e_gtr, e_geq, e_conv, e_not, e_neg, and_guard, or_guard]
theorem w_pair {r : Rg} (hb : l.length + (ePr r).length ≤ 140737488300000) : ∃ t, (run Tryz.prog (libL libT) hints) 136 [wP N, rv r] s = some (unitV, t) ∧ WAp lo N s t (l ++ ePr r) := by
  unfold ePr at hb
  rw [List.length_append] at hb
  obtain ⟨t1, g1, g2⟩ := w_text' h hs (k := r.1) (by omega)
  obtain ⟨t2, f1, f2⟩ := w_text' g2.wt (g2.lo_le hs) (k := r.2) (by rw [List.length_append]; omega)
  have hb : lbox (rv r) = some (rv r) := rfl
  have l0 : lload false 1 lptr (rv r) = some (sv r.1) := rfl
  have l1 : lload false 1 (.pointer (some ⟨0, 1, none⟩)) (rv r) = some (sv r.2) := rfl
  refine ⟨t2, record_writer_pair_of rfl ?_, by unfold ePr; rw [← List.append_assoc]; exact g2.trans f2⟩
  unfold record_writer_pair
  simp only [hb, l0, l1, record_writer_text_call, g1, f1, ret_0, n_bind, n_map, getL_0, getL_1, getL_2, getL_3, getL_4, getL_5, getL_6, getL_7, getL_8, getL_9, getL_10, getL_11, getL_12, condV_t, condV_f, guardV_tt, guardV_ff, guardV_tf, guardV_ft, guardV_u, apick_t, apick_f, exV_exit, exV_ret, lookE_same, joinK_eq, seqA_n, seqA_e, seqA_r, e_add, e_sub, e_mul, e_eql, e_neq, e_lss, e_leq, e_gtr, e_geq, e_conv, e_not, e_neg, and_guard, or_guard]
theorem w_owner {o : Ow} (ho : inN63 o.2) (hb : l.length + (eOw o).length ≤ 140737488300000) : ∃ t, (run Tryz.prog (libL libT) hints) 21 [wP N, owV o] s = some (unitV, t) ∧ WAp lo N s t (l ++ eOw o) := by
  unfold eOw at hb
  rw [List.length_append] at hb
  obtain ⟨t1, g1, g2⟩ := w_text' h hs (k := o.1) (by omega)
  obtain ⟨t2, f1, f2⟩ := w_int' g2.wt (g2.lo_le hs) (n := o.2) ho (by rw [List.length_append]; omega)
  refine ⟨t2, record_writer_owner_of rfl ?_, by unfold eOw; rw [← List.append_assoc]; exact g2.trans f2⟩
  unfold record_writer_owner
  simp only [w_box, w_0, w_1, record_writer_text_call, g1, record_writer_int_call, f1, ret_0, n_bind, n_map, getL_0, getL_1, getL_2, getL_3, getL_4, getL_5, getL_6, getL_7, getL_8, getL_9, getL_10, getL_11, getL_12, condV_t, condV_f, guardV_tt, guardV_ff, guardV_tf, guardV_ft, guardV_u, apick_t, apick_f, exV_exit, exV_ret, lookE_same, joinK_eq, seqA_n, seqA_e, seqA_r, e_add, e_sub, e_mul, e_eql, e_neq, e_lss, e_leq, e_gtr, e_geq, e_conv, e_not, e_neg, and_guard, or_guard]
end

end Go.Proofs.YtckpcelchhmjcaaGreat.Ab

/- Bytes are written: lists of each kind. -/
namespace Go.Proofs.YtckpcelchhmjcaaGreat.Ab
open Go

theorem ext_loadW {s0 t : St} (hx : Ext s0.heap.length s0 t) {ag : Bool} {n : Nat} {p u : Value} (h : aload ag n p s0 = some u) : aload ag n p t = some u := by
  unfold aload at h ⊢
  split at h
  · rename_i b off
    cases ag with
    | true =>
      simp only [if_true, Option.map_eq_some_iff] at h ⊢
      obtain ⟨cs, h1, h2⟩ := h
      refine ⟨cs, ?_, h2⟩
      unfold Ab.readN at h1 ⊢
      simp only [Option.bind_eq_some_iff] at h1 ⊢
      obtain ⟨r, g1, g2⟩ := h1
      exact ⟨r, by rw [Ext.readRow hx (readRow_lt g1)]; exact g1, g2⟩
    | false =>
      simp only [Bool.false_eq_true, if_false, Option.bind_eq_some_iff] at h ⊢
      obtain ⟨r, g1, g2⟩ := h
      exact ⟨r, by rw [Ext.readRow hx (readRow_lt g1)]; exact g1, g2⟩
  · cases h
theorem elems_arg {α : Type} {C : NCod α} {B lo N n : Nat} {ag : Bool} {s0 s1 : St} {v : Value} {l : List α} (h : ListN C B l s0 v) (hlo : s0.heap.length = lo) (hx : Ext lo s0 s1) (hn : n = C.n) (hag : ag = true ∨ n = 1) : Elems lo N s1 n ag v l fun a cs => C.rel a s0 cs := by
  refine ⟨fun ty t => listN_lenR h ty t, fun i hi => ?_⟩
  obtain ⟨p, u, cs, h1, h2, _, h3, h4⟩ := listN_get h hi hn hag
  subst hlo
  exact ⟨p, u, cs, h1, h3, h4, fun t m hw => ext_loadW (hx.trans (hw.ext hx.1)) h2⟩
theorem elems_tmp {α : Type} {lo N : Nat} {s : St} {l0 : BL} {ls : List α} (f : α → Value) (hw : ∃ x, Wt lo N s x l0) : Elems lo N (s.push (.row 1 (ls.map f) .act)) 1 false (.slice (some ⟨s.heap.length, 0, none⟩) ls.length ls.length) ls fun a cs => cs = [f a] := by
  obtain ⟨x, hw⟩ := hw
  refine ⟨fun ty t => rfl, fun i hi => ⟨.pointer (some ⟨s.heap.length, i, none⟩), f ls[i], [f ls[i]], by simp [aindexS]; omega, rfl, rfl, fun t m h => ?_⟩⟩
  have hN := (List.getElem?_eq_some_iff.1 hw.2.1).1
  have hP := h.get push_get (by omega) fun x' hx' e => by
    obtain rfl : x = x' := by
      have := (hw.push (B := .row 1 (ls.map f) .act)).2.1.symm.trans hx'
      simpa using this
    have := (hw.2.2.1.blk _ e).2
    omega
  exact ld_cell hP (by simp) (by rw [List.getElem?_map, List.getElem?_eq_getElem hi]; rfl)
theorem wt_push {lo N : Nat} {s : St} {l : BL} {B : Blk} (h : ∃ x, Wt lo N s x l) : ∃ x, Wt lo N (s.push B) x l := by
  obtain ⟨x, h⟩ := h
  exact ⟨x, h.push⟩
theorem wap_push {lo N : Nat} {s t : St} {l m : BL} {B : Blk} (h : ∃ x, Wt lo N s x l) (g : WAp lo N (s.push B) t m) : WAp lo N s t m := by
  obtain ⟨x, h⟩ := h
  exact .push h g
theorem wap_start {lo N : Nat} {s : St} {l : BL} (h : ∃ x, Wt lo N s x l) : WAp lo N s s l := by
  obtain ⟨x, h⟩ := h
  exact h.start
abbrev mv (f : FuncId) (N : Nat) : Value := .func (.func f) #[wP N] #[]
theorem call_mv {f : FuncId} {N : Nat} (h : funcOk Tryz.prog f = true) {u : Value} {s : St} : callV Tryz.prog (run Tryz.prog (libL libT) hints) (mv f N) [u] s = (run Tryz.prog (libL libT) hints) f [wP N, u] s := call_cap (fs := [wP N]) (cs := []) h
theorem eN_nat (n : Nat) : eN (n : Int) = enc n := by unfold eN; rw [Int.toNat_natCast]

theorem wl_api_Owner {α : Type} {lo N : Nat} {s : St} {m : BL} {v fv : Value} {ls : List α} {f : α → BL} {Rel : α → List Value → Prop} (h : ∃ x, Wt lo N s x m) (hs : lo ≤ s.heap.length) (hL : Elems lo N s 2 true v ls Rel) (hl : ls.length < 140737488355328) (hleaf : ∀ a cs, Rel a cs → cs.length = 2 ∧ cs.all isLeaf = true) (hp : Puts lo N s Rel true ls fv f) (hb : m.length + (eList f ls).length ≤ 140737488300000) :
    ∃ t, (run Tryz.prog (libL libT) hints) 20 [wP N, v, fv] s = some (unitV, t) ∧ WAp lo N s t (m ++ eList f ls) := by
  unfold eList at hb ⊢
  rw [List.length_append] at hb
  obtain ⟨t1, g1, g2⟩ := w_int' h hs (n := ((ls.length : Nat) : Int)) ⟨by omega, by omega⟩ (by rw [eN_nat]; omega)
  rw [eN_nat] at g2
  obtain ⟨t2, f1, f2⟩ := rowsS_gen (zs := [.string ⟨#[]⟩, .int .i64 0]) (t1 := 54) hl hL rfl hleaf hp g2 (by rw [List.length_append]; omega)
  have f3 := record_rows_api_Owner_of (lib := libL libT) (x0 := wP N) rfl f1
  refine ⟨t2, record_list_api_Owner_of rfl ?_, by rw [← List.append_assoc]; exact g2.trans f2⟩
  unfold record_list_api_Owner
  simp only [hL.1, record_writer_int_call, g1, record_rows_api_Owner_call, f3, ret_0, n_bind, n_map, getL_0, getL_1, getL_2, getL_3, getL_4, getL_5, getL_6, getL_7, getL_8, getL_9, getL_10, getL_11, getL_12, condV_t, condV_f, guardV_tt, guardV_ff, guardV_tf, guardV_ft, guardV_u, apick_t, apick_f, exV_exit, exV_ret, lookE_same, joinK_eq, seqA_n, seqA_e, seqA_r, e_add, e_sub, e_mul, e_eql, e_neq, e_lss, e_leq, e_gtr, e_geq, e_conv, e_not, e_neg, and_guard, or_guard]
theorem wl_api_Hold {α : Type} {lo N : Nat} {s : St} {m : BL} {v fv : Value} {ls : List α} {f : α → BL} {Rel : α → List Value → Prop} (h : ∃ x, Wt lo N s x m) (hs : lo ≤ s.heap.length) (hL : Elems lo N s 2 true v ls Rel) (hl : ls.length < 140737488355328) (hleaf : ∀ a cs, Rel a cs → cs.length = 2 ∧ cs.all isLeaf = true) (hp : Puts lo N s Rel true ls fv f) (hb : m.length + (eList f ls).length ≤ 140737488300000) :
    ∃ t, (run Tryz.prog (libL libT) hints) 22 [wP N, v, fv] s = some (unitV, t) ∧ WAp lo N s t (m ++ eList f ls) := by
  unfold eList at hb ⊢
  rw [List.length_append] at hb
  obtain ⟨t1, g1, g2⟩ := w_int' h hs (n := ((ls.length : Nat) : Int)) ⟨by omega, by omega⟩ (by rw [eN_nat]; omega)
  rw [eN_nat] at g2
  obtain ⟨t2, f1, f2⟩ := rowsS_gen (zs := [.int .u64 0, .slice none 0 0]) (t1 := 64) hl hL rfl hleaf hp g2 (by rw [List.length_append]; omega)
  have f3 := record_rows_api_Hold_of (lib := libL libT) (x0 := wP N) rfl f1
  refine ⟨t2, record_list_api_Hold_of rfl ?_, by rw [← List.append_assoc]; exact g2.trans f2⟩
  unfold record_list_api_Hold
  simp only [hL.1, record_writer_int_call, g1, record_rows_api_Hold_call, f3, ret_0, n_bind, n_map, getL_0, getL_1, getL_2, getL_3, getL_4, getL_5, getL_6, getL_7, getL_8, getL_9, getL_10, getL_11, getL_12, condV_t, condV_f, guardV_tt, guardV_ff, guardV_tf, guardV_ft, guardV_u, apick_t, apick_f, exV_exit, exV_ret, lookE_same, joinK_eq, seqA_n, seqA_e, seqA_r, e_add, e_sub, e_mul, e_eql, e_neq, e_lss, e_leq, e_gtr, e_geq, e_conv, e_not, e_neg, and_guard, or_guard]
theorem wl_uint64 {α : Type} {lo N : Nat} {s : St} {m : BL} {v fv : Value} {ls : List α} {f : α → BL} {Rel : α → List Value → Prop} (h : ∃ x, Wt lo N s x m) (hs : lo ≤ s.heap.length) (hL : Elems lo N s 1 false v ls Rel) (hl : ls.length < 140737488355328) (hp : Puts lo N s Rel false ls fv f) (hb : m.length + (eList f ls).length ≤ 140737488300000) :
    ∃ t, (run Tryz.prog (libL libT) hints) 24 [wP N, v, fv] s = some (unitV, t) ∧ WAp lo N s t (m ++ eList f ls) := by
  unfold eList at hb ⊢
  rw [List.length_append] at hb
  obtain ⟨t1, g1, g2⟩ := w_int' h hs (n := ((ls.length : Nat) : Int)) ⟨by omega, by omega⟩ (by rw [eN_nat]; omega)
  rw [eN_nat] at g2
  obtain ⟨t2, f1, f2⟩ := rowsI_gen (t1 := 22) hl hL hp g2 (by rw [List.length_append]; omega)
  have f3 := record_rows_uint64_of (lib := libL libT) (x0 := wP N) rfl f1
  refine ⟨t2, record_list_uint64_of rfl ?_, by rw [← List.append_assoc]; exact g2.trans f2⟩
  unfold record_list_uint64
  simp only [hL.1, record_writer_int_call, g1, record_rows_uint64_call, f3, ret_0, n_bind, n_map, getL_0, getL_1, getL_2, getL_3, getL_4, getL_5, getL_6, getL_7, getL_8, getL_9, getL_10, getL_11, getL_12, condV_t, condV_f, guardV_tt, guardV_ff, guardV_tf, guardV_ft, guardV_u, apick_t, apick_f, exV_exit, exV_ret, lookE_same, joinK_eq, seqA_n, seqA_e, seqA_r, e_add, e_sub, e_mul, e_eql, e_neq, e_lss, e_leq, e_gtr, e_geq, e_conv, e_not, e_neg, and_guard, or_guard]
theorem wl_api_Op {α : Type} {lo N : Nat} {s : St} {m : BL} {v fv : Value} {ls : List α} {f : α → BL} {Rel : α → List Value → Prop} (h : ∃ x, Wt lo N s x m) (hs : lo ≤ s.heap.length) (hL : Elems lo N s 6 true v ls Rel) (hl : ls.length < 140737488355328) (hleaf : ∀ a cs, Rel a cs → cs.length = 6 ∧ cs.all isLeaf = true) (hp : Puts lo N s Rel true ls fv f) (hb : m.length + (eList f ls).length ≤ 140737488300000) :
    ∃ t, (run Tryz.prog (libL libT) hints) 92 [wP N, v, fv] s = some (unitV, t) ∧ WAp lo N s t (m ++ eList f ls) := by
  unfold eList at hb ⊢
  rw [List.length_append] at hb
  obtain ⟨t1, g1, g2⟩ := w_int' h hs (n := ((ls.length : Nat) : Int)) ⟨by omega, by omega⟩ (by rw [eN_nat]; omega)
  rw [eN_nat] at g2
  obtain ⟨t2, f1, f2⟩ := rowsS_gen (zs := [.int .i64 0, .string ⟨#[]⟩, .string ⟨#[]⟩, .string ⟨#[]⟩, .string ⟨#[]⟩, .int .i64 0]) (t1 := 72) hl hL rfl hleaf hp g2 (by rw [List.length_append]; omega)
  have f3 := record_rows_api_Op_of (lib := libL libT) (x0 := wP N) rfl f1
  refine ⟨t2, record_list_api_Op_of rfl ?_, by rw [← List.append_assoc]; exact g2.trans f2⟩
  unfold record_list_api_Op
  simp only [hL.1, record_writer_int_call, g1, record_rows_api_Op_call, f3, ret_0, n_bind, n_map, getL_0, getL_1, getL_2, getL_3, getL_4, getL_5, getL_6, getL_7, getL_8, getL_9, getL_10, getL_11, getL_12, condV_t, condV_f, guardV_tt, guardV_ff, guardV_tf, guardV_ft, guardV_u, apick_t, apick_f, exV_exit, exV_ret, lookE_same, joinK_eq, seqA_n, seqA_e, seqA_r, e_add, e_sub, e_mul, e_eql, e_neq, e_lss, e_leq, e_gtr, e_geq, e_conv, e_not, e_neg, and_guard, or_guard]
theorem wl_api_Decision {α : Type} {lo N : Nat} {s : St} {m : BL} {v fv : Value} {ls : List α} {f : α → BL} {Rel : α → List Value → Prop} (h : ∃ x, Wt lo N s x m) (hs : lo ≤ s.heap.length) (hL : Elems lo N s 5 true v ls Rel) (hl : ls.length < 140737488355328) (hleaf : ∀ a cs, Rel a cs → cs.length = 5 ∧ cs.all isLeaf = true) (hp : Puts lo N s Rel true ls fv f) (hb : m.length + (eList f ls).length ≤ 140737488300000) :
    ∃ t, (run Tryz.prog (libL libT) hints) 30 [wP N, v, fv] s = some (unitV, t) ∧ WAp lo N s t (m ++ eList f ls) := by
  unfold eList at hb ⊢
  rw [List.length_append] at hb
  obtain ⟨t1, g1, g2⟩ := w_int' h hs (n := ((ls.length : Nat) : Int)) ⟨by omega, by omega⟩ (by rw [eN_nat]; omega)
  rw [eN_nat] at g2
  obtain ⟨t2, f1, f2⟩ := rowsS_gen (zs := [.int .u64 0, .int .i64 0, .int .u64 0, .int .u64 0, .slice none 0 0]) (t1 := 77) hl hL rfl hleaf hp g2 (by rw [List.length_append]; omega)
  have f3 := record_rows_api_Decision_of (lib := libL libT) (x0 := wP N) rfl f1
  refine ⟨t2, record_list_api_Decision_of rfl ?_, by rw [← List.append_assoc]; exact g2.trans f2⟩
  unfold record_list_api_Decision
  simp only [hL.1, record_writer_int_call, g1, record_rows_api_Decision_call, f3, ret_0, n_bind, n_map, getL_0, getL_1, getL_2, getL_3, getL_4, getL_5, getL_6, getL_7, getL_8, getL_9, getL_10, getL_11, getL_12, condV_t, condV_f, guardV_tt, guardV_ff, guardV_tf, guardV_ft, guardV_u, apick_t, apick_f, exV_exit, exV_ret, lookE_same, joinK_eq, seqA_n, seqA_e, seqA_r, e_add, e_sub, e_mul, e_eql, e_neq, e_lss, e_leq, e_gtr, e_geq, e_conv, e_not, e_neg, and_guard, or_guard]
theorem wl_int {α : Type} {lo N : Nat} {s : St} {m : BL} {v fv : Value} {ls : List α} {f : α → BL} {Rel : α → List Value → Prop} (h : ∃ x, Wt lo N s x m) (hs : lo ≤ s.heap.length) (hL : Elems lo N s 1 false v ls Rel) (hl : ls.length < 140737488355328) (hp : Puts lo N s Rel false ls fv f) (hb : m.length + (eList f ls).length ≤ 140737488300000) :
    ∃ t, (run Tryz.prog (libL libT) hints) 98 [wP N, v, fv] s = some (unitV, t) ∧ WAp lo N s t (m ++ eList f ls) := by
  unfold eList at hb ⊢
  rw [List.length_append] at hb
  obtain ⟨t1, g1, g2⟩ := w_int' h hs (n := ((ls.length : Nat) : Int)) ⟨by omega, by omega⟩ (by rw [eN_nat]; omega)
  rw [eN_nat] at g2
  obtain ⟨t2, f1, f2⟩ := rowsI_gen (t1 := 3) hl hL hp g2 (by rw [List.length_append]; omega)
  have f3 := record_rows_int_of (lib := libL libT) (x0 := wP N) rfl f1
  refine ⟨t2, record_list_int_of rfl ?_, by rw [← List.append_assoc]; exact g2.trans f2⟩
  unfold record_list_int
  simp only [hL.1, record_writer_int_call, g1, record_rows_int_call, f3, ret_0, n_bind, n_map, getL_0, getL_1, getL_2, getL_3, getL_4, getL_5, getL_6, getL_7, getL_8, getL_9, getL_10, getL_11, getL_12, condV_t, condV_f, guardV_tt, guardV_ff, guardV_tf, guardV_ft, guardV_u, apick_t, apick_f, exV_exit, exV_ret, lookE_same, joinK_eq, seqA_n, seqA_e, seqA_r, e_add, e_sub, e_mul, e_eql, e_neq, e_lss, e_leq, e_gtr, e_geq, e_conv, e_not, e_neg, and_guard, or_guard]
theorem wl_api_Last {α : Type} {lo N : Nat} {s : St} {m : BL} {v fv : Value} {ls : List α} {f : α → BL} {Rel : α → List Value → Prop} (h : ∃ x, Wt lo N s x m) (hs : lo ≤ s.heap.length) (hL : Elems lo N s 4 true v ls Rel) (hl : ls.length < 140737488355328) (hleaf : ∀ a cs, Rel a cs → cs.length = 4 ∧ cs.all isLeaf = true) (hp : Puts lo N s Rel true ls fv f) (hb : m.length + (eList f ls).length ≤ 140737488300000) :
    ∃ t, (run Tryz.prog (libL libT) hints) 32 [wP N, v, fv] s = some (unitV, t) ∧ WAp lo N s t (m ++ eList f ls) := by
  unfold eList at hb ⊢
  rw [List.length_append] at hb
  obtain ⟨t1, g1, g2⟩ := w_int' h hs (n := ((ls.length : Nat) : Int)) ⟨by omega, by omega⟩ (by rw [eN_nat]; omega)
  rw [eN_nat] at g2
  obtain ⟨t2, f1, f2⟩ := rowsS_gen (zs := [.int .i64 0, .int .u64 0, .int .u64 0, .slice none 0 0]) (t1 := 82) hl hL rfl hleaf hp g2 (by rw [List.length_append]; omega)
  have f3 := record_rows_api_Last_of (lib := libL libT) (x0 := wP N) rfl f1
  refine ⟨t2, record_list_api_Last_of rfl ?_, by rw [← List.append_assoc]; exact g2.trans f2⟩
  unfold record_list_api_Last
  simp only [hL.1, record_writer_int_call, g1, record_rows_api_Last_call, f3, ret_0, n_bind, n_map, getL_0, getL_1, getL_2, getL_3, getL_4, getL_5, getL_6, getL_7, getL_8, getL_9, getL_10, getL_11, getL_12, condV_t, condV_f, guardV_tt, guardV_ff, guardV_tf, guardV_ft, guardV_u, apick_t, apick_f, exV_exit, exV_ret, lookE_same, joinK_eq, seqA_n, seqA_e, seqA_r, e_add, e_sub, e_mul, e_eql, e_neq, e_lss, e_leq, e_gtr, e_geq, e_conv, e_not, e_neg, and_guard, or_guard]
theorem wl_api_Result {α : Type} {lo N : Nat} {s : St} {m : BL} {v fv : Value} {ls : List α} {f : α → BL} {Rel : α → List Value → Prop} (h : ∃ x, Wt lo N s x m) (hs : lo ≤ s.heap.length) (hL : Elems lo N s 3 true v ls Rel) (hl : ls.length < 140737488355328) (hleaf : ∀ a cs, Rel a cs → cs.length = 3 ∧ cs.all isLeaf = true) (hp : Puts lo N s Rel true ls fv f) (hb : m.length + (eList f ls).length ≤ 140737488300000) :
    ∃ t, (run Tryz.prog (libL libT) hints) 100 [wP N, v, fv] s = some (unitV, t) ∧ WAp lo N s t (m ++ eList f ls) := by
  unfold eList at hb ⊢
  rw [List.length_append] at hb
  obtain ⟨t1, g1, g2⟩ := w_int' h hs (n := ((ls.length : Nat) : Int)) ⟨by omega, by omega⟩ (by rw [eN_nat]; omega)
  rw [eN_nat] at g2
  obtain ⟨t2, f1, f2⟩ := rowsS_gen (zs := [.bool false, .string ⟨#[]⟩, .slice none 0 0]) (t1 := 146) hl hL rfl hleaf hp g2 (by rw [List.length_append]; omega)
  have f3 := record_rows_api_Result_of (lib := libL libT) (x0 := wP N) rfl f1
  refine ⟨t2, record_list_api_Result_of rfl ?_, by rw [← List.append_assoc]; exact g2.trans f2⟩
  unfold record_list_api_Result
  simp only [hL.1, record_writer_int_call, g1, record_rows_api_Result_call, f3, ret_0, n_bind, n_map, getL_0, getL_1, getL_2, getL_3, getL_4, getL_5, getL_6, getL_7, getL_8, getL_9, getL_10, getL_11, getL_12, condV_t, condV_f, guardV_tt, guardV_ff, guardV_tf, guardV_ft, guardV_u, apick_t, apick_f, exV_exit, exV_ret, lookE_same, joinK_eq, seqA_n, seqA_e, seqA_r, e_add, e_sub, e_mul, e_eql, e_neq, e_lss, e_leq, e_gtr, e_geq, e_conv, e_not, e_neg, and_guard, or_guard]
theorem wl_api_Pair {α : Type} {lo N : Nat} {s : St} {m : BL} {v fv : Value} {ls : List α} {f : α → BL} {Rel : α → List Value → Prop} (h : ∃ x, Wt lo N s x m) (hs : lo ≤ s.heap.length) (hL : Elems lo N s 2 true v ls Rel) (hl : ls.length < 140737488355328) (hleaf : ∀ a cs, Rel a cs → cs.length = 2 ∧ cs.all isLeaf = true) (hp : Puts lo N s Rel true ls fv f) (hb : m.length + (eList f ls).length ≤ 140737488300000) :
    ∃ t, (run Tryz.prog (libL libT) hints) 135 [wP N, v, fv] s = some (unitV, t) ∧ WAp lo N s t (m ++ eList f ls) := by
  unfold eList at hb ⊢
  rw [List.length_append] at hb
  obtain ⟨t1, g1, g2⟩ := w_int' h hs (n := ((ls.length : Nat) : Int)) ⟨by omega, by omega⟩ (by rw [eN_nat]; omega)
  rw [eN_nat] at g2
  obtain ⟨t2, f1, f2⟩ := rowsS_gen (zs := [.string ⟨#[]⟩, .string ⟨#[]⟩]) (t1 := 150) hl hL rfl hleaf hp g2 (by rw [List.length_append]; omega)
  have f3 := record_rows_api_Pair_of (lib := libL libT) (x0 := wP N) rfl f1
  refine ⟨t2, record_list_api_Pair_of rfl ?_, by rw [← List.append_assoc]; exact g2.trans f2⟩
  unfold record_list_api_Pair
  simp only [hL.1, record_writer_int_call, g1, record_rows_api_Pair_call, f3, ret_0, n_bind, n_map, getL_0, getL_1, getL_2, getL_3, getL_4, getL_5, getL_6, getL_7, getL_8, getL_9, getL_10, getL_11, getL_12, condV_t, condV_f, guardV_tt, guardV_ff, guardV_tf, guardV_ft, guardV_u, apick_t, apick_f, exV_exit, exV_ret, lookE_same, joinK_eq, seqA_n, seqA_e, seqA_r, e_add, e_sub, e_mul, e_eql, e_neq, e_lss, e_leq, e_gtr, e_geq, e_conv, e_not, e_neg, and_guard, or_guard]

theorem puts_num {lo N : Nat} {s1 : St} (hs : lo ≤ s1.heap.length) {ls : List Int} (hp : ∀ a ∈ ls, inN64 a) {Rel : Int → List Value → Prop} (hR : ∀ a cs, Rel a cs → cs = [.int .u64 a]) : Puts lo N s1 Rel false ls (mv 25 N) eN := by
  intro a ha t m u cs hw hr hsh hb
  have hsh : cs = [u] := hsh
  subst hsh
  obtain rfl : u = .int .u64 a := (List.cons.inj (hR a _ hr)).1
  obtain ⟨t', g1, g2⟩ := w_num' hw.wt (hw.lo_le hs) (hp a ha) hb
  exact ⟨t', by rw [call_mv record_writer_num_ok]; exact g1, g2⟩
theorem puts_int {lo N : Nat} {s1 : St} (hs : lo ≤ s1.heap.length) {ls : List Int} (hp : ∀ a ∈ ls, inN63 a) {Rel : Int → List Value → Prop} (hR : ∀ a cs, Rel a cs → cs = [.int .i64 a]) : Puts lo N s1 Rel false ls (mv 88 N) eN := by
  intro a ha t m u cs hw hr hsh hb
  have hsh : cs = [u] := hsh
  subst hsh
  obtain rfl : u = .int .i64 a := (List.cons.inj (hR a _ hr)).1
  obtain ⟨t', g1, g2⟩ := w_int' hw.wt (hw.lo_le hs) (hp a ha) hb
  exact ⟨t', by rw [call_mv record_writer_int_ok]; exact g1, g2⟩
theorem w_nums {lo N : Nat} {s : St} {l : BL} (h : ∃ x, Wt lo N s x l) (hs : lo ≤ s.heap.length) {ls : List Int} {k : Nat} (hk : ls.length = k) (hl : ls.length < 1000) (hp : ∀ a ∈ ls, inN64 a) (hb : l.length + (ls.flatMap eN).length ≤ 140737488300000) :
    ∃ t, (run Tryz.prog (libL libT) hints) 19 [wP N, .slice (some ⟨s.heap.length, 0, none⟩) k k] (s.push (.row 1 (ls.map fun a => .int .u64 a) .act)) = some (unitV, t) ∧ WAp lo N s t (l ++ ls.flatMap eN) := by
  subst hk
  have hs1 : lo ≤ (s.push (.row 1 (ls.map fun a => Value.int .u64 a) .act)).heap.length := by rw [push_len]; omega
  obtain ⟨t, h1, h2⟩ := rowsI_gen (t1 := 22) (by omega) (elems_tmp (fun a : Int => Value.int .u64 a) h) (puts_num hs1 hp fun a cs h => h) (wap_start (wt_push h)) hb
  have h3 := record_rows_uint64_of (lib := libL libT) (x0 := wP N) rfl h1
  have hmk : amkFunc 25 [wP N] [] = some (mv 25 N) := rfl
  refine ⟨t, record_writer_nums_of rfl ?_, wap_push h h2⟩
  unfold record_writer_nums
  simp only [hmk, record_rows_uint64_call, h3, ret_0, n_bind, n_map, getL_0, getL_1, getL_2, getL_3, getL_4, getL_5, getL_6, getL_7, getL_8, getL_9, getL_10, getL_11, getL_12, condV_t, condV_f, guardV_tt, guardV_ff, guardV_tf, guardV_ft, guardV_u, apick_t, apick_f, exV_exit, exV_ret, lookE_same, joinK_eq, seqA_n, seqA_e, seqA_r, e_add, e_sub, e_mul, e_eql, e_neq, e_lss, e_leq, e_gtr, e_geq, e_conv, e_not, e_neg, and_guard, or_guard]

def okOp (o : OpT) : Prop := inN63 o.kind ∧ inN63 o.most
theorem op_loop {lo N : Nat} {s1 : St} {v V : Value} {ks : List BL} (hL : Elems lo N s1 1 false v ks fun k cs => cs = [sv k]) (hl : ks.length < 1000) : ∀ (rest : List BL) (i : Nat) (t : St) (m : BL), ks.drop i = rest → i ≤ ks.length → lo ≤ s1.heap.length → WAp lo N s1 t m → m.length + (rest.flatMap tB).length ≤ 140737488300000 →
    ∃ t', loopL (record_writer_op.b0 (run Tryz.prog (libL libT) hints)) [wP N, lptr, v, .int .i64 ((ks.length : Nat) : Int), .int .i64 (i : Int), V] t = some (.exit 0, [wP N, lptr, V], t') ∧ WAp lo N t t' (m ++ rest.flatMap tB) := by
  intro rest
  induction rest with
  | nil =>
    intro i t m hi hle hs hw hb
    have h1 : decide ((i : Int) < ((ks.length : Nat) : Int)) = false := by
      have := List.drop_eq_nil_iff.1 hi
      simp; omega
    refine ⟨t, ?_, by rw [List.flatMap_nil, List.append_nil]; exact wap_start hw.wt⟩
    rw [loopL_eq]
    simp only [record_writer_op.b0, h1, n_bind, n_map, getL_0, getL_1, getL_2, getL_3, getL_4, getL_5, getL_6, getL_7, getL_8, getL_9, getL_10, getL_11, getL_12, condV_t, condV_f, guardV_tt, guardV_ff, guardV_tf, guardV_ft, guardV_u, apick_t, apick_f, exV_exit, exV_ret, lookE_same, joinK_eq, seqA_n, seqA_e, seqA_r, e_add, e_sub, e_mul, e_eql, e_neq, e_lss, e_leq, e_gtr, e_geq, e_conv, e_not, e_neg, and_guard, or_guard]
  | cons a rest ih =>
    intro i t m hi hle hs hw hb
    obtain ⟨hlt, he, hd⟩ := drop_nx hi
    have h1 : decide ((i : Int) < ((ks.length : Nat) : Int)) = true := by simp; omega
    obtain ⟨q, u, cs, h2, h4, h5, h3⟩ := hL.2 i hlt
    have h3 := h3 t m hw
    have h4 : cs = [u] := h4
    subst h4
    rw [he] at h5
    obtain rfl : u = sv a := (List.cons.inj h5).1
    rw [fm_consW, List.length_append] at hb
    obtain ⟨t1, g1, g2⟩ := w_text' hw.wt (hw.lo_le hs) (k := a) (by omega)
    obtain ⟨t2, f1, f2⟩ := ih (i + 1) t1 (m ++ tB a) hd (by omega) hs (hw.trans g2) (by rw [List.length_append]; omega)
    refine ⟨t2, ?_, by rw [fm_consW, ← List.append_assoc]; exact g2.trans f2⟩
    rw [loopL_eq]
    simp only [record_writer_op.b0, h1, h2, h3, record_writer_text_call, g1, inc_i (show i < 140737488355328 by omega), n_bind, n_map, getL_0, getL_1, getL_2, getL_3, getL_4, getL_5, getL_6, getL_7, getL_8, getL_9, getL_10, getL_11, getL_12, condV_t, condV_f, guardV_tt, guardV_ff, guardV_tf, guardV_ft, guardV_u, apick_t, apick_f, exV_exit, exV_ret, lookE_same, joinK_eq, seqA_n, seqA_e, seqA_r, e_add, e_sub, e_mul, e_eql, e_neq, e_lss, e_leq, e_gtr, e_geq, e_conv, e_not, e_neg, and_guard, or_guard]
    exact f1
theorem w_op {lo N : Nat} {s : St} {l : BL} (h : ∃ x, Wt lo N s x l) (hs : lo ≤ s.heap.length) {o : OpT} (ho : okOp o) (hb : l.length + (eOp o).length ≤ 140737488300000) : ∃ t, (run Tryz.prog (libL libT) hints) 93 [wP N, oV o] s = some (unitV, t) ∧ WAp lo N s t (l ++ eOp o) := by
  have he : eOp o = eN o.kind ++ ([o.key, o.val, o.lo, o.hi].flatMap tB ++ eN o.most) := by simp [eOp]
  rw [he] at hb ⊢
  rw [List.length_append, List.length_append] at hb
  obtain ⟨t1, g1, g2⟩ := w_int' h hs ho.1 (by omega)
  have hs1 := g2.lo_le hs
  obtain ⟨t2, f1, f2⟩ := op_loop (v := .slice (some ⟨t1.heap.length, 0, none⟩) 4 4) (V := oV o) (elems_tmp (ls := [o.key, o.val, o.lo, o.hi]) sv g2.wt) (by simp) [o.key, o.val, o.lo, o.hi] 0 (t1.push (.row 1 ([o.key, o.val, o.lo, o.hi].map sv) .act)) (l ++ eN o.kind) rfl (Nat.zero_le _) (by rw [push_len]; omega) (wap_start (wt_push g2.wt)) (by rw [List.length_append]; omega)
  have f3 := wap_push g2.wt f2
  obtain ⟨t3, k1, k2⟩ := w_int' f3.wt (f3.lo_le hs1) ho.2 (by rw [List.length_append, List.length_append]; omega)
  refine ⟨t3, record_writer_op_of rfl ?_, ?_⟩
  · have hbx : lbox (oV o) = some (oV o) := rfl
    have l0 : lload false 1 lptr (oV o) = some (.int .i64 o.kind) := rfl
    have l1 : lload false 1 (.pointer (some ⟨0, 1, none⟩)) (oV o) = some (sv o.key) := rfl
    have l2 : lload false 1 (.pointer (some ⟨0, 2, none⟩)) (oV o) = some (sv o.val) := rfl
    have l3 : lload false 1 (.pointer (some ⟨0, 3, none⟩)) (oV o) = some (sv o.lo) := rfl
    have l4 : lload false 1 (.pointer (some ⟨0, 4, none⟩)) (oV o) = some (sv o.hi) := rfl
    have l5 : lload false 1 (.pointer (some ⟨0, 5, none⟩)) (oV o) = some (.int .i64 o.most) := rfl
    have a5 : afieldAddr 5 lptr = some (.pointer (some ⟨0, 5, none⟩)) := rfl
    have hsl : abuildSl 1 [(.string ⟨#[]⟩)] 4 [(0, sv o.key), (1, sv o.val), (2, sv o.lo), (3, sv o.hi)] t1 = some (.slice (some ⟨t1.heap.length, 0, none⟩) 4 4, t1.push (.row 1 ([o.key, o.val, o.lo, o.hi].map sv) .act)) := rfl
    have hlen : ∀ ty t, alenV (.slice ty) (.slice (some ⟨t1.heap.length, 0, none⟩) 4 4) t = some (.int .i64 4) := fun _ _ => rfl
    have f1' : loopL (record_writer_op.b0 (run Tryz.prog (libL libT) hints)) [wP N, lptr, .slice (some ⟨t1.heap.length, 0, none⟩) 4 4, .int .i64 4, .int .i64 0, oV o] (t1.push (.row 1 ([o.key, o.val, o.lo, o.hi].map sv) .act)) = some (.exit 0, [wP N, lptr, oV o], t2) := f1
    unfold record_writer_op
    simp only [hbx, l0, record_writer_int_call, g1, l1, l2, l3, l4, hsl, hlen, f1', a5, l5, k1, ret_0, n_bind, n_map, getL_0, getL_1, getL_2, getL_3, getL_4, getL_5, getL_6, getL_7, getL_8, getL_9, getL_10, getL_11, getL_12, condV_t, condV_f, guardV_tt, guardV_ff, guardV_tf, guardV_ft, guardV_u, apick_t, apick_f, exV_exit, exV_ret, lookE_same, joinK_eq, seqA_n, seqA_e, seqA_r, e_add, e_sub, e_mul, e_eql, e_neq, e_lss, e_leq, e_gtr, e_geq, e_conv, e_not, e_neg, and_guard, or_guard]
  · have := g2.trans (f3.trans k2)
    simpa only [List.append_assoc] using this
theorem puts_op {lo N : Nat} {s1 : St} (hs : lo ≤ s1.heap.length) {ls : List OpT} (hp : ∀ a ∈ ls, okOp a) {s0 : St} : Puts lo N s1 (fun o cs => (NCod.ofC opC fun _ => True).rel o s0 cs) true ls (mv 93 N) eOp := by
  intro a ha t m u cs hw hr hsh hb
  obtain rfl := op_shape hr hsh
  obtain ⟨t', g1, g2⟩ := w_op hw.wt (hw.lo_le hs) (hp a ha) hb
  exact ⟨t', by rw [call_mv record_writer_op_ok]; exact g1, g2⟩
theorem puts_ow {lo N : Nat} {s1 : St} (hs : lo ≤ s1.heap.length) {ls : List Ow} (hp : ∀ a ∈ ls, inN63 a.2) {s0 : St} : Puts lo N s1 (fun o cs => (NCod.ofC owC fun _ => True).rel o s0 cs) true ls (mv 21 N) eOw := by
  intro a ha t m u cs hw hr hsh hb
  obtain ⟨rfl, _⟩ := hr
  have hsh : u = owV a := hsh
  subst hsh
  obtain ⟨t', g1, g2⟩ := w_owner hw.wt (hw.lo_le hs) (hp a ha) hb
  exact ⟨t', by rw [call_mv record_writer_owner_ok]; exact g1, g2⟩
theorem puts_pr {lo N : Nat} {s1 : St} (hs : lo ≤ s1.heap.length) {ls : List Rg} {s0 : St} : Puts lo N s1 (fun o cs => (NCod.ofC prC fun _ => True).rel o s0 cs) true ls (mv 136 N) ePr := by
  intro a ha t m u cs hw hr hsh hb
  obtain ⟨rfl, _⟩ := hr
  have hsh : u = rv a := hsh
  subst hsh
  obtain ⟨t', g1, g2⟩ := w_pair hw.wt (hw.lo_le hs) hb
  exact ⟨t', by rw [call_mv record_writer_pair_ok]; exact g1, g2⟩

end Go.Proofs.YtckpcelchhmjcaaGreat.Ab

/- Bytes are written: what is held, decisions, results; the whole of a state. -/
namespace Go.Proofs.YtckpcelchhmjcaaGreat.Ab
open Go

theorem ofC_len {α : Type} {C : Cod α} {Pr : α → Prop} {s0 : St} (a : α) (cs : List Value) (h : (NCod.ofC C Pr).rel a s0 cs) : cs.length = C.n ∧ cs.all isLeaf = true := by
  rw [h.1]
  exact ⟨C.len a, leaf_isLeaf (C.leaf a)⟩
theorem listN_short {α : Type} {C : NCod α} {B : Nat} {l : List α} {s : St} {v : Value} (h : ListN C B l s v) (hB : 1 ≤ B) : l.length < 140737488355328 := by
  have h1 : l.length * B ≤ 140737488351232 := h.1
  have : l.length * 1 ≤ l.length * B := Nat.mul_le_mul_left _ hB
  omega
section
variable {lo N : Nat} {s0 s1 : St} (hlo : s0.heap.length = lo) (hx : Ext lo s0 s1)
include hlo hx
theorem puts_ho {ls : List Ho} (hp : ∀ a ∈ ls, ∀ o ∈ a.2, okOp o) : Puts lo N s1 (fun h cs => hoN.rel h s0 cs) true ls (mv 23 N) eHo := by
  intro a ha t m u cs hw hr hsh hb
  have hsh : u = .agg cs.toArray := hsh
  subst hsh
  obtain ⟨o, rfl, w, ho⟩ := ho_inv hr
  have hs1 : lo ≤ s1.heap.length := by have := hx.1; omega
  have hxt : Ext lo s0 t := hx.trans (hw.ext hs1)
  unfold eHo at hb ⊢
  rw [List.length_append] at hb
  obtain ⟨t1, g1, g2⟩ := w_num' hw.wt (hw.lo_le hs1) (wf_64 w) (by omega)
  have hst := hw.lo_le hs1
  have hs2 := g2.lo_le hst
  obtain ⟨t2, f1, f2⟩ := wl_api_Op g2.wt hs2 (elems_arg ho hlo (hxt.trans (g2.ext hst)) (n := 6) rfl (.inl rfl)) (listN_short ho (by decide)) ofC_len (puts_op hs2 (hp a ha)) (by rw [List.length_append]; omega)
  refine ⟨t2, ?_, by rw [← List.append_assoc]; exact g2.trans f2⟩
  rw [call_mv record_writer_hold_ok]
  refine record_writer_hold_of rfl ?_
  have hbx := lbox_cs (cs := [.int .u64 a.1, o]) (by simp only [List.all_cons, listN_leafR ho, List.all_nil]; rfl)
  have l0 : lload false 1 lptr (.agg [.int .u64 a.1, o].toArray) = some (.int .u64 a.1) := rfl
  have l1 : lload false 1 (.pointer (some ⟨0, 1, none⟩)) (.agg [.int .u64 a.1, o].toArray) = some o := rfl
  have hmk : amkFunc 93 [wP N] [] = some (mv 93 N) := rfl
  unfold record_writer_hold
  simp only [hbx, l0, record_writer_num_call, g1, l1, hmk, record_list_api_Op_call, f1, ret_0, n_bind, n_map, getL_0, getL_1, getL_2, getL_3, getL_4, getL_5, getL_6, getL_7, getL_8, getL_9, getL_10, getL_11, getL_12, condV_t, condV_f, guardV_tt, guardV_ff, guardV_tf, guardV_ft, guardV_u, apick_t, apick_f, exV_exit, exV_ret, lookE_same, joinK_eq, seqA_n, seqA_e, seqA_r, e_add, e_sub, e_mul, e_eql, e_neq, e_lss, e_leq, e_gtr, e_geq, e_conv, e_not, e_neg, and_guard, or_guard]
theorem puts_rs {ls : List Rs} : Puts lo N s1 (fun r cs => rsN.rel r s0 cs) true ls (mv 101 N) eRs := by
  intro a ha t m u cs hw hr hsh hb
  have hsh : u = .agg cs.toArray := hsh
  subst hsh
  obtain ⟨o, rfl, ho, w⟩ := rs_inv hr
  have hs1 : lo ≤ s1.heap.length := by have := hx.1; omega
  have hxt : Ext lo s0 t := hx.trans (hw.ext hs1)
  unfold eRs at hb ⊢
  simp only [List.length_append, List.length_singleton] at hb
  have hst := hw.lo_le hs1
  obtain ⟨t1, g1, g2⟩ := w_flag' hw.wt hst a.1 (by omega)
  have hs2 := g2.lo_le hst
  obtain ⟨t2, f1, f2⟩ := w_text' g2.wt hs2 (k := a.2.1) (by simp only [List.length_append, List.length_singleton]; omega)
  have g3 := g2.trans f2
  have hs3 := g3.lo_le hst
  obtain ⟨t3, k1, k2⟩ := wl_api_Pair g3.wt hs3 (elems_arg ho hlo (hxt.trans (g3.ext hst)) (n := 2) rfl (.inl rfl)) (listN_short ho (by decide)) ofC_len (puts_pr hs3) (by simp only [List.length_append, List.length_singleton]; omega)
  refine ⟨t3, ?_, by simpa only [List.append_assoc] using g3.trans k2⟩
  rw [call_mv record_writer_result_ok]
  refine record_writer_result_of rfl ?_
  have hbx := lbox_cs (cs := [.bool a.1, sv a.2.1, o]) (by simp only [List.all_cons, listN_leafR ho, List.all_nil]; rfl)
  have l0 : lload false 1 lptr (.agg [.bool a.1, sv a.2.1, o].toArray) = some (.bool a.1) := rfl
  have l1 : lload false 1 (.pointer (some ⟨0, 1, none⟩)) (.agg [.bool a.1, sv a.2.1, o].toArray) = some (sv a.2.1) := rfl
  have l2 : lload false 1 (.pointer (some ⟨0, 2, none⟩)) (.agg [.bool a.1, sv a.2.1, o].toArray) = some o := rfl
  have hmk : amkFunc 136 [wP N] [] = some (mv 136 N) := rfl
  unfold record_writer_result
  simp only [hbx, l0, record_writer_flag_call, g1, l1, record_writer_text_call, f1, l2, hmk, record_list_api_Pair_call, k1, ret_0, n_bind, n_map, getL_0, getL_1, getL_2, getL_3, getL_4, getL_5, getL_6, getL_7, getL_8, getL_9, getL_10, getL_11, getL_12, condV_t, condV_f, guardV_tt, guardV_ff, guardV_tf, guardV_ft, guardV_u, apick_t, apick_f, exV_exit, exV_ret, lookE_same, joinK_eq, seqA_n, seqA_e, seqA_r, e_add, e_sub, e_mul, e_eql, e_neq, e_lss, e_leq, e_gtr, e_geq, e_conv, e_not, e_neg, and_guard, or_guard]
theorem puts_de {ls : List De} (hp : ∀ a ∈ ls, inN63 a.2.1 ∧ ∀ n ∈ a.2.2.2.2, inN63 n) : Puts lo N s1 (fun d cs => deN.rel d s0 cs) true ls (mv 31 N) eDe := by
  intro a ha t m u cs hw hr hsh hb
  have hsh : u = .agg cs.toArray := hsh
  subst hsh
  obtain ⟨o, rfl, ho, w0, w1, w2, w3⟩ := de_inv hr
  obtain ⟨p1, p2⟩ := hp a ha
  have hs1 : lo ≤ s1.heap.length := by have := hx.1; omega
  have hxt : Ext lo s0 t := hx.trans (hw.ext hs1)
  have he : eDe a = [a.1, a.2.1, a.2.2.1, a.2.2.2.1].flatMap eN ++ eList eN a.2.2.2.2 := by simp [eDe]
  rw [he] at hb ⊢
  rw [List.length_append] at hb
  have hst := hw.lo_le hs1
  obtain ⟨t1, g1, g2⟩ := w_nums hw.wt hst (ls := [a.1, a.2.1, a.2.2.1, a.2.2.2.1]) (k := 4) rfl (by simp) (by
    have q1 := wf_64 w0
    have q2 := wf_64 w2
    have q3 := wf_64 w3
    intro n hn
    simp only [List.mem_cons, List.not_mem_nil, or_false] at hn
    rcases hn with rfl | rfl | rfl | rfl
    · exact q1
    · exact ⟨p1.1, by have := p1.2; omega⟩
    · exact q2
    · exact q3) (by omega)
  have hs2 := g2.lo_le hst
  obtain ⟨t2, f1, f2⟩ := wl_int g2.wt hs2 (elems_arg ho hlo (hxt.trans (g2.ext hst)) (n := 1) rfl (.inr rfl)) (listN_short ho (by decide)) (puts_int hs2 p2 fun a cs h => h.1) (by rw [List.length_append]; omega)
  refine ⟨t2, ?_, by rw [← List.append_assoc]; exact g2.trans f2⟩
  rw [call_mv record_writer_decision_ok]
  refine record_writer_decision_of rfl ?_
  have hwc : IntKind.wrap .u64 a.2.1 = a.2.1 := by
    have := p1.1
    have h1 : a.2.1 = ((a.2.1.toNat : Nat) : Int) := (Int.toNat_of_nonneg p1.1).symm
    rw [h1]
    exact uwrap rfl (Nat.lt_trans (show a.2.1.toNat < 9223372036854775808 by have := p1.2; omega) (by decide))
  generalize hu : (Value.agg [.int .u64 a.1, .int .i64 a.2.1, .int .u64 a.2.2.1, .int .u64 a.2.2.2.1, o].toArray) = u
  have hbx : lbox u = some u := by
    rw [← hu]
    exact lbox_cs (cs := [.int .u64 a.1, .int .i64 a.2.1, .int .u64 a.2.2.1, .int .u64 a.2.2.2.1, o]) (by simp only [List.all_cons, listN_leafR ho, List.all_nil]; rfl)
  have l0 : lload false 1 lptr u = some (.int .u64 a.1) := by rw [← hu]; rfl
  have l1 : lload false 1 (.pointer (some ⟨0, 1, none⟩)) u = some (.int .i64 a.2.1) := by rw [← hu]; rfl
  have l2 : lload false 1 (.pointer (some ⟨0, 2, none⟩)) u = some (.int .u64 a.2.2.1) := by rw [← hu]; rfl
  have l3 : lload false 1 (.pointer (some ⟨0, 3, none⟩)) u = some (.int .u64 a.2.2.2.1) := by rw [← hu]; rfl
  have l4 : lload false 1 (.pointer (some ⟨0, 4, none⟩)) u = some o := by rw [← hu]; rfl
  have hsl : abuildSl 1 [(.int .u64 0)] 4 [(0, .int .u64 a.1), (1, .int .u64 a.2.1), (2, .int .u64 a.2.2.1), (3, .int .u64 a.2.2.2.1)] t = some (.slice (some ⟨t.heap.length, 0, none⟩) 4 4, t.push (.row 1 ([a.1, a.2.1, a.2.2.1, a.2.2.2.1].map fun a => .int .u64 a) .act)) := rfl
  have hmk : amkFunc 88 [wP N] [] = some (mv 88 N) := rfl
  unfold record_writer_decision
  simp only [hbx, l0, l1, hwc, l2, l3, hsl, record_writer_nums_call, g1, l4, hmk, record_list_int_call, f1, ret_0, n_bind, n_map, getL_0, getL_1, getL_2, getL_3, getL_4, getL_5, getL_6, getL_7, getL_8, getL_9, getL_10, getL_11, getL_12, condV_t, condV_f, guardV_tt, guardV_ff, guardV_tf, guardV_ft, guardV_u, apick_t, apick_f, exV_exit, exV_ret, lookE_same, joinK_eq, seqA_n, seqA_e, seqA_r, e_add, e_sub, e_mul, e_eql, e_neq, e_lss, e_leq, e_gtr, e_geq, e_conv, e_not, e_neg, and_guard, or_guard]
theorem puts_la {ls : List La} (hp : ∀ a ∈ ls, inN63 a.1) : Puts lo N s1 (fun d cs => laN.rel d s0 cs) true ls (mv 33 N) eLa := by
  intro a ha t m u cs hw hr hsh hb
  have hsh : u = .agg cs.toArray := hsh
  subst hsh
  obtain ⟨o, rfl, ho, w1, w2, w3⟩ := la_inv hr
  have p1 := hp a ha
  have hs1 : lo ≤ s1.heap.length := by have := hx.1; omega
  have hxt : Ext lo s0 t := hx.trans (hw.ext hs1)
  have he : eLa a = [a.1, a.2.1, a.2.2.1].flatMap eN ++ eList eRs a.2.2.2 := by simp [eLa]
  rw [he] at hb ⊢
  rw [List.length_append] at hb
  have hst := hw.lo_le hs1
  obtain ⟨t1, g1, g2⟩ := w_nums hw.wt hst (ls := [a.1, a.2.1, a.2.2.1]) (k := 3) rfl (by simp) (by
    have q2 := wf_64 w2
    have q3 := wf_64 w3
    intro n hn
    simp only [List.mem_cons, List.not_mem_nil, or_false] at hn
    rcases hn with rfl | rfl | rfl
    · exact ⟨p1.1, by have := p1.2; omega⟩
    · exact q2
    · exact q3) (by omega)
  have hs2 := g2.lo_le hst
  have hxt1 := hxt.trans (g2.ext hst)
  obtain ⟨t2, f1, f2⟩ := wl_api_Result g2.wt hs2 (elems_arg ho hlo hxt1 (n := 3) rfl (.inl rfl)) (listN_short ho (by decide)) (fun r cs h => by
    obtain ⟨o', rfl, ho', _⟩ := rs_inv h
    exact ⟨rfl, by simp only [List.all_cons, listN_leafR ho', List.all_nil]; rfl⟩) (puts_rs hlo hxt1) (by rw [List.length_append]; omega)
  refine ⟨t2, ?_, by rw [← List.append_assoc]; exact g2.trans f2⟩
  rw [call_mv record_writer_last_ok]
  refine record_writer_last_of rfl ?_
  have hwc : IntKind.wrap .u64 a.1 = a.1 := by
    have h1 : a.1 = ((a.1.toNat : Nat) : Int) := (Int.toNat_of_nonneg p1.1).symm
    rw [h1]
    exact uwrap rfl (Nat.lt_trans (show a.1.toNat < 9223372036854775808 by have := p1.2; omega) (by decide))
  generalize hu : (Value.agg [.int .i64 a.1, .int .u64 a.2.1, .int .u64 a.2.2.1, o].toArray) = u
  have hbx : lbox u = some u := by
    rw [← hu]
    exact lbox_cs (cs := [.int .i64 a.1, .int .u64 a.2.1, .int .u64 a.2.2.1, o]) (by simp only [List.all_cons, listN_leafR ho, List.all_nil]; rfl)
  have l0 : lload false 1 lptr u = some (.int .i64 a.1) := by rw [← hu]; rfl
  have l1 : lload false 1 (.pointer (some ⟨0, 1, none⟩)) u = some (.int .u64 a.2.1) := by rw [← hu]; rfl
  have l2 : lload false 1 (.pointer (some ⟨0, 2, none⟩)) u = some (.int .u64 a.2.2.1) := by rw [← hu]; rfl
  have l3 : lload false 1 (.pointer (some ⟨0, 3, none⟩)) u = some o := by rw [← hu]; rfl
  have hsl : abuildSl 1 [(.int .u64 0)] 3 [(0, .int .u64 a.1), (1, .int .u64 a.2.1), (2, .int .u64 a.2.2.1)] t = some (.slice (some ⟨t.heap.length, 0, none⟩) 3 3, t.push (.row 1 ([a.1, a.2.1, a.2.2.1].map fun a => .int .u64 a) .act)) := rfl
  have hmk : amkFunc 101 [wP N] [] = some (mv 101 N) := rfl
  unfold record_writer_last
  simp only [hbx, l0, l1, hwc, l2, l3, hsl, record_writer_nums_call, g1, hmk, record_list_api_Result_call, f1, ret_0, n_bind, n_map, getL_0, getL_1, getL_2, getL_3, getL_4, getL_5, getL_6, getL_7, getL_8, getL_9, getL_10, getL_11, getL_12, condV_t, condV_f, guardV_tt, guardV_ff, guardV_tf, guardV_ft, guardV_u, apick_t, apick_f, exV_exit, exV_ret, lookE_same, joinK_eq, seqA_n, seqA_e, seqA_r, e_add, e_sub, e_mul, e_eql, e_neq, e_lss, e_leq, e_gtr, e_geq, e_conv, e_not, e_neg, and_guard, or_guard]
end

end Go.Proofs.YtckpcelchhmjcaaGreat.Ab

/- A state's bytes. -/
namespace Go.Proofs.YtckpcelchhmjcaaGreat.Ab
open Go

def encSd (d : Sd) : BL := [83] ++ [d.id, d.boot, d.ver, d.epoch, d.move].flatMap eN ++ eList eOw d.owners ++ eList eHo d.held ++ eList eN d.fin ++ [d.low, d.frozen].flatMap eN ++ ePr d.cold ++ [d.im, d.ia, d.inx].flatMap eN ++ ePr d.ir
def encCd (c : Cd) : BL := [67] ++ [c.shards, c.boot, c.ver, c.epoch].flatMap eN ++ eList eOw c.owners ++ eList eDe c.decided ++ eList eLa c.last

theorem ckO_ok {o : OpT} (h : ckO o = 0) : okOp o := by
  unfold ckO at h
  split at h
  · cases h
  · rename_i c
    simp only [Bool.or_eq_true, not_or, Bool.not_eq_true', Bool.and_eq_true, not_and] at c
    obtain ⟨⟨⟨⟨c1, _⟩, _⟩, _⟩, c5⟩ := c
    have hk := kinds (by simpa using c1 : okKind o.kind = true)
    split at h
    · cases h
    · split at h
      · cases h
      · split at h
        · cases h
        · split at h
          · cases h
          · rename_i c6
            refine ⟨⟨by omega, by omega⟩, ?_⟩
            by_cases h4 : o.kind = 4
            · simp only [h4, beq_self_eq_true, Bool.true_and, Bool.or_eq_true, decide_eq_true_eq, not_or] at c6
              exact ⟨by omega, by omega⟩
            · have : o.most = 0 := by
                by_cases hm : o.most = 0
                · exact hm
                · exact absurd (show (o.most != 0) = true by simp [hm]) (c5 (by simp [h4]))
              exact ⟨by omega, by omega⟩
theorem okF_sh : ∀ {l : List Ow} {p : Option BL}, okF p l = true → ∀ o ∈ l, inN63 o.2
  | [], _, _, o, ho => by cases ho
  | x :: l, p, h, o, ho => by
    have hx : shOk x.2 = true ∧ okF (some x.1) l = true := by
      cases p with
      | none => simpa [okF] using h
      | some p =>
        simp only [okF, Bool.and_eq_true] at h
        exact ⟨h.1.1, h.2⟩
    rcases List.mem_cons.1 ho with rfl | ho
    · have := hx.1
      simp only [shOk, Bool.and_eq_true, Bool.not_eq_true', decide_eq_false_iff_not] at this
      exact ⟨by omega, by omega⟩
    · exact okF_sh hx.2 o ho
theorem eO_sh {l : List Ow} (h : eO l = 0) : ∀ o ∈ l, inN63 o.2 := by
  have h1 : okO l = true := by
    have := eO_0 (l := l)
    rw [h] at this
    exact this.symm
  unfold okO at h1
  cases l with
  | nil => intro o ho; cases ho
  | cons x r =>
    simp only [Bool.and_eq_true] at h1
    exact okF_sh h1.2
structure SdOk (d : Sd) : Prop where
  id : inN63 d.id
  ow : ∀ o ∈ d.owners, inN63 o.2
  ops : ∀ h ∈ d.held, ∀ o ∈ h.2, okOp o
theorem eSd_ok {d : Sd} (h : eSd d = 0) : SdOk d := by
  unfold eSd at h
  by_cases c : bad1 d = true
  · rw [if_pos c] at h; cases h
  · rw [if_neg c] at h
    by_cases g : good2 d = true
    · simp only [bad1, Bool.or_eq_true, not_or, decide_eq_true_eq, bne_iff_ne, ne_eq, Decidable.not_not] at c
      obtain ⟨⟨⟨⟨⟨⟨c1, c2⟩, c3⟩, _⟩, _⟩, _⟩, _⟩ := c
      simp only [good2, Bool.and_eq_true, Bool.not_eq_true'] at g
      obtain ⟨⟨⟨_, g2⟩, _⟩, _⟩ := g
      refine ⟨⟨by omega, by omega⟩, eO_sh c3, fun x hx o ho => ckO_ok ?_⟩
      have h1 := List.any_eq_false.1 g2 x hx
      simp only [badHo, Bool.or_eq_true, not_or, Bool.not_eq_true, List.any_eq_false, Bool.not_eq_true', beq_eq_false_iff_ne, ne_eq, Decidable.not_not] at h1
      exact h1.2 o ho
    · rw [if_neg g] at h; cases h
theorem lst_u {l : List Int} {s : St} {v : Value} (h : ListN (wfN .u64) 8 l s v) : ∀ n ∈ l, inN64 n := by
  intro n hn
  obtain ⟨i, hi, rfl⟩ := List.getElem_of_mem hn
  obtain ⟨_, _, cs, _, _, _, _, h1⟩ := listN_get h hi (n := 1) rfl (ag := false) (.inr rfl)
  exact wf_64 h1.2
theorem wrap_pos {n : Int} (h : inN63 n) : IntKind.wrap .u64 n = n := by
  have h1 : n = ((n.toNat : Nat) : Int) := (Int.toNat_of_nonneg h.1).symm
  rw [h1]
  exact uwrap rfl (Nat.lt_trans (show n.toNat < 9223372036854775808 by have := h.2; have := h.1; omega) (by decide))
theorem in64 {n : Int} (h : inN63 n) : inN64 n := ⟨h.1, by have := h.2; omega⟩
theorem new_writer (c : UInt8) (t : St) : ∃ s1, anew (cellsV (.agg #[(newBytes [c] t).1])) (newBytes [c] t).2 = some (wP (t.heap.length + 1), s1) ∧ (∃ x, Wt t.heap.length (t.heap.length + 1) s1 x [c]) ∧ Ext t.heap.length t s1 := by
  refine ⟨(newBytes [c] t).2.push (.row 0 [(newBytes [c] t).1] .act), ?_, ⟨(newBytes [c] t).1, by omega, ?_, own_pushW (newBytes_own (Nat.le_refl _) (by simp)), ?_⟩, ?_⟩
  · have : (newBytes [c] t).2.heap.length = t.heap.length + 1 := push_len
    rw [← this]
    rfl
  · have : (newBytes [c] t).2.heap.length = t.heap.length + 1 := push_len
    rw [← this]
    exact push_get
  · simp [newBytes, blkOf]
  · exact (newBytes_ext (Nat.le_refl _)).trans (.push _ (by show t.heap.length ≤ (t.push _).heap.length; rw [push_len]; omega) _)
theorem w_abW {b : Nat} : abuild Tryz.prog 57 [(0, .slice (some ⟨b, 0, none⟩) 1 1)] = some (.agg #[.slice (some ⟨b, 0, none⟩) 1 1]) := by kernel_rfl
theorem wt_out {lo N : Nat} {s : St} {l : BL} (h : ∃ x, Wt lo N s x l) : ∃ x, aload false 1 (wP N) s = some x ∧ Own lo 1 s x (bv l) := by
  obtain ⟨x, h⟩ := h
  exact ⟨x, ld_cell h.2.1 (by simp) rfl, h.2.2.1⟩
theorem own_less {N M n : Nat} {s : St} {v : Value} {cs : List Value} (h : Own N n s v cs) (hM : M ≤ N) : Own M n s v cs := by
  rcases h with h | ⟨b, len, h1, h2, h3⟩
  · exact .inl h
  · exact .inr ⟨b, len, h1, Nat.le_trans hM h2, h3⟩
theorem ret_e {a : Value} {n : Int} {s : St} (h : noTup a = true) : retV [a, .int .i64 n] s = some (.tuple #[a, .int .i64 n], s) := by
  have : ([a, .int .i64 n] : List Value).all noTup = true := by simp only [List.all_cons, h, List.all_nil]; rfl
  unfold retV
  rw [if_pos this]
  rfl
theorem EncodeShard_run {d : Sd} {s : St} {v : Value} (h : NArg sdN d s v) (hb : eSd d = 0 → (encSd d).length ≤ 140737488300000) : ∃ x t, (run Tryz.prog (libL libT) hints) 7 [v] s = some (.tuple #[x, .int .i64 (eSd d)], t) ∧ Own s.heap.length 1 t x (bv (if eSd d = 0 then encSd d else [])) ∧ Ext s.heap.length s t := by
  obtain ⟨t0, c0, x0⟩ := CheckShard_run h
  obtain ⟨cs, rfl, hr⟩ := h
  obtain ⟨ow, he, fi, rfl, hs⟩ := sd_inv hr
  have hs0 := hs.ext x0
  generalize hu : (Value.agg (sdCells d ow he fi).toArray) = u at *
  have hbx : lbox u = some u := by rw [← hu]; exact lbox_cs (sd_leaf hs)
  have hal : lload true 17 lptr u = some u := by rw [← hu]; exact arr_all rfl
  have z0 : ((0 : Int) != 0) = false := rfl
  by_cases hz : eSd d = 0
  · have hb := hb hz
    have hok := eSd_ok hz
    rw [hz] at c0 ⊢
    rw [if_pos rfl]
    -- the writer
    have e1 : abuildSl 1 [(.int .u8 0)] 1 [(0, (.int .u8 83))] t0 = some (newBytes [83] t0) := rfl
    obtain ⟨s1, a1, w1, x1⟩ := new_writer 83 t0
    generalize hlo : t0.heap.length = lo at *
    have l1s : lo ≤ s1.heap.length := by have := x1.1; omega
    have i0 : lload false 1 lptr u = some (.int .i64 d.id) := by rw [← hu]; rfl
    have i1 : lload false 1 (.pointer (some ⟨0, 1, none⟩)) u = some (.int .u64 d.boot) := by rw [← hu]; rfl
    have i2 : lload false 1 (.pointer (some ⟨0, 2, none⟩)) u = some (.int .u64 d.ver) := by rw [← hu]; rfl
    have i3 : lload false 1 (.pointer (some ⟨0, 3, none⟩)) u = some (.int .u64 d.epoch) := by rw [← hu]; rfl
    have i4 : lload false 1 (.pointer (some ⟨0, 4, none⟩)) u = some (.int .u64 d.move) := by rw [← hu]; rfl
    have i5 : lload false 1 (.pointer (some ⟨0, 5, none⟩)) u = some ow := by rw [← hu]; rfl
    have i6 : lload false 1 (.pointer (some ⟨0, 6, none⟩)) u = some he := by rw [← hu]; rfl
    have i7 : lload false 1 (.pointer (some ⟨0, 7, none⟩)) u = some fi := by rw [← hu]; rfl
    have i8 : lload false 1 (.pointer (some ⟨0, 8, none⟩)) u = some (.int .u64 d.low) := by rw [← hu]; rfl
    have i9 : lload false 1 (.pointer (some ⟨0, 9, none⟩)) u = some (.int .u64 d.frozen) := by rw [← hu]; rfl
    have i10 : lload true 2 (.pointer (some ⟨0, 10, none⟩)) u = some (rv d.cold) := by rw [← hu]; rfl
    have i12 : lload false 1 (.pointer (some ⟨0, 12, none⟩)) u = some (.int .u64 d.im) := by rw [← hu]; rfl
    have i13 : lload false 1 (.pointer (some ⟨0, 13, none⟩)) u = some (.int .u64 d.ia) := by rw [← hu]; rfl
    have i14 : lload false 1 (.pointer (some ⟨0, 14, none⟩)) u = some (.int .u64 d.inx) := by rw [← hu]; rfl
    have i15 : lload true 2 (.pointer (some ⟨0, 15, none⟩)) u = some (rv d.ir) := by rw [← hu]; rfl
    unfold encSd at hb
    simp only [List.length_append, List.length_singleton] at hb
    obtain ⟨t1, a2, g2⟩ := w_nums w1 l1s (ls := [d.id, d.boot, d.ver, d.epoch, d.move]) (k := 5) rfl (by simp) (by
      have q1 := wf_64 hs.wboot
      have q2 := wf_64 hs.wver
      have q3 := wf_64 hs.wepoch
      have q4 := wf_64 hs.wmove
      intro n hn
      simp only [List.mem_cons, List.not_mem_nil, or_false] at hn
      rcases hn with rfl | rfl | rfl | rfl | rfl
      · exact in64 hok.id
      · exact q1
      · exact q2
      · exact q3
      · exact q4) (by rw [List.length_singleton]; omega)
    have l2 := g2.lo_le l1s
    have X2 := x1.trans (g2.ext l1s)
    obtain ⟨t2, a3, g3⟩ := wl_api_Owner g2.wt l2 (elems_arg hs0.ow hlo X2 (n := 2) rfl (.inl rfl)) (listN_short hs0.ow (by decide)) ofC_len (puts_ow l2 hok.ow) (by simp only [List.length_append, List.length_singleton]; omega)
    have l3 := g3.lo_le l2
    have X3 := X2.trans (g3.ext l2)
    obtain ⟨t3, a4, g4⟩ := wl_api_Hold g3.wt l3 (elems_arg hs0.he hlo X3 (n := 2) rfl (.inl rfl)) (listN_short hs0.he (by decide)) (fun r cs h => by
      obtain ⟨o', rfl, _, ho'⟩ := ho_inv h
      exact ⟨rfl, by simp only [List.all_cons, listN_leafR ho', List.all_nil]; rfl⟩) (puts_ho hlo X3 hok.ops) (by simp only [List.length_append, List.length_singleton]; omega)
    have l4 := g4.lo_le l3
    have X4 := X3.trans (g4.ext l3)
    obtain ⟨t4, a5, g5⟩ := wl_uint64 g4.wt l4 (elems_arg hs0.fi hlo X4 (n := 1) rfl (.inr rfl)) (listN_short hs0.fi (by decide)) (puts_num l4 (lst_u hs0.fi) fun a cs h => h.1) (by simp only [List.length_append, List.length_singleton]; omega)
    have l5 := g5.lo_le l4
    have X5 := X4.trans (g5.ext l4)
    obtain ⟨t5, a6, g6⟩ := w_nums g5.wt l5 (ls := [d.low, d.frozen]) (k := 2) rfl (by simp) (by
      have q1 := wf_64 hs.wlow
      have q2 := wf_64 hs.wfrozen
      intro n hn
      simp only [List.mem_cons, List.not_mem_nil, or_false] at hn
      rcases hn with rfl | rfl
      · exact q1
      · exact q2) (by simp only [List.length_append, List.length_singleton]; omega)
    have l6 := g6.lo_le l5
    have X6 := X5.trans (g6.ext l5)
    obtain ⟨t6, a7, g7⟩ := w_span g6.wt l6 (r := d.cold) (by simp only [List.length_append, List.length_singleton]; omega)
    have l7 := g7.lo_le l6
    have X7 := X6.trans (g7.ext l6)
    obtain ⟨t7, a8, g8⟩ := w_nums g7.wt l7 (ls := [d.im, d.ia, d.inx]) (k := 3) rfl (by simp) (by
      have q1 := wf_64 hs.wim
      have q2 := wf_64 hs.wia
      have q3 := wf_64 hs.winx
      intro n hn
      simp only [List.mem_cons, List.not_mem_nil, or_false] at hn
      rcases hn with rfl | rfl | rfl
      · exact q1
      · exact q2
      · exact q3) (by simp only [List.length_append, List.length_singleton]; omega)
    have l8 := g8.lo_le l7
    have X8 := X7.trans (g8.ext l7)
    obtain ⟨t8, a9, g9⟩ := w_span g8.wt l8 (r := d.ir) (by simp only [List.length_append, List.length_singleton]; omega)
    have X9 := X8.trans (g9.ext l8)
    obtain ⟨x, hx1, hx2⟩ := wt_out g9.wt
    have n5 : ∀ a b c d' e s, abuildSl 1 [(.int .u64 0)] 5 [(0, .int .u64 a), (1, .int .u64 b), (2, .int .u64 c), (3, .int .u64 d'), (4, .int .u64 e)] s = some (.slice (some ⟨s.heap.length, 0, none⟩) 5 5, s.push (.row 1 ([a, b, c, d', e].map fun a => .int .u64 a) .act)) := fun _ _ _ _ _ _ => rfl
    have n2 : ∀ a b s, abuildSl 1 [(.int .u64 0)] 2 [(0, .int .u64 a), (1, .int .u64 b)] s = some (.slice (some ⟨s.heap.length, 0, none⟩) 2 2, s.push (.row 1 ([a, b].map fun a => .int .u64 a) .act)) := fun _ _ _ => rfl
    have n3 : ∀ a b c s, abuildSl 1 [(.int .u64 0)] 3 [(0, .int .u64 a), (1, .int .u64 b), (2, .int .u64 c)] s = some (.slice (some ⟨s.heap.length, 0, none⟩) 3 3, s.push (.row 1 ([a, b, c].map fun a => .int .u64 a) .act)) := fun _ _ _ _ => rfl
    have hmk : ∀ f, amkFunc f [wP (lo + 1)] [] = some (mv f (lo + 1)) := fun f => rfl
    have hab : abuild Tryz.prog 57 [(0, (newBytes [83] t0).1)] = some (.agg #[(newBytes [83] t0).1]) := w_abW
    refine ⟨x, t8, record_EncodeShard_of rfl ?_, own_less (by unfold encSd; exact hx2) (by have := x0.1; omega), x0.trans (X9.less (by have := x0.1; omega))⟩
    unfold record_EncodeShard
    simp only [hbx, hal, record_CheckShard_call, c0, z0, e1, hab, a1, i0, wrap_pos hok.id, i1, i2, i3, i4, n5, record_writer_nums_call, a2, i5, hmk, record_list_api_Owner_call, a3, i6, record_list_api_Hold_call, a4, i7, record_list_uint64_call, a5, i8, i9, n2, a6, i10, record_writer_span_call, a7, i12, i13, i14, n3, a8, i15, a9, nil_wp, ad_wp, hx1, ret_e hx2.notup, n_bind, n_map, getL_0, getL_1, getL_2, getL_3, getL_4, getL_5, getL_6, getL_7, getL_8, getL_9, getL_10, getL_11, getL_12, condV_t, condV_f, guardV_tt, guardV_ff, guardV_tf, guardV_ft, guardV_u, apick_t, apick_f, exV_exit, exV_ret, lookE_same, joinK_eq, seqA_n, seqA_e, seqA_r, e_add, e_sub, e_mul, e_eql, e_neq, e_lss, e_leq, e_gtr, e_geq, e_conv, e_not, e_neg, and_guard, or_guard]
  · have n1 : (eSd d != 0) = true := by simp [hz]
    rw [if_neg hz]
    refine ⟨.slice none 0 0, t0, record_EncodeShard_of rfl ?_, .nil _ _ _, x0⟩
    unfold record_EncodeShard
    simp only [hbx, hal, record_CheckShard_call, c0, n1, ret_e (a := .slice none 0 0) rfl, n_bind, n_map, getL_0, getL_1, getL_2, getL_3, getL_4, getL_5, getL_6, getL_7, getL_8, getL_9, getL_10, getL_11, getL_12, condV_t, condV_f, guardV_tt, guardV_ff, guardV_tf, guardV_ft, guardV_u, apick_t, apick_f, exV_exit, exV_ret, lookE_same, joinK_eq, seqA_n, seqA_e, seqA_r, e_add, e_sub, e_mul, e_eql, e_neq, e_lss, e_leq, e_gtr, e_geq, e_conv, e_not, e_neg, and_guard, or_guard]

end Go.Proofs.YtckpcelchhmjcaaGreat.Ab

/- The coordinator's bytes. -/
namespace Go.Proofs.YtckpcelchhmjcaaGreat.Ab
open Go

structure CdOk (c : Cd) : Prop where
  sh : inN63 c.shards
  ow : ∀ o ∈ c.owners, inN63 o.2
  de : ∀ d ∈ c.decided, inN63 d.2.1 ∧ ∀ n ∈ d.2.2.2.2, inN63 n
  la : ∀ a ∈ c.last, inN63 a.1
theorem cli_in {n : Int} (h : cliOk n = true) : inN63 n := by
  simp only [cliOk, Bool.and_eq_true, decide_eq_true_eq] at h
  exact ⟨by omega, by omega⟩
theorem eCd_ok {c : Cd} (h : eCd c = 0) : CdOk c := by
  unfold eCd at h
  by_cases k : bad1C c = true
  · rw [if_pos k] at h; cases h
  · rw [if_neg k] at h
    by_cases g : good2C c = true
    · simp only [bad1C, Bool.or_eq_true, not_or, decide_eq_true_eq, bne_iff_ne, ne_eq, Decidable.not_not] at k
      obtain ⟨⟨⟨⟨⟨c1, c2⟩, _⟩, c3⟩, _⟩, _⟩ := k
      simp only [good2C, Bool.and_eq_true, Bool.not_eq_true'] at g
      obtain ⟨⟨⟨⟨_, g2⟩, g3⟩, _⟩, _⟩ := g
      refine ⟨⟨by omega, by omega⟩, eO_sh c3, fun d hd => ?_, fun a ha => ?_⟩
      · have h1 := List.any_eq_false.1 g2 d hd
        simp only [badDe, Bool.or_eq_true, not_or, Bool.not_eq_true, Bool.not_eq_false', List.any_eq_false] at h1
        obtain ⟨⟨⟨⟨_, h2⟩, _⟩, h3⟩, _⟩ := h1
        refine ⟨cli_in h2, fun n hn => ?_⟩
        have := h3 n hn
        simp only [aboveB, Bool.or_eq_false_iff, decide_eq_false_iff_not] at this
        exact ⟨by omega, by omega⟩
      · have h1 := List.any_eq_false.1 g3 a ha
        simp only [badLa, Bool.or_eq_true, not_or, Bool.not_eq_true, Bool.not_eq_false'] at h1
        exact cli_in h1.1
    · rw [if_neg g] at h; cases h
theorem EncodeCoord_run {d : Cd} {s : St} {v : Value} (h : NArg cdN d s v) (hb : eCd d = 0 → (encCd d).length ≤ 140737488300000) : ∃ x t, (run Tryz.prog (libL libT) hints) 9 [v] s = some (.tuple #[x, .int .i64 (eCd d)], t) ∧ Own s.heap.length 1 t x (bv (if eCd d = 0 then encCd d else [])) ∧ Ext s.heap.length s t := by
  obtain ⟨t0, c0, x0⟩ := CheckCoord_run h
  obtain ⟨cs, rfl, hr⟩ := h
  obtain ⟨ow, de, la, rfl, hs⟩ := cd_inv hr
  have hs0 := hs.ext x0
  generalize hu : (Value.agg (cdCells d ow de la).toArray) = u at *
  have hbx : lbox u = some u := by rw [← hu]; exact lbox_cs (cd_leaf hs)
  have hal : lload true 7 lptr u = some u := by rw [← hu]; exact arr_all rfl
  have z0 : ((0 : Int) != 0) = false := rfl
  by_cases hz : eCd d = 0
  · have hb := hb hz
    have hok := eCd_ok hz
    rw [hz] at c0 ⊢
    rw [if_pos rfl]
    have e1 : abuildSl 1 [(.int .u8 0)] 1 [(0, (.int .u8 67))] t0 = some (newBytes [67] t0) := rfl
    obtain ⟨s1, a1, w1, x1⟩ := new_writer 67 t0
    generalize hlo : t0.heap.length = lo at *
    have l1s : lo ≤ s1.heap.length := by have := x1.1; omega
    have i0 : lload false 1 lptr u = some (.int .i64 d.shards) := by rw [← hu]; rfl
    have i1 : lload false 1 (.pointer (some ⟨0, 1, none⟩)) u = some (.int .u64 d.boot) := by rw [← hu]; rfl
    have i2 : lload false 1 (.pointer (some ⟨0, 2, none⟩)) u = some (.int .u64 d.ver) := by rw [← hu]; rfl
    have i3 : lload false 1 (.pointer (some ⟨0, 3, none⟩)) u = some (.int .u64 d.epoch) := by rw [← hu]; rfl
    have i4 : lload false 1 (.pointer (some ⟨0, 4, none⟩)) u = some ow := by rw [← hu]; rfl
    have i5 : lload false 1 (.pointer (some ⟨0, 5, none⟩)) u = some de := by rw [← hu]; rfl
    have i6 : lload false 1 (.pointer (some ⟨0, 6, none⟩)) u = some la := by rw [← hu]; rfl
    unfold encCd at hb
    simp only [List.length_append, List.length_singleton] at hb
    obtain ⟨t1, a2, g2⟩ := w_nums w1 l1s (ls := [d.shards, d.boot, d.ver, d.epoch]) (k := 4) rfl (by simp) (by
      have q1 := wf_64 hs.wboot
      have q2 := wf_64 hs.wver
      have q3 := wf_64 hs.wepoch
      intro n hn
      simp only [List.mem_cons, List.not_mem_nil, or_false] at hn
      rcases hn with rfl | rfl | rfl | rfl
      · exact in64 hok.sh
      · exact q1
      · exact q2
      · exact q3) (by rw [List.length_singleton]; omega)
    have l2 := g2.lo_le l1s
    have X2 := x1.trans (g2.ext l1s)
    obtain ⟨t2, a3, g3⟩ := wl_api_Owner g2.wt l2 (elems_arg hs0.ow hlo X2 (n := 2) rfl (.inl rfl)) (listN_short hs0.ow (by decide)) ofC_len (puts_ow l2 hok.ow) (by simp only [List.length_append, List.length_singleton]; omega)
    have l3 := g3.lo_le l2
    have X3 := X2.trans (g3.ext l2)
    obtain ⟨t3, a4, g4⟩ := wl_api_Decision g3.wt l3 (elems_arg hs0.de hlo X3 (n := 5) rfl (.inl rfl)) (listN_short hs0.de (by decide)) (fun r cs h => by
      obtain ⟨o', rfl, ho', _⟩ := de_inv h
      exact ⟨rfl, by simp only [List.all_cons, listN_leafR ho', List.all_nil]; rfl⟩) (puts_de hlo X3 hok.de) (by simp only [List.length_append, List.length_singleton]; omega)
    have l4 := g4.lo_le l3
    have X4 := X3.trans (g4.ext l3)
    obtain ⟨t4, a5, g5⟩ := wl_api_Last g4.wt l4 (elems_arg hs0.la hlo X4 (n := 4) rfl (.inl rfl)) (listN_short hs0.la (by decide)) (fun r cs h => by
      obtain ⟨o', rfl, ho', _⟩ := la_inv h
      exact ⟨rfl, by simp only [List.all_cons, listN_leafR ho', List.all_nil]; rfl⟩) (puts_la hlo X4 hok.la) (by simp only [List.length_append, List.length_singleton]; omega)
    have X5 := X4.trans (g5.ext l4)
    obtain ⟨x, hx1, hx2⟩ := wt_out g5.wt
    have n4 : ∀ a b c d' s, abuildSl 1 [(.int .u64 0)] 4 [(0, .int .u64 a), (1, .int .u64 b), (2, .int .u64 c), (3, .int .u64 d')] s = some (.slice (some ⟨s.heap.length, 0, none⟩) 4 4, s.push (.row 1 ([a, b, c, d'].map fun a => .int .u64 a) .act)) := fun _ _ _ _ _ => rfl
    have hmk : ∀ f, amkFunc f [wP (lo + 1)] [] = some (mv f (lo + 1)) := fun f => rfl
    have hab : abuild Tryz.prog 57 [(0, (newBytes [67] t0).1)] = some (.agg #[(newBytes [67] t0).1]) := w_abW
    refine ⟨x, t4, record_EncodeCoord_of rfl ?_, own_less (by unfold encCd; exact hx2) (by have := x0.1; omega), x0.trans (X5.less (by have := x0.1; omega))⟩
    unfold record_EncodeCoord
    simp only [hbx, hal, record_CheckCoord_call, c0, z0, e1, hab, a1, i0, wrap_pos hok.sh, i1, i2, i3, n4, record_writer_nums_call, a2, i4, hmk, record_list_api_Owner_call, a3, i5, record_list_api_Decision_call, a4, i6, record_list_api_Last_call, a5, nil_wp, ad_wp, hx1, ret_e hx2.notup, n_bind, n_map, getL_0, getL_1, getL_2, getL_3, getL_4, getL_5, getL_6, getL_7, getL_8, getL_9, getL_10, getL_11, getL_12, condV_t, condV_f, guardV_tt, guardV_ff, guardV_tf, guardV_ft, guardV_u, apick_t, apick_f, exV_exit, exV_ret, lookE_same, joinK_eq, seqA_n, seqA_e, seqA_r, e_add, e_sub, e_mul, e_eql, e_neq, e_lss, e_leq, e_gtr, e_geq, e_conv, e_not, e_neg, and_guard, or_guard]
  · have n1 : (eCd d != 0) = true := by simp [hz]
    rw [if_neg hz]
    refine ⟨.slice none 0 0, t0, record_EncodeCoord_of rfl ?_, .nil _ _ _, x0⟩
    unfold record_EncodeCoord
    simp only [hbx, hal, record_CheckCoord_call, c0, n1, ret_e (a := .slice none 0 0) rfl, n_bind, n_map, getL_0, getL_1, getL_2, getL_3, getL_4, getL_5, getL_6, getL_7, getL_8, getL_9, getL_10, getL_11, getL_12, condV_t, condV_f, guardV_tt, guardV_ff, guardV_tf, guardV_ft, guardV_u, apick_t, apick_f, exV_exit, exV_ret, lookE_same, joinK_eq, seqA_n, seqA_e, seqA_r, e_add, e_sub, e_mul, e_eql, e_neq, e_lss, e_leq, e_gtr, e_geq, e_conv, e_not, e_neg, and_guard, or_guard]

end Go.Proofs.YtckpcelchhmjcaaGreat.Ab

/- States' bytes: what is written is what is read; what was cut is none (plain laws). -/
namespace Go.Proofs.YtckpcelchhmjcaaGreat.Ab
open Go

structure Cut {α : Type} (p : Par α) (b : BL) (a : α) : Prop where
  all : ∀ r, p (b ++ r) = .ok (a, r)
  cut : ∀ k, k < b.length → p (b.take k) = .error 10
section
variable {α β : Type} {p : Par α} {b : BL} {a : α}
theorem Cut.pure (a : α) : Cut (.pure a) [] a := ⟨fun _ => rfl, fun k h => absurd h (Nat.not_lt_zero _)⟩
theorem Cut.bind {q : α → Par β} {c : BL} {d : β} (h : Cut p b a) (g : Cut (q a) c d) : Cut (p.bind q) (b ++ c) d := by
  refine ⟨fun r => ?_, fun k hk => ?_⟩
  · unfold Par.bind
    rw [List.append_assoc, h.all]
    exact g.all r
  · unfold Par.bind
    rcases Nat.lt_or_ge k b.length with hb | hb
    · rw [List.take_append_of_le_length (Nat.le_of_lt hb), h.cut k hb]
    · obtain ⟨j, rfl⟩ := Nat.exists_eq_add_of_le hb
      rw [List.take_length_add_append, h.all]
      rw [List.length_append] at hk
      exact g.cut j (by omega)
theorem Cut.map {f : α → β} (h : Cut p b a) : Cut (p.map f) b (f a) := by
  have := h.bind (q := fun a => .pure (f a)) (Cut.pure (f a))
  rwa [List.append_nil] at this
theorem Cut.rep {e : α → BL} : ∀ {l : List α}, (∀ a ∈ l, Cut p (e a) a) → Cut (p.rep l.length) (l.flatMap e) l
  | [], _ => Cut.pure []
  | a :: l, h => by
    have h1 := Cut.rep (l := l) fun x hx => h x (List.mem_cons_of_mem _ hx)
    have h2 := (h a (List.mem_cons_self ..)).bind (q := fun a => (p.rep l.length).bind fun l => .pure (a :: l)) (h1.bind (q := fun l => .pure (a :: l)) (Cut.pure (a :: l)))
    rw [List.append_nil] at h2
    exact h2
theorem Cut.to {c : BL} (h : Cut p b a) (e : b = c) : Cut p c a := e ▸ h
end

theorem enc_small {n : Nat} (h : n < 128) : enc n = [UInt8.ofNat n] := by
  unfold enc encF
  rw [if_pos h]
theorem cut_num {n : Nat} (h : n < 18446744073709551616) : Cut pNumR (enc n) n := by
  refine ⟨fun r => ?_, fun k hk => ?_⟩
  · unfold pNumR
    rw [readNum_enc h]
    simp only [ne_eq, not_true, if_false]
    rw [List.drop_left]
  · obtain ⟨pre, c, he, h1, h2, h3⟩ := enc_canon h
    have hl := @enc_len n
    rw [he] at hl hk ⊢
    simp only [List.length_append, List.length_cons, List.length_nil, Nat.zero_add] at hl hk
    rw [List.take_append_of_le_length (by omega)]
    have : readNum (pre.take k) = (0, 0, 10) := by
      unfold readNum
      rw [rdN_high (pre.take k) 0 0 (by omega) (fun x hx => h1 x (List.mem_of_mem_take (List.mem_of_mem_take hx))), if_pos (by rw [List.length_take]; omega)]
      rfl
    unfold pNumR
    rw [this]
    rfl
theorem cut_u {n : Int} (h : inN64 n) : Cut pU (eN n) n := by
  have e : ((n.toNat : Nat) : Int) = n := Int.toNat_of_nonneg h.1
  have := (cut_num (n := n.toNat) (by have := h.2; omega)).map (f := fun n : Nat => (n : Int))
  rwa [e] at this
theorem cut_intR {n : Nat} (h : n ≤ 255) : Cut pIntR (enc n) n := by
  have := (cut_num (n := n) (by omega)).bind (q := fun n => if 255 < n then Par.fail 11 else .pure n) (c := []) (d := n) (by rw [if_neg (by omega)]; exact Cut.pure n)
  rwa [List.append_nil] at this
theorem cut_i {n : Int} (h : 0 ≤ n ∧ n ≤ 255) : Cut pI (eN n) n := by
  have e : ((n.toNat : Nat) : Int) = n := Int.toNat_of_nonneg h.1
  have := (cut_intR (n := n.toNat) (by omega)).map (f := fun n : Nat => (n : Int))
  rwa [e] at this
theorem cut_text {k : BL} (h : k.length ≤ 255) : Cut pTx (tB k) k := by
  have hn : k.length < 18446744073709551616 := by omega
  refine ⟨fun r => ?_, fun j hj => ?_⟩
  · have hr : readNum (tB k ++ r) = (k.length, (enc k.length).length, 0) := by
      unfold tB
      rw [List.append_assoc]
      exact readNum_enc hn _
    have : readText (tB k ++ r) 255 = (k, (tB k).length, 0) := by
      unfold readText
      rw [hr]
      simp only [ne_eq, not_true, if_false]
      rw [if_neg (by omega), if_neg (by unfold tB; simp only [List.length_append]; omega)]
      unfold tB
      rw [List.append_assoc, List.drop_left, List.take_left]
      simp only [List.length_append]
    unfold pTx pText
    rw [this]
    simp only [ne_eq, not_true, if_false]
    rw [if_neg (by decide), List.drop_left]
  · have : (readText ((tB k).take j) 255).2.2 = 10 := by
      rcases Nat.lt_or_ge j (enc k.length).length with g | g
      · have e : (tB k).take j = (enc k.length).take j := List.take_append_of_le_length (Nat.le_of_lt g)
        have h1 := (cut_num hn).cut j g
        unfold pNumR at h1
        rw [e]
        unfold readText
        split at h1
        · rename_i h2
          rw [if_pos h2]
          injection h1
        · cases h1
      · obtain ⟨i, rfl⟩ := Nat.exists_eq_add_of_le g
        have e : (tB k).take ((enc k.length).length + i) = enc k.length ++ k.take i := List.take_length_add_append ..
        rw [e]
        unfold tB at hj
        rw [List.length_append] at hj
        unfold readText
        rw [readNum_enc hn]
        simp only [ne_eq, not_true, if_false]
        rw [if_neg (by omega), if_pos (by simp only [List.length_append, List.length_take]; omega)]
    unfold pTx pText
    rw [this, if_neg (by decide), if_pos (by decide)]
theorem cut_flag (f : Bool) : Cut pFlagR [if f = true then 1 else 0] f := by
  cases f
  · exact ⟨fun r => rfl, fun k hk => by
      have : k = 0 := by simpa using hk
      subst this; rfl⟩
  · exact ⟨fun r => rfl, fun k hk => by
      have : k = 0 := by simpa using hk
      subst this; rfl⟩
theorem cut_many {α : Type} {p : Par α} {e : α → BL} {l : List α} (hl : l.length ≤ 255) (h : ∀ a ∈ l, Cut p (e a) a) : Cut (pMany p) (eList e l) l :=
  (cut_intR hl).bind (Cut.rep h)
theorem cut_all {α : Type} {p : Par α} {b : BL} {a : α} {c : UInt8} (h : Cut p b a) (hb : b.length ≤ 8190) : readAll c.toNat p ([c] ++ b) = .ok a ∧ (∀ k, k < ([c] ++ b).length → readAll c.toNat p (([c] ++ b).take k) = .error 10) ∧ ∀ m, readAll c.toNat p ([c] ++ b ++ [m]) = .error 11 := by
  have hm : Cut (pMark c.toNat) [c] () := ⟨fun r => by show (if c.toNat = c.toNat then Except.ok ((), r) else _) = _; rw [if_pos rfl], fun k hk => by
    have : k = 0 := by simpa using hk
    subst this; rfl⟩
  have g : Cut ((pMark c.toNat).bind fun _ => p) ([c] ++ b) a := hm.bind h
  have hl : ([c] ++ b).length = b.length + 1 := by simp
  refine ⟨?_, fun k hk => ?_, fun m => ?_⟩
  · have := g.all []
    rw [List.append_nil] at this
    unfold readAll
    rw [if_neg (by omega), this]
  · unfold readAll
    rw [if_neg (by rw [List.length_take]; omega), g.cut k hk]
  · unfold readAll
    rw [if_neg (by rw [List.length_append]; simp only [List.length_singleton]; omega), g.all [m]]

theorem cut_pr {r : Rg} (h1 : r.1.length ≤ 255) (h2 : r.2.length ≤ 255) : Cut pPr (ePr r) r :=
  ((cut_text h1).bind ((cut_text h2).bind (Cut.pure (r.1, r.2)))).to (by simp [ePr])
theorem cut_ow {o : Ow} (h1 : o.1.length ≤ 255) (h2 : 0 ≤ o.2 ∧ o.2 ≤ 255) : Cut pOw (eOw o) o :=
  ((cut_text h1).bind ((cut_i h2).bind (Cut.pure (o.1, o.2)))).to (by simp [eOw])
theorem cut_op {o : OpT} (h1 : 0 ≤ o.kind ∧ o.kind ≤ 255) (h2 : 0 ≤ o.most ∧ o.most ≤ 255) (hk : o.key.length ≤ 255) (hv : o.val.length ≤ 255) (hlo : o.lo.length ≤ 255) (hhi : o.hi.length ≤ 255) : Cut pOp (eOp o) o := by
  have h4 : Cut (pTx.rep 4) ([o.key, o.val, o.lo, o.hi].flatMap tB) [o.key, o.val, o.lo, o.hi] := Cut.rep (e := tB) (l := [o.key, o.val, o.lo, o.hi]) fun a ha => by
    simp only [List.mem_cons, List.not_mem_nil, or_false] at ha
    rcases ha with rfl | rfl | rfl | rfl <;> exact cut_text (by assumption)
  exact ((cut_i h1).bind (h4.bind ((cut_i h2).bind (Cut.pure (⟨o.kind, o.key, o.val, o.lo, o.hi, o.most⟩ : OpT))))).to (by simp [eOp])
theorem cut_nums {l : List Int} (h : ∀ n ∈ l, inN64 n) : Cut (pU.rep l.length) (l.flatMap eN) l := Cut.rep fun n hn => cut_u (h n hn)
theorem cut_de {d : De} (ht : inN64 d.1) (hc : 0 ≤ d.2.1 ∧ d.2.1 ≤ 255) (hb : inN64 d.2.2.1) (hr : inN64 d.2.2.2.1) (hl : d.2.2.2.2.length ≤ 255) (hs : ∀ n ∈ d.2.2.2.2, 0 ≤ n ∧ n ≤ 255) : Cut pDe (eDe d) d :=
  ((cut_u ht).bind ((cut_i hc).bind ((cut_nums (l := [d.2.2.1, d.2.2.2.1]) (by intro n hn; simp only [List.mem_cons, List.not_mem_nil, or_false] at hn; rcases hn with rfl | rfl <;> assumption)).bind ((cut_many hl fun a ha => cut_i (hs a ha)).bind (Cut.pure (d.1, d.2.1, d.2.2.1, d.2.2.2.1, d.2.2.2.2)))))).to (by simp [eDe])
theorem cut_ho {h : Ho} (ht : inN64 h.1) (hl : h.2.length ≤ 255) (ho : ∀ o ∈ h.2, Cut pOp (eOp o) o) : Cut pHo (eHo h) h :=
  ((cut_u ht).bind ((cut_many hl ho).bind (Cut.pure (h.1, h.2)))).to (by simp [eHo])
theorem cut_rs {r : Rs} (hv : r.2.1.length ≤ 255) (hl : r.2.2.length ≤ 255) (hp : ∀ p ∈ r.2.2, Cut pPr (ePr p) p) : Cut pRs (eRs r) r :=
  ((cut_flag r.1).bind ((cut_text hv).bind ((cut_many hl hp).bind (Cut.pure (r.1, r.2.1, r.2.2))))).to (by simp [eRs])
theorem cut_la {a : La} (hc : 0 ≤ a.1 ∧ a.1 ≤ 255) (hb : inN64 a.2.1) (hr : inN64 a.2.2.1) (hl : a.2.2.2.length ≤ 255) (hs : ∀ r ∈ a.2.2.2, Cut pRs (eRs r) r) : Cut pLa (eLa a) a :=
  ((cut_i hc).bind ((cut_nums (l := [a.2.1, a.2.2.1]) (by intro n hn; simp only [List.mem_cons, List.not_mem_nil, or_false] at hn; rcases hn with rfl | rfl <;> assumption)).bind ((cut_many hl hs).bind (Cut.pure (a.1, a.2.1, a.2.2.1, a.2.2.2))))).to (by simp [eLa])

end Go.Proofs.YtckpcelchhmjcaaGreat.Ab
