/- The laws of operations: OpApplies. -/
import Derived.Test.YtdhadhelcpeiaaaOpLawB
set_option linter.unusedVariables false
set_option linter.unusedSimpArgs false
set_option linter.unusedSectionVars false
namespace Go.Proofs.Ytdhadhelcpeiaaa.Ab
open Go

/-! ### What may be written into -/
def Soft (N : Nat) (s : St) (v : Value) (n : Nat) : Prop := (v = .slice none 0 0 ∧ n = 0) ∨ ∃ b cap cells, v = .slice (some ⟨b, 0, none⟩) n cap ∧ N ≤ b ∧ s.heap[b]? = some (.row 2 cells .act) ∧ n * 2 ≤ cells.length
structure SoftStep (N : Nat) (s t : St) : Prop where
  ext : Ext N s t
  soft : ∀ v n, Soft N s v n → Soft N t v n
  own : ∀ v cs, Own N 3 s v cs → Own N 3 t v cs
theorem SoftStep.refl (N : Nat) (s : St) : SoftStep N s s := ⟨.refl _ _, fun _ _ h => h, fun _ _ h => h⟩
theorem SoftStep.trans {N : Nat} {s t u : St} (h : SoftStep N s t) (g : SoftStep N t u) : SoftStep N s u := ⟨h.ext.trans g.ext, fun v n x => g.soft v n (h.soft v n x), fun v cs x => g.own v cs (h.own v cs x)⟩
theorem OwnC.soft {N : Nat} {s : St} {v : Value} {l : List Rg} (h : OwnC prC N s v l) : Soft N s v l.length := by
  rcases h with ⟨rfl, rfl⟩ | ⟨b, cap, rest, rfl, h1, h2, h3, _⟩
  · exact .inl ⟨rfl, rfl⟩
  · exact .inr ⟨b, cap, _, rfl, h1, h2, by rw [List.length_append, encL_len]; exact Nat.le_add_right _ _⟩
theorem soft_set {N : Nat} {s : St} {v : Value} {n : Nat} (h : Soft N s v n) {k j : Nat} (hk : k < n) (hj : j < 2) (x : BL) : ∃ p q t, aindexS 2 v (.int .i64 (k : Int)) = some p ∧ afieldAddr j p = some q ∧ astore 1 q (sv x) s = some t ∧ SoftStep N s t := by
  rcases h with ⟨_, h⟩ | ⟨b, cap, cells, rfl, h1, h2, h3⟩
  · omega
  have hb : b < s.heap.length := (List.getElem?_eq_some_iff.1 h2).1
  have hlen : (putCells cells (k * 2 + j) [sv x]).length = cells.length := by
    unfold putCells
    simp
    omega
  refine ⟨.pointer (some ⟨b, 0 + k * 2, none⟩), .pointer (some ⟨b, 0 + k * 2 + j, none⟩), s.putB b (.row 2 (putCells cells (0 + k * 2 + j) [sv x]) .act), by simp [aindexS, hk], rfl, ?_, ?_⟩
  · unfold astore writeN
    have hx : cellsV (sv x) = [sv x] := rfl
    simp only [hx, List.length_singleton, List.all_cons, List.all_nil, h2]
    rw [if_pos ⟨trivial, rfl⟩, if_pos (by omega)]
  · rw [Nat.zero_add]
    have hne : ∀ c, c ≠ b → (s.putB b (.row 2 (putCells cells (k * 2 + j) [sv x]) .act)).heap[c]? = s.heap[c]? := fun c hc => by
      simp only [St.putB]
      rw [List.getElem?_set_ne (Ne.symm hc)]
    refine ⟨⟨by simp [St.putB], fun c hc => hne c (by omega)⟩, fun v' n' hs => ?_, fun v' cs hs => ?_⟩
    · rcases hs with hs | ⟨b', cap', cells', e, g1, g2, g3⟩
      · exact .inl hs
      · by_cases c : b' = b
        · subst c
          rw [h2] at g2
          cases g2
          exact .inr ⟨b', cap', _, e, g1, putB_get hb, by rw [hlen]; exact g3⟩
        · exact .inr ⟨b', cap', cells', e, g1, by rw [hne b' c]; exact g2, g3⟩
    · rcases hs with hs | ⟨b', len, e, g1, g2, g3⟩
      · exact .inl hs
      · by_cases c : b' = b
        · subst c
          rw [h2] at g2
          cases g2
        · exact .inr ⟨b', len, e, g1, by rw [hne b' c]; exact g2, g3⟩
theorem soft_len {N : Nat} {s s2 : St} {v : Value} {n : Nat} (h : Soft N s v n) {e : TypeId} : alenV (.slice e) v s2 = some (.int .i64 ((n : Nat) : Int)) := by
  rcases h with ⟨rfl, rfl⟩ | ⟨b, cap, cells, rfl, _⟩ <;> rfl
theorem zz : (Value.string ⟨#[122, 122]⟩) = sv [122, 122] := rfl
theorem app_b1 {N : Nat} {x0 x1 up own a r c : Value} {n : Nat} (hn : n < 140737488355328) : ∀ (d i : Nat) (s : St), i + d = n → Soft N s a n →
    ∃ t, loopL (law04_OpApplies.b1 (run Try.prog (libL libT) hints)) [x0, x1, up, own, a, r, c, .int .i64 (n : Int), .int .i64 (i : Int)] s = some (.exit 2, [x0, x1, up, own, r, c], t) ∧ SoftStep N s t := by
  intro d
  induction d with
  | zero =>
    intro i s hi hs
    have h1 : decide ((i : Int) < (n : Int)) = false := by simp; omega
    refine ⟨s, ?_, .refl _ _⟩
    rw [loopL_eq]
    simp only [law04_OpApplies.b1, h1, n_bind, n_map, getL_0, getL_1, getL_2, getL_3, getL_4, getL_5, getL_6, getL_7, getL_8, getL_9, getL_10, getL_11, getL_12, condV_t, condV_f, guardV_tt, guardV_ff, guardV_tf, guardV_ft, guardV_u, apick_t, apick_f, exV_exit, exV_ret, lookE_same, joinK_eq, seqA_n, seqA_e, seqA_r, e_add, e_sub, e_mul, e_eql, e_neq, e_lss, e_leq, e_gtr, e_geq, e_conv, e_not, e_neg, and_guard, or_guard]
  | succ d ih =>
    intro i s hi hs
    have h1 : decide ((i : Int) < (n : Int)) = true := by simp; omega
    obtain ⟨p, q, t, g1, g2, g3, g4⟩ := soft_set hs (k := i) (by omega) (j := 1) (by decide) [122, 122]
    obtain ⟨u, k1, k2⟩ := ih (i + 1) t (by omega) (g4.soft _ _ hs)
    refine ⟨u, ?_, g4.trans k2⟩
    rw [← k1, loopL_eq]
    simp only [law04_OpApplies.b1, h1, zz, g1, g2, g3, inc_i64 (show i < 140737488355328 by omega), n_bind, n_map, getL_0, getL_1, getL_2, getL_3, getL_4, getL_5, getL_6, getL_7, getL_8, getL_9, getL_10, getL_11, getL_12, condV_t, condV_f, guardV_tt, guardV_ff, guardV_tf, guardV_ft, guardV_u, apick_t, apick_f, exV_exit, exV_ret, lookE_same, joinK_eq, seqA_n, seqA_e, seqA_r, e_add, e_sub, e_mul, e_eql, e_neq, e_lss, e_leq, e_gtr, e_geq, e_conv, e_not, e_neg, and_guard, or_guard]
theorem app_b3 {N : Nat} {x0 x1 up own r c ln : Value} {q : List (Rs × Value)} {i : Nat} (hi : i < q.length) {n : Nat} (hn : n < 140737488355328) : ∀ (d k : Nat) (s : St), k + d = n → Own N 3 s r (encR q) → Soft N s q[i].2 n →
    ∃ t, loopL (law04_OpApplies.b3 (run Try.prog (libL libT) hints)) [x0, x1, up, own, r, .int .i64 (i : Int), c, ln, .int .i64 (i : Int), .int .i64 (n : Int), .int .i64 (k : Int)] s = some (.exit 6, [x0, x1, up, own, r, c, ln, .int .i64 (i : Int)], t) ∧ SoftStep N s t := by
  intro d
  induction d with
  | zero =>
    intro k s hk ho hs
    have h1 : decide ((k : Int) < (n : Int)) = false := by simp; omega
    refine ⟨s, ?_, .refl _ _⟩
    rw [loopL_eq]
    simp only [law04_OpApplies.b3, h1, n_bind, n_map, getL_0, getL_1, getL_2, getL_3, getL_4, getL_5, getL_6, getL_7, getL_8, getL_9, getL_10, getL_11, getL_12, condV_t, condV_f, guardV_tt, guardV_ff, guardV_tf, guardV_ft, guardV_u, apick_t, apick_f, exV_exit, exV_ret, lookE_same, joinK_eq, seqA_n, seqA_e, seqA_r, e_add, e_sub, e_mul, e_eql, e_neq, e_lss, e_leq, e_gtr, e_geq, e_conv, e_not, e_neg, and_guard, or_guard]
  | succ d ih =>
    intro k s hk ho hs
    have h1 : decide ((k : Int) < (n : Int)) = true := by simp; omega
    obtain ⟨_, _, x3⟩ := encR_get q i hi
    obtain ⟨p3, b1, p4, b2, b3⟩ := cells_field ho.cells (j := 2) (by decide) (by rw [encR_len]; omega) x3 (k := .i64)
    obtain ⟨p, w, t, g1, g2, g3, g4⟩ := soft_set hs (k := k) (by omega) (j := 0) (by decide) [122, 122]
    obtain ⟨u, k1, k2⟩ := ih (k + 1) t (by omega) (g4.own _ _ ho) (g4.soft _ _ hs)
    refine ⟨u, ?_, g4.trans k2⟩
    rw [← k1, loopL_eq]
    simp only [law04_OpApplies.b3, h1, zz, b1, b2, b3, g1, g2, g3, inc_i64 (show k < 140737488355328 by omega), n_bind, n_map, getL_0, getL_1, getL_2, getL_3, getL_4, getL_5, getL_6, getL_7, getL_8, getL_9, getL_10, getL_11, getL_12, condV_t, condV_f, guardV_tt, guardV_ff, guardV_tf, guardV_ft, guardV_u, apick_t, apick_f, exV_exit, exV_ret, lookE_same, joinK_eq, seqA_n, seqA_e, seqA_r, e_add, e_sub, e_mul, e_eql, e_neq, e_lss, e_leq, e_gtr, e_geq, e_conv, e_not, e_neg, and_guard, or_guard]
theorem app_b2 {N : Nat} {x0 x1 up own r c : Value} {q : List (Rs × Value)} (hq : q.length < 140737488355328) (hn : ∀ x ∈ q, x.1.2.2.length < 140737488355328) : ∀ (d i : Nat) (s : St), i + d = q.length → Own N 3 s r (encR q) → (∀ x ∈ q, Soft N s x.2 x.1.2.2.length) →
    ∃ t, loopL (law04_OpApplies.b2 (run Try.prog (libL libT) hints)) [x0, x1, up, own, r, c, .int .i64 ((q.length : Nat) : Int), .int .i64 (i : Int)] s = some (.exit 4, [x0, x1, up, own, c], t) ∧ SoftStep N s t := by
  intro d
  induction d with
  | zero =>
    intro i s hi ho hs
    have h1 : decide ((i : Int) < ((q.length : Nat) : Int)) = false := by simp; omega
    refine ⟨s, ?_, .refl _ _⟩
    rw [loopL_eq]
    simp only [law04_OpApplies.b2, h1, n_bind, n_map, getL_0, getL_1, getL_2, getL_3, getL_4, getL_5, getL_6, getL_7, getL_8, getL_9, getL_10, getL_11, getL_12, condV_t, condV_f, guardV_tt, guardV_ff, guardV_tf, guardV_ft, guardV_u, apick_t, apick_f, exV_exit, exV_ret, lookE_same, joinK_eq, seqA_n, seqA_e, seqA_r, e_add, e_sub, e_mul, e_eql, e_neq, e_lss, e_leq, e_gtr, e_geq, e_conv, e_not, e_neg, and_guard, or_guard]
  | succ d ih =>
    intro i s hi ho hs
    have h1 : decide ((i : Int) < ((q.length : Nat) : Int)) = true := by simp; omega
    have hlt : i < q.length := by omega
    obtain ⟨_, _, x3⟩ := encR_get q i hlt
    obtain ⟨p3, b1, p4, b2, b3⟩ := cells_field ho.cells (j := 2) (by decide) (by rw [encR_len]; omega) x3 (k := .i64)
    have hsi := hs q[i] (List.getElem_mem hlt)
    obtain ⟨t, g1, g2⟩ := app_b3 (x0 := x0) (x1 := x1) (up := up) (own := own) (r := r) (c := c) (ln := .int .i64 ((q.length : Nat) : Int)) hlt (hn q[i] (List.getElem_mem hlt)) q[i].1.2.2.length 0 s (by omega) ho hsi
    rw [show ((0 : Nat) : Int) = 0 from rfl] at g1
    obtain ⟨u, k1, k2⟩ := ih (i + 1) t (by omega) (g2.own _ _ ho) (fun x hx => g2.soft _ _ (hs x hx))
    refine ⟨u, ?_, g2.trans k2⟩
    rw [← k1, loopL_eq]
    simp only [law04_OpApplies.b2, h1, b1, b2, b3, soft_len hsi, g1, inc_i64 (show i < 140737488355328 by omega), n_bind, n_map, getL_0, getL_1, getL_2, getL_3, getL_4, getL_5, getL_6, getL_7, getL_8, getL_9, getL_10, getL_11, getL_12, condV_t, condV_f, guardV_tt, guardV_ff, guardV_tf, guardV_ft, guardV_u, apick_t, apick_f, exV_exit, exV_ret, lookE_same, joinK_eq, seqA_n, seqA_e, seqA_r, e_add, e_sub, e_mul, e_eql, e_neq, e_lss, e_leq, e_gtr, e_geq, e_conv, e_not, e_neg, and_guard, or_guard]
theorem applies_both {v own w : Value} {s : St} {m : List Rg} {l : List OpT} (hm : listOf prC v s = some m) (ho : listOf prC own s = some m) (hl : listOf opC w s = some l) (hml : m.length ≤ 4400000000000) (hll : l.length ≤ 1759218604391) :
    ∃ a r b r' e t u al q, (run Try.prog (libL libT) hints) 11 [own, w] s = some (.tuple #[a, r, .int .i64 e], t) ∧ (run Try.prog (libL libT) hints) 12 [v, w] t = some (.tuple #[b, r', .int .i64 e], u) ∧ isTup b = false ∧ isTup r' = false ∧ listOf prC b u = some al ∧ al.length < 140737488355328 ∧ OwnC prC s.heap.length u a al ∧
      Own s.heap.length 3 u r (encR q) ∧ (∀ x ∈ q, OwnC prC s.heap.length u x.2 x.1.2.2) ∧ RdyL u r' (q.map (·.1)) ∧ q.length < 140737488355328 ∧ (∀ x ∈ q, x.1.2.2.length < 140737488355328) ∧ Ext s.heap.length s u := by
  have h1 := t_apply ho hl (by omega) hll
  by_cases c : apE m l = 0
  · rw [if_pos c] at h1
    obtain ⟨a, r, t, g1, g2, g3, g4⟩ := h1
    have h2 := k_ref (L := libT) (refA rfl) rfl (list_ext g4 hm) (list_ext g4 hl) hml hll
    rw [if_pos c] at h2
    obtain ⟨b, r', u, k1, k2, k3, k4⟩ := h2
    obtain ⟨q, f1, f2, f3⟩ := g3
    have hlen := len_ap (l := l) (m := m)
    have hk : Keep none t u := k4.keep
    refine ⟨a, r, b, r', 0, t, u, apM m l, q, g1, k1, k2.istup, k3.istup, own_list (C := prC) k2, by omega, g2.keep hk (fun c _ => by simp), f2.keep hk (fun c _ => by simp), fun x hx => (f3 x hx).keep hk (fun c _ => by simp), by rw [f1]; exact k3.toL, ?_, fun x hx => ?_, g4.trans (k4.less g4.1)⟩
    · have := congrArg List.length f1
      rw [List.length_map, apR_len] at this
      omega
    · have := apR_len2 (l := l) (m := m) x.1 (by rw [← f1]; exact List.mem_map_of_mem hx)
      omega
  · rw [if_neg c] at h1
    have h2 := k_ref (L := libT) (refA rfl) rfl hm hl hml hll
    rw [if_neg c] at h2
    exact ⟨_, _, _, _, _, s, s, [], [], h1, h2, rfl, rfl, list_nil _, by simp, .inl ⟨rfl, rfl⟩, .nil _ _ _, fun x hx => (by cases hx), ⟨[], rfl, rfl, fun x hx => (by cases hx)⟩, by simp, fun x hx => (by cases hx), .refl _ _⟩
theorem app_step {v own w : Value} {s : St} {m : List Rg} {l : List OpT} (hm : listOf prC v s = some m) (ho : listOf prC own s = some m) (hl : listOf opC w s = some l) (hml : m.length ≤ 4400000000000) (hll : l.length ≤ 1759218604391) {c : Int} (hc : c = 0 ∨ c = 1) :
    ∃ t, law04_OpApplies.b0 (run Try.prog (libL libT) hints) [v, w, .bool true, own, .int .i64 c] s = some (.normal, [v, w, .bool true, own, .int .i64 (c + 1)], t) ∧ Ext s.heap.length s t := by
  obtain ⟨a, r, b, r', e, t, u, al, q, g1, g2, g3, g4, g5, g6, g7, g8, g9, g10, g11, g12, g13⟩ := applies_both hm ho hl hml hll
  have hsm := k_same (L := libT) rfl g7.list g5 g6
  have hsr := k_sameR (L := libT) rfl rfl (a := q.map (·.1)) (v := r) (s := u) ⟨q, rfl, g8.cells, fun x hx => (g9 x hx).list⟩ g10 (by rw [List.length_map]; exact g11) (fun x hx => by
    obtain ⟨y, hy, rfl⟩ := List.mem_map.1 hx
    exact g12 y hy)
  have hso := k_same (L := libT) rfl (list_ext g13 ho) (list_ext g13 hm) (by omega)
  obtain ⟨u1, k1, k2⟩ := app_b1 (x0 := v) (x1 := w) (up := .bool true) (own := own) (r := r) (c := .int .i64 c) g6 al.length 0 u (by omega) g7.soft
  rw [show ((0 : Nat) : Int) = 0 from rfl] at k1
  obtain ⟨u2, k3, k4⟩ := app_b2 (x0 := v) (x1 := w) (up := .bool true) (own := own) (r := r) (c := .int .i64 c) g11 g12 q.length 0 u1 (by omega) (k2.own _ _ g8) (fun x hx => k2.soft _ _ (g9 x hx).soft)
  rw [show ((0 : Nat) : Int) = 0 from rfl] at k3
  have h1 : decide (c < 2) = true := by rcases hc with rfl | rfl <;> rfl
  have hw : IntKind.wrap .i64 (c + 1) = c + 1 := by rw [wrap_i64 (by omega) (by omega)]
  refine ⟨u2, ?_, g13.trans (k2.ext.trans k4.ext)⟩
  unfold law04_OpApplies.b0
  simp only [h1, op_Apply_call, g1, y3_0 g7.istup, y3_1 g8.istup, y3_2, ref04_Apply_call, g2, y3_0 g3, y3_1 g4, bne_self_eq_false, ref04_SameMap_call, hsm, decide_true, Bool.not_true, ref04_SameResults_call, hsr, hso, list_len g7.list, k1, cells_alen g8.cells, k3, hw, n_bind, n_map, getL_0, getL_1, getL_2, getL_3, getL_4, getL_5, getL_6, getL_7, getL_8, getL_9, getL_10, getL_11, getL_12, condV_t, condV_f, guardV_tt, guardV_ff, guardV_tf, guardV_ft, guardV_u, apick_t, apick_f, exV_exit, exV_ret, lookE_same, joinK_eq, seqA_n, seqA_e, seqA_r, e_add, e_sub, e_mul, e_eql, e_neq, e_lss, e_leq, e_gtr, e_geq, e_conv, e_not, e_neg, and_guard, or_guard]
theorem OpApplies_law (s : St) (v : Value) (m : List Rg) (hm : listOf prC v s = some m) (hml : m.length ≤ 4400000000000) (w : Value) (l : List OpT) (hl : listOf opC w s = some l) (hll : l.length ≤ 1759218604391) : ∃ s', (run Try.prog (libL libT) hints) 3 [v, w] s = some (.bool true, s') := by
  have he : elemsOf 2 v s = some (encL prC m) := list_elems hm
  obtain ⟨own, s1, a1, a2, a3⟩ := own_appendR (N := s.heap.length) (n := 2) (w := 32) (x := .slice none 0 0) (cells := []) (.nil _ _ _) (Nat.le_refl _) (by decide) (by decide) (list_lenV hm) he (encL_len prC m) (fun q hq => by
    rw [encL_len, List.length_nil, Nat.zero_add] at hq
    have : q = m.length := Nat.eq_of_mul_eq_mul_right (show 0 < 2 by decide) hq
    exact room32 (by omega))
  have ho1 : listOf prC own s1 = some m := own_list (C := prC) a2
  obtain ⟨s2, b1, b2⟩ := app_step (list_ext a3 hm) ho1 (list_ext a3 hl) hml hll (.inl rfl)
  have e2 := a3.trans (b2.less a3.1)
  have ho2 := list_ext b2 ho1
  obtain ⟨s3, b3, b4⟩ := app_step (list_ext e2 hm) ho2 (list_ext e2 hl) hml hll (.inr rfl)
  have e3 := e2.trans (b4.less e2.1)
  have ho3 := list_ext b4 ho2
  have hloop : loopL (law04_OpApplies.b0 (run Try.prog (libL libT) hints)) [v, w, .bool true, own, .int .i64 0] s1 = some (.exit 0, [v, .bool true, own], s3) := by
    have h2 : decide ((1 + 1 : Int) < 2) = false := rfl
    rw [loopL_eq, b1]
    simp only [seqA_n]
    rw [loopL_eq, show ((0 : Int) + 1) = 1 from rfl, b3]
    simp only [seqA_n]
    rw [loopL_eq]
    unfold law04_OpApplies.b0
    simp only [h2, n_bind, n_map, getL_0, getL_1, getL_2, getL_3, getL_4, getL_5, getL_6, getL_7, getL_8, getL_9, getL_10, getL_11, getL_12, condV_t, condV_f, guardV_tt, guardV_ff, guardV_tf, guardV_ft, guardV_u, apick_t, apick_f, exV_exit, exV_ret, lookE_same, joinK_eq, seqA_n, seqA_e, seqA_r, e_add, e_sub, e_mul, e_eql, e_neq, e_lss, e_leq, e_gtr, e_geq, e_conv, e_not, e_neg, and_guard, or_guard]
  have hso := k_same (L := libT) rfl ho3 (list_ext e3 hm) (by omega)
  refine ⟨s3, law04_OpApplies_of rfl ?_⟩
  unfold law04_OpApplies
  simp only [law04_live_call, k_live, a1, hloop, ref04_SameMap_call, hso, decide_true, n_bind, n_map, getL_0, getL_1, getL_2, getL_3, getL_4, getL_5, getL_6, getL_7, getL_8, getL_9, getL_10, getL_11, getL_12, condV_t, condV_f, guardV_tt, guardV_ff, guardV_tf, guardV_ft, guardV_u, apick_t, apick_f, exV_exit, exV_ret, lookE_same, joinK_eq, seqA_n, seqA_e, seqA_r, e_add, e_sub, e_mul, e_eql, e_neq, e_lss, e_leq, e_gtr, e_geq, e_conv, e_not, e_neg, and_guard, or_guard, retV]
  rfl

end Go.Proofs.Ytdhadhelcpeiaaa.Ab
