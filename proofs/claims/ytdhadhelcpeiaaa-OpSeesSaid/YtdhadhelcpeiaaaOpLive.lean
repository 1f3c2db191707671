/- Operations on a map: the chapter's examples. -/
import Derived.Test.YtdhadhelcpeiaaaOpLib
set_option linter.unusedVariables false
set_option linter.unusedSimpArgs false
set_option linter.unusedSectionVars false
namespace Go.Proofs.Ytdhadhelcpeiaaa.Ab
open Go

theorem row_own {α : Type} {C : Cod α} {s : St} (l : List α) : OwnC C s.heap.length (s.push (.row C.n (encL C l) .act)) (.slice (some ⟨s.heap.length, 0, none⟩) l.length l.length) l :=
  .inr ⟨s.heap.length, l.length, [], rfl, Nat.le_refl _, by rw [List.append_nil]; exact push_get, by rw [List.append_nil, encL_len], rfl⟩
theorem q_get {q : List (Rs × Value)} {l : List Rs} (hq : q.map (·.1) = l) {i : Nat} (hi : i < q.length) {x : Rs} (hx : l[i]? = some x) : q[i].1 = x := by
  subst hq
  rw [List.getElem?_map, List.getElem?_eq_getElem hi] at hx
  simpa using hx
def liveL : List OpT := [⟨2, [97], [49], [], [], 0⟩, ⟨2, [98], [50], [], [], 0⟩, ⟨3, [97], [], [], [], 0⟩, ⟨4, [], [], [], [], 2⟩, ⟨1, [97], [], [], [], 0⟩]
theorem live_run (s : St) : ∃ t, law04_live (run Try.prog (libL libS) hints) s = some (.bool true, t) := by
  have e0 : apE [] liveL = 0 := by decide +kernel
  have e1 : apM [] liveL = [([98], [50])] := by decide +kernel
  have e2 : apR [] liveL = [(false, [], []), (false, [], []), (false, [], []), (false, [], [([98], [50])]), (false, [], [])] := by decide +kernel
  have hb : abuildSl 6 [(.int .i64 0), (.string ⟨#[]⟩), (.string ⟨#[]⟩), (.string ⟨#[]⟩), (.string ⟨#[]⟩), (.int .i64 0)] 5 [(0, (.agg #[(.int .i64 2), (.string ⟨#[97]⟩), (.string ⟨#[49]⟩), (.string ⟨#[]⟩), (.string ⟨#[]⟩), (.int .i64 0)])), (1, (.agg #[(.int .i64 2), (.string ⟨#[98]⟩), (.string ⟨#[50]⟩), (.string ⟨#[]⟩), (.string ⟨#[]⟩), (.int .i64 0)])), (2, (.agg #[(.int .i64 3), (.string ⟨#[97]⟩), (.string ⟨#[]⟩), (.string ⟨#[]⟩), (.string ⟨#[]⟩), (.int .i64 0)])), (3, (.agg #[(.int .i64 4), (.string ⟨#[]⟩), (.string ⟨#[]⟩), (.string ⟨#[]⟩), (.string ⟨#[]⟩), (.int .i64 2)])), (4, (.agg #[(.int .i64 1), (.string ⟨#[97]⟩), (.string ⟨#[]⟩), (.string ⟨#[]⟩), (.string ⟨#[]⟩), (.int .i64 0)]))] s = some (.slice (some ⟨s.heap.length, 0, none⟩) liveL.length liveL.length, s.push (.row opC.n (encL opC liveL) .act)) := rfl
  have hl := (row_own (C := opC) (s := s) liveL).list
  have h1 := k_apply (opHS rfl) rfl (list_nil (C := prC) (s.push (.row opC.n (encL opC liveL) .act))) hl (by decide) (by decide)
  rw [if_pos e0] at h1
  obtain ⟨a, r, t, g1, g2, g3, g4⟩ := h1
  rw [e1] at g2
  rw [e2] at g3
  obtain ⟨q, hq, ho, hx⟩ := g3
  have hql : q.length = 5 := by
    have := congrArg List.length hq
    simpa using this
  obtain ⟨p, a1, a2⟩ := list_at g2.list (i := 0) (by decide) (k := .i64) (n := 2) rfl
  have a3 : aload true 2 p t = some (rv ([98], [50])) := a2
  have q3 := q_get hq (i := 3) (by omega) rfl
  have q4 := q_get hq (i := 4) (by omega) rfl
  obtain ⟨_, _, x3⟩ := encR_get q 3 (by omega)
  obtain ⟨x4, _, _⟩ := encR_get q 4 (by omega)
  obtain ⟨p3, b1, p4, b2, b3⟩ := cells_field ho.cells (j := 2) (by decide) (by rw [encR_len]; omega) x3 (k := .i64)
  obtain ⟨p5, c1, p6, c2, c3⟩ := cells_field ho.cells (j := 0) (by decide) (by rw [encR_len]; omega) x4 (k := .i64)
  have hp := hx q[3] (List.getElem_mem (by omega))
  rw [q3] at hp
  rw [q4] at c3
  have z98 : (Value.agg #[(.string ⟨#[98]⟩), (.string ⟨#[50]⟩)]) = rv ([98], [50]) := rfl
  have zo1 : (Value.agg #[(.int .i64 1), (.string ⟨#[97]⟩), (.string ⟨#[120]⟩), (.string ⟨#[]⟩), (.string ⟨#[]⟩), (.int .i64 0)]) = oV ⟨1, [97], [120], [], [], 0⟩ := rfl
  have zo2 : (Value.agg #[(.int .i64 4), (.string ⟨#[]⟩), (.string ⟨#[]⟩), (.string ⟨#[]⟩), (.string ⟨#[]⟩), (.int .i64 5)]) = oV ⟨4, [], [], [], [], 5⟩ := rfl
  have zo3 : (Value.agg #[(.int .i64 5), (.string ⟨#[]⟩), (.string ⟨#[]⟩), (.string ⟨#[98]⟩), (.string ⟨#[97]⟩), (.int .i64 0)]) = oV ⟨5, [], [], [98], [97], 0⟩ := rfl
  have hC : ∀ o s, run Try.prog (libL libS) hints 24 [oV o] s = some (.int .i64 (ckO o), s) := fun o s => (known (g := gCkO) rfl).trans ckO_eq
  have w1 : ckO ⟨1, [97], [120], [], [], 0⟩ = 40 := by decide +kernel
  have w2 : ckO ⟨4, [], [], [], [], 5⟩ = 1 := by decide +kernel
  have w3 : ckO ⟨5, [], [], [98], [97], 0⟩ = 21 := by decide +kernel
  have u0 : ((0 : Int) == 0) = true := rfl
  have hla : ∀ e s2, alenV (.slice e) a s2 = some (.int .i64 1) := fun e s2 => list_len g2.list
  have hlr : ∀ e s2, alenV (.slice e) r s2 = some (.int .i64 5) := fun e s2 => by rw [cells_alen ho.cells, hql]; rfl
  have hlp : ∀ e s2, alenV (.slice e) q[3].2 s2 = some (.int .i64 1) := fun e s2 => list_len hp.list
  have i0 : aindexS 2 a (.int .i64 0) = some p := a1
  have i3 : aindexS 3 r (.int .i64 3) = some p3 := b1
  have i4 : aindexS 3 r (.int .i64 4) = some p5 := c1
  have t1 : isTup a = false := by rcases g2 with ⟨rfl, _⟩ | ⟨b, cap, rest, rfl, _⟩ <;> rfl
  have t2 : isTup r = false := by rcases ho with ⟨rfl, _⟩ | ⟨b, len, rfl, _⟩ <;> rfl
  have y0 : aextract 0 (.tuple #[a, r, .int .i64 0]) = some a := by simp [aextract, t1]
  have y1 : aextract 1 (.tuple #[a, r, .int .i64 0]) = some r := by simp [aextract, t2]
  have y2 : aextract 2 (.tuple #[a, r, .int .i64 0]) = some (.int .i64 0) := rfl
  have v1 : ((1 : Int) == 1) = true := rfl
  have v5 : ((5 : Int) == 5) = true := rfl
  have v40 : ((40 : Int) == 40) = true := rfl
  have v21 : ((21 : Int) == 21) = true := rfl
  have vp : (([98] : BL) == [98] && ([50] : BL) == [50]) = true := rfl
  refine ⟨t, ?_⟩
  unfold law04_live
  simp only [hb, op_Apply_call, g1, y0, y1, y2, u0, v1, v5, v40, v21, hla, hlr, hlp, i0, a3, z98, pr_eql, vp, i3, b2, b3, i4, c2, c3, zo1, zo2, zo3, op_CheckOp_call, hC, w1, w2, w3, Bool.not_false, n_bind, n_map, getL_0, getL_1, getL_2, getL_3, getL_4, getL_5, getL_6, getL_7, getL_8, getL_9, getL_10, getL_11, getL_12, condV_t, condV_f, guardV_tt, guardV_ff, guardV_tf, guardV_ft, guardV_u, apick_t, apick_f, exV_exit, exV_ret, lookE_same, joinK_eq, seqA_n, seqA_e, seqA_r, e_add, e_sub, e_mul, e_eql, e_neq, e_lss, e_leq, e_gtr, e_geq, e_conv, e_not, e_neg, and_guard, or_guard, retV]
  rfl
noncomputable def libT : List (FuncId × Sum) := (10, gTrue) :: libS
theorem libT_ok : LibOk Try.prog (libL libT) := libOk_cons progOk libS_ok law04_live_ok (sum0 fun s => let ⟨t, h⟩ := live_run s; ⟨rfl, t, law04_live_of rfl h⟩)
theorem k_live {s : St} : (run Try.prog (libL libT) hints) 10 [] s = some (.bool true, s) := (known (g := gTrue) rfl).trans true_eq
theorem opH {R : Caller} (hR : R = (run Try.prog (libL libT) hints)) : OpH R := by
  subst hR
  exact ⟨fun x y s r h => op_get_of rfl h, fun x y s r h => op_put_of rfl h, fun x y s r h => op_del_of rfl h, fun x y s r h => op_scan_of rfl h, fun x y s r h => op_clear_of rfl h, fun xs s => known (g := gAt) rfl, fun xs s => known (g := gIns) rfl, fun o s => (known (g := gOf) rfl).trans of_eq, fun xs s => known (g := gEnds) rfl, fun a b c s r h => slices_Delete_api_Pair_api_Pair_of rfl h, fun a s r h => slices_Clone_api_Pair_api_Pair_of rfl h, fun xs s => known (g := gMapE) rfl, fun xs s => known (g := gAllE) rfl, fun s => (known (g := gForms) rfl).trans forms_eq⟩
theorem refA {R : Caller} (hR : R = (run Try.prog (libL libT) hints)) : RefA R := by
  subst hR
  exact ⟨⟨fun k v s m h hl => ref04_Find_of rfl (find_run k h hl), fun x y s r h => ref04_put_of rfl h, fun x y s r h => ref04_without_of rfl h, fun x y z s r h => ref04_Within_of rfl h, fun k s => (known (g := gPt) rfl).trans pt_eq, fun r k s => (known (g := gHas) rfl).trans has_eq⟩, fun x y s r h => ref04_Do_of rfl h, fun xs s => known (g := gMapE) rfl, fun xs s => known (g := gAllE) rfl⟩

theorem t_apply {v w : Value} {s : St} {m : List Rg} {l : List OpT} (hm : listOf prC v s = some m) (h : listOf opC w s = some l) (hml : m.length + l.length ≤ 6200000000000) (hl : l.length ≤ 1759218604391) :
    if apE m l = 0 then ∃ a r t, (run Try.prog (libL libT) hints) 11 [v, w] s = some (.tuple #[a, r, .int .i64 0], t) ∧ OwnC prC s.heap.length t a (apM m l) ∧ Rdy s.heap.length t r (apR m l) ∧ Ext s.heap.length s t
    else (run Try.prog (libL libT) hints) 11 [v, w] s = some (.tuple #[.slice none 0 0, .slice none 0 0, .int .i64 (apE m l)], s) := k_apply (opH rfl) rfl hm h hml hl
end Go.Proofs.Ytdhadhelcpeiaaa.Ab
