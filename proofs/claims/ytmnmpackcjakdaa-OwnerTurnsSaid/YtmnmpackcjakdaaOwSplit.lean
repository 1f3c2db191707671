/- Owners: split, and given. -/
import Derived.Test.YtmnmpackcjakdaaOwDo
import Derived.Test.YtmnmpackcjakdaaBList3
set_option linter.unusedVariables false
set_option linter.unusedSimpArgs false
set_option linter.unusedSectionVars false
namespace Go.Proofs.Ytmnmpackcjakdaa.Ab
open Go

/-! ### What was made on a heap that may not be written -/
theorem quiet_own {α : Type} {C : Cod α} {s t : St} {v : Value} {l : List α} (h : OwnC C s.heap.length t v l) : OwnC C s.heap.length (quietR s (v, t)).2 v l := by
  rcases h with h | ⟨b, cap, rest, rfl, h1, h2, h3⟩
  · exact .inl h
  · refine .inr ⟨b, cap, rest, rfl, h1, ?_, h3⟩
    simp only [quietR]
    rw [List.getElem?_append_right h1, List.getElem?_drop, show s.heap.length + (b - s.heap.length) = b by omega]
    exact h2
theorem quiet_ext {α : Type} {s : St} {r : α × St} : Ext s.heap.length s (quietR s r).2 := ⟨by simp [quietR], fun b hb => by
  simp only [quietR]
  rw [List.getElem?_append_left hb]⟩
theorem quiet_push {α : Type} {s : St} {a : α} {B : Blk} : quietR s (a, (frzS s).push B) = (a, s.push B) := by
  have := frzS_len s
  simp [quietR, St.push, this]
theorem ow_one (o : Ow) (s : St) : abuildSl 2 [(.string ⟨#[]⟩), (.int .i64 0)] 1 [(0, owV o)] s = some (.slice (some ⟨s.heap.length, 0, none⟩) 1 1, s.push (.row 2 (owC.enc o) .act)) := by
  obtain ⟨a, b⟩ := o
  rfl
theorem OwnC.tup {α : Type} {C : Cod α} {N : Nat} {s : St} {v : Value} {l : List α} (h : OwnC C N s v l) : isTup v = false := by
  rcases h with ⟨rfl, _⟩ | ⟨b, cap, rest, rfl, _⟩ <;> rfl
theorem x2_0 {a b : Value} (h : isTup a = false) : aextract 0 (.tuple #[a, b]) = some a := by simp [aextract, h]
theorem x2_1 {a b : Value} (h : isTup b = false) : aextract 1 (.tuple #[a, b]) = some b := by simp [aextract, h]
theorem ret_own {α : Type} {C : Cod α} {N : Nat} {s t : St} {v : Value} {l : List α} (h : OwnC C N s v l) (n : Int) : retV [v, .int .i64 n] t = some (.tuple #[v, .int .i64 n], t) := by
  simp [retV, h.notup, resPack]; rfl
theorem ret_nil0 (n : Int) (s : St) : retV [.slice none 0 0, .int .i64 n] s = some (.tuple #[.slice none 0 0, .int .i64 n], s) := rfl
theorem append_nil {α : Type} {C : Cod α} {v : Value} {s : St} {l : List α} (h : listOf C v s = some l) {n w : Nat} (hn : n = C.n) (hw : 0 < w) (hb : roomA l.length w) : ∃ v' t, aappend n w (.slice none 0 0) v s = some (v', t) ∧ Own s.heap.length C.n t v' (encL C l) ∧ Ext s.heap.length s t := by
  subst hn
  have := own_appendR (N := s.heap.length) (n := C.n) (w := w) (s := s) (x := .slice none 0 0) (y := v) (cells := []) (.nil _ _ _) (Nat.le_refl _) hw C.pos (list_lenV h) (list_elems h) (encL_len C l) (fun q hq => by
    simp only [List.length_nil, Nat.zero_add, encL_len] at hq
    rw [Nat.eq_of_mul_eq_mul_right C.pos hq]
    exact hb)
  simpa using this

theorem gInsO_len {x y : Value} {i : Int} {s t : St} {v : Value} (h : gInsO [x, .int .i64 i, y] s = some (v, t)) : s.heap.length ≤ t.heap.length := by
  unfold gInsO at h
  simp only at h
  split at h
  case isFalse => cases h
  split at h
  · split at h
    case isFalse => cases h
    simp only [Option.bind_eq_some_iff] at h
    obtain ⟨r, h1, h2⟩ := h
    have := (aappend_keep (v' := r.1) (t := r.2) h1).1.1
    unfold retV at h2
    split at h2
    · cases h2; exact this
    · cases h2
  · unfold gInsMid at h
    split at h
    case h_2 => cases h
    split at h
    case h_2 => cases h
    split at h
    · cases h
      simp [St.push, St.putB]
    · cases h

theorem abound_nat (d n : Nat) : abound d (some (.int .i64 (n : Int))) = some n := by
  unfold abound
  simp only
  rw [if_pos (by omega), Int.toNat_natCast]
def shA (l : List Ow) (i : Nat) : Int := match l[i]? with
  | some o => o.2
  | none => 0
theorem shA_lt {l : List Ow} {i : Nat} (h : i < l.length) : shA l i = l[i].2 := by unfold shA; rw [List.getElem?_eq_getElem h]
def spE (l : List Ow) (k : BL) : Int := if fiE l k = 0 then (if loA l (fiO l k) = k then 6 else if l.length = 6 then 3 else 0) else fiE l k
def spM (l : List Ow) (k : BL) : List Ow := l.take (fiO l k + 1) ++ (k, shA l (fiO l k)) :: l.drop (fiO l k + 1)

/-- a new list, or none -/
def GivesO (s : St) (r : Option (Value × St)) (e : Int) (l : List Ow) : Prop :=
  ∃ v t, r = some (.tuple #[v, .int .i64 e], t) ∧ OwnC owC s.heap.length t v (if e = 0 then l else []) ∧ Ext s.heap.length s t
theorem GivesO.no {s : St} {e : Int} {l : List Ow} (h : e ≠ 0) : GivesO s (some (.tuple #[.slice none 0 0, .int .i64 e], s)) e l := ⟨_, _, rfl, .inl ⟨rfl, by rw [if_neg h]⟩, .refl _ _⟩

theorem Split_run {R : Caller} (hF : ∀ xs s, R 15 xs s = gFi xs s) (hC : ∀ a s r, slices_Clone_api_Owner_api_Owner R a s = some r → R 34 [a] s = some r) (hI : ∀ xs s, R 33 xs s = gInsO xs s) {v : Value} {s : St} {l : List Ow} (h : listOf owC v s = some l) (hl : l.length < 140737488355328) (k : BL) :
    GivesO s (owner_Split R v (sv k) s) (spE l k) (spM l k) := by
  have e1 : gFi [v, sv k] s = some (fiV l k, s) := gOK_eq h hl rfl
  unfold owner_Split spE
  simp only [owner_Find_call, hF, e1, n_bind, x_fi0, x_fi1, e_neq]
  by_cases c : fiE l k = 0
  · obtain ⟨c1, c2⟩ := fiE_0.1 c
    have hok := okay_iff.1 c1
    obtain ⟨hlt, _, _⟩ := hok.find k
    have h6 := hok.len
    have en : fiN l k = ((fiO l k : Nat) : Int) := by unfold fiN; rw [if_pos ⟨c1, c2⟩]
    have cn : (fiE l k != 0) = false := by rw [c]; rfl
    obtain ⟨p, f1, q, f2, f3⟩ := ow_lo h hlt
    rw [if_pos c]
    simp only [cn, condV_f, en, f1, f2, f3, n_bind, e_seql]
    by_cases d : loA l (fiO l k) = k
    · have d1 : (loA l (fiO l k) == k) = true := by simpa using d
      rw [if_pos d]
      simp only [d1, condV_t, ret_nil0]
      exact .no (by decide)
    · have d1 : (loA l (fiO l k) == k) = false := by simpa using d
      rw [if_neg d]
      simp only [d1, condV_f, list_len h, e_eql, n_bind]
      by_cases f : l.length = 6
      · have f1 : (((l.length : Nat) : Int) == 6) = true := by rw [f]; rfl
        rw [if_pos f]
        simp only [f1, condV_t, ret_nil0]
        exact .no (by decide)
      · have f1' : (((l.length : Nat) : Int) == 6) = false := by rw [beq_eq_false_iff_ne]; omega
        rw [if_neg f]
        obtain ⟨v1, t1, g1, g2, g3⟩ := cloneO_run (R := R) (s := frzS s) (v := v) (m := l) (by rw [list_frz]; exact h) (by omega)
        rw [frzS_len] at g2
        have o1 := quiet_own g2
        have x1 : Ext s.heap.length s (quietR s (v1, t1)).2 := quiet_ext
        generalize hs1 : (quietR s (v1, t1)).2 = s1 at o1 x1
        have hq1 : quietR s (v1, t1) = (v1, s1) := by rw [← hs1]; rfl
        have hl1 := list_ext x1 h
        obtain ⟨p2, k1, q2, k2, k3⟩ := ow_sh (s := frzS s1) (by rw [list_frz]; exact hl1) hlt
        have hpp : p2 = p := by rw [f1] at k1; exact (Option.some.inj k1).symm
        subst hpp
        have hb := w_ab k l[fiO l k].2
        have ho := ow_one (k, l[fiO l k].2) (frzS s1)
        rw [frzS_len] at ho
        have hN1 : s.heap.length ≤ s1.heap.length := x1.1
        obtain ⟨v', t, i1, i2, i3, i4, i5⟩ := insO_ok o1 hN1 (k, l[fiO l k].2) (i := fiO l k + 1) (by omega) (by omega)
        have hE : Ext s.heap.length s t := x1.trans (i3.ext hN1 fun c hc => (o1.blk c hc).1)
        refine ⟨v', t, ?_, ?_, hE⟩
        · have hown : ownR (s1.push (.row 2 (owC.enc (k, l[fiO l k].2)) .act)) (v', t) = some (v', t) := by
            unfold ownR
            rw [if_pos]
            rw [push_len]
            have h7 := gInsO_len i1
            rw [push_len] at h7
            exact h7
          simp only [f1', condV_f, slices_Clone_api_Owner_api_Owner_call, hC _ _ _ g1, n_map, hq1, e_add, inc_i (show fiO l k < 140737488355328 by omega), f1, k1, k2, k3, hb, ho, quiet_push, slices_Insert_api_Owner_api_Owner_call, hI, i1, n_bind, hown, ret_own i2]
        · rw [if_pos rfl]
          unfold spM
          rw [shA_lt hlt]
          exact i2
  · have cn : (fiE l k != 0) = true := by simpa using c
    rw [if_neg c]
    simp only [cn, condV_t, ret_nil0]
    exact .no c
theorem refSplit_run {R : Caller} (hF : ∀ xs s, R 16 xs s = gFi xs s) {v : Value} {s : St} {l : List Ow} (h : listOf owC v s = some l) (hl : l.length < 140737488355328) (k : BL) :
    GivesO s (ref17_Split R v (sv k) s) (spE l k) (spM l k) := by
  have e1 : gFi [v, sv k] s = some (fiV l k, s) := gOK_eq h hl rfl
  unfold ref17_Split spE
  simp only [ref17_Find_call, hF, e1, n_bind, x_fi0, x_fi1, e_neq]
  by_cases c : fiE l k = 0
  · obtain ⟨c1, c2⟩ := fiE_0.1 c
    have hok := okay_iff.1 c1
    obtain ⟨hlt, _, _⟩ := hok.find k
    have h6 := hok.len
    have en : fiN l k = ((fiO l k : Nat) : Int) := by unfold fiN; rw [if_pos ⟨c1, c2⟩]
    have cn : (fiE l k != 0) = false := by rw [c]; rfl
    obtain ⟨p, f1, q, f2, f3⟩ := ow_lo h hlt
    rw [if_pos c]
    simp only [cn, condV_f, en, f1, f2, f3, n_bind, e_seql]
    by_cases d : loA l (fiO l k) = k
    · have d1 : (loA l (fiO l k) == k) = true := by simpa using d
      rw [if_pos d]
      simp only [d1, condV_t, ret_nil0]
      exact .no (by decide)
    · have d1 : (loA l (fiO l k) == k) = false := by simpa using d
      rw [if_neg d]
      simp only [d1, condV_f, list_len h, e_eql, n_bind]
      by_cases f : l.length = 6
      · have f1 : (((l.length : Nat) : Int) == 6) = true := by rw [f]; rfl
        rw [if_pos f]
        simp only [f1, condV_t, ret_nil0]
        exact .no (by decide)
      · have f1' : (((l.length : Nat) : Int) == 6) = false := by rw [beq_eq_false_iff_ne]; omega
        rw [if_neg f]
        obtain ⟨u, u1, u2⟩ := list_slice h (lo := none) (hi := some (.int .i64 ((fiO l k + 1 : Nat) : Int))) (mx := none) (i := 0) (j := fiO l k + 1) rfl (abound_nat _ _) (Nat.zero_le _) (by omega) (.inl rfl) (n := 2) rfl
        rw [List.drop_zero, Nat.sub_zero] at u2
        obtain ⟨v1, t1, a1, a2, a3⟩ := append_nil u2 (n := 2) (w := 24) rfl (by decide) (room24 (by simp; omega))
        have hl1 := list_ext a3 h
        obtain ⟨p2, k1, q2, k2, k3⟩ := ow_sh hl1 hlt
        have hpp : p2 = p := by rw [f1] at k1; exact (Option.some.inj k1).symm
        subst hpp
        obtain ⟨r, b1, b2, v2, t2, b3, b4, b5, b6⟩ := own_add1 (C := owC) (a := (k, l[fiO l k].2)) (w := 24) (z := [(.string ⟨#[]⟩), (.int .i64 0)]) (v := owV (k, l[fiO l k].2)) a2 a3.1 (by decide) (by decide) rfl rfl rfl (by simp; omega) (n := 2) rfl
        have hl2 := list_ext (b5.less (Nat.le_refl _) |> fun x => a3.trans x) h
        obtain ⟨u3, w1, w2⟩ := list_slice hl2 (lo := some (.int .i64 ((fiO l k + 1 : Nat) : Int))) (hi := none) (mx := none) (i := fiO l k + 1) (j := l.length) (abound_nat _ _) rfl (by omega) (Nat.le_refl _) (.inl rfl) (n := 2) rfl
        obtain ⟨v3, t3, d1', d2, d3⟩ := own_addL b4 (Nat.le_trans a3.1 b5.1) (w := 24) (by decide) w2 (by simp; omega) (n := 2) rfl
        have hfin : List.take (fiO l k + 1) l ++ [(k, l[fiO l k].2)] ++ List.take (l.length - (fiO l k + 1)) (List.drop (fiO l k + 1) l) = spM l k := by
          unfold spM
          rw [shA_lt hlt, List.take_of_length_le (l := List.drop (fiO l k + 1) l) (by simp), List.append_assoc]
          rfl
        rw [hfin] at d2
        refine ⟨v3, t3, ?_, by rw [if_pos rfl]; exact d2.toC, (a3.trans b5).trans d3⟩
        have hb := w_ab k l[fiO l k].2
        simp only [f1', condV_f, e_add, inc_i (show fiO l k < 140737488355328 by omega), u1, a1, k1, k2, k3, hb, b1, b3, w1, d1', n_bind, ret_own d2.toC]
  · have cn : (fiE l k != 0) = true := by simpa using c
    rw [if_neg c]
    simp only [cn, condV_t, ret_nil0]
    exact .no c

/-! ### Given -/
def gvE (l : List Ow) (n sh : Int) : Int := if okO l = true then (if 0 ≤ n ∧ n < (l.length : Int) then (if shOk sh = true then 0 else 1) else 5) else 170
def gvM (l : List Ow) (n sh : Int) : List Ow := l.set n.toNat (loA l n.toNat, sh)
theorem w_set {o : Ow} {n : Int} : owC.enc (o.1, n) = (owC.enc o).set 1 (.int .i64 n) := rfl
theorem owner_Give_run {R : Caller} (hE : ∀ xs s, R 19 xs s = gEO xs s) (hC : ∀ a s r, slices_Clone_api_Owner_api_Owner R a s = some r → R 34 [a] s = some r) {v : Value} {s : St} {l : List Ow} (h : listOf owC v s = some l) (hl : l.length < 140737488355328) (n sh : Int) :
    GivesO s (owner_Give R v (.int .i64 n) (.int .i64 sh) s) (gvE l n sh) (gvM l n sh) := by
  have e1 : gEO [v] s = some (.int .i64 (eO l), s) := gO_eq h hl
  unfold owner_Give gvE
  simp only [owner_Check_call, hE, e1, n_bind, e_neq, eO_n]
  by_cases c : okO l = true
  · have hok := okay_iff.1 c
    have h6 := hok.len
    rw [if_pos c]
    simp only [c, Bool.not_true, condV_f, list_len h, n_bind, n_map, getL_0, getL_1, getL_2, getL_3, getL_4, getL_5, getL_6, getL_7, getL_8, getL_9, getL_10, getL_11, getL_12, condV_t, condV_f, guardV_tt, guardV_ff, guardV_tf, guardV_ft, guardV_u, apick_t, apick_f, exV_exit, exV_ret, lookE_same, joinK_eq, seqA_n, seqA_e, seqA_r, e_add, e_sub, e_mul, e_eql, e_neq, e_lss, e_leq, e_gtr, e_geq, e_conv, e_not, e_neg, and_guard, or_guard]
    by_cases c1 : n < 0
    · have c2 : decide (n < 0) = true := decide_eq_true c1
      rw [if_neg (by omega)]
      simp only [c2, Bool.true_or, n_bind, n_map, getL_0, getL_1, getL_2, getL_3, getL_4, getL_5, getL_6, getL_7, getL_8, getL_9, getL_10, getL_11, getL_12, condV_t, condV_f, guardV_tt, guardV_ff, guardV_tf, guardV_ft, guardV_u, apick_t, apick_f, exV_exit, exV_ret, lookE_same, joinK_eq, seqA_n, seqA_e, seqA_r, e_add, e_sub, e_mul, e_eql, e_neq, e_lss, e_leq, e_gtr, e_geq, e_conv, e_not, e_neg, and_guard, or_guard, ret_nil0]
      exact .no (by decide)
    · have c2 : decide (n < 0) = false := decide_eq_false c1
      by_cases c3 : n < (l.length : Int)
      · have c4 : decide (n ≥ ((l.length : Nat) : Int)) = false := decide_eq_false (by omega)
        obtain ⟨i, rfl⟩ := Int.eq_ofNat_of_zero_le (show 0 ≤ n by omega)
        have hi : i < l.length := by omega
        rw [if_pos ⟨by omega, c3⟩]
        have hsh : shOk sh = (!(decide (sh < 1)) && !(decide (sh > 4))) := rfl
        by_cases d : shOk sh = true
        · rw [if_pos d]
          rw [hsh] at d
          simp only [Bool.and_eq_true, Bool.not_eq_true'] at d
          have key : ∃ v1 t1, callV Try.prog R (.func (.func 34) #[] #[]) [v] s = some (v1, t1) ∧ OwnC owC s.heap.length t1 v1 l ∧ Ext s.heap.length s t1 := by
            obtain ⟨v1, t1, g1, g2, g3⟩ := cloneO_run (R := R) h (by omega)
            exact ⟨v1, t1, by rw [slices_Clone_api_Owner_api_Owner_call, hC _ _ _ g1], g2, g3⟩
          obtain ⟨v1, t1, g1, g2, g3⟩ := key
          obtain ⟨p, q, t, k1, k2, k3, k4, k5⟩ := ownC_set g2 hi (k := 1) (a := (l[i].1, sh)) (x := .int .i64 sh) (by decide) rfl rfl w_set (kd := .i64) (n := 2) rfl
          refine ⟨v1, t, ?_, ?_, g3.trans (k5.ext g3.1 fun c hc => (g2.blk c hc).1)⟩
          · simp only [c2, c4, d.1, d.2, Bool.or_self, n_bind, n_map, getL_0, getL_1, getL_2, getL_3, getL_4, getL_5, getL_6, getL_7, getL_8, getL_9, getL_10, getL_11, getL_12, condV_t, condV_f, guardV_tt, guardV_ff, guardV_tf, guardV_ft, guardV_u, apick_t, apick_f, exV_exit, exV_ret, lookE_same, joinK_eq, seqA_n, seqA_e, seqA_r, e_add, e_sub, e_mul, e_eql, e_neq, e_lss, e_leq, e_gtr, e_geq, e_conv, e_not, e_neg, and_guard, or_guard, g1, k1, k2, k3, ret_own k4]
          · rw [if_pos rfl]
            unfold gvM
            rw [Int.toNat_natCast, loA_lt hi]
            exact k4
        · rw [if_neg d]
          rw [hsh] at d
          have d2 : (decide (sh < 1) || decide (sh > 4)) = true := by
            cases e1 : decide (sh < 1) <;> cases e2 : decide (sh > 4) <;> simp_all
          simp only [c2, c4, d2, Bool.or_self, n_bind, n_map, getL_0, getL_1, getL_2, getL_3, getL_4, getL_5, getL_6, getL_7, getL_8, getL_9, getL_10, getL_11, getL_12, condV_t, condV_f, guardV_tt, guardV_ff, guardV_tf, guardV_ft, guardV_u, apick_t, apick_f, exV_exit, exV_ret, lookE_same, joinK_eq, seqA_n, seqA_e, seqA_r, e_add, e_sub, e_mul, e_eql, e_neq, e_lss, e_leq, e_gtr, e_geq, e_conv, e_not, e_neg, and_guard, or_guard, ret_nil0]
          exact .no (by decide)
      · have c4 : decide (n ≥ ((l.length : Nat) : Int)) = true := decide_eq_true (by omega)
        rw [if_neg (by omega)]
        simp only [c2, c4, Bool.false_or, n_bind, n_map, getL_0, getL_1, getL_2, getL_3, getL_4, getL_5, getL_6, getL_7, getL_8, getL_9, getL_10, getL_11, getL_12, condV_t, condV_f, guardV_tt, guardV_ff, guardV_tf, guardV_ft, guardV_u, apick_t, apick_f, exV_exit, exV_ret, lookE_same, joinK_eq, seqA_n, seqA_e, seqA_r, e_add, e_sub, e_mul, e_eql, e_neq, e_lss, e_leq, e_gtr, e_geq, e_conv, e_not, e_neg, and_guard, or_guard, ret_nil0]
        exact .no (by decide)
  · have c2 : okO l = false := by simpa using c
    rw [if_neg c]
    have e3 : eO l = 170 := by unfold eO; rw [c2]; rfl
    simp only [c2, Bool.not_false, condV_t, e3, ret_nil0]
    exact .no (by decide)
theorem ref17_Give_run {R : Caller} (hE : ∀ xs s, R 20 xs s = gEO xs s) {v : Value} {s : St} {l : List Ow} (h : listOf owC v s = some l) (hl : l.length < 140737488355328) (n sh : Int) :
    GivesO s (ref17_Give R v (.int .i64 n) (.int .i64 sh) s) (gvE l n sh) (gvM l n sh) := by
  have e1 : gEO [v] s = some (.int .i64 (eO l), s) := gO_eq h hl
  unfold ref17_Give gvE
  simp only [ref17_Check_call, hE, e1, n_bind, e_neq, eO_n]
  by_cases c : okO l = true
  · have hok := okay_iff.1 c
    have h6 := hok.len
    rw [if_pos c]
    simp only [c, Bool.not_true, condV_f, list_len h, n_bind, n_map, getL_0, getL_1, getL_2, getL_3, getL_4, getL_5, getL_6, getL_7, getL_8, getL_9, getL_10, getL_11, getL_12, condV_t, condV_f, guardV_tt, guardV_ff, guardV_tf, guardV_ft, guardV_u, apick_t, apick_f, exV_exit, exV_ret, lookE_same, joinK_eq, seqA_n, seqA_e, seqA_r, e_add, e_sub, e_mul, e_eql, e_neq, e_lss, e_leq, e_gtr, e_geq, e_conv, e_not, e_neg, and_guard, or_guard]
    by_cases c1 : n < 0
    · have c2 : decide (n < 0) = true := decide_eq_true c1
      rw [if_neg (by omega)]
      simp only [c2, Bool.true_or, n_bind, n_map, getL_0, getL_1, getL_2, getL_3, getL_4, getL_5, getL_6, getL_7, getL_8, getL_9, getL_10, getL_11, getL_12, condV_t, condV_f, guardV_tt, guardV_ff, guardV_tf, guardV_ft, guardV_u, apick_t, apick_f, exV_exit, exV_ret, lookE_same, joinK_eq, seqA_n, seqA_e, seqA_r, e_add, e_sub, e_mul, e_eql, e_neq, e_lss, e_leq, e_gtr, e_geq, e_conv, e_not, e_neg, and_guard, or_guard, ret_nil0]
      exact .no (by decide)
    · have c2 : decide (n < 0) = false := decide_eq_false c1
      by_cases c3 : n < (l.length : Int)
      · have c4 : decide (n ≥ ((l.length : Nat) : Int)) = false := decide_eq_false (by omega)
        obtain ⟨i, rfl⟩ := Int.eq_ofNat_of_zero_le (show 0 ≤ n by omega)
        have hi : i < l.length := by omega
        rw [if_pos ⟨by omega, c3⟩]
        have hsh : shOk sh = (!(decide (sh < 1)) && !(decide (sh > 4))) := rfl
        by_cases d : shOk sh = true
        · rw [if_pos d]
          rw [hsh] at d
          simp only [Bool.and_eq_true, Bool.not_eq_true'] at d
          have key : ∃ v1 t1, aappend 2 24 (.slice none 0 0) v s = some (v1, t1) ∧ OwnC owC s.heap.length t1 v1 l ∧ Ext s.heap.length s t1 := by
            obtain ⟨v1, t1, g1, g2, g3⟩ := append_nil h (n := 2) (w := 24) rfl (by decide) (room24 (by omega))
            exact ⟨v1, t1, g1, g2.toC, g3⟩
          obtain ⟨v1, t1, g1, g2, g3⟩ := key
          obtain ⟨p, q, t, k1, k2, k3, k4, k5⟩ := ownC_set g2 hi (k := 1) (a := (l[i].1, sh)) (x := .int .i64 sh) (by decide) rfl rfl w_set (kd := .i64) (n := 2) rfl
          refine ⟨v1, t, ?_, ?_, g3.trans (k5.ext g3.1 fun c hc => (g2.blk c hc).1)⟩
          · simp only [c2, c4, d.1, d.2, Bool.or_self, n_bind, n_map, getL_0, getL_1, getL_2, getL_3, getL_4, getL_5, getL_6, getL_7, getL_8, getL_9, getL_10, getL_11, getL_12, condV_t, condV_f, guardV_tt, guardV_ff, guardV_tf, guardV_ft, guardV_u, apick_t, apick_f, exV_exit, exV_ret, lookE_same, joinK_eq, seqA_n, seqA_e, seqA_r, e_add, e_sub, e_mul, e_eql, e_neq, e_lss, e_leq, e_gtr, e_geq, e_conv, e_not, e_neg, and_guard, or_guard, g1, k1, k2, k3, ret_own k4]
          · rw [if_pos rfl]
            unfold gvM
            rw [Int.toNat_natCast, loA_lt hi]
            exact k4
        · rw [if_neg d]
          rw [hsh] at d
          have d2 : (decide (sh < 1) || decide (sh > 4)) = true := by
            cases e1 : decide (sh < 1) <;> cases e2 : decide (sh > 4) <;> simp_all
          simp only [c2, c4, d2, Bool.or_self, n_bind, n_map, getL_0, getL_1, getL_2, getL_3, getL_4, getL_5, getL_6, getL_7, getL_8, getL_9, getL_10, getL_11, getL_12, condV_t, condV_f, guardV_tt, guardV_ff, guardV_tf, guardV_ft, guardV_u, apick_t, apick_f, exV_exit, exV_ret, lookE_same, joinK_eq, seqA_n, seqA_e, seqA_r, e_add, e_sub, e_mul, e_eql, e_neq, e_lss, e_leq, e_gtr, e_geq, e_conv, e_not, e_neg, and_guard, or_guard, ret_nil0]
          exact .no (by decide)
      · have c4 : decide (n ≥ ((l.length : Nat) : Int)) = true := decide_eq_true (by omega)
        rw [if_neg (by omega)]
        simp only [c2, c4, Bool.false_or, n_bind, n_map, getL_0, getL_1, getL_2, getL_3, getL_4, getL_5, getL_6, getL_7, getL_8, getL_9, getL_10, getL_11, getL_12, condV_t, condV_f, guardV_tt, guardV_ff, guardV_tf, guardV_ft, guardV_u, apick_t, apick_f, exV_exit, exV_ret, lookE_same, joinK_eq, seqA_n, seqA_e, seqA_r, e_add, e_sub, e_mul, e_eql, e_neq, e_lss, e_leq, e_gtr, e_geq, e_conv, e_not, e_neg, and_guard, or_guard, ret_nil0]
        exact .no (by decide)
  · have c2 : okO l = false := by simpa using c
    rw [if_neg c]
    have e3 : eO l = 170 := by unfold eO; rw [c2]; rfl
    simp only [c2, Bool.not_false, condV_t, e3, ret_nil0]
    exact .no (by decide)

end Go.Proofs.Ytmnmpackcjakdaa.Ab
