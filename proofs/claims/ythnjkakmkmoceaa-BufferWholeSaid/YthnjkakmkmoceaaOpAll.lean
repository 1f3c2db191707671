/- What operations touch, all of some. -/
import Derived.Test.YthnjkakmkmoceaaOpLists
import Derived.Test.YthnjkakmkmoceaaBList2
set_option linter.unusedVariables false
set_option linter.unusedSimpArgs false
set_option linter.unusedSectionVars false
namespace Go.Proofs.Ythnjkakmkmoceaa.Ab
open Go

def locksL (l : List OpT) : List Lk := l.map fun o => (spR o, wrt o.kind)
theorem own_ok {α : Type} {s t : St} {a : α} (h : s.heap.length ≤ t.heap.length) : ownR s (a, t) = some (a, t) := by unfold ownR; rw [if_pos h]
theorem x_pt0 (p : Rg × Int) : aextract 0 (ptV p) = some (rv p.1) := Eq.trans rfl (Eq.refl _)
theorem x_pt1 (p : Rg × Int) : aextract 1 (ptV p) = some (.int .i64 p.2) := Eq.trans rfl (Eq.refl _)
theorem allE_bad {l : List OpT} : ∀ {m : List OpT}, allE m = 0 → allE (m ++ l) = allE l
  | [], _ => rfl
  | o :: m, h => by
    rw [allE_cons] at h
    split at h
    · rename_i h1
      rw [List.cons_append, allE_cons, if_pos h1]
      exact allE_bad h
    · rename_i h1; exact absurd h h1

end Go.Proofs.Ythnjkakmkmoceaa.Ab

/- Places of keys in maps. -/
namespace Go.Proofs.Ythnjkakmkmoceaa.Ab
open Go

/-- how many keys stand ahead of one -/
def lb (m : List Rg) (k : BL) : Nat := (m.takeWhile fun p => bl p.1 k).length
def Srt (m : List Rg) : Prop := m.Pairwise fun a b => bl a.1 b.1 = true
def fnd (m : List Rg) (k : BL) : Bool := match m[lb m k]? with
  | some p => p.1 == k
  | none => false
theorem lb_le (m : List Rg) (k : BL) : lb m k ≤ m.length := (List.takeWhile_sublist _).length_le
theorem lb_lt : ∀ {m : List Rg} {k : BL} {j : Nat} (h : j < lb m k), ∃ hj : j < m.length, bl m[j].1 k = true
  | [], k, j, h => by simp [lb] at h
  | p :: m, k, j, h => by
    unfold lb at h
    rw [List.takeWhile_cons] at h
    split at h
    · rename_i hp
      cases j with
      | zero => exact ⟨by simp, hp⟩
      | succ j =>
        obtain ⟨h1, h2⟩ := lb_lt (m := m) (k := k) (j := j) (by simpa [lb] using h)
        exact ⟨by simp; omega, by simpa using h2⟩
    · simp at h
theorem lb_ge : ∀ {m : List Rg} {k : BL} (hs : Srt m) {j : Nat} (hj : j < m.length) (h : lb m k ≤ j), bl m[j].1 k = false
  | [], k, _, j, hj, _ => by simp at hj
  | p :: m, k, hs, j, hj, h => by
    unfold lb at h
    rw [List.takeWhile_cons] at h
    have hs2 := List.pairwise_cons.1 hs
    split at h
    · cases j with
      | zero => simp at h
      | succ j => exact lb_ge hs2.2 (by simpa using hj) (by simpa [lb] using h)
    · rename_i hp
      have hp2 : bl p.1 k = false := by simpa using hp
      cases j with
      | zero => exact hp2
      | succ j =>
        have hj2 : j < m.length := by simpa using hj
        have h3 := hs2.1 m[j] (List.getElem_mem _)
        simp only [List.getElem_cons_succ]
        cases e : bl m[j].1 k with
        | false => rfl
        | true => rw [bl_trans h3 e] at hp2; cases hp2
theorem at1_run {R : Caller} (hC : ∀ a b s, R 87 [sv a, sv b] s = some (.int .i64 (cmpL a b), s)) (p : Rg) (k : BL) (s : St) : op_at_1 R (rv p) (sv k) s = some (.int .i64 (cmpL p.1 k), s) := by
  unfold op_at_1
  simp only [box_rv, ld_0, strings_Compare_call, hC, n_bind, n_map, getL_0, getL_1, getL_2, getL_3, getL_4, getL_5, getL_6, getL_7, getL_8, getL_9, getL_10, getL_11, getL_12, condV_t, condV_f, guardV_tt, guardV_ff, guardV_tf, guardV_ft, guardV_u, apick_t, apick_f, exV_exit, exV_ret, lookE_same, joinK_eq, seqA_n, seqA_e, seqA_r, e_add, e_sub, e_mul, e_eql, e_neq, e_lss, e_leq, e_gtr, e_geq, e_conv, e_not, e_neg, and_guard, or_guard, retV]
  rfl
def atV (m : List Rg) (k : BL) : Value := .tuple #[.int .i64 ((lb m k : Nat) : Int), .bool (fnd m k)]
theorem x_at0 (m : List Rg) (k : BL) : aextract 0 (atV m k) = some (.int .i64 ((lb m k : Nat) : Int)) := Eq.trans rfl (Eq.refl _)
theorem x_at1 (m : List Rg) (k : BL) : aextract 1 (atV m k) = some (.bool (fnd m k)) := Eq.trans rfl (Eq.refl _)
theorem bs_loop {R : Caller} (hC : ∀ p k s, R 86 [rv p, sv k] s = some (.int .i64 (cmpL p.1 k), s)) {v : Value} {s : St} {m : List Rg} (h : listOf prC v s = some m) (hs : Srt m) (hl : m.length < 140737488355328) (k : BL) (x3 : Value) : ∀ (d i j : Nat), j - i ≤ d → i ≤ lb m k → lb m k ≤ j → j ≤ m.length →
    ∃ q, loopL (slices_BinarySearchFunc_api_Pair_api_Pair_string.b0 R) [v, sv k, .func (.func 86) #[] #[], x3, .int .i64 (i : Int), .int .i64 (j : Int)] s = some (.exit 0, [v, sv k, .func (.func 86) #[] #[], x3, .int .i64 ((lb m k : Nat) : Int)], q) ∧ q = s := by
  intro d
  induction d with
  | zero =>
    intro i j hd h1 h2 h3
    have e : i = lb m k := by omega
    have h4 : decide ((i : Int) < (j : Int)) = false := by simp; omega
    refine ⟨s, ?_, rfl⟩
    rw [loopL_eq]
    simp only [slices_BinarySearchFunc_api_Pair_api_Pair_string.b0, h4, n_bind, n_map, getL_0, getL_1, getL_2, getL_3, getL_4, getL_5, getL_6, getL_7, getL_8, getL_9, getL_10, getL_11, getL_12, condV_t, condV_f, guardV_tt, guardV_ff, guardV_tf, guardV_ft, guardV_u, apick_t, apick_f, exV_exit, exV_ret, lookE_same, joinK_eq, seqA_n, seqA_e, seqA_r, e_add, e_sub, e_mul, e_eql, e_neq, e_lss, e_leq, e_gtr, e_geq, e_conv, e_not, e_neg, and_guard, or_guard]
    rw [← e]
  | succ d ih =>
    intro i j hd h1 h2 h3
    by_cases hij : i < j
    · have h4 : decide ((i : Int) < (j : Int)) = true := by simp; omega
      have hw1 : IntKind.wrap .i64 ((i : Int) + (j : Int)) = ((i + j : Nat) : Int) := by rw [wrap_i64 (by omega) (by omega)]; omega
      have hw2 : IntKind.wrap .u64 ((i + j : Nat) : Int) = ((i + j : Nat) : Int) := wrap_u64 (by omega) (by omega)
      have hsh : ∀ t o1 o2, abin Try.prog .shr t o1 o2 (.int .u64 ((i + j : Nat) : Int)) (.int .u64 1) = some (.int .u64 (((i + j) / 2 : Nat) : Int)) := fun t o1 o2 => by
        have := u_shr (P := Try.prog) (t := t) (ox := o1) (oy := o2) (k := .u64) (a := i + j) (b := 1) (by show i + j < 2 ^ 64; omega) (k2 := .u64)
        rw [Nat.pow_one] at this
        exact this
      have hw3 : IntKind.wrap .i64 (((i + j) / 2 : Nat) : Int) = (((i + j) / 2 : Nat) : Int) := wrap_i64 (by omega) (by omega)
      have c1 : convInt .u64 (.int .i64 ((i + j : Nat) : Int)) = some (.int .u64 ((i + j : Nat) : Int)) := by rw [e_conv, hw2]
      have c2 : convInt .i64 (.int .u64 (((i + j) / 2 : Nat) : Int)) = some (.int .i64 (((i + j) / 2 : Nat) : Int)) := by rw [e_conv, hw3]
      have hh : (i + j) / 2 < m.length := by omega
      obtain ⟨p, g1, g2⟩ := list_at h hh (k := .i64) (n := 2) rfl
      rw [pr_enc] at g2
      rw [loopL_eq]
      simp only [slices_BinarySearchFunc_api_Pair_api_Pair_string.b0, getL_0, getL_1, getL_2, getL_3, getL_4, getL_5, e_lss, h4, n_bind, condV_t, e_add, hw1, c1]
      simp only [hsh, n_bind, c2, g1, g2, op_at_1_call, hC, e_lss, cmp_lt]
      cases hc : bl m[(i + j) / 2].1 k
      · simp only [condV_f, seqA_n]
        exact ih i ((i + j) / 2) (by omega) h1 (by
          rcases Nat.lt_or_ge ((i + j) / 2) (lb m k) with g | g
          · obtain ⟨_, g3⟩ := lb_lt g
            rw [g3] at hc; cases hc
          · exact g) (by omega)
      · simp only [condV_t, n_bind, e_add, inc_i64 (show (i + j) / 2 < 140737488355328 by omega), seqA_n]
        exact ih ((i + j) / 2 + 1) j (by omega) (by
          rcases Nat.lt_or_ge ((i + j) / 2) (lb m k) with g | g
          · omega
          · rw [lb_ge hs hh g] at hc; cases hc) h2 h3
    · exact ih i j (by omega) h1 h2 h3
theorem bs_run {R : Caller} (hC : ∀ p k s, R 86 [rv p, sv k] s = some (.int .i64 (cmpL p.1 k), s)) {v : Value} {s : St} {m : List Rg} (h : listOf prC v s = some m) (hs : Srt m) (hl : m.length < 140737488355328) (k : BL) :
    slices_BinarySearchFunc_api_Pair_api_Pair_string R v (sv k) (.func (.func 86) #[] #[]) s = some (atV m k, s) := by
  obtain ⟨q, h1, rfl⟩ := bs_loop hC h hs hl k (.int .i64 ((m.length : Nat) : Int)) m.length 0 m.length (by omega) (Nat.zero_le _) (lb_le m k) (Nat.le_refl _)
  rw [show ((0 : Nat) : Int) = 0 from rfl] at h1
  unfold slices_BinarySearchFunc_api_Pair_api_Pair_string
  simp only [list_len h, n_bind, h1, exV_exit, lookE_same, getL_0, getL_1, getL_2, getL_3, getL_4, e_lss]
  have hle := lb_le m k
  by_cases hlt : lb m k < m.length
  · have h2 : decide (((lb m k : Nat) : Int) < ((m.length : Nat) : Int)) = true := by simp; omega
    obtain ⟨p, g1, g2⟩ := list_at h hlt (k := .i64) (n := 2) rfl
    rw [pr_enc] at g2
    have hf : fnd m k = (m[lb m k].1 == k) := by
      unfold fnd
      rw [List.getElem?_eq_getElem hlt]
    simp only [h2, g1, g2, n_bind, guardV_tt, op_at_1_call, hC, e_eql, cmp_0, getL_0, apick_t, retV]
    unfold atV
    rw [hf]
    rfl
  · have h2 : decide (((lb m k : Nat) : Int) < ((m.length : Nat) : Int)) = false := by simp; omega
    have hf : fnd m k = false := by
      unfold fnd
      rw [List.getElem?_eq_none (by omega)]
    simp only [h2, n_bind, guardV_ft, getL_0, apick_f, retV]
    unfold atV
    rw [hf]
    rfl

/-! ### Known -/
open Classical in
noncomputable def gAt : Sum := fun xs s => (match xs with
  | [v, w] => (listOf prC v s).bind fun m => (asBl w).bind fun k => if m.length < 140737488355328 ∧ Srt m then some (atV m k) else none
  | _ => none).map fun v => (v, s)
theorem at_eq {v : Value} {s : St} {m : List Rg} {k : BL} (h : listOf prC v s = some m) (hl : m.length < 140737488355328) (hs : Srt m) : gAt [v, sv k] s = some (atV m k, s) := by
  simp only [gAt, h, asBl_sv, Option.bind_some]
  rw [if_pos ⟨hl, hs⟩]
  rfl
open Classical in
theorem at_sum {lib : Lib} {f : FuncId} (h : ∀ v s m k, listOf prC v s = some m → m.length < 140737488355328 → Srt m → run Try.prog lib hints f [v, sv k] s = some (atV m k, s)) : SumOk Try.prog lib hints f gAt :=
  SumOk.plain (G := fun xs s => match xs with
    | [v, w] => (listOf prC v s).bind fun m => (asBl w).bind fun k => if m.length < 140737488355328 ∧ Srt m then some (atV m k) else none
    | _ => none) fun xs s u hh => by
    split at hh
    · rename_i v w
      simp only [Option.bind_eq_some_iff] at hh
      obtain ⟨m, h1, k, h2, hh⟩ := hh
      split at hh
      · rename_i hc
        cases hh
        rw [asBl_some h2]
        exact ⟨rfl, _, h v (frzS s) m k (by rw [list_frz]; exact h1) hc.1 hc.2⟩
      · cases hh
    · cases hh
theorem op_at_run {R : Caller} (hB : ∀ v s m k, listOf prC v s = some m → m.length < 140737488355328 → Srt m → R 85 [v, sv k, .func (.func 86) #[] #[]] s = some (atV m k, s)) {v : Value} {s : St} {m : List Rg} (h : listOf prC v s = some m) (hl : m.length < 140737488355328) (hs : Srt m) (k : BL) : op_at R v (sv k) s = some (atV m k, s) := by
  unfold op_at
  simp only [slices_BinarySearchFunc_api_Pair_api_Pair_string_call, hB v s m k h hl hs, x_at0, x_at1, n_bind, n_map, getL_0, getL_1, getL_2, getL_3, getL_4, getL_5, getL_6, getL_7, getL_8, getL_9, getL_10, getL_11, getL_12, condV_t, condV_f, guardV_tt, guardV_ff, guardV_tf, guardV_ft, guardV_u, apick_t, apick_f, exV_exit, exV_ret, lookE_same, joinK_eq, seqA_n, seqA_e, seqA_r, e_add, e_sub, e_mul, e_eql, e_neq, e_lss, e_leq, e_gtr, e_geq, e_conv, e_not, e_neg, and_guard, or_guard, retV]
  rfl
def endsL (m : List Rg) (r : Rg) : Nat × Nat := (lb m r.1, if r.2 == [] then m.length else lb m r.2)
def endsV (e : Nat × Nat) : Value := .tuple #[.int .i64 ((e.1 : Nat) : Int), .int .i64 ((e.2 : Nat) : Int)]
theorem x_en0 (e : Nat × Nat) : aextract 0 (endsV e) = some (.int .i64 ((e.1 : Nat) : Int)) := Eq.trans rfl (Eq.refl _)
theorem x_en1 (e : Nat × Nat) : aextract 1 (endsV e) = some (.int .i64 ((e.2 : Nat) : Int)) := Eq.trans rfl (Eq.refl _)
theorem ends_run {R : Caller} (hA : ∀ xs s, R 76 xs s = gAt xs s) {v : Value} {s : St} {m : List Rg} (h : listOf prC v s = some m) (hl : m.length < 140737488355328) (hs : Srt m) (r : Rg) : op_ends R v (rv r) s = some (endsV (endsL m r), s) := by
  unfold op_ends endsL
  simp only [box_rv, ld_0, ld_1, nil_sv, op_at_call, hA, at_eq h hl hs, x_at0, x_at1, list_len h, e_sneq, n_bind, n_map, getL_0, getL_1, getL_2, getL_3, getL_4, getL_5, getL_6, getL_7, getL_8, getL_9, getL_10, getL_11, getL_12, condV_t, condV_f, guardV_tt, guardV_ff, guardV_tf, guardV_ft, guardV_u, apick_t, apick_f, exV_exit, exV_ret, lookE_same, joinK_eq, seqA_n, seqA_e, seqA_r, e_add, e_sub, e_mul, e_eql, e_neq, e_lss, e_leq, e_gtr, e_geq, e_conv, e_not, e_neg, and_guard, or_guard]
  cases h1 : (r.2 == [])
  · simp only [h1, Bool.not_false, ld_1, op_at_call, hA, at_eq h hl hs, x_at0, x_at1, op_ends.j0, if_false, Bool.false_eq_true, n_bind, n_map, getL_0, getL_1, getL_2, getL_3, getL_4, getL_5, getL_6, getL_7, getL_8, getL_9, getL_10, getL_11, getL_12, condV_t, condV_f, guardV_tt, guardV_ff, guardV_tf, guardV_ft, guardV_u, apick_t, apick_f, exV_exit, exV_ret, lookE_same, joinK_eq, seqA_n, seqA_e, seqA_r, e_add, e_sub, e_mul, e_eql, e_neq, e_lss, e_leq, e_gtr, e_geq, e_conv, e_not, e_neg, and_guard, or_guard, retV]
    rfl
  · simp only [h1, Bool.not_true, op_ends.j0, if_true, n_bind, n_map, getL_0, getL_1, getL_2, getL_3, getL_4, getL_5, getL_6, getL_7, getL_8, getL_9, getL_10, getL_11, getL_12, condV_t, condV_f, guardV_tt, guardV_ff, guardV_tf, guardV_ft, guardV_u, apick_t, apick_f, exV_exit, exV_ret, lookE_same, joinK_eq, seqA_n, seqA_e, seqA_r, e_add, e_sub, e_mul, e_eql, e_neq, e_lss, e_leq, e_gtr, e_geq, e_conv, e_not, e_neg, and_guard, or_guard, retV]
    rfl
open Classical in
noncomputable def gEnds : Sum := fun xs s => (match xs with
  | [v, w] => (listOf prC v s).bind fun m => (asRg w).bind fun r => if m.length < 140737488355328 ∧ Srt m then some (endsV (endsL m r)) else none
  | _ => none).map fun v => (v, s)
theorem ends_eq {v : Value} {s : St} {m : List Rg} {r : Rg} (h : listOf prC v s = some m) (hl : m.length < 140737488355328) (hs : Srt m) : gEnds [v, rv r] s = some (endsV (endsL m r), s) := by
  simp only [gEnds, h, asRg_rv, Option.bind_some]
  rw [if_pos ⟨hl, hs⟩]
  rfl
open Classical in
theorem ends_sum {lib : Lib} {f : FuncId} (h : ∀ v s m r, listOf prC v s = some m → m.length < 140737488355328 → Srt m → run Try.prog lib hints f [v, rv r] s = some (endsV (endsL m r), s)) : SumOk Try.prog lib hints f gEnds :=
  SumOk.plain (G := fun xs s => match xs with
    | [v, w] => (listOf prC v s).bind fun m => (asRg w).bind fun r => if m.length < 140737488355328 ∧ Srt m then some (endsV (endsL m r)) else none
    | _ => none) fun xs s u hh => by
    split at hh
    · rename_i v w
      simp only [Option.bind_eq_some_iff] at hh
      obtain ⟨m, h1, k, h2, hh⟩ := hh
      split at hh
      · rename_i hc
        cases hh
        rw [asRg_some h2]
        exact ⟨rfl, _, h v (frzS s) m k (by rw [list_frz]; exact h1) hc.1 hc.2⟩
      · cases hh
    · cases hh

/-! ### Maps that may be are in order -/
theorem mapE_srt : ∀ {last : BL} {m : List Rg}, mapE last m = 0 → Srt m ∧ (∀ p ∈ m, bl last p.1 = true ∧ ckK p.1 = true ∧ p.2.length ≤ 16)
  | _, [], _ => ⟨List.Pairwise.nil, fun p hp => by cases hp⟩
  | last, q :: m, h => by
    rw [mapE_cons] at h
    split at h
    · cases h
    · rename_i c1
      split at h
      · cases h
      · rename_i c2
        split at h
        · cases h
        · rename_i c3
          obtain ⟨g1, g2⟩ := mapE_srt h
          have d1 : ckK q.1 = true := by simpa using c1
          have d2 : q.2.length ≤ 16 := by simpa using c2
          have d3 : bl last q.1 = true := by simpa using c3
          refine ⟨List.pairwise_cons.2 ⟨fun p hp => (g2 p hp).1, g1⟩, fun p hp => ?_⟩
          rcases List.mem_cons.1 hp with rfl | hp
          · exact ⟨d3, d1, d2⟩
          · exact ⟨bl_trans d3 (g2 p hp).1, (g2 p hp).2⟩
theorem srt_mapE : ∀ {last : BL} {m : List Rg}, Srt m → (∀ p ∈ m, bl last p.1 = true ∧ ckK p.1 = true ∧ p.2.length ≤ 16) → mapE last m = 0
  | _, [], _, _ => rfl
  | last, q :: m, h, g => by
    obtain ⟨d3, d1, d2⟩ := g q (List.mem_cons_self ..)
    have hs := List.pairwise_cons.1 h
    rw [mapE_cons, if_neg (by simp [d1]), if_neg (by simp [d2]), if_neg (by simp [d3])]
    exact srt_mapE hs.2 fun p hp => ⟨hs.1 p hp, (g p (List.mem_cons_of_mem _ hp)).2⟩

end Go.Proofs.Ythnjkakmkmoceaa.Ab

/- What single operations do to a map, and tell. -/
namespace Go.Proofs.Ythnjkakmkmoceaa.Ab
open Go

theorem room32 {q : Nat} (h : q ≤ 6500000000000) : roomA q 32 := .inr (by omega)
/-- what is told: found, value, pairs -/
def tellV (f : Bool) (v : BL) (p : Value) : Value := .agg #[.bool f, sv v, p]
theorem res_0 : (Value.agg #[(.bool false), sv [], (.slice none 0 0)]) = tellV false [] (.slice none 0 0) := rfl
theorem res_00 : (Value.agg #[(.bool false), (.string ⟨#[]⟩), (.slice none 0 0)]) = tellV false [] (.slice none 0 0) := rfl
theorem res_st (f : Bool) (v : BL) (p : Value) (h : isLeaf p = true) (g : Bool) (w : BL) (q : Value) : lstore 3 lptr (tellV f v p) (tellV g w q) = some (tellV f v p) := by
  cases p <;> first | rfl | (cases h; done)
theorem res_ld (f : Bool) (v : BL) (p : Value) : lload true 3 lptr (tellV f v p) = some (tellV f v p) := rfl
theorem lb_lt_of {m : List Rg} {k : BL} (h : fnd m k = true) : ∃ hj : lb m k < m.length, m[lb m k].1 = k := by
  unfold fnd at h
  split at h
  · rename_i p e
    obtain ⟨h1, h2⟩ := List.getElem?_eq_some_iff.1 e
    exact ⟨h1, by rw [h2]; simpa using h⟩
  · cases h
theorem op_at_call' {R : Caller} {xs : List Value} {s : St} : callV Try.prog R (.func (.func 76) #[] #[]) xs s = R 76 xs s := op_at_call
def getR (m : List Rg) (k : BL) : Bool × BL := if fnd m k then (true, (m[lb m k]?.getD ([], [])).2) else (false, [])
theorem get_run {R : Caller} (hA : ∀ xs s, R 76 xs s = gAt xs s) {v : Value} {s : St} {m : List Rg} (h : listOf prC v s = some m) (hl : m.length < 140737488355328) (hs : Srt m) (o : OpT) (hnt : noTup v = true) : op_get R v (oV o) s = some (.tuple #[v, tellV (getR m o.key).1 (getR m o.key).2 (.slice none 0 0)], s) := by
  unfold op_get getR
  simp only [o_box, o_1, op_at_call, hA, at_eq h hl hs, x_at0, x_at1, res_00, n_bind, n_map, getL_0, getL_1, getL_2, getL_3, getL_4, getL_5, getL_6, getL_7, getL_8, getL_9, getL_10, getL_11, getL_12, condV_t, condV_f, guardV_tt, guardV_ff, guardV_tf, guardV_ft, guardV_u, apick_t, apick_f, exV_exit, exV_ret, lookE_same, joinK_eq, seqA_n, seqA_e, seqA_r, e_add, e_sub, e_mul, e_eql, e_neq, e_lss, e_leq, e_gtr, e_geq, e_conv, e_not, e_neg, and_guard, or_guard]
  cases hf : fnd m o.key
  · simp only [Bool.not_false, if_false, Bool.false_eq_true, n_bind, n_map, getL_0, getL_1, getL_2, getL_3, getL_4, getL_5, getL_6, getL_7, getL_8, getL_9, getL_10, getL_11, getL_12, condV_t, condV_f, guardV_tt, guardV_ff, guardV_tf, guardV_ft, guardV_u, apick_t, apick_f, exV_exit, exV_ret, lookE_same, joinK_eq, seqA_n, seqA_e, seqA_r, e_add, e_sub, e_mul, e_eql, e_neq, e_lss, e_leq, e_gtr, e_geq, e_conv, e_not, e_neg, and_guard, or_guard, retV, List.all_cons, hnt]
    rfl
  · obtain ⟨hj, _⟩ := lb_lt_of hf
    obtain ⟨p, g1, q, g2, g3⟩ := list_field h hj (j := 1) (c := sv m[lb m o.key].2) rfl (k := .i64) (n := 2) rfl
    have hb : ∀ x : BL, abuild Try.prog 95 [(0, (.bool true)), (1, sv x)] = some (tellV true x (.slice none 0 0)) := fun x => by kernel_rfl
    have hg : (m[lb m o.key]?.getD ([], [])).2 = m[lb m o.key].2 := by rw [List.getElem?_eq_getElem hj]; rfl
    simp only [Bool.not_true, if_true, n_bind, n_map, getL_0, getL_1, getL_2, getL_3, getL_4, getL_5, getL_6, getL_7, getL_8, getL_9, getL_10, getL_11, getL_12, condV_t, condV_f, guardV_tt, guardV_ff, guardV_tf, guardV_ft, guardV_u, apick_t, apick_f, exV_exit, exV_ret, lookE_same, joinK_eq, seqA_n, seqA_e, seqA_r, e_add, e_sub, e_mul, e_eql, e_neq, e_lss, e_leq, e_gtr, e_geq, e_conv, e_not, e_neg, and_guard, or_guard, g1, g2, g3, own_id, hb, res_st _ _ (.slice none 0 0) rfl, res_ld, hg, retV, List.all_cons, hnt]
    rfl

/-! ### Insert -/
def putL (m : List Rg) (k v : BL) : List Rg := if fnd m k then m.set (lb m k) ((m[lb m k]?.getD ([], [])).1, v) else m.take (lb m k) ++ (k, v) :: m.drop (lb m k)
theorem blk_lt_keep {B : Option Nat} {s t u : St} (h : Keep B s t) (g : Keep B t u) : Keep B s u := h.trans g
theorem ins_ok {N : Nat} {s : St} {v : Value} {m : List Rg} (h : OwnC prC N s v m) (hN : N ≤ s.heap.length) (p : Rg) {i : Nat} (hi : i ≤ m.length) (hb : m.length + 1 ≤ 6500000000000) :
    ∃ v' t, gIns [v, .int .i64 (i : Int), .slice (some ⟨s.heap.length, 0, none⟩) 1 1] (s.push (.row 2 (prC.enc p) .act)) = some (v', t) ∧ OwnC prC N t v' (m.take i ++ p :: m.drop i) ∧ Keep (blkOf v) s t ∧ Fresh s v v' ∧ (∀ c, blkOf v' = some c → N ≤ c) := by
  have hk0 : Keep (blkOf v) s (s.push (.row 2 (prC.enc p) .act)) := (Ext.push _ (Nat.le_refl _) _).keep
  have h1 : OwnC prC N (s.push (.row 2 (prC.enc p) .act)) v m := by
    rcases h with h | ⟨b, cap, rest, rfl, h1, h2, h3⟩
    · exact .inl h
    · exact .inr ⟨b, cap, rest, rfl, h1, by rw [push_old (List.getElem?_eq_some_iff.1 h2).1]; exact h2, h3⟩
  have hy : listOf prC (.slice (some ⟨s.heap.length, 0, none⟩) 1 1) (s.push (.row 2 (prC.enc p) .act)) = some [p] := by
    refine (listOf_iff prC).2 ?_
    simp only [cellsOf, Nat.le_refl, if_true, readN, Ab.readRow, push_get, Option.bind_some]
    rfl
  have hroom := room32 hb
  have hlv := list_lenV h.list
  unfold gIns
  simp only
  rw [if_pos (by omega), Int.toNat_natCast, hlv]
  by_cases he : i = m.length
  · subst he
    rw [if_pos rfl]
    have hsl : (asliceV 2 v (some (.int .i64 ((m.length : Nat) : Int))) none none).isSome = true := by
      obtain ⟨u, hu, _⟩ := list_slice h.list (lo := some (.int .i64 ((m.length : Nat) : Int))) (hi := none) (mx := none) (i := m.length) (j := m.length) (by simp [abound]) rfl (Nat.le_refl _) (Nat.le_refl _) (.inl rfl) (n := 2) rfl
      rw [hu]; rfl
    rw [if_pos ⟨hsl, by simp [lenV], by simp [lenV]⟩]
    obtain ⟨v', t, g1, g2, g3, g4, g5⟩ := ownC_push (w := 32) h1 (by rw [push_len]; omega) (by decide) hy hroom (n := 2) rfl
    rw [g1]
    refine ⟨v', t, ?_, ?_, hk0.trans g3, ?_, g5⟩
    · simp only [Option.bind_some, retV, List.all_cons, g2.notup]
      rfl
    · rw [List.take_length, List.drop_length]
      exact g2
    · rcases g4 with g4 | g4
      · exact .inl g4
      · exact .inr fun c hc => by have := g4 c hc; rw [push_len] at this; omega
  · rw [if_neg (by simp; omega)]
    have hlt : i < m.length := by omega
    rcases h1 with ⟨_, rfl⟩ | ⟨b, cap, rest, rfl, e1, e2, e3, e4⟩
    · simp at hlt
    have hbl : b < s.heap.length := by
      rcases h with ⟨h0, _⟩ | ⟨b', cap', rest', h0, _, h5, _⟩
      · cases h0
      · cases h0; exact (List.getElem?_eq_some_iff.1 h5).1
    have hle : m.length ≤ cap := OwnC.cap_le (N := N) (s := s) (b := b) (len := m.length) e3
    have hel : (encL prC m).length = m.length * 2 := encL_len prC m
    unfold gInsMid
    simp only [e2, push_get]
    rw [if_pos (by
      refine ⟨?_, ?_, by omega, hlt, hle, by show m.length * 2 ≤ _; rw [List.length_append]; omega, by decide, Nat.le_refl 2, by decide, hroom⟩ <;> first | trivial | rfl)]
    have htk : (encL prC m ++ rest).take (i * 2) = encL prC (m.take i) := by
      rw [List.take_append_of_le_length (by omega)]
      exact encL_take prC m i
    have hdr : ((encL prC m ++ rest).take (m.length * 2)).drop (i * 2) = encL prC (m.drop i) := by
      rw [← hel, List.take_left]
      exact encL_drop prC m i
    have hnew : ((prC.enc p).drop 0).take (1 * 2) = encL prC [p] := rfl
    rw [htk, hdr, hnew]
    have hlen2 : (s.push (.row 2 (prC.enc p) .act)).heap.length = ((s.push (.row 2 (prC.enc p) .act)).putB b (.row 2 (encL prC m ++ rest) .dead)).heap.length := by simp [St.putB]
    refine ⟨_, _, rfl, .inr ⟨(s.push (.row 2 (prC.enc p) .act)).heap.length, m.length + 1, [], ?_, ?_, ?_, ?_, rfl⟩, ?_, .inr fun c hc => ?_, fun c hc => ?_⟩
    · congr 1
      simp
      omega
    · rw [push_len]; omega
    · have : encL prC (m.take i) ++ encL prC [p] ++ encL prC (m.drop i) = encL prC (m.take i ++ p :: m.drop i) := by
        rw [List.append_assoc, encL_append]; rfl
      rw [List.append_nil, this, hlen2]
      exact push_get
    · rw [List.append_nil, encL_len]
      congr 1
      simp
      omega
    · exact hk0.trans (putB_keep.trans (Ext.push _ (Nat.le_refl _) _).keep)
    · have hpl : (s.push (.row 2 (prC.enc p) .act)).heap.length = s.heap.length + 1 := push_len
      cases hc
      show s.heap.length ≤ (s.push (.row 2 (prC.enc p) .act)).heap.length
      omega
    · have hpl : (s.push (.row 2 (prC.enc p) .act)).heap.length = s.heap.length + 1 := push_len
      cases hc
      show N ≤ (s.push (.row 2 (prC.enc p) .act)).heap.length
      omega
theorem pr_build (k v : BL) : abuild Try.prog 75 [(0, sv k), (1, sv v)] = some (rv (k, v)) := by kernel_rfl
theorem pr_one (p : Rg) (s : St) : abuildSl 2 [(.string ⟨#[]⟩), (.string ⟨#[]⟩)] 1 [(0, rv p)] s = some (.slice (some ⟨s.heap.length, 0, none⟩) 1 1, s.push (.row 2 (prC.enc p) .act)) := by
  obtain ⟨a, b⟩ := p
  rfl
theorem put_run {R : Caller} (hA : ∀ xs s, R 76 xs s = gAt xs s) (hI : ∀ xs s, R 77 xs s = gIns xs s) {N : Nat} {v : Value} {s : St} {m : List Rg} (h : OwnC prC N s v m) (hN : N ≤ s.heap.length) (hl : m.length + 1 ≤ 6500000000000) (hs : Srt m) (o : OpT) :
    ∃ v' t, op_put R v (oV o) s = some (.tuple #[v', tellV false [] (.slice none 0 0)], t) ∧ OwnC prC N t v' (putL m o.key o.val) ∧ Keep (blkOf v) s t ∧ Fresh s v v' ∧ (∀ c, blkOf v' = some c → N ≤ c) := by
  unfold op_put putL
  simp only [o_box, o_1, o_2, op_at_call, hA, at_eq h.list (by omega) hs, x_at0, x_at1, res_00, n_bind, n_map, getL_0, getL_1, getL_2, getL_3, getL_4, getL_5, getL_6, getL_7, getL_8, getL_9, getL_10, getL_11, getL_12, condV_t, condV_f, guardV_tt, guardV_ff, guardV_tf, guardV_ft, guardV_u, apick_t, apick_f, exV_exit, exV_ret, lookE_same, joinK_eq, seqA_n, seqA_e, seqA_r, e_add, e_sub, e_mul, e_eql, e_neq, e_lss, e_leq, e_gtr, e_geq, e_conv, e_not, e_neg, and_guard, or_guard]
  cases hf : fnd m o.key
  · obtain ⟨v', t, g1, g2, g3, g4, g5⟩ := ins_ok h hN (o.key, o.val) (lb_le m o.key) hl
    refine ⟨v', t, ?_, g2, g3, g4, g5⟩
    simp only [Bool.not_false, if_false, Bool.false_eq_true, n_bind, n_map, getL_0, getL_1, getL_2, getL_3, getL_4, getL_5, getL_6, getL_7, getL_8, getL_9, getL_10, getL_11, getL_12, condV_t, condV_f, guardV_tt, guardV_ff, guardV_tf, guardV_ft, guardV_u, apick_t, apick_f, exV_exit, exV_ret, lookE_same, joinK_eq, seqA_n, seqA_e, seqA_r, e_add, e_sub, e_mul, e_eql, e_neq, e_lss, e_leq, e_gtr, e_geq, e_conv, e_not, e_neg, and_guard, or_guard, o_1, o_2, pr_build, pr_one, slices_Insert_api_Pair_api_Pair_call, hI, g1, retV, List.all_cons, g2.notup]
    rfl
  · obtain ⟨hj, hk⟩ := lb_lt_of hf
    have hg : (m[lb m o.key]?.getD ([], [])).1 = m[lb m o.key].1 := by rw [List.getElem?_eq_getElem hj]; rfl
    obtain ⟨p, q, t, g1, g2, g3, g4, g5⟩ := ownC_set h hj (k := 1) (a := (m[lb m o.key].1, o.val)) (x := sv o.val) (by decide) rfl rfl rfl (kd := .i64) (n := 2) rfl
    refine ⟨v, t, ?_, by rw [if_pos rfl, hg]; exact g4, g5, .inl rfl, fun c hc => (h.blk c hc).1⟩
    simp only [Bool.not_true, n_bind, n_map, getL_0, getL_1, getL_2, getL_3, getL_4, getL_5, getL_6, getL_7, getL_8, getL_9, getL_10, getL_11, getL_12, condV_t, condV_f, guardV_tt, guardV_ff, guardV_tf, guardV_ft, guardV_u, apick_t, apick_f, exV_exit, exV_ret, lookE_same, joinK_eq, seqA_n, seqA_e, seqA_r, e_add, e_sub, e_mul, e_eql, e_neq, e_lss, e_leq, e_gtr, e_geq, e_conv, e_not, e_neg, and_guard, or_guard, o_2, g1, g2, g3, retV, List.all_cons, h.notup]
    rfl
theorem Delete_run {R : Caller} {N : Nat} {v : Value} {s : St} {m : List Rg} (h : OwnC prC N s v m) (hl : m.length ≤ 6500000000000) {i j : Nat} (hij : i ≤ j) (hj : j ≤ m.length) :
    ∃ v' t, slices_Delete_api_Pair_api_Pair R v (.int .i64 (i : Int)) (.int .i64 (j : Int)) s = some (v', t) ∧ OwnC prC N t v' (m.take i ++ m.drop j) ∧ Keep (blkOf v) s t ∧ blkOf v' = blkOf v := by
  have hsl : ∃ u, asliceV 2 v (some (.int .i64 (i : Int))) (some (.int .i64 (j : Int))) (some (.int .i64 ((m.length : Nat) : Int))) = some u := by
    rcases h with ⟨rfl, rfl⟩ | ⟨b, cap, rest, rfl, e1, e2, e3, e4⟩
    · simp only [List.length_nil] at hj
      obtain rfl : j = 0 := by omega
      obtain rfl : i = 0 := by omega
      exact ⟨_, rfl⟩
    · have hle : m.length ≤ cap := OwnC.cap_le (N := N) (s := s) (b := b) (len := m.length) e3
      simp only [asliceV, asliceSl, abound, Int.toNat_natCast, Option.isNone_some, Option.isSome_some, Bool.or_true, if_true, Option.bind_some]
      rw [if_pos (by omega), if_pos (by omega), if_pos (by omega)]
      simp only [Option.bind_some]
      rw [if_pos (by omega)]
      exact ⟨_, rfl⟩
  obtain ⟨u, hu⟩ := hsl
  unfold slices_Delete_api_Pair_api_Pair
  simp only [list_len h.list, hu, n_bind, e_eql]
  by_cases he : i = j
  · subst he
    have h1 : ((i : Int) == (i : Int)) = true := beq_self_eq_true _
    refine ⟨v, s, ?_, by rw [List.take_append_drop]; exact h, .refl _ _, rfl⟩
    simp only [h1, condV_t, retV, List.all_cons, h.notup]
    rfl
  · have h1 : ((i : Int) == (j : Int)) = false := by rw [beq_eq_false_iff_ne]; omega
    obtain ⟨v4, v5, v6, v8, s2, t, g1, g2, g3, g4, g5, g6, g7, g8, g9, g10⟩ := ownC_del (w := 32) h (show i < j by omega) hj (by decide) (room32 hl) (z := [(.string ⟨#[]⟩), (.string ⟨#[]⟩)]) rfl rfl (n := 2) rfl
    refine ⟨v6, t, ?_, g8, g9, g10⟩
    simp only [h1, condV_f, n_bind, g1, g2, g3, own_ok g4, g5, g6, g7, retV, List.all_cons, g8.notup]
    rfl

end Go.Proofs.Ythnjkakmkmoceaa.Ab

/- What single operations do to a map, and tell, further. -/
namespace Go.Proofs.Ythnjkakmkmoceaa.Ab
open Go

theorem lb_mono {a b : BL} (h : bl a b = true) : ∀ (m : List Rg), lb m a ≤ lb m b
  | [] => Nat.le_refl _
  | p :: m => by
    unfold lb
    rw [List.takeWhile_cons, List.takeWhile_cons]
    by_cases c : bl p.1 a = true
    · rw [if_pos c, if_pos (bl_trans c h)]
      have := lb_mono h m
      unfold lb at this
      simp only [List.length_cons]
      omega
    · rw [if_neg c]
      simp
theorem ends_le {m : List Rg} {r : Rg} (h : ckR r = true) : (endsL m r).1 ≤ (endsL m r).2 ∧ (endsL m r).2 ≤ m.length := by
  unfold endsL
  have h1 := ckR_lt' h
  by_cases h2 : r.2 = []
  · simp only [h2, beq_self_eq_true, if_true]
    exact ⟨lb_le _ _, Nat.le_refl _⟩
  · have h3 : (r.2 == []) = false := by simp [h2]
    rw [h3] at h1
    simp only [Bool.false_or] at h1
    simp only [h3, if_false, Bool.false_eq_true]
    exact ⟨lb_mono h1 m, lb_le _ _⟩
where
  ckR_lt' {r : Rg} (h : ckR r = true) : (r.2 == [] || bl r.1 r.2) = true := by
    unfold ckR at h
    simp only [Bool.and_eq_true] at h
    exact h.2
def delL (m : List Rg) (k : BL) : List Rg := if fnd m k then m.take (lb m k) ++ m.drop (lb m k + 1) else m
def clearL (m : List Rg) (r : Rg) : List Rg := m.take (endsL m r).1 ++ m.drop (endsL m r).2
def scanL (m : List Rg) (r : Rg) (most : Nat) : List Rg := (m.drop (endsL m r).1).take (min (endsL m r).2 ((endsL m r).1 + most) - (endsL m r).1)
theorem del_run {R : Caller} (hA : ∀ xs s, R 76 xs s = gAt xs s) (hD : ∀ a b c s r, slices_Delete_api_Pair_api_Pair R a b c s = some r → R 78 [a, b, c] s = some r) {N : Nat} {v : Value} {s : St} {m : List Rg} (h : OwnC prC N s v m) (hN : N ≤ s.heap.length) (hl : m.length ≤ 6500000000000) (hs : Srt m) (o : OpT) :
    ∃ v' t, op_del R v (oV o) s = some (.tuple #[v', tellV false [] (.slice none 0 0)], t) ∧ OwnC prC N t v' (delL m o.key) ∧ Keep (blkOf v) s t ∧ blkOf v' = blkOf v := by
  unfold op_del delL
  simp only [o_box, o_1, op_at_call, hA, at_eq h.list (by omega) hs, x_at0, x_at1, res_00, n_bind, n_map, getL_0, getL_1, getL_2, getL_3, getL_4, getL_5, getL_6, getL_7, getL_8, getL_9, getL_10, getL_11, getL_12, condV_t, condV_f, guardV_tt, guardV_ff, guardV_tf, guardV_ft, guardV_u, apick_t, apick_f, exV_exit, exV_ret, lookE_same, joinK_eq, seqA_n, seqA_e, seqA_r, e_add, e_sub, e_mul, e_eql, e_neq, e_lss, e_leq, e_gtr, e_geq, e_conv, e_not, e_neg, and_guard, or_guard]
  cases hf : fnd m o.key
  · refine ⟨v, s, ?_, h, .refl _ _, rfl⟩
    simp only [n_bind, n_map, getL_0, getL_1, getL_2, getL_3, getL_4, getL_5, getL_6, getL_7, getL_8, getL_9, getL_10, getL_11, getL_12, condV_t, condV_f, guardV_tt, guardV_ff, guardV_tf, guardV_ft, guardV_u, apick_t, apick_f, exV_exit, exV_ret, lookE_same, joinK_eq, seqA_n, seqA_e, seqA_r, e_add, e_sub, e_mul, e_eql, e_neq, e_lss, e_leq, e_gtr, e_geq, e_conv, e_not, e_neg, and_guard, or_guard, op_del.j0, res_00, res_st _ _ (.slice none 0 0) rfl, res_ld, retV, List.all_cons, h.notup]
    rfl
  · obtain ⟨hj, _⟩ := lb_lt_of hf
    obtain ⟨v', t, g1, g2, g3, g4⟩ := Delete_run (R := R) h hl (i := lb m o.key) (j := lb m o.key + 1) (by omega) hj
    refine ⟨v', t, ?_, by rw [if_pos rfl]; exact g2, g3, g4⟩
    simp only [n_bind, n_map, getL_0, getL_1, getL_2, getL_3, getL_4, getL_5, getL_6, getL_7, getL_8, getL_9, getL_10, getL_11, getL_12, condV_t, condV_f, guardV_tt, guardV_ff, guardV_tf, guardV_ft, guardV_u, apick_t, apick_f, exV_exit, exV_ret, lookE_same, joinK_eq, seqA_n, seqA_e, seqA_r, e_add, e_sub, e_mul, e_eql, e_neq, e_lss, e_leq, e_gtr, e_geq, e_conv, e_not, e_neg, and_guard, or_guard, inc_i64 (show lb m o.key < 140737488355328 by omega), slices_Delete_api_Pair_api_Pair_call, hD _ _ _ _ _ g1, op_del.j0, res_00, res_st _ _ (.slice none 0 0) rfl, res_ld, retV, List.all_cons, g2.notup]
    rfl
theorem clear_run {R : Caller} (hO : ∀ o s, R 48 [oV o] s = some (rv (o.lo, o.hi), s)) (hE : ∀ xs s, R 79 xs s = gEnds xs s) (hD : ∀ a b c s r, slices_Delete_api_Pair_api_Pair R a b c s = some r → R 78 [a, b, c] s = some r) {N : Nat} {v : Value} {s : St} {m : List Rg} (h : OwnC prC N s v m) (hN : N ≤ s.heap.length) (hl : m.length ≤ 6500000000000) (hs : Srt m) (o : OpT) (hr : ckR (o.lo, o.hi) = true) :
    ∃ v' t, op_clear R v (oV o) s = some (.tuple #[v', tellV false [] (.slice none 0 0)], t) ∧ OwnC prC N t v' (clearL m (o.lo, o.hi)) ∧ Keep (blkOf v) s t ∧ blkOf v' = blkOf v := by
  obtain ⟨e1, e2⟩ := ends_le (m := m) hr
  obtain ⟨v', t, g1, g2, g3, g4⟩ := Delete_run (R := R) h hl e1 e2
  refine ⟨v', t, ?_, g2, g3, g4⟩
  unfold op_clear
  simp only [o_box, o_all, op_of_call, hO, op_ends_call, hE, ends_eq h.list (by omega) hs, x_en0, x_en1, slices_Delete_api_Pair_api_Pair_call, hD _ _ _ _ _ g1, res_00, n_bind, n_map, getL_0, getL_1, getL_2, getL_3, getL_4, getL_5, getL_6, getL_7, getL_8, getL_9, getL_10, getL_11, getL_12, condV_t, condV_f, guardV_tt, guardV_ff, guardV_tf, guardV_ft, guardV_u, apick_t, apick_f, exV_exit, exV_ret, lookE_same, joinK_eq, seqA_n, seqA_e, seqA_r, e_add, e_sub, e_mul, e_eql, e_neq, e_lss, e_leq, e_gtr, e_geq, e_conv, e_not, e_neg, and_guard, or_guard, retV, List.all_cons, g2.notup]
  rfl
theorem pr_nil {o1 o2 : Operand} : abin Try.prog .eql 29 o1 o2 (.slice none 0 0) (.slice none 0 0) = some (.bool true) := by
  unfold abin
  rw [Try.underlying29]
  rfl
theorem pr_some {o1 o2 : Operand} {a : Addr} {len cap : Nat} : abin Try.prog .eql 29 o1 o2 (.slice (some a) len cap) (.slice none 0 0) = some (.bool false) := by
  unfold abin
  rw [Try.underlying29]
  rfl
theorem clone_run {R : Caller} {v : Value} {s : St} {m : List Rg} (h : listOf prC v s = some m) (hl : m.length ≤ 6500000000000) :
    ∃ v' t, slices_Clone_api_Pair_api_Pair R v s = some (v', t) ∧ OwnC prC s.heap.length t v' m ∧ Ext s.heap.length s t := by
  unfold slices_Clone_api_Pair_api_Pair
  obtain ⟨a, cap, rfl⟩ := list_shape h
  cases a with
  | none =>
    have hn := (listOf_iff prC).1 h
    unfold cellsOf at hn
    split at hn
    · rename_i e
      injection e with _ e1 e2
      have hm : m = [] := List.eq_nil_of_length_eq_zero e1
      subst hm
      subst e2
      refine ⟨.slice none 0 0, s, ?_, .inl ⟨rfl, rfl⟩, .refl _ _⟩
      simp only [List.length_nil, pr_nil, n_bind, n_map, getL_0, getL_1, getL_2, getL_3, getL_4, getL_5, getL_6, getL_7, getL_8, getL_9, getL_10, getL_11, getL_12, condV_t, condV_f, guardV_tt, guardV_ff, guardV_tf, guardV_ft, guardV_u, apick_t, apick_f, exV_exit, exV_ret, lookE_same, joinK_eq, seqA_n, seqA_e, seqA_r, e_add, e_sub, e_mul, e_eql, e_neq, e_lss, e_leq, e_gtr, e_geq, e_conv, e_not, e_neg, and_guard, or_guard, retV]
      rfl
    · rename_i e; injection e with e _ _; cases e
    · cases hn
  | some a =>
    have e1 : abuildSl 2 [(.string ⟨#[]⟩), (.string ⟨#[]⟩)] 0 [] s = some (.slice (some ⟨s.heap.length, 0, none⟩) 0 0, s.push (.row 2 [] .act)) := rfl
    have hx : Ext s.heap.length s (s.push (.row 2 [] .act)) := .push _ (Nat.le_refl _) _
    have h2 := list_ext hx h
    have he : elemsOf 2 (.slice (some a) m.length cap) (s.push (.row 2 [] .act)) = some (encL prC m) := list_elems h2
    simp only [pr_some, e1, n_bind, n_map, getL_0, getL_1, getL_2, getL_3, getL_4, getL_5, getL_6, getL_7, getL_8, getL_9, getL_10, getL_11, getL_12, condV_t, condV_f, guardV_tt, guardV_ff, guardV_tf, guardV_ft, guardV_u, apick_t, apick_f, exV_exit, exV_ret, lookE_same, joinK_eq, seqA_n, seqA_e, seqA_r, e_add, e_sub, e_mul, e_eql, e_neq, e_lss, e_leq, e_gtr, e_geq, e_conv, e_not, e_neg, and_guard, or_guard]
    unfold aappend
    rw [if_pos (by decide), list_lenV h2, he]
    simp only [Option.bind_some, Nat.zero_add]
    rw [if_pos (room32 hl)]
    by_cases hm : m.length = 0
    · have : m = [] := List.eq_nil_of_length_eq_zero hm
      subst this
      refine ⟨.slice (some ⟨s.heap.length, 0, none⟩) 0 0, s.push (.row 2 [] .act), rfl, .inr ⟨s.heap.length, 0, [], rfl, Nat.le_refl _, push_get, rfl, rfl⟩, hx⟩
    · rw [if_neg (by omega), push_get]
      simp only
      rw [if_pos ⟨trivial, trivial, rfl⟩]
      have hlen2 : (s.push (.row 2 [] .act)).heap.length = ((s.push (.row 2 [] .act)).putB s.heap.length (.row 2 [] .dead)).heap.length := by simp [St.putB]
      have hpl : (s.push (.row 2 [] .act)).heap.length = s.heap.length + 1 := push_len
      refine ⟨.slice (some ⟨(s.push (.row 2 [] .act)).heap.length, 0, none⟩) m.length m.length, ((s.push (.row 2 [] .act)).putB s.heap.length (.row 2 [] .dead)).push (.row 2 (encL prC m) .act), ?_, .inr ⟨(s.push (.row 2 [] .act)).heap.length, m.length, [], rfl, by omega, ?_, ?_, rfl⟩, ?_⟩
      · simp only [Option.bind_some, retV, List.nil_append]
        rfl
      · rw [List.append_nil, hlen2]
        exact push_get
      · rw [List.append_nil, encL_len]
      · refine ⟨by simp [St.putB, St.push], fun c hc => ?_⟩
        rw [push_old (by simp [St.putB, St.push]; omega)]
        simp only [St.putB]
        rw [List.getElem?_set_ne (by omega), push_old hc]
theorem scan_run {R : Caller} (hO : ∀ o s, R 48 [oV o] s = some (rv (o.lo, o.hi), s)) (hE : ∀ xs s, R 79 xs s = gEnds xs s) (hC : ∀ a s r, slices_Clone_api_Pair_api_Pair R a s = some r → R 53 [a] s = some r) {v : Value} {s : St} {m : List Rg} (h : listOf prC v s = some m) (hnt : noTup v = true) (hl : m.length ≤ 6500000000000) (hs : Srt m) (o : OpT) (hr : ckR (o.lo, o.hi) = true) {most : Nat} (hm : o.most = (most : Int)) (hm2 : most ≤ 4) :
    ∃ pv t, op_scan R v (oV o) s = some (.tuple #[v, tellV false [] pv], t) ∧ OwnC prC s.heap.length t pv (scanL m (o.lo, o.hi) most) ∧ Ext s.heap.length s t := by
  obtain ⟨e1, e2⟩ := ends_le (m := m) hr
  have hw : IntKind.wrap .i64 ((((endsL m (o.lo, o.hi)).1 : Nat) : Int) + ((most : Nat) : Int)) = (((endsL m (o.lo, o.hi)).1 + most : Nat) : Int) := by rw [wrap_i64 (by omega) (by omega)]; omega
  have hmin : amin2 (.int .i64 (((endsL m (o.lo, o.hi)).2 : Nat) : Int)) (.int .i64 (((endsL m (o.lo, o.hi)).1 + most : Nat) : Int)) = some (.int .i64 ((min (endsL m (o.lo, o.hi)).2 ((endsL m (o.lo, o.hi)).1 + most) : Nat) : Int)) := by
    unfold amin2
    by_cases c : (endsL m (o.lo, o.hi)).2 ≤ (endsL m (o.lo, o.hi)).1 + most
    · rw [Nat.min_eq_left c]
      simp
      omega
    · rw [Nat.min_eq_right (by omega)]
      simp
      omega
  obtain ⟨u, g1, g2⟩ := list_slice h (lo := some (.int .i64 (((endsL m (o.lo, o.hi)).1 : Nat) : Int))) (hi := some (.int .i64 ((min (endsL m (o.lo, o.hi)).2 ((endsL m (o.lo, o.hi)).1 + most) : Nat) : Int))) (mx := none) (i := (endsL m (o.lo, o.hi)).1) (j := min (endsL m (o.lo, o.hi)).2 ((endsL m (o.lo, o.hi)).1 + most)) (by simp [abound]) (by simp [abound]) (by omega) (by omega) (.inl rfl) (n := 2) rfl
  obtain ⟨pv, t, g3, g4, g5⟩ := clone_run (R := R) g2 (by simp; omega)
  refine ⟨pv, t, ?_, g4, g5⟩
  have hlf : isLeaf pv = true ∧ cellsV pv = [pv] := by rcases g4 with ⟨rfl, _⟩ | ⟨b, cap, rest, rfl, _⟩ <;> exact ⟨rfl, rfl⟩
  have hb : abuild Try.prog 95 [(2, pv)] = some (tellV false [] pv) := by
    rcases g4 with ⟨rfl, _⟩ | ⟨b, cap, rest, rfl, _⟩ <;> kernel_rfl
  unfold op_scan
  simp only [o_box, o_all, o_5, op_of_call, hO, op_ends_call, hE, ends_eq h (by omega) hs, x_en0, x_en1, hm, n_bind, n_map, getL_0, getL_1, getL_2, getL_3, getL_4, getL_5, getL_6, getL_7, getL_8, getL_9, getL_10, getL_11, getL_12, condV_t, condV_f, guardV_tt, guardV_ff, guardV_tf, guardV_ft, guardV_u, apick_t, apick_f, exV_exit, exV_ret, lookE_same, joinK_eq, seqA_n, seqA_e, seqA_r, e_add, e_sub, e_mul, e_eql, e_neq, e_lss, e_leq, e_gtr, e_geq, e_conv, e_not, e_neg, and_guard, or_guard, hw]
  simp only [hmin, n_bind, g1, slices_Clone_api_Pair_api_Pair_call, hC _ _ _ g3, hb, res_00, res_st _ _ pv hlf.1, res_ld, retV, List.all_cons, hnt]
  rfl

end Go.Proofs.Ythnjkakmkmoceaa.Ab
