/- Places of keys in maps. -/
import Derived.Test.YtdhadhelcpeiaaaOpLocks
set_option linter.unusedVariables false
set_option linter.unusedSimpArgs false
set_option linter.unusedSectionVars false
namespace Go.Proofs.Ytdhadhelcpeiaaa.Ab
open Go

/-- how many keys stand ahead of one -/
def lb (m : List Rg) (k : BL) : Nat := (m.takeWhile fun p => bl p.1 k).length
def Srt (m : List Rg) : Prop := m.Pairwise fun a b => bl a.1 b.1 = true
def fnd (m : List Rg) (k : BL) : Bool := match m[lb m k]? with
  | some p => p.1 == k
  | none => false
theorem lb_le (m : List Rg) (k : BL) : lb m k ≤ m.length := (List.takeWhile_sublist _).length_le
theorem lb_lt : ∀ {m : List Rg} {k : BL} {j : Nat} (h : j < lb m k), ∃ hj : j < m.length, bl m[j].1 k = true
  | [], k, j, h => by simp [lb] at h
  | p :: m, k, j, h => by
    unfold lb at h
    rw [List.takeWhile_cons] at h
    split at h
    · rename_i hp
      cases j with
      | zero => exact ⟨by simp, hp⟩
      | succ j =>
        obtain ⟨h1, h2⟩ := lb_lt (m := m) (k := k) (j := j) (by simpa [lb] using h)
        exact ⟨by simp; omega, by simpa using h2⟩
    · simp at h
theorem lb_ge : ∀ {m : List Rg} {k : BL} (hs : Srt m) {j : Nat} (hj : j < m.length) (h : lb m k ≤ j), bl m[j].1 k = false
  | [], k, _, j, hj, _ => by simp at hj
  | p :: m, k, hs, j, hj, h => by
    unfold lb at h
    rw [List.takeWhile_cons] at h
    have hs2 := List.pairwise_cons.1 hs
    split at h
    · cases j with
      | zero => simp at h
      | succ j => exact lb_ge hs2.2 (by simpa using hj) (by simpa [lb] using h)
    · rename_i hp
      have hp2 : bl p.1 k = false := by simpa using hp
      cases j with
      | zero => exact hp2
      | succ j =>
        have hj2 : j < m.length := by simpa using hj
        have h3 := hs2.1 m[j] (List.getElem_mem _)
        simp only [List.getElem_cons_succ]
        cases e : bl m[j].1 k with
        | false => rfl
        | true => rw [bl_trans h3 e] at hp2; cases hp2
theorem cmp_lt {a b : BL} : decide (cmpL a b < 0) = bl a b := by
  unfold cmpL
  by_cases h : a = b
  · subst h; simp [bl_irrefl]
  · have : (a == b) = false := by simp [h]
    rw [this]
    cases bl a b <;> rfl
theorem cmp_0 {a b : BL} : (cmpL a b == 0) = (a == b) := by
  unfold cmpL
  by_cases h : a = b
  · subst h; simp
  · have : (a == b) = false := by simp [h]
    rw [this]
    cases bl a b <;> rfl
theorem Compare_run {R : Caller} (hC : ∀ a b s, R 63 [sv a, sv b] s = some (.int .i64 (cmpL a b), s)) (a b : BL) (s : St) : strings_Compare R (sv a) (sv b) s = some (.int .i64 (cmpL a b), s) := by
  unfold strings_Compare
  simp only [internal_bytealg_CompareString_call, hC, n_bind, n_map, getL_0, getL_1, getL_2, getL_3, getL_4, getL_5, getL_6, getL_7, getL_8, getL_9, getL_10, getL_11, getL_12, condV_t, condV_f, guardV_tt, guardV_ff, guardV_tf, guardV_ft, guardV_u, apick_t, apick_f, exV_exit, exV_ret, lookE_same, joinK_eq, seqA_n, seqA_e, seqA_r, e_add, e_sub, e_mul, e_eql, e_neq, e_lss, e_leq, e_gtr, e_geq, e_conv, e_not, e_neg, and_guard, or_guard, retV]
  rfl
theorem at1_run {R : Caller} (hC : ∀ a b s, R 60 [sv a, sv b] s = some (.int .i64 (cmpL a b), s)) (p : Rg) (k : BL) (s : St) : op_at_1 R (rv p) (sv k) s = some (.int .i64 (cmpL p.1 k), s) := by
  unfold op_at_1
  simp only [box_rv, ld_0, strings_Compare_call, hC, n_bind, n_map, getL_0, getL_1, getL_2, getL_3, getL_4, getL_5, getL_6, getL_7, getL_8, getL_9, getL_10, getL_11, getL_12, condV_t, condV_f, guardV_tt, guardV_ff, guardV_tf, guardV_ft, guardV_u, apick_t, apick_f, exV_exit, exV_ret, lookE_same, joinK_eq, seqA_n, seqA_e, seqA_r, e_add, e_sub, e_mul, e_eql, e_neq, e_lss, e_leq, e_gtr, e_geq, e_conv, e_not, e_neg, and_guard, or_guard, retV]
  rfl
def atV (m : List Rg) (k : BL) : Value := .tuple #[.int .i64 ((lb m k : Nat) : Int), .bool (fnd m k)]
theorem x_at0 (m : List Rg) (k : BL) : aextract 0 (atV m k) = some (.int .i64 ((lb m k : Nat) : Int)) := Eq.trans rfl (Eq.refl _)
theorem x_at1 (m : List Rg) (k : BL) : aextract 1 (atV m k) = some (.bool (fnd m k)) := Eq.trans rfl (Eq.refl _)
theorem bs_loop {R : Caller} (hC : ∀ p k s, R 59 [rv p, sv k] s = some (.int .i64 (cmpL p.1 k), s)) {v : Value} {s : St} {m : List Rg} (h : listOf prC v s = some m) (hs : Srt m) (hl : m.length < 140737488355328) (k : BL) (x3 : Value) : ∀ (d i j : Nat), j - i ≤ d → i ≤ lb m k → lb m k ≤ j → j ≤ m.length →
    ∃ q, loopL (slices_BinarySearchFunc_api_Pair_api_Pair_string.b0 R) [v, sv k, .func (.func 59) #[] #[], x3, .int .i64 (i : Int), .int .i64 (j : Int)] s = some (.exit 0, [v, sv k, .func (.func 59) #[] #[], x3, .int .i64 ((lb m k : Nat) : Int)], q) ∧ q = s := by
  intro d
  induction d with
  | zero =>
    intro i j hd h1 h2 h3
    have e : i = lb m k := by omega
    have h4 : decide ((i : Int) < (j : Int)) = false := by simp; omega
    refine ⟨s, ?_, rfl⟩
    rw [loopL_eq]
    simp only [slices_BinarySearchFunc_api_Pair_api_Pair_string.b0, h4, n_bind, n_map, getL_0, getL_1, getL_2, getL_3, getL_4, getL_5, getL_6, getL_7, getL_8, getL_9, getL_10, getL_11, getL_12, condV_t, condV_f, guardV_tt, guardV_ff, guardV_tf, guardV_ft, guardV_u, apick_t, apick_f, exV_exit, exV_ret, lookE_same, joinK_eq, seqA_n, seqA_e, seqA_r, e_add, e_sub, e_mul, e_eql, e_neq, e_lss, e_leq, e_gtr, e_geq, e_conv, e_not, e_neg, and_guard, or_guard]
    rw [← e]
  | succ d ih =>
    intro i j hd h1 h2 h3
    by_cases hij : i < j
    · have h4 : decide ((i : Int) < (j : Int)) = true := by simp; omega
      have hw1 : IntKind.wrap .i64 ((i : Int) + (j : Int)) = ((i + j : Nat) : Int) := by rw [wrap_i64 (by omega) (by omega)]; omega
      have hw2 : IntKind.wrap .u64 ((i + j : Nat) : Int) = ((i + j : Nat) : Int) := wrap_u64 (by omega) (by omega)
      have hsh : ∀ t o1 o2, abin Try.prog .shr t o1 o2 (.int .u64 ((i + j : Nat) : Int)) (.int .u64 1) = some (.int .u64 (((i + j) / 2 : Nat) : Int)) := fun t o1 o2 => by
        have := u_shr (P := Try.prog) (t := t) (ox := o1) (oy := o2) (k := .u64) (a := i + j) (b := 1) (by show i + j < 2 ^ 64; omega) (k2 := .u64)
        rw [Nat.pow_one] at this
        exact this
      have hw3 : IntKind.wrap .i64 (((i + j) / 2 : Nat) : Int) = (((i + j) / 2 : Nat) : Int) := wrap_i64 (by omega) (by omega)
      have c1 : convInt .u64 (.int .i64 ((i + j : Nat) : Int)) = some (.int .u64 ((i + j : Nat) : Int)) := by rw [e_conv, hw2]
      have c2 : convInt .i64 (.int .u64 (((i + j) / 2 : Nat) : Int)) = some (.int .i64 (((i + j) / 2 : Nat) : Int)) := by rw [e_conv, hw3]
      have hh : (i + j) / 2 < m.length := by omega
      obtain ⟨p, g1, g2⟩ := list_at h hh (k := .i64) (n := 2) rfl
      rw [pr_enc] at g2
      rw [loopL_eq]
      simp only [slices_BinarySearchFunc_api_Pair_api_Pair_string.b0, getL_0, getL_1, getL_2, getL_3, getL_4, getL_5, e_lss, h4, n_bind, condV_t, e_add, hw1, c1]
      simp only [hsh, n_bind, c2, g1, g2, op_at_1_call, hC, e_lss, cmp_lt]
      cases hc : bl m[(i + j) / 2].1 k
      · simp only [condV_f, seqA_n]
        exact ih i ((i + j) / 2) (by omega) h1 (by
          rcases Nat.lt_or_ge ((i + j) / 2) (lb m k) with g | g
          · obtain ⟨_, g3⟩ := lb_lt g
            rw [g3] at hc; cases hc
          · exact g) (by omega)
      · simp only [condV_t, n_bind, e_add, inc_i64 (show (i + j) / 2 < 140737488355328 by omega), seqA_n]
        exact ih ((i + j) / 2 + 1) j (by omega) (by
          rcases Nat.lt_or_ge ((i + j) / 2) (lb m k) with g | g
          · omega
          · rw [lb_ge hs hh g] at hc; cases hc) h2 h3
    · exact ih i j (by omega) h1 h2 h3
theorem bs_run {R : Caller} (hC : ∀ p k s, R 59 [rv p, sv k] s = some (.int .i64 (cmpL p.1 k), s)) {v : Value} {s : St} {m : List Rg} (h : listOf prC v s = some m) (hs : Srt m) (hl : m.length < 140737488355328) (k : BL) :
    slices_BinarySearchFunc_api_Pair_api_Pair_string R v (sv k) (.func (.func 59) #[] #[]) s = some (atV m k, s) := by
  obtain ⟨q, h1, rfl⟩ := bs_loop hC h hs hl k (.int .i64 ((m.length : Nat) : Int)) m.length 0 m.length (by omega) (Nat.zero_le _) (lb_le m k) (Nat.le_refl _)
  rw [show ((0 : Nat) : Int) = 0 from rfl] at h1
  unfold slices_BinarySearchFunc_api_Pair_api_Pair_string
  simp only [list_len h, n_bind, h1, exV_exit, lookE_same, getL_0, getL_1, getL_2, getL_3, getL_4, e_lss]
  have hle := lb_le m k
  by_cases hlt : lb m k < m.length
  · have h2 : decide (((lb m k : Nat) : Int) < ((m.length : Nat) : Int)) = true := by simp; omega
    obtain ⟨p, g1, g2⟩ := list_at h hlt (k := .i64) (n := 2) rfl
    rw [pr_enc] at g2
    have hf : fnd m k = (m[lb m k].1 == k) := by
      unfold fnd
      rw [List.getElem?_eq_getElem hlt]
    simp only [h2, g1, g2, n_bind, guardV_tt, op_at_1_call, hC, e_eql, cmp_0, getL_0, apick_t, retV]
    unfold atV
    rw [hf]
    rfl
  · have h2 : decide (((lb m k : Nat) : Int) < ((m.length : Nat) : Int)) = false := by simp; omega
    have hf : fnd m k = false := by
      unfold fnd
      rw [List.getElem?_eq_none (by omega)]
    simp only [h2, n_bind, guardV_ft, getL_0, apick_f, retV]
    unfold atV
    rw [hf]
    rfl

/-! ### Known -/
open Classical in
noncomputable def gAt : Sum := fun xs s => (match xs with
  | [v, w] => (listOf prC v s).bind fun m => (asBl w).bind fun k => if m.length < 140737488355328 ∧ Srt m then some (atV m k) else none
  | _ => none).map fun v => (v, s)
theorem at_eq {v : Value} {s : St} {m : List Rg} {k : BL} (h : listOf prC v s = some m) (hl : m.length < 140737488355328) (hs : Srt m) : gAt [v, sv k] s = some (atV m k, s) := by
  simp only [gAt, h, asBl_sv, Option.bind_some]
  rw [if_pos ⟨hl, hs⟩]
  rfl
open Classical in
theorem at_sum {lib : Lib} {f : FuncId} (h : ∀ v s m k, listOf prC v s = some m → m.length < 140737488355328 → Srt m → run Try.prog lib hints f [v, sv k] s = some (atV m k, s)) : SumOk Try.prog lib hints f gAt :=
  SumOk.plain (G := fun xs s => match xs with
    | [v, w] => (listOf prC v s).bind fun m => (asBl w).bind fun k => if m.length < 140737488355328 ∧ Srt m then some (atV m k) else none
    | _ => none) fun xs s u hh => by
    split at hh
    · rename_i v w
      simp only [Option.bind_eq_some_iff] at hh
      obtain ⟨m, h1, k, h2, hh⟩ := hh
      split at hh
      · rename_i hc
        cases hh
        rw [asBl_some h2]
        exact ⟨rfl, _, h v (frzS s) m k (by rw [list_frz]; exact h1) hc.1 hc.2⟩
      · cases hh
    · cases hh
theorem op_at_run {R : Caller} (hB : ∀ v s m k, listOf prC v s = some m → m.length < 140737488355328 → Srt m → R 58 [v, sv k, .func (.func 59) #[] #[]] s = some (atV m k, s)) {v : Value} {s : St} {m : List Rg} (h : listOf prC v s = some m) (hl : m.length < 140737488355328) (hs : Srt m) (k : BL) : op_at R v (sv k) s = some (atV m k, s) := by
  unfold op_at
  simp only [slices_BinarySearchFunc_api_Pair_api_Pair_string_call, hB v s m k h hl hs, x_at0, x_at1, n_bind, n_map, getL_0, getL_1, getL_2, getL_3, getL_4, getL_5, getL_6, getL_7, getL_8, getL_9, getL_10, getL_11, getL_12, condV_t, condV_f, guardV_tt, guardV_ff, guardV_tf, guardV_ft, guardV_u, apick_t, apick_f, exV_exit, exV_ret, lookE_same, joinK_eq, seqA_n, seqA_e, seqA_r, e_add, e_sub, e_mul, e_eql, e_neq, e_lss, e_leq, e_gtr, e_geq, e_conv, e_not, e_neg, and_guard, or_guard, retV]
  rfl
def endsL (m : List Rg) (r : Rg) : Nat × Nat := (lb m r.1, if r.2 == [] then m.length else lb m r.2)
def endsV (e : Nat × Nat) : Value := .tuple #[.int .i64 ((e.1 : Nat) : Int), .int .i64 ((e.2 : Nat) : Int)]
theorem x_en0 (e : Nat × Nat) : aextract 0 (endsV e) = some (.int .i64 ((e.1 : Nat) : Int)) := Eq.trans rfl (Eq.refl _)
theorem x_en1 (e : Nat × Nat) : aextract 1 (endsV e) = some (.int .i64 ((e.2 : Nat) : Int)) := Eq.trans rfl (Eq.refl _)
theorem ends_run {R : Caller} (hA : ∀ xs s, R 53 xs s = gAt xs s) {v : Value} {s : St} {m : List Rg} (h : listOf prC v s = some m) (hl : m.length < 140737488355328) (hs : Srt m) (r : Rg) : op_ends R v (rv r) s = some (endsV (endsL m r), s) := by
  unfold op_ends endsL
  simp only [box_rv, ld_0, ld_1, nil_sv, op_at_call, hA, at_eq h hl hs, x_at0, x_at1, list_len h, e_sneq, n_bind, n_map, getL_0, getL_1, getL_2, getL_3, getL_4, getL_5, getL_6, getL_7, getL_8, getL_9, getL_10, getL_11, getL_12, condV_t, condV_f, guardV_tt, guardV_ff, guardV_tf, guardV_ft, guardV_u, apick_t, apick_f, exV_exit, exV_ret, lookE_same, joinK_eq, seqA_n, seqA_e, seqA_r, e_add, e_sub, e_mul, e_eql, e_neq, e_lss, e_leq, e_gtr, e_geq, e_conv, e_not, e_neg, and_guard, or_guard]
  cases h1 : (r.2 == [])
  · simp only [h1, Bool.not_false, ld_1, op_at_call, hA, at_eq h hl hs, x_at0, x_at1, op_ends.j0, if_false, Bool.false_eq_true, n_bind, n_map, getL_0, getL_1, getL_2, getL_3, getL_4, getL_5, getL_6, getL_7, getL_8, getL_9, getL_10, getL_11, getL_12, condV_t, condV_f, guardV_tt, guardV_ff, guardV_tf, guardV_ft, guardV_u, apick_t, apick_f, exV_exit, exV_ret, lookE_same, joinK_eq, seqA_n, seqA_e, seqA_r, e_add, e_sub, e_mul, e_eql, e_neq, e_lss, e_leq, e_gtr, e_geq, e_conv, e_not, e_neg, and_guard, or_guard, retV]
    rfl
  · simp only [h1, Bool.not_true, op_ends.j0, if_true, n_bind, n_map, getL_0, getL_1, getL_2, getL_3, getL_4, getL_5, getL_6, getL_7, getL_8, getL_9, getL_10, getL_11, getL_12, condV_t, condV_f, guardV_tt, guardV_ff, guardV_tf, guardV_ft, guardV_u, apick_t, apick_f, exV_exit, exV_ret, lookE_same, joinK_eq, seqA_n, seqA_e, seqA_r, e_add, e_sub, e_mul, e_eql, e_neq, e_lss, e_leq, e_gtr, e_geq, e_conv, e_not, e_neg, and_guard, or_guard, retV]
    rfl
open Classical in
noncomputable def gEnds : Sum := fun xs s => (match xs with
  | [v, w] => (listOf prC v s).bind fun m => (asRg w).bind fun r => if m.length < 140737488355328 ∧ Srt m then some (endsV (endsL m r)) else none
  | _ => none).map fun v => (v, s)
theorem ends_eq {v : Value} {s : St} {m : List Rg} {r : Rg} (h : listOf prC v s = some m) (hl : m.length < 140737488355328) (hs : Srt m) : gEnds [v, rv r] s = some (endsV (endsL m r), s) := by
  simp only [gEnds, h, asRg_rv, Option.bind_some]
  rw [if_pos ⟨hl, hs⟩]
  rfl
open Classical in
theorem ends_sum {lib : Lib} {f : FuncId} (h : ∀ v s m r, listOf prC v s = some m → m.length < 140737488355328 → Srt m → run Try.prog lib hints f [v, rv r] s = some (endsV (endsL m r), s)) : SumOk Try.prog lib hints f gEnds :=
  SumOk.plain (G := fun xs s => match xs with
    | [v, w] => (listOf prC v s).bind fun m => (asRg w).bind fun r => if m.length < 140737488355328 ∧ Srt m then some (endsV (endsL m r)) else none
    | _ => none) fun xs s u hh => by
    split at hh
    · rename_i v w
      simp only [Option.bind_eq_some_iff] at hh
      obtain ⟨m, h1, k, h2, hh⟩ := hh
      split at hh
      · rename_i hc
        cases hh
        rw [asRg_some h2]
        exact ⟨rfl, _, h v (frzS s) m k (by rw [list_frz]; exact h1) hc.1 hc.2⟩
      · cases hh
    · cases hh

/-! ### Maps that may be are in order -/
theorem mapE_srt : ∀ {last : BL} {m : List Rg}, mapE last m = 0 → Srt m ∧ (∀ p ∈ m, bl last p.1 = true ∧ ckK p.1 = true ∧ p.2.length ≤ 16)
  | _, [], _ => ⟨List.Pairwise.nil, fun p hp => by cases hp⟩
  | last, q :: m, h => by
    rw [mapE_cons] at h
    split at h
    · cases h
    · rename_i c1
      split at h
      · cases h
      · rename_i c2
        split at h
        · cases h
        · rename_i c3
          obtain ⟨g1, g2⟩ := mapE_srt h
          have d1 : ckK q.1 = true := by simpa using c1
          have d2 : q.2.length ≤ 16 := by simpa using c2
          have d3 : bl last q.1 = true := by simpa using c3
          refine ⟨List.pairwise_cons.2 ⟨fun p hp => (g2 p hp).1, g1⟩, fun p hp => ?_⟩
          rcases List.mem_cons.1 hp with rfl | hp
          · exact ⟨d3, d1, d2⟩
          · exact ⟨bl_trans d3 (g2 p hp).1, (g2 p hp).2⟩
theorem srt_mapE : ∀ {last : BL} {m : List Rg}, Srt m → (∀ p ∈ m, bl last p.1 = true ∧ ckK p.1 = true ∧ p.2.length ≤ 16) → mapE last m = 0
  | _, [], _, _ => rfl
  | last, q :: m, h, g => by
    obtain ⟨d3, d1, d2⟩ := g q (List.mem_cons_self ..)
    have hs := List.pairwise_cons.1 h
    rw [mapE_cons, if_neg (by simp [d1]), if_neg (by simp [d2]), if_neg (by simp [d3])]
    exact srt_mapE hs.2 fun p hp => ⟨hs.1 p hp, (g p (List.mem_cons_of_mem _ hp)).2⟩

end Go.Proofs.Ytdhadhelcpeiaaa.Ab
