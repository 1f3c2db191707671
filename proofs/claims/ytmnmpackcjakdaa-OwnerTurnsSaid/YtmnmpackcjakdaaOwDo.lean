/- Owners: found, split, given. -/
import Derived.Test.YtmnmpackcjakdaaOwList
set_option linter.unusedVariables false
set_option linter.unusedSimpArgs false
set_option linter.unusedSectionVars false
namespace Go.Proofs.Ytmnmpackcjakdaa.Ab
open Go

/-! ### Owners that may be -/
theorem okF_some : ∀ {l : List Ow} {p : BL}, okF (some p) l = true → SrtO l ∧ ∀ o ∈ l, bl p o.1 = true ∧ ckK o.1 = true ∧ shOk o.2 = true
  | [], p, _ => ⟨List.Pairwise.nil, fun o h => by cases h⟩
  | o :: l, p, h => by
    simp only [okF, Bool.and_eq_true] at h
    obtain ⟨⟨h1, h2, h3⟩, h4⟩ := h
    obtain ⟨g1, g2⟩ := okF_some h4
    refine ⟨List.pairwise_cons.2 ⟨fun x hx => (g2 x hx).1, g1⟩, fun x hx => ?_⟩
    rcases List.mem_cons.1 hx with rfl | hx
    · exact ⟨h3, h2, h1⟩
    · exact ⟨bl_trans h3 (g2 x hx).1, (g2 x hx).2⟩
theorem okF_of : ∀ {l : List Ow} {p : BL}, SrtO l → (∀ o ∈ l, bl p o.1 = true ∧ ckK o.1 = true ∧ shOk o.2 = true) → okF (some p) l = true
  | [], _, _, _ => rfl
  | o :: l, p, h, g => by
    obtain ⟨g1, g2, g3⟩ := g o (List.mem_cons_self ..)
    have hs := List.pairwise_cons.1 h
    simp only [okF, g1, g2, g3, Bool.and_self, Bool.true_and]
    exact okF_of hs.2 fun x hx => ⟨hs.1 x hx, (g x (List.mem_cons_of_mem _ hx)).2⟩
structure Okay (l : List Ow) : Prop where
  len : l.length ≤ 6
  pos : 0 < l.length
  srt : SrtO l
  first : loA l 0 = []
  key : ∀ i, 0 < i → i < l.length → ckK (loA l i) = true
  sh : ∀ i (h : i < l.length), shOk l[i].2 = true
theorem okay_iff {l : List Ow} : okO l = true ↔ Okay l := by
  constructor
  · intro h
    cases l with
    | nil => cases h
    | cons o r =>
      simp only [okO, Bool.and_eq_true, decide_eq_true_eq, beq_iff_eq, okF] at h
      obtain ⟨⟨h1, h2⟩, h3, h4⟩ := h
      obtain ⟨g1, g2⟩ := okF_some h4
      refine ⟨by simp; omega, by simp, List.pairwise_cons.2 ⟨fun x hx => (g2 x hx).1, g1⟩, h2, fun i hi hl => ?_, fun i hi => ?_⟩
      · cases i with
        | zero => omega
        | succ i =>
          have hl2 : i < r.length := by simpa using hl
          rw [loA_lt hl, List.getElem_cons_succ]
          exact (g2 _ (List.getElem_mem hl2)).2.1
      · cases i with
        | zero => exact h3
        | succ i =>
          have hl2 : i < r.length := by simpa using hi
          rw [List.getElem_cons_succ]
          exact (g2 _ (List.getElem_mem hl2)).2.2
  · intro h
    cases l with
    | nil => have := h.pos; simp at this
    | cons o r =>
      have h1 := h.len
      have h2 : o.1 = [] := h.first
      have h3 : shOk o.2 = true := h.sh 0 (by simp)
      have hs := List.pairwise_cons.1 h.srt
      simp only [okO, Bool.and_eq_true, decide_eq_true_eq, beq_iff_eq, okF]
      simp only [List.length_cons] at h1
      refine ⟨⟨by omega, h2⟩, h3, okF_of hs.2 fun x hx => ⟨hs.1 x hx, ?_, ?_⟩⟩
      · obtain ⟨i, hi, rfl⟩ := List.mem_iff_getElem.1 hx
        have := h.key (i + 1) (by omega) (by simp; omega)
        rw [loA_lt (by simp; omega), List.getElem_cons_succ] at this
        exact this
      · obtain ⟨i, hi, rfl⟩ := List.mem_iff_getElem.1 hx
        have := h.sh (i + 1) (by simp; omega)
        rw [List.getElem_cons_succ] at this
        exact this
theorem Okay.mono {l : List Ow} (h : Okay l) {i j : Nat} (hij : i < j) (hj : j < l.length) : bl (loA l i) (loA l j) = true := by
  rw [loA_lt (by omega), loA_lt hj]
  exact List.pairwise_iff_getElem.1 h.srt i j (by omega) hj hij
theorem Okay.range {l : List Ow} (h : Okay l) {i : Nat} (hi : i < l.length) : ckR (keyR l i) = true := by
  have hl : ∀ j, (loA l j).length ≤ 12 := fun j => by
    by_cases c : j < l.length
    · by_cases c0 : j = 0
      · subst c0; rw [h.first]; simp
      · exact (ckK_len (h.key j (by omega) c)).1
    · rw [loA_ge (by omega)]; simp
  unfold ckR keyR
  simp only [hl, decide_true, Bool.and_self, Bool.true_and, Bool.or_eq_true, beq_iff_eq]
  by_cases c : i + 1 < l.length
  · exact .inr (h.mono (by omega) c)
  · exact .inl (loA_ge (by omega))

/-- the place of the one that has a key -/
def fiO (l : List Ow) (k : BL) : Nat := if fndO l k = true then lbO l k else lbO l k - 1
theorem lbO_cons {o : Ow} {l : List Ow} {k : BL} (h : bl o.1 k = true) : lbO (o :: l) k = lbO l k + 1 := by
  unfold lbO
  rw [List.takeWhile_cons, if_pos h, List.length_cons]
theorem Okay.find {l : List Ow} (h : Okay l) (k : BL) : fiO l k < l.length ∧ bl k (loA l (fiO l k)) = false ∧ ∀ j, fiO l k < j → j < l.length → bl k (loA l j) = true := by
  unfold fiO
  have hle := lbO_le l k
  by_cases hf : fndO l k = true
  · rw [if_pos hf]
    unfold fndO at hf
    have hlt : lbO l k < l.length := by
      rcases Nat.lt_or_ge (lbO l k) l.length with g | g
      · exact g
      · rw [List.getElem?_eq_none g] at hf; cases hf
    rw [List.getElem?_eq_getElem hlt] at hf
    have he : loA l (lbO l k) = k := by rw [loA_lt hlt]; simpa using hf
    refine ⟨hlt, by rw [he]; exact bl_irrefl k, fun j hj hjl => ?_⟩
    have := h.mono hj hjl
    rwa [he] at this
  · rw [if_neg hf]
    have hpos : 0 < lbO l k := by
      cases l with
      | nil => have := h.pos; simp at this
      | cons o r =>
        have h1 : o.1 = [] := h.first
        by_cases hk : k = []
        · exfalso
          subst hk
          apply hf
          have h2 : lbO (o :: r) [] = 0 := by unfold lbO; rw [List.takeWhile_cons, if_neg (by rw [bl_nil_r]; simp)]; rfl
          unfold fndO
          rw [h2]
          simp [h1]
        · rw [lbO_cons (by rw [h1]; exact bl_nil_l hk)]
          omega
    refine ⟨by omega, ?_, fun j hj hjl => ?_⟩
    · obtain ⟨g1, g2⟩ := lbO_lt (m := l) (k := k) (j := lbO l k - 1) (by omega)
      rw [loA_lt g1]
      exact bl_asymm g2
    · have g := lbO_ge h.srt hjl (k := k) (by omega)
      rw [loA_lt hjl]
      by_cases e : l[j].1 = k
      · exfalso
        by_cases c : lbO l k = j
        · apply hf
          unfold fndO
          rw [c, List.getElem?_eq_getElem hjl]
          simp [e]
        · have g2 := lbO_ge h.srt (j := lbO l k) (by omega) (k := k) (Nat.le_refl _)
          have g3 := h.mono (i := lbO l k) (j := j) (by omega) hjl
          rw [loA_lt (by omega), loA_lt hjl, e, g2] at g3
          cases g3
      · rcases bl_total e with q | q
        · rw [q] at g; cases g
        · exact q
theorem Okay.has {l : List Ow} (h : Okay l) {k : BL} (hk : ckK k = true) {i : Nat} (hi : i < l.length) : hasR (keyR l i) k = decide (i = fiO l k) := by
  obtain ⟨h1, h2, h3⟩ := h.find k
  have hne : k ≠ [] := (ckK_len hk).2
  rw [has_iff (h.range hi) hk]
  unfold keyR
  simp only
  rcases Nat.lt_trichotomy i (fiO l k) with c | c | c
  · have e : bl k (loA l (i + 1)) = false := by
      by_cases d : i + 1 = fiO l k
      · rw [d]; exact h2
      · cases g : bl k (loA l (i + 1)) with
        | false => rfl
        | true =>
          have := bl_trans g (h.mono (i := i + 1) (j := fiO l k) (by omega) h1)
          rw [h2] at this; cases this
    have e2 : (loA l (i + 1) == []) = false := by
      rw [beq_eq_false_iff_ne]
      exact (ckK_len (h.key (i + 1) (by omega) (by omega))).2
    rw [e, e2, decide_eq_false (by omega)]
    simp
  · subst c
    rw [h2, decide_eq_true rfl]
    by_cases d : fiO l k + 1 < l.length
    · rw [h3 _ (by omega) d]; simp
    · rw [loA_ge (by omega)]; simp
  · rw [h3 i c hi, decide_eq_false (by omega)]
    simp

/-! ### Find -/
def fiV (l : List Ow) (k : BL) : Value := .tuple #[.int .i64 (if okO l = true ∧ ckK k = true then ((fiO l k : Nat) : Int) else 0), .int .i64 (if okO l = true then eK k else 170)]
def fiE (l : List Ow) (k : BL) : Int := if okO l = true then eK k else 170
theorem fiE_0 {l : List Ow} {k : BL} : fiE l k = 0 ↔ okO l = true ∧ ckK k = true := by
  unfold fiE eK
  by_cases h : okO l = true
  · rw [if_pos h]
    by_cases g : ckK k = true
    · simp [h, g]
    · simp [h, g]
  · rw [if_neg h]
    simp [h]
theorem fiE_n {l : List Ow} {k : BL} : (fiE l k != 0) = !(okO l && ckK k) := by
  by_cases h : fiE l k = 0
  · obtain ⟨g1, g2⟩ := fiE_0.1 h
    rw [h, g1, g2]; rfl
  · have g : ¬ (okO l = true ∧ ckK k = true) := fun g => h (fiE_0.2 g)
    have g2 : (okO l && ckK k) = false := by
      cases e1 : okO l <;> cases e2 : ckK k <;> simp_all
    rw [g2]
    simp [h]
theorem x_fi1 (l : List Ow) (k : BL) : aextract 1 (fiV l k) = some (.int .i64 (fiE l k)) := Eq.trans rfl (Eq.refl _)
def fiN (l : List Ow) (k : BL) : Int := if okO l = true ∧ ckK k = true then ((fiO l k : Nat) : Int) else 0
theorem x_fi0 (l : List Ow) (k : BL) : aextract 0 (fiV l k) = some (.int .i64 (fiN l k)) := Eq.trans rfl (Eq.refl _)
open Classical in
noncomputable def gBs : Sum := fun xs s => (match xs with
  | [v, w, f] => (listOf owC v s).bind fun l => (asBl w).bind fun k => if l.length < 140737488355328 ∧ SrtO l ∧ f = Value.func (Fn.func 36) #[] #[] then some (bsV l k) else none
  | _ => none).map fun v => (v, s)
theorem bs_eq {v : Value} {s : St} {l : List Ow} {k : BL} (h : listOf owC v s = some l) (hl : l.length < 140737488355328) (hs : SrtO l) : gBs [v, sv k, .func (.func 36) #[] #[]] s = some (bsV l k, s) := by
  simp only [gBs, h, asBl_sv, Option.bind_some]
  rw [if_pos ⟨hl, hs, rfl⟩]
  rfl
open Classical in
theorem bs_sum {lib : Lib} {f : FuncId} (h : ∀ v s l k, listOf owC v s = some l → l.length < 140737488355328 → SrtO l → run Try.prog lib hints f [v, sv k, .func (.func 36) #[] #[]] s = some (bsV l k, s)) : SumOk Try.prog lib hints f gBs :=
  SumOk.plain (G := fun xs s => match xs with
    | [v, w, f] => (listOf owC v s).bind fun l => (asBl w).bind fun k => if l.length < 140737488355328 ∧ SrtO l ∧ f = Value.func (Fn.func 36) #[] #[] then some (bsV l k) else none
    | _ => none) fun xs s u hh => by
    split at hh
    · rename_i v w f
      simp only [Option.bind_eq_some_iff] at hh
      obtain ⟨m, h1, k, h2, hh⟩ := hh
      split at hh
      · rename_i hc
        cases hh
        rw [asBl_some h2, hc.2.2]
        exact ⟨rfl, _, h v (frzS s) m k (by rw [list_frz]; exact h1) hc.1 hc.2.1⟩
      · cases hh
    · cases hh
theorem Find_run {R : Caller} (hE : ∀ xs s, R 19 xs s = gEO xs s) (hK : ∀ k s, R 25 [sv k] s = some (.int .i64 (eK k), s)) (hB : ∀ xs s, R 35 xs s = gBs xs s) {v : Value} {s : St} {l : List Ow} (h : listOf owC v s = some l) (hl : l.length < 140737488355328) (k : BL) : owner_Find R v (sv k) s = some (fiV l k, s) := by
  have e1 : gEO [v] s = some (.int .i64 (eO l), s) := gO_eq h hl
  unfold owner_Find fiV
  simp only [owner_Check_call, hE, e1, n_bind, e_neq, eO_n]
  rcases Bool.eq_false_or_eq_true (okO l) with c | c
  · have hok := okay_iff.1 c
    simp only [c, Bool.not_true, condV_f, span_CheckKey_call, hK, n_bind, e_neq, eK_n]
    rcases Bool.eq_false_or_eq_true (ckK k) with d | d
    · have e2 : eK k = 0 := by unfold eK; rw [d]; rfl
      simp only [d, Bool.not_true, condV_f, slices_BinarySearchFunc_api_Owner_api_Owner_string_call, hB, bs_eq h hl hok.srt, n_bind, x_bs0, x_bs1, e_not, owner_Find.j0, joinK_eq, getL_0, ret_ii, e2]
      unfold fiO
      rcases Bool.eq_false_or_eq_true (fndO l k) with f | f
      · simp only [f, Bool.not_true, condV_f, if_true, and_self]
      · obtain ⟨q, hq⟩ : ∃ q, lbO l k = q + 1 := by
          obtain ⟨q, hq⟩ := Nat.exists_eq_succ_of_ne_zero (n := lbO l k) (fun h0 => by
            have := hok.find k
            cases l with
            | nil => have := hok.pos; simp at this
            | cons o r =>
              have h1 : o.1 = [] := hok.first
              rw [lbO_cons (by rw [h1]; exact bl_nil_l (ckK_len d).2)] at h0
              omega)
          exact ⟨q, hq⟩
        have hle := lbO_le l k
        simp only [f, Bool.not_false, condV_t, hq, e_sub, dec_i (show q < 140737488355328 by omega), n_bind, if_true, and_self, Bool.false_eq_true, if_false, Nat.add_sub_cancel, ret_ii]
    · simp only [d, Bool.not_false, condV_t, ret_ii, Bool.false_eq_true, and_false, if_false, if_true]
  · have e2 : eO l = 170 := by unfold eO; rw [c]; rfl
    simp only [c, Bool.not_false, condV_t, ret_ii, Bool.false_eq_true, false_and, if_false, e2]
theorem at_loop {R : Caller} (hR : ∀ xs s, R 41 xs s = gKR xs s) (hH : ∀ r k s, R 64 [rv r, sv k] s = some (.bool (hasR r k), s)) {v : Value} {s : St} {l : List Ow} (h : listOf owC v s = some l) (hok : Okay l) {k : BL} (hk : ckK k = true) : ∀ (d i : Nat), fiO l k - i = d → i ≤ fiO l k →
    loopL (ref17_at.b0 R) [v, sv k, .int .i64 ((l.length : Nat) : Int), .int .i64 (i : Int)] s = some (.ret, [.int .i64 ((fiO l k : Nat) : Int)], s) := by
  have hlt := (hok.find k).1
  have hl6 := hok.len
  intro d
  induction d with
  | zero =>
    intro i hd hi
    have e : i = fiO l k := by omega
    have h1 : decide ((i : Int) < ((l.length : Nat) : Int)) = true := decide_eq_true (by omega)
    have e2 : gKR [v, .int .i64 (i : Int)] s = some (rv (keyR l i), s) := gON_eq h (by omega) (kR_eq (by omega))
    have e3 : hasR (keyR l i) k = true := by rw [hok.has hk (by omega), e]; simp
    rw [loopL_eq]
    simp only [ref17_at.b0, h1, ref17_Range_call, hR, e2, ref02_Has_call, hH, e3, n_bind, n_map, getL_0, getL_1, getL_2, getL_3, getL_4, getL_5, getL_6, getL_7, getL_8, getL_9, getL_10, getL_11, getL_12, condV_t, condV_f, guardV_tt, guardV_ff, guardV_tf, guardV_ft, guardV_u, apick_t, apick_f, exV_exit, exV_ret, lookE_same, joinK_eq, seqA_n, seqA_e, seqA_r, e_add, e_sub, e_mul, e_eql, e_neq, e_lss, e_leq, e_gtr, e_geq, e_conv, e_not, e_neg, and_guard, or_guard]
    rw [e]
  | succ d ih =>
    intro i hd hi
    have h1 : decide ((i : Int) < ((l.length : Nat) : Int)) = true := decide_eq_true (by omega)
    have e2 : gKR [v, .int .i64 (i : Int)] s = some (rv (keyR l i), s) := gON_eq h (by omega) (kR_eq (by omega))
    have e3 : hasR (keyR l i) k = false := by rw [hok.has hk (by omega)]; simp; omega
    rw [loopL_eq]
    simp only [ref17_at.b0, h1, ref17_Range_call, hR, e2, ref02_Has_call, hH, e3, inc_i (show i < 140737488355328 by omega), n_bind, n_map, getL_0, getL_1, getL_2, getL_3, getL_4, getL_5, getL_6, getL_7, getL_8, getL_9, getL_10, getL_11, getL_12, condV_t, condV_f, guardV_tt, guardV_ff, guardV_tf, guardV_ft, guardV_u, apick_t, apick_f, exV_exit, exV_ret, lookE_same, joinK_eq, seqA_n, seqA_e, seqA_r, e_add, e_sub, e_mul, e_eql, e_neq, e_lss, e_leq, e_gtr, e_geq, e_conv, e_not, e_neg, and_guard, or_guard]
    exact ih (i + 1) (by omega) (by omega)
def atF (l : List Ow) (k : BL) : Option Value := if okO l = true ∧ ckK k = true then some (.int .i64 ((fiO l k : Nat) : Int)) else none
noncomputable def gAtO : Sum := gOK atF
theorem at_runO {R : Caller} (hR : ∀ xs s, R 41 xs s = gKR xs s) (hH : ∀ r k s, R 64 [rv r, sv k] s = some (.bool (hasR r k), s)) {v : Value} {s : St} {l : List Ow} (h : listOf owC v s = some l) (hok : Okay l) {k : BL} (hk : ckK k = true) : ref17_at R v (sv k) s = some (.int .i64 ((fiO l k : Nat) : Int), s) := by
  have key := at_loop hR hH h hok hk (fiO l k) 0 (by omega) (Nat.zero_le _)
  rw [show ((0 : Nat) : Int) = 0 from rfl] at key
  unfold ref17_at
  simp only [list_len h, key, n_bind, n_map, getL_0, getL_1, getL_2, getL_3, getL_4, getL_5, getL_6, getL_7, getL_8, getL_9, getL_10, getL_11, getL_12, condV_t, condV_f, guardV_tt, guardV_ff, guardV_tf, guardV_ft, guardV_u, apick_t, apick_f, exV_exit, exV_ret, lookE_same, joinK_eq, seqA_n, seqA_e, seqA_r, e_add, e_sub, e_mul, e_eql, e_neq, e_lss, e_leq, e_gtr, e_geq, e_conv, e_not, e_neg, and_guard, or_guard, ret_int]
theorem refFind_run {R : Caller} (hE : ∀ xs s, R 20 xs s = gEO xs s) (hK : ∀ k s, R 38 [sv k] s = some (.int .i64 (eK k), s)) (hA : ∀ xs s, R 39 xs s = gAtO xs s) {v : Value} {s : St} {l : List Ow} (h : listOf owC v s = some l) (hl : l.length < 140737488355328) (k : BL) : ref17_Find R v (sv k) s = some (fiV l k, s) := by
  have e1 : gEO [v] s = some (.int .i64 (eO l), s) := gO_eq h hl
  unfold ref17_Find fiV
  simp only [ref17_Check_call, hE, e1, n_bind, e_neq, eO_n]
  rcases Bool.eq_false_or_eq_true (okO l) with c | c
  · simp only [c, Bool.not_true, condV_f, ref02_CheckKey_call, hK, n_bind, e_neq, eK_n]
    rcases Bool.eq_false_or_eq_true (ckK k) with d | d
    · have e2 : eK k = 0 := by unfold eK; rw [d]; rfl
      have e3 : gAtO [v, sv k] s = some (.int .i64 ((fiO l k : Nat) : Int), s) := gOK_eq h hl (by unfold atF; rw [if_pos ⟨c, d⟩])
      simp only [d, Bool.not_true, condV_f, ref17_at_call, hA, e3, n_bind, ret_ii, e2, if_true, and_self]
    · simp only [d, Bool.not_false, condV_t, ret_ii, Bool.false_eq_true, and_false, if_false, if_true]
  · have e2 : eO l = 170 := by unfold eO; rw [c]; rfl
    simp only [c, Bool.not_false, condV_t, ret_ii, Bool.false_eq_true, false_and, if_false, e2]
noncomputable def gFi : Sum := gOK fun l k => some (fiV l k)

/-! ### Owns -/
def ownI (l : List Ow) (sh : Int) (r : Rg) (i : Nat) : Bool := (match l[i]? with | some o => o.2 == sh | none => false) && covL (keyR l i) r
def ownsL (l : List Ow) (sh : Int) (r : Rg) : Bool := okO l && (List.range' 0 l.length).any (ownI l sh r)
theorem cov_ck {a b : Rg} (h : covL a b = true) : ckR b = true := (cov_iff.1 h).2.1
theorem owns_loop {R : Caller} (hR : ∀ xs s, R 40 xs s = gKR xs s) (hC : ∀ a b s, R 42 [rv a, rv b] s = some (.bool (covL a b), s)) {v : Value} {s : St} {l : List Ow} (h : listOf owC v s = some l) (hl : l.length < 140737488355328) (sh : Int) (r : Rg) : ∀ (d i : Nat), l.length - i = d → i ≤ l.length →
    loopL (owner_Owns.b0 R) [v, .int .i64 sh, lptr, .int .i64 ((l.length : Nat) : Int), .int .i64 (i : Int), rv r] s = if (List.range' i d).any (ownI l sh r) = true then some (.ret, [.bool true], s) else some (.exit 0, [], s) := by
  intro d
  induction d with
  | zero =>
    intro i hd hi
    have h1 : decide ((i : Int) < ((l.length : Nat) : Int)) = false := decide_eq_false (by omega)
    rw [loopL_eq]
    simp only [owner_Owns.b0, h1, n_bind, n_map, getL_0, getL_1, getL_2, getL_3, getL_4, getL_5, getL_6, getL_7, getL_8, getL_9, getL_10, getL_11, getL_12, condV_t, condV_f, guardV_tt, guardV_ff, guardV_tf, guardV_ft, guardV_u, apick_t, apick_f, exV_exit, exV_ret, lookE_same, joinK_eq, seqA_n, seqA_e, seqA_r, e_add, e_sub, e_mul, e_eql, e_neq, e_lss, e_leq, e_gtr, e_geq, e_conv, e_not, e_neg, and_guard, or_guard, List.range'_zero, List.any_nil, Bool.false_eq_true, if_false]
  | succ d ih =>
    intro i hd hi
    have hlt : i < l.length := by omega
    have h1 : decide ((i : Int) < ((l.length : Nat) : Int)) = true := decide_eq_true (by omega)
    have e2 : gKR [v, .int .i64 (i : Int)] s = some (rv (keyR l i), s) := gON_eq h (by omega) (kR_eq hlt)
    obtain ⟨p, f1, q, f2, f3⟩ := ow_sh h hlt
    have e3 : ownI l sh r i = ((l[i].2 == sh) && covL (keyR l i) r) := by unfold ownI; rw [List.getElem?_eq_getElem hlt]
    have key := ih (i + 1) (by omega) (by omega)
    rw [loopL_eq, List.range'_succ, List.any_cons, e3]
    rcases Bool.eq_false_or_eq_true (l[i].2 == sh) with c | c
    · rcases Bool.eq_false_or_eq_true (covL (keyR l i) r) with e | e
      · simp only [owner_Owns.b0, h1, f1, f2, f3, c, e, own_id, owner_keys_call, hR, e2, ld_rv, span_Covers_call, hC, Bool.and_self, Bool.true_or, if_true, n_bind, n_map, getL_0, getL_1, getL_2, getL_3, getL_4, getL_5, getL_6, getL_7, getL_8, getL_9, getL_10, getL_11, getL_12, condV_t, condV_f, guardV_tt, guardV_ff, guardV_tf, guardV_ft, guardV_u, apick_t, apick_f, exV_exit, exV_ret, lookE_same, joinK_eq, seqA_n, seqA_e, seqA_r, e_add, e_sub, e_mul, e_eql, e_neq, e_lss, e_leq, e_gtr, e_geq, e_conv, e_not, e_neg, and_guard, or_guard]
      · simp only [owner_Owns.b0, h1, f1, f2, f3, c, e, own_id, owner_keys_call, hR, e2, ld_rv, span_Covers_call, hC, Bool.and_false, Bool.false_or, inc_i (show i < 140737488355328 by omega), n_bind, n_map, getL_0, getL_1, getL_2, getL_3, getL_4, getL_5, getL_6, getL_7, getL_8, getL_9, getL_10, getL_11, getL_12, condV_t, condV_f, guardV_tt, guardV_ff, guardV_tf, guardV_ft, guardV_u, apick_t, apick_f, exV_exit, exV_ret, lookE_same, joinK_eq, seqA_n, seqA_e, seqA_r, e_add, e_sub, e_mul, e_eql, e_neq, e_lss, e_leq, e_gtr, e_geq, e_conv, e_not, e_neg, and_guard, or_guard]
        exact key
    · simp only [owner_Owns.b0, h1, f1, f2, f3, c, own_id, Bool.false_and, Bool.false_or, inc_i (show i < 140737488355328 by omega), n_bind, n_map, getL_0, getL_1, getL_2, getL_3, getL_4, getL_5, getL_6, getL_7, getL_8, getL_9, getL_10, getL_11, getL_12, condV_t, condV_f, guardV_tt, guardV_ff, guardV_tf, guardV_ft, guardV_u, apick_t, apick_f, exV_exit, exV_ret, lookE_same, joinK_eq, seqA_n, seqA_e, seqA_r, e_add, e_sub, e_mul, e_eql, e_neq, e_lss, e_leq, e_gtr, e_geq, e_conv, e_not, e_neg, and_guard, or_guard]
      exact key
theorem Owns_run {R : Caller} (hE : ∀ xs s, R 19 xs s = gEO xs s) (hR : ∀ xs s, R 40 xs s = gKR xs s) (hC : ∀ a b s, R 42 [rv a, rv b] s = some (.bool (covL a b), s)) {v : Value} {s : St} {l : List Ow} (h : listOf owC v s = some l) (hl : l.length < 140737488355328) (sh : Int) (r : Rg) : owner_Owns R v (.int .i64 sh) (rv r) s = some (.bool (ownsL l sh r), s) := by
  have e1 : gEO [v] s = some (.int .i64 (eO l), s) := gO_eq h hl
  have key := owns_loop hR hC h hl sh r l.length 0 (by omega) (Nat.zero_le _)
  rw [show ((0 : Nat) : Int) = 0 from rfl] at key
  unfold owner_Owns ownsL
  simp only [box_rv, owner_Check_call, hE, e1, n_bind, e_neq, eO_n]
  rcases Bool.eq_false_or_eq_true (okO l) with c | c
  · simp only [c, Bool.not_true, condV_f, list_len h, n_bind, key, Bool.true_and]
    rcases Bool.eq_false_or_eq_true ((List.range' 0 l.length).any (ownI l sh r)) with e | e
    · simp only [e, if_true, n_bind, n_map, getL_0, getL_1, getL_2, getL_3, getL_4, getL_5, getL_6, getL_7, getL_8, getL_9, getL_10, getL_11, getL_12, condV_t, condV_f, guardV_tt, guardV_ff, guardV_tf, guardV_ft, guardV_u, apick_t, apick_f, exV_exit, exV_ret, lookE_same, joinK_eq, seqA_n, seqA_e, seqA_r, e_add, e_sub, e_mul, e_eql, e_neq, e_lss, e_leq, e_gtr, e_geq, e_conv, e_not, e_neg, and_guard, or_guard, ret_bool]
    · simp only [e, Bool.false_eq_true, if_false, n_bind, n_map, getL_0, getL_1, getL_2, getL_3, getL_4, getL_5, getL_6, getL_7, getL_8, getL_9, getL_10, getL_11, getL_12, condV_t, condV_f, guardV_tt, guardV_ff, guardV_tf, guardV_ft, guardV_u, apick_t, apick_f, exV_exit, exV_ret, lookE_same, joinK_eq, seqA_n, seqA_e, seqA_r, e_add, e_sub, e_mul, e_eql, e_neq, e_lss, e_leq, e_gtr, e_geq, e_conv, e_not, e_neg, and_guard, or_guard, ret_bool]
  · simp only [c, Bool.not_false, condV_t, ret_bool, Bool.false_and]
theorem refOwns_loop {R : Caller} (hR : ∀ xs s, R 41 xs s = gKR xs s) (hC : ∀ a b s, R 44 [rv a, rv b] s = some (.bool (covL a b), s)) {v : Value} {s : St} {l : List Ow} (h : listOf owC v s = some l) (hl : l.length < 140737488355328) (sh : Int) (r : Rg) : ∀ (d i : Nat), l.length - i = d → i ≤ l.length →
    loopL (ref17_Owns.b0 R) [v, .int .i64 sh, lptr, v, .int .i64 ((l.length : Nat) : Int), .int .i64 (i : Int), rv r] s = if (List.range' i d).any (ownI l sh r) = true then some (.ret, [.bool true], s) else some (.exit 0, [], s) := by
  intro d
  induction d with
  | zero =>
    intro i hd hi
    have h1 : decide ((i : Int) < ((l.length : Nat) : Int)) = false := decide_eq_false (by omega)
    rw [loopL_eq]
    simp only [ref17_Owns.b0, h1, n_bind, n_map, getL_0, getL_1, getL_2, getL_3, getL_4, getL_5, getL_6, getL_7, getL_8, getL_9, getL_10, getL_11, getL_12, condV_t, condV_f, guardV_tt, guardV_ff, guardV_tf, guardV_ft, guardV_u, apick_t, apick_f, exV_exit, exV_ret, lookE_same, joinK_eq, seqA_n, seqA_e, seqA_r, e_add, e_sub, e_mul, e_eql, e_neq, e_lss, e_leq, e_gtr, e_geq, e_conv, e_not, e_neg, and_guard, or_guard, List.range'_zero, List.any_nil, Bool.false_eq_true, if_false]
  | succ d ih =>
    intro i hd hi
    have hlt : i < l.length := by omega
    have h1 : decide ((i : Int) < ((l.length : Nat) : Int)) = true := decide_eq_true (by omega)
    have e2 : gKR [v, .int .i64 (i : Int)] s = some (rv (keyR l i), s) := gON_eq h (by omega) (kR_eq hlt)
    obtain ⟨p, g1, g2⟩ := list_at h hlt (k := .i64) (n := 2) rfl
    rw [ow_enc] at g2
    have e3 : ownI l sh r i = ((l[i].2 == sh) && covL (keyR l i) r) := by unfold ownI; rw [List.getElem?_eq_getElem hlt]
    have key := ih (i + 1) (by omega) (by omega)
    rw [loopL_eq, List.range'_succ, List.any_cons, e3]
    rcases Bool.eq_false_or_eq_true (l[i].2 == sh) with c | c
    · rcases Bool.eq_false_or_eq_true (covL (keyR l i) r) with e | e
      · simp only [ref17_Owns.b0, h1, g1, g2, nil_sv, w_z, w_z2, w_st, w_1, c, e, own_id, ref17_Range_call, hR, e2, ld_rv, ref02_Covers_call, hC, Bool.and_self, Bool.true_or, if_true, n_bind, n_map, getL_0, getL_1, getL_2, getL_3, getL_4, getL_5, getL_6, getL_7, getL_8, getL_9, getL_10, getL_11, getL_12, condV_t, condV_f, guardV_tt, guardV_ff, guardV_tf, guardV_ft, guardV_u, apick_t, apick_f, exV_exit, exV_ret, lookE_same, joinK_eq, seqA_n, seqA_e, seqA_r, e_add, e_sub, e_mul, e_eql, e_neq, e_lss, e_leq, e_gtr, e_geq, e_conv, e_not, e_neg, and_guard, or_guard]
      · simp only [ref17_Owns.b0, h1, g1, g2, nil_sv, w_z, w_z2, w_st, w_1, c, e, own_id, ref17_Range_call, hR, e2, ld_rv, ref02_Covers_call, hC, Bool.and_false, Bool.false_or, inc_i (show i < 140737488355328 by omega), n_bind, n_map, getL_0, getL_1, getL_2, getL_3, getL_4, getL_5, getL_6, getL_7, getL_8, getL_9, getL_10, getL_11, getL_12, condV_t, condV_f, guardV_tt, guardV_ff, guardV_tf, guardV_ft, guardV_u, apick_t, apick_f, exV_exit, exV_ret, lookE_same, joinK_eq, seqA_n, seqA_e, seqA_r, e_add, e_sub, e_mul, e_eql, e_neq, e_lss, e_leq, e_gtr, e_geq, e_conv, e_not, e_neg, and_guard, or_guard]
        exact key
    · simp only [ref17_Owns.b0, h1, g1, g2, nil_sv, w_z, w_z2, w_st, w_1, c, own_id, Bool.false_and, Bool.false_or, inc_i (show i < 140737488355328 by omega), n_bind, n_map, getL_0, getL_1, getL_2, getL_3, getL_4, getL_5, getL_6, getL_7, getL_8, getL_9, getL_10, getL_11, getL_12, condV_t, condV_f, guardV_tt, guardV_ff, guardV_tf, guardV_ft, guardV_u, apick_t, apick_f, exV_exit, exV_ret, lookE_same, joinK_eq, seqA_n, seqA_e, seqA_r, e_add, e_sub, e_mul, e_eql, e_neq, e_lss, e_leq, e_gtr, e_geq, e_conv, e_not, e_neg, and_guard, or_guard]
      exact key
theorem refOwns_run {R : Caller} (hE : ∀ xs s, R 20 xs s = gEO xs s) (hR : ∀ xs s, R 41 xs s = gKR xs s) (hC : ∀ a b s, R 44 [rv a, rv b] s = some (.bool (covL a b), s)) (hK : ∀ r s, R 43 [rv r] s = some (.int .i64 (eR r), s)) {v : Value} {s : St} {l : List Ow} (h : listOf owC v s = some l) (hl : l.length < 140737488355328) (sh : Int) (r : Rg) : ref17_Owns R v (.int .i64 sh) (rv r) s = some (.bool (ownsL l sh r), s) := by
  have e1 : gEO [v] s = some (.int .i64 (eO l), s) := gO_eq h hl
  have key := refOwns_loop hR hC h hl sh r l.length 0 (by omega) (Nat.zero_le _)
  rw [show ((0 : Nat) : Int) = 0 from rfl] at key
  unfold ref17_Owns ownsL
  simp only [box_rv, ref17_Check_call, hE, e1, n_bind, e_neq, eO_n]
  rcases Bool.eq_false_or_eq_true (okO l) with c | c
  · rcases Bool.eq_false_or_eq_true (ckR r) with d | d
    · simp only [c, d, Bool.not_true, ld_rv, ref02_Check_call, hK, eR_n, list_len h, key, Bool.true_and, n_bind, n_map, getL_0, getL_1, getL_2, getL_3, getL_4, getL_5, getL_6, getL_7, getL_8, getL_9, getL_10, getL_11, getL_12, condV_t, condV_f, guardV_tt, guardV_ff, guardV_tf, guardV_ft, guardV_u, apick_t, apick_f, exV_exit, exV_ret, lookE_same, joinK_eq, seqA_n, seqA_e, seqA_r, e_add, e_sub, e_mul, e_eql, e_neq, e_lss, e_leq, e_gtr, e_geq, e_conv, e_not, e_neg, and_guard, or_guard]
      rcases Bool.eq_false_or_eq_true ((List.range' 0 l.length).any (ownI l sh r)) with e | e
      · simp only [e, if_true, n_bind, n_map, getL_0, getL_1, getL_2, getL_3, getL_4, getL_5, getL_6, getL_7, getL_8, getL_9, getL_10, getL_11, getL_12, condV_t, condV_f, guardV_tt, guardV_ff, guardV_tf, guardV_ft, guardV_u, apick_t, apick_f, exV_exit, exV_ret, lookE_same, joinK_eq, seqA_n, seqA_e, seqA_r, e_add, e_sub, e_mul, e_eql, e_neq, e_lss, e_leq, e_gtr, e_geq, e_conv, e_not, e_neg, and_guard, or_guard, ret_bool]
      · simp only [e, Bool.false_eq_true, if_false, n_bind, n_map, getL_0, getL_1, getL_2, getL_3, getL_4, getL_5, getL_6, getL_7, getL_8, getL_9, getL_10, getL_11, getL_12, condV_t, condV_f, guardV_tt, guardV_ff, guardV_tf, guardV_ft, guardV_u, apick_t, apick_f, exV_exit, exV_ret, lookE_same, joinK_eq, seqA_n, seqA_e, seqA_r, e_add, e_sub, e_mul, e_eql, e_neq, e_lss, e_leq, e_gtr, e_geq, e_conv, e_not, e_neg, and_guard, or_guard, ret_bool]
    · have hn : (List.range' 0 l.length).any (ownI l sh r) = false := by
        rw [List.any_eq_false]
        intro i _ hh
        unfold ownI at hh
        simp only [Bool.and_eq_true] at hh
        rw [cov_ck hh.2] at d
        cases d
      simp only [c, d, hn, Bool.not_true, Bool.not_false, ld_rv, ref02_Check_call, hK, eR_n, Bool.and_false, n_bind, n_map, getL_0, getL_1, getL_2, getL_3, getL_4, getL_5, getL_6, getL_7, getL_8, getL_9, getL_10, getL_11, getL_12, condV_t, condV_f, guardV_tt, guardV_ff, guardV_tf, guardV_ft, guardV_u, apick_t, apick_f, exV_exit, exV_ret, lookE_same, joinK_eq, seqA_n, seqA_e, seqA_r, e_add, e_sub, e_mul, e_eql, e_neq, e_lss, e_leq, e_gtr, e_geq, e_conv, e_not, e_neg, and_guard, or_guard, ret_bool]
  · simp only [c, Bool.not_false, n_bind, n_map, getL_0, getL_1, getL_2, getL_3, getL_4, getL_5, getL_6, getL_7, getL_8, getL_9, getL_10, getL_11, getL_12, condV_t, condV_f, guardV_tt, guardV_ff, guardV_tf, guardV_ft, guardV_u, apick_t, apick_f, exV_exit, exV_ret, lookE_same, joinK_eq, seqA_n, seqA_e, seqA_r, e_add, e_sub, e_mul, e_eql, e_neq, e_lss, e_leq, e_gtr, e_geq, e_conv, e_not, e_neg, and_guard, or_guard, ret_bool, Bool.false_and]
end Go.Proofs.Ytmnmpackcjakdaa.Ab
