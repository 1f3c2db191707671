/- Texts of this proof, packed: BLit, BCode, BFun, BView, BRow, Lib0, BLaw, BOrd, BRange. -/
import Derived.Test.YtccindbiodofmaaPk2
import Derived.LoopN
import Derived.WalkKit
import Derived.Test.YtccindbiodofmaaProg
import Derived.KernelRfl
import Derived.Laws.Strings
import Derived.RangeFuncLeaves
import Derived.RangeFuncKeeps
set_option linter.unusedVariables false
set_option linter.unusedSimpArgs false
set_option linter.unusedSectionVars false
/- A map's literal in a region whose order is open: what is asked of it doesn't depend on the order in which it was filled. -/
namespace Go.Proofs.Ytccindbiodofmaa.Ab
open Go

/-! ### The checks, read -/
theorem memN_no {x : Nat} {l : List Nat} (h : (!memN x l) = true) : x ∉ l := fun hm => by
  rw [memN_iff.2 hm] at h
  cases h
section
variable {P : Program} {tn : Tn} {L : LitI} {ops : Array Oper}
theorem litPairs2_get {bf : List Nat} {i : Nat} {a : Oper} : ∀ {l : List Oper} {j0 : Nat}, litPairs2 L bf i a j0 l = true → ∀ j b, l[j]? = some b → litPair L bf i (j0 + j) a b = true
  | [], _, _, j, b, hb => by simp at hb
  | c :: l, j0, h, j, b, hb => by
    simp only [litPairs2, Bool.and_eq_true] at h
    cases j with
    | zero => simp at hb; subst hb; exact h.1
    | succ j =>
      have := litPairs2_get h.2 j b (by simpa using hb)
      rwa [show j0 + 1 + j = j0 + (j + 1) by omega] at this
theorem litPairs_get {bf : List Nat} {all : List Oper} : ∀ {l : List Oper} {i0 : Nat}, litPairs L bf all i0 l = true → ∀ i a, l[i]? = some a → ∀ j b, all[j]? = some b → litPair L bf (i0 + i) j a b = true
  | [], _, _, i, a, ha => by simp at ha
  | c :: l, i0, h, i, a, ha => by
    simp only [litPairs, Bool.and_eq_true] at h
    cases i with
    | zero =>
      simp at ha
      subst ha
      intro j b hb
      have := litPairs2_get h.1 j b hb
      rwa [Nat.zero_add] at this
    | succ i =>
      have := litPairs_get h.2 i a (by simpa using ha)
      rwa [show i0 + 1 + i = i0 + (i + 1) by omega] at this
/-- what is said of each -/
def LitOne (tn : Tn) (L : LitI) (ops : Array Oper) (l : List Oper) (o : Oper) : Prop :=
  o.guard = none ∧ match litOp L o with
    | .no => L.t1 ∉ namesB tn ops o ∧ L.t2 ∉ namesB tn ops o
    | .ins _ x => opStable tn x l = true ∧ x ≠ .tmp L.t1 ∧ x ≠ .tmp L.t2
    | .look y => (∀ b ∈ l.tail, litOp L b = .no) ∧ opStable tn y l = true ∧ y ≠ .tmp L.t1 ∧ y ≠ .tmp L.t2 ∧ dOf tn o = none ∧ o.dst ≠ some L.t1 ∧ o.dst ≠ some L.t2
    | _ => True
theorem beq_no {a b : Nat} (h : (!Nat.beq a b) = true) : a ≠ b := fun e => by
  subst e
  rw [Nat.beq_refl] at h
  cases h
theorem litOnes_get : ∀ {l : List Oper}, litOnes tn L ops l = true → ∀ i o, l[i]? = some o → LitOne tn L ops (l.drop i) o
  | [], _, i, o, ho => by simp at ho
  | c :: l, h, i, o, ho => by
    simp only [litOnes, Bool.and_eq_true] at h
    cases i with
    | zero =>
      simp at ho
      subst ho
      refine ⟨Option.isNone_iff_eq_none.1 h.1.1, ?_⟩
      have h2 := h.1.2
      simp only [List.drop_zero]
      generalize litOp L c = k at h2
      have tmpNe : ∀ (x : Operand) (t : Nat), (match x with | .tmp u => (!Nat.beq u L.t1 && !Nat.beq u L.t2) | _ => true) = true → x ≠ .tmp L.t1 ∧ x ≠ .tmp L.t2 := fun x t hx => by
        cases x with
        | tmp u =>
          simp only [Bool.and_eq_true] at hx
          exact ⟨fun e => beq_no hx.1 (Operand.tmp.inj e), fun e => beq_no hx.2 (Operand.tmp.inj e)⟩
        | _ => exact ⟨fun e => (by cases e), fun e => (by cases e)⟩
      cases k with
      | no => simp only [Bool.and_eq_true] at h2; exact ⟨memN_no h2.1, memN_no h2.2⟩
      | mk => trivial
      | mv => trivial
      | ins n x =>
        simp only [Bool.and_eq_true] at h2
        obtain ⟨e1, e2⟩ := tmpNe x 0 h2.2
        exact ⟨h2.1, e1, e2⟩
      | look y =>
        simp only [Bool.and_eq_true] at h2
        obtain ⟨⟨⟨⟨q0, q1⟩, q2⟩, q3⟩, q4⟩ := h2
        obtain ⟨e1, e2⟩ := tmpNe y 0 q2
        refine ⟨fun b hb => ?_, q1, e1, e2, Option.isNone_iff_eq_none.1 q3, ?_, ?_⟩
        · have := List.all_eq_true.1 q0 b (by simpa using hb)
          unfold isNoK at this
          split at this
          · assumption
          · cases this
        · intro e
          rw [e] at q4
          simp only [Bool.and_eq_true] at q4
          exact beq_no q4.1 rfl
        · intro e
          rw [e] at q4
          simp only [Bool.and_eq_true] at q4
          exact beq_no q4.2 rfl
    | succ i => exact litOnes_get h.2 i o (by simpa using ho)
theorem litModes_get {N : Array Oper} {bf : List Nat} {mm : Nat} : ∀ {l : List Oper} {i0 : Nat}, litModes P tn N bf mm i0 l = true → ∀ i o, l[i]? = some o → modeB P tn bf N.size mm (i0 + i) o ≠ .store ∧ modeB P tn bf N.size mm (i0 + i) o ≠ .bad
  | [], _, _, i, o, ho => by simp at ho
  | c :: l, i0, h, i, o, ho => by
    simp only [litModes, Bool.and_eq_true] at h
    cases i with
    | zero =>
      simp at ho
      subst ho
      rw [Nat.add_zero]
      have h1 := h.1
      cases hm : modeB P tn bf N.size mm i0 c with
      | store => rw [hm] at h1; cases h1
      | bad => rw [hm] at h1; cases h1
      | pure => exact ⟨by simp, by simp⟩
      | own => exact ⟨by simp, by simp⟩
      | quiet => exact ⟨by simp, by simp⟩
    | succ i =>
      have := litModes_get h.2 i o (by simpa using ho)
      rwa [show i0 + 1 + i = i0 + (i + 1) by omega] at this
theorem opStable_tmp {t : Nat} {l : List Oper} (h : opStable tn (.tmp t) l = true) : look t tn = none ∧ ∀ (p : Nat) (b : Oper), l[p]? = some b → t ∉ setsB tn b := by
  simp only [opStable, Bool.and_eq_true] at h
  refine ⟨Option.isNone_iff_eq_none.1 h.1, fun p b hb => ?_⟩
  have := List.all_eq_true.1 h.2 b (List.mem_of_getElem? hb)
  exact memN_no this

/-! ### Neutral operations -/
theorem litOp_mk {o : Oper} (h : litOp L o = .mk) : o.op = .makeMap L.ty none ∧ o.dst = some L.t1 := by
  unfold litOp at h
  split at h
  · rename_i t d e1 e2
    cases hc : (Nat.beq t L.ty && Nat.beq d L.t1) with
    | false => rw [hc] at h; cases h
    | true =>
      simp only [Bool.and_eq_true] at hc
      rw [e1, e2, Nat.eq_of_beq_eq_true hc.1, Nat.eq_of_beq_eq_true hc.2]
      exact ⟨rfl, rfl⟩
  · rename_i x d e1 e2
    cases hc : (Nat.beq x L.t1 && Nat.beq d L.t2) with
    | false => rw [hc] at h; cases h
    | true => rw [hc] at h; cases h
  · rename_i t x k n v e1 e2
    cases hc : (Nat.beq t L.ty && Nat.beq x L.t1 && decide (k = L.kd)) with
    | false => rw [hc] at h; cases h
    | true => rw [hc] at h; cases h
  · rename_i t x y d e1 e2
    cases hc : (Nat.beq t L.ty && Nat.beq x L.t2) with
    | false => rw [hc] at h; cases h
    | true => rw [hc] at h; cases h
  · cases h
theorem litOp_mv {o : Oper} (h : litOp L o = .mv) : o.op = .move (.tmp L.t1) ∧ o.dst = some L.t2 := by
  unfold litOp at h
  split at h
  · rename_i t d e1 e2
    cases hc : (Nat.beq t L.ty && Nat.beq d L.t1) with
    | false => rw [hc] at h; cases h
    | true => rw [hc] at h; cases h
  · rename_i x d e1 e2
    cases hc : (Nat.beq x L.t1 && Nat.beq d L.t2) with
    | false => rw [hc] at h; cases h
    | true =>
      simp only [Bool.and_eq_true] at hc
      rw [e1, e2, Nat.eq_of_beq_eq_true hc.1, Nat.eq_of_beq_eq_true hc.2]
      exact ⟨rfl, rfl⟩
  · rename_i t x k n v e1 e2
    cases hc : (Nat.beq t L.ty && Nat.beq x L.t1 && decide (k = L.kd)) with
    | false => rw [hc] at h; cases h
    | true => rw [hc] at h; cases h
  · rename_i t x y d e1 e2
    cases hc : (Nat.beq t L.ty && Nat.beq x L.t2) with
    | false => rw [hc] at h; cases h
    | true => rw [hc] at h; cases h
  · cases h
theorem litOp_ins {o : Oper} {n : Int} {v : Operand} (h : litOp L o = .ins n v) : o.op = .insert L.ty (.tmp L.t1) (.const (.int L.kd n)) v ∧ o.dst = none := by
  unfold litOp at h
  split at h
  · rename_i t d e1 e2
    cases hc : (Nat.beq t L.ty && Nat.beq d L.t1) with
    | false => rw [hc] at h; cases h
    | true => rw [hc] at h; cases h
  · rename_i x d e1 e2
    cases hc : (Nat.beq x L.t1 && Nat.beq d L.t2) with
    | false => rw [hc] at h; cases h
    | true => rw [hc] at h; cases h
  · rename_i t x k n v e1 e2
    cases hc : (Nat.beq t L.ty && Nat.beq x L.t1 && decide (k = L.kd)) with
    | false => rw [hc] at h; cases h
    | true =>
      rw [hc] at h
      cases h
      simp only [Bool.and_eq_true, decide_eq_true_eq] at hc
      rw [e1, e2, Nat.eq_of_beq_eq_true hc.1.1, Nat.eq_of_beq_eq_true hc.1.2, hc.2]
      exact ⟨rfl, rfl⟩
  · rename_i t x y d e1 e2
    cases hc : (Nat.beq t L.ty && Nat.beq x L.t2) with
    | false => rw [hc] at h; cases h
    | true => rw [hc] at h; cases h
  · cases h
theorem litOp_look {o : Oper} {y : Operand} (h : litOp L o = .look y) : o.op = .lookup L.ty (.tmp L.t2) y false ∧ ∃ d, o.dst = some d := by
  unfold litOp at h
  split at h
  · rename_i t d e1 e2
    cases hc : (Nat.beq t L.ty && Nat.beq d L.t1) with
    | false => rw [hc] at h; cases h
    | true => rw [hc] at h; cases h
  · rename_i x d e1 e2
    cases hc : (Nat.beq x L.t1 && Nat.beq d L.t2) with
    | false => rw [hc] at h; cases h
    | true => rw [hc] at h; cases h
  · rename_i t x k n v e1 e2
    cases hc : (Nat.beq t L.ty && Nat.beq x L.t1 && decide (k = L.kd)) with
    | false => rw [hc] at h; cases h
    | true => rw [hc] at h; cases h
  · rename_i t x y d e1 e2
    cases hc : (Nat.beq t L.ty && Nat.beq x L.t2) with
    | false => rw [hc] at h; cases h
    | true =>
      rw [hc] at h
      cases h
      simp only [Bool.and_eq_true] at hc
      rw [e1, e2, Nat.eq_of_beq_eq_true hc.1, Nat.eq_of_beq_eq_true hc.2]
      exact ⟨rfl, d, rfl⟩
  · cases h
theorem neut_no {v : Value} {o : Oper} (h : litOp L o = .no) : neutO L v o = o := by unfold neutO; rw [h]
theorem neut_after (v : Value) (o : Oper) : (neutO L v o).after = o.after := by unfold neutO; split <;> rfl
theorem neut_guard (v : Value) (o : Oper) : (neutO L v o).guard = o.guard := by unfold neutO; split <;> rfl
theorem litN_size (v : Value) : (litN L v ops).size = ops.size := by simp [litN]
theorem litN_list (v : Value) : (litN L v ops).toList = ops.toList.map (neutO L v) := by simp [litN]
theorem litN_get (v : Value) (i : Nat) : (litN L v ops)[i]? = (ops[i]?).map (neutO L v) := by simp [litN]
theorem neut_dst (u v : Value) (o : Oper) : (neutO L u o).dst = (neutO L v o).dst := by unfold neutO; split <;> rfl
theorem neut_sets (u v : Value) (o : Oper) : setsB tn (neutO L u o) = setsB tn (neutO L v o) := by unfold neutO; split <;> rfl
theorem neut_names (u v : Value) (o : Oper) : namesB tn (litN L u ops) (neutO L u o) = namesB tn (litN L v ops) (neutO L v o) := by
  have h1 := neut_sets (tn := tn) (L := L) u v o
  have h2 : gTmp (litN L u ops) (neutO L u o) = gTmp (litN L v ops) (neutO L v o) := by
    unfold gTmp
    rw [neut_guard, neut_guard]
    cases o.guard with
    | none => rfl
    | some g =>
      simp only [litN_get]
      cases ops[g.1]? with
      | none => rfl
      | some q => simp only [Option.map_some, Option.bind_some, neut_dst u v q]
  unfold namesB readsB
  rw [h1, h2]
  unfold neutO
  split <;> rfl
theorem neut_cls {v : Value} {o : Oper} (h : litOp L o ≠ .no) : clsB P tn (neutO L v o) = 0 := by
  unfold neutO
  split
  · exact absurd (by assumption) h
  all_goals
    unfold clsB
    split <;> rfl
theorem neut_clsE (u v : Value) (o : Oper) : clsB P tn (neutO L u o) = clsB P tn (neutO L v o) := by
  by_cases h : litOp L o = .no
  · rw [neut_no h, neut_no h]
  · rw [neut_cls h, neut_cls h]
theorem neut_before (u v : Value) : ∀ (l : List Oper) (acc : List Nat), beforeL acc (l.map (neutO L u)) = beforeL acc (l.map (neutO L v))
  | [], _ => rfl
  | o :: l, acc => by simp only [List.map_cons, beforeL, neut_after]; exact neut_before u v l _
theorem before_eq (v : Value) : ∀ (l : List Oper) (acc : List Nat), beforeL acc (l.map (neutO L v)) = beforeL acc l
  | [], _ => rfl
  | o :: l, acc => by simp only [List.map_cons, beforeL, neut_after]; exact before_eq v l _
theorem neut_mem (u v : Value) : ∀ (l : List Oper) (i : Nat), memMask P tn i (l.map (neutO L u)) = memMask P tn i (l.map (neutO L v))
  | [], _ => rfl
  | o :: l, i => by simp only [List.map_cons, memMask, neut_clsE u v o, neut_mem u v l]
theorem neut_namers (u v : Value) (x : Nat) : ∀ (l : List Oper) (i : Nat), namersM tn (litN L u ops) x i (l.map (neutO L u)) = namersM tn (litN L v ops) x i (l.map (neutO L v))
  | [], _ => rfl
  | o :: l, i => by simp only [List.map_cons, namersM, neut_names u v o, neut_namers u v x l]
theorem neut_tmps (u v : Value) (bf : List Nat) : ∀ (l : List Oper) (i : Nat), tmpsB tn (litN L u ops) bf i (l.map (neutO L u)) = tmpsB tn (litN L v ops) bf i (l.map (neutO L v))
  | [], _ => rfl
  | o :: l, i => by
    simp only [List.map_cons, tmpsB, neut_sets u v o, neut_tmps u v bf l, litN_size]
    congr 2
    funext x
    rw [litN_list, litN_list, neut_namers u v x]
theorem neut_edges (u v : Value) : ∀ (l : List Oper) (i : Nat), edgesB i (l.map (neutO L u)) = edgesB i (l.map (neutO L v))
  | [], _ => rfl
  | o :: l, i => by
    simp only [List.map_cons, edgesB, neut_after, neut_edges u v l]
    congr 2
    cases hk : litOp L o <;> simp only [neutO, hk]
theorem neut_draw (u v : Value) (h : drawOk P tn (litN L u ops) = true) : drawOk P tn (litN L v ops) = true := by
  unfold drawOk at h ⊢
  rw [litN_list] at h ⊢
  rw [neut_before u v, neut_edges u v, neut_tmps u v] at h
  exact h

/-! ### The run, told as one of neutral operations -/
theorem kills_nil {bf : List Nat} {n mm : Nat} {T : Fr} {n0 i : Nat} {ol : List Oper} : ∀ {l : List Oper} {j0 : Nat}, (∀ j o, l[j]? = some o → modeB P tn bf n mm (j0 + j) o ≠ .store) → killsOf P tn ol bf n mm T n0 i j0 l = []
  | [], _, _ => rfl
  | o :: l, j0, h => by
    have h0 := h 0 o rfl
    have ih := kills_nil (T := T) (n0 := n0) (i := i) (ol := ol) (l := l) (j0 := j0 + 1) fun j q hq => by
      have := h (j + 1) q (by simpa using hq)
      rwa [show j0 + (j + 1) = j0 + 1 + j by omega] at this
    rw [Nat.add_zero] at h0
    unfold killsOf
    split
    · exact absurd (by assumption) h0
    · exact ih
end

section
variable {P : Program} {call : Caller} {tn : Tn} {L : LitI} {ops : Array Oper}
theorem oneB_free {N N' : Array Oper} {o : Oper} (hg : o.guard = none) {T : Fr} {s : St} : oneB P call tn N T o s = oneB P call tn N' T o s := by
  unfold oneB
  rw [hg]
theorem valB_free {N N' : Array Oper} {o : Oper} (hg : o.guard = none) {T : Fr} {s : St} : valB P call tn N T o s = valB P call tn N' T o s := by
  unfold valB
  rw [hg]
theorem drawB_free {N N' : Array Oper} {bf : List Nat} {mm : Nat} {T0 T0' : Fr} {n0 n0' i : Nat} {o : Oper} (hg : o.guard = none) (hz : N.size = N'.size) (hk : ∀ j q, N.toList[j]? = some q → modeB P tn bf N.size mm j q ≠ .store) (hk' : ∀ j q, N'.toList[j]? = some q → modeB P tn bf N.size mm j q ≠ .store) (hm : modeB P tn bf N.size mm i o ≠ .store) {T : Fr} {s : St} :
    drawB P call tn N bf mm T0 n0 i o T s = drawB P call tn N' bf mm T0' n0' i o T s := by
  have e1 := kills_nil (P := P) (tn := tn) (bf := bf) (n := N.size) (mm := mm) (T := T0) (n0 := n0) (i := i) (ol := N.toList) (l := N.toList) (j0 := 0) fun j q hq => by rw [Nat.zero_add]; exact hk j q hq
  have e2 := kills_nil (P := P) (tn := tn) (bf := bf) (n := N.size) (mm := mm) (T := T0') (n0 := n0') (i := i) (ol := N'.toList) (l := N'.toList) (j0 := 0) fun j q hq => by rw [Nat.zero_add]; exact hk' j q hq
  unfold drawB
  rw [← hz]
  split
  · exact oneB_free hg
  · rw [valB_free (N' := N') hg]
  · rw [e1, e2, valB_free (N' := N') hg]
  · exact absurd (by assumption) hm
  · rfl
theorem drawB_neut {N : Array Oper} {bf : List Nat} {mm : Nat} {T0 : Fr} {n0 i : Nat} {o : Oper} {v : Value} (hg : o.guard = none) (hn : litOp L o ≠ .no) {T T1 : Fr} {s : St} (h : opB P call tn T (neutO L v o) s (fun T s => some (T, s)) = some (T1, s)) :
    drawB P call tn N bf mm T0 n0 i (neutO L v o) T s = some (T1, s) := by
  have hm : modeB P tn bf N.size mm i (neutO L v o) = .pure := modeB_pure.2 (neut_cls hn)
  unfold drawB
  rw [hm]
  simp only
  unfold oneB
  rw [neut_guard, hg]
  exact h
theorem drawsB_frame {N : Array Oper} {bf : List Nat} {mm : Nat} {T0 : Fr} {n0 : Nat} : ∀ {l : List Oper} {i : Nat} {T T' : Fr} {s s' : St} {x : Nat}, drawsB P call tn N bf mm T0 n0 i l T s = some (T', s') → (∀ o ∈ l, x ∉ setsB tn o) → T' x = T x
  | [], _, _, _, _, _, _, h, _ => by
    simp only [drawsB, Option.some.injEq, Prod.mk.injEq] at h
    rw [h.1]
  | o :: l, i, T, T', s, s', x, h, hx => by
    simp only [drawsB, Option.bind_eq_some_iff] at h
    obtain ⟨⟨T1, s1⟩, h1, h2⟩ := h
    obtain ⟨_, _, g, _⟩ := drawB_view h1
    have e := drawsB_frame h2 fun q hq => hx q (List.mem_cons_of_mem _ hq)
    rw [e]
    exact oneB_frame g (hx o (List.mem_cons_self ..))
theorem ents_mem {n : Int} {x : Operand} : ∀ {l : List Oper}, (n, x) ∈ litEnts L l → ∃ (i : Nat) (o : Oper), l[i]? = some o ∧ litOp L o = .ins n x
  | [], h => by simp [litEnts] at h
  | o :: l, h => by
    unfold litEnts at h
    split at h
    · rename_i m v hk
      rcases List.mem_cons.1 h with e | h
      · cases e
        exact ⟨0, o, rfl, hk⟩
      · obtain ⟨i, q, h1, h2⟩ := ents_mem h
        exact ⟨i + 1, q, by simpa using h1, h2⟩
    · obtain ⟨i, q, h1, h2⟩ := ents_mem h
      exact ⟨i + 1, q, by simpa using h1, h2⟩
theorem litVals_same {T T' : Fr} : ∀ {E : List (Int × Operand)}, (∀ n t, (n, Operand.tmp t) ∈ E → T' t = T t) → litVals T' E = litVals T E
  | [], _ => rfl
  | (n, x) :: E, h => by
    have ih := litVals_same (T := T) (T' := T') (E := E) fun m t hm => h m t (List.mem_cons_of_mem _ hm)
    have hx : opd T' x = opd T x := by
      cases x with
      | tmp t => simp only [opd, getT]; rw [h n t (List.mem_cons_self ..)]
      | _ => rfl
    simp only [litVals, ih, hx]
theorem litG_const {z : Value} (hz : constOk z = true) {n : Int} : ∀ {l : List (Int × Value)}, l.all (fun e => constOk e.2) = true → constOk (litG z n l) = true
  | [], _ => hz
  | (m, v) :: l, h => by
    simp only [List.all_cons, Bool.and_eq_true] at h
    unfold litG
    split
    · exact h.1
    · exact litG_const hz h.2
theorem litF_const {kd : IntKind} {z : Value} (hz : constOk z = true) {l : List (Int × Value)} {x v : Value} (h : litF kd z l x = some v) : constOk v = true := by
  unfold litF at h
  split at h
  · rename_i hl
    split at h
    · split at h
      · cases h; exact litG_const hz hl
      · cases h
    · cases h
  · cases h

/-- what is checked of a region with a literal -/
structure LitF (P : Program) (tn : Tn) (L : LitI) (ops : Array Oper) : Prop where
  ne : L.t1 ≠ L.t2
  c1 : look L.t1 tn = none
  c2 : look L.t2 tn = none
  mkX : ∃ (i : Nat) (o : Oper), ops[i]? = some o ∧ litOp L o = .mk
  mvX : ∃ (i : Nat) (o : Oper), ops[i]? = some o ∧ litOp L o = .mv
  lk : ∃ (i : Nat) (o : Oper) (y : Operand), ops[i]? = some o ∧ litOp L o = .look y
  one : ∀ (i : Nat) (o : Oper), ops[i]? = some o → LitOne tn L ops (ops.toList.drop i) o
  pair : ∀ (i j : Nat) (a b : Oper), ops[i]? = some a → ops[j]? = some b → litPair L (beforeL [] ops.toList) i j a b = true
  mode : ∀ (i : Nat) (o : Oper), (litN L (.bool false) ops)[i]? = some o → modeB P tn (beforeL [] ops.toList) ops.size (memMask P tn 0 (litN L (.bool false) ops).toList) i o ≠ .store ∧ modeB P tn (beforeL [] ops.toList) ops.size (memMask P tn 0 (litN L (.bool false) ops).toList) i o ≠ .bad
  draw : drawOk P tn (litN L (.bool false) ops) = true
theorem any_get {f : Oper → Bool} (h : ops.toList.any f = true) : ∃ (i : Nat) (o : Oper), ops[i]? = some o ∧ f o = true := by
  obtain ⟨o, h1, h2⟩ := List.any_eq_true.1 h
  obtain ⟨i, hi, e⟩ := List.getElem_of_mem h1
  exact ⟨i, o, by rw [← e]; simp, h2⟩
theorem litOk_facts (h : litOk P tn L ops = true) : LitF P tn L ops := by
  unfold litOk at h
  simp only [Bool.and_eq_true] at h
  obtain ⟨⟨⟨⟨⟨⟨⟨⟨⟨h1, h2⟩, h3⟩, h4⟩, h5⟩, h6⟩, h7⟩, h8⟩, h9⟩, h10⟩ := h
  rw [litN_list, before_eq] at h8 h9
  refine ⟨beq_no h1, Option.isNone_iff_eq_none.1 h2, Option.isNone_iff_eq_none.1 h3, ?_, ?_, ?_, fun i o ho => litOnes_get h7 i o (by simpa using ho), fun i j a b ha hb => ?_, fun i o ho => ?_, h10⟩
  · obtain ⟨i, o, g1, g2⟩ := any_get h4
    refine ⟨i, o, g1, ?_⟩
    unfold isMk at g2
    split at g2
    · assumption
    · cases g2
  · obtain ⟨i, o, g1, g2⟩ := any_get h5
    refine ⟨i, o, g1, ?_⟩
    unfold isMv at g2
    split at g2
    · assumption
    · cases g2
  · obtain ⟨i, o, g1, g2⟩ := any_get h6
    unfold isLook at g2
    split at g2
    · exact ⟨i, o, _, g1, by assumption⟩
    · cases g2
  · have := litPairs_get h8 i a (by simpa using ha) j b (by simpa using hb)
    rwa [Nat.zero_add] at this
  · have := litModes_get h9 i o (by rw [← litN_list]; simpa using ho)
    rw [Nat.zero_add, litN_size] at this
    rw [litN_list]
    exact this
theorem LitF.modeV (hf : LitF P tn L ops) (v : Value) (i : Nat) (o : Oper) (ho : (litN L v ops)[i]? = some o) : modeB P tn (beforeL [] ops.toList) ops.size (memMask P tn 0 (litN L (.bool false) ops).toList) i o ≠ .store := by
  rw [litN_get] at ho
  cases hq : ops[i]? with
  | none => rw [hq] at ho; cases ho
  | some q =>
    rw [hq] at ho
    simp only [Option.map_some, Option.some.injEq] at ho
    subst ho
    by_cases hn : litOp L q = .no
    · rw [neut_no hn]
      have := (hf.mode i (neutO L (.bool false) q) (by rw [litN_get, hq]; rfl)).1
      rwa [neut_no hn] at this
    · rw [modeB_pure.2 (neut_cls hn)]
      simp
theorem LitF.stable (hf : LitF P tn L ops) {i0 : Nat} {o0 : Oper} (h0 : ops[i0]? = some o0) {t : Nat} (hs : opStable tn (.tmp t) (ops.toList.drop i0) = true) {p : Nat} {b : Oper} (hp : i0 ≤ p) (hb : ops[p]? = some b) : t ∉ setsB tn b := by
  refine (opStable_tmp hs).2 (p - i0) b ?_
  rw [List.getElem?_drop, show i0 + (p - i0) = p by omega]
  simpa using hb
theorem opd_of_stable {T : Fr} {x : Operand} {l : List Oper} (hs : opStable tn x l = true) : cleanO tn x = true ∧ ∃ u, opd T x = some u := by
  cases x with
  | tmp t =>
    refine ⟨?_, _, rfl⟩
    show (look t tn).isNone = true
    rw [(opStable_tmp hs).1]
    rfl
  | const c =>
    refine ⟨rfl, c, ?_⟩
    have hc : constOk c = true := hs
    simp only [opd]
    rw [if_pos hc]
  | global g => cases hs
  | func f => cases hs
theorem opB_move {T : Fr} {x : Operand} {o : Oper} {s : St} (hc : cleanO tn x = true) {u : Value} (hu : opd T x = some u) (hop : o.op = .move x) (hd : o.dst = none) : opB P call tn T o s (fun T s => some (T, s)) = some (T, s) := by
  have hk : locK tn o = .glob := by
    have ht : tOf tn x = none := Option.isNone_iff_eq_none.1 hc
    unfold locK
    rw [hop]
    simp only [ht]
    unfold globK dOf
    rw [hop, hd]
    simp [Op.operands, hc]
  unfold opB
  rw [hk]
  simp only
  unfold evalOp
  rw [hop]
  simp only [hu, Option.bind_some, hd]
  rfl
theorem opB_pick {T : Fr} {y : Operand} {o : Oper} {s : St} {v x : Value} (hc : cleanO tn y = true) (hy : opd T y = some x) (hv : constOk v = true) (hop : o.op = .pick (.const (.bool true)) (.const v) y) (hd : dOf tn o = none) : opB P call tn T o s (fun T s => some (T, s)) = some (putT T o.dst v, s) := by
  have hk : locK tn o = .glob := by
    unfold locK
    rw [hop]
    simp only
    unfold globK
    rw [hop, hd]
    have h1 : cleanO tn (.const (.bool true)) = true := rfl
    have h2 : cleanO tn (.const v) = true := rfl
    simp [Op.operands, hc, h1, h2]
  have e1 : opd T (.const (.bool true)) = some (.bool true) := rfl
  have e2 : opd T (.const v) = some v := by simp only [opd]; rw [if_pos hv]
  unfold opB
  rw [hk]
  simp only
  unfold evalOp
  rw [hop]
  simp only [e1, e2, hy, Option.bind_some]
  rfl
/-- a special one that asks nothing, as its neutral operation -/
theorem LitF.skip (hf : LitF P tn L ops) {i : Nat} {o : Oper} (ho : ops[i]? = some o) (hn : litOp L o ≠ .no) (hl : ∀ y, litOp L o ≠ .look y) {v : Value} {T : Fr} {s : St} : opB P call tn T (neutO L v o) s (fun T s => some (T, s)) = some (T, s) := by
  have h1 := hf.one i o ho
  cases hk : litOp L o with
  | no => exact absurd hk hn
  | look y => exact absurd hk (hl y)
  | mk => unfold neutO; rw [hk]; exact opB_move (x := .const (.bool false)) rfl (u := .bool false) rfl rfl rfl
  | mv => unfold neutO; rw [hk]; exact opB_move (x := .const (.bool false)) rfl (u := .bool false) rfl rfl rfl
  | ins n x =>
    unfold LitOne at h1
    rw [hk] at h1
    obtain ⟨g1, u, g2⟩ := opd_of_stable (T := T) h1.2.1
    unfold neutO
    rw [hk]
    exact opB_move (x := x) g1 g2 rfl (litOp_ins hk).2
theorem drop_at {α : Type} {l rest : List α} {a : α} {i : Nat} (h : l.drop i = a :: rest) : l[i]? = some a ∧ l.drop (i + 1) = rest := by
  have hi : i < l.length := by
    rcases Nat.lt_or_ge i l.length with g | g
    · exact g
    · rw [List.drop_eq_nil_of_le g] at h; cases h
  rw [List.drop_eq_getElem_cons hi] at h
  exact ⟨by rw [List.getElem?_eq_getElem hi, (List.cons.inj h).1], (List.cons.inj h).2⟩
theorem LitF.same (hf : LitF P tn L ops) {i : Nat} {o : Oper} (ho : ops[i]? = some o) (hn : litOp L o = .no) (v : Value) {T0 : Fr} {n0 : Nat} {T : Fr} {s : St} :
    drawB P call tn (litN L (.bool false) ops) (beforeL [] ops.toList) (memMask P tn 0 (litN L (.bool false) ops).toList) noT 0 i o T s = drawB P call tn (litN L v ops) (beforeL [] ops.toList) (memMask P tn 0 (litN L (.bool false) ops).toList) T0 n0 i o T s := by
  refine drawB_free (hf.one i o ho).1 (by rw [litN_size, litN_size]) (fun j q hq => ?_) (fun j q hq => ?_) ?_
  · rw [litN_size]; exact hf.modeV _ j q (by simpa using hq)
  · rw [litN_size]; exact hf.modeV _ j q (by simpa using hq)
  · rw [litN_size]
    have := hf.modeV v i (neutO L v o) (by rw [litN_get, ho]; rfl)
    rwa [neut_no hn] at this
theorem drawsL_noLook (hf : LitF P tn L ops) (v : Value) {T0 : Fr} {n0 : Nat} : ∀ (l : List Oper) (i : Nat) (T : Fr) (s : St) (r : Fr × St), ops.toList.drop i = l → (∀ o ∈ l, ∀ y, litOp L o ≠ .look y) →
    drawsL P call tn L ops (litN L (.bool false) ops) (beforeL [] ops.toList) (memMask P tn 0 (litN L (.bool false) ops).toList) i l T s = some r → drawsB P call tn (litN L v ops) (beforeL [] ops.toList) (memMask P tn 0 (litN L (.bool false) ops).toList) T0 n0 i (l.map (neutO L v)) T s = some r
  | [], _, _, _, _, _, _, h => h
  | o :: l, i, T, s, r, hd, hn, h => by
    obtain ⟨h1, h2⟩ := drop_at hd
    have ho : ops[i]? = some o := by simpa using h1
    simp only [List.map_cons, drawsB]
    have hl := hn o (List.mem_cons_self ..)
    cases hk : litOp L o with
    | no =>
      simp only [drawsL, hk, Option.bind_eq_some_iff] at h
      obtain ⟨p, g1, g2⟩ := h
      rw [neut_no hk, ← hf.same ho hk v, g1]
      exact drawsL_noLook hf v l (i + 1) p.1 p.2 r h2 (fun q hq => hn q (List.mem_cons_of_mem _ hq)) g2
    | look y => exact absurd hk (hl y)
    | mk =>
      simp only [drawsL, hk] at h
      rw [drawB_neut (hf.one i o ho).1 (by rw [hk]; simp) (hf.skip ho (by rw [hk]; simp) hl)]
      exact drawsL_noLook hf v l (i + 1) T s r h2 (fun q hq => hn q (List.mem_cons_of_mem _ hq)) h
    | mv =>
      simp only [drawsL, hk] at h
      rw [drawB_neut (hf.one i o ho).1 (by rw [hk]; simp) (hf.skip ho (by rw [hk]; simp) hl)]
      exact drawsL_noLook hf v l (i + 1) T s r h2 (fun q hq => hn q (List.mem_cons_of_mem _ hq)) h
    | ins m x =>
      simp only [drawsL, hk] at h
      rw [drawB_neut (hf.one i o ho).1 (by rw [hk]; simp) (hf.skip ho (by rw [hk]; simp) hl)]
      exact drawsL_noLook hf v l (i + 1) T s r h2 (fun q hq => hn q (List.mem_cons_of_mem _ hq)) h
/-- what was asked of the literal, and what it said -/
def Asked (L : LitI) (ops : Array Oper) (T' : Fr) (v : Value) : Prop := ∃ (i : Nat) (o : Oper) (y : Operand) (x : Value) (lv : List (Int × Value)), ops[i]? = some o ∧ litOp L o = .look y ∧ opd T' y = some x ∧ litVals T' (litEnts L ops.toList) = some lv ∧ litF L.kd L.z lv x = some v
theorem pick_sets {v : Value} {o : Oper} {y : Operand} {t : Nat} (hk : litOp L o = .look y) (h : t ∈ setsB tn (neutO L v o)) : t ∈ setsB tn o := by
  refine dst_sets ?_
  unfold neutO at h
  rw [hk] at h
  have hloc : locK tn { o with op := .pick (.const (.bool true)) (.const v) y } = .glob ∨ locK tn { o with op := .pick (.const (.bool true)) (.const v) y } = .bad := by
    unfold locK
    simp only
    unfold globK
    cases ((({ o with op := Op.pick (.const (.bool true)) (.const v) y } : Oper).op.operands.toList.all (cleanO tn)) && (dOf tn { o with op := Op.pick (.const (.bool true)) (.const v) y }).isNone) with
    | true => exact .inl rfl
    | false => exact .inr rfl
  unfold setsB at h
  rcases hloc with hl | hl <;> rw [hl] at h <;> exact h
theorem drawsL_look (hf : LitF P tn L ops) (hz : constOk L.z = true) {T0 : Fr} {n0 : Nat} : ∀ (l : List Oper) (i : Nat) (T T' : Fr) (s s' : St), ops.toList.drop i = l → (∃ o ∈ l, ∃ y, litOp L o = .look y) →
    drawsL P call tn L ops (litN L (.bool false) ops) (beforeL [] ops.toList) (memMask P tn 0 (litN L (.bool false) ops).toList) i l T s = some (T', s') →
    ∃ v, drawsB P call tn (litN L v ops) (beforeL [] ops.toList) (memMask P tn 0 (litN L (.bool false) ops).toList) T0 n0 i (l.map (neutO L v)) T s = some (T', s') ∧ constOk v = true ∧ Asked L ops T' v
  | [], _, _, _, _, _, _, ⟨o, ho, _⟩, _ => by cases ho
  | o :: l, i, T, T', s, s', hd, hn, h => by
    obtain ⟨h1, h2⟩ := drop_at hd
    have ho : ops[i]? = some o := by simpa using h1
    have hrest : (∀ y, litOp L o ≠ .look y) → ∃ o ∈ l, ∃ y, litOp L o = .look y := fun hne => by
      obtain ⟨q, hq, y, hy⟩ := hn
      rcases List.mem_cons.1 hq with rfl | hq
      · exact absurd hy (hne y)
      · exact ⟨q, hq, y, hy⟩
    cases hk : litOp L o with
    | no =>
      simp only [drawsL, hk, Option.bind_eq_some_iff] at h
      obtain ⟨p, g1, g2⟩ := h
      obtain ⟨v, q1, q2⟩ := drawsL_look hf hz l (i + 1) p.1 T' p.2 s' h2 (hrest (by rw [hk]; simp)) g2
      refine ⟨v, ?_, q2⟩
      simp only [List.map_cons, drawsB]
      rw [neut_no hk, ← hf.same ho hk v, g1]
      exact q1
    | mk =>
      simp only [drawsL, hk] at h
      obtain ⟨v, q1, q2⟩ := drawsL_look hf hz l (i + 1) T T' s s' h2 (hrest (by rw [hk]; simp)) h
      refine ⟨v, ?_, q2⟩
      simp only [List.map_cons, drawsB]
      rw [drawB_neut (hf.one i o ho).1 (by rw [hk]; simp) (hf.skip ho (by rw [hk]; simp) (by rw [hk]; simp))]
      exact q1
    | mv =>
      simp only [drawsL, hk] at h
      obtain ⟨v, q1, q2⟩ := drawsL_look hf hz l (i + 1) T T' s s' h2 (hrest (by rw [hk]; simp)) h
      refine ⟨v, ?_, q2⟩
      simp only [List.map_cons, drawsB]
      rw [drawB_neut (hf.one i o ho).1 (by rw [hk]; simp) (hf.skip ho (by rw [hk]; simp) (by rw [hk]; simp))]
      exact q1
    | ins m x =>
      simp only [drawsL, hk] at h
      obtain ⟨v, q1, q2⟩ := drawsL_look hf hz l (i + 1) T T' s s' h2 (hrest (by rw [hk]; simp)) h
      refine ⟨v, ?_, q2⟩
      simp only [List.map_cons, drawsB]
      rw [drawB_neut (hf.one i o ho).1 (by rw [hk]; simp) (hf.skip ho (by rw [hk]; simp) (by rw [hk]; simp))]
      exact q1
    | look y =>
      have hone := hf.one i o ho
      unfold LitOne at hone
      rw [hk] at hone
      obtain ⟨hg, hafter, hst, _, _, hdo, _, _⟩ := hone
      rw [hd] at hafter hst
      simp only [List.tail_cons] at hafter
      simp only [drawsL, hk, Option.bind_eq_some_iff] at h
      obtain ⟨x, g1, lv, g2, v, g3, g4⟩ := h
      have hcv := litF_const hz g3
      have hcy := (opd_of_stable (T := T) hst).1
      have hb : opB P call tn T (neutO L v o) s (fun T s => some (T, s)) = some (putT T o.dst v, s) := by
        unfold neutO
        rw [hk]
        exact opB_pick (o := { o with op := .pick (.const (.bool true)) (.const v) y }) hcy g1 hcv rfl hdo
      have q1 := drawsL_noLook (call := call) hf v (T0 := T0) (n0 := n0) l (i + 1) (putT T o.dst v) s (T', s') h2 (fun q hq y' e => by rw [hafter q hq] at e; cases e) g4
      have hrun : drawsB P call tn (litN L v ops) (beforeL [] ops.toList) (memMask P tn 0 (litN L (.bool false) ops).toList) T0 n0 i ((o :: l).map (neutO L v)) T s = some (T', s') := by
        simp only [List.map_cons, drawsB]
        have hdb : drawB P call tn (litN L v ops) (beforeL [] ops.toList) (memMask P tn 0 (litN L (.bool false) ops).toList) T0 n0 i (neutO L v o) T s = some (putT T o.dst v, s) := by
          have hm : modeB P tn (beforeL [] ops.toList) (litN L v ops).size (memMask P tn 0 (litN L (.bool false) ops).toList) i (neutO L v o) = .pure := modeB_pure.2 (neut_cls (by rw [hk]; simp))
          unfold drawB
          rw [hm]
          simp only
          unfold oneB
          rw [neut_guard, hg]
          exact hb
        rw [hdb]
        exact q1
      have keepT : ∀ t, (∀ q0 ∈ o :: l, t ∉ setsB tn q0) → T' t = T t := fun t ht => drawsB_frame hrun fun q hq => by
        obtain ⟨q0, hq0, rfl⟩ := List.mem_map.1 hq
        have hns := ht q0 hq0
        by_cases hno : litOp L q0 = .no
        · rw [neut_no hno]; exact hns
        · rcases List.mem_cons.1 hq0 with e2 | e2
          · subst e2
            exact fun hm => hns (pick_sets hk hm)
          · exact absurd (hafter q0 e2) hno
      refine ⟨v, hrun, hcv, i, o, y, x, lv, ho, hk, ?_, ?_, g3⟩
      · cases y with
        | tmp t =>
          have : T' t = T t := keepT t fun q0 hq0 => by
            obtain ⟨p, hp, e⟩ := List.getElem_of_mem hq0
            exact (opStable_tmp hst).2 p q0 (by rw [← e]; exact List.getElem?_eq_getElem hp)
          simp only [opd, getT] at g1 ⊢
          rw [this]
          exact g1
        | _ => exact g1
      · rw [litVals_same (T := T)]
        · exact g2
        · intro n t ht
          obtain ⟨i0, o0, h0, hk0⟩ := ents_mem ht
          have h0' : ops[i0]? = some o0 := by simpa using h0
          have hone0 := hf.one i0 o0 h0'
          unfold LitOne at hone0
          rw [hk0] at hone0
          have hi0 : i0 < i := by
            rcases Nat.lt_or_ge i0 i with g | g
            · exact g
            · exfalso
              rcases Nat.eq_or_lt_of_le g with e | e
              · subst e
                rw [ho] at h0'
                cases h0'
                rw [hk] at hk0
                cases hk0
              · have hm : o0 ∈ l := by
                  rw [← h2]
                  refine List.mem_of_getElem? (i := i0 - (i + 1)) ?_
                  rw [List.getElem?_drop, show i + 1 + (i0 - (i + 1)) = i0 by omega]
                  exact h0
                rw [hafter o0 hm] at hk0
                cases hk0
          refine keepT t fun q0 hq0 => ?_
          obtain ⟨p, hp, e⟩ := List.getElem_of_mem hq0
          have hq0i : ops[i + p]? = some q0 := by
            have : (ops.toList.drop i)[p]? = some q0 := by rw [hd, ← e]; exact List.getElem?_eq_getElem hp
            rw [List.getElem?_drop] at this
            simpa using this
          exact hf.stable h0' hone0.2.1 (show i0 ≤ i + p by omega) hq0i
end

/-! ### What is in the literal's map, in whatever order it was filled -/
theorem litG_of {f : Nat → Option (Int × Value)} {z val : Value} {n : Int} : ∀ {I : List Nat}, (∀ i ∈ I, ∀ u, f i = some (n, u) → u = val) → (∃ i ∈ I, ∃ u, f i = some (n, u)) → litG z n (I.filterMap f) = val
  | [], _, ⟨i, hi, _⟩ => by cases hi
  | i :: I, h1, h2 => by
    have hrec := fun (q : ∃ i ∈ I, ∃ u, f i = some (n, u)) => litG_of (z := z) (fun k hk => h1 k (List.mem_cons_of_mem _ hk)) q
    cases hf : f i with
    | none =>
      rw [List.filterMap_cons_none hf]
      refine hrec ?_
      obtain ⟨k, hk, u, e⟩ := h2
      rcases List.mem_cons.1 hk with rfl | hk
      · rw [hf] at e; cases e
      · exact ⟨k, hk, u, e⟩
    | some p =>
      rw [List.filterMap_cons_some hf]
      obtain ⟨m, w⟩ := p
      unfold litG
      by_cases e : n = m
      · subst e
        rw [if_pos rfl]
        exact h1 i (List.mem_cons_self ..) w hf
      · rw [if_neg e]
        refine hrec ?_
        obtain ⟨k, hk, u, e2⟩ := h2
        rcases List.mem_cons.1 hk with rfl | hk
        · rw [hf] at e2; cases e2; exact absurd rfl e
        · exact ⟨k, hk, u, e2⟩
theorem litG_none {f : Nat → Option (Int × Value)} {z : Value} {n : Int} : ∀ {I : List Nat}, (∀ i ∈ I, ∀ u, f i ≠ some (n, u)) → litG z n (I.filterMap f) = z
  | [], _ => rfl
  | i :: I, h => by
    have ih := litG_none (z := z) (I := I) fun k hk => h k (List.mem_cons_of_mem _ hk)
    cases hf : f i with
    | none => rw [List.filterMap_cons_none hf]; exact ih
    | some p =>
      rw [List.filterMap_cons_some hf]
      obtain ⟨m, w⟩ := p
      unfold litG
      rw [if_neg fun e => h i (List.mem_cons_self ..) w (by rw [hf, e])]
      exact ih
/-- the same of two that have the same -/
theorem litG_same {f : Nat → Option (Int × Value)} {z : Value} {n : Int} {I J : List Nat} (hu : ∀ i j u v m, f i = some (m, u) → f j = some (m, v) → u = v) (hIJ : ∀ i, (f i).isSome = true → (i ∈ I ↔ i ∈ J)) : litG z n (I.filterMap f) = litG z n (J.filterMap f) := by
  by_cases h : ∃ i ∈ I, ∃ u, f i = some (n, u)
  · obtain ⟨i, hi, u, e⟩ := h
    rw [litG_of (val := u) (fun k _ w hw => hu k i w u n hw e) ⟨i, hi, u, e⟩]
    rw [litG_of (val := u) (fun k _ w hw => hu k i w u n hw e) ⟨i, (hIJ i (by rw [e]; rfl)).1 hi, u, e⟩]
  · rw [litG_none fun i hi u e => h ⟨i, hi, u, e⟩]
    rw [litG_none fun j hj u e => h ⟨j, (hIJ j (by rw [e]; rfl)).2 hj, u, e⟩]
theorem idx_lit {kd k2 : IntKind} {z : Value} {n : Int} : ∀ (l : List (Int × Value)) (i : Nat), ∃ r, idxNow (.int k2) (.int kd n) (l.map fun e => Value.int kd e.1) i = some r ∧ match r with
    | some j => ∃ j0 e, j = i + j0 ∧ l[j0]? = some e ∧ e.2 = litG z n l
    | none => litG z n l = z
  | [], i => ⟨none, rfl, rfl⟩
  | (m, v) :: l, i => by
    have hs : Instr.sameNow (.int k2) (.int kd n) (.int kd m) = some (n == m) := by simp [Instr.sameNow]
    by_cases e : n = m
    · subst e
      refine ⟨some i, ?_, 0, (n, v), rfl, rfl, ?_⟩
      · simp only [List.map_cons, idxNow, hs, beq_self_eq_true]
      · unfold litG; rw [if_pos rfl]
    · obtain ⟨r, h1, h2⟩ := idx_lit (kd := kd) (k2 := k2) (z := z) (n := n) l (i + 1)
      have hne : (n == m) = false := by simp [e]
      refine ⟨r, ?_, ?_⟩
      · simp only [List.map_cons, idxNow, hs, hne]
        exact h1
      · have hg : litG z n ((m, v) :: l) = litG z n l := by
          show (if n = m then v else litG z n l) = _
          rw [if_neg e]
        rw [hg]
        cases r with
        | none => exact h2
        | some j =>
          obtain ⟨j0, e0, h3, h4, h5⟩ := h2
          exact ⟨j0 + 1, e0, by omega, by simpa using h4, h5⟩
theorem pr_bindL {P : Program} {α β : Type} (m : Sem α) (f : α → Sem β) : pureRun P (m >>= f) = (pureRun P m).bind fun a => pureRun P (f a) := by
  show pureRun P (Sem.bind m f) = _
  induction m with
  | pure a => rfl
  | program k ih => simp only [Sem.bind, pureRun]; exact ih P
  | _ => rfl
theorem pr_undL {P : Program} {t : TypeId} {d : TypeDesc} (h : P.underlying t = some d) : pureRun P (underlying t) = some d := by
  unfold underlying
  have hp : pureRun P (program : Sem Program) = some P := rfl
  rw [pr_bindL, hp]
  simp only [Option.bind_some, h]
  rfl
theorem fits_int {P : Program} {ky : TypeId} {kd k2 : IntKind} (h : P.underlying ky = some (.int k2)) (b : Bool) (n : Int) : keyFits P b ky (.int kd n) = true := by
  unfold keyFits
  have hc : constOk (.int kd n) = true := rfl
  have hk : pureRun P (Instr.checkKey b 10000 ky (.int kd n)) = some () := by
    show pureRun P (Instr.checkKey b (9999 + 1) ky (.int kd n)) = some ()
    unfold Instr.checkKey
    rw [pr_bindL, pr_undL h]
    rfl
  rw [hc, hk]
  rfl
section
variable {P : Program} {kd k2 : IntKind} {ky : TypeId} {z : Value}
/-- the entries in memory are these -/
def EsAre (kd : IntKind) (es : Array MapEntry) (l : List (Int × Value)) : Prop := es.toList.map (fun e => (e.key, e.val)) = l.map fun p => (Value.int kd p.1, p.2)
def esA (es : Array MapEntry) : List (Value × Value × Nat) := es.toList.map fun e => (e.key, e.val, e.born)
theorem esA_key {es : Array MapEntry} {l : List (Int × Value)} (h : EsAre kd es l) : (esA es).map (·.1) = l.map fun e => Value.int kd e.1 := by
  have := congrArg (List.map Prod.fst) h
  rw [List.map_map, List.map_map] at this
  unfold esA
  rw [List.map_map]
  exact this
theorem esA_val {es : Array MapEntry} {l : List (Int × Value)} (h : EsAre kd es l) {j : Nat} {e : Int × Value} (he : l[j]? = some e) : ∃ q, (esA es)[j]? = some q ∧ q.2.1 = e.2 := by
  have h1 : (es.toList.map (fun e => (e.key, e.val)))[j]? = some (Value.int kd e.1, e.2) := by rw [h, List.getElem?_map, he]; rfl
  rw [List.getElem?_map] at h1
  cases hq : es.toList[j]? with
  | none => rw [hq] at h1; cases h1
  | some q =>
    rw [hq] at h1
    simp only [Option.map_some, Option.some.injEq, Prod.mk.injEq] at h1
    exact ⟨(q.key, q.val, q.born), by unfold esA; rw [List.getElem?_map, hq]; rfl, h1.2⟩
theorem lit_lookup (hk : P.underlying ky = some (.int k2)) {es : Array MapEntry} {l : List (Int × Value)} (h : EsAre kd es l) (n : Int) : alookupE P ky z (esA es) (.int kd n) false = some (litG z n l) := by
  unfold alookupE
  rw [if_pos (fits_int hk _ _)]
  obtain ⟨r, h1, h2⟩ := idx_lit (kd := kd) (k2 := k2) (z := z) (n := n) l 0
  have hi : idxKey P ky (.int kd n) ((esA es).map (·.1)) = some r := by
    unfold idxKey
    rw [hk]
    simp only [Option.bind_some]
    rw [esA_key h, h1]
  rw [hi]
  simp only [Option.bind_some, cond_false]
  cases r with
  | none => simp only at h2; rw [h2]; rfl
  | some j =>
    obtain ⟨j0, e, h3, h4, h5⟩ := h2
    obtain ⟨q, g1, g2⟩ := esA_val h h4
    have hj : j = j0 := by omega
    subst hj
    unfold foundV
    simp only
    rw [g1, ← h5, ← g2]
theorem lit_new (hk : P.underlying ky = some (.int k2)) {es : Array MapEntry} {l : List (Int × Value)} (h : EsAre kd es l) {n : Int} (hn : ∀ p ∈ l, p.1 ≠ n) : idxKey P ky (.int kd n) ((esA es).map (·.1)) = some none := by
  unfold idxKey
  rw [hk]
  simp only [Option.bind_some]
  rw [esA_key h]
  have key : ∀ (l : List (Int × Value)) (i : Nat), (∀ p ∈ l, p.1 ≠ n) → idxNow (.int k2) (.int kd n) (l.map fun e => Value.int kd e.1) i = some none := by
    intro l
    induction l with
    | nil => intro i _; rfl
    | cons p l ih =>
      intro i hp
      have hs : Instr.sameNow (.int k2) (.int kd n) (.int kd p.1) = some (n == p.1) := by simp [Instr.sameNow]
      have hne : (n == p.1) = false := by
        have := hp p (List.mem_cons_self ..)
        simp only [beq_eq_false_iff_ne]
        exact fun e => this e.symm
      simp only [List.map_cons, idxNow, hs, hne]
      exact ih (i + 1) fun q hq => hp q (List.mem_cons_of_mem _ hq)
  rw [key l 0 hn]
theorem lit_ents {es : Array MapEntry} {l : List (Int × Value)} (h : EsAre kd es l) (hc : ∀ p ∈ l, constOk p.2 = true) {ι : Emb} : All2 (entRel ι) (esA es) es.toList := by
  have key : ∀ (m : List MapEntry) (l : List (Int × Value)), m.map (fun e => (e.key, e.val)) = l.map (fun p => (Value.int kd p.1, p.2)) → (∀ p ∈ l, constOk p.2 = true) → All2 (entRel ι) (m.map fun e => (e.key, e.val, e.born)) m := by
    intro m
    induction m with
    | nil => intro _ _ _; trivial
    | cons e m ih =>
      intro l hl hc
      cases l with
      | nil => simp at hl
      | cons p l =>
        simp only [List.map_cons, List.cons.injEq, Prod.mk.injEq] at hl
        refine ⟨⟨rfl, ?_, ?_, rfl⟩, ih l hl.2 fun q hq => hc q (List.mem_cons_of_mem _ hq)⟩
        · simp only [hl.1.1]; rfl
        · simp only [hl.1.2]; exact const_VA (hc p (List.mem_cons_self ..))
  exact key es.toList l h hc
/-- a map of constants, told alone -/
theorem lit_sim {es : Array MapEntry} {l : List (Int × Value)} (h : EsAre kd es l) (hc : ∀ p ∈ l, constOk p.2 = true) {c clock : Nat} {w : World} (hw : w.heap[c]? = some (.map es clock)) :
    Sim 0 (fun b => if b = 0 then some ⟨c, 0, 0, 0⟩ else none) [.map (esA es) clock] w := by
  have h0 : ∀ (b : Nat) (B : Blk), [Blk.map (esA es) clock][b]? = some B → b = 0 ∧ B = .map (esA es) clock := fun b B hb => by
    cases b with
    | zero => simp at hb; exact ⟨rfl, hb.symm⟩
    | succ b => simp at hb
  refine ⟨fun b x hx => ?_, fun b n cells st hb _ l hl => ?_, fun b es2 clock2 hb l hl => ?_, fun a b ha hb hne => ?_, Nat.zero_le _, fun b n cells st hb _ l hl => ?_⟩
  · split at hx
    · rename_i e; subst e; simp
    · cases hx
  · cases (h0 b _ hb).2
  · obtain ⟨rfl, e⟩ := h0 b _ hb
    cases e
    simp only [if_true, Option.some.injEq] at hl
    subst hl
    refine ⟨Nat.zero_le _, ⟨rfl, Nat.le_refl _⟩, es, hw, ?_⟩
    exact lit_ents h hc
  · have a0 : a = 0 := by
      cases a with
      | zero => rfl
      | succ a => simp [ownB] at ha
    have b0 : b = 0 := by
      cases b with
      | zero => rfl
      | succ b => simp [ownB] at hb
    exact absurd (a0.trans b0.symm) hne
  · cases (h0 b _ hb).2
end
section
variable {P : Program} {o : Oper} {a : Act} {w : World} {ky el : TypeId} {kd k2 : IntKind} {ty : TypeId} {z : Value}
/-- it is made -/
theorem lit_make (ho : o.op = .makeMap ty none) (ht : P.underlying ty = some (.map ky el)) : OpOk P o a w fun v' w' => ∃ c es clock, w.heap.size ≤ c ∧ v' = .map (some c) ∧ w'.heap[c]? = some (.map es clock) ∧ EsAre kd es [] ∧ (∀ b, b < w.heap.size → w'.heap[b]? = w.heap[b]?) ∧ w.heap.size ≤ w'.heap.size ∧ w'.os = w.os ∧ w'.tape = w.tape ∧ w'.output = w.output := by
  have hS : Sim 0 (fun _ => none) ([] : List Blk) w := ⟨fun b x hx => (by cases hx), fun b n cells st hb => (by simp at hb), fun b es clock hb => (by simp at hb), fun a b ha => (by simp [ownB] at ha), Nat.zero_le _, fun b n cells st hb => (by simp at hb)⟩
  refine (so_makeMap (s := ⟨[]⟩) (s' := ⟨[.map [] 0]⟩) (v := .map (some 0)) (vr := none) ho hS ht .none rfl).mono fun v' w' hA => ?_
  obtain ⟨κ, h1, h2, h3⟩ := hA
  obtain ⟨l, hl, rfl⟩ := h3.inv_map
  obtain ⟨_, _, es, g1, g2⟩ := h1.map 0 [] 0 rfl l hl
  have hge : w.heap.size ≤ l.blk := by
    rcases h2.img 0 l hl (Nat.zero_le _) with h | ⟨q, y, hq, _⟩
    · exact h
    · simp [ownB] at hq
  refine ⟨l.blk, es, 0, hge, rfl, g1, ?_, fun b hb => h2.keep b hb fun q y hq => by simp [ownB] at hq, h2.size, h2.os, h2.tape, h2.output⟩
  have := g2.length
  unfold EsAre
  cases he : es.toList with
  | nil => rfl
  | cons x m => rw [he] at this; simp at this
/-- it is filled -/
theorem lit_put {x y : Operand} {n : Int} (ho : o.op = .insert ty x (.const (.int kd n)) y) (ht : P.underlying ty = some (.map ky el)) (hk : P.underlying ky = some (.int k2)) {c clock : Nat} {es : Array MapEntry} {l : List (Int × Value)} (hx : a.eval x = .map (some c)) (hw : w.heap[c]? = some (.map es clock)) (hE : EsAre kd es l) (hc : ∀ p ∈ l, constOk p.2 = true) (hn : ∀ p ∈ l, p.1 ≠ n) {v : Value} (hv : constOk v = true) (hy : a.eval y = v) :
    OpOk P o a w fun v' w' => ∃ es2 clock2, w'.heap[c]? = some (.map es2 clock2) ∧ EsAre kd es2 (l ++ [(n, v)]) ∧ (∀ b, b < w.heap.size → b ≠ c → w'.heap[b]? = w.heap[b]?) ∧ w.heap.size ≤ w'.heap.size ∧ w'.os = w.os ∧ w'.tape = w.tape ∧ w'.output = w.output := by
  have hS := lit_sim hE hc hw
  have hup : amapUpdate P ky (.map (some 0)) (.int kd n) v ⟨[.map (esA es) clock]⟩ = some ⟨[.map (esA es ++ [(.int kd n, v, clock)]) (clock + 1)]⟩ := by
    have htup : isTup v = false := by cases v <;> first | rfl | (simp [constOk, leafOk] at hv)
    unfold amapUpdate
    rw [htup]
    simp only [Bool.false_eq_true, if_false, List.getElem?_cons_zero]
    rw [if_pos (fits_int hk _ _), lit_new hk hE hn]
    rfl
  have hev : VRel (fun b => if b = 0 then some (⟨c, 0, 0, 0⟩ : Loc) else none) (.map (some 0)) (a.eval x) := by
    rw [hx]
    exact .of0 (.map (l := ⟨c, 0, 0, 0⟩) rfl)
  refine (so_mapUpdate (s := ⟨[.map (esA es) clock]⟩) (s' := ⟨[.map (esA es ++ [(.int kd n, v, clock)]) (clock + 1)]⟩) (.inr ho) hS ht hev (k := .int kd n) (constOk_rel rfl) (v := v) (by rw [hy]; exact constOk_rel hv) hup).mono fun v' w' hA => ?_
  obtain ⟨κ, h1, h2, _⟩ := hA
  have hκ : κ 0 = some ⟨c, 0, 0, 0⟩ := h2.le 0 _ rfl
  obtain ⟨_, _, es2, g1, g2⟩ := h1.map 0 _ _ rfl _ hκ
  refine ⟨es2, clock + 1, g1, ?_, fun b hb hbc => h2.keep b hb fun q y hq hy2 => ?_, h2.size, h2.os, h2.tape, h2.output⟩
  · have key : ∀ (m : List (Value × Value × Nat)) (m' : List MapEntry) (l : List (Int × Value)), All2 (entRel κ) m m' → m.map (fun e => (e.1, e.2.1)) = l.map (fun p => (Value.int kd p.1, p.2)) → (∀ p ∈ l, constOk p.2 = true) → m'.map (fun e => (e.key, e.val)) = l.map fun p => (Value.int kd p.1, p.2) := by
      intro m
      induction m with
      | nil =>
        intro m' l h hl _
        cases m' with
        | nil => simpa using hl
        | cons => exact h.elim
      | cons e m ih =>
        intro m' l h hl hc
        cases m' with
        | nil => exact h.elim
        | cons e' m' =>
          cases l with
          | nil => simp at hl
          | cons p l =>
            simp only [List.map_cons, List.cons.injEq, Prod.mk.injEq] at hl ⊢
            obtain ⟨⟨q1, _, q3, _⟩, q5⟩ := h
            have hval : e'.val = p.2 := by
              have hcp := hc p (List.mem_cons_self ..)
              rw [hl.1.2] at q3
              exact const_eqV hcp (.va q3)
            exact ⟨⟨q1.trans hl.1.1, hval⟩, ih m' l q5 hl.2 fun r hr => hc r (List.mem_cons_of_mem _ hr)⟩
    refine key _ es2.toList (l ++ [(n, v)]) g2 ?_ fun p hp => ?_
    · have h0 : (esA es).map (fun e => (e.1, e.2.1)) = l.map fun p => (Value.int kd p.1, p.2) := by
        have := hE
        unfold EsAre at this
        unfold esA
        rw [List.map_map]
        exact this
      rw [List.map_append, List.map_append, h0]
      rfl
    · rcases List.mem_append.1 hp with hp | hp
      · exact hc p hp
      · simp at hp
        rw [hp]
        exact hv
  · have q0 : q = 0 := by
      cases q with
      | zero => rfl
      | succ q => simp [ownB] at hq
    subst q0
    simp only [if_true, Option.some.injEq] at hy2
    rw [← hy2]
    exact fun e => hbc e.symm
/-- it is asked -/
theorem lit_ask {x y : Operand} {n : Int} (ho : o.op = .lookup ty x y false) (ht : P.underlying ty = some (.map ky el)) (hz : zeroT P el = some z) (hk : P.underlying ky = some (.int k2)) {c clock : Nat} {es : Array MapEntry} {l : List (Int × Value)} (hx : a.eval x = .map (some c)) (hw : w.heap[c]? = some (.map es clock)) (hE : EsAre kd es l) (hc : ∀ p ∈ l, constOk p.2 = true) (hy : a.eval y = .int kd n) :
    OpOk P o a w fun v' w' => v' = litG z n l ∧ w' = w := by
  obtain ⟨_, _, _, hzc⟩ := zeroT_info hz
  have hcv : constOk (litG z n l) = true := litG_const hzc (List.all_eq_true.2 fun p hp => hc p hp)
  obtain ⟨ek, v', b, i, h1, h2, h3, h4⟩ := lookupE_run (P := P) (w := w) (ι := fun _ => none) (el := el) (k := .int kd n) (k' := a.eval y) (ok := false) (lit_ents hE hc) hz (by rw [hy]; exact constOk_rel rfl) (lit_lookup (z := z) hk hE n)
  have hv' : v' = litG z n l := const_eqV hcv h4
  refine .inl ⟨v', w, ?_, hv', rfl⟩
  cases i with
  | none =>
    obtain ⟨rfl, rfl⟩ := h3
    simp [execOp, ho, Instr.lookup, hx, ek, run_underlying' ht, getObj_run hw, h1, h2, run_zeroValue' hz, Result.andThen]
  | some p =>
    obtain ⟨rfl, rfl⟩ := h3
    simp [execOp, ho, Instr.lookup, hx, ek, run_underlying' ht, getObj_run hw, h1, h2, Result.andThen]
end

/-! ### What is no one else's changes; all else stays -/
section
variable {P : Program} {call : Caller} {tn : Tn} {n m : Nat} {N : Array Oper} {t : DTrace P call tn N} {wb : Nat} {D : Nat → Prop} {j : Nat} {ι0 ι : Emb} {H0 : List Blk} {lam lam' : Lam} {w0 w w' : World} {tmps tmps' : Array Value}
theorem quiet_heap {o : Oper} (ho : N[j]? = some o) (hcl : clsB P tn o = 0) : t.H (j + 1) = t.H j := by
  obtain ⟨Hv, R, s1, s2, s3, s4, s5, s6⟩ := t.step j o ho
  have hR : R = Hv := by
    have := (oneB_pure hcl s1).1
    exact congrArg St.heap this
  subst hR
  apply List.ext_getElem?
  intro b
  rcases Nat.lt_or_ge b (t.H j).length with hb | hb
  · rw [s4 b hb]
    split
    · rename_i hv
      rw [s3 b, hv]
      cases (t.H j)[b]? <;> rfl
    · rfl
  · rw [s5 b hb, List.getElem?_eq_none (by omega), List.getElem?_eq_none hb]
theorem quiet_HD {o : Oper} (ho : N[j]? = some o) (hcl : clsB P tn o = 0) (hn : t.Next D j) {b : Nat} (hc : t.cre D b) : t.HD (DTrace.plus D j) b = t.HD D b ∧ t.L (t.ver D b) ≤ t.L (t.ver (DTrace.plus D j) b) := by
  have hH := quiet_heap (t := t) ho hcl
  by_cases hw : t.wr j b
  · have hv := hn.ver_wr hw
    rcases hw with ⟨h1, h2⟩ | ⟨h1, h2⟩
    · obtain ⟨g1, g2⟩ := hn.agree h1 hc (by rw [h2]; simp)
      rw [hv]
      refine ⟨?_, t.L_mono (by omega) hn.lt⟩
      unfold DTrace.HD at g2 ⊢
      rw [hv, g2, hH]
    · unfold DTrace.L at h1 h2
      rw [hH] at h2
      omega
  · have hv := hn.ver_not hw
    unfold DTrace.HD
    rw [hv]
    exact ⟨rfl, Nat.le_refl _⟩
theorem DInv.ghost (hH0 : H0.length ≤ t.L 0) (h : DInv t n wb D ι0 H0 w0 ι lam w tmps) (hn : t.Next D j) {oN : Oper} (hoN : N[j]? = some oN) (hcl : clsB P tn oN = 0) {q : Nat} (hq : q < n) (hqt : ∀ x, look x tn ≠ some q)
    (hlam : ∀ i, i ≠ q → lam' i = lam i) (hlq : ∀ c, lam' q = some c → w0.heap.size ≤ c ∧ c < w'.heap.size ∧ (w.heap.size ≤ c ∨ (lam q = some c ∧ ∃ es clock, w.heap[c]? = some (.map es clock)))) (hw : ∀ b, b < w.heap.size → lam' q ≠ some b → w'.heap[b]? = w.heap[b]?)
    (hsz : w.heap.size ≤ w'.heap.size) (hos : w'.os = w.os) (htape : w'.tape = w.tape) (hout : w'.output = w.output) {Z : List Nat} (hZ : ∀ x ∈ Z, ∀ i, i ≤ N.size → t.Tr i x = poisonV) (htm : ∀ x, x ∉ setsB tn oN → x ∉ Z → tmps'.getD x undef = tmps.getD x undef)
    (hset : ∀ x ∈ setsB tn oN, NRel tn n (ι.cut (t.L (j + 1))) lam' w' tmps' x (t.Tr (j + 1) x)) : DInv t n wb (DTrace.plus D j) ι0 H0 w0 ι lam' w' tmps' := by
  have hHD := fun {b : Nat} (hc : t.cre D b) => quiet_HD (t := t) hoN hcl hn hc
  have hcells : ∀ (b : Nat) cs e fz, w.heap[b]? = some (Obj.cells cs e fz) → w'.heap[b]? = some (Obj.cells cs e fz) := fun b cs e fz hb => by
    have hlt := (Array.getElem?_eq_some_iff.1 hb).1
    rw [hw b hlt fun e2 => ?_]
    · exact hb
    · obtain ⟨_, _, g⟩ := hlq b e2
      rcases g with g | ⟨_, es, ck, g⟩
      · omega
      · rw [hb] at g; cases g
  have hmaps : ∀ (a b : Nat) es ck (l : Loc), t.HD D a = some (.map es ck) → ι a = some l → l.blk = b → ∀ es', w.heap[b]? = some (Obj.map es' ck) → w'.heap[b]? = some (Obj.map es' ck) := fun a b es ck l ha hl hb es' hm => by
    have hlt := (Array.getElem?_eq_some_iff.1 hm).1
    rw [hw b hlt fun e2 => ?_]
    · exact hm
    · obtain ⟨_, _, g⟩ := hlq b e2
      rcases g with g | ⟨g, _⟩
      · omega
      · exact h.lexcl q b g a l (by rw [ha]; rfl) hl hb
  constructor
  · intro b x hx
    rcases h.dom b x hx with hc | ⟨k, hk, hd, h1, h2⟩
    · exact .inl hc
    · exact .inr ⟨k, hk, .inl hd, h1, h2⟩
  · intro b n' cells st hb hst l hl
    obtain ⟨e1, e2⟩ := hHD (h.dom b l hl)
    rw [e1] at hb
    obtain ⟨cs, e, fz, q1, q2, q3, q4⟩ := h.row b n' cells st hb hst l hl
    refine ⟨cs, e, fz, hcells _ _ _ _ q1, q2, q3, fun i v hi => ?_⟩
    obtain ⟨v', p1, p2⟩ := q4 i v hi
    exact ⟨v', p1, p2.mono (Emb.cut_mono (.refl _) e2)⟩
  · intro b es ck hb l hl
    obtain ⟨e1, e2⟩ := hHD (h.dom b l hl)
    rw [e1] at hb
    obtain ⟨q1, q2, es', q3, q4⟩ := h.map b es ck hb l hl
    exact ⟨q1, q2, es', hmaps b _ es ck l hb hl rfl es' q3, q4.mono fun x e he => entRel_mono (Emb.cut_mono (.refl _) e2) he⟩
  · intro a b ha hb hne x y hx hy
    rw [(hHD (h.dom a x hx)).1] at ha
    rw [(hHD (h.dom b y hy)).1] at hb
    exact h.excl a b ha hb hne x y hx hy
  · exact Nat.le_trans h.size hsz
  · intro b n' cells st hb hst l hl
    rw [(hHD (h.dom b l hl)).1] at hb
    exact h.loc b n' cells st hb hst l hl
  · exact h.le
  · exact h.old
  · exact h.img
  · intro c hc hno
    have h1 := h.keep c hc hno
    rw [hw c (Nat.lt_of_lt_of_le hc h.size0) fun e2 => by have := (hlq c e2).1; omega]
    exact h1
  · exact Nat.le_trans h.size0 hsz
  · rw [hos]; exact h.os
  · rw [htape]; exact h.tape
  · rw [hout]; exact h.output
  · intro a ha ho
    rw [(hHD (.inl (Nat.lt_of_lt_of_le ha hH0))).1] at ho
    exact h.own a ha ho
  · intro i b hi
    by_cases he : i = q
    · subst he
      exact ⟨(hlq b hi).1, (hlq b hi).2.1⟩
    · rw [hlam i he] at hi
      exact ⟨(h.lo i b hi).1, Nat.lt_of_lt_of_le (h.lo i b hi).2 hsz⟩
  · intro i b hi a y ha hy
    rw [(hHD (h.dom a y hy)).1] at ha
    by_cases he : i = q
    · subst he
      obtain ⟨_, _, g⟩ := hlq b hi
      rcases g with g | ⟨g, _⟩
      · have := (h.lt ha hy).1
        omega
      · exact h.lexcl i b g a y ha hy
    · rw [hlam i he] at hi
      exact h.lexcl i b hi a y ha hy
  · intro i k b hi hk
    by_cases e1 : i = q
    · by_cases e2 : k = q
      · rw [e1, e2]
      · subst e1
        rw [hlam k e2] at hk
        obtain ⟨_, _, g⟩ := hlq b hi
        rcases g with g | ⟨g, _⟩
        · have := (h.lo k b hk).2
          omega
        · exact h.linj i k b g hk
    · by_cases e2 : k = q
      · subst e2
        rw [hlam i e1] at hi
        obtain ⟨_, _, g⟩ := hlq b hk
        rcases g with g | ⟨g, _⟩
        · have := (h.lo i b hi).2
          omega
        · exact h.linj i k b hi g
      · rw [hlam i e1] at hi
        rw [hlam k e2] at hk
        exact h.linj i k b hi hk
  · intro x
    by_cases hs : x ∈ setsB tn oN
    · rw [hn.verT_set hoN hs]
      exact hset x hs
    · have hns : ¬ t.sets j x := fun ⟨o, h1, h2⟩ => by
        rw [hoN] at h1
        cases h1
        exact hs h2
      rw [hn.verT_not hns]
      by_cases hz : x ∈ Z
      · rw [hZ x hz (t.verT D x) (last_le _ _)]
        exact NRel.poison
      · have h0 := h.nm x
        unfold NRel at h0 ⊢
        rw [htm x hs hz]
        split
        · rename_i hx
          rw [if_pos hx] at h0
          cases hl : look x tn with
          | none => rw [hl] at h0; exact h0
          | some k =>
            rw [hl] at h0
            rcases h0 with g | ⟨off, blk, g1, g2, g3⟩
            · exact .inl g
            · exact .inr ⟨off, blk, g1, by rw [hlam k fun e => hqt x (by rw [hl, e])]; exact g2, g3⟩
        · rename_i hx
          rw [if_neg hx] at h0
          intro cells hc
          obtain ⟨blk, cs, e, fz, g1, g2, g3, g4⟩ := h0 cells hc
          exact ⟨blk, cs, e, fz, by rw [hlam x (by omega)]; exact g1, hcells _ _ _ _ g2, g3, g4⟩
end

/-! ### The region -/
theorem move_sets {tn : Tn} {o : Oper} {x : Operand} (hop : o.op = .move x) (hd : o.dst = none) : setsB tn o = [] := by
  have hk : locK tn o = .glob ∨ locK tn o = .bad := by
    unfold locK
    rw [hop]
    simp only
    cases tOf tn x with
    | some j => unfold dOf; rw [hd]; exact .inr rfl
    | none =>
      simp only
      unfold globK
      cases (o.op.operands.toList.all (cleanO tn) && (dOf tn o).isNone) with
      | true => exact .inl rfl
      | false => exact .inr rfl
  unfold setsB
  rcases hk with h | h <;> rw [h, hd] <;> rfl
section
variable {P : Program} {call : Caller} {tn : Tn} {n m : Nat} {L : LitI} {ops : Array Oper} {v : Value}
theorem neut_sub {o : Oper} {x : Nat} (h : x ∈ setsB tn (neutO L v o)) : (litOp L o = .no ∨ ∃ y, litOp L o = .look y) ∧ x ∈ setsB tn o := by
  cases hk : litOp L o with
  | no => rw [neut_no hk] at h; exact ⟨.inl rfl, h⟩
  | look y => exact ⟨.inr ⟨y, rfl⟩, pick_sets hk h⟩
  | mk =>
    exfalso
    unfold neutO at h
    rw [hk] at h
    rw [move_sets (x := .const (.bool false)) rfl rfl] at h
    cases h
  | mv =>
    exfalso
    unfold neutO at h
    rw [hk] at h
    rw [move_sets (x := .const (.bool false)) rfl rfl] at h
    cases h
  | ins q y =>
    exfalso
    unfold neutO at h
    rw [hk] at h
    have h : x ∈ setsB tn { o with op := .move y } := h
    rw [move_sets (o := { o with op := .move y }) (x := y) rfl (litOp_ins hk).2] at h
    cases h
variable (t : DTrace P call tn (litN L v ops))
/-- what the i-th puts in -/
def entAt (i : Nat) : Option (Int × Value) := (ops[i]?).bind fun o => match litOp L o with
  | .ins n x => (opd (t.Tr i) x).map fun u => (n, u)
  | _ => none
structure LitC (n : Nat) (ky el : TypeId) : Prop where
  hf : LitF P tn L ops
  ht : P.underlying L.ty = some (.map ky el)
  hk : P.underlying ky = some (.int L.kd)
  hz : zeroT P el = some L.z
  bef : ∀ i j, ((beforeL [] ops.toList).getD j 0).testBit i = true → t.bef i j
  pois : t.Tr 0 L.t1 = poisonV ∧ t.Tr 0 L.t2 = poisonV
  ask : Asked L ops (t.Tr ops.size) v
  cst : constOk v = true
  ok : ∀ (i : Nat) (o : Oper), ops[i]? = some o → operBB n ops o = true
  far : ∀ x, x < n → ∀ y, look y tn ≠ some x
structure GInv (D : Nat → Prop) (lam : Lam) (w : World) (tmps : Array Value) : Prop where
  mkG : ∀ (i : Nat) (o : Oper), ops[i]? = some o → litOp L o = .mk → D i → ∃ (c : Nat) (es : Array MapEntry) (clock : Nat) (I : List Nat), lam L.t1 = some c ∧ w.heap[c]? = some (.map es clock) ∧ tmps.getD L.t1 undef = .map (some c) ∧ EsAre L.kd es (I.filterMap (entAt t)) ∧ (∀ k ∈ I, D k) ∧ ∀ k, (entAt t k).isSome = true → D k → k ∈ I
  mvG : ∀ (i : Nat) (o : Oper), ops[i]? = some o → litOp L o = .mv → D i → ∃ c, lam L.t1 = some c ∧ tmps.getD L.t2 undef = .map (some c)
variable {t}
theorem entAt_ins {i : Nat} {q : Int} {u : Value} (h : entAt t i = some (q, u)) : ∃ o x, ops[i]? = some o ∧ litOp L o = .ins q x ∧ opd (t.Tr i) x = some u := by
  unfold entAt at h
  cases ho : ops[i]? with
  | none => rw [ho] at h; cases h
  | some o =>
    rw [ho] at h
    simp only [Option.bind_some] at h
    cases hk : litOp L o with
    | ins n x =>
      rw [hk] at h
      simp only [Option.map_eq_some_iff] at h
      obtain ⟨u', h1, h2⟩ := h
      cases h2
      exact ⟨o, x, rfl, hk, h1⟩
    | _ => rw [hk] at h; cases h
theorem entAt_some {i : Nat} {o : Oper} {q : Int} {x : Operand} {u : Value} (ho : ops[i]? = some o) (hk : litOp L o = .ins q x) (hu : opd (t.Tr i) x = some u) : entAt t i = some (q, u) := by
  unfold entAt
  rw [ho]
  simp only [Option.bind_some, hk, hu, Option.map_some]
section
variable {ky el : TypeId} (C : LitC t n ky el)
include C
theorem LitC.pair {i j : Nat} {a b : Oper} (ha : ops[i]? = some a) (hb : ops[j]? = some b) : litPair L (beforeL [] ops.toList) i j a b = true := C.hf.pair i j a b ha hb
theorem LitC.uniq {i j : Nat} {q : Int} {u w : Value} (hi : entAt t i = some (q, u)) (hj : entAt t j = some (q, w)) : i = j := by
  obtain ⟨a, x, h1, h2, _⟩ := entAt_ins hi
  obtain ⟨b, y, g1, g2, _⟩ := entAt_ins hj
  have := C.pair h1 g1
  unfold litPair at this
  rw [h2, g2] at this
  simp only [Bool.or_eq_true, decide_eq_true_eq, ne_eq, not_true, or_false] at this
  exact Nat.eq_of_beq_eq_true this
theorem LitC.poisT (i : Nat) (hi : i ≤ ops.size) : t.Tr i L.t1 = poisonV ∧ t.Tr i L.t2 = poisonV := by
  have key : ∀ x, (∀ o ∈ ops.toList, x ∉ setsB tn (neutO L v o)) → t.Tr i x = t.Tr 0 x := fun x hx => by
    refine t.frameT (Nat.zero_le _) (by rw [litN_size]; exact hi) fun k _ _ ⟨o, ho, hs⟩ => ?_
    rw [litN_get] at ho
    cases hq : ops[k]? with
    | none => rw [hq] at ho; cases ho
    | some o' =>
      rw [hq] at ho
      simp only [Option.map_some, Option.some.injEq] at ho
      subst ho
      exact hx o' (by have := Array.mem_of_getElem? hq; simpa using this) hs
  have no : ∀ x, x = L.t1 ∨ x = L.t2 → ∀ o ∈ ops.toList, x ∉ setsB tn (neutO L v o) := fun x hx o ho hs => by
    obtain ⟨k, hk1, e⟩ := List.getElem_of_mem ho
    have hq : ops[k]? = some o := by rw [← e]; simp
    have hone := C.hf.one k o hq
    obtain ⟨h1, h2⟩ := neut_sub hs
    unfold LitOne at hone
    rcases h1 with h1 | ⟨y, h1⟩
    · rw [h1] at hone
      have hn : x ∈ namesB tn ops o := by unfold namesB; simp [h2]
      rcases hx with rfl | rfl
      · exact hone.2.1 hn
      · exact hone.2.2 hn
    · rw [h1] at hone
      have hd : x ∈ o.dst.toList := by
        unfold neutO at hs
        rw [h1] at hs
        have hloc : locK tn { o with op := .pick (.const (.bool true)) (.const v) y } = .glob ∨ locK tn { o with op := .pick (.const (.bool true)) (.const v) y } = .bad := by
          unfold locK
          simp only
          unfold globK
          cases ((({ o with op := Op.pick (.const (.bool true)) (.const v) y } : Oper).op.operands.toList.all (cleanO tn)) && (dOf tn { o with op := Op.pick (.const (.bool true)) (.const v) y }).isNone) with
          | true => exact .inl rfl
          | false => exact .inr rfl
        unfold setsB at hs
        rcases hloc with hl | hl <;> rw [hl] at hs <;> exact hs
      have hd' : o.dst = some x := by
        cases hdd : o.dst with
        | none => rw [hdd] at hd; simp at hd
        | some d => rw [hdd] at hd; simp at hd; rw [hd]
      rcases hx with rfl | rfl
      · exact hone.2.2.2.2.2.2.1 hd'
      · exact hone.2.2.2.2.2.2.2 hd'
  rw [key L.t1 (no L.t1 (.inl rfl)), key L.t2 (no L.t2 (.inr rfl))]
  exact C.pois
/-- what is not set again -/
theorem LitC.still {i : Nat} {o : Oper} (ho : ops[i]? = some o) {x : Nat} (hs : opStable tn (.tmp x) (ops.toList.drop i) = true) {k : Nat} (hk : i ≤ k) (hk2 : k ≤ ops.size) : t.Tr k x = t.Tr i x := by
  refine t.frameT hk (by rw [litN_size]; exact hk2) fun p hp _ ⟨q, hq, hset⟩ => ?_
  rw [litN_get] at hq
  cases hb : ops[p]? with
  | none => rw [hb] at hq; cases hq
  | some b =>
    rw [hb] at hq
    simp only [Option.map_some, Option.some.injEq] at hq
    subst hq
    exact C.hf.stable ho hs hp hb (neut_sub hset).2
theorem LitC.vals : ∀ (l : List Oper) (i : Nat) (lv : List (Int × Value)), ops.toList.drop i = l → litVals (t.Tr ops.size) (litEnts L l) = some lv → lv = (List.range' i l.length).filterMap (entAt t)
  | [], _, lv, _, h => by
    simp only [litEnts, litVals, Option.some.injEq] at h
    rw [← h]
    rfl
  | o :: l, i, lv, hd, h => by
    obtain ⟨h1, h2⟩ := drop_at hd
    have ho : ops[i]? = some o := by simpa using h1
    have hi : i < ops.size := (Array.getElem?_eq_some_iff.1 ho).1
    have hone := C.hf.one i o ho
    unfold LitOne at hone
    rw [List.length_cons, List.range'_succ]
    unfold litEnts at h
    cases hk : litOp L o with
    | ins q x =>
      rw [hk] at h hone
      simp only [litVals, Option.bind_eq_some_iff] at h
      obtain ⟨u, hu, m, hm, h⟩ := h
      cases h
      have hu' : opd (t.Tr i) x = some u := by
        cases x with
        | tmp y => simp only [opd, getT] at hu ⊢; rw [← C.still ho hone.2.1 (Nat.le_of_lt hi) (Nat.le_refl _)]; exact hu
        | _ => exact hu
      rw [List.filterMap_cons_some (entAt_some ho hk hu'), ← LitC.vals l (i + 1) m h2 hm]
    | no =>
      rw [hk] at h
      have he : entAt t i = none := by unfold entAt; rw [ho]; simp only [Option.bind_some, hk]
      rw [List.filterMap_cons_none he]
      exact LitC.vals l (i + 1) lv h2 h
    | mk =>
      rw [hk] at h
      have he : entAt t i = none := by unfold entAt; rw [ho]; simp only [Option.bind_some, hk]
      rw [List.filterMap_cons_none he]
      exact LitC.vals l (i + 1) lv h2 h
    | mv =>
      rw [hk] at h
      have he : entAt t i = none := by unfold entAt; rw [ho]; simp only [Option.bind_some, hk]
      rw [List.filterMap_cons_none he]
      exact LitC.vals l (i + 1) lv h2 h
    | look y =>
      rw [hk] at h
      have he : entAt t i = none := by unfold entAt; rw [ho]; simp only [Option.bind_some, hk]
      rw [List.filterMap_cons_none he]
      exact LitC.vals l (i + 1) lv h2 h
/-- what is asked, and the answer -/
theorem LitC.answer : ∃ (i : Nat) (o : Oper) (y : Operand) (q : Int), ops[i]? = some o ∧ litOp L o = .look y ∧ opd (t.Tr i) y = some (.int L.kd q) ∧ v = litG L.z q ((List.range ops.size).filterMap (entAt t)) ∧ ∀ k p, entAt t k = some p → constOk p.2 = true := by
  obtain ⟨i, o, y, x, lv, h1, h2, h3, h4, h5⟩ := C.ask
  have hl := C.vals ops.toList 0 lv rfl h4
  have hlen : ops.toList.length = ops.size := by simp
  rw [hlen, ← List.range_eq_range'] at hl
  have hi : i < ops.size := (Array.getElem?_eq_some_iff.1 h1).1
  unfold litF at h5
  split at h5
  case isFalse => cases h5
  rename_i hall
  split at h5
  case h_2 => cases h5
  rename_i k q
  split at h5
  case isFalse => cases h5
  rename_i hkd
  subst hkd
  have h5 := Option.some.inj h5
  have hone := C.hf.one i o h1
  unfold LitOne at hone
  rw [h2] at hone
  refine ⟨i, o, y, q, h1, h2, ?_, h5.symm.trans (congrArg (litG L.z q) hl), fun k p hp => ?_⟩
  · cases y with
    | tmp x => simp only [opd, getT] at h3 ⊢; rw [← C.still h1 hone.2.2.1 (Nat.le_of_lt hi) (Nat.le_refl _)]; exact h3
    | _ => exact h3
  · have hkz : k < ops.size := by
      obtain ⟨q', u⟩ := p
      obtain ⟨b, _, g, _⟩ := entAt_ins hp
      exact (Array.getElem?_eq_some_iff.1 g).1
    rw [hl] at hall
    exact List.all_eq_true.1 hall p (List.mem_filterMap.2 ⟨k, List.mem_range.2 hkz, hp⟩)
end
end
section
variable {P : Program} {call : Caller} {tn : Tn} {n m : Nat} {L : LitI} {ops : Array Oper} {v : Value} {t : DTrace P call tn (litN L v ops)} {ky el : TypeId} {wb : Nat} {D : Nat → Prop} {ι0 ι : Emb} {H0 : List Blk} {lam : Lam} {w0 w : World}
theorem wp_unguarded {X : Option Nat × Nat} {j : Nat} {o : Oper} {Q : Exit → Act → World → Prop} {K : Act → World → Prop} {a : Act} (ho : ops[j]? = some o) (hg : o.guard = none) : wpOpIn (FR X) X.2 P ops Q j K a w ↔ o.wpIn (FR X) X.2 P a w K Q := by
  unfold wpOpIn
  simp only [ho]
  have : Region.wanted o (yielded ops a.tmps) = true := by unfold Region.wanted; rw [hg]
  rw [if_pos this]
theorem guard_free {N : Array Oper} {o : Oper} (hg : o.guard = none) (h : operBB n ops o = true) : operBB n N o = true := by
  unfold operBB guardB at h ⊢
  rw [hg] at h ⊢
  exact h
theorem lit_step {X : Option Nat × Nat} (C : LitC t n ky el) (hcall : CallOk P call) (htn : tnOk n m tn = true) (hwb0 : wb ≤ w0.heap.size) (hH0 : H0.length ≤ t.L 0) {a : Act} (hz : a.tmps.size = n) (hI : DInv t n wb D ι0 H0 w0 ι lam w a.tmps) (hG : GInv t D lam w a.tmps) {j : Nat} (hn : t.Next D j) {Q : Exit → Act → World → Prop} {K : Act → World → Prop}
    (hK : ∀ ι' lam' v' w' (o : Oper), ops[j]? = some o → DInv t n wb (DTrace.plus D j) ι0 H0 w0 ι' lam' w' (a.put o.dst v').tmps → GInv t (DTrace.plus D j) lam' w' (a.put o.dst v').tmps → K (a.put o.dst v') w') : wpOpIn (FR X) X.2 P ops Q j K a w := by
  have hjN : j < ops.size := by have := hn.lt; rw [litN_size] at this; exact this
  obtain ⟨o, ho⟩ : ∃ o, ops[j]? = some o := ⟨ops[j], Array.getElem?_eq_getElem hjN⟩
  have hoN : (litN L v ops)[j]? = some (neutO L v o) := by rw [litN_get, ho]; rfl
  have hone := C.hf.one j o ho
  have hg : o.guard = none := hone.1
  have hok := C.ok j o ho
  obtain ⟨hb1, hb2, hb3⟩ := operBB_parts hok
  have hZ : ∀ x ∈ [L.t1, L.t2], ∀ i, i ≤ ops.size → t.Tr i x = poisonV := fun x hx i hi => by
    simp only [List.mem_cons, List.not_mem_nil, or_false] at hx
    rcases hx with rfl | rfl
    · exact (C.poisT i hi).1
    · exact (C.poisT i hi).2
  have hplus : ∀ i (b : Oper), ops[i]? = some b → (litOp L b = .mk ∨ litOp L b = .mv ∨ ∃ q x, litOp L b = .ins q x) → litOp L o ≠ litOp L b → (DTrace.plus D j i ↔ D i) := fun i b hb _ hne => by
    refine ⟨fun h => ?_, .inl⟩
    rcases h with h | rfl
    · exact h
    · rw [ho] at hb
      cases hb
      exact absurd rfl hne
  -- whoever is ahead of the next one has run
  have before : ∀ i, ((beforeL [] ops.toList).getD j 0).testBit i = true → D i := fun i hi => hn.all i (C.bef i j hi)
  -- whoever is behind it hasn't
  have behind : ∀ i, i < ops.size → ((beforeL [] ops.toList).getD i 0).testBit j = true → ¬ D i := fun i hi hb hD => hn.not (hn.down j i (by rw [litN_size]; exact hi) hD (C.bef j i hb))
  rw [wp_unguarded ho hg]
  cases hk : litOp L o with
  | no =>
    rw [neut_no hk] at hoN
    unfold LitOne at hone
    rw [hk] at hone
    obtain ⟨_, hn1, hn2⟩ := hone
    have hs1 : L.t1 ∉ setsB tn o := fun h => hn1 (by unfold namesB; simp [h])
    have hs2 : L.t2 ∉ setsB tn o := fun h => hn2 (by unfold namesB; simp [h])
    have hd1 : L.t1 ∉ o.dst.toList := fun h => hs1 (dst_sets h)
    have hd2 : L.t2 ∉ o.dst.toList := fun h => hs2 (dst_sets h)
    have := hI.op (Q := Q) (K := K) (X := X) hcall htn hwb0 hH0 hz hn (fun q hq => by
      rw [hoN] at hq
      cases hq
      exact guard_free hg hok) fun ι' lam' v' w' o' ho' hD' hkeep => by
        rw [hoN] at ho'
        cases ho'
        refine hK ι' lam' v' w' o ho hD' ⟨fun i b hb hkb hDi => ?_, fun i b hb hkb hDi => ?_⟩
        · obtain ⟨c, es, clock, I, g1, g2, g3, g4, g5, g6⟩ := hG.mkG i b hb hkb ((hplus i b hb (.inl hkb) (by rw [hk, hkb]; simp)).1 hDi)
          obtain ⟨k1, k2⟩ := hkeep L.t1 c g1 hs1
          refine ⟨c, es, clock, I, k1, by rw [k2]; exact g2, by rw [tmps_ne hd1]; exact g3, g4, fun k hk => .inl (g5 k hk), fun k hs hDk => g6 k hs ?_⟩
          rcases hDk with h | rfl
          · exact h
          · obtain ⟨p, hp⟩ := Option.isSome_iff_exists.1 hs
            obtain ⟨q, x, e1, e2, _⟩ := entAt_ins (q := p.1) (u := p.2) hp
            rw [ho] at e1
            cases e1
            rw [hk] at e2
            cases e2
        · obtain ⟨c, g1, g2⟩ := hG.mvG i b hb hkb ((hplus i b hb (.inr (.inl hkb)) (by rw [hk, hkb]; simp)).1 hDi)
          obtain ⟨k1, k2⟩ := hkeep L.t1 c g1 hs1
          exact ⟨c, k1, by rw [tmps_ne hd2]; exact g2⟩
    exact (wp_unguarded hoN hg).1 this
  | mk =>
    obtain ⟨hop, hdst⟩ := litOp_mk hk
    have ht1 : L.t1 < n := by rw [hdst] at hb2; simpa [dstB] using hb2
    refine (lit_make (kd := L.kd) hop C.ht).wp fun v' w' hR => ?_
    obtain ⟨c, es, clock, r1, rfl, r3, r4, r5, r6, r7, r8, r9⟩ := hR
    have hcs : c < w'.heap.size := (Array.getElem?_eq_some_iff.1 r3).1
    have hsets : setsB tn (neutO L v o) = [] := by unfold neutO; rw [hk]; exact move_sets (x := .const (.bool false)) rfl rfl
    have hD' := hI.ghost hH0 hn hoN (neut_cls (by rw [hk]; simp)) (q := L.t1) ht1 (C.far _ ht1) (lam' := fun i => if i = L.t1 then some c else lam i) (w' := w') (tmps' := (a.put o.dst (.map (some c))).tmps) (fun i hi => by simp [hi]) (fun c' hc' => by
        simp only [if_true, Option.some.injEq] at hc'
        subst hc'
        exact ⟨Nat.le_trans hI.size0 r1, hcs, .inl r1⟩) (fun b hb _ => r5 b hb) r6 r7 r8 r9 (Z := [L.t1, L.t2]) (fun x hx i hi => hZ x hx i (by rw [litN_size] at hi; exact hi)) (fun x _ hx => by
        refine tmps_ne ?_
        rw [hdst]
        intro h
        simp at h hx
        exact hx.1 h) (fun x hx => by rw [hsets] at hx; cases hx)
    refine hK ι _ _ w' o ho hD' ⟨fun i b hb hkb hDi => ?_, fun i b hb hkb hDi => ?_⟩
    · refine ⟨c, es, clock, [], by simp, r3, by rw [hdst]; exact tmps_eq (by rw [hz]; exact ht1), r4, fun k hk => (by cases hk), fun k hs hDk => ?_⟩
      exfalso
      obtain ⟨p, hp⟩ := Option.isSome_iff_exists.1 hs
      obtain ⟨q, x, e1, e2, _⟩ := entAt_ins (q := p.1) (u := p.2) hp
      have hpr := C.pair ho e1
      unfold litPair at hpr
      rw [hk, e2] at hpr
      have hks : k < ops.size := (Array.getElem?_eq_some_iff.1 e1).1
      rcases hDk with h | rfl
      · exact behind k hks hpr h
      · rw [ho] at e1
        cases e1
        rw [hk] at e2
        cases e2
    · exfalso
      have hpr := C.pair ho hb
      unfold litPair at hpr
      rw [hk, hkb] at hpr
      rcases hDi with h | rfl
      · exact behind i (Array.getElem?_eq_some_iff.1 hb).1 hpr h
      · rw [ho] at hb
        cases hb
        rw [hk] at hkb
        cases hkb
  | mv =>
    obtain ⟨hop, hdst⟩ := litOp_mv hk
    have ht2 : L.t2 < n := by rw [hdst] at hb2; simpa [dstB] using hb2
    obtain ⟨i0, b0, h0, hk0⟩ := C.hf.mkX
    have hD0 : D i0 := before i0 (by have := C.pair h0 ho; unfold litPair at this; rw [hk0, hk] at this; exact this)
    obtain ⟨c, es, clock, I, g1, g2, g3, g4, g5, g6⟩ := hG.mkG i0 b0 h0 hk0 hD0
    have hmv : OpOk P o a w fun v' w' => v' = .map (some c) ∧ w' = w := .inl ⟨a.eval (.tmp L.t1), w, by simp [execOp, hop], g3, rfl⟩
    refine hmv.wp fun v' w' hR => ?_
    obtain ⟨rfl, rfl⟩ := hR
    have ht1 : L.t1 < n := by
      have := List.all_eq_true.1 hb1 (.tmp L.t1) (by rw [hop]; simp [Op.operands])
      simpa [opdB] using this
    have hsets : setsB tn (neutO L v o) = [] := by unfold neutO; rw [hk]; exact move_sets (x := .const (.bool false)) rfl rfl
    have hD' := hI.ghost hH0 hn hoN (neut_cls (by rw [hk]; simp)) (q := L.t1) ht1 (C.far _ ht1) (lam' := lam) (w' := w') (tmps' := (a.put o.dst (.map (some c))).tmps) (fun i hi => rfl) (fun c' hc' => by
        have hc : c = c' := by rw [g1] at hc'; exact Option.some.inj hc'
        subst hc
        exact ⟨(hI.lo _ _ g1).1, (hI.lo _ _ g1).2, .inr ⟨g1, es, clock, g2⟩⟩) (fun b hb _ => rfl) (Nat.le_refl _) rfl rfl rfl (Z := [L.t1, L.t2]) (fun x hx i hi => hZ x hx i (by rw [litN_size] at hi; exact hi)) (fun x _ hx => by
        refine tmps_ne ?_
        rw [hdst]
        intro h
        simp at h hx
        exact hx.2 h) (fun x hx => by rw [hsets] at hx; cases hx)
    refine hK ι _ _ w' o ho hD' ⟨fun i b hb hkb hDi => ?_, fun i b hb hkb hDi => ?_⟩
    · obtain ⟨c2, es2, clock2, I2, k1, k2, k3, k4, k5, k6⟩ := hG.mkG i b hb hkb ((hplus i b hb (.inl hkb) (by rw [hk, hkb]; simp)).1 hDi)
      refine ⟨c2, es2, clock2, I2, k1, k2, ?_, k4, fun k hk => .inl (k5 k hk), fun k hs hDk => k6 k hs ?_⟩
      · rw [tmps_ne (by rw [hdst]; intro h; simp at h; exact C.hf.ne h)]
        exact k3
      · rcases hDk with h | rfl
        · exact h
        · obtain ⟨p, hp⟩ := Option.isSome_iff_exists.1 hs
          obtain ⟨q, x, e1, e2, _⟩ := entAt_ins (q := p.1) (u := p.2) hp
          rw [ho] at e1
          cases e1
          rw [hk] at e2
          cases e2
    · exact ⟨c, g1, by rw [hdst]; exact tmps_eq (by rw [hz]; exact ht2)⟩
  | ins q x =>
    obtain ⟨hop, hdst⟩ := litOp_ins hk
    unfold LitOne at hone
    rw [hk] at hone
    obtain ⟨_, hst, _, _⟩ := hone
    obtain ⟨i0, b0, h0, hk0⟩ := C.hf.mkX
    have hD0 : D i0 := before i0 (by have := C.pair h0 ho; unfold litPair at this; rw [hk0, hk] at this; exact this)
    obtain ⟨c, es, clock, I, g1, g2, g3, g4, g5, g6⟩ := hG.mkG i0 b0 h0 hk0 hD0
    obtain ⟨_, u, hu⟩ := opd_of_stable (T := t.Tr j) hst
    have hent := entAt_some (t := t) ho hk hu
    obtain ⟨_, _, _, _, _, _, _, _, hall⟩ := C.answer
    have hcu : constOk u = true := hall j (q, u) hent
    have ht1 : L.t1 < n := by
      have := List.all_eq_true.1 hb1 (.tmp L.t1) (by rw [hop]; simp [Op.operands])
      simpa [opdB] using this
    have hev : a.eval x = u := by
      cases x with
      | tmp y =>
        have hy : y ∈ namesB tn (litN L v ops) (neutO L v o) := by
          unfold namesB readsB opTmps neutO
          rw [hk]
          simp [Op.operands]
        obtain ⟨e1, e2⟩ := hn.agreeT hoN hy
        have hnm := hI.nm y
        rw [e2] at hnm
        have hyn : y < n := by
          have := List.all_eq_true.1 hb1 (.tmp y) (by rw [hop]; simp [Op.operands])
          simpa [opdB] using this
        unfold NRel at hnm
        rw [if_pos hyn, (opStable_tmp hst).1] at hnm
        have hu2 : t.Tr j y = u := Option.some.inj hu
        simp only [hu2] at hnm
        exact const_eqV hcu hnm
      | const w0 =>
        simp only [opd] at hu
        split at hu
        · exact Option.some.inj hu
        · cases hu
      | global g => cases hst
      | func f => cases hst
    have hdist : ∀ p ∈ I.filterMap (entAt t), p.1 ≠ q := fun p hp e => by
      obtain ⟨k, hkI, hkp⟩ := List.mem_filterMap.1 hp
      obtain ⟨b, y, e1, e2, _⟩ := entAt_ins (q := p.1) (u := p.2) hkp
      have hpr := C.pair e1 ho
      unfold litPair at hpr
      rw [e2, hk] at hpr
      simp only [Bool.or_eq_true, decide_eq_true_eq, ne_eq] at hpr
      rcases hpr with h | h
      · have hkj := Nat.eq_of_beq_eq_true h
        subst hkj
        exact hn.not (g5 k hkI)
      · exact h e
    refine (lit_put (kd := L.kd) hop C.ht C.hk (c := c) (l := I.filterMap (entAt t)) g3 g2 g4 (fun p hp => by
      obtain ⟨k, _, hkp⟩ := List.mem_filterMap.1 hp
      exact hall k p hkp) hdist hcu hev).wp fun v' w' hR => ?_
    obtain ⟨es2, clock2, r1, r2, r3, r4, r5, r6, r7⟩ := hR
    have hsets : setsB tn (neutO L v o) = [] := by unfold neutO; rw [hk]; exact move_sets (o := { o with op := .move x }) (x := x) rfl hdst
    have hD' := hI.ghost hH0 hn hoN (neut_cls (by rw [hk]; simp)) (q := L.t1) ht1 (C.far _ ht1) (lam' := lam) (w' := w') (tmps' := (a.put o.dst v').tmps) (fun i hi => rfl) (fun c' hc' => by
        have hc : c = c' := by rw [g1] at hc'; exact Option.some.inj hc'
        subst hc
        exact ⟨(hI.lo _ _ g1).1, Nat.lt_of_lt_of_le (hI.lo _ _ g1).2 r4, .inr ⟨g1, es, clock, g2⟩⟩) (fun b hb hne => r3 b hb fun e => hne (by rw [g1, e])) r4 r5 r6 r7 (Z := [L.t1, L.t2]) (fun x hx i hi => hZ x hx i (by rw [litN_size] at hi; exact hi)) (fun x _ hx => tmps_ne (by rw [hdst]; simp)) (fun x hx => by rw [hsets] at hx; cases hx)
    refine hK ι _ _ w' o ho hD' ⟨fun i b hb hkb hDi => ?_, fun i b hb hkb hDi => ?_⟩
    · refine ⟨c, es2, clock2, I ++ [j], g1, r1, by rw [tmps_ne (by rw [hdst]; simp)]; exact g3, ?_, fun k hk => ?_, fun k hs hDk => ?_⟩
      · rw [List.filterMap_append]
        have : [j].filterMap (entAt t) = [(q, u)] := by rw [List.filterMap_cons_some hent]; rfl
        rw [this]
        exact r2
      · rcases List.mem_append.1 hk with h | h
        · exact .inl (g5 k h)
        · simp at h
          exact .inr h
      · rcases hDk with h | rfl
        · exact List.mem_append_left _ (g6 k hs h)
        · exact List.mem_append_right _ (by simp)
    · exfalso
      have hpr := C.pair ho hb
      unfold litPair at hpr
      rw [hk, hkb] at hpr
      rcases hDi with h | rfl
      · exact behind i (Array.getElem?_eq_some_iff.1 hb).1 hpr h
      · rw [ho] at hb
        cases hb
        rw [hk] at hkb
        cases hkb
  | look y =>
    obtain ⟨hop, d, hdst⟩ := litOp_look hk
    unfold LitOne at hone
    rw [hk] at hone
    obtain ⟨_, _, hst, _, _, hdo, hd1, hd2⟩ := hone
    rw [hdst] at hd1 hd2
    have hdn : d < n := by rw [hdst] at hb2; simpa [dstB] using hb2
    obtain ⟨i0, b0, h0, hk0⟩ := C.hf.mkX
    have hD0 : D i0 := before i0 (by have := C.pair h0 ho; unfold litPair at this; rw [hk0, hk] at this; exact this)
    obtain ⟨c, es, clock, I, g1, g2, g3, g4, g5, g6⟩ := hG.mkG i0 b0 h0 hk0 hD0
    obtain ⟨i1, b1, h1, hk1⟩ := C.hf.mvX
    have hD1 : D i1 := before i1 (by have := C.pair h1 ho; unfold litPair at this; rw [hk1, hk] at this; exact this)
    obtain ⟨c2, f1, f2⟩ := hG.mvG i1 b1 h1 hk1 hD1
    have hc2 : c2 = c := by rw [g1] at f1; exact (Option.some.inj f1).symm
    subst hc2
    obtain ⟨j', o', y', q, e1, e2, e3, e4, hall⟩ := C.answer
    have hjj : j' = j := by
      have hpr := C.pair e1 ho
      unfold litPair at hpr
      rw [e2, hk] at hpr
      exact Nat.eq_of_beq_eq_true hpr
    subst hjj
    rw [ho] at e1
    cases e1
    rw [hk] at e2
    cases e2
    have ht1 : L.t1 < n := by
      have hok0 := C.ok i0 b0 h0
      have := (operBB_parts hok0).2.1
      rw [(litOp_mk hk0).2] at this
      simpa [dstB] using this
    have hev : a.eval y = .int L.kd q := by
      cases y with
      | tmp x =>
        have hy : x ∈ namesB tn (litN L v ops) (neutO L v o) := by
          unfold namesB readsB opTmps neutO
          rw [hk]
          simp [Op.operands]
        obtain ⟨k1, k2⟩ := hn.agreeT hoN hy
        have hnm := hI.nm x
        rw [k2] at hnm
        have hxn : x < n := by
          have := List.all_eq_true.1 hb1 (.tmp x) (by rw [hop]; simp [Op.operands])
          simpa [opdB] using this
        unfold NRel at hnm
        rw [if_pos hxn, (opStable_tmp hst).1] at hnm
        have hu2 : t.Tr j' x = .int L.kd q := Option.some.inj e3
        simp only [hu2] at hnm
        exact hnm.inv_int
      | const w0 =>
        simp only [opd] at e3
        split at e3
        · exact Option.some.inj e3
        · cases e3
      | global g => cases hst
      | func f => cases hst
    have hsame : litG L.z q (I.filterMap (entAt t)) = v := by
      refine Eq.trans ?_ e4.symm
      refine litG_same (fun i k u w m hi hk2 => ?_) (fun i hs => ⟨fun hi => ?_, fun _ => ?_⟩)
      · have := C.uniq hi hk2
        subst this
        rw [hi] at hk2
        cases hk2
        rfl
      · obtain ⟨p, hp⟩ := Option.isSome_iff_exists.1 hs
        obtain ⟨b, x, q1, _, _⟩ := entAt_ins (q := p.1) (u := p.2) hp
        exact List.mem_range.2 (Array.getElem?_eq_some_iff.1 q1).1
      · obtain ⟨p, hp⟩ := Option.isSome_iff_exists.1 hs
        obtain ⟨b, x, q1, q2, _⟩ := entAt_ins (q := p.1) (u := p.2) hp
        refine g6 i hs (before i ?_)
        have hpr := C.pair q1 ho
        unfold litPair at hpr
        rw [q2, hk] at hpr
        exact hpr
    refine (lit_ask (kd := L.kd) (z := L.z) hop C.ht C.hz C.hk (c := c2) (l := I.filterMap (entAt t)) f2 g2 g4 (fun p hp => by
      obtain ⟨k, _, hkp⟩ := List.mem_filterMap.1 hp
      exact hall k p hkp) hev).wp fun v' w' hR => ?_
    obtain ⟨rfl, rfl⟩ := hR
    rw [hsame]
    have hTr : t.Tr (j' + 1) = putT (t.Tr j') o.dst v := by
      obtain ⟨Hv, R, s1, _⟩ := t.step j' _ hoN
      unfold oneB at s1
      rw [neut_guard, hg] at s1
      simp only at s1
      have hb : opB P call tn (t.Tr j') (neutO L v o) ⟨Hv⟩ (fun T s => some (T, s)) = some (putT (t.Tr j') o.dst v, ⟨Hv⟩) := by
        unfold neutO
        rw [hk]
        exact opB_pick (o := { o with op := .pick (.const (.bool true)) (.const v) y }) (opd_of_stable (T := t.Tr j') hst).1 e3 C.cst rfl hdo
      rw [hb] at s1
      exact (congrArg Prod.fst (Option.some.inj s1)).symm
    have hsub : ∀ x, x ∈ setsB tn (neutO L v o) → x = d := fun x hx => by
      have hd : x ∈ o.dst.toList := by
        unfold neutO at hx
        rw [hk] at hx
        have hloc : locK tn { o with op := .pick (.const (.bool true)) (.const v) y } = .glob ∨ locK tn { o with op := .pick (.const (.bool true)) (.const v) y } = .bad := by
          unfold locK
          simp only
          unfold globK
          cases ((({ o with op := Op.pick (.const (.bool true)) (.const v) y } : Oper).op.operands.toList.all (cleanO tn)) && (dOf tn { o with op := Op.pick (.const (.bool true)) (.const v) y }).isNone) with
          | true => exact .inl rfl
          | false => exact .inr rfl
        unfold setsB at hx
        rcases hloc with hl | hl <;> rw [hl] at hx <;> exact hx
      rw [hdst] at hd
      simpa using hd
    have hdin : d ∈ setsB tn (neutO L v o) := dst_sets (by
      have : (neutO L v o).dst = o.dst := by unfold neutO; rw [hk]
      rw [this, hdst]
      simp)
    have hD' := hI.ghost hH0 hn hoN (neut_cls (by rw [hk]; simp)) (q := L.t1) ht1 (C.far _ ht1) (lam' := lam) (w' := w') (tmps' := (a.put o.dst v).tmps) (fun i hi => rfl) (fun c' hc' => by
        have hc : c2 = c' := by rw [g1] at hc'; exact Option.some.inj hc'
        subst hc
        exact ⟨(hI.lo _ _ g1).1, (hI.lo _ _ g1).2, .inr ⟨g1, es, clock, g2⟩⟩) (fun b hb _ => rfl) (Nat.le_refl _) rfl rfl rfl (Z := [L.t1, L.t2]) (fun x hx i hi => hZ x hx i (by rw [litN_size] at hi; exact hi)) (fun x hx _ => tmps_ne (by
        rw [hdst]
        intro h
        simp at h
        subst h
        exact hx hdin)) (fun x hx => by
        obtain rfl := hsub x hx
        unfold NRel
        have hld : look x tn = none := by
          unfold dOf at hdo
          rw [hdst] at hdo
          exact hdo
        rw [if_pos hdn, hld]
        simp only
        rw [hTr, hdst, putT_eq, tmps_eq (by rw [hz]; exact hdn)]
        exact constOk_rel C.cst)
    refine hK ι _ _ w' o ho hD' ⟨fun i b hb hkb hDi => ?_, fun i b hb hkb hDi => ?_⟩
    · obtain ⟨c3, es3, clock3, I3, k1, k2, k3, k4, k5, k6⟩ := hG.mkG i b hb hkb ((hplus i b hb (.inl hkb) (by rw [hk, hkb]; simp)).1 hDi)
      refine ⟨c3, es3, clock3, I3, k1, k2, ?_, k4, fun k hk => .inl (k5 k hk), fun k hs hDk => k6 k hs ?_⟩
      · rw [tmps_ne (by rw [hdst]; intro h; simp at h; exact hd1 (by rw [h]))]
        exact k3
      · rcases hDk with h | rfl
        · exact h
        · obtain ⟨p, hp⟩ := Option.isSome_iff_exists.1 hs
          obtain ⟨q, x, e1, e2, _⟩ := entAt_ins (q := p.1) (u := p.2) hp
          rw [ho] at e1
          cases e1
          rw [hk] at e2
          cases e2
    · obtain ⟨c3, k1, k2⟩ := hG.mvG i b hb hkb ((hplus i b hb (.inr (.inl hkb)) (by rw [hk, hkb]; simp)).1 hDi)
      refine ⟨c3, k1, ?_⟩
      rw [tmps_ne (by rw [hdst]; intro h; simp at h; exact hd2 (by rw [h]))]
      exact k2
end

section
variable {P : Program} {call : Caller} {tn : Tn} {n m : Nat} {L : LitI} {ops : Array Oper} {v : Value} {t : DTrace P call tn (litN L v ops)} {ky el : TypeId} {wb : Nat} {ι0 : Emb} {H0 : List Blk} {w0 : World}
theorem lit_any {X : Option Nat × Nat} (C : LitC t n ky el) (hcall : CallOk P call) (htn : tnOk n m tn = true) (hwb0 : wb ≤ w0.heap.size) (hH0 : H0.length ≤ t.L 0) {a0 : Act} {Q : Exit → Act → World → Prop}
    (hQ : ∀ ι lam a w, BSim tn n wb ι0 H0 w0 ι lam (t.Tr ops.size) (t.H ops.size) a.tmps w → a.defers = a0.defers → a.tmps.size = n → Q .normal a w) :
    ∀ (fuel : Nat) (listed : Array Bool) (a : Act) (w : World) (ι : Emb) (lam : Lam), listed.size = ops.size → listed.toList.count false ≤ fuel → (∀ (j : Nat) (o : Oper), ops[j]? = some o → listed.getD j false = true → ∀ e ∈ o.after, Region.binds .any e = true → listed.getD e.on false = true) →
      DInv t n wb (fun k => listed.getD k false = true) ι0 H0 w0 ι lam w a.tmps → GInv t (fun k => listed.getD k false = true) lam w a.tmps → a.defers = a0.defers → a.tmps.size = n → wpAnyIn (FR X) X.2 P .any ops Q fuel listed a w := by
  have hafter : ∀ (j : Nat) (q : Oper), (litN L v ops)[j]? = some q → ∃ o, ops[j]? = some o ∧ q.after = o.after := fun j q hq => by
    rw [litN_get] at hq
    cases h : ops[j]? with
    | none => rw [h] at hq; cases hq
    | some o =>
      rw [h] at hq
      simp only [Option.map_some, Option.some.injEq] at hq
      exact ⟨o, rfl, by rw [← hq, neut_after]⟩
  have hedge : ∀ (j : Nat) (o : Oper), ops[j]? = some o → ∀ e ∈ o.after, Region.binds .any e = true → e.on < j := fun j o ho e he hb =>
    t.edge j (neutO L v o) (by rw [litN_get, ho]; rfl) e (by rw [neut_after]; exact he) hb
  have hfull : ∀ (listed : Array Bool) (a : Act) (w : World) (ι : Emb) (lam : Lam), listed.size = ops.size → Region.ready .any ops listed = [] →
      DInv t n wb (fun k => listed.getD k false = true) ι0 H0 w0 ι lam w a.tmps → a.defers = a0.defers → a.tmps.size = n → Q .normal a w := by
    intro listed a w ι lam hls hr hI h1 h2
    have hall : ∀ j, j < ops.size → listed.getD j false = true := by
      intro j
      induction j using Nat.strongRecOn with
      | _ j ih =>
        intro hj
        cases hx : listed.getD j false with
        | true => rfl
        | false =>
          exfalso
          have ho : ops[j]? = some ops[j] := Array.getElem?_eq_getElem hj
          have : j ∈ Region.ready .any ops listed := mem_ready.2 ⟨by
            have hjl : j < listed.size := by omega
            simp [hjl] at hx ⊢
            exact hx, _, ho, fun e he hb => by
            have := hedge j _ ho e he hb
            exact ih e.on this (by omega)⟩
          rw [hr] at this
          cases this
    have hf := hI.finish hH0 (fun k hk => hall k (by rw [litN_size] at hk; exact hk))
    rw [litN_size] at hf
    exact hQ ι lam a w hf h1 h2
  intro fuel
  induction fuel with
  | zero =>
    intro listed a w ι lam hls hc hcl hI hG h1 h2
    have hr : Region.ready .any ops listed = [] := by
      rw [List.eq_nil_iff_forall_not_mem]
      intro j hj
      obtain ⟨h3, o, ho, _⟩ := mem_ready.1 hj
      have hjl : j < listed.size := by
        rw [hls]; exact (Array.getElem?_eq_some_iff.1 ho).1
      have hf : listed[j] = false := by simpa [hjl] using h3
      have : 0 < listed.toList.count false := List.count_pos_iff.2 (by
        rw [List.mem_iff_getElem]
        exact ⟨j, by simpa using hjl, by simpa using hf⟩)
      omega
    exact ⟨hr, hfull listed a w ι lam hls hr hI h1 h2⟩
  | succ fuel ih =>
    intro listed a w ι lam hls hc hcl hI hG h1 h2
    refine ⟨fun hr => hfull listed a w ι lam hls hr hI h1 h2, fun j hj => ?_⟩
    obtain ⟨h3, o, ho, h4⟩ := mem_ready.1 hj
    have hjo : j < ops.size := (Array.getElem?_eq_some_iff.1 ho).1
    have hjl : j < listed.size := by rw [hls]; exact hjo
    have hf : listed[j] = false := by simpa [hjl] using h3
    have hclN : ∀ (k : Nat) (q : Oper), (litN L v ops)[k]? = some q → listed.getD k false = true → ∀ e ∈ q.after, Region.binds .any e = true → listed.getD e.on false = true := fun k q hq hD e he hb => by
      obtain ⟨o', ho', ha⟩ := hafter k q hq
      exact hcl k o' ho' hD e (by rw [← ha]; exact he) hb
    have hoN : (litN L v ops)[j]? = some (neutO L v o) := by rw [litN_get, ho]; rfl
    have hn : t.Next (fun k => listed.getD k false = true) j := by
      refine ⟨by rw [litN_size]; exact hjo, fun i k hk hD hb => ?_, by simp [hjl, hf], fun i hb => t.reach (fun k => listed.getD k false = true) hclN j _ hoN (fun e he hb => h4 e (by rw [neut_after] at he; exact he) hb) i hb⟩
      obtain ⟨ok, hok⟩ := DTrace.get (ops := litN L v ops) hk
      exact t.reach (fun k => listed.getD k false = true) hclN k ok hok (hclN k ok hok hD) i hb
    have heq : DTrace.plus (fun k => listed.getD k false = true) j = fun k => (listed.setIfInBounds j true).getD k false = true := by
      funext k
      unfold DTrace.plus
      by_cases hkj : k = j
      · subst hkj; simp [hjl]
      · rw [getD_set_ne false (Ne.symm hkj)]; simp [hkj]
    refine lit_step C hcall htn hwb0 hH0 h2 hI hG hn fun ι' lam' v' w' o' ho' hI' hG' => ?_
    rw [heq] at hI' hG'
    refine ih (listed.setIfInBounds j true) _ w' ι' lam' (by simpa using hls) (by have := count_set hjl hf; omega) (fun k q hq hD e he hb => ?_) hI' hG' (by rw [put_defers]; exact h1) (by rw [put_size]; exact h2)
    by_cases hkj : k = j
    · subst hkj
      rw [ho] at hq
      cases hq
      exact getD_set_true (h4 e he hb)
    · rw [getD_set_ne false (Ne.symm hkj)] at hD
      exact getD_set_true (hcl k q hq hD e he hb)
end
section
variable {P : Program} {call : Caller} {tn : Tn} {n m : Nat} {ops : Array Oper} {wb : Nat} {ι0 ι : Emb} {H0 : List Blk} {lam : Lam} {w0 w : World}
theorem tn_far : ∀ {tn : Tn}, tnOk n m tn = true → ∀ x, x < n → ∀ y, look y tn ≠ some x
  | [], _, x, hx, y, h => by cases h
  | (z, j) :: l, ht, x, hx, y, h => by
    simp only [tnOk, Bool.and_eq_true, Nat.ble_eq] at ht
    simp only [look] at h
    cases hb : Nat.beq y z with
    | true =>
      rw [hb] at h
      simp only [cond_true, Option.some.injEq] at h
      omega
    | false =>
      rw [hb] at h
      exact tn_far ht.2 x hx y h
theorem litInfo_facts {l : List Oper} {L : LitI} (h : litInfo P l = some L) : ∃ ky el, P.underlying L.ty = some (.map ky el) ∧ P.underlying ky = some (.int L.kd) ∧ zeroT P el = some L.z := by
  unfold litInfo at h
  simp only [Option.bind_eq_some_iff] at h
  obtain ⟨o, _, h⟩ := h
  split at h
  · rename_i ty d e1 e2
    split at h
    · rename_i ky el hu
      split at h
      · rename_i k z o2 hk hz _
        simp only [Option.map_eq_some_iff] at h
        obtain ⟨d2, _, rfl⟩ := h
        exact ⟨ky, el, hu, hk, hz⟩
      · cases h
    · cases h
  · cases h
/-- a region with a literal -/
def litR (P : Program) (call : Caller) (tn : Tn) (ops : Array Oper) (T : Fr) (s : St) : Option (Fr × St) :=
  drawsL P call tn (litI P ops) ops (litN (litI P ops) (.bool false) ops) (beforeL [] (litN (litI P ops) (.bool false) ops).toList) (memMask P tn 0 (litN (litI P ops) (.bool false) ops).toList) 0 ops.toList (killT [(litI P ops).t1, (litI P ops).t2] T) s
theorem lit_sound {X : Option Nat × Nat} (hcall : CallOk P call) (htn : tnOk n m tn = true) {id : Nat} {T T' : Fr} {s s' : St} (hl : litIs P tn ops = true) (h : litR P call tn ops T s = some (T', s'))
    (hb : ops.toList.all (operBB n ops) = true) (hwb0 : wb ≤ w0.heap.size) {a : Act} (hs : BSim tn n wb ι0 H0 w0 ι lam T s.heap a.tmps w) (hz : a.tmps.size = n) {Q : Exit → Act → World → Prop}
    (hQ : ∀ ι' lam' a' w', BSim tn n wb ι0 H0 w0 ι' lam' T' s'.heap a'.tmps w' → a'.tmps.size = n → a'.defers = a.defers → Q .normal a' w') : (Code.region id ops true).wpIn (FR X) X.2 P Q a w := by
  unfold litIs at hl
  simp only [Bool.and_eq_true] at hl
  obtain ⟨hl1, hl2⟩ := hl
  obtain ⟨L, hL⟩ := Option.isSome_iff_exists.1 hl1
  have hLI : litI P ops = L := by unfold litI; rw [hL]; rfl
  obtain ⟨ky, el, ht, hk, hzz⟩ := litInfo_facts hL
  unfold litR at h
  rw [hLI] at h hl2
  have hf := litOk_facts hl2
  obtain ⟨_, _, _, hzc⟩ := zeroT_info hzz
  have hbf : beforeL [] (litN L (.bool false) ops).toList = beforeL [] ops.toList := by rw [litN_list, before_eq]
  rw [hbf] at h
  obtain ⟨il, ol, yl, gl, gk⟩ := hf.lk
  obtain ⟨v, q1, q2, q3⟩ := drawsL_look hf hzc (T0 := killT [L.t1, L.t2] T) (n0 := s.heap.length) ops.toList 0 (killT [L.t1, L.t2] T) T' s s' rfl ⟨ol, by have := Array.mem_of_getElem? gl; simpa using this, yl, gk⟩ h
  have hd : drawOk P tn (litN L v ops) = true := neut_draw _ v hf.draw
  have hbv : beforeL [] (litN L v ops).toList = beforeL [] ops.toList := by rw [litN_list, before_eq]
  have hmv : memMask P tn 0 (litN L v ops).toList = memMask P tn 0 (litN L (.bool false) ops).toList := by rw [litN_list, litN_list]; exact neut_mem _ _ _ _
  have hrun : drawsB P call tn (litN L v ops) (beforeL [] (litN L v ops).toList) (memMask P tn 0 (litN L v ops).toList) (killT [L.t1, L.t2] T) s.heap.length 0 (litN L v ops).toList (killT [L.t1, L.t2] T) s = some (T', s') := by
    rw [hbv, hmv, litN_list]
    exact q1
  obtain ⟨t, e1, e2, e3, e4, e5⟩ := DTrace.of hd hrun
  rw [litN_size] at e3 e4
  have hm : P.follows .mixedOrders = true := by
    simp only [drawOk, Bool.and_eq_true] at hd
    exact hd.1.1
  have C : LitC t n ky el := ⟨hf, ht, hk, hzz, fun i j hij => e5 i j (by rw [hbv]; exact hij), by
    rw [e1]
    refine ⟨?_, ?_⟩
    · unfold killT
      have : memN L.t1 [L.t1, L.t2] = true := memN_iff.2 (by simp)
      rw [this]
      rfl
    · unfold killT
      have : memN L.t2 [L.t1, L.t2] = true := memN_iff.2 (by simp)
      rw [this]
      rfl, by rw [e3]; exact q3, q2, fun i o ho => List.all_eq_true.1 hb o (by
      have := Array.mem_of_getElem? ho
      simpa using this), tn_far htn⟩
  refine wpIn_region_any hm ?_
  have hrep : ∀ k, ¬ ((Array.replicate ops.size false).getD k false = true) := by
    intro k
    by_cases hk : k < ops.size
    · simp [hk]
    · simp [hk]
  have hs0 : BSim tn n wb ι0 H0 w0 ι lam (killT [L.t1, L.t2] T) s.heap a.tmps w := ⟨hs.sim, hs.lok, hs.step, fun x => by
    unfold killT
    cases memN x [L.t1, L.t2] with
    | true => exact NRel.poison
    | false => exact hs.nm x⟩
  have hs1 := hs0.drawn
  rw [← e1, ← e2] at hs1
  refine lit_any C (ι0 := ι0) (w0 := w0) (H0 := H0) (a0 := a) hcall htn hwb0 (by unfold DTrace.L; rw [e2]; exact hs.step.len) (fun κ lam' a' w' g1 g4 g5 => ?_) ops.size (Array.replicate ops.size false) a _ ι lam (by simp) (by simp) (fun j o ho hD => absurd hD (hrep j)) (DInv.start hrep hs1) ⟨fun i o _ _ hD => absurd hD (hrep i), fun i o _ _ hD => absurd hD (hrep i)⟩ rfl hz
  rw [e4, e3] at g1
  exact hQ κ lam' a' w' g1 g5 g4
theorem drawsLK_eq {L : LitI} {N : Array Oper} {bf : List Nat} {mm : Nat} {β : Type} : ∀ {l : List Oper} {i : Nat} {T : Fr} {s : St} (k : Fr → St → Option β), drawsLK P call tn L ops N bf mm i l T s k = (drawsL P call tn L ops N bf mm i l T s).bind fun r => k r.1 r.2
  | [], _, _, _, _ => rfl
  | o :: l, i, T, s, k => by
    unfold drawsLK drawsL
    split
    · rw [drawK_eq]
      cases drawB P call tn N bf mm noT 0 i o T s with
      | none => rfl
      | some p => simp only [Option.bind_some]; exact drawsLK_eq k
    · rename_i y _
      cases opd T y with
      | none => rfl
      | some x =>
        simp only [Option.bind_some]
        cases litVals T (litEnts L ops.toList) with
        | none => rfl
        | some lv =>
          simp only [Option.bind_some]
          cases litF L.kd L.z lv x with
          | none => rfl
          | some v => simp only [Option.bind_some]; exact drawsLK_eq k
    · exact drawsLK_eq k
theorem litB_eq {β : Type} {T : Fr} {s : St} (k : Fr → St → Option β) : litB P call tn ops T s k = (litR P call tn ops T s).bind fun r => k r.1 r.2 := drawsLK_eq k
end

end Go.Proofs.Ytccindbiodofmaa.Ab

/- The abstract machine with variables in the frame, against the model: code, functions. -/
namespace Go.Proofs.Ytccindbiodofmaa.Ab
open Go

def codeW (n : Nat) : Code → Bool
  | .region _ ops _ => ops.toList.all (operBB n ops)
  | .seq a b => codeW n a && codeW n b
  | .cond c a b => opdB n c && codeW n a && codeW n b
  | .block _ a => codeW n a
  | .loop a => codeW n a
  | _ => true

def Ex.to : Ex → Exit
  | .normal => .normal
  | .exit id => .exit id
  | .ret => .ret

theorem exV_some {β : Type} {e : Ex} {ids : List Nat} {f : Nat → Option β} {x : Option β} {r : β} (h : exV e (ids.map fun i => (i, f i)) x = some r) : (∃ i, e = .exit i ∧ f i = some r) ∨ (e = .ret ∧ x = some r) := by
  cases e with
  | normal => cases h
  | ret => exact .inr ⟨rfl, h⟩
  | exit j =>
    left
    refine ⟨j, rfl, ?_⟩
    simp only [exV] at h
    induction ids with
    | nil => simp [lookE] at h
    | cons i l ih =>
      simp only [List.map_cons, lookE] at h
      split at h
      · rename_i hj; rw [hj]; exact h
      · exact ih h


section
variable {P : Program} {call : Caller} {tn : Tn} {n m wb : Nat}

/-- what a piece of code is shown to do -/
def CodeDoes (P : Program) (tn : Tn) (n wb : Nat) (c : Code) (T : Fr) (s : St) (e : Ex) (T' : Fr) (s' : St) : Prop :=
  ∀ (X : Option Nat × Nat) (ι0 : Emb) (H0 : List Blk) (w0 : World) (ι : Emb) (lam : Lam) (a : Act) (w : World), wb ≤ w0.heap.size → BSim tn n wb ι0 H0 w0 ι lam T s.heap a.tmps w → a.tmps.size = n → codeW n c = true → ∀ Q : Exit → Act → World → Prop,
    (∀ ι' lam' a' w', BSim tn n wb ι0 H0 w0 ι' lam' T' s'.heap a'.tmps w' → a'.tmps.size = n → a'.defers = a.defers → Q e.to a' w') → c.wpIn (FR X) X.2 P Q a w

theorem CodeDoes.weakR {c : Code} {T : Fr} {s : St} {e : Ex} {T' T2 : Fr} {s' : St} (h : CodeDoes P tn n wb c T s e T' s') (hw : ∀ x, T2 x = T' x ∨ T2 x = poisonV) : CodeDoes P tn n wb c T s e T2 s' :=
  fun Y ι0 H0 w0 ι lam a w h1 h2 h3 h4 Q hQ => h Y ι0 H0 w0 ι lam a w h1 h2 h3 h4 Q fun ι' lam' a' w' g1 g2 g3 => hQ ι' lam' a' w' (g1.weak hw) g2 g3
theorem CodeDoes.weakL {c : Code} {T T0 : Fr} {s : St} {e : Ex} {T' : Fr} {s' : St} (h : CodeDoes P tn n wb c T s e T' s') (hw : ∀ x, T x = T0 x ∨ T x = poisonV) : CodeDoes P tn n wb c T0 s e T' s' :=
  fun Y ι0 H0 w0 ι lam a w h1 h2 h3 h4 Q hQ => h Y ι0 H0 w0 ι lam a w h1 (h2.weak hw) h3 h4 Q hQ
theorem kept (L : List Nat) (T : Fr) (x : Nat) : ofL L 0 (toL L T) noT x = T x ∨ ofL L 0 (toL L T) noT x = poisonV := by
  rcases ofL_toL (L := L) (T2 := T) (T0 := noT) x with ⟨_, h⟩ | ⟨_, h⟩
  · exact .inl h
  · exact .inr h

theorem loopN_does {c : Code} {body : List Value → St → Res} {F : List Value → Fr} {E : Ex → List Value → Fr} (hbody : ∀ X s e X' s', body X s = some (e, X', s') → CodeDoes P tn n wb c (F X) s e (E e X') s') (hE : ∀ X, E .normal X = F X) :
    ∀ (q : Nat) (X : List Value) (s : St) (e : Ex) (X' : List Value) (s' : St), loopN body q X s = some (e, X', s') → CodeDoes P tn n wb (.loop c) (F X) s e (E e X') s' := by
  intro q X s e X' s' h Y ι0 H0 w0 ι lam a w hwb hs hz hb Q hQ
  have key : ∀ (q : Nat) (X : List Value) (s : St) (ι : Emb) (lam : Lam) (a2 : Act) (w : World), loopN body q X s = some (e, X', s') → BSim tn n wb ι0 H0 w0 ι lam (F X) s.heap a2.tmps w → a2.tmps.size = n → a2.defers = a.defers → Code.roundsIn (FR Y) Y.2 P c Q q a2 w := by
    intro q
    induction q with
    | zero => intro X s ι lam a2 w h; simp [loopN] at h
    | succ q ih =>
      intro X s ι lam a2 w h hs hz hd
      simp only [loopN, seqA, Option.bind_eq_some_iff] at h
      obtain ⟨⟨e1, X1, s1⟩, h1, h2⟩ := h
      rw [roundsIn_succ]
      refine hbody X s e1 X1 s1 h1 Y ι0 H0 w0 ι lam a2 w hwb hs hz hb _ fun ι' lam' a1 w1 g1 g2 g3 => ?_
      cases e1 with
      | normal =>
        rw [hE] at g1
        exact ih X1 s1 ι' lam' a1 w1 h2 g1 g2 (g3.trans hd)
      | exit id => simp at h2; obtain ⟨rfl, rfl, rfl⟩ := h2; exact hQ ι' lam' a1 w1 g1 g2 (g3.trans hd)
      | ret => simp at h2; obtain ⟨rfl, rfl, rfl⟩ := h2; exact hQ ι' lam' a1 w1 g1 g2 (g3.trans hd)
  exact wpIn_loop_rounds q (key q X s ι lam a w h hs hz rfl)

theorem codeB_sound {lp : (List Value → St → Res) → List Value → St → Res} (hcall : CallOk P call) (htn : tnOk n m tn = true) (hlp : ∀ body X s r, lp body X s = some r → ∃ q, loopN body q X s = some r) {wd : Nat} :
    ∀ (c : Code), codeW n c = true → ∀ (lo : Lo) {β : Type} (T : Fr) (s : St) (k : Ex → Fr → St → Option β) (r : β), codeB P call tn lp wd c lo T s k = some r → ∃ e T' s', k e T' s' = some r ∧ CodeDoes P tn n wb c T s e T' s' := by
  intro c
  induction c with
  | skip =>
    intro hcw lo β T s k r h
    refine ⟨.normal, T, s, h, ?_⟩
    intro X ι0 H0 w0 ι lam a w hwb hs hz hb Q hQ
    exact wpIn_skip (hQ ι lam a w hs hz rfl)
  | region id ops draw =>
    intro hcw lo β T s k r h
    cases draw with
    | false =>
      simp only [codeB] at h
      obtain ⟨T1, s1, h1, h2⟩ := grpsB_does (wb := wb) hcall htn (ops := ops) (i := 0) (fun j hj => by rw [grp_ops]; simp) (grp_guard _) (fun o ho => by rw [grp_ops] at ho; exact List.all_eq_true.1 hcw o ho) h
      refine ⟨.normal, T1, s1, h1, ?_⟩
      intro X ι0 H0 w0 ι lam a w hwb hs hz hb Q hQ
      refine wpIn_region ?_
      have := h2 X ι0 H0 w0 ι lam a w hwb hs hz Q [] (fun ι' lam' a' w' g1 g2 g3 => hQ ι' lam' a' w' g1 g2 g3)
      rw [grp_ops] at this
      rw [List.range_eq_range']
      simpa using this
    | true =>
      simp only [codeB] at h
      cases hl : litIs P tn ops with
      | true =>
        simp only [hl, cond_true, litB_eq, Option.bind_eq_some_iff] at h
        obtain ⟨⟨T1, s1⟩, h1, h2⟩ := h
        refine ⟨.normal, T1, s1, h2, ?_⟩
        intro X ι0 H0 w0 ι lam a w hwb hs hz hb Q hQ
        exact lit_sound hcall htn hl h1 hb hwb hs hz hQ
      | false =>
        simp only [hl, cond_false] at h
        split at h
        case isFalse => cases h
        rename_i hd
        cases ha : hasApp P tn (beforeL [] ops.toList) ops.size (memMask P tn 0 ops.toList) 0 ops.toList with
        | true =>
          simp only [ha, cond_true, drawsAK_eq, Option.bind_eq_some_iff] at h
          obtain ⟨X, _, ⟨T1, s1⟩, h1, h2⟩ := h
          refine ⟨.normal, T1, s1, h2, ?_⟩
          intro X ι0 H0 w0 ι lam a w hwb hs hz hb Q hQ
          exact drawA_sound hcall htn hd h1 hb hwb hs hz hQ
        | false =>
          simp only [ha, cond_false, drawsK_eq, Option.bind_eq_some_iff] at h
          obtain ⟨⟨T1, s1⟩, h1, h2⟩ := h
          refine ⟨.normal, T1, s1, h2, ?_⟩
          intro X ι0 H0 w0 ι lam a w hwb hs hz hb Q hQ
          exact draw_sound hcall htn hd h1 hb hwb hs hz hQ
  | seq x y ihx ihy =>
    intro hcw lo β T s k r h
    simp only [codeB] at h
    simp only [codeW, Bool.and_eq_true] at hcw
    obtain ⟨e1, T1, s1, h1, h2⟩ := ihx hcw.1 _ T s _ r h
    cases e1 with
    | normal =>
      have key : ∀ {T2 : Fr}, (∀ q, T2 q = T1 q ∨ T2 q = poisonV) → codeB P call tn lp wd y lo T2 s1 k = some r → ∃ e T' s', k e T' s' = some r ∧ CodeDoes P tn n wb (.seq x y) T s e T' s' := by
        intro T2 hw h1
        obtain ⟨e2, T3, s2, h3, h4⟩ := ihy hcw.2 lo T2 s1 k r h1
        refine ⟨e2, T3, s2, h3, ?_⟩
        intro X ι0 H0 w0 ι lam a w hwb hs hz hb Q hQ
        simp only [codeW, Bool.and_eq_true] at hb
        refine wpIn_seq (h2 X ι0 H0 w0 ι lam a w hwb hs hz hb.1 _ fun ι' lam' a1 w1 g1 g2 g3 => ?_)
        exact h4 X ι0 H0 w0 ι' lam' a1 w1 hwb (g1.weak hw) g2 hb.2 Q fun ι2 lam2 a2 w2 q1 q2 q3 => hQ ι2 lam2 a2 w2 q1 q2 (q3.trans g3)
      cases hj : joinB x y with
      | true =>
        rw [hj] at h1
        exact key (kept (bitsN (lvIn tn y lo) wd 0) T1) h1
      | false =>
        rw [hj] at h1
        exact key (fun _ => .inl rfl) h1
    | exit id =>
      refine ⟨.exit id, T1, s1, h1, ?_⟩
      intro X ι0 H0 w0 ι lam a w hwb hs hz hb Q hQ
      simp only [codeW, Bool.and_eq_true] at hb
      exact wpIn_seq (h2 X ι0 H0 w0 ι lam a w hwb hs hz hb.1 _ fun ι' lam' a1 w1 g1 g2 g3 => hQ ι' lam' a1 w1 g1 g2 g3)
    | ret =>
      refine ⟨.ret, T1, s1, h1, ?_⟩
      intro X ι0 H0 w0 ι lam a w hwb hs hz hb Q hQ
      simp only [codeW, Bool.and_eq_true] at hb
      exact wpIn_seq (h2 X ι0 H0 w0 ι lam a w hwb hs hz hb.1 _ fun ι' lam' a1 w1 g1 g2 g3 => hQ ι' lam' a1 w1 g1 g2 g3)
  | cond c x y ihx ihy =>
    intro hcw lo β T s k r h
    simp only [codeB] at h
    simp only [codeW, Bool.and_eq_true] at hcw
    split at h
    case isFalse => cases h
    rename_i hcl
    simp only [Option.bind_eq_some_iff] at h
    obtain ⟨v, hv, h⟩ := h
    have hev : ∀ {ι0 : Emb} {H0 : List Blk} {w0 : World} {ι : Emb} {lam : Lam} {a : Act} {w : World}, BSim tn n wb ι0 H0 w0 ι lam T s.heap a.tmps w → opdB n c = true → VRel ι v (a.eval c) := by
      intro ι0 H0 w0 ι lam a w hs hb
      cases c with
      | tmp t =>
        simp only [opd, Option.some.injEq] at hv
        subst hv
        have := hs.nm t
        unfold NRel at this
        rw [if_pos (by simpa [opdB] using hb)] at this
        have hl : look t tn = none := by simpa [cleanO, tOf] using hcl
        rw [hl] at this
        exact this
      | const u =>
        simp only [opd] at hv
        split at hv
        · rename_i hc; cases hv; exact constOk_rel hc
        · cases hv
      | global g => simp [opd] at hv
      | func f => simp only [opd, Option.some.injEq] at hv; subst hv; exact .of0 (.func _)
    unfold condV at h
    split at h
    · rename_i b
      cases b with
      | true =>
        obtain ⟨e1, T1, s1, h1, h2⟩ := ihx hcw.1.2 lo T s k r (by simpa using h)
        refine ⟨e1, T1, s1, h1, ?_⟩
        intro X ι0 H0 w0 ι lam a w hwb hs hz hb Q hQ
        simp only [codeW, Bool.and_eq_true] at hb
        exact wpIn_cond_true (hev hs hb.1.1).inv_bool (h2 X ι0 H0 w0 ι lam a w hwb hs hz hb.1.2 Q hQ)
      | false =>
        obtain ⟨e1, T1, s1, h1, h2⟩ := ihy hcw.2 lo T s k r (by simpa using h)
        refine ⟨e1, T1, s1, h1, ?_⟩
        intro X ι0 H0 w0 ι lam a w hwb hs hz hb Q hQ
        simp only [codeW, Bool.and_eq_true] at hb
        exact wpIn_cond_false (hev hs hb.1.1).inv_bool (h2 X ι0 H0 w0 ι lam a w hwb hs hz hb.2 Q hQ)
    · cases h
  | block id x ih =>
    intro hcw lo β T s k r h
    simp only [codeB] at h
    obtain ⟨e1, T1, s1, h1, h2⟩ := ih hcw _ T s _ r h
    cases e1 with
    | normal =>
      refine ⟨.normal, T1, s1, h1, ?_⟩
      intro X ι0 H0 w0 ι lam a w hwb hs hz hb Q hQ
      exact wpIn_block (h2 X ι0 H0 w0 ι lam a w hwb hs hz hb _ fun ι' lam' a1 w1 g1 g2 g3 => hQ ι' lam' a1 w1 g1 g2 g3)
    | ret =>
      refine ⟨.ret, T1, s1, h1, ?_⟩
      intro X ι0 H0 w0 ι lam a w hwb hs hz hb Q hQ
      exact wpIn_block (h2 X ι0 H0 w0 ι lam a w hwb hs hz hb _ fun ι' lam' a1 w1 g1 g2 g3 => hQ ι' lam' a1 w1 g1 g2 g3)
    | exit j =>
      simp only at h1
      split at h1
      · rename_i hj
        refine ⟨.normal, T1, s1, h1, ?_⟩
        intro X ι0 H0 w0 ι lam a w hwb hs hz hb Q hQ
        refine wpIn_block (h2 X ι0 H0 w0 ι lam a w hwb hs hz hb _ fun ι' lam' a1 w1 g1 g2 g3 => ?_)
        simp only [Ex.to, Exit.inBlock, hj, if_true]
        exact hQ ι' lam' a1 w1 g1 g2 g3
      · rename_i hj
        refine ⟨.exit j, T1, s1, h1, ?_⟩
        intro X ι0 H0 w0 ι lam a w hwb hs hz hb Q hQ
        refine wpIn_block (h2 X ι0 H0 w0 ι lam a w hwb hs hz hb _ fun ι' lam' a1 w1 g1 g2 g3 => ?_)
        simp only [Ex.to, Exit.inBlock, hj, if_false]
        exact hQ ι' lam' a1 w1 g1 g2 g3
  | loop x ih =>
    intro hcw lo β T s k r h
    simp only [codeB, Option.bind_eq_some_iff] at h
    obtain ⟨⟨e1, X1, s1⟩, h1, h2⟩ := h
    obtain ⟨q, hq⟩ := hlp _ _ _ _ h1
    have hloop := loopN_does (P := P) (wb := wb) (n := n) (c := x) (F := fun X => ofL (bitsN (lvIn tn (.loop x) lo) wd 0) 0 X noT) (E := fun e X => ofL (liveE wd (bitsN (lvIn tn (.loop x) lo) wd 0) lo e) 0 X noT) (fun X s e X' s' hb => by
      obtain ⟨e2, T2, s2, h3, h4⟩ := ih hcw _ _ s _ _ hb
      cases h3
      exact h4.weakR (kept _ T2)) (fun X => rfl) q _ s e1 X1 s1 hq
    have h3 : k e1 (ofL (liveE wd (bitsN (lvIn tn (.loop x) lo) wd 0) lo e1) 0 X1 noT) s1 = some r := by
      rcases exV_some h2 with ⟨i, he, h3⟩ | ⟨he, h3⟩
      · simp only at he h3; rw [he]; exact h3
      · split at h3
        · simp only at he; rw [he]; exact h3
        · cases h3
    exact ⟨e1, _, s1, h3, hloop.weakL (kept _ T)⟩
  | exit id =>
    intro hcw lo β T s k r h
    refine ⟨.exit id, T, s, h, ?_⟩
    intro X ι0 H0 w0 ι lam a w hwb hs hz hb Q hQ
    exact wpIn_exit (hQ ι lam a w hs hz rfl)
  | ret =>
    intro hcw lo β T s k r h
    refine ⟨.ret, T, s, h, ?_⟩
    intro X ι0 H0 w0 ι lam a w hwb hs hz hb Q hQ
    exact wpIn_ret (hQ ι lam a w hs hz rfl)
  | rangeFunc f params assign body _ _ => intro hcw lo β T s k r h; simp [codeB] at h
  | scope body _ => intro hcw lo β T s k r h; simp [codeB] at h
  | label l => intro hcw lo β T s k r h; simp [codeB] at h
  | goto l => intro hcw lo β T s k r h; simp [codeB] at h
  | refuse why => intro hcw lo β T s k r h; simp [codeB] at h
end
end Go.Proofs.Ytccindbiodofmaa.Ab

/- The abstract machine with variables in the frame: results, functions; without a bound on rounds and calls. -/
namespace Go.Proofs.Ytccindbiodofmaa.Ab
open Go

/-! ### Results -/
def resB (n : Nat) : ResultVar → Bool
  | .tmp t => decide (t < n)
  | .cell a _ => decide (a < n)
def resSem (tmps : Array Value) (x : ResultVar) : Sem Value :=
  match x with
  | .tmp t => pure (tmps.getD t undef)
  | .cell a t => do loadVar t (← asAddr (tmps.getD a undef))

theorem VRel.va_of {ι : Emb} {v v' : Value} (h : VRel ι v v') (hn : noTup v = true) : VA ι v v' := by
  cases h with
  | va h => exact h
  | tuple => simp [noTup] at hn
  | poison => simp [noTup] at hn
theorem VRels.va_of {ι : Emb} : ∀ {l m : List Value}, All2 (VRel ι) l m → l.all noTup = true → All2 (VA ι) l m
  | [], [], _, _ => trivial
  | _ :: _, _ :: _, ⟨h1, h2⟩, hl => by
    simp only [List.all_cons, Bool.and_eq_true] at hl
    exact ⟨h1.va_of hl.1, VRels.va_of h2 hl.2⟩

theorem resPack_rel {ι : Emb} {vs vs' : List Value} (h : All2 (VRel ι) vs vs') (hn : vs.all noTup = true) : VRel ι (resPack vs) (if hz : vs'.toArray.size = 1 then vs'.toArray[0] else .tuple vs'.toArray) := by
  cases vs with
  | nil => cases vs' with
    | nil => simp [resPack]; exact undef_rel ι
    | cons => exact h.elim
  | cons v vs => cases vs' with
    | nil => exact h.elim
    | cons v' vs' => cases vs with
      | nil => cases vs' with
        | nil => simp [resPack]; exact h.1
        | cons => exact h.2.elim
      | cons u vs => cases vs' with
        | nil => exact h.2.elim
        | cons u' vs' =>
          have hl : ¬ ((v' :: u' :: vs').toArray.size = 1) := by simp
          rw [dif_neg hl]
          exact .tuple (VRels.va_of h hn)


section
variable {P : Program} {tn : Tn} {n m wb : Nat} {ι0 ι : Emb} {H0 : List Blk} {lam : Lam} {w0 w : World} {T : Fr} {s : St} {tmps : Array Value}

/-- a result variable's value -/
def resV (P : Program) (tn : Tn) (T : Fr) (s : St) : ResultVar → Option Value
  | .tmp t => if lookC t tn = true then some (getT T t) else none
  | .cell a t => match look a tn with
    | none => (aggT P t).bind fun ag => (sizeT P t).bind fun n => aload ag n (getT T a) s
    | some j => (aggT P t).bind fun ag => (sizeT P t).bind fun n => lload ag n (getT T a) (getT T j)
def resVs (P : Program) (tn : Tn) (T : Fr) (s : St) : List ResultVar → Option (List Value)
  | [] => some []
  | x :: l => (resV P tn T s x).bind fun v => (resVs P tn T s l).bind fun r => some (v :: r)
theorem resK_eq {β : Type} : ∀ {l : List ResultVar} (k : List Value → Option β), resK P tn T s l k = (resVs P tn T s l).bind k
  | [], k => rfl
  | .tmp t :: l, k => by
    simp only [resK, resVs, resV]
    split
    · simp only [Option.bind_some, Option.bind_assoc]; rw [resK_eq]
    · rfl
  | .cell a t :: l, k => by
    simp only [resK, resVs, resV]
    cases look a tn with
    | none =>
      simp only [Option.bind_assoc]
      congr 1; funext ag; congr 1; funext n; congr 1; funext v
      rw [resK_eq]; simp only [Option.bind_some]
    | some j =>
      simp only [Option.bind_assoc]
      congr 1; funext ag; congr 1; funext n; congr 1; funext v
      rw [resK_eq]; simp only [Option.bind_some]

theorem resV_sound (htn : tnOk n m tn = true) (h : BSim tn n wb ι0 H0 w0 ι lam T s.heap tmps w) {x : ResultVar} {v : Value} (hv : resV P tn T s x = some v) (hb : resB n x = true) : ∃ v', (resSem tmps x).run P w = .ok v' w ∧ VRel ι v v' := by
  cases x with
  | tmp t =>
    simp only [resV] at hv
    split at hv
    case isFalse => cases hv
    rename_i hl
    cases hv
    have := h.nm t
    unfold NRel at this
    rw [if_pos (by simpa [resB] using hb)] at this
    have hl2 : look t tn = none := by simpa [lookC] using hl
    rw [hl2] at this
    exact ⟨_, rfl, this⟩
  | cell ad t =>
    have had : ad < n := by simpa [resB] using hb
    have hx := h.nm ad
    unfold NRel at hx
    rw [if_pos had] at hx
    simp only [resV] at hv
    cases hl : look ad tn with
    | none =>
      rw [hl] at hv hx
      simp only [Option.bind_eq_some_iff] at hv
      obtain ⟨ag, hag, n2, hn, hv⟩ := hv
      unfold aload at hv
      split at hv
      case h_2 => cases hv
      rename_i b off heq
      have heq : T ad = _ := heq
      rw [heq] at hx
      obtain ⟨_, lc, hb2, hv'⟩ := hx.inv_ptr
      cases ag with
      | true =>
        simp only [if_true, Option.map_eq_some_iff] at hv
        obtain ⟨vs, hr, rfl⟩ := hv
        obtain ⟨vs', h1, h2, h3⟩ := h.sim.read (P := P) hr hb2
        refine ⟨.agg vs'.toArray, ?_, .va (.agg (by simpa using h2))⟩
        simp only [resSem]
        rw [hv']
        simp [asAddr, loadVar, run_isAgg' hag, run_sizeOf' hn, h1]
      | false =>
        simp only [Bool.false_eq_true, if_false] at hv
        obtain ⟨v', h1, h2⟩ := h.sim.read1 hv hb2
        refine ⟨v', ?_, .of2 h2⟩
        simp only [resSem]
        rw [hv']
        simp [asAddr, loadVar, run_isAgg' hag, h1]
    | some j =>
      rw [hl] at hv hx
      simp only [Option.bind_eq_some_iff] at hv
      obtain ⟨ag, hag, n2, hn, hv⟩ := hv
      have hjn := (tnOk_mem htn hl).2.2
      have hsl := h.nm j
      unfold NRel at hsl
      rw [if_neg (by omega)] at hsl
      unfold lload at hv
      split at hv
      case h_2 => cases hv
      rename_i b2 off sp cs heq hcs
      have heq : T ad = _ := heq
      have hcs : T j = _ := hcs
      rcases hx with ⟨q, hq⟩ | ⟨off', blk, h1, h2, h3⟩
      · rw [hq] at heq; cases heq
      · rw [h1] at heq
        cases heq
        obtain ⟨blk', cs', e', fz, q1, q2, q3, q4⟩ := hsl cs hcs
        rw [h2] at q1
        cases q1
        have hlen : cs.size = cs'.size := by have := q4.length; simpa using this
        cases ag with
        | true =>
          simp only [if_true] at hv
          split at hv
          case isFalse => cases hv
          rename_i hle
          cases hv
          have hrun := run_loadCells_of (P := P) (n := n2) (off := off) q2 (.inr (by omega))
          refine ⟨.agg ((cs'.toList.drop off).take n2).toArray, ?_, .va (.agg (by simpa using (q4.drop off).take n2))⟩
          simp only [resSem]
          rw [h3]
          simp [asAddr, loadVar, run_isAgg' hag, run_sizeOf' hn, hrun]
        | false =>
          simp only [Bool.false_eq_true, if_false] at hv
          obtain ⟨v', g1, g2⟩ := q4.get off v hv
          have hcell : w.cell? ⟨blk, off, none⟩ = some v' := by rw [cell?_of q2]; simpa using g1
          refine ⟨v', ?_, .of2 g2⟩
          simp only [resSem]
          rw [h3]
          simp [asAddr, loadVar, run_isAgg' hag, hcell]

theorem resVs_sound (htn : tnOk n m tn = true) (h : BSim tn n wb ι0 H0 w0 ι lam T s.heap tmps w) : ∀ {l : List ResultVar} {vs : List Value}, resVs P tn T s l = some vs → l.all (resB n) = true →
    ∃ vs', (l.mapM (resSem tmps)).run P w = .ok vs' w ∧ All2 (VRel ι) vs vs'
  | [], vs, hv, _ => by simp [resVs] at hv; subst hv; exact ⟨[], rfl, trivial⟩
  | x :: l, vs, hv, hb => by
    simp only [resVs, Option.bind_eq_some_iff] at hv
    obtain ⟨v, hv, r, hr, hh⟩ := hv
    cases hh
    simp only [List.all_cons, Bool.and_eq_true] at hb
    obtain ⟨v', h1, h2⟩ := resV_sound htn h hv hb.1
    obtain ⟨vs', h3, h4⟩ := resVs_sound htn h hr hb.2
    refine ⟨v' :: vs', ?_, h2, h4⟩
    rw [List.mapM_cons, Sem.run_bind, h1, Result.andThen_ok, Sem.run_bind, h3]
    rfl

theorem results_sound {fn : Func} (htn : tnOk n m tn = true) (h : BSim tn n wb ι0 H0 w0 ι lam T s.heap tmps w) {vs : List Value} (hv : resVs P tn T s fn.results.toList = some vs) (hn : vs.all noTup = true)
    (hb : fn.results.toList.all (resB n) = true) : ∃ v', (results fn tmps).run P w = .ok v' w ∧ VRel ι (resPack vs) v' := by
  obtain ⟨vs', h1, h2⟩ := resVs_sound htn h hv hb
  refine ⟨_, ?_, resPack_rel h2 hn⟩
  have hm : (fn.results.mapM (resSem tmps)).run P w = .ok vs'.toArray w := by
    rw [Array.mapM_eq_mapM_toList, Sem.run_map, h1]
    rfl
  show (do let vs ← fn.results.mapM (resSem tmps); pure (if h : vs.size = 1 then vs[0] else .tuple vs) : Sem Value).run P w = _
  rw [Sem.run_bind, hm]
  rfl
end

def funcW (fn : Func) : Bool :=
  match fn.body with
  | some c => codeW fn.ntmps c && fn.results.toList.all (resB fn.ntmps)
  | none => true
def progW (P : Program) : Bool := P.funcs.all funcW

def LibOk (P : Program) (lib : Lib) : Prop := ∀ f g, lib f = some g → ∀ args s v s', g args s = some (v, s') → ∀ wb ι w (args' : Array Value), Sim wb ι s.heap w → All2 (VRel ι) args args'.toList →
    Calls P f args' w fun e w' => ∃ v', e = .returned v' ∧ After wb ι s.heap w s'.heap v v' w'


theorem getL_get : ∀ (l : List Value) (i : Nat), getL l i = (l[i]?).getD undef
  | [], i => by simp [getL]
  | x :: l, 0 => by simp [getL]
  | x :: l, i + 1 => by simp [getL, getL_get l i]
theorem args_rel {ι : Emb} {args : List Value} {args' : Array Value} (h : All2 (VRel ι) args args'.toList) (k i : Nat) : VRel ι (ofArgs args i) ((args' ++ Array.replicate k undef).getD i undef) := by
  have hl := h.length
  unfold ofArgs
  rw [getL_get]
  by_cases hia : i < args.length
  · obtain ⟨b, hb, hr⟩ := h.get i args[i] (by simp [hia])
    have hsz : i < args'.size := by simpa [hl] using hia
    have : (args' ++ Array.replicate k undef).getD i undef = b := by
      have h2 : args'[i]? = some b := by simpa using hb
      rw [Array.getD_eq_getD_getElem?, Array.getElem?_append_left hsz, h2]
      rfl
    rw [this, List.getElem?_eq_getElem hia]
    exact hr
  · have hsz : args'.size ≤ i := by
      have : args'.toList.length = args.length := hl.symm
      simp at this
      omega
    have : (args' ++ Array.replicate k undef).getD i undef = undef := by
      rw [Array.getD_eq_getD_getElem?, Array.getElem?_append_right hsz, Array.getElem?_replicate]
      split <;> rfl
    rw [this, List.getElem?_eq_none (by omega)]
    exact undef_rel ι

theorem bodyB_sound {P : Program} {call : Caller} {tn : Tn} {lp : (List Value → St → Res) → List Value → St → Res} (hcall : CallOk P call) (hlp : ∀ body X s r, lp body X s = some r → ∃ q, loopN body q X s = some r)
    {f : FuncId} {fn : Func} (hfn : P.funcs[f]? = some fn) (hW : funcW fn = true) {args : List Value} {s s' : St} {v : Value} (h : bodyB P call tn lp fn args s = some (v, s')) {wb : Nat} {ι : Emb} {w : World} {args' : Array Value} (hs : Sim wb ι s.heap w) (ha : All2 (VRel ι) args args'.toList) :
    Calls P f args' w fun e w' => ∃ v', e = .returned v' ∧ After wb ι s.heap w s'.heap v v' w' := by
  simp only [bodyB, Option.bind_eq_some_iff] at h
  obtain ⟨c, hc, h⟩ := h
  split at h
  case isFalse => cases h
  rename_i hok
  simp only [Bool.and_eq_true, Nat.ble_eq] at hok
  obtain ⟨hlen, htn⟩ := hok
  unfold funcW at hW
  simp only [hc, Bool.and_eq_true] at hW
  have hsz : args'.size = args.length := by simpa using ha.length.symm
  have hts : (args' ++ Array.replicate (fn.ntmps - args'.size) undef).size = fn.ntmps := by simp; omega
  obtain ⟨e, T', s1, h1, h2⟩ := codeB_sound (wb := wb) hcall htn hlp c hW.1 _ _ _ _ _ h
  refine (callsIn_wide (n := 0)).1 (callsIn_of_wp (F := FR (none, 0)) hfn hc trivial ?_ rfl)
  have hstart : BSim tn fn.ntmps wb ι s.heap w ι (fun _ => none) (ofArgs args) s.heap (args' ++ Array.replicate (fn.ntmps - args'.size) undef) w := by
    refine ⟨hs, ⟨fun _ _ h => (by cases h), fun _ _ h => (by cases h), fun _ _ _ h => (by cases h)⟩, .refl _ _ _ hs.dom, fun x => ?_⟩
    unfold NRel
    split
    · rename_i hx
      cases hl : look x tn with
      | none => exact args_rel ha _ x
      | some j =>
        have := (tnOk_mem htn hl).1
        left
        unfold ofArgs
        rw [getL_get, List.getElem?_eq_none (by omega)]
        exact ⟨_, rfl⟩
    · rename_i hx
      intro cells hcc
      unfold ofArgs at hcc
      rw [getL_get, List.getElem?_eq_none (by omega)] at hcc
      cases hcc
  refine h2 (none, 0) ι s.heap w ι (fun _ => none) ⟨args' ++ Array.replicate (fn.ntmps - args'.size) undef, []⟩ w hs.size hstart hts hW.1 _ fun κ lam' a' w' g1 g2 g3 => ?_
  simp only at g3
  unfold doneK at h1
  simp only [resK_eq, retV] at h1
  have hne : ∀ id, e ≠ .exit id := by intro id he; subst he; simp at h1
  have h3 : ∃ vs, resVs P tn T' s1 fn.results.toList = some vs ∧ vs.all noTup = true ∧ v = resPack vs ∧ s' = s1 := by
    cases e with
    | exit id => exact absurd rfl (hne id)
    | normal =>
      simp only [Option.bind_eq_some_iff] at h1
      obtain ⟨vs, h4, h5⟩ := h1
      split at h5
      · rename_i hn; cases h5; exact ⟨vs, h4, hn, rfl, rfl⟩
      · cases h5
    | ret =>
      simp only [Option.bind_eq_some_iff] at h1
      obtain ⟨vs, h4, h5⟩ := h1
      split at h5
      · rename_i hn; cases h5; exact ⟨vs, h4, hn, rfl, rfl⟩
      · cases h5
  obtain ⟨vs, h4, h5, rfl, rfl⟩ := h3
  obtain ⟨v', h6, h7⟩ := results_sound htn g1 h4 h5 hW.2
  have hpost : a'.defers = [] ∧ ∃ u, (results fn a'.tmps).run P w' = .ok u w' ∧ (∃ v', Ending.returned u = .returned v' ∧ After wb ι s.heap w s'.heap (resPack vs) v' w') := ⟨g3, v', h6, v', rfl, κ, g1.sim, g1.step, h7⟩
  cases e with
  | exit id => exact absurd rfl (hne id)
  | normal => exact hpost
  | ret => exact hpost

theorem fnB_sound {P : Program} {lib : Lib} {hints : Hints} (hprog : progW P = true) (hlib : LibOk P lib) : ∀ j, CallOk P (fnB P lib hints j) := by
  intro j
  induction j with
  | zero => intro f args s v s' h; simp [fnB] at h
  | succ j ih =>
    intro f args s v s' h hok wb ι w args' hs ha
    simp only [fnB] at h
    split at h
    · rename_i g hg
      exact hlib f g hg args s v s' h wb ι w args' hs ha
    · simp only [Option.bind_eq_some_iff] at h
      obtain ⟨fn, hfn, h⟩ := h
      have hW : funcW fn = true := by
        have := Array.all_eq_true.1 hprog
        obtain ⟨hi, hget⟩ := Array.getElem?_eq_some_iff.1 hfn
        rw [← hget]
        exact this f hi
      exact bodyB_sound ih (fun body X s r hr => ⟨j, hr⟩) hfn hW h hs ha

/-! ### Without a bound -/
/-- from some place on -/
def Ev {α : Type} (F : Nat → Option α) (r : α) : Prop := ∃ j, ∀ i, j ≤ i → F i = some r
theorem Ev.eq {α : Type} {F : Nat → Option α} {r q : α} (h : Ev F r) (g : Ev F q) : r = q := by
  obtain ⟨i, hi⟩ := h
  obtain ⟨j, hj⟩ := g
  have h1 := hi (max i j) (Nat.le_max_left _ _)
  rw [hj (max i j) (Nat.le_max_right _ _)] at h1
  cases h1
  rfl
theorem Ev.const {α : Type} {x : Option α} {r : α} (h : x = some r) : Ev (fun _ => x) r := ⟨0, fun _ _ => h⟩
theorem Ev.bind {α β : Type} {F : Nat → Option α} {G : Nat → α → Option β} {p : α} {r : β} (h : Ev F p) (g : Ev (fun j => G j p) r) : Ev (fun j => (F j).bind (G j)) r := by
  obtain ⟨i, hi⟩ := h
  obtain ⟨j, hj⟩ := g
  exact ⟨max i j, fun m hm => by show (F m).bind (G m) = some r; rw [hi m (by omega)]; exact hj m (by omega)⟩
theorem Ev.shift {α : Type} {F : Nat → Option α} {r : α} (h : Ev (fun j => F (j + 1)) r) : Ev F r := by
  obtain ⟨i, hi⟩ := h
  exact ⟨i + 1, fun m hm => by
    obtain ⟨m, rfl⟩ : ∃ q, m = q + 1 := ⟨m - 1, by omega⟩
    exact hi m (by omega)⟩
theorem Ev.congr {α : Type} {F G : Nat → Option α} {r : α} (h : Ev F r) (e : ∀ j, F j = G j) : Ev G r := by
  obtain ⟨i, hi⟩ := h
  exact ⟨i, fun m hm => by rw [← e]; exact hi m hm⟩

open Classical in
noncomputable def limO {α : Type} (F : Nat → Option α) : Option α := if h : ∃ r, Ev F r then some h.choose else none
theorem limO_some {α : Type} {F : Nat → Option α} {r : α} : limO F = some r ↔ Ev F r := by
  unfold limO
  constructor
  · intro h
    split at h
    · rename_i hx; cases h; exact hx.choose_spec
    · cases h
  · intro h
    rw [dif_pos ⟨r, h⟩]
    congr 1
    exact (Exists.choose_spec ⟨r, h⟩ : Ev F _).eq h

/-- as many rounds as it takes -/
noncomputable def loopL (body : List Value → St → Res) (T : List Value) (s : St) : Res := limO fun m => loopN body m T s

theorem loopN_succ {body : List Value → St → Res} : ∀ {m : Nat} {T : List Value} {s : St} {r : Ex × List Value × St}, loopN body m T s = some r → loopN body (m + 1) T s = some r
  | 0, _, _, _, h => by simp [loopN] at h
  | m + 1, T, s, r, h => by
    simp only [loopN, seqA, Option.bind_eq_some_iff] at h
    obtain ⟨⟨e1, T1, s1⟩, h1, h2⟩ := h
    rw [loopN, seqA, h1, Option.bind_some]
    cases e1 with
    | normal => exact loopN_succ (m := m) h2
    | exit id => exact h2
    | ret => exact h2
theorem loopN_le {body : List Value → St → Res} {m i : Nat} (hm : m ≤ i) {T : List Value} {s : St} {r : Ex × List Value × St} (h : loopN body m T s = some r) : loopN body i T s = some r := by
  induction i with
  | zero => rw [Nat.le_zero.1 hm] at h; exact h
  | succ i ih =>
    by_cases he : m = i + 1
    · rw [← he]; exact h
    · exact loopN_succ (ih (by omega))
theorem loopL_some {body : List Value → St → Res} {T : List Value} {s : St} {r : Ex × List Value × St} : loopL body T s = some r ↔ ∃ m, loopN body m T s = some r := by
  unfold loopL
  rw [limO_some]
  exact ⟨fun ⟨j, hj⟩ => ⟨j, hj j (Nat.le_refl _)⟩, fun ⟨m, hm⟩ => ⟨m, fun i hi => loopN_le hi hm⟩⟩

theorem loopL_eq (body : List Value → St → Res) (T : List Value) (s : St) : loopL body T s = seqA (body T s) (loopL body) := by
  have key : ∀ r, loopL body T s = some r ↔ seqA (body T s) (loopL body) = some r := by
    intro r
    rw [loopL_some]
    simp only [seqA, Option.bind_eq_some_iff]
    constructor
    · rintro ⟨m, hm⟩
      cases m with
      | zero => simp [loopN] at hm
      | succ m =>
        simp only [loopN, seqA, Option.bind_eq_some_iff] at hm
        obtain ⟨⟨e1, T1, s1⟩, h1, h2⟩ := hm
        refine ⟨(e1, T1, s1), h1, ?_⟩
        cases e1 with
        | normal => exact loopL_some.2 ⟨m, h2⟩
        | exit id => exact h2
        | ret => exact h2
    · rintro ⟨⟨e1, T1, s1⟩, h1, h2⟩
      cases e1 with
      | normal =>
        obtain ⟨m, hm⟩ := loopL_some.1 h2
        exact ⟨m + 1, by rw [loopN, seqA, h1]; exact hm⟩
      | exit id => exact ⟨1, by rw [loopN, seqA, h1]; exact h2⟩
      | ret => exact ⟨1, by rw [loopN, seqA, h1]; exact h2⟩
  cases h : seqA (body T s) (loopL body) with
  | some r => exact (key r).2 h
  | none =>
    cases h2 : loopL body T s with
    | none => rfl
    | some r => rw [(key r).1 h2] at h; cases h


section
variable {P : Program} {call : Caller} {callJ : Nat → Caller} {tn : Tn}

theorem evalOp_call {T : Fr} {o : Oper} {s : St} {p : Value × St} (hc : ∀ f args s r, call f args s = some r → Ev (fun j => callJ j f args s) r) (h : evalOp P call T o s (fun v s => some (v, s)) = some p) :
    Ev (fun j => evalOp P (callJ j) T o s (fun v s => some (v, s))) p := by
  by_cases hb : ∃ c f, o.op = .call c ∧ c.callee = .value f
  · obtain ⟨c, f, h1, h2⟩ := hb
    simp only [evalOp, h1, h2, Option.bind_eq_some_iff] at h ⊢
    obtain ⟨vf, hf, xs, hx, h⟩ := h
    rw [hf, hx]
    simp only [Option.bind_some]
    obtain ⟨q, hq, he⟩ := h
    refine Ev.bind (p := q) ?_ (.const he)
    unfold callV at hq ⊢
    split at hq
    · split at hq
      case isFalse => cases hq
      rename_i hok
      simp only [hok, if_true]
      exact hc _ _ _ _ hq
    · cases hq
  · refine .congr (.const h) fun j => ?_
    unfold evalOp
    split <;> first | rfl | skip
    split <;> first | rfl | skip
    rename_i c heq _ f hcal
    exact absurd ⟨c, f, heq, hcal⟩ hb


variable (hc : ∀ f args s r, call f args s = some r → Ev (fun j => callJ j f args s) r)
include hc

theorem evalOpK_call {T : Fr} {o : Oper} {s : St} {β : Type} {k : Value → St → Option β} {kJ : Nat → Value → St → Option β} {r : β} (h : evalOp P call T o s k = some r) (hk : ∀ v s, k v s = some r → Ev (fun j => kJ j v s) r) : Ev (fun j => evalOp P (callJ j) T o s (kJ j)) r := by
  rw [evalOp_cps] at h
  simp only [Option.bind_eq_some_iff] at h
  obtain ⟨p, h1, h2⟩ := h
  refine (Ev.bind (G := fun j p => kJ j p.1 p.2) (evalOp_call hc h1) (hk _ _ h2)).congr fun j => ?_
  exact (evalOp_cps _).symm

theorem opB_call {T : Fr} {o : Oper} {s : St} {β : Type} {k : Fr → St → Option β} {kJ : Nat → Fr → St → Option β} {r : β} (h : opB P call tn T o s k = some r) (hk : ∀ T s, k T s = some r → Ev (fun j => kJ j T s) r) : Ev (fun j => opB P (callJ j) tn T o s (kJ j)) r := by
  unfold opB at h ⊢
  cases hkk : locK tn o with
  | bad => simp [hkk] at h
  | glob => simp only [hkk] at h ⊢; exact evalOpK_call hc h fun v s h => hk _ _ h
  | ptr j => simp only [hkk] at h ⊢; exact evalOpK_call hc h fun v s h => hk _ _ h
  | mk j =>
    simp only [hkk] at h ⊢
    split at h
    · simp only [Option.bind_eq_some_iff] at h
      obtain ⟨z, hz, c, hc, h⟩ := h
      refine (hk _ _ h).congr fun j => ?_
      simp [hz, hc]
    · simp only [Option.bind_eq_some_iff] at h
      obtain ⟨z, hz, c, hc, h⟩ := h
      refine (hk _ _ h).congr fun j => ?_
      simp [hz, hc]
    · cases h
  | ld j =>
    simp only [hkk] at h ⊢
    split at h
    · simp only [Option.bind_eq_some_iff] at h
      obtain ⟨a, ha, ag, hag, n, hn, v, hv, h⟩ := h
      refine (hk _ _ h).congr fun j => ?_
      simp [ha, hag, hn, hv]
    · cases h
  | st j =>
    simp only [hkk] at h ⊢
    split at h
    · simp only [Option.bind_eq_some_iff] at h
      obtain ⟨a, ha, x, hx, n, hn, c, hcc, h⟩ := h
      refine (hk _ _ h).congr fun j => ?_
      simp [ha, hx, hn, hcc]
    · cases h

theorem seqB_call : ∀ {l : List Oper} {T : Fr} {s : St} {β : Type} {k : Fr → St → Option β} {kJ : Nat → Fr → St → Option β} {r : β}, seqB P call tn l T s k = some r → (∀ T s, k T s = some r → Ev (fun j => kJ j T s) r) → Ev (fun j => seqB P (callJ j) tn l T s (kJ j)) r
  | [], _, _, _, _, _, _, h, hk => hk _ _ h
  | o :: l, _, _, _, _, _, _, h, hk => opB_call hc h fun _ _ h => seqB_call h hk

theorem guardV_call {β : Type} {v : Value} {w : Bool} {x y : Option β} {xJ : Nat → Option β} {r : β} (h : guardV v w x y = some r) (hx : x = some r → Ev xJ r) : Ev (fun j => guardV v w (xJ j) y) r := by
  rcases guardV_ways h with ⟨rfl, h2⟩ | ⟨hv, h2⟩
  · refine (hx h2).congr fun j => ?_
    simp [guardV]
  · refine .congr (.const h2) fun j => ?_
    rcases hv with rfl | rfl
    · cases w <;> simp [guardV]
    · simp [guardV]

theorem grpsB_call {ops : Array Oper} {mk : Nat} : ∀ {gs : List Grp} {T : Fr} {s : St} {β : Type} {k : Fr → St → Option β} {kJ : Nat → Fr → St → Option β} {r : β}, grpsB P call tn ops mk gs T s k = some r → (∀ T s, k T s = some r → Ev (fun j => kJ j T s) r) →
    Ev (fun j => grpsB P (callJ j) tn ops mk gs T s (kJ j)) r
  | [], _, _, _, _, _, _, h, hk => hk _ _ h
  | (none, os) :: gs, _, _, _, _, _, _, h, hk => seqB_call hc h fun _ _ h => grpsB_call h hk
  | (some g, os) :: gs, T, s, β, k, kJ, r, h, hk => by
    simp only [grpsB, Option.bind_eq_some_iff] at h ⊢
    obtain ⟨t, ht, h⟩ := h
    rw [ht]
    simp only [Option.bind_some]
    split at h
    case isFalse => cases h
    rename_i hcc
    simp only [hcc, if_true]
    simp only [Option.bind_eq_some_iff] at h
    obtain ⟨q, h1, h2⟩ := h
    refine Ev.bind (p := q) ?_ (grpsB_call h2 hk)
    exact guardV_call hc h1 fun h => seqB_call hc h fun _ _ h => .const h

theorem oneB_call {ops : Array Oper} {T : Fr} {o : Oper} {s : St} {p : Fr × St} (h : oneB P call tn ops T o s = some p) : Ev (fun j => oneB P (callJ j) tn ops T o s) p := by
  unfold oneB at h ⊢
  cases hg : o.guard with
  | none => simp only [hg] at h ⊢; exact opB_call hc h fun _ _ h => .const h
  | some g =>
    simp only [hg, Option.bind_eq_some_iff] at h ⊢
    obtain ⟨t, ht, h⟩ := h
    rw [ht]
    simp only [Option.bind_some]
    split at h
    case isFalse => cases h
    rename_i hl
    simp only [hl, if_true]
    exact guardV_call hc h fun h => opB_call hc h fun _ _ h => .const h

theorem valB_call {ops : Array Oper} {T : Fr} {o : Oper} {s : St} {p : Value × St} (h : valB P call tn ops T o s = some p) : Ev (fun j => valB P (callJ j) tn ops T o s) p := by
  unfold valB at h ⊢
  cases hg : o.guard with
  | none => simp only [hg] at h ⊢; exact evalOp_call hc h
  | some g =>
    simp only [hg, Option.bind_eq_some_iff] at h ⊢
    obtain ⟨t, ht, h⟩ := h
    rw [ht]
    simp only [Option.bind_some]
    split at h
    case isFalse => cases h
    rename_i hl
    simp only [hl, if_true]
    exact guardV_call hc h fun h => evalOp_call hc h

theorem drawB_call {ops : Array Oper} {bf : List Nat} {mm : Nat} {T0 : Fr} {n0 i : Nat} {o : Oper} {T : Fr} {s : St} {p : Fr × St} (h : drawB P call tn ops bf mm T0 n0 i o T s = some p) :
    Ev (fun j => drawB P (callJ j) tn ops bf mm T0 n0 i o T s) p := by
  unfold drawB at h ⊢
  cases hm : modeB P tn bf ops.size mm i o with
  | pure => simp only [hm] at h ⊢; exact oneB_call hc h
  | own =>
    simp only [hm, Option.bind_eq_some_iff] at h ⊢
    obtain ⟨q, h1, h2⟩ := h
    exact (valB_call hc h1).bind (.const (Option.bind_eq_some_iff.2 h2))
  | quiet =>
    simp only [hm, Option.bind_eq_some_iff] at h ⊢
    obtain ⟨q, h1, h2⟩ := h
    exact (valB_call hc h1).bind (.const h2)
  | store =>
    simp only [hm, Option.bind_eq_some_iff] at h ⊢
    obtain ⟨t, ht, h⟩ := h
    rw [ht]
    simp only [Option.bind_some]
    split at h
    · cases h
    · rename_i hk
      simp only [Option.bind_eq_some_iff] at h
      obtain ⟨q, h1, h2⟩ := h
      simp only [hk]
      exact (valB_call hc h1).bind (.const (Option.bind_eq_some_iff.2 h2))
  | bad => simp [hm] at h

theorem drawsB_call {ops : Array Oper} {bf : List Nat} {mm : Nat} {T0 : Fr} {n0 : Nat} : ∀ {l : List Oper} {i : Nat} {T : Fr} {s : St} {p : Fr × St}, drawsB P call tn ops bf mm T0 n0 i l T s = some p → Ev (fun j => drawsB P (callJ j) tn ops bf mm T0 n0 i l T s) p
  | [], _, _, _, _, h => .const h
  | o :: l, i, T, s, p, h => by
    simp only [drawsB, Option.bind_eq_some_iff] at h ⊢
    obtain ⟨q, h1, h2⟩ := h
    exact (drawB_call hc h1).bind (drawsB_call h2)

theorem drawA_call {ops : Array Oper} {bf : List Nat} {mm : Nat} {T1 : Fr} {i : Nat} {o : Oper} {T : Fr} {s : St} {p : Fr × St} (h : drawA P call tn ops bf mm T1 i o T s = some p) :
    Ev (fun j => drawA P (callJ j) tn ops bf mm T1 i o T s) p := by
  unfold drawA at h ⊢
  cases hm : modeA P tn bf ops.size mm i o with
  | pure => simp only [hm] at h ⊢; exact oneB_call hc h
  | own =>
    simp only [hm, Option.bind_eq_some_iff] at h ⊢
    obtain ⟨q, h1, h2⟩ := h
    exact (valB_call hc h1).bind (.const (Option.bind_eq_some_iff.2 h2))
  | quiet =>
    simp only [hm, Option.bind_eq_some_iff] at h ⊢
    obtain ⟨q, h1, h2⟩ := h
    exact (valB_call hc h1).bind (.const (Option.bind_eq_some_iff.2 h2))
  | store => simp [hm] at h
  | bad =>
    simp only [hm] at h ⊢
    split at h
    case isFalse => cases h
    rename_i ha
    simp only [ha, if_true]
    simp only [Option.bind_eq_some_iff] at h
    obtain ⟨q, h1, h2⟩ := h
    exact (valB_call hc h1).bind (.const (Option.bind_eq_some_iff.2 h2))
theorem drawsA_call {ops : Array Oper} {bf : List Nat} {mm : Nat} {T1 : Fr} : ∀ {l : List Oper} {i : Nat} {T : Fr} {s : St} {p : Fr × St}, drawsA P call tn ops bf mm T1 i l T s = some p → Ev (fun j => drawsA P (callJ j) tn ops bf mm T1 i l T s) p
  | [], _, _, _, _, h => .const h
  | o :: l, i, T, s, p, h => by
    simp only [drawsA, Option.bind_eq_some_iff] at h ⊢
    obtain ⟨q, h1, h2⟩ := h
    exact (drawA_call hc h1).bind (drawsA_call h2)
theorem dryB_call {ops : Array Oper} {L : List Nat} : ∀ {l : List Oper} {T : Fr} {s : St} {p : List Value}, dryB P call tn ops L l T s = some p → Ev (fun j => dryB P (callJ j) tn ops L l T s) p
  | [], _, _, _, h => .const h
  | o :: l, T, s, p, h => by
    simp only [dryB, Option.bind_eq_some_iff] at h ⊢
    obtain ⟨q, h1, h2⟩ := h
    exact (oneB_call hc h1).bind (dryB_call h2)

theorem drawsL_call {L : LitI} {ops N : Array Oper} {bf : List Nat} {mm : Nat} : ∀ {l : List Oper} {i : Nat} {T : Fr} {s : St} {p : Fr × St}, drawsL P call tn L ops N bf mm i l T s = some p → Ev (fun j => drawsL P (callJ j) tn L ops N bf mm i l T s) p
  | [], _, _, _, _, h => .const h
  | o :: l, i, T, s, p, h => by
    unfold drawsL at h ⊢
    cases hk : litOp L o with
    | no =>
      simp only [hk, Option.bind_eq_some_iff] at h ⊢
      obtain ⟨q, h1, h2⟩ := h
      exact (drawB_call hc h1).bind (drawsL_call h2)
    | look y =>
      simp only [hk, Option.bind_eq_some_iff] at h ⊢
      obtain ⟨x, hx, lv, hlv, v, hv, h⟩ := h
      exact (drawsL_call h).congr fun j => by simp only [hx, hlv, hv, Option.bind_some]
    | mk => simp only [hk] at h ⊢; exact drawsL_call h
    | mv => simp only [hk] at h ⊢; exact drawsL_call h
    | ins n v => simp only [hk] at h ⊢; exact drawsL_call h

theorem codeB_call {wd : Nat} : ∀ (c : Code) (lo : Lo) {β : Type} {T : Fr} {s : St} {k : Ex → Fr → St → Option β} {kJ : Nat → Ex → Fr → St → Option β} {r : β}, codeB P call tn loopL wd c lo T s k = some r → (∀ e T s, k e T s = some r → Ev (fun j => kJ j e T s) r) →
    Ev (fun j => codeB P (callJ j) tn (fun b => loopN b j) wd c lo T s (kJ j)) r := by
  intro c
  induction c with
  | skip => intro lo β T s k kJ r h hk; exact hk _ _ _ h
  | region id ops draw =>
    intro lo β T s k kJ r h hk
    cases draw with
    | false =>
      simp only [codeB] at h ⊢
      exact grpsB_call hc h fun T s h => hk _ _ _ h
    | true =>
      simp only [codeB] at h ⊢
      cases hl : litIs P tn ops with
      | true =>
        simp only [hl, cond_true, litB_eq, Option.bind_eq_some_iff] at h ⊢
        obtain ⟨p, h1, h2⟩ := h
        exact (drawsL_call hc h1).bind (hk _ _ _ h2)
      | false =>
        simp only [hl, cond_false] at h ⊢
        split at h
        case isFalse => cases h
        rename_i hd
        cases ha : hasApp P tn (beforeL [] ops.toList) ops.size (memMask P tn 0 ops.toList) 0 ops.toList with
        | true =>
          simp only [ha, cond_true, drawsAK_eq, dryK_eq, Option.bind_eq_some_iff] at h
          obtain ⟨X, h0, p, h1, h2⟩ := h
          simp only [hd, if_true, cond_true, drawsAK_eq, dryK_eq]
          exact (dryB_call hc h0).bind ((drawsA_call hc h1).bind (hk _ _ _ h2))
        | false =>
          simp only [ha, cond_false, drawsK_eq, Option.bind_eq_some_iff] at h
          obtain ⟨p, h1, h2⟩ := h
          simp only [hd, if_true, cond_false, drawsK_eq]
          exact (drawsB_call hc h1).bind (hk _ _ _ h2)
  | seq x y ihx ihy =>
    intro lo β T s k kJ r h hk
    simp only [codeB] at h ⊢
    refine ihx _ h fun e T1 s1 h1 => ?_
    cases e with
    | normal =>
      cases hj : joinB x y with
      | true => simp only [hj, cond_true] at h1 ⊢; exact ihy _ h1 hk
      | false => simp only [hj, cond_false] at h1 ⊢; exact ihy _ h1 hk
    | exit id => exact hk _ _ _ h1
    | ret => exact hk _ _ _ h1
  | cond c x y ihx ihy =>
    intro lo β T s k kJ r h hk
    simp only [codeB] at h ⊢
    split at h
    case isFalse => cases h
    rename_i hcl
    simp only [hcl, if_true]
    simp only [Option.bind_eq_some_iff] at h
    obtain ⟨v, hv, h⟩ := h
    rw [hv]
    simp only [Option.bind_some]
    unfold condV at h ⊢
    split at h
    · rename_i b
      cases b with
      | true => simp only [if_true] at h ⊢; exact ihx _ h hk
      | false => simp only [Bool.false_eq_true, if_false] at h ⊢; exact ihy _ h hk
    · cases h
  | block id x ih =>
    intro lo β T s k kJ r h hk
    simp only [codeB] at h ⊢
    refine ih _ h fun e T1 s1 h1 => ?_
    cases e with
    | normal => exact hk _ _ _ h1
    | ret => exact hk _ _ _ h1
    | exit j =>
      simp only at h1 ⊢
      split at h1
      · rename_i hj; simp only [hj, if_true]; exact hk _ _ _ h1
      · rename_i hj; simp only [hj, if_false]; exact hk _ _ _ h1
  | loop x ih =>
    intro lo β T s k kJ r h hk
    simp only [codeB, Option.bind_eq_some_iff] at h ⊢
    obtain ⟨p, h1, h2⟩ := h
    have hex : Ev (fun j => exV p.1 ((exitIds x).map fun i => (i, kJ j (.exit i) (ofL (bitsN (exLo i lo.exs) wd 0) 0 p.2.1 noT) p.2.2)) (if hasRet x = true then kJ j .ret (ofL (bitsN lo.ret wd 0) 0 p.2.1 noT) p.2.2 else none)) r := by
      obtain ⟨e, T1, s1⟩ := p
      cases e with
      | normal => cases h2
      | ret =>
        simp only [exV] at h2 ⊢
        split at h2
        · rename_i hr; simp only [hr, if_true]; exact hk _ _ _ h2
        · cases h2
      | exit q =>
        simp only [exV] at h2 ⊢
        have look : ∀ l : List Nat, lookE q (l.map fun i => (i, k (.exit i) (ofL (bitsN (exLo i lo.exs) wd 0) 0 T1 noT) s1)) = some r → Ev (fun j => lookE q (l.map fun i => (i, kJ j (.exit i) (ofL (bitsN (exLo i lo.exs) wd 0) 0 T1 noT) s1))) r := by
          intro l
          induction l with
          | nil => intro h; simp [lookE] at h
          | cons i l ih =>
            intro h
            simp only [List.map_cons, lookE] at h ⊢
            split at h
            · rename_i hq; simp only [hq, if_true]; exact hk _ _ _ h
            · rename_i hq; simp only [hq, if_false]; exact ih h
        exact look _ h2
    refine Ev.bind (p := p) ?_ hex
    obtain ⟨q, hm⟩ := loopL_some.1 h1
    have key : ∀ (q : Nat) (X : List Value) (s : St), loopN (fun X s => codeB P call tn loopL wd x { lo with nrm := lvIn tn (.loop x) lo } (ofL (bitsN (lvIn tn (.loop x) lo) wd 0) 0 X noT) s fun e T s => some (e, toL (liveE wd (bitsN (lvIn tn (.loop x) lo) wd 0) lo e) T, s)) q X s = some p →
        Ev (fun j => loopN (fun X s => codeB P (callJ j) tn (fun b => loopN b j) wd x { lo with nrm := lvIn tn (.loop x) lo } (ofL (bitsN (lvIn tn (.loop x) lo) wd 0) 0 X noT) s fun e T s => some (e, toL (liveE wd (bitsN (lvIn tn (.loop x) lo) wd 0) lo e) T, s)) q X s) p := by
      intro q
      induction q with
      | zero => intro X s h; simp [loopN] at h
      | succ q ihq =>
        intro X s h
        simp only [loopN, seqA, Option.bind_eq_some_iff] at h ⊢
        obtain ⟨⟨e1, X1, s1⟩, g1, g2⟩ := h
        refine Ev.bind (p := (e1, X1, s1)) (ih _ (kJ := fun _ e T s => some (e, toL (liveE wd (bitsN (lvIn tn (.loop x) lo) wd 0) lo e) T, s)) g1 fun e T s he => .const he) ?_
        cases e1 with
        | normal => exact ihq X1 s1 g2
        | exit id => exact .const g2
        | ret => exact .const g2
    obtain ⟨i, hi⟩ := key q _ s hm
    exact ⟨max i q, fun j hj => loopN_le (by omega) (hi j (by omega))⟩
  | exit id => intro lo β T s k kJ r h hk; exact hk _ _ _ h
  | ret => intro lo β T s k kJ r h hk; exact hk _ _ _ h
  | rangeFunc f params assign body _ _ => intro lo β T s k kJ r h; simp [codeB] at h
  | scope body _ => intro lo β T s k kJ r h; simp [codeB] at h
  | label l => intro lo β T s k kJ r h; simp [codeB] at h
  | goto l => intro lo β T s k kJ r h; simp [codeB] at h
  | refuse why => intro lo β T s k kJ r h; simp [codeB] at h

theorem bodyB_call {fn : Func} {args : List Value} {s : St} {r : Value × St} (h : bodyB P call tn loopL fn args s = some r) : Ev (fun j => bodyB P (callJ j) tn (fun b => loopN b j) fn args s) r := by
  simp only [bodyB, Option.bind_eq_some_iff] at h ⊢
  obtain ⟨c, h1, h2⟩ := h
  rw [h1]
  simp only [Option.bind_some]
  split at h2
  case isFalse => cases h2
  rename_i hl
  simp only [hl, if_true]
  exact codeB_call hc c _ h2 fun e T s he => .const he
end

/-- the abstract machine -/
noncomputable def run (P : Program) (lib : Lib) (hints : Hints) : Caller := fun f args s => limO fun j => fnB P lib hints j f args s

theorem run_ev {P : Program} {lib : Lib} {hints : Hints} (f : FuncId) (args : List Value) (s : St) (r : Value × St) (h : run P lib hints f args s = some r) : Ev (fun j => fnB P lib hints j f args s) r := limO_some.1 h

/-- a function's body gives its value -/
theorem run_of {P : Program} {lib : Lib} {hints : Hints} {f : FuncId} {fn : Func} {args : List Value} {s : St} {r : Value × St} (hl : lib f = none) (hf : P.funcs[f]? = some fn) (h : bodyB P (run P lib hints) (hints f) loopL fn args s = some r) : run P lib hints f args s = some r := by
  refine limO_some.2 (Ev.shift ((bodyB_call run_ev h).congr fun j => ?_))
  simp only [fnB, hl, hf, Option.bind_some]

theorem run_lib {P : Program} {lib : Lib} {hints : Hints} {f : FuncId} {g : List Value → St → Option (Value × St)} {args : List Value} {s : St} (hl : lib f = some g) : run P lib hints f args s = g args s := by
  have key : ∀ j, fnB P lib hints (j + 1) f args s = g args s := fun j => by simp only [fnB, hl]
  cases hg : g args s with
  | some r => exact limO_some.2 ⟨1, fun i hi => by obtain ⟨i, rfl⟩ : ∃ q, i = q + 1 := ⟨i - 1, by omega⟩; show fnB P lib hints (i + 1) f args s = _; rw [key, hg]⟩
  | none =>
    cases h : run P lib hints f args s with
    | none => rfl
    | some r =>
      obtain ⟨j, hj⟩ := limO_some.1 h
      have : fnB P lib hints (j + 1) f args s = some r := hj (j + 1) (by omega)
      rw [key, hg] at this
      cases this

theorem run_sound {P : Program} {lib : Lib} {hints : Hints} (hprog : progW P = true) (hlib : LibOk P lib) : CallOk P (run P lib hints) := by
  intro f args s v s' h
  obtain ⟨j, hj⟩ := run_ev f args s _ h
  exact fnB_sound hprog hlib j f args s v s' (hj j (Nat.le_refl _))

end Go.Proofs.Ytccindbiodofmaa.Ab

/- What is known of a function, told of a heap without what it leaves behind. -/
namespace Go.Proofs.Ytccindbiodofmaa.Ab
open Go

section
variable (ρ : Nat → Nat) (D : Nat)
/-- the same value, where blocks have other numbers -/
inductive Vw0 : Value → Value → Prop
  | same (v : Value) (h : leafOk v = true) : Vw0 v v
  | ptr (b off : Nat) (hb : b < D) : Vw0 (.pointer (some ⟨b, off, none⟩)) (.pointer (some ⟨ρ b, off, none⟩))
  | slice (b off len cap cap' : Nat) (hb : b < D) (hl : len ≤ cap) (hc : cap ≤ cap') : Vw0 (.slice (some ⟨b, off, none⟩) len cap) (.slice (some ⟨ρ b, off, none⟩) len cap')
  | map (b : Nat) (hb : b < D) : Vw0 (.map (some b)) (.map (some (ρ b)))
inductive Vw1 : Value → Value → Prop
  | l0 {u v : Value} (h : Vw0 ρ D u v) : Vw1 u v
  | func (fn : Fn) {a a' b b' : Array Value} (ha : All2 (Vw0 ρ D) a.toList a'.toList) (hb : All2 (Vw0 ρ D) b.toList b'.toList) : Vw1 (.func fn a b) (.func fn a' b')
inductive Vw2 : Value → Value → Prop
  | l1 {u v : Value} (h : Vw1 ρ D u v) : Vw2 u v
  | iface (t : TypeId) {u v : Value} (h : Vw1 ρ D u v) : Vw2 (.iface t u) (.iface t v)
  | ifaceAgg (t : TypeId) {a a' : Array Value} (h : All2 (Vw1 ρ D) a.toList a'.toList) : Vw2 (.iface t (.agg a)) (.iface t (.agg a'))
inductive VwA : Value → Value → Prop
  | l2 {u v : Value} (h : Vw2 ρ D u v) : VwA u v
  | agg {a a' : Array Value} (h : All2 (Vw2 ρ D) a.toList a'.toList) : VwA (.agg a) (.agg a')
inductive Vw : Value → Value → Prop
  | va {u v : Value} (h : VwA ρ D u v) : Vw u v
  | tuple {a a' : Array Value} (h : All2 (VwA ρ D) a.toList a'.toList) : Vw (.tuple a) (.tuple a')
end

def Emb.via (κ : Emb) (ρ : Nat → Nat) (D : Nat) : Emb := fun b => if b < D then κ (ρ b) else none

section
variable {κ : Emb} {ρ : Nat → Nat} {D : Nat}
theorem Emb.via_lt {b : Nat} (hb : b < D) : κ.via ρ D b = κ (ρ b) := if_pos hb

theorem All2.comp {α β γ : Type} {R : α → β → Prop} {S : β → γ → Prop} {T : α → γ → Prop} (h : ∀ a b c, R a b → S b c → T a c) : ∀ {l : List α} {m : List β} {n : List γ}, All2 R l m → All2 S m n → All2 T l n
  | [], [], [], _, _ => trivial
  | _ :: _, _ :: _, _ :: _, ⟨h1, h2⟩, ⟨g1, g2⟩ => ⟨h _ _ _ h1 g1, All2.comp h h2 g2⟩

theorem All2.nilL {α β : Type} {R S : α → β → Prop} {l : List α} {m : List β} (h : All2 R l m) (e : l = []) : All2 S l m := by
  subst e
  cases m with
  | nil => trivial
  | cons => exact h.elim
theorem All2.nilR {α β γ : Type} {R : α → β → Prop} {S : α → γ → Prop} {l : List α} {m : List β} {n : List γ} (h : All2 R l m) (e : m = []) (e2 : n = [] := by rfl) : All2 S l n := by
  subst e e2
  cases l with
  | nil => trivial
  | cons => exact h.elim

theorem leaf_via {v x : Value} (h : leafOk v = true) (g : L0 κ v x) : L0 (κ.via ρ D) v x := by
  cases g with
  | bool b => exact .bool b
  | int k n => exact .int k n
  | string s => exact .string s
  | pnil => exact .pnil
  | ptr => simp [leafOk] at h
  | snil => exact .snil
  | slice => simp [leafOk] at h
  | slice0 => simp [leafOk] at h
  | mnil => exact .mnil
  | map => simp [leafOk] at h
  | nilFunc => exact .nilFunc
  | nilIface => exact .nilIface
  | func fn => exact .func fn
theorem Vw0.via {u v x : Value} (h : Vw0 ρ D u v) (g : L0 κ v x) : L0 (κ.via ρ D) u x := by
  cases h with
  | same _ h => exact leaf_via h g
  | ptr b off hb => cases g with
    | ptr _ g => exact .ptr off (by rw [Emb.via_lt hb]; exact g)
  | slice b off len cap cap' hb hl hc => cases g with
    | slice _ g gl gc gz => exact .slice off (by rw [Emb.via_lt hb]; exact g) hl (Nat.le_trans hc gc) gz
    | slice0 =>
      obtain rfl := Nat.le_zero.1 hc
      exact .slice0 _ _
  | map b hb => cases g with
    | map g => exact .map (by rw [Emb.via_lt hb]; exact g)
theorem Vw1.via {u v x : Value} (h : Vw1 ρ D u v) (g : L1 κ v x) : L1 (κ.via ρ D) u x := by
  cases h with
  | l0 h => cases g with
    | l0 g => exact .l0 (h.via g)
    | func fn ga gb => cases h with
      | same _ h =>
        simp [leafOk] at h
        obtain ⟨rfl, rfl⟩ := h
        exact .func fn (ga.nilL rfl) (gb.nilL rfl)
  | func fn ha hb => cases g with
    | func _ ga gb => exact .func fn (ha.comp (R := Vw0 ρ D) (S := L0 κ) (T := L0 (κ.via ρ D)) (fun _ _ _ h g => Vw0.via h g) ga) (hb.comp (R := Vw0 ρ D) (S := L0 κ) (T := L0 (κ.via ρ D)) (fun _ _ _ h g => Vw0.via h g) gb)
    | l0 g => cases g with
      | func =>
        exact .func fn (ha.nilR rfl) (hb.nilR rfl)
theorem Vw2.via {u v x : Value} (h : Vw2 ρ D u v) (g : L2 κ v x) : L2 (κ.via ρ D) u x := by
  cases h with
  | l1 h => cases g with
    | l1 g => exact .l1 (h.via g)
    | iface => cases h with
      | l0 h => cases h with
        | same _ h => simp [leafOk] at h
    | ifaceAgg => cases h with
      | l0 h => cases h with
        | same _ h => simp [leafOk] at h
  | iface t h => cases g with
    | iface _ g => exact .iface t (h.via g)
    | ifaceAgg _ g => cases h with
      | l0 h => cases h with
        | same _ h => simp [leafOk] at h
    | l1 g => cases g with
      | l0 g => cases g
  | ifaceAgg t h => cases g with
    | ifaceAgg _ g => exact .ifaceAgg t (h.comp (R := Vw1 ρ D) (S := L1 κ) (T := L1 (κ.via ρ D)) (fun _ _ _ h g => Vw1.via h g) g)
    | iface _ g => cases g with
      | l0 g => cases g
    | l1 g => cases g with
      | l0 g => cases g
theorem VwA.via {u v x : Value} (h : VwA ρ D u v) (g : VA κ v x) : VA (κ.via ρ D) u x := by
  cases h with
  | l2 h => cases g with
    | l2 g => exact .l2 (h.via g)
    | agg => cases h with
      | l1 h => cases h with
        | l0 h => cases h with
          | same _ h => simp [leafOk] at h
  | agg h => cases g with
    | agg g => exact .agg (h.comp (R := Vw2 ρ D) (S := L2 κ) (T := L2 (κ.via ρ D)) (fun _ _ _ h g => Vw2.via h g) g)
    | l2 g => cases g with
      | l1 g => cases g with
        | l0 g => cases g
theorem Vw.via {u v x : Value} (h : Vw ρ D u v) (g : VRel κ v x) : VRel (κ.via ρ D) u x := by
  cases h with
  | va h => cases g with
    | va g => exact .va (h.via g)
    | tuple => cases h with
      | l2 h => cases h with
        | l1 h => cases h with
          | l0 h => cases h with
            | same _ h => simp [leafOk] at h
    | poison => cases h with
      | l2 h => cases h with
        | l1 h => cases h with
          | l0 h => cases h with
            | same _ h => simp [leafOk] at h
  | tuple h => cases g with
    | tuple g => exact .tuple (h.comp (R := VwA ρ D) (S := VA κ) (T := VA (κ.via ρ D)) (fun _ _ _ h g => VwA.via h g) g)
    | poison =>
      revert h
      generalize (Array.toList _) = l
      intro h
      cases l with
      | nil => exact h.elim
      | cons y l =>
        have := h.1
        cases this with
        | l2 h => cases h with
          | l1 h => cases h with
            | l0 h => cases h with
              | same _ h => simp [leafOk] at h
    | va g => cases g with
      | l2 g => cases g with
        | l1 g => cases g with
          | l0 g => cases g

end

/-! ### A run on a heap that may not be written -/
def frzS (s : St) : St := ⟨frzK [] 0 s.heap⟩
theorem frzS_get (s : St) (b : Nat) : (frzS s).heap[b]? = (s.heap[b]?).map frzB := by
  have := frzK_get (K := []) (l := s.heap) (i := 0) (b := b)
  rw [show frzB = viewB .frz from rfl]
  simpa [frzS] using this
theorem frzS_len (s : St) : (frzS s).heap.length = s.heap.length := frzK_length
theorem frzS_own (s : St) (b : Nat) : ownB (frzS s).heap[b]? = false := by
  rw [frzS_get]
  cases s.heap[b]? with
  | none => rfl
  | some x => cases x with
    | row n c st => cases st <;> rfl
    | map => rfl

theorem Sim.frz {wb : Nat} {ι : Emb} {s : St} {w : World} (h : Sim wb ι s.heap w) : Sim w.heap.size ι (frzS s).heap w where
  dom b x hx := by rw [frzS_len]; exact h.dom b x hx
  row b n cells st hb hst l hl := by
    rw [frzS_get] at hb
    cases hx : s.heap[b]? with
    | none => rw [hx] at hb; cases hb
    | some x =>
      rw [hx] at hb
      have key : ∃ st0, x = .row n cells st0 ∧ st0 ≠ .dead ∧ st = .ro := by
        cases x with
        | map => simp [frzB] at hb; exact absurd hb.2.2.symm hst
        | row n' c' st' =>
          cases st' with
          | act => simp [frzB] at hb; obtain ⟨rfl, rfl, rfl⟩ := hb; exact ⟨.act, rfl, by simp, rfl⟩
          | ro => simp [frzB] at hb; obtain ⟨rfl, rfl, rfl⟩ := hb; exact ⟨.ro, rfl, by simp, rfl⟩
          | dead => simp [frzB] at hb; exact absurd hb.2.2.symm hst
      obtain ⟨st0, rfl, h0, rfl⟩ := key
      obtain ⟨cs, e, fz, q1, _, _, q4⟩ := h.row b n cells st0 hx h0 l hl
      exact ⟨cs, e, fz, q1, fun _ => (Array.getElem?_eq_some_iff.1 q1).1, fun hh => (by cases hh), q4⟩
  map b es clock hb := by
    rw [frzS_get] at hb
    cases hx : s.heap[b]? with
    | none => rw [hx] at hb; cases hb
    | some x =>
      rw [hx] at hb
      cases x with
      | row n c st => cases st <;> simp [frzB] at hb
      | map => simp [frzB] at hb
  excl a b ha := by rw [frzS_own] at ha; cases ha
  size := Nat.le_refl _
  loc b n cells st hb hst l hl := by
    rw [frzS_get] at hb
    cases hx : s.heap[b]? with
    | none => rw [hx] at hb; cases hb
    | some x =>
      rw [hx] at hb
      have key : ∃ st0, x = .row n cells st0 ∧ st0 ≠ .dead := by
        cases x with
        | map => simp [frzB] at hb; exact absurd hb.2.2.symm hst
        | row n' c' st' =>
          cases st' with
          | act => simp [frzB] at hb; obtain ⟨rfl, rfl, rfl⟩ := hb; exact ⟨.act, rfl, by simp⟩
          | ro => simp [frzB] at hb; obtain ⟨rfl, rfl, rfl⟩ := hb; exact ⟨.ro, rfl, by simp⟩
          | dead => simp [frzB] at hb; exact absurd hb.2.2.symm hst
      obtain ⟨st0, rfl, h0⟩ := key
      exact h.loc b n cells st0 hx h0 l hl

theorem callV_eq {P : Program} {R : Caller} {f : FuncId} (h : funcOk P f = true) {xs : List Value} {s : St} : callV P R (.func (.func f) #[] #[]) xs s = R f xs s := by
  simp [callV, h]

def renum (N : Nat) (μ : Nat → Nat) (b : Nat) : Nat := if b < N then b else μ (b - N)

/-- behind N blocks these, of those that a run left -/
structure Views (N : Nat) (K : List Blk) (t0 : St) (μ : Nat → Nat) (v v0 : Value) : Prop where
  ge : ∀ k, k < K.length → N ≤ μ k
  inj : ∀ i j, i < K.length → j < K.length → μ i = μ j → i = j
  blk : ∀ (k : Nat) (B : Blk), K[k]? = some B → ∃ n cells cells0, B = .row n cells .act ∧ t0.heap[μ k]? = some (.row n cells0 .act) ∧ ∀ (i : Nat) (c : Value), cells[i]? = some c → ∃ c0 : Value, cells0[i]? = some c0 ∧ Vw2 (renum N μ) (N + K.length) c c0
  val : Vw (renum N μ) (N + K.length) v v0

theorem Views.after {wb : Nat} {ι : Emb} {s t0 : St} {w w' : World} (hs : Sim wb ι s.heap w) {v v0 v' : Value} (h : After w.heap.size ι (frzS s).heap w t0.heap v0 v' w') {K : List Blk} {μ : Nat → Nat} (hv : Views s.heap.length K t0 μ v v0) : After wb ι s.heap w (s.heap ++ K) v v' w' := by
  obtain ⟨κ0, h1, h2, h3⟩ := h
  have hsame : ∀ c, c < w.heap.size → w'.heap[c]? = w.heap[c]? := fun c hc => h2.keep c hc fun a y ha => by rw [frzS_own] at ha; cases ha
  have hold : ∀ b, b < s.heap.length → κ0.via (renum s.heap.length μ) (s.heap.length + K.length) b = ι b := fun b hb => by
    rw [Emb.via_lt (by omega)]
    unfold renum
    rw [if_pos hb, h2.old b (by rw [frzS_len]; exact hb)]
  have hnew : ∀ b l, ¬ b < s.heap.length → κ0.via (renum s.heap.length μ) (s.heap.length + K.length) b = some l → b < s.heap.length + K.length ∧ κ0 (μ (b - s.heap.length)) = some l ∧ s.heap.length ≤ μ (b - s.heap.length) ∧ w.heap.size ≤ l.blk := fun b l hb hl => by
    have hlt : b < s.heap.length + K.length := by
      rcases Nat.lt_or_ge b (s.heap.length + K.length) with hh | hh
      · exact hh
      · unfold Emb.via at hl; rw [if_neg (by omega)] at hl; cases hl
    rw [Emb.via_lt hlt] at hl
    unfold renum at hl
    rw [if_neg hb] at hl
    have hge := hv.ge (b - s.heap.length) (by omega)
    refine ⟨hlt, hl, hge, ?_⟩
    rcases h2.img _ l hl (by rw [frzS_len]; exact hge) with h4 | ⟨a, y, ha, _⟩
    · exact h4
    · rw [frzS_own] at ha; cases ha
  have hle : ι.le (κ0.via (renum s.heap.length μ) (s.heap.length + K.length)) := fun b x hx => by
    rw [hold b (hs.dom b x hx)]; exact hx
  have hs' := hs.later hsame h2.size
  have hblk : ∀ b B, (s.heap ++ K)[b]? = some B → ¬ b < s.heap.length → K[b - s.heap.length]? = some B := fun b B hb hn => by
    rwa [List.getElem?_append_right (by omega)] at hb
  refine ⟨_, ?_, ?_, hv.val.via h3⟩
  · constructor
    · intro b x hx
      rw [List.length_append]
      by_cases hb : b < s.heap.length
      · omega
      · exact (hnew b x hb hx).1
    · intro b n cells st hb hst l hl
      by_cases hlt : b < s.heap.length
      · rw [List.getElem?_append_left hlt] at hb
        rw [hold b hlt] at hl
        obtain ⟨cs, e, fz, q1, q2, q3, q4⟩ := hs'.row b n cells st hb hst l hl
        exact ⟨cs, e, fz, q1, q2, q3, fun i v hi => by
          obtain ⟨v', p1, p2⟩ := q4 i v hi
          exact ⟨v', p1, p2.mono hle⟩⟩
      · obtain ⟨g1, g2, g3, g4⟩ := hnew b l hlt hl
        obtain ⟨n', c', c0, e1, e2, e3⟩ := hv.blk _ _ (hblk b _ hb hlt)
        cases e1
        obtain ⟨cs, e, fz, q1, q2, q3, q4⟩ := h1.row _ _ _ _ e2 (by simp) l g2
        refine ⟨cs, e, fz, q1, fun hh => (by cases hh), fun _ => ⟨Nat.le_trans hs.size g4, (q3 rfl).2⟩, fun i v hi => ?_⟩
        obtain ⟨c1, p1, p2⟩ := e3 i v hi
        obtain ⟨v', p3, p4⟩ := q4 i c1 p1
        exact ⟨v', p3, p2.via p4⟩
    · intro b es clock hb l hl
      by_cases hlt : b < s.heap.length
      · rw [List.getElem?_append_left hlt] at hb
        rw [hold b hlt] at hl
        obtain ⟨q1, q2, es', q3, q4⟩ := hs'.map b es clock hb l hl
        exact ⟨q1, q2, es', q3, q4.mono fun x e he => entRel_mono hle he⟩
      · obtain ⟨n', c', c0, e1, _⟩ := hv.blk _ _ (hblk b _ hb hlt)
        cases e1
    · intro a b ha hb hne x y hx hy
      have own_old : ∀ a, a < s.heap.length → ownB (s.heap ++ K)[a]? = true → ownB s.heap[a]? = true := fun a hlt h => by
        rwa [List.getElem?_append_left hlt] at h
      have own_row : ∀ a, a < s.heap.length + K.length → ¬ a < s.heap.length → ownB t0.heap[μ (a - s.heap.length)]? = true := fun a hlt hn => by
        obtain ⟨n', c', c0, _, e2, _⟩ := hv.blk (a - s.heap.length) K[a - s.heap.length] (List.getElem?_eq_getElem (by omega))
        rw [e2]; rfl
      by_cases hal : a < s.heap.length
      · rw [hold a hal] at hx
        by_cases hbl : b < s.heap.length
        · rw [hold b hbl] at hy
          exact hs.excl a b (own_old a hal ha) (own_old b hbl hb) hne x y hx hy
        · have := (hnew b y hbl hy).2.2.2
          have := hs.own_lt (own_old a hal ha) hx
          omega
      · obtain ⟨g1, g2, g3, g4⟩ := hnew a x hal hx
        by_cases hbl : b < s.heap.length
        · rw [hold b hbl] at hy
          have := hs.own_lt (own_old b hbl hb) hy
          omega
        · obtain ⟨f1, f2, f3, f4⟩ := hnew b y hbl hy
          exact h1.excl _ _ (own_row a g1 hal) (own_row b f1 hbl) (fun e => hne (by have := hv.inj _ _ (by omega) (by omega) e; omega)) x y g2 f2
    · exact Nat.le_trans hs.size h2.size
    · intro b n cells st hb hst l hl
      by_cases hlt : b < s.heap.length
      · rw [List.getElem?_append_left hlt] at hb
        rw [hold b hlt] at hl
        exact hs.loc b n cells st hb hst l hl
      · obtain ⟨g1, g2, g3, g4⟩ := hnew b l hlt hl
        obtain ⟨n', c', c0, e1, e2, e3⟩ := hv.blk _ _ (hblk b _ hb hlt)
        cases e1
        exact h1.loc _ _ _ _ e2 (by simp) l g2
  · constructor
    · exact hle
    · exact hold
    · intro b x hx hb; exact .inl (hnew b x (by omega) hx).2.2.2
    · intro c hc _; exact hsame c hc
    · exact h2.size
    · exact h2.os
    · exact h2.tape
    · exact h2.output
    · simp
    · intro a ha h; rwa [List.getElem?_append_left ha] at h

/-! ### What is known of functions -/
/-- what a run on a heap that may not be written gives, seen so -/
def SumOk (P : Program) (lib : Lib) (hints : Hints) (f : FuncId) (g : List Value → St → Option (Value × St)) : Prop :=
  ∀ args s v t, g args s = some (v, t) → ∃ K v0 t0 μ, t.heap = s.heap ++ K ∧ run P lib hints f args (frzS s) = some (v0, t0) ∧ Views s.heap.length K t0 μ v v0

theorem sum_calls {P : Program} {lib : Lib} {hints : Hints} (hprog : progW P = true) (hlib : LibOk P lib) {f : FuncId} (hok : funcOk P f = true) {g : List Value → St → Option (Value × St)} (hg : SumOk P lib hints f g) {args : List Value} {s t : St} {v : Value} (h : g args s = some (v, t))
    {wb : Nat} {ι : Emb} {w : World} {args' : Array Value} (hs : Sim wb ι s.heap w) (ha : All2 (VRel ι) args args'.toList) : Calls P f args' w fun e w' => ∃ v', e = .returned v' ∧ After wb ι s.heap w t.heap v v' w' := by
  obtain ⟨K, v0, t0, μ, hK, hrun, hv⟩ := hg args s v t h
  refine (run_sound hprog hlib f args (frzS s) v0 t0 hrun hok w.heap.size ι w args' hs.frz ha).mono fun e w' ⟨v', he, hA⟩ => ⟨v', he, ?_⟩
  rw [hK]
  exact hv.after hs hA

theorem lib_add {P : Program} {lib lib' : Lib} {hints : Hints} (hprog : progW P = true) (hlib : LibOk P lib) {f : FuncId} {g : List Value → St → Option (Value × St)} (hok : funcOk P f = true) (hg : SumOk P lib hints f g) (he : ∀ f', lib' f' = if f' = f then some g else lib f') : LibOk P lib' := by
  intro f' g' hf' args s v s' h wb ι w args' hs ha
  rw [he] at hf'
  split at hf'
  · rename_i hff
    cases hf'
    subst hff
    exact sum_calls hprog hlib hok hg h hs ha
  · exact hlib f' g' hf' args s v s' h wb ι w args' hs ha

/-- a value without memory -/
theorem Views.pure {N : Nat} {t0 : St} {v : Value} (h : Vw (renum N fun _ => 0) N v v) : Views N [] t0 (fun _ => 0) v v :=
  ⟨fun k hk => absurd hk (by simp), fun i j hi => absurd hi (by simp), fun k B hk => by simp at hk, h⟩
theorem Vw0.leafs {ρ : Nat → Nat} {D : Nat} : ∀ {l : List Value}, l.all leafOk = true → All2 (Vw2 ρ D) l l
  | [], _ => trivial
  | v :: l, h => by
    simp at h
    exact ⟨.l1 (.l0 (.same v h.1)), Vw0.leafs (by simpa using h.2)⟩
theorem VwA.const {ρ : Nat → Nat} {D : Nat} {v : Value} (h : constOk v = true) : VwA ρ D v v := by
  cases v with
  | agg cs => exact .agg (Vw0.leafs h)
  | _ => exact .l2 (.l1 (.l0 (.same _ h)))
theorem Vw.const {ρ : Nat → Nat} {D : Nat} {v : Value} (h : constOk v = true) : Vw ρ D v v := .va (VwA.const h)
theorem VwA.consts {ρ : Nat → Nat} {D : Nat} : ∀ {l : List Value}, l.all constOk = true → All2 (VwA ρ D) l l
  | [], _ => trivial
  | v :: l, h => by
    simp at h
    exact ⟨VwA.const h.1, VwA.consts (by simpa using h.2)⟩
theorem Vw.tup {ρ : Nat → Nat} {D : Nat} {l : List Value} (h : l.all constOk = true) : Vw ρ D (.tuple l.toArray) (.tuple l.toArray) := .tuple (by simpa using VwA.consts h)

/-- one new row, and a slice of it -/
theorem Views.row {N n i : Nat} {cells cells0 : List Value} {t0 : St} (hi : N ≤ i) (h : t0.heap[i]? = some (.row n cells0 .act)) (hc : ∀ (k : Nat) (c : Value), cells[k]? = some c → cells0[k]? = some c) (hl : cells.all leafOk = true) {v v0 : Value} (hv : Vw (renum N fun _ => i) (N + 1) v v0) :
    Views N [.row n cells .act] t0 (fun _ => i) v v0 := by
  refine ⟨fun k hk => hi, fun a b ha hb _ => by simp at ha hb; omega, fun k B hk => ?_, hv⟩
  cases k with
  | zero =>
    simp at hk
    subst hk
    refine ⟨n, cells, cells0, rfl, h, fun k c hk => ⟨c, hc k c hk, .l1 (.l0 (.same c ?_))⟩⟩
    exact List.all_eq_true.1 hl c (List.mem_of_getElem? hk)
  | succ k => simp at hk
theorem Vw0.row {N i off len cap cap' : Nat} (hl : len ≤ cap) (hc : cap ≤ cap') : Vw0 (renum N fun _ => i) (N + 1) (.slice (some ⟨N, off, none⟩) len cap) (.slice (some ⟨i, off, none⟩) len cap') := by
  have := Vw0.slice (ρ := renum N fun _ => i) (D := N + 1) N off len cap cap' (by omega) hl hc
  unfold renum at this ⊢
  rwa [if_neg (by omega)] at this
theorem Vw.slice {N i off len cap cap' : Nat} (hl : len ≤ cap) (hc : cap ≤ cap') : Vw (renum N fun _ => i) (N + 1) (.slice (some ⟨N, off, none⟩) len cap) (.slice (some ⟨i, off, none⟩) len cap') := .va (.l2 (.l1 (.l0 (Vw0.row hl hc))))

end Go.Proofs.Ytccindbiodofmaa.Ab

/- From the abstract machine's word on a law to the law's call. -/
namespace Go.Proofs.Ytccindbiodofmaa.Ab
open Go Go.RowKit

/-- a law's call: its word is true, and what was there stays as it was -/
theorem law_calls {P : Program} {lib : Lib} {hints : Hints} (hprog : progW P = true) (hlib : LibOk P lib) {n : FuncId} {args : List Value} {H : List Blk} {s1 : St} (hrun : run P lib hints n args ⟨H⟩ = some (.bool true, s1)) (hok : funcOk P n = true)
    {ι : Emb} {W : World} (hs : Sim W.heap.size ι H W) (hro : ∀ b : Nat, ownB H[b]? = false) {args' : Array Value} (ha : All2 (VRel ι) args args'.toList) :
    Calls P n args' W fun e W' => e = .returned (.bool true) ∧ Below W.heap.size W W' := by
  refine (run_sound hprog hlib n args ⟨H⟩ _ _ hrun hok _ ι W args' hs ha).mono fun e W' ⟨v', he, κ, h1, h2, h3⟩ => ?_
  refine ⟨by rw [he, h3.inv_bool], ⟨h2.os, h2.tape, h2.output, h2.size, fun k hk => h2.keep k hk fun a y hoa => ?_⟩⟩
  rw [hro a] at hoa
  cases hoa

/-- no arguments in memory -/
theorem sim_nil (W : World) : Sim W.heap.size (fun _ => none) [] W where
  dom _ _ h := by cases h
  row _ _ _ _ h := by simp at h
  map _ _ _ h := by simp at h
  excl _ _ h := by simp [ownB] at h
  size := Nat.le_refl _
  loc _ _ _ _ h := by simp at h

/-- rows that may be read alone -/
def roB : Blk → Bool
  | .row _ _ .ro => true
  | _ => false
theorem roB_own {H : List Blk} (h : H.all roB = true) (b : Nat) : ownB H[b]? = false := by
  cases hb : H[b]? with
  | none => rfl
  | some x =>
    have := List.all_eq_true.1 h x (List.mem_of_getElem? hb)
    cases x with
    | row n c st => cases st <;> first | rfl | cases this
    | map => cases this

/-- a slice argument, as the abstract machine has it -/
def sliceArg (b : Nat) (a : Option Addr) (len : Nat) : Value :=
  match a with
  | none => .slice none 0 0
  | some _ => .slice (some ⟨b, 0, none⟩) len len

/-- a row of an argument's -/
theorem sim_row {W : World} {ι : Emb} {H : List Blk} (h : Sim W.heap.size ι H W) (hro : H.all roB = true) {a : Option Addr} {len cap : Nat} {cells : List Value}
    (hr : (a = none ∧ len = 0 ∧ cap = 0) ∨ ∃ x, a = some x ∧ len ≤ cap ∧ (∀ i, i < cap → ∃ v, W.cell? (x.add i) = some v) ∧ ∀ i v, cells[i]? = some v → ∃ v', W.cell? (x.add i) = some v' ∧ L2 ι v v') :
    ∃ κ, ι.le κ ∧ Sim W.heap.size κ (H ++ [Blk.row 0 cells .ro]) W ∧ (H ++ [Blk.row 0 cells .ro]).all roB = true ∧ VRel κ (sliceArg H.length a len) (.slice a len cap) := by
  have hall : (H ++ [Blk.row 0 cells .ro]).all roB = true := by simp [hro, roB]
  have hnone : ι H.length = none := by
    cases e : ι H.length with
    | none => rfl
    | some x => exact absurd (h.dom _ _ e) (Nat.lt_irrefl _)
  have same : ∀ (κ : Emb), κ = ι → Sim W.heap.size κ (H ++ [Blk.row 0 cells .ro]) W := by
    intro κ e
    subst e
    have hget : ∀ b x l, (H ++ [Blk.row 0 cells .ro])[b]? = some x → κ b = some l → H[b]? = some x := by
      intro b x l hb hl
      rwa [List.getElem?_append_left (h.dom b l hl)] at hb
    exact { dom := fun b x hx => by simp; exact Nat.lt_succ_of_lt (h.dom b x hx)
            row := fun b n c st hb hst l hl => h.row b n c st (hget b _ l hb hl) hst l hl
            map := fun b es clock hb l hl => h.map b es clock (hget b _ l hb hl) l hl
            excl := fun a b ha _ _ => by rw [roB_own hall a] at ha; cases ha
            size := h.size
            loc := fun b n c st hb hst l hl => h.loc b n c st (hget b _ l hb hl) hst l hl }
  rcases hr with ⟨rfl, rfl, rfl⟩ | ⟨x, rfl, hle, hcell, hc⟩
  · exact ⟨ι, .refl _, same ι rfl, hall, .va (.l2 (.l1 (.l0 .snil)))⟩
  · by_cases hcap : cap = 0
    · subst hcap
      obtain rfl : len = 0 := by omega
      exact ⟨ι, .refl _, same ι rfl, hall, .va (.l2 (.l1 (.l0 (.slice0 _ _))))⟩
    · obtain ⟨v0, hv0⟩ := hcell 0 (by omega)
      have hx0 : x.add 0 = x := rfl
      rw [hx0] at hv0
      have hblk : ∃ cs e fz, W.heap[x.block]? = some (.cells cs e fz) ∧ x.spot = none := by
        unfold World.cell? at hv0
        split at hv0
        · rename_i c e fz heq
          split at hv0
          · cases hv0
          · rename_i hsp; exact ⟨c, e, fz, heq, by simpa using hsp⟩
        · cases hv0
      obtain ⟨cs, e, fz, hw, hsp⟩ := hblk
      obtain ⟨xb, xo, xs⟩ := x
      simp only at hsp hw
      subst hsp
      let l0 : Loc := ⟨xb, xo, 0, xo⟩
      let κ : Emb := fun b => if b = H.length then some l0 else ι b
      have hle' : ι.le κ := by
        intro b y hy
        show (if b = H.length then _ else _) = _
        rw [if_neg]
        · exact hy
        · intro e; rw [e, hnone] at hy; cases hy
      have hself : κ H.length = some l0 := if_pos rfl
      have hcs : ∀ i v, W.cell? (Addr.add ⟨xb, xo, none⟩ i) = some v → cs[xo + i]? = some v := by
        intro i v hv
        unfold World.cell? at hv
        have hb : (Addr.add ⟨xb, xo, none⟩ i).block = xb := by unfold Addr.add; split <;> rfl
        have ho : (Addr.add ⟨xb, xo, none⟩ i).off = xo + i := by unfold Addr.add; split <;> simp_all
        have hs2 : (Addr.add ⟨xb, xo, none⟩ i).spot = none := by unfold Addr.add; split <;> rfl
        rw [hb, hw] at hv
        simp only [hs2, ho] at hv
        simpa using hv
      refine ⟨κ, hle', ?_, hall, .va (.l2 (.l1 (.l0 ?_)))⟩
      · have hget : ∀ b y l, (H ++ [Blk.row 0 cells .ro])[b]? = some y → κ b = some l → (b = H.length ∧ y = .row 0 cells .ro ∧ l = l0) ∨ (H[b]? = some y ∧ ι b = some l) := by
          intro b y l hb hl
          by_cases e : b = H.length
          · subst e
            rw [hself] at hl
            cases hl
            rw [List.getElem?_append_right (Nat.le_refl _)] at hb
            simp at hb
            exact .inl ⟨rfl, hb.symm, rfl⟩
          · have hl2 : ι b = some l := by
              have : κ b = ι b := if_neg e
              rw [← this]; exact hl
            rw [List.getElem?_append_left (h.dom b l hl2)] at hb
            exact .inr ⟨hb, hl2⟩
        constructor
        · intro b y hy
          simp
          by_cases e : b = H.length
          · omega
          · have : κ b = ι b := if_neg e
            rw [this] at hy
            exact Nat.lt_succ_of_lt (h.dom b y hy)
        · intro b n c st hb hst l hl
          rcases hget b _ l hb hl with ⟨rfl, he, rfl⟩ | ⟨h1, h2⟩
          · cases he
            refine ⟨cs, e, fz, hw, fun _ => (Array.getElem?_eq_some_iff.1 hw).1, fun hh => (by cases hh), fun i v hv => ?_⟩
            obtain ⟨v', h3, h4⟩ := hc i v hv
            exact ⟨v', hcs i v' h3, h4.mono hle'⟩
          · obtain ⟨cs', e', fz', q1, q2, q3, q4⟩ := h.row b n c st h1 hst l h2
            refine ⟨cs', e', fz', q1, q2, q3, fun i v hv => ?_⟩
            obtain ⟨v', h3, h4⟩ := q4 i v hv
            exact ⟨v', h3, h4.mono hle'⟩
        · intro b es clock hb l hl
          have := List.all_eq_true.1 hall _ (List.mem_of_getElem? hb)
          cases this
        · intro a b ha
          rw [roB_own hall a] at ha
          cases ha
        · exact h.size
        · intro b n c st hb hst l hl
          rcases hget b _ l hb hl with ⟨rfl, he, rfl⟩ | ⟨h1, h2⟩
          · cases he
            exact ⟨rfl, Nat.le_refl _⟩
          · exact h.loc b n c st h1 hst l h2
      · exact .slice 0 hself (Nat.le_refl _) hle (fun _ => by show xo + cap * 0 ≤ xo; simp)

def IsRow (k : IntKind) (w : World) (a : Option Addr) (len cap : Nat) (zs : List Int) : Prop :=
  (a = none ∧ len = 0 ∧ cap = 0 ∧ zs = []) ∨
  ∃ x, a = some x ∧ len ≤ cap ∧ cap ≤ maxLen ∧ zs.length = cap ∧ (∀ i, i < zs.length → w.cell? (x.add i) = some (.int k (zs.getD i 0))) ∧ ∀ n ∈ zs, (Lit.int k n).wf = true

end Go.Proofs.Ytccindbiodofmaa.Ab

/- The seat's own program: its functions by the abstract machine. -/
namespace Go.Proofs.Ytccindbiodofmaa.Ab
open Go

def hintL (f : Nat) : List (Nat × Tn) → Tn
  | [] => []
  | (g, t) :: l => cond (Nat.beq f g) t (hintL f l)

end Go.Proofs.Ytccindbiodofmaa.Ab

/- What the abstract machine's operations come to, at values of a known shape. -/
namespace Go.Proofs.Ytccindbiodofmaa.Ab
open Go

/-! ### Lists of values -/
theorem getL_0 {a : Value} {l : List Value} : getL (a :: l) 0 = a := Eq.trans rfl (Eq.refl _)
theorem getL_1 {a b : Value} {l : List Value} : getL (a :: b :: l) 1 = b := Eq.trans rfl (Eq.refl _)
theorem getL_2 {a b c : Value} {l : List Value} : getL (a :: b :: c :: l) 2 = c := Eq.trans rfl (Eq.refl _)
theorem getL_3 {a b c d : Value} {l : List Value} : getL (a :: b :: c :: d :: l) 3 = d := Eq.trans rfl (Eq.refl _)
theorem getL_4 {a b c d e : Value} {l : List Value} : getL (a :: b :: c :: d :: e :: l) 4 = e := Eq.trans rfl (Eq.refl _)
theorem getL_5 {a b c d e f : Value} {l : List Value} : getL (a :: b :: c :: d :: e :: f :: l) 5 = f := Eq.trans rfl (Eq.refl _)
theorem getL_6 {a b c d e f g : Value} {l : List Value} : getL (a :: b :: c :: d :: e :: f :: g :: l) 6 = g := Eq.trans rfl (Eq.refl _)
theorem getL_7 {a b c d e f g h : Value} {l : List Value} : getL (a :: b :: c :: d :: e :: f :: g :: h :: l) 7 = h := Eq.trans rfl (Eq.refl _)
theorem getL_8 {a b c d e f g h i : Value} {l : List Value} : getL (a :: b :: c :: d :: e :: f :: g :: h :: i :: l) 8 = i := Eq.trans rfl (Eq.refl _)
theorem getL_9 {a b c d e f g h i j : Value} {l : List Value} : getL (a :: b :: c :: d :: e :: f :: g :: h :: i :: j :: l) 9 = j := Eq.trans rfl (Eq.refl _)
theorem getL_10 {a b c d e f g h i j k : Value} {l : List Value} : getL (a :: b :: c :: d :: e :: f :: g :: h :: i :: j :: k :: l) 10 = k := Eq.trans rfl (Eq.refl _)
theorem getL_11 {a b c d e f g h i j k m : Value} {l : List Value} : getL (a :: b :: c :: d :: e :: f :: g :: h :: i :: j :: k :: m :: l) 11 = m := Eq.trans rfl (Eq.refl _)
theorem getL_12 {a b c d e f g h i j k m n : Value} {l : List Value} : getL (a :: b :: c :: d :: e :: f :: g :: h :: i :: j :: k :: m :: n :: l) 12 = n := Eq.trans rfl (Eq.refl _)

/-- (told by no bare rfl: so the kernel goes step by step) -/
theorem n_bind {α β : Type} {a : α} {f : α → Option β} : (some a).bind f = f a := Eq.trans (Option.bind_some a f) (Eq.refl _)
theorem n_map {α β : Type} {a : α} {f : α → β} : (some a).map f = some (f a) := Eq.trans rfl (Eq.refl _)

/-! ### Control -/
section
variable {β : Type}
theorem condV_t {x y : Option β} : condV (.bool true) x y = x := Eq.trans rfl (Eq.refl _)
theorem condV_f {x y : Option β} : condV (.bool false) x y = y := Eq.trans rfl (Eq.refl _)
theorem guardV_tt {x y : Option β} : guardV (.bool true) true x y = x := Eq.trans rfl (Eq.refl _)
theorem guardV_ff {x y : Option β} : guardV (.bool false) false x y = x := Eq.trans rfl (Eq.refl _)
theorem guardV_tf {x y : Option β} : guardV (.bool true) false x y = y := Eq.trans rfl (Eq.refl _)
theorem guardV_ft {x y : Option β} : guardV (.bool false) true x y = y := Eq.trans rfl (Eq.refl _)
theorem guardV_u {w : Bool} {x y : Option β} : guardV undef w x y = y := Eq.trans rfl (Eq.refl _)
theorem apick_t {a b : Value} : apick (.bool true) a b = some a := Eq.trans rfl (Eq.refl _)
theorem apick_f {a b : Value} : apick (.bool false) a b = some b := Eq.trans rfl (Eq.refl _)
theorem exV_exit {j : Nat} {l : List (Nat × Option β)} {r : Option β} : exV (.exit j) l r = lookE j l := Eq.trans rfl (Eq.refl _)
theorem exV_ret {l : List (Nat × Option β)} {r : Option β} : exV .ret l r = r := Eq.trans rfl (Eq.refl _)
theorem lookE_same {j : Nat} {x : Option β} {l : List (Nat × Option β)} : lookE j ((j, x) :: l) = x := if_pos rfl
theorem joinK_eq {F : List Value → St → Option β} {X : List Value} {s : St} : joinK F X s = F X s := Eq.trans rfl (Eq.refl _)
theorem seqA_n {X : List Value} {s : St} {k : List Value → St → Res} : seqA (some (.normal, X, s)) k = k X s := Eq.trans rfl (Eq.refl _)
theorem seqA_e {j : Nat} {X : List Value} {s : St} {k : List Value → St → Res} : seqA (some (.exit j, X, s)) k = some (.exit j, X, s) := Eq.trans rfl (Eq.refl _)
theorem seqA_r {X : List Value} {s : St} {k : List Value → St → Res} : seqA (some (.ret, X, s)) k = some (.ret, X, s) := Eq.trans rfl (Eq.refl _)
end

/-- '&&' and '||' -/
theorem and_guard {β : Type} {a b : Bool} {s : St} {K : List Value × St → Value → Option β} : ((guardV (.bool a) true (some ([.bool b], s)) (some ([undef], s))).bind fun q => (apick (.bool a) (getL q.1 0) (.bool false)).bind (K q)) = K ([if a = true then .bool b else undef], s) (.bool (a && b)) := by
  cases a <;> rfl
theorem or_guard {β : Type} {a b : Bool} {s : St} {K : List Value × St → Value → Option β} : ((guardV (.bool a) false (some ([.bool b], s)) (some ([undef], s))).bind fun q => (apick (.bool a) (.bool true) (getL q.1 0)).bind (K q)) = K ([if a = true then undef else .bool b], s) (.bool (a || b)) := by
  cases a <;> rfl

/-! ### Numbers -/
section
variable {P : Program} {t : TypeId} {ox oy : Operand} {k : IntKind} {a b : Int}
theorem e_add : abin P .add t ox oy (.int k a) (.int k b) = some (.int k (k.wrap (a + b))) := by simp [abin, intBin]
theorem e_sub : abin P .sub t ox oy (.int k a) (.int k b) = some (.int k (k.wrap (a - b))) := by simp [abin, intBin]
theorem e_mul : abin P .mul t ox oy (.int k a) (.int k b) = some (.int k (k.wrap (a * b))) := by simp [abin, intBin]
theorem e_eql : abin P .eql t ox oy (.int k a) (.int k b) = some (.bool (a == b)) := by simp [abin, intBin]
theorem e_neq : abin P .neq t ox oy (.int k a) (.int k b) = some (.bool (a != b)) := by simp [abin, intBin]
theorem e_lss : abin P .lss t ox oy (.int k a) (.int k b) = some (.bool (decide (a < b))) := by simp [abin, intBin]
theorem e_leq : abin P .leq t ox oy (.int k a) (.int k b) = some (.bool (decide (a ≤ b))) := by simp [abin, intBin]
theorem e_gtr : abin P .gtr t ox oy (.int k a) (.int k b) = some (.bool (decide (a > b))) := by simp [abin, intBin]
theorem e_geq : abin P .geq t ox oy (.int k a) (.int k b) = some (.bool (decide (a ≥ b))) := by simp [abin, intBin]
theorem e_conv {k2 : IntKind} : convInt k2 (.int k a) = some (.int k2 (k2.wrap a)) := Eq.trans rfl (Eq.refl _)
theorem e_not {c : Bool} : aun .not (.bool c) = some (.bool !c) := Eq.trans rfl (Eq.refl _)
theorem e_neg : aun .neg (.int k a) = some (.int k (k.wrap (0 - a))) := Eq.trans rfl (Eq.refl _)
end

/-! ### Unsigned numbers -/
theorem wrap_u8 {n : Int} (h0 : 0 ≤ n) (h : n < 256) : IntKind.wrap .u8 n = n := by simp [IntKind.wrap, IntKind.signed, IntKind.bits]; omega
theorem wrap_u64 {n : Int} (h0 : 0 ≤ n) (h : n < 18446744073709551616) : IntKind.wrap .u64 n = n := by simp [IntKind.wrap, IntKind.signed, IntKind.bits]; omega
theorem wrap_i64 {n : Int} (h0 : -9223372036854775808 ≤ n) (h : n < 9223372036854775808) : IntKind.wrap .i64 n = n := by simp [IntKind.wrap, IntKind.signed, IntKind.bits]; omega
section
variable {P : Program} {t : TypeId} {ox oy : Operand} {k : IntKind} {a b : Nat}
theorem u_shr (ha : a < 2 ^ k.bits) {k2 : IntKind} : abin P .shr t ox oy (.int k a) (.int k2 b) = some (.int k ((a / 2 ^ b : Nat) : Int)) := by
  have hb : ¬ ((b : Int) < 0) := by omega
  simp only [abin, intBin, if_neg hb]
  congr 2
  rw [Int.toNat_natCast, Int.fdiv_eq_ediv_of_nonneg _ (by exact_mod_cast Nat.zero_le _)]
  have : (2 : Int) ^ (min b k.bits) = ((2 ^ (min b k.bits) : Nat) : Int) := by push_cast; rfl
  rw [this]
  rw [← Int.natCast_ediv]
  congr 1
  by_cases h : b ≤ k.bits
  · rw [Nat.min_eq_left h]
  · rw [Nat.min_eq_right (by omega), Nat.div_eq_of_lt ha, Nat.div_eq_of_lt]
    exact Nat.lt_of_lt_of_le ha (Nat.pow_le_pow_right (by omega) (by omega))
end

/-! ### Bytes -/
def bv (l : List UInt8) : List Value := l.map fun b => .int .u8 ((b.toNat : Nat) : Int)
theorem bv_length {l : List UInt8} : (bv l).length = l.length := by simp [bv]
theorem bv_take {l : List UInt8} {n : Nat} : bv (l.take n) = (bv l).take n := by simp [bv]
theorem bv_drop {l : List UInt8} {n : Nat} : bv (l.drop n) = (bv l).drop n := by simp [bv]
theorem bv_leaf {l : List UInt8} : (bv l).all leafOk = true := by simp [bv, leafOk]
theorem bv_inj {l m : List UInt8} (h : bv l = bv m) : l = m := by
  induction l generalizing m with
  | nil => cases m with
    | nil => rfl
    | cons => simp [bv] at h
  | cons x l ih => cases m with
    | nil => simp [bv] at h
    | cons y m =>
      simp only [bv, List.map_cons, List.cons.injEq, Value.int.injEq, true_and] at h
      have h1 : x.toNat = y.toNat := by exact_mod_cast h.1
      rw [UInt8.toNat_inj.1 h1, ih (m := m) h.2]

/-- bytes, strictly -/
def ubs : List Value → Option (List UInt8)
  | [] => some []
  | .int .u8 n :: l => if 0 ≤ n ∧ n < 256 then (ubs l).map fun r => UInt8.ofNat n.toNat :: r else none
  | _ => none
theorem ubs_bv : ∀ (l : List UInt8), ubs (bv l) = some l
  | [] => rfl
  | x :: l => by
    have h := x.toNat_lt
    simp only [bv, List.map_cons, ubs]
    rw [if_pos (by omega)]
    have := ubs_bv l
    unfold bv at this
    rw [this]
    simp
theorem ubs_some : ∀ {cs : List Value} {l : List UInt8}, ubs cs = some l → cs = bv l
  | [], l, h => by simp [ubs] at h; subst h; rfl
  | v :: cs, l, h => by
    unfold ubs at h
    split at h
    · rename_i heq; cases heq
    · rename_i n l' heq
      cases heq
      split at h
      · rename_i hn
        simp only [Option.map_eq_some_iff] at h
        obtain ⟨r, hr, rfl⟩ := h
        rw [ubs_some hr]
        simp only [bv, List.map_cons, List.cons.injEq, Value.int.injEq, true_and, and_true]
        have : (UInt8.ofNat n.toNat).toNat = n.toNat := by simp; omega
        rw [this]; omega
      · cases h
    · cases h
theorem unbytes_bv : ∀ (l : List UInt8), unbytes (bv l) = some l
  | [] => rfl
  | x :: l => by
    have h := x.toNat_lt
    simp only [bv, List.map_cons, unbytes]
    have := unbytes_bv l
    unfold bv at this
    rw [this]
    simp

/-! ### Strings -/
def sv (l : List UInt8) : Value := .string ⟨l.toArray⟩
theorem sv_of (t : ByteArray) : Value.string t = sv t.data.toList := by simp [sv]
section
variable {P : Program} {t : TypeId} {ox oy : Operand} {a b : List UInt8}
theorem e_seql : abin P .eql t ox oy (sv a) (sv b) = some (.bool (a == b)) := by simp [abin, strBin, sv]
theorem e_sneq : abin P .neq t ox oy (sv a) (sv b) = some (.bool (!(a == b))) := by simp [abin, strBin, sv]
theorem e_slss : abin P .lss t ox oy (sv a) (sv b) = some (.bool (Op.bytesLess a b)) := by simp [abin, strBin, sv]
theorem e_sleq : abin P .leq t ox oy (sv a) (sv b) = some (.bool (Op.bytesLess a b || a == b)) := by simp [abin, strBin, sv]
theorem e_sgeq : abin P .geq t ox oy (sv a) (sv b) = some (.bool (!(Op.bytesLess a b))) := by simp [abin, strBin, sv]
end
theorem e_lenV {s : St} {a : List UInt8} : alenV .string (sv a) s = some (.int .i64 ((a.length : Nat) : Int)) := by simp [alenV, lenFits, alen, sv, ByteArray.size]

/-! ### Slices that are read -/
/-- a slice's cells; n: an element's -/
def cellsOf (n : Nat) (v : Value) (s : St) : Option (List Value) :=
  match v with
  | .slice none 0 0 => some []
  | .slice (some ⟨b, o, none⟩) len cap => if len ≤ cap then readN s b o (len * n) else none
  | _ => none
def bytesOf (v : Value) (s : St) : Option (List UInt8) := (cellsOf 1 v s).bind ubs

theorem readRow_frz {s : St} {b : Nat} : readRow (frzS s) b = readRow s b := by
  unfold readRow
  rw [frzS_get]
  cases s.heap[b]? with
  | none => rfl
  | some x => cases x with
    | row n c st => cases st <;> rfl
    | map => rfl
theorem readN_frz {s : St} {b o n : Nat} : readN (frzS s) b o n = readN s b o n := by unfold readN; rw [readRow_frz]
theorem cellsOf_frz {s : St} {n : Nat} {v : Value} : cellsOf n v (frzS s) = cellsOf n v s := by
  unfold cellsOf
  split
  · rfl
  · rw [readN_frz]
  · rfl
theorem readN_some {s : St} {b o n : Nat} {cs : List Value} (h : readN s b o n = some cs) : ∃ row, readRow s b = some row ∧ o + n ≤ row.length ∧ cs = (row.drop o).take n := by
  unfold readN at h
  simp only [Option.bind_eq_some_iff] at h
  obtain ⟨row, h1, h2⟩ := h
  split at h2
  · rename_i hle; cases h2; exact ⟨row, h1, hle, rfl⟩
  · cases h2
theorem cellsOf_len {s : St} {n : Nat} {v : Value} {cs : List Value} (h : cellsOf n v s = some cs) : ∃ a len cap, v = .slice a len cap ∧ cs.length = len * n := by
  unfold cellsOf at h
  split at h
  · cases h; exact ⟨_, _, _, rfl, by simp⟩
  · split at h
    case isFalse => cases h
    obtain ⟨row, _, h2, rfl⟩ := readN_some h
    exact ⟨_, _, _, rfl, by simp; omega⟩
  · cases h
theorem cells_at {s : St} {n : Nat} {v : Value} {cs : List Value} (h : cellsOf n v s = some cs) (hn : 0 < n) {i : Nat} (hi : (i + 1) * n ≤ cs.length) {k : IntKind} :
    ∃ p, aindexS n v (.int k (i : Int)) = some p ∧ (∀ c, n = 1 → cs[i]? = some c → aload false 1 p s = some c) ∧ aload true n p s = some (.agg ((cs.drop (i * n)).take n).toArray) := by
  unfold cellsOf at h
  split at h
  · cases h
    have : 0 < (i + 1) * n := Nat.mul_pos (by omega) hn
    simp only [List.length_nil] at hi
    omega
  · rename_i b o len cap
    split at h
    case isFalse => cases h
    obtain ⟨row, h1, h2, rfl⟩ := readN_some h
    have hl : ((row.drop o).take (len * n)).length = len * n := by simp; omega
    rw [hl] at hi
    have hlt : i < len := by
      rcases Nat.lt_or_ge i len with hh | hh
      · exact hh
      · have := Nat.mul_le_mul_right n hh; rw [Nat.add_mul] at hi; omega
    refine ⟨.pointer (some ⟨b, o + i * n, none⟩), ?_, fun c hn1 hc => ?_, ?_⟩
    · simp [aindexS, hlt]
    · subst hn1
      simp only [aload, h1, Option.bind_some, Bool.false_eq_true, if_false]
      rw [List.getElem?_take_of_lt (by omega), List.getElem?_drop] at hc
      simpa using hc
    · simp only [aload, if_true, readN, h1, Option.bind_some]
      have h3 : i * n + n ≤ len * n := by rw [Nat.add_mul] at hi; omega
      rw [if_pos (by omega)]
      simp only [Option.map_some]
      congr 3
      rw [List.drop_take, List.drop_drop, List.take_take]
      congr 1
      omega
  · cases h
theorem bytes_str {s : St} {v : Value} {l : List UInt8} (h : bytesOf v s = some l) : abytesToStr v s = some (.string ⟨l.toArray⟩) := by
  unfold bytesOf at h
  simp only [Option.bind_eq_some_iff] at h
  obtain ⟨cs, h1, h2⟩ := h
  have := ubs_some h2
  unfold cellsOf at h1
  split at h1
  · cases h1
    have : l = [] := by
      cases l with
      | nil => rfl
      | cons => simp [bv] at this
    subst this
    rfl
  · split at h1
    case isFalse => cases h1
    simp only [abytesToStr]
    rw [Nat.mul_one] at h1
    rw [h1, this]
    simp [unbytes_bv]
  · cases h1
/-- a part of a slice -/
theorem cells_slice {s : St} {n : Nat} {a : Option Addr} {len cap : Nat} {cs : List Value} (h : cellsOf n (.slice a len cap) s = some cs) {lo hi mx : Option Value} {i j : Nat} (hlo : abound 0 lo = some i) (hhi : abound len hi = some j) (hij : i ≤ j) (hj : j ≤ len)
    (hmx : mx = none ∨ (hi.isSome = true ∧ ∀ c, abound c mx = some j)) : ∃ u, asliceV n (.slice a len cap) lo hi mx = some u ∧ cellsOf n u s = some ((cs.drop (i * n)).take ((j - i) * n)) := by
  unfold cellsOf at h
  split at h
  · rename_i heq
    cases heq
    cases h
    obtain rfl : j = 0 := by omega
    obtain rfl : i = 0 := by omega
    refine ⟨.slice none 0 0, ?_, by simp [cellsOf]⟩
    simp only [asliceV, asliceSl, hlo, hhi]
    rcases hmx with rfl | ⟨h1, h2⟩
    · simp [abound, cutRow]
    · simp [h1, h2, cutRow]
  · rename_i b o len2 cap2 heq
    cases heq
    split at h
    case isFalse => cases h
    rename_i hlc
    obtain ⟨row, h1, h2, rfl⟩ := readN_some h
    have key : ∀ m, j ≤ m → m ≤ cap → (cutRow n (some ⟨b, o, none⟩) i (j - i) (m - i)) = some (.slice (some ⟨b, o + i * n, none⟩) (j - i) (m - i)) ∧ cellsOf n (.slice (some ⟨b, o + i * n, none⟩) (j - i) (m - i)) s = some (((List.take (len * n) (List.drop o row)).drop (i * n)).take ((j - i) * n)) := by
      intro m hm1 hm2
      refine ⟨rfl, ?_⟩
      simp only [cellsOf]
      rw [if_pos (by omega)]
      unfold readN
      rw [h1]
      simp only [Option.bind_some]
      have e1 : i * n + (j - i) * n = j * n := by rw [← Nat.add_mul]; congr 1; omega
      have e2 : j * n ≤ len * n := Nat.mul_le_mul_right _ hj
      rw [if_pos (by omega)]
      congr 1
      rw [List.drop_take, List.drop_drop, List.take_take]
      congr 1
      omega
    simp only [asliceV, asliceSl, hlo, hhi]
    rcases hmx with rfl | ⟨h3, h4⟩
    · obtain ⟨k1, k2⟩ := key cap (by omega) (Nat.le_refl _)
      refine ⟨_, ?_, k2⟩
      simp only [Option.isNone_none, Bool.true_or, if_true, abound, Option.bind_some]
      rw [if_pos ⟨hij, by omega, Nat.le_refl _⟩]
      exact k1
    · obtain ⟨k1, k2⟩ := key j (Nat.le_refl _) (by omega)
      refine ⟨_, ?_, k2⟩
      simp only [h3, h4, Bool.or_true, if_true, Option.bind_some]
      rw [if_pos ⟨hij, Nat.le_refl _, by omega⟩]
      exact k1
  · cases h
/-- a part of bytes -/
theorem bytes_slice {s : St} {v : Value} {l : List UInt8} (h : bytesOf v s = some l) {lo hi mx : Option Value} {i j : Nat} (hlo : abound 0 lo = some i) (hhi : abound l.length hi = some j) (hij : i ≤ j) (hj : j ≤ l.length)
    (hmx : mx = none ∨ (hi.isSome = true ∧ ∀ c, abound c mx = some j)) : ∃ u, asliceV 1 v lo hi mx = some u ∧ bytesOf u s = some ((l.drop i).take (j - i)) := by
  unfold bytesOf at h
  simp only [Option.bind_eq_some_iff] at h
  obtain ⟨cs, h1, h2⟩ := h
  have hcs := ubs_some h2
  obtain ⟨a, len, cap, rfl, h3⟩ := cellsOf_len h1
  have hl : len = l.length := by rw [hcs, bv_length, Nat.mul_one] at h3; exact h3.symm
  subst hl
  obtain ⟨u, h4, h5⟩ := cells_slice h1 hlo hhi hij hj hmx
  refine ⟨u, h4, ?_⟩
  unfold bytesOf
  rw [h5, Nat.mul_one, Nat.mul_one, hcs, ← bv_drop, ← bv_take]
  exact ubs_bv _

/-! ### Rows of one's own -/
/-- of the blocks below N nothing has changed -/
def Ext (N : Nat) (s s' : St) : Prop := s.heap.length ≤ s'.heap.length ∧ ∀ b, b < N → s'.heap[b]? = s.heap[b]?
theorem Ext.refl (N : Nat) (s : St) : Ext N s s := ⟨Nat.le_refl _, fun _ _ => rfl⟩
theorem Ext.trans {N : Nat} {s t u : St} (h : Ext N s t) (g : Ext N t u) : Ext N s u := ⟨Nat.le_trans h.1 g.1, fun b hb => (g.2 b hb).trans (h.2 b hb)⟩
theorem Ext.push (N : Nat) {s : St} (hN : N ≤ s.heap.length) (B : Blk) : Ext N s (s.push B) := ⟨by simp [St.push], fun b hb => by
  simp only [St.push]; rw [List.getElem?_append_left (by omega)]⟩
theorem push_get {s : St} {B : Blk} : (s.push B).heap[s.heap.length]? = some B := by simp [St.push]
theorem push_old {s : St} {B : Blk} {b : Nat} (h : b < s.heap.length) : (s.push B).heap[b]? = s.heap[b]? := by
  simp only [St.push]; rw [List.getElem?_append_left h]
theorem push_len {s : St} {B : Blk} : (s.push B).heap.length = s.heap.length + 1 := by simp [St.push]
theorem Ext.readRow {N : Nat} {s s' : St} (h : Ext N s s') {b : Nat} (hb : b < N) : readRow s' b = readRow s b := by unfold Ab.readRow; rw [h.2 b hb]
theorem readRow_lt {s : St} {b : Nat} {cs : List Value} (h : readRow s b = some cs) : b < s.heap.length := by
  unfold readRow at h
  rcases Nat.lt_or_ge b s.heap.length with hh | hh
  · exact hh
  · rw [List.getElem?_eq_none hh] at h; cases h
theorem Ext.cells {s s' : St} (h : Ext s.heap.length s s') {n : Nat} {v : Value} {cs : List Value} (hv : cellsOf n v s = some cs) : cellsOf n v s' = some cs := by
  unfold cellsOf at hv ⊢
  split at hv
  · exact hv
  · split at hv
    case isFalse => cases hv
    rename_i hlc
    rw [if_pos hlc]
    unfold readN at hv ⊢
    cases hr : Ab.readRow s _ with
    | none => rw [hr] at hv; cases hv
    | some row => rw [h.readRow (readRow_lt hr)]; exact hv
  · cases hv
theorem Ext.bytes {s s' : St} (h : Ext s.heap.length s s') {v : Value} {l : List UInt8} (hv : bytesOf v s = some l) : bytesOf v s' = some l := by
  unfold bytesOf at hv ⊢
  simp only [Option.bind_eq_some_iff] at hv ⊢
  obtain ⟨cs, h1, h2⟩ := hv
  exact ⟨cs, h.cells h1, h2⟩
theorem Ext.less {N M : Nat} {s s' : St} (h : Ext N s s') (hM : M ≤ N) : Ext M s s' := ⟨h.1, fun b hb => h.2 b (by omega)⟩

/-- a slice of a row of its own, from block N on; n: an element's cells -/
def Own (N n : Nat) (s : St) (v : Value) (cells : List Value) : Prop :=
  (v = .slice none 0 0 ∧ cells = []) ∨ ∃ b len, v = .slice (some ⟨b, 0, none⟩) len len ∧ N ≤ b ∧ s.heap[b]? = some (.row n cells .act) ∧ cells.length = len * n ∧ 0 < len
theorem Own.nil (N n : Nat) (s : St) : Own N n s (.slice none 0 0) [] := .inl ⟨rfl, rfl⟩
theorem Own.cells {N n : Nat} {s : St} {v : Value} {cells : List Value} (h : Own N n s v cells) : cellsOf n v s = some cells := by
  rcases h with ⟨rfl, rfl⟩ | ⟨b, len, rfl, _, h2, h3, h4⟩
  · rfl
  · simp only [cellsOf, Nat.le_refl, if_true, readN, Ab.readRow, h2, Option.bind_some]
    rw [if_pos (by omega), List.drop_zero, ← h3, List.take_length]
theorem Own.bytes {N : Nat} {s : St} {v : Value} {l : List UInt8} (h : Own N 1 s v (bv l)) : bytesOf v s = some l := by
  unfold bytesOf
  rw [h.cells]
  exact ubs_bv l
theorem elems_of {n : Nat} {y : Value} {s : St} {cs : List Value} (h : cellsOf n y s = some cs) : elemsOf n y s = some cs := by
  unfold cellsOf at h
  split at h
  · exact h
  · split at h
    case isFalse => cases h
    exact h
  · cases h

/-- something is appended to a row of one's own -/
theorem own_appendR {N n w : Nat} {s : St} {x y : Value} {cells new : List Value} (h : Own N n s x cells) (hN : N ≤ s.heap.length) (hw : 0 < w) (hn : 0 < n) {m : Nat} (hm : lenV y = some m) (hnew : elemsOf n y s = some new) (hlen : new.length = m * n) (hb : ∀ q, q * n = cells.length + new.length → roomA q w) :
    ∃ v' s', aappend n w x y s = some (v', s') ∧ Own N n s' v' (cells ++ new) ∧ Ext N s s' := by
  unfold aappend
  rw [if_pos hw, hm, hnew]
  simp only [Option.bind_some]
  rcases h with ⟨rfl, rfl⟩ | ⟨b, len, rfl, h1, h2, h3, h4⟩
  · simp only
    have hb2 : roomA m w := hb m (by simp [hlen])
    rw [if_pos hb2]
    by_cases hm0 : m = 0
    · subst hm0
      have : new = [] := by simpa using hlen
      subst this
      exact ⟨_, _, by rw [if_pos rfl], .inl ⟨rfl, rfl⟩, .refl _ _⟩
    · rw [if_neg hm0]
      refine ⟨_, _, rfl, .inr ⟨s.heap.length, m, rfl, hN, by simpa using push_get, by simpa using hlen, by omega⟩, .push N hN _⟩
  · have hb2 : roomA (len + m) w := hb _ (by rw [Nat.add_mul, h3, hlen])
    simp only
    rw [if_pos hb2]
    by_cases hm0 : m = 0
    · subst hm0
      have : new = [] := by simpa using hlen
      subst this
      refine ⟨_, _, by rw [if_pos (by omega), if_pos rfl], .inr ⟨b, len, rfl, h1, by simpa using h2, by simpa using h3, h4⟩, .refl _ _⟩
    · rw [if_neg (by omega), h2]
      simp only
      rw [if_pos ⟨trivial, trivial, h3.symm⟩]
      have hbl : b < s.heap.length := (List.getElem?_eq_some_iff.1 h2).1
      refine ⟨_, _, rfl, .inr ⟨s.heap.length, len + m, rfl, hN, ?_, by rw [List.length_append, h3, hlen, Nat.add_mul], by omega⟩, ⟨by simp [St.push, St.putB], fun c hc => ?_⟩⟩
      · have : s.heap.length = (s.putB b (.row n cells .dead)).heap.length := by simp [St.putB]
        rw [this]
        exact push_get
      · simp only [St.push, St.putB]
        rw [List.getElem?_append_left (by simp; omega), List.getElem?_set_ne (by omega)]

theorem own_append {N n w : Nat} {s : St} {x y : Value} {cells new : List Value} (h : Own N n s x cells) (hN : N ≤ s.heap.length) (hw : 0 < w) (hn : 0 < n) {m : Nat} (hm : lenV y = some m) (hnew : elemsOf n y s = some new) (hlen : new.length = m * n) (hb : (cells.length + new.length) * w ≤ 140737488355328 * n) :
    ∃ v' s', aappend n w x y s = some (v', s') ∧ Own N n s' v' (cells ++ new) ∧ Ext N s s' :=
  own_appendR h hN hw hn hm hnew hlen fun q hq => .inl (by
    rw [← hq, Nat.mul_right_comm] at hb
    exact Nat.le_of_mul_le_mul_right hb hn)

/-- one more element -/
theorem own_add {N n w : Nat} {s : St} {x : Value} {cells z : List Value} {v : Value} (h : Own N n s x cells) (hN : N ≤ s.heap.length) (hw : 0 < w) (hn : 0 < n) (hn2 : n ≤ 16777216) (hz : z.length = n) (hzl : z.all isLeaf = true) (hv : (cellsV v).length = n) (hvl : (cellsV v).all isLeaf = true)
    (hb : (cells.length + n) * w ≤ 140737488355328 * n) : ∃ r, abuildSl n z 1 [(0, v)] s = some r ∧ ∃ v' s', aappend n w x r.1 r.2 = some (v', s') ∧ Own N n s' v' (cells ++ cellsV v) ∧ Ext N s s' := by
  have h1 : abuildSl n z 1 [(0, v)] s = some (.slice (some ⟨s.heap.length, 0, none⟩) 1 1, s.push (.row n (cellsV v) .act)) := by
    have hrep : repCells z 1 = z := by simp [repCells]
    have hput : putCells z 0 (cellsV v) = cellsV v := by
      simp [putCells, hv, hz]
    unfold abuildSl
    rw [if_pos ⟨by omega, hz, hzl⟩]
    simp only [hrep, afill, placeA, Nat.zero_mul]
    rw [if_pos ⟨hv, by omega, hvl⟩, hput]
    rfl
  refine ⟨_, h1, ?_⟩
  have hE : Ext N s (s.push (.row n (cellsV v) .act)) := .push N hN _
  have hcells : cellsOf n (.slice (some ⟨s.heap.length, 0, none⟩) 1 1) (s.push (.row n (cellsV v) .act)) = some (cellsV v) := by
    simp only [cellsOf, Nat.le_refl, if_true, readN, Ab.readRow, push_get, Option.bind_some]
    rw [if_pos (by omega), List.drop_zero, Nat.one_mul, ← hv, List.take_length]
  have hO : Own N n (s.push (.row n (cellsV v) .act)) x cells := by
    rcases h with h | ⟨b, len, e1, e2, e3, e4, e5⟩
    · exact .inl h
    · exact .inr ⟨b, len, e1, e2, by rw [push_old (List.getElem?_eq_some_iff.1 e3).1]; exact e3, e4, e5⟩
  obtain ⟨v', s', g1, g2, g3⟩ := own_append (w := w) hO (by rw [push_len]; omega) hw hn (y := .slice (some ⟨s.heap.length, 0, none⟩) 1 1) (m := 1) rfl (elems_of hcells) (by omega) (by rw [hv]; exact hb)
  exact ⟨v', s', g1, g2, hE.trans g3⟩

/-! ### Arrays in the frame -/
/-! ### Functions that are known -/
abbrev Sum := List Value → St → Option (Value × St)
def libL : List (FuncId × Sum) → Lib
  | [], _ => none
  | (g, h) :: l, f => if f = g then some h else libL l f
theorem libOk_nil (P : Program) : LibOk P (libL []) := fun _ _ h => by cases h
theorem libOk_cons {P : Program} {hints : Hints} (hprog : progW P = true) {l : List (FuncId × Sum)} (hl : LibOk P (libL l)) {f : FuncId} {g : Sum} (hok : funcOk P f = true) (hg : SumOk P (libL l) hints f g) : LibOk P (libL ((f, g) :: l)) :=
  lib_add hprog hl hok hg fun _ => rfl
theorem known {P : Program} {lib : Lib} {hints : Hints} {f : FuncId} {g : Sum} (h : lib f = some g) {xs : List Value} {s : St} : run P lib hints f xs s = g xs s := run_lib h

/-! ### Functions whose values are plain, or bytes of their own -/
def newBytes (l : List UInt8) (s : St) : Value × St := (.slice (some ⟨s.heap.length, 0, none⟩) l.length l.length, s.push (.row 1 (bv l) .act))
def plainV : Value → Bool
  | .tuple a => a.toList.all constOk
  | v => constOk v
theorem SumOk.plain {P : Program} {lib : Lib} {hints : Hints} {f : FuncId} {G : List Value → St → Option Value} (h : ∀ args s v, G args s = some v → plainV v = true ∧ ∃ t0, run P lib hints f args (frzS s) = some (v, t0)) :
    SumOk P lib hints f fun args s => (G args s).map fun v => (v, s) := by
  intro args s v t hg
  simp only [Option.map_eq_some_iff] at hg
  obtain ⟨u, hu, e⟩ := hg
  cases e
  obtain ⟨h1, t0, h2⟩ := h args s v hu
  refine ⟨[], v, t0, fun _ => 0, by simp, h2, .pure ?_⟩
  cases v with
  | tuple a =>
    have := Vw.tup (ρ := renum s.heap.length fun _ => 0) (D := s.heap.length) (l := a.toList) h1
    simpa using this
  | _ => exact Vw.const h1
theorem SumOk.bytes {P : Program} {lib : Lib} {hints : Hints} {f : FuncId} {G : List Value → St → Option (List UInt8)} (h : ∀ args s l, G args s = some l → l ≠ [] ∧ ∃ v0 t0, run P lib hints f args (frzS s) = some (v0, t0) ∧ Own s.heap.length 1 t0 v0 (bv l)) :
    SumOk P lib hints f fun args s => (G args s).map fun l => newBytes l s := by
  intro args s v t hg
  simp only [Option.map_eq_some_iff] at hg
  obtain ⟨l, hl, e⟩ := hg
  cases e
  obtain ⟨hne, v0, t0, h2, h3⟩ := h args s l hl
  rcases h3 with ⟨_, h3⟩ | ⟨b, len, rfl, h4, h5, h6, h7⟩
  · exact absurd (bv_inj (m := []) h3) hne
  · rw [bv_length, Nat.mul_one] at h6
    subst h6
    exact ⟨_, _, t0, _, rfl, h2, .row h4 h5 (fun _ _ h => h) bv_leaf (Vw.slice (Nat.le_refl _) (Nat.le_refl _))⟩
end Go.Proofs.Ytccindbiodofmaa.Ab

/- Strings, in their order. -/
namespace Go.Proofs.Ytccindbiodofmaa.Ab
open Go

/-- below, as the machine has it -/
abbrev bl (a b : List UInt8) : Bool := Op.bytesLess a b
theorem bl_nil_r (a : List UInt8) : bl a [] = false := by cases a <;> rfl
theorem bl_nil_l {b : List UInt8} (h : b ≠ []) : bl [] b = true := by
  cases b with
  | nil => exact absurd rfl h
  | cons => rfl
theorem bl_cons {x y : UInt8} {a b : List UInt8} : bl (x :: a) (y :: b) = true ↔ x.toNat < y.toNat ∨ (x = y ∧ bl a b = true) := by
  show (decide (x < y) || (x == y && Op.bytesLess a b)) = true ↔ _
  simp only [Bool.or_eq_true, decide_eq_true_eq, Bool.and_eq_true, beq_iff_eq, UInt8.lt_iff_toNat_lt]
theorem bl_irrefl : ∀ (a : List UInt8), bl a a = false
  | [] => rfl
  | x :: a => by
    have ih := bl_irrefl a
    cases h : bl (x :: a) (x :: a) with
    | false => rfl
    | true =>
      rcases bl_cons.1 h with h | ⟨_, h⟩
      · omega
      · rw [ih] at h; cases h
theorem bl_trans : ∀ {a b c : List UInt8}, bl a b = true → bl b c = true → bl a c = true
  | _, [], _, h, _ => by rw [bl_nil_r] at h; cases h
  | _, _ :: _, [], _, h => by rw [bl_nil_r] at h; cases h
  | [], _ :: _, _ :: _, _, _ => rfl
  | x :: a, y :: b, z :: c, h, g => by
    rw [bl_cons] at h g ⊢
    rcases h with h | ⟨rfl, h⟩
    · rcases g with g | ⟨rfl, g⟩
      · left; omega
      · left; exact h
    · rcases g with g | ⟨rfl, g⟩
      · left; exact g
      · right; exact ⟨rfl, bl_trans h g⟩
theorem bl_total : ∀ {a b : List UInt8}, a ≠ b → bl a b = true ∨ bl b a = true
  | [], [], h => absurd rfl h
  | [], _ :: _, _ => .inl rfl
  | _ :: _, [], _ => .inr rfl
  | x :: a, y :: b, h => by
    rw [bl_cons, bl_cons]
    rcases Nat.lt_trichotomy x.toNat y.toNat with g | g | g
    · left; left; exact g
    · have e : x = y := UInt8.toNat_inj.1 g
      subst e
      have hab : a ≠ b := fun e => h (by rw [e])
      rcases bl_total hab with g | g
      · left; right; exact ⟨rfl, g⟩
      · right; right; exact ⟨rfl, g⟩
    · right; left; exact g
theorem bl_asymm {a b : List UInt8} (h : bl a b = true) : bl b a = false := by
  cases g : bl b a with
  | false => rfl
  | true => have := bl_trans h g; rw [bl_irrefl] at this; cases this
/-- nothing stands between a text and the same with a byte 0 behind it -/
theorem bl_zero : ∀ {a b : List UInt8}, bl b (a ++ [0]) = (bl b a || b == a)
  | [], [] => rfl
  | [], y :: b => by
    cases h : bl (y :: b) ([] ++ [0]) with
    | false =>
      simp [bl_nil_r]
    | true =>
      rcases bl_cons.1 h with g | ⟨_, g⟩
      · have : (0 : UInt8).toNat = 0 := rfl
        omega
      · rw [bl_nil_r] at g; cases g
  | x :: a, [] => rfl
  | x :: a, y :: b => by
    have ih := bl_zero (a := a) (b := b)
    show (decide (y < x) || (y == x && Op.bytesLess b (a ++ [0]))) = ((decide (y < x) || (y == x && Op.bytesLess b a)) || (y :: b == x :: a))
    have e : (y :: b == x :: a) = (y == x && b == a) := rfl
    have ih' : Op.bytesLess b (a ++ [0]) = (Op.bytesLess b a || b == a) := ih
    rw [ih', e]
    cases decide (y < x) <;> cases (y == x) <;> simp

end Go.Proofs.Ytccindbiodofmaa.Ab

/- A range over a function, where the function gives its rounds as a list: rounds are run by the abstract machine. -/
namespace Go.Proofs.Ytccindbiodofmaa.Ab
open Go Go.RowKit

/-! ### Frames without places -/
structure FS (n wb : Nat) (ι : Emb) (T : Fr) (H : List Blk) (tmps : Array Value) (w : World) : Prop where
  sim : Sim wb ι H w
  nm : ∀ x, x < n → VRel ι (T x) (tmps.getD x undef)
def cutF (n : Nat) (T : Fr) : Fr := fun x => if x < n then T x else poisonV
theorem FS.b {n wb : Nat} {ι : Emb} {T : Fr} {H : List Blk} {tmps : Array Value} {w : World} (h : FS n wb ι T H tmps w) : BSim [] n wb ι H w ι (fun _ => none) (cutF n T) H tmps w := by
  refine ⟨h.sim, ⟨fun _ _ h => (by cases h), fun _ _ h => (by cases h), fun _ _ _ h => (by cases h)⟩, .refl _ _ _ h.sim.dom, fun x => ?_⟩
  unfold cutF
  by_cases c : x < n
  · rw [if_pos c]
    unfold NRel
    rw [if_pos c]
    exact h.nm x c
  · rw [if_neg c]; exact .poison
theorem BSim.fs {n wb : Nat} {ι0 ι : Emb} {H0 H : List Blk} {w0 w : World} {lam : Lam} {T : Fr} {tmps : Array Value} (h : BSim [] n wb ι0 H0 w0 ι lam T H tmps w) : FS n wb ι T H tmps w := by
  refine ⟨h.sim, fun x hx => ?_⟩
  have := h.nm x
  unfold NRel at this
  rw [if_pos hx] at this
  exact this
theorem FS.mono {n wb : Nat} {ι κ : Emb} {T T' : Fr} {H K : List Blk} {tmps tmps' : Array Value} {w v : World} (h : FS n wb ι T H tmps w) (g : FS n wb κ T' K tmps' v) (hl : ι.le κ) : FS n wb κ T K tmps v := ⟨g.sim, fun x hx => (h.nm x hx).mono hl⟩

section
variable {P : Program} {call : Caller} {n m wb : Nat}
def sel : List Nat → Code → Code
  | [], c => c
  | 0 :: p, .seq a _ => sel p a
  | 1 :: p, .seq _ b => sel p b
  | 2 :: p, .block _ a => sel p a
  | 2 :: p, .loop a => sel p a
  | 3 :: p, .rangeFunc _ _ a _ => sel p a
  | 4 :: p, .rangeFunc _ _ _ b => sel p b
  | _, _ => .skip
def NoMap (H : List Blk) : Prop := ∀ (b : Nat) es clock, H[b]? ≠ some (.map es clock)
/-- a block that is no cells has turned, and what grew -/
theorem Sim.grown {ι : Emb} {H : List Blk} {w w' : World} {row : Option Nat} (h : Sim wb ι H w) (hm : NoMap H) (hg : w.grownBy w' row) (hr : ∀ r, row = some r → ∃ o : Obj, w.heap[r]? = some o ∧ ∀ cs e fz, o ≠ .cells cs e fz) : Sim wb ι H w' where
  dom := h.dom
  row b n' cells st hb hst l hl := by
    obtain ⟨cs, e, fz, q1, q2, q3, q4⟩ := h.row b n' cells st hb hst l hl
    refine ⟨cs, e, fz, ?_, q2, q3, q4⟩
    rw [hg.block _ (Array.getElem?_eq_some_iff.1 q1).1 fun e1 => ?_]
    · exact q1
    · obtain ⟨o, ho, hn⟩ := hr _ e1.symm
      rw [q1] at ho
      cases ho
      exact hn _ _ _ rfl
  map b es clock hb := absurd hb (hm b es clock)
  excl := h.excl
  size := Nat.le_trans h.size hg.size
  loc := h.loc
theorem FS.grown {ι : Emb} {T : Fr} {H : List Blk} {tmps : Array Value} {w w' : World} {row : Option Nat} (h : FS n wb ι T H tmps w) (hm : NoMap H) (hg : w.grownBy w' row) (hr : ∀ r, row = some r → ∃ o : Obj, w.heap[r]? = some o ∧ ∀ cs e fz, o ≠ .cells cs e fz) : FS n wb ι T H tmps w' := ⟨h.sim.grown hm hg hr, h.nm⟩
theorem Step.grown {ι κ : Emb} {H K : List Blk} {w v v' : World} {row : Option Nat} (h : Step ι H w κ K v) (hg : v.grownBy v' row) (hr : ∀ r, row = some r → w.heap.size ≤ r) : Step ι H w κ K v' where
  le := h.le
  old := h.old
  img := h.img
  keep c hc hn := by
    rw [hg.block c (Nat.lt_of_lt_of_le hc h.size) fun e => ?_]
    · exact h.keep c hc hn
    · have := hr c e.symm; omega
  size := Nat.le_trans h.size hg.size
  os := hg.os.trans h.os
  tape := hg.tape.trans h.tape
  output := hg.output.trans h.output
  len := h.len
  own := h.own

def setP : List (Tmp × Value) → Fr → Fr
  | [], T => T
  | (p, v) :: l, T => setP l (setT T p v)
theorem FS.params {ι : Emb} {H : List Blk} {w : World} : ∀ {l : List (Tmp × Value)} {T : Fr} {tmps : Array Value}, FS n wb ι T H tmps w → tmps.size = n → (∀ x ∈ l, constOk x.2 = true) →
    FS n wb ι (setP l T) H (l.foldl (fun t (x : Tmp × Value) => t.setIfInBounds x.1 x.2) tmps) w ∧ (l.foldl (fun t (x : Tmp × Value) => t.setIfInBounds x.1 x.2) tmps).size = n
  | [], T, tmps, h, hz, _ => ⟨h, hz⟩
  | (p, v) :: l, T, tmps, h, hz, hc => by
    refine FS.params (l := l) (T := setT T p v) (tmps := tmps.setIfInBounds p v) ⟨h.sim, fun x hx => ?_⟩ (by simpa using hz) fun y hy => hc y (List.mem_cons_of_mem _ hy)
    unfold setT
    by_cases e : x = p
    · subst e
      rw [Nat.beq_refl]
      have : (tmps.setIfInBounds x v).getD x undef = v := by simp [Array.getD, hz, hx]
      rw [cond_true, this]
      exact constOk_rel (hc (x, v) (List.mem_cons_self ..))
    · have hb : Nat.beq x p = false := by
        cases hb : Nat.beq x p with
        | false => rfl
        | true => exact absurd (Nat.eq_of_beq_eq_true hb) e
      rw [hb, cond_false]
      have : (tmps.setIfInBounds p v).getD x undef = tmps.getD x undef := by
        simp [Array.getD, hz, hx, Array.getElem_setIfInBounds_ne, Ne.symm e]
      rw [this]
      exact h.nm x hx

end
end Go.Proofs.Ytccindbiodofmaa.Ab
