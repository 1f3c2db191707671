/- The abstract machine against the model: the operations one by one. -/
import Derived.Test.YtamaapapaiopiaaAbOps
import Derived.Laws.MakeOwn
import Derived.Laws.BytesString
set_option linter.unusedVariables false
set_option linter.unusedSimpArgs false
set_option linter.unusedSectionVars false
namespace Go.Proofs.Ytamaapapaiopiaa.Ab
open Go

theorem constOk_cells {z : Value} {ι : Emb} (h : constOk z = true) : All2 (L2 ι) (cellsV z) z.cells.toList := by
  rw [cellsV_cells]
  refine leafOks_rel ?_
  cases z <;> simp_all [constOk, cellsV, leafOk]

theorem undef_rel (ι : Emb) : VRel ι undef undef := .tuple (a := #[]) (a' := #[]) trivial
theorem leafOk_isLeaf {v : Value} (h : leafOk v = true) : isLeaf v = true := by cases v <;> simp_all [leafOk, isLeaf]
theorem constOk_leaf {z : Value} (h : constOk z = true) : (cellsV z).all isLeaf = true := by
  cases z <;> simp_all [constOk, cellsV, leafOk, isLeaf]
  rename_i cs
  intro x hx
  exact leafOk_isLeaf (h x hx)

section
variable {P : Program} {o : Oper} {a : Act} {w : World} {wb : Nat} {ι : Emb} {H : List Blk}

theorem so_move {x : Operand} {v : Value} (ho : o.op = .move x ∨ o.op = .assign x) (h : Sim wb ι H w) (hv : VRel ι v (a.eval x)) : OpOk P o a w (After wb ι H w H v) := by
  refine ok_value h (v' := a.eval x) ?_ hv
  rcases ho with ho | ho <;> simp [execOp, ho]

theorem so_pick {c x y : Operand} {b : Bool} {v : Value} (ho : o.op = .pick c x y) (h : Sim wb ι H w) (hc : VRel ι (.bool b) (a.eval c)) (hv : VRel ι v (a.eval (if b = true then x else y))) :
    OpOk P o a w (After wb ι H w H v) := by
  refine ok_value h (v' := a.eval (if b = true then x else y)) ?_ hv
  have := hc.inv_bool
  cases b <;> simp [execOp, ho, this, asBool]

theorem so_alloc {e : TypeId} {z : Value} (ho : o.op = .alloc e) (h : Sim wb ι H w) (hz : zeroT P e = some z) :
    OpOk P o a w (After wb ι H w (H ++ [.row 0 (cellsV z) .act]) (.pointer (some ⟨H.length, 0, none⟩))) := by
  obtain ⟨i, _, _, hc⟩ := zeroT_info hz
  refine .inl ⟨.pointer (some ⟨w.heap.size, 0, none⟩), w.alloc (.cells z.cells e), ?_, ?_⟩
  · simp [execOp, ho, Instr.alloc, run_zeroValue' hz, newVar, newRow]
  · exact after_new (f := fun n m => .pointer (some ⟨n, m, none⟩)) h (constOk_cells hc) (ptr_new _ _ _ rfl)

theorem so_box {e : TypeId} {x : Operand} {v : Value} (ho : o.op = .box e x) (h : Sim wb ι H w) (hv : VRel ι v (a.eval x)) (hl : (cellsV v).all isLeaf = true) :
    OpOk P o a w (After wb ι H w (H ++ [.row 0 (cellsV v) .act]) (.pointer (some ⟨H.length, 0, none⟩))) := by
  refine .inl ⟨.pointer (some ⟨w.heap.size, 0, none⟩), w.alloc (.cells (a.eval x).cells e), ?_, ?_⟩
  · simp [execOp, ho, Instr.box, newVar, newRow]
  · exact after_new (f := fun n m => .pointer (some ⟨n, m, none⟩)) h (hv.cells hl) (ptr_new _ _ _ rfl)

theorem so_load {t : TypeId} {x : Operand} {va v : Value} {ag : Bool} {n : Nat} {s : St} (ho : o.op = .load t x) (h : Sim wb ι s.heap w) (hx : VRel ι va (a.eval x))
    (hag : aggT P t = some ag) (hn : sizeT P t = some n) (hl : aload ag n va s = some v) : OpOk P o a w (After wb ι s.heap w s.heap v) := by
  unfold aload at hl
  split at hl
  case h_2 => cases hl
  rename_i b off
  obtain ⟨_, lc, hb, hv'⟩ := hx.inv_ptr
  cases ag with
  | true =>
    simp only [if_true, Option.map_eq_some_iff] at hl
    obtain ⟨vs, hr, rfl⟩ := hl
    obtain ⟨vs', h1, h2, h3⟩ := h.read (P := P) hr hb
    refine ok_value h (v' := .agg vs'.toArray) ?_ (.va (.agg (by simpa using h2)))
    simp [execOp, ho, Instr.loadAt, Instr.sureAddr, hv', loadVar, run_isAgg' hag, run_sizeOf' hn, h1]
  | false =>
    simp only [Bool.false_eq_true, if_false] at hl
    obtain ⟨v', h1, h2⟩ := h.read1 hl hb
    refine ok_value h (v' := v') ?_ (.of2 h2)
    simp [execOp, ho, Instr.loadAt, Instr.sureAddr, hv', loadVar, run_isAgg' hag, h1]

theorem so_store {t : TypeId} {x y : Operand} {va v : Value} {n : Nat} {s s' : St} (ho : o.op = .store t x y) (h : Sim wb ι s.heap w) (hx : VRel ι va (a.eval x)) (hy : VRel ι v (a.eval y))
    (hn : sizeT P t = some n) (hl : astore n va v s = some s') : OpOk P o a w (After wb ι s.heap w s'.heap undef) := by
  unfold astore at hl
  split at hl
  case h_2 => cases hl
  rename_i b off
  obtain ⟨_, lc, hb, hv'⟩ := hx.inv_ptr
  split at hl
  case isFalse => cases hl
  rename_i hc
  unfold writeN at hl
  split at hl
  case h_2 => cases hl
  rename_i n' cells hcells
  split at hl
  case isFalse => cases hl
  rename_i hle
  cases hl
  have hcs := hy.cells hc.2
  obtain ⟨w', h1, h2, h3, _⟩ := h.write (P := P) hcells hb hle hcs
  refine .inr (.inl ⟨w', ?_, ι, h2, h3, undef_rel ι⟩)
  · have hsz : (a.eval y).cells.size = n := by
      have := hcs.length
      rw [hc.1] at this
      simpa using this.symm
    simp [execOp, ho, Instr.storeAt, Instr.sureAddr, hv', storeVar, run_sizeOf' hn, hsz, h1]

/-! ### build -/
theorem foldl_updA (vs : List Value) : ∀ (cs : Array Value) (off k : Nat), (vs.zipIdx k).foldl (fun (cs : Array Value) (c : Value × Nat) => cs.setIfInBounds (off + c.2) c.1) cs = updA cs (off + k) vs := by
  induction vs with
  | nil => intro cs off k; rfl
  | cons v vs ih => intro cs off k; simp only [List.zipIdx_cons, List.foldl_cons, updA]; rw [ih]; rfl

theorem updA_toList (vs : List Value) : ∀ (cs : Array Value) (off : Nat), off + vs.length ≤ cs.size → (updA cs off vs).toList = putCells cs.toList off vs := by
  intro cs off hl
  apply List.ext_getElem?
  intro i
  rw [putCells_get _ _ _ (by simpa using hl)]
  by_cases h1 : i < off
  · simp only [h1, if_true]; rw [Array.getElem?_toList, updA_lt _ _ _ _ h1]; simp
  · simp only [h1, if_false]
    by_cases h2 : i < off + vs.length
    · simp only [h2, if_true]
      have := updA_in vs cs off (i - off) (by omega) hl
      rw [show off + (i - off) = i by omega] at this
      rw [Array.getElem?_toList]; exact this
    · simp only [h2, if_false]; rw [Array.getElem?_toList, updA_ge _ _ _ _ (by omega)]; simp

theorem putCells_rel {l m vs vs' : List Value} (h : All2 (L2 ι) l m) (hv : All2 (L2 ι) vs vs') (off : Nat) : All2 (L2 ι) (putCells l off vs) (putCells m off vs') := by
  unfold putCells
  rw [hv.length]
  exact ((h.take off).append hv).append (h.drop _)

inductive PartsRel (ι : Emb) : List (Nat × Value) → List (Nat × Value) → Prop
  | nil : PartsRel ι [] []
  | cons {i : Nat} {v v' : Value} {l m : List (Nat × Value)} (h : VRel ι v v') (t : PartsRel ι l m) : PartsRel ι ((i, v) :: l) ((i, v') :: m)

theorem opdParts_rel {T : Fr} (hf : FrRel ι T a.tmps) : ∀ {l : List (Nat × Operand)} {ps : List (Nat × Value)}, opdParts T l = some ps → (l.all fun x => opdB a.tmps.size x.2) = true → PartsRel ι ps (l.map fun x => (x.1, a.eval x.2))
  | [], ps, h, _ => by simp [opdParts] at h; subst h; exact .nil
  | (i, x) :: l, ps, h, hb => by
    simp only [opdParts, Option.bind_eq_some_iff, Option.map_eq_some_iff] at h
    obtain ⟨v, hv, r, hr, rfl⟩ := h
    simp at hb
    exact .cons (opd_rel hv hf hb.1) (opdParts_rel hf hr (by simpa using hb.2))

theorem fill_rel {place : Nat → Option (Nat × Nat)} : ∀ {ps qs : List (Nat × Value)} {l r : List Value} {cs : Array Value}, PartsRel ι ps qs → All2 (L2 ι) l cs.toList → afill place l ps = some r →
    ∃ cs', Instr.fill place cs qs = some cs' ∧ All2 (L2 ι) r cs'.toList
  | [], _, l, r, cs, .nil, hc, h => by simp [afill] at h; subst h; exact ⟨cs, rfl, hc⟩
  | (i, v) :: ps, (_, v') :: qs, l, r, cs, .cons hv ht, hc, h => by
    simp only [afill] at h
    cases hp : place i with
    | none => simp [hp] at h
    | some x =>
      obtain ⟨off, size⟩ := x
      simp only [hp] at h
      split at h
      case isFalse => cases h
      rename_i hcond
      obtain ⟨h1, h2, h3⟩ := hcond
      have hcl := hv.cells h3
      have hlen := hcl.length
      have hcsl : l.length = cs.size := by simpa using hc.length
      have hvs : v'.cells.size = size := by rw [← h1, hlen]; simp
      have hput : All2 (L2 ι) (putCells l off (cellsV v)) (updA cs off v'.cells.toList).toList := by
        rw [updA_toList _ _ _ (by simp; omega)]
        exact putCells_rel hc hcl off
      obtain ⟨cs', h4, h5⟩ := fill_rel ht hput h
      refine ⟨cs', ?_, h5⟩
      simp only [Instr.fill, hp]
      rw [if_neg (by simp; omega)]
      rw [← h4]
      congr 1
      have := foldl_updA v'.cells.toList cs off 0
      simp only [Nat.add_zero] at this
      rw [← this, ← Array.foldl_toList, Array.toList_zipIdx]

theorem run_fieldsT : ∀ {fs : List Field} {l : List (Nat × Nat)}, fieldsT P fs = some l → (fs.mapM (m := Sem) fun f => Prod.mk f.offset <$> sizeOf f.type).run P w = .ok l w
  | [], l, h => by simp [fieldsT] at h; subst h; rfl
  | f :: fs, l, h => by
    simp only [fieldsT, Option.bind_eq_some_iff, Option.map_eq_some_iff] at h
    obtain ⟨n, hn, r, hr, rfl⟩ := h
    have ih := run_fieldsT hr
    simp [List.mapM_cons, run_sizeOf' hn, ih]

theorem so_build {t : TypeId} {parts : Array (Nat × Operand)} {T : Fr} {ps : List (Nat × Value)} {pl : Nat → Option (Nat × Nat)} {z : Value} {cs : List Value} (ho : o.op = .build t parts) (h : Sim wb ι H w)
    (hf : FrRel ι T a.tmps) (hb : (parts.toList.all fun x => opdB a.tmps.size x.2) = true) (hps : opdParts T parts.toList = some ps) (hpl : placesT P t = some pl) (hz : zeroT P t = some z)
    (hc : afill pl (cellsV z) ps = some cs) : OpOk P o a w (After wb ι H w H (.agg cs.toArray)) := by
  obtain ⟨i, _, _, hzc⟩ := zeroT_info hz
  obtain ⟨cs', h1, h2⟩ := fill_rel (opdParts_rel hf hps hb) (constOk_cells hzc) hc
  refine ok_value h (v' := .agg cs') ?_ (.va (.agg (by simpa using h2)))
  have hmap : (parts.map fun (x : Nat × Operand) => (x.1, a.eval x.2)).toList = parts.toList.map fun x => (x.1, a.eval x.2) := by simp
  unfold placesT at hpl
  split at hpl
  · rename_i fs hu
    simp only [Option.map_eq_some_iff] at hpl
    obtain ⟨l, hl, rfl⟩ := hpl
    have hm := run_fieldsT (w := w) hl
    have hm2 : (fs.mapM (m := Sem) fun f => Prod.mk f.offset <$> sizeOf f.type).run P w = .ok l.toArray w := by
      rw [Array.mapM_eq_mapM_toList]
      simp [hm]
    have h1' : Instr.fill (fun x => l[x]?) z.cells (parts.toList.map fun x => (x.1, a.eval x.2)) = some cs' := h1
    simp [execOp, ho, Instr.build, run_zeroValue' hz, run_underlying' hu, hm2, h1']
  · rename_i n e hu
    simp only [Option.map_eq_some_iff] at hpl
    obtain ⟨n', hn', rfl⟩ := hpl
    have h1' : Instr.fill (fun i => some (i * n', n')) z.cells (parts.toList.map fun x => (x.1, a.eval x.2)) = some cs' := h1
    simp [execOp, ho, Instr.build, run_zeroValue' hz, run_underlying' hu, run_sizeOf' hn', h1']
  · cases hpl

end
end Go.Proofs.Ytamaapapaiopiaa.Ab
