/- The abstract machine against the model: one operation. -/
import Derived.Test.YtamaapapaiopiaaAbPrim
import Derived.Calls
import Derived.CallsIn
import Derived.OrdersIn
import Derived.LoopNIn
import Derived.AtR
set_option linter.unusedVariables false
set_option linter.unusedSimpArgs false
set_option linter.unusedSectionVars false
namespace Go.Proofs.Ytamaapapaiopiaa.Ab
open Go

/-! ### Values of a known shape -/
section inv
variable {ι : Emb} {v' : Value}
theorem VRel.of0 {v v' : Value} (h : L0 ι v v') : VRel ι v v' := .va (.l2 (.l1 (.l0 h)))
theorem VRel.of2 {v v' : Value} (h : L2 ι v v') : VRel ι v v' := .va (.l2 h)
theorem VRel.inv0 {v v' : Value} (h : VRel ι v v') (hv : (match v with | .agg _ | .tuple _ | .iface _ _ | .func _ _ _ => false | _ => true) = true) : L0 ι v v' := by
  cases h with
  | tuple => simp at hv
  | poison => simp at hv
  | va h => cases h with
    | agg => simp at hv
    | l2 h => cases h with
      | iface => simp at hv
      | ifaceAgg => simp at hv
      | l1 h => cases h with
        | func => simp at hv
        | l0 h => exact h
theorem VRel.inv_int {k : IntKind} {n : Int} (h : VRel ι (.int k n) v') : v' = .int k n := by cases h.inv0 rfl; rfl
theorem VRel.inv_bool {b : Bool} (h : VRel ι (.bool b) v') : v' = .bool b := by cases h.inv0 rfl; rfl
theorem VRel.inv_string {s : ByteArray} (h : VRel ι (.string s) v') : v' = .string s := by cases h.inv0 rfl; rfl
theorem VRel.inv_ptr {b off : Nat} {sp : Option Nat} (h : VRel ι (.pointer (some ⟨b, off, sp⟩)) v') : sp = none ∧ ∃ l : Loc, ι b = some l ∧ v' = .pointer (some ⟨l.blk, l.off + off, none⟩) := by
  cases h.inv0 rfl with
  | ptr off g => exact ⟨rfl, _, g, rfl⟩
theorem VRel.inv_pnil (h : VRel ι (.pointer none) v') : v' = .pointer none := by cases h.inv0 rfl; rfl
theorem VRel.inv_snil {n m : Nat} (h : VRel ι (.slice none n m) v') : n = 0 ∧ m = 0 ∧ v' = .slice none 0 0 := by cases h.inv0 rfl; exact ⟨rfl, rfl, rfl⟩
theorem VRel.inv_slice {a : Addr} {n m : Nat} (h : VRel ι (.slice (some a) n m) v') :
    (∃ (l : Loc) (m' : Nat), a.spot = none ∧ ι a.block = some l ∧ n ≤ m ∧ m ≤ m' ∧ (a.off = 0 → l.off + m' * l.n ≤ l.z) ∧ v' = .slice (some ⟨l.blk, l.off + a.off, none⟩) n m') ∨ (n = 0 ∧ m = 0 ∧ ∃ a', v' = .slice (some a') 0 0) := by
  cases h.inv0 rfl with
  | slice off g hl hc hz => exact .inl ⟨_, _, rfl, g, hl, hc, hz, rfl⟩
  | slice0 a a' => exact .inr ⟨rfl, rfl, a', rfl⟩
theorem VRel.inv_map {r : Nat} (h : VRel ι (.map (some r)) v') : ∃ l : Loc, ι r = some l ∧ v' = .map (some l.blk) := by
  cases h.inv0 rfl with
  | map g => exact ⟨_, g, rfl⟩
theorem VRel.inv_mnil (h : VRel ι (.map none) v') : v' = .map none := by cases h.inv0 rfl; rfl
theorem VRel.inv_nilFunc (h : VRel ι .nilFunc v') : v' = .nilFunc := by cases h.inv0 rfl; rfl
theorem VRel.inv_nilIface (h : VRel ι .nilIface v') : v' = .nilIface := by cases h.inv0 rfl; rfl
theorem VRel.inv_iface {t : TypeId} {u : Value} (h : VRel ι (.iface t u) v') : ∃ u', v' = .iface t u' := by
  cases h with
  | va h => cases h with
    | l2 h => cases h with
      | iface => exact ⟨_, rfl⟩
      | ifaceAgg => exact ⟨_, rfl⟩
      | l1 h => cases h with
        | l0 h => cases h
theorem VRel.inv_func {fn : Fn} {a b : Array Value} (h : VRel ι (.func fn a b) v') : ∃ a' b', v' = .func fn a' b' ∧ All2 (L0 ι) a.toList a'.toList ∧ All2 (L0 ι) b.toList b'.toList := by
  cases h with
  | va h => cases h with
    | l2 h => cases h with
      | l1 h => cases h with
        | func _ ha hb => exact ⟨_, _, rfl, ha, hb⟩
        | l0 h => cases h; exact ⟨_, _, rfl, trivial, trivial⟩
theorem VRel.inv_agg {a : Array Value} (h : VRel ι (.agg a) v') : ∃ a', v' = .agg a' ∧ All2 (L2 ι) a.toList a'.toList := by
  cases h with
  | va h => cases h with
    | agg h => exact ⟨_, rfl, h⟩
    | l2 h => cases h with
      | l1 h => cases h with
        | l0 h => cases h
theorem VRel.inv_tuple {a : Array Value} (h : VRel ι (.tuple a) v') (hne : a ≠ #[.tuple #[]]) : ∃ a', v' = .tuple a' ∧ All2 (VA ι) a.toList a'.toList := by
  cases h with
  | poison => exact absurd rfl hne
  | tuple h => exact ⟨_, rfl, h⟩
  | va h => cases h with
    | l2 h => cases h with
      | l1 h => cases h with
        | l0 h => cases h
theorem VRel.cells {v v' : Value} (h : VRel ι v v') (hl : (cellsV v).all isLeaf = true) : All2 (L2 ι) (cellsV v) v'.cells.toList := by
  cases h with
  | va h => cases h with
    | agg h => simpa [cellsV, Value.cells] using h
    | l2 h =>
      have : cellsV v = [v] ∧ v'.cells = #[v'] := by
        cases h with
        | l1 h => cases h with
          | l0 h => cases h <;> exact ⟨rfl, rfl⟩
          | func => exact ⟨rfl, rfl⟩
        | iface => exact ⟨rfl, rfl⟩
        | ifaceAgg => exact ⟨rfl, rfl⟩
      rw [this.1, this.2]
      exact ⟨h, trivial⟩
  | tuple h => simp [cellsV, isLeaf] at hl
  | poison => simp [cellsV, isLeaf] at hl
end inv

theorem leafOk_rel {ι : Emb} {v : Value} (h : leafOk v = true) : L0 ι v v := by
  cases v with
  | bool b => exact .bool b
  | int k n => exact .int k n
  | string s => exact .string s
  | pointer a => cases a with
    | none => exact .pnil
    | some a => simp [leafOk] at h
  | slice a n m => cases a with
    | none =>
      cases n with
      | zero => cases m with
        | zero => exact .snil
        | succ m => simp [leafOk] at h
      | succ n => simp [leafOk] at h
    | some a => simp [leafOk] at h
  | map r => cases r with
    | none => exact .mnil
    | some r => simp [leafOk] at h
  | func fn a b =>
    simp [leafOk] at h
    obtain ⟨rfl, rfl⟩ := h
    exact .func fn
  | nilFunc => exact .nilFunc
  | nilIface => exact .nilIface
  | float => simp [leafOk] at h
  | complex => simp [leafOk] at h
  | chan => simp [leafOk] at h
  | iface => simp [leafOk] at h
  | agg => simp [leafOk] at h
  | tuple => simp [leafOk] at h
theorem leafOks_rel {ι : Emb} : ∀ {l : List Value}, l.all leafOk = true → All2 (L2 ι) l l
  | [], _ => trivial
  | v :: l, h => by
    simp at h
    exact ⟨.l1 (.l0 (leafOk_rel h.1)), leafOks_rel (by simpa using h.2)⟩
theorem constOk_rel {ι : Emb} {v : Value} (h : constOk v = true) : VRel ι v v := by
  cases v with
  | agg cs => exact .va (.agg (leafOks_rel h))
  | _ => exact .of0 (leafOk_rel h)

/-! ### Frames -/
def FrRel (ι : Emb) (T : Fr) (tmps : Array Value) : Prop := ∀ i, i < tmps.size → VRel ι (getT T i) (tmps.getD i undef)
theorem FrRel.mono {ι κ : Emb} (hi : ι.le κ) {T : Fr} {tmps : Array Value} (h : FrRel ι T tmps) : FrRel κ T tmps := fun i hl => (h i hl).mono hi

theorem getT_setT (T : Fr) (v : Value) (i j : Nat) : getT (setT T i v) j = if i = j then v else getT T j := by
  unfold getT setT
  cases h : Nat.beq j i with
  | true => have := Nat.eq_of_beq_eq_true h; simp [this]
  | false => have := Nat.ne_of_beq_eq_false h; simp [Ne.symm this]

def opdB (n : Nat) : Operand → Bool
  | .tmp t => decide (t < n)
  | _ => true
def dstB (n : Nat) : Option Tmp → Bool
  | some d => decide (d < n)
  | none => true

theorem FrRel.put {ι : Emb} {T : Fr} {a : Act} (h : FrRel ι T a.tmps) (d : Option Tmp) {v v' : Value} (hv : VRel ι v v') : FrRel ι (putT T d v) (a.put d v').tmps := by
  cases d with
  | none => exact h
  | some d =>
    intro i hi
    simp only [Act.put, Array.size_setIfInBounds] at hi
    simp only [putT, Act.put, getT_setT]
    by_cases hd : d = i
    · subst hd
      simp only [if_true]
      rw [show (a.tmps.setIfInBounds d v').getD d undef = v' by simp [Array.getD, hi]]
      exact hv
    · simp only [hd, if_false]
      rw [show (a.tmps.setIfInBounds d v').getD i undef = a.tmps.getD i undef by simp [Array.getD, hi, Array.getElem_setIfInBounds_ne, hd]]
      exact h i hi
theorem put_size (a : Act) (d : Option Tmp) (v : Value) : (a.put d v).tmps.size = a.tmps.size := by cases d <;> simp [Act.put]
theorem put_defers (a : Act) (d : Option Tmp) (v : Value) : (a.put d v).defers = a.defers := by cases d <;> simp [Act.put]

theorem opd_rel {ι : Emb} {T : Fr} {a : Act} {x : Operand} {v : Value} (h : opd T x = some v) (hf : FrRel ι T a.tmps) (hb : opdB a.tmps.size x = true) : VRel ι v (a.eval x) := by
  cases x with
  | tmp t =>
    simp only [opd, Option.some.injEq] at h
    subst h
    exact hf t (by simpa [opdB] using hb)
  | const u =>
    simp only [opd] at h
    split at h
    · rename_i hc; cases h; exact constOk_rel hc
    · cases h
  | global g => simp [opd] at h
  | func f => simp only [opd, Option.some.injEq] at h; subst h; exact .of0 (.func _)

theorem opds_rel {ι : Emb} {T : Fr} {a : Act} (hf : FrRel ι T a.tmps) : ∀ {l : List Operand} {vs : List Value}, opds T l = some vs → l.all (opdB a.tmps.size) = true → All2 (VRel ι) vs (l.map a.eval)
  | [], vs, h, _ => by simp [opds] at h; subst h; trivial
  | x :: l, vs, h, hb => by
    simp only [opds, Option.bind_eq_some_iff, Option.map_eq_some_iff] at h
    obtain ⟨v, hv, r, hr, rfl⟩ := h
    simp at hb
    exact ⟨opd_rel hv hf hb.1, opds_rel hf hr (by simpa using hb.2)⟩

/-! ### What an operation comes to -/
def OpOk (P : Program) (o : Oper) (a : Act) (w : World) (R : Value → World → Prop) : Prop :=
  (∃ v' w', (execOp a.eval o).run P w = .ok (.value v') w' ∧ R v' w') ∨
  (∃ w', (execOp a.eval o).run P w = .ok .skip w' ∧ R undef w') ∨
  (∃ f args, (execOp a.eval o).run P w = .ok (.enter f args) w ∧ Calls P f args w fun e w' => ∃ v', e = .returned v' ∧ R v' w')

/-- in whatever activation: of a function (none), or a round of a range over a function -/
def FR (X : Option Nat × Nat) : Fence := { Fence.wide with round := X.1 }
theorem callsR {X : Option Nat × Nat} {m : Nat} {P : Program} {f : FuncId} {args : Array Value} {w : World} {R : Ending → World → Prop} (h : Calls P f args w R) : CallsIn (FR X) m P f args w R := (callsIn_wide (n := m)).2 h
theorem OpOk.noDefer {P : Program} {o : Oper} {a : Act} {w : World} {R : Value → World → Prop} (h : OpOk P o a w R) : ∀ c, o.op ≠ .defer c := by
  intro c hc
  have key : ∀ r w', (execOp a.eval o).run P w = .ok r w' → ∃ d, r = .defer d := by
    intro r w' h
    unfold execOp at h
    rw [hc] at h
    simp only [Sem.run_bind] at h
    cases e : (resolve a.eval c o.type).run P w with
    | ok d w1 =>
      rw [e] at h
      simp only [Result.andThen] at h
      cases h
      exact ⟨d, rfl⟩
    | halt x w1 =>
      rw [e] at h
      cases h
  rcases h with ⟨v', w', h1, _⟩ | ⟨w', h1, _⟩ | ⟨f, args, h1, _⟩
  · obtain ⟨d, hd⟩ := key _ _ h1
    cases hd
  · obtain ⟨d, hd⟩ := key _ _ h1
    cases hd
  · obtain ⟨d, hd⟩ := key _ _ h1
    cases hd
theorem OpOk.wp {P : Program} {o : Oper} {a : Act} {w : World} {R : Value → World → Prop} (h : OpOk P o a w R) {X : Option Nat × Nat} {next : Act → World → Prop} {Q : Exit → Act → World → Prop}
    (hn : ∀ v' w', R v' w' → next (a.put o.dst v') w') : o.wpIn (FR X) X.2 P a w next Q := by
  have hd := h.noDefer
  unfold Oper.wpIn
  refine ⟨fun _ _ => trivial, ?_⟩
  rw [Oper.semAt_eq _ _ _ hd]
  rcases h with ⟨v', w', h1, h2⟩ | ⟨w', h1, h2⟩ | ⟨f, args, h1, h2⟩
  · rw [h1]; exact hn _ _ h2
  · rw [h1]; exact hn _ _ h2
  · rw [h1, Oper.uponIn_enter]
    refine ⟨fun hh => absurd hh (by simp [FR, Fence.wide]), ?_⟩
    exact callsR (h2.mono fun e w' ⟨v', he, hr⟩ => by subst he; exact hn _ _ hr)

/-- the state behind an operation -/
def After (wb : Nat) (ι : Emb) (H : List Blk) (w : World) (K : List Blk) (v v' : Value) (w' : World) : Prop :=
  ∃ κ, Sim wb κ K w' ∧ Step ι H w κ K w' ∧ VRel κ v v'

section runs
variable {P : Program} {w : World}
theorem run_typeInfo' {t : TypeId} {i : TypeInfo} (h : P.info? t = some i) : (typeInfo t).run P w = .ok i w := by
  simp [typeInfo, h]
theorem run_underlying' {t : TypeId} {d : TypeDesc} (h : P.underlying t = some d) : (underlying t).run P w = .ok d w := by
  simp [underlying, h]
theorem run_sizeOf' {t : TypeId} {n : Nat} (h : sizeT P t = some n) : (sizeOf t).run P w = .ok n w := by
  unfold sizeT at h
  cases e : P.info? t with
  | none => simp [e] at h
  | some i => simp [e] at h; subst h; simp [sizeOf, run_typeInfo' e]
theorem run_isAgg' {t : TypeId} {b : Bool} (h : aggT P t = some b) : (isAgg t).run P w = .ok b w := by
  unfold aggT at h
  cases e : P.underlying t with
  | none => simp [e] at h
  | some d => simp [e] at h; subst h; simp [isAgg, run_underlying' e]; cases d <;> rfl
theorem zeroT_info {t : TypeId} {z : Value} (h : zeroT P t = some z) : ∃ i, P.info? t = some i ∧ i.zero = some z ∧ constOk z = true := by
  unfold zeroT at h
  cases e : P.info? t with
  | none => simp [e] at h
  | some i =>
    cases e2 : i.zero with
    | none => simp [e, e2] at h
    | some u =>
      simp [e, e2] at h
      obtain ⟨hc, rfl⟩ := h
      exact ⟨i, rfl, e2, hc⟩
theorem run_zeroValue' {t : TypeId} {z : Value} (h : zeroT P t = some z) : (zeroValue t).run P w = .ok z w := by
  obtain ⟨i, h1, h2, _⟩ := zeroT_info h
  simp [zeroValue, run_typeInfo' h1, h2]
theorem run_pureRun {α : Type} {s : Sem α} {x : α} (h : pureRun P s = some x) : s.run P w = .ok x w := by
  induction s with
  | pure a => simp [pureRun] at h; subst h; rfl
  | program k ih => simp only [pureRun] at h; simp only [Sem.run]; exact ih P h
  | _ => simp [pureRun] at h
end runs

theorem cellsV_cells (v : Value) : v.cells.toList = cellsV v := by cases v <;> rfl

section ops
variable {P : Program} {o : Oper} {a : Act} {w : World} {wb : Nat} {ι : Emb} {H : List Blk}

theorem after_same (h : Sim wb ι H w) {v v' : Value} (hv : VRel ι v v') : After wb ι H w H v v' w := ⟨ι, h, .refl _ _ _ h.dom, hv⟩

theorem ok_value (h : Sim wb ι H w) {v v' : Value} (he : (execOp a.eval o).run P w = .ok (.value v') w) (hv : VRel ι v v') : OpOk P o a w (After wb ι H w H v) :=
  .inl ⟨v', w, he, after_same h hv⟩

/-- a new row -/
theorem after_new (h : Sim wb ι H w) {n : Nat} {cells : List Value} {cs : Array Value} {e : TypeId} (hc : All2 (L2 ι) cells cs.toList) {v' : Value} {f : Nat → Nat → Value}
    (hv : VRel (ι.add H.length ⟨w.heap.size, 0, n, cs.size⟩) (f H.length 0) v') : After wb ι H w (H ++ [.row n cells .act]) (f H.length 0) v' (w.alloc (.cells cs e)) := by
  have := h.push (n := n) (cells := cells) (cs := cs) (e := e) (fz := (0, 0)) (.inl rfl) (fun i v hi => by
    obtain ⟨v', hv', hr⟩ := hc.get i v hi
    exact ⟨v', by simpa using hv', hr⟩)
  exact ⟨_, this.1, this.2, hv⟩

theorem ptr_new (ι : Emb) (n : Nat) (l : Loc) (h : l.off = 0) : VRel (ι.add n l) (.pointer (some ⟨n, 0, none⟩)) (.pointer (some ⟨l.blk, 0, none⟩)) :=
  .of0 (by simpa [h] using L0.ptr (ι := ι.add n l) (b := n) (l := l) 0 (Emb.add_same _ _ _))
theorem slice_new (ι : Emb) (n : Nat) (l : Loc) (len cap cap' : Nat) (h : l.off = 0) (hl : len ≤ cap) (hc : cap ≤ cap') (hz : cap' * l.n ≤ l.z) : VRel (ι.add n l) (.slice (some ⟨n, 0, none⟩) len cap) (.slice (some ⟨l.blk, 0, none⟩) len cap') :=
  .of0 (by simpa [h] using L0.slice (ι := ι.add n l) (b := n) (l := l) 0 (Emb.add_same _ _ _) hl hc (by rw [h]; simpa using hz))
end ops
end Go.Proofs.Ytamaapapaiopiaa.Ab
