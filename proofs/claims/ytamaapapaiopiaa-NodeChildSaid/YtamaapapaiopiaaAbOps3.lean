/- The abstract machine against the model: the operations one by one (second part). -/
import Derived.Test.YtamaapapaiopiaaAbOps2
import Derived.Laws.Append
import Derived.Laws.Slices
set_option linter.unusedVariables false
set_option linter.unusedSimpArgs false
set_option linter.unusedSectionVars false
namespace Go.Proofs.Ytamaapapaiopiaa.Ab
open Go

section
variable {P : Program} {o : Oper} {a : Act} {w : World} {wb : Nat} {ι : Emb} {H : List Blk}

theorem repCells_length (z : List Value) (n : Nat) : (repCells z n).length = n * z.length := by
  induction n with
  | zero => simp [repCells]
  | succ n ih => simp [repCells, ih, Nat.succ_mul]; omega
theorem repCells_get (z : List Value) (n i : Nat) (h : i < n * z.length) : (repCells z n)[i]? = z[i % z.length]? := by
  induction n generalizing i with
  | zero => simp at h
  | succ n ih =>
    rw [repCells]
    rw [Nat.succ_mul] at h
    by_cases hi : i < z.length
    · rw [List.getElem?_append_left hi, Nat.mod_eq_of_lt hi]
    · rw [List.getElem?_append_right (by omega), ih _ (by omega)]
      congr 1
      rw [← Nat.mod_eq_sub_mod (by omega)]
theorem range_rep (z : Array Value) (n : Nat) : ((Array.range (n * z.size)).map (z[· % z.size]!)).toList = repCells z.toList n := by
  apply List.ext_getElem?
  intro i
  by_cases hi : i < n * z.size
  · rw [repCells_get _ _ _ (by simpa using hi)]
    have hz : 0 < z.size := by rcases Nat.eq_zero_or_pos z.size with h0 | h0
                               · rw [h0] at hi; omega
                               · exact h0
    have hm : i % z.size < z.size := Nat.mod_lt _ hz
    simp [hi, hm]
  · have h1 : ((Array.range (n * z.size)).map (z[· % z.size]!)).toList.length = n * z.size := by simp
    rw [List.getElem?_eq_none (by omega), List.getElem?_eq_none (by rw [repCells_length]; simp; omega)]
theorem repCells_rel {l m : List Value} (h : All2 (L2 ι) l m) : ∀ n, All2 (L2 ι) (repCells l n) (repCells m n)
  | 0 => trivial
  | n + 1 => h.append (repCells_rel h n)

theorem afill_length {place : Nat → Option (Nat × Nat)} : ∀ {ps : List (Nat × Value)} {l r : List Value}, afill place l ps = some r → r.length = l.length
  | [], l, r, h => by simp [afill] at h; rw [h]
  | (i, v) :: ps, l, r, h => by
    simp only [afill] at h
    split at h
    · cases h
    · split at h
      · rename_i hc
        rw [afill_length h, putCells_length _ _ _ (by omega)]
      · cases h

theorem so_buildSlice {t e : TypeId} {len n : Nat} {parts : Array (Nat × Operand)} {T : Fr} {ps : List (Nat × Value)} {z : Value} {cs : List Value} (ho : o.op = .buildSlice t len parts) (h : Sim wb ι H w)
    (hf : FrRel ι T a.tmps) (hb : (parts.toList.all fun x => opdB a.tmps.size x.2) = true) (hps : opdParts T parts.toList = some ps) (hu : P.underlying t = some (.slice e)) (hn : sizeT P e = some n) (hz : zeroT P e = some z)
    (hl : len * n ≤ 16777216) (hzn : (cellsV z).length = n) (hc : afill (placeA n) (repCells (cellsV z) len) ps = some cs) :
    OpOk P o a w (After wb ι H w (H ++ [.row n cs .act]) (.slice (some ⟨H.length, 0, none⟩) len len)) := by
  obtain ⟨i, _, _, hzc⟩ := zeroT_info hz
  have hzs : z.cells.size = n := by rw [← hzn, ← cellsV_cells]; simp
  have hrep : All2 (L2 ι) (repCells (cellsV z) len) ((Array.range (len * n)).map (z.cells[· % z.cells.size]!)).toList := by
    have := range_rep z.cells len
    rw [hzs] at this
    rw [hzs, this]
    exact repCells_rel (constOk_cells hzc) len
  obtain ⟨cs', h1, h2⟩ := fill_rel (opdParts_rel hf hps hb) hrep hc
  have hfit : len * n ≤ cs'.size := by
    have e1 := h2.length
    have e2 := afill_length hc
    rw [repCells_length, hzn] at e2
    simp at e1
    omega
  refine .inl ⟨.slice (some ⟨w.heap.size, 0, none⟩) len len, w.alloc (.cells cs' e), ?_, ?_⟩
  · have hl' : ¬ (16777216 < len * n) := by omega
    have h1' : Instr.fill (fun i => some (i * n, n)) ((Array.range (len * n)).map (z.cells[· % z.cells.size]!)) (parts.toList.map fun x => (x.1, a.eval x.2)) = some cs' := h1
    by_cases h0 : len * n = 0
    · have h1'' : Instr.fill (fun i => some (i * n, n)) (#[] : Array Value) (parts.toList.map fun x => (x.1, a.eval x.2)) = some cs' := by
        rw [← h1', h0, Array.range_zero']; simp
      simp only [execOp, ho, Instr.buildSlice, Sem.run_bind, run_underlying' hu, run_sizeOf' hn, Result.andThen_ok, h0]
      rw [Array.range_zero']
      simp [h1'', newRow]
    · simp only [execOp, ho, Instr.buildSlice, Sem.run_bind, run_underlying' hu, run_sizeOf' hn, Result.andThen_ok, h0, if_false]
      simp [hl', h1', newRow, run_zeroValue' hz]
  · exact after_new (f := fun n m => .slice (some ⟨n, m, none⟩) len len) h h2 (slice_new _ _ _ _ _ _ rfl (Nat.le_refl _) (Nat.le_refl _) hfit)

theorem so_nilCheck_ptr {x : Operand} {ad : Addr} (ho : o.op = .nilCheck x) (h : Sim wb ι H w) (hv : VRel ι (.pointer (some ad)) (a.eval x)) : OpOk P o a w (After wb ι H w H (.pointer (some ad))) := by
  refine ok_value h (v' := a.eval x) ?_ hv
  obtain ⟨b, off, sp⟩ := ad
  obtain ⟨_, lc, _, he⟩ := hv.inv_ptr
  simp [execOp, ho, he]
theorem so_nilCheck_func {x : Operand} {f : FuncId} {b c : Array Value} (ho : o.op = .nilCheck x) (h : Sim wb ι H w) (hv : VRel ι (.func (.func f) b c) (a.eval x)) : OpOk P o a w (After wb ι H w H (.func (.func f) b c)) := by
  refine ok_value h (v' := a.eval x) ?_ hv
  obtain ⟨b', c', he, _, _⟩ := hv.inv_func
  simp [execOp, ho, he]

/-! ### Operators -/
theorem const_eq {v v' : Value} (hc : leafOk v = true) (h : L2 ι v v') : v' = v := by
  cases h with
  | l1 h => cases h with
    | l0 h => cases h <;> first | rfl | (simp [leafOk] at hc)
    | func fn ha hb =>
      simp [leafOk] at hc
      obtain ⟨rfl, rfl⟩ := hc
      rename_i a' b'
      have h1 : a' = #[] := by
        have := ha.length
        simp at this
        exact Array.eq_empty_of_size_eq_zero this.symm
      have h2 : b' = #[] := by
        have := hb.length
        simp at this
        exact Array.eq_empty_of_size_eq_zero this.symm
      rw [h1, h2]
  | iface => simp [leafOk] at hc
  | ifaceAgg => simp [leafOk] at hc
theorem consts_eq : ∀ {l m : List Value}, l.all leafOk = true → All2 (L2 ι) l m → m = l
  | [], [], _, _ => rfl
  | v :: l, v' :: m, hc, ⟨h1, h2⟩ => by
    simp at hc
    rw [const_eq hc.1 h1, consts_eq (by simpa using hc.2) h2]
theorem const_eqV {v v' : Value} (hc : constOk v = true) (h : VRel ι v v') : v' = v := by
  cases h with
  | va h => cases h with
    | l2 h =>
      refine const_eq ?_ h
      cases v <;> simp_all [constOk, leafOk]
      rename_i cs
      cases h with
      | l1 h => cases h with
        | l0 h => cases h
    | agg h =>
      rename_i a1 a2
      have := consts_eq hc h
      rw [Array.toList_inj.1 this]
  | tuple h => simp [constOk, leafOk] at hc
  | poison => simp [constOk, leafOk] at hc

theorem VRel.not_float {ι : Emb} {v v' : Value} (h : VRel ι v v') (hn : ∀ q, v ≠ .tuple q) : (∀ k n, v' ≠ .float k n) ∧ (∀ k n m, v' ≠ .complex k n m) := by
  cases h with
  | poison => exact absurd rfl (hn _)
  | tuple => exact absurd rfl (hn _)
  | va hx => constructor <;> (intros; intro he; subst he; cases hx with | l2 hx => cases hx with | l1 hx => cases hx with | l0 hx => cases hx)

theorem eqSmall_not_tuple {d : TypeDesc} {q : Array Value} {v : Value} : eqSmall d (.tuple q) v = none := by
  unfold eqSmall
  split <;> first | rfl | (rename_i h; cases h)
theorem abin_not_tuple {P : Program} {op : BinOp} {t : TypeId} {ox oy : Operand} {u v r : Value} (h : abin P op t ox oy u v = some r) : ∀ q, u ≠ .tuple q := by
  intro q hq
  subst hq
  simp only [abin, Option.bind_eq_some_iff, eqSmall_not_tuple] at h
  obtain ⟨d, _, h⟩ := h
  split at h <;> simp at h

theorem pure_ok {α : Type} (x : α) : pureRun P (Pure.pure x : Sem α) = some x := rfl

theorem run_intBin {op : BinOp} {t : TypeId} {k k' : IntKind} {x y : Int} {v : Value} (h : intBin op k x k' y = some v) : (binOp op t (.int k x) (.int k' y)).run P w = .ok v w := by
  cases op <;> simp only [intBin] at h <;> simp only [binOp]
  case shl | shr =>
    split at h
    · cases h
    · rename_i hy; cases h; simp [Op.shift, hy]
  case quo | rem =>
    split at h
    · rename_i hk
      split at h
      · cases h
      · rename_i h0; cases h; simp [hk, Op.intDiv, h0]
    · cases h
  all_goals
    split at h
    · rename_i hk
      cases h
      simp [hk, Op.intArith, Op.intBits, Op.intCmp]
    · cases h

theorem run_strBin {op : BinOp} {t : TypeId} {x y : ByteArray} {v : Value} (h : strBin op x y = some v) : (binOp op t (.string x) (.string y)).run P w = .ok v w := by
  cases op <;> simp only [strBin] at h <;> simp only [binOp, Op.stringOp]
  case add =>
    split at h
    · rename_i hl
      cases h
      rw [if_neg (by simp [IntKind.max, IntKind.signed, IntKind.bits]; omega)]
      rfl
    · cases h
  all_goals first | (cases h; rfl) | cases h

theorem eqGuard_skip {op : BinOp} {t : TypeId} {x y : Operand} {u v : Value} (h1 : u ≠ .nilIface ∨ v ≠ .nilIface) (h2 : ∀ cs, u ≠ .agg cs) : (eqGuard op t x y u v).run P w = .ok () w := by
  have key : ((match (generalizing := false) u, v with
    | .nilIface, .nilIface =>
      if (x matches .const _) || (y matches .const _) then pure () else do
      if ← Op.eqGuardIn Op.maxDepth t u v then unsupported (.noEntry "binop/eql: two nil values of an interface type with methods, neither of them the literal nil")
    | .agg _, .agg _ => do
      if !(← program).eqGuardType (← program).depth t then pure () else
      if ← Op.eqGuardIn Op.maxDepth t u v then unsupported (.noEntry "binop/eql: two nil values of an interface type with methods, in a part of a struct or an array")
    | _, _ => pure () : Sem Unit)).run P w = .ok () w := by
    split
    · simp at h1
    · exact absurd rfl (h2 _)
    · rfl
  cases op <;> first | rfl | exact key

theorem run_eqSmall {t : TypeId} {d : TypeDesc} {u v u' v' : Value} {b : Bool} (hd : P.underlying t = some d) (hx : VRel ι u u') (hy : VRel ι v v') (h : eqSmall d u v = some b) (n : Nat) :
    (Op.equalIn (n + 1) t u' v').run P w = .ok b w ∧ (u' ≠ .nilIface ∨ v' ≠ .nilIface) ∧ (∀ cs, u' ≠ .agg cs) ∧ (∀ k n, u' ≠ .int k n) ∧ (∀ s, u' ≠ .string s) := by
  have hu := run_underlying' (w := w) hd
  unfold eqSmall at h
  split at h
  · cases hx.inv_bool; cases hy.inv_bool; cases h; exact ⟨by simp [Op.equalIn, hu], by simp, by simp, by simp, by simp⟩
  · rename_i bb
    cases hx.inv_pnil
    cases bb with
    | none => cases hy.inv_pnil; cases h; exact ⟨by simp [Op.equalIn, hu], by simp, by simp, by simp, by simp⟩
    | some c => obtain ⟨c1, c2, c3⟩ := c; obtain ⟨_, _, _, rfl⟩ := hy.inv_ptr; cases h; exact ⟨by simp [Op.equalIn, hu], by simp, by simp, by simp, by simp⟩
  · rename_i c
    obtain ⟨c1, c2, c3⟩ := c
    obtain ⟨_, _, _, rfl⟩ := hx.inv_ptr
    cases hy.inv_pnil; cases h; exact ⟨by simp [Op.equalIn, hu], by simp, by simp, by simp, by simp⟩
  · rename_i n1 m1 bb n' m'
    obtain ⟨_, _, rfl⟩ := hx.inv_snil
    cases bb with
    | none => obtain ⟨_, _, rfl⟩ := hy.inv_snil; cases h; exact ⟨by simp [Op.equalIn, hu], by simp, by simp, by simp, by simp⟩
    | some c =>
      rcases hy.inv_slice with ⟨_, _, _, _, _, _, _, rfl⟩ | ⟨_, _, _, rfl⟩ <;> (cases h; exact ⟨by simp [Op.equalIn, hu], by simp, by simp, by simp, by simp⟩)
  · obtain ⟨_, _, rfl⟩ := hy.inv_snil
    rcases hx.inv_slice with ⟨_, _, _, _, _, _, _, rfl⟩ | ⟨_, _, _, rfl⟩ <;> (cases h; exact ⟨by simp [Op.equalIn, hu], by simp, by simp, by simp, by simp⟩)
  · rename_i bb
    cases hx.inv_mnil
    cases bb with
    | none => cases hy.inv_mnil; cases h; exact ⟨by simp [Op.equalIn, hu], by simp, by simp, by simp, by simp⟩
    | some c => obtain ⟨_, _, rfl⟩ := hy.inv_map; cases h; exact ⟨by simp [Op.equalIn, hu], by simp, by simp, by simp, by simp⟩
  · obtain ⟨_, _, rfl⟩ := hx.inv_map
    cases hy.inv_mnil; cases h; exact ⟨by simp [Op.equalIn, hu], by simp, by simp, by simp, by simp⟩
  · cases hx.inv_nilFunc; cases hy.inv_nilFunc; cases h; exact ⟨by simp [Op.equalIn, hu], by simp, by simp, by simp, by simp⟩
  · cases hx.inv_nilFunc; obtain ⟨_, _, rfl, _, _⟩ := hy.inv_func; cases h; exact ⟨by simp [Op.equalIn, hu], by simp, by simp, by simp, by simp⟩
  · cases hy.inv_nilFunc; obtain ⟨_, _, rfl, _, _⟩ := hx.inv_func; cases h; exact ⟨by simp [Op.equalIn, hu], by simp, by simp, by simp, by simp⟩
  · cases hy.inv_nilIface; obtain ⟨_, rfl⟩ := hx.inv_iface; cases h; exact ⟨by simp [Op.equalIn, hu], by simp, by simp, by simp, by simp⟩
  · cases hx.inv_nilIface; obtain ⟨_, rfl⟩ := hy.inv_iface; cases h; exact ⟨by simp [Op.equalIn, hu], by simp, by simp, by simp, by simp⟩
  · cases h

theorem binOp_eql_small {t : TypeId} {u v : Value} (hg : (∀ k n, u ≠ .int k n)) (hs : ∀ s, u ≠ .string s) (hf : ∀ k n, u ≠ .float k n) (hc : ∀ k n m, u ≠ .complex k n m) :
    binOp .eql t u v = (do pure (.bool (← Op.equal t u v))) ∧ binOp .neq t u v = (do pure (.bool (!(← Op.equal t u v)))) := by
  constructor <;> (cases u <;> first | rfl | exact absurd rfl (hg _ _) | exact absurd rfl (hs _) | exact absurd rfl (hf _ _) | exact absurd rfl (hc _ _ _))

theorem so_binOp {op : BinOp} {t yt : TypeId} {x y : Operand} {u v r : Value} (ho : o.op = .binOp op t x y yt) (h : Sim wb ι H w) (hx : VRel ι u (a.eval x)) (hy : VRel ι v (a.eval y))
    (hr : abin P op t x y u v = some r) : OpOk P o a w (After wb ι H w H r) := by
  have hr0 := hr
  unfold abin at hr
  split at hr
  · rename_i k n k' m
    have e1 := hx.inv_int
    have e2 := hy.inv_int
    have hrun := run_intBin (P := P) (w := w) (t := t) hr
    have hg := eqGuard_skip (P := P) (w := w) (op := op) (t := t) (x := x) (y := y) (u := .int k n) (v := .int k' m) (.inl (by simp)) (by simp)
    refine ok_value h (v' := r) ?_ ?_
    · simp [execOp, ho, e1, e2, hg, hrun]
    · have : ∃ b, r = .bool b ∨ ∃ q z, r = .int q z := by
        cases op <;> simp only [intBin] at hr <;> (repeat' split at hr) <;> first | (cases hr; exact ⟨false, .inr ⟨_, _, rfl⟩⟩) | (cases hr; exact ⟨_, .inl rfl⟩) | cases hr
      obtain ⟨b, rfl | ⟨q, z, rfl⟩⟩ := this
      · exact .of0 (.bool _)
      · exact .of0 (.int _ _)
  · rename_i n m
    have e1 := hx.inv_string
    have e2 := hy.inv_string
    have hrun := run_strBin (P := P) (w := w) (t := t) hr
    have hg := eqGuard_skip (P := P) (w := w) (op := op) (t := t) (x := x) (y := y) (u := .string n) (v := .string m) (.inl (by simp)) (by simp)
    refine ok_value h (v' := r) ?_ ?_
    · simp [execOp, ho, e1, e2, hg, hrun]
    · have : ∃ b, r = .bool b ∨ ∃ z, r = .string z := by
        cases op <;> simp only [strBin] at hr <;> (repeat' split at hr) <;> first | (cases hr; exact ⟨false, .inr ⟨_, rfl⟩⟩) | (cases hr; exact ⟨_, .inl rfl⟩) | cases hr
      obtain ⟨b, rfl | ⟨z, rfl⟩⟩ := this
      · exact .of0 (.bool _)
      · exact .of0 (.string _)
  · rename_i xs ys
    unfold aggBin at hr
    split at hr
    case isFalse => cases hr
    rename_i hc
    simp at hc
    have e1 := const_eqV hc.1 hx
    have e2 := const_eqV hc.2 hy
    split at hr
    · rename_i b hb
      cases hr
      have hrun := run_pureRun (P := P) (w := w) hb
      refine ok_value h (v' := .bool b) ?_ (.of0 (.bool b))
      have hrun' : ((eqGuard op t x y (.agg xs) (.agg ys)).run P w).andThen (fun _ w' => (binOp op t (.agg xs) (.agg ys)).run P w') = .ok (.bool b) w := by
        rw [← hrun, Sem.run_bind]
      simp only [execOp, ho, e1, e2, Sem.run_bind, hrun', Result.andThen_ok]
      rfl
    · cases hr
  · rename_i u v _ _ _
    simp only [Option.bind_eq_some_iff] at hr
    obtain ⟨d, hd, hr⟩ := hr
    have hnf := hx.not_float (abin_not_tuple hr0)
    split at hr
    · simp only [Option.map_eq_some_iff] at hr
      obtain ⟨b, hb, rfl⟩ := hr
      obtain ⟨h1, h2, h3, h4, h5⟩ := run_eqSmall (w := w) hd hx hy hb 9999
      obtain ⟨h6, h7⟩ := hnf
      replace h1 : (Op.equal t (a.eval x) (a.eval y)).run P w = .ok b w := h1
      have hg := eqGuard_skip (P := P) (w := w) (op := .eql) (t := t) (x := x) (y := y) h2 h3
      refine ok_value h (v' := .bool b) ?_ (.of0 (.bool b))
      simp [execOp, ho, hg, (binOp_eql_small (t := t) (v := a.eval y) h4 h5 h6 h7).1, h1]
    · simp only [Option.map_eq_some_iff] at hr
      obtain ⟨b, hb, rfl⟩ := hr
      obtain ⟨h1, h2, h3, h4, h5⟩ := run_eqSmall (w := w) hd hx hy hb 9999
      obtain ⟨h6, h7⟩ := hnf
      replace h1 : (Op.equal t (a.eval x) (a.eval y)).run P w = .ok b w := h1
      have hg := eqGuard_skip (P := P) (w := w) (op := .neq) (t := t) (x := x) (y := y) h2 h3
      refine ok_value h (v' := .bool (!b)) ?_ (.of0 (.bool _))
      simp [execOp, ho, hg, (binOp_eql_small (t := t) (v := a.eval y) h4 h5 h6 h7).2, h1]
    · cases hr
end
end Go.Proofs.Ytamaapapaiopiaa.Ab
