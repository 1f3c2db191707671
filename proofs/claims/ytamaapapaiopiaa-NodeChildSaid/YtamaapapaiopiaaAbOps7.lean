/- The abstract machine against the model: the other builtins, calls; one operation whole. -/
import Derived.Test.YtamaapapaiopiaaAbOps6
import Derived.Lib.AppendZerosOnto
set_option linter.unusedVariables false
set_option linter.unusedSimpArgs false
set_option linter.unusedSectionVars false
namespace Go.Proofs.Ytamaapapaiopiaa.Ab
open Go

section
variable {P : Program} {o : Oper} {a : Act} {w : World} {wb : Nat} {ι : Emb} {H : List Blk}

theorem so_copy {c : Call} {t u e : TypeId} {x y : Operand} {n : Nat} {vx vy r : Value} {s s' : St} (ho : o.op = .call c) (hc : c.callee = .builtin .copy) (hargs : c.args = #[x, y]) (hts : c.argTypes = #[t, u])
    (h : Sim wb ι s.heap w) (ht : P.underlying t = some (.slice e)) (hn : sizeT P e = some n)
    (hx : VRel ι vx (a.eval x)) (hy : VRel ι vy (a.eval y)) (hr : acopy n vx vy s = some (r, s')) : OpOk P o a w (After wb ι s.heap w s'.heap r) := by
  have hexec : ∀ {v : Value} {w' : World}, (Builtin.copy_ #[t, u] o.type #[a.eval x, a.eval y]).run P w = .ok v w' → (execOp a.eval o).run P w = .ok (.value v) w' := by
    intro v w' hrun
    simp [execOp, ho, resolve, hc, hargs, hts, invoke, builtin, hrun]
  unfold acopy at hr
  simp only [Option.bind_eq_some_iff] at hr
  obtain ⟨m, hm, new, hnew, hr⟩ := hr
  obtain ⟨hlen, hnl, hsrc⟩ := src_rel (P := P) h hy hm hnew
  split at hr
  · rename_i c0
    obtain ⟨_, hc0, ex⟩ := hx.inv_snil
    cases hr
    obtain ⟨new', hn1, hn2⟩ := hsrc 0 (Nat.zero_le _)
    refine .inl ⟨.int .i64 0, w, hexec ?_, after_same h (.of0 (.int _ _))⟩
    rw [ex]
    simp [Builtin.copy_, run_underlying' ht, run_sizeOf' hn, hlen, hn2 w rfl, goInt]
  · rename_i b0 off len cap
    obtain ⟨new', hn1, hn2⟩ := hsrc (min m len) (Nat.min_le_left _ _)
    split at hr
    · rename_i h0
      cases hr
      have hne : new'.toList = [] := by
        have : new'.toList.length = 0 := by rw [← hn1.length, h0]; simp
        exact List.length_eq_zero_iff.1 this
      refine .inl ⟨.int .i64 0, w, hexec ?_, after_same h (.of0 (.int _ _))⟩
      have hn2' := hn2 w rfl
      rw [h0] at hn2'
      rcases hx.inv_slice with ⟨lc, m', _, _, _, _, _, ex⟩ | ⟨rfl, rfl, a', ex⟩
      · rw [ex]
        have h0' : Nat.min m len = 0 := h0
        simp [Builtin.copy_, run_underlying' ht, run_sizeOf' hn, hlen, h0', hn2', hne, storeCells, goInt]
      · rw [ex]
        have h0' : Nat.min m 0 = 0 := h0
        simp [Builtin.copy_, run_underlying' ht, run_sizeOf' hn, hlen, h0', hn2', hne, storeCells, goInt]
    · rename_i h0
      simp only [Option.map_eq_some_iff] at hr
      obtain ⟨s2, hs2, hr⟩ := hr
      cases hr
      unfold writeN at hs2
      split at hs2
      case h_2 => cases hs2
      rename_i n0 cells hcells
      split at hs2
      case isFalse => cases hs2
      rename_i hle
      cases hs2
      rcases hx.inv_slice with ⟨lc, m', _, hb0, _, _, _, ex⟩ | ⟨rfl, rfl, a', ex⟩
      · obtain ⟨w', g1, g2, g3, _⟩ := h.write (P := P) hcells hb0 hle hn1
        refine .inl ⟨.int .i64 (min m len : Nat), w', hexec ?_, ι, g2, g3, .of0 (.int _ _)⟩
        rw [ex]
        have e1 : Nat.min m len = min m len := rfl
        simp [Builtin.copy_, run_underlying' ht, run_sizeOf' hn, hlen, e1, hn2 w rfl, g1, goInt]
      · simp at h0
  · cases hr

theorem range_rep' (z : Array Value) (k : Nat) : (Builtin.zeroCells z k).toList = repCells z.toList k := by
  have h1 : (Builtin.zeroCells z k).toList.length = k * z.size := by
    rw [Array.length_toList]
    simp [Builtin.zeroCells]
  have h2 : (repCells z.toList k).length = k * z.size := by rw [repCells_length, Array.length_toList]
  apply List.ext_getElem?
  intro i
  by_cases hi : i < k * z.size
  · rw [repCells_get z.toList k i (by simpa using hi)]
    simp only [Builtin.zeroCells, Array.toList_map, List.getElem?_map, Array.toList_range]
    rw [List.getElem?_range hi]
    have : i % z.size < z.size := Nat.mod_lt _ (by
      rcases Nat.eq_zero_or_pos z.size with h | h
      · rw [h] at hi; simp at hi
      · exact h)
    simp [this]
  · rw [List.getElem?_eq_none (by omega), List.getElem?_eq_none (by omega)]

/-- 'append' of zeros to nothing -/
theorem so_appendZ {c : Call} {t u e : TypeId} {x y : Operand} {n b : Nat} {kn : IntKind} {z vx vy r : Value} {s s' : St} (ho : o.op = .call c) (hc : c.callee = .builtin .append) (hargs : c.args = #[x, y]) (hts : c.argTypes = #[t, u])
    (h : Sim wb ι s.heap w) (ht : P.underlying t = some (.slice e)) (hu : P.underlying u = some (.int kn)) (hn : sizeT P e = some n) (hb : bytesT P e = some b) (hz : zeroT P e = some z)
    (hx : VRel ι vx (a.eval x)) (hy : VRel ι vy (a.eval y)) (hr : aappendZ n b (cellsV z) vx vy s = some (r, s')) : OpOk P o a w (After wb ι s.heap w s'.heap r) := by
  have hexec : ∀ {v : Value} {w' : World}, (Builtin.append_ #[t, u] o.type #[a.eval x, a.eval y]).run P w = .ok v w' → (execOp a.eval o).run P w = .ok (.value v) w' := by
    intro v w' hrun
    simp [execOp, ho, resolve, hc, hargs, hts, invoke, builtin, hrun]
  obtain ⟨i, hi, hiz, hzc⟩ := zeroT_info hz
  have hin : i.size = n := by simp [sizeT, hi] at hn; exact hn
  have hib : i.bytes = b := by simp [bytesT, hi] at hb; exact hb
  unfold aappendZ at hr
  split at hr
  · rename_i k m
    split at hr
    case isFalse => cases hr
    rename_i hcond
    obtain ⟨h0, h1, h2, h3, h4, h5⟩ := hcond
    cases hr
    have ex := (hx.inv_snil).2.2
    have ey := hy.inv_int
    obtain ⟨q, rfl⟩ := Int.eq_ofNat_of_zero_le (show 0 ≤ m by omega)
    simp only [Int.toNat_natCast] at h1 ⊢
    have hq : 0 < q := by omega
    have hq2 : q ≤ 140737488355328 := Nat.le_trans (Nat.le_mul_of_pos_right q h2) h1
    have hrun := Lib.run_append_grow_zeros (P := P) w t u o.type e i z k kn ht hu hi hiz none 0 0 [] rfl q hq (by omega) (by omega) (by omega) (by rw [hib]; omega) (by rw [hib, Nat.zero_add]; exact growslice_fits (bytes := b) hq h1)
    simp only [Nat.zero_add] at hrun
    refine .inl ⟨_, _, hexec (by rw [ex, ey]; exact hrun), ?_⟩
    have hzs : z.cells.size = n := by rw [← h4, ← cellsV_cells]; simp
    have hcap : q ≤ grownCap w q 0 e := by simp [grownCap, Question.cut]
    have hp := (h.congr (v := w.drew) rfl).push (n := n) (cells := repCells (cellsV z) q) (cs := ([] : List Value).toArray ++ Builtin.zeroCells z.cells q ++ Builtin.zeroCells z.cells (grownCap w q 0 e - q)) (e := e) (fz := (0, 0)) (.inl rfl) (fun i v hi => by
      have hm : All2 (L2 ι) (repCells (cellsV z) q) (repCells z.cells.toList q) := repCells_rel (constOk_cells hzc) _
      obtain ⟨v', hv', hr⟩ := hm.get i v hi
      have hlt := (List.getElem?_eq_some_iff.1 hv').1
      refine ⟨v', ?_, hr⟩
      rw [← range_rep'] at hlt hv'
      rw [Array.getElem?_append_left (by simpa using hlt)]
      simpa using hv')
    refine ⟨_, hp.1, (Step.drew h.dom).trans hp.2, slice_new _ _ _ _ _ _ rfl (Nat.le_refl _) hcap ?_⟩
    simp only [Array.size_append, Builtin.zeroCells, Array.size_map, Array.size_range, hzs, List.size_toArray, List.length_nil]
    rw [Nat.sub_mul]
    have h7 : q * n ≤ grownCap w q 0 e * n := Nat.mul_le_mul_right n hcap
    omega
  · cases hr
/-- 'cap' of nothing -/
theorem so_cap {c : Call} {ts : Array TypeId} {t e : TypeId} {x : Operand} {vx r : Value} {s : St} (ho : o.op = .call c) (hc : c.callee = .builtin .cap) (hargs : c.args = #[x]) (hts : c.argTypes = ts) (hts0 : ts[0]? = some t)
    (h : Sim wb ι s.heap w) (ht : P.underlying t = some (.slice e)) (hx : VRel ι vx (a.eval x)) (hr : acap vx = some r) : OpOk P o a w (After wb ι s.heap w s.heap r) := by
  have hexec : ∀ {v : Value} {w' : World}, (Builtin.cap_ ts o.type #[a.eval x]).run P w = .ok v w' → (execOp a.eval o).run P w = .ok (.value v) w' := by
    intro v w' hrun
    simp [execOp, ho, resolve, hc, hargs, hts, invoke, builtin, hrun]
  unfold acap at hr
  split at hr
  · cases hr
    have ex := (hx.inv_snil).2.2
    refine .inl ⟨.int .i64 0, w, hexec ?_, after_same h (.of0 (.int _ _))⟩
    rw [ex]
    simp [Builtin.cap_, hts0, run_underlying' ht, goInt]
  · cases hr

theorem so_len {c : Call} {ts : Array TypeId} {t : TypeId} {d : TypeDesc} {x : Operand} {vx r : Value} {s : St} (ho : o.op = .call c) (hc : c.callee = .builtin .len) (hargs : c.args = #[x]) (hts : c.argTypes = ts) (hts0 : ts[0]? = some t)
    (h : Sim wb ι s.heap w) (ht : P.underlying t = some d) (hd : d = .string ∨ (∃ e, d = .slice e) ∨ ∃ k e, d = .map k e) (hty : lenFits d vx = false → False)
    (hx : VRel ι vx (a.eval x)) (hr : alen vx s = some r) : OpOk P o a w (After wb ι s.heap w s.heap r) := by
  have hexec : ∀ {v : Value} {w' : World}, (Builtin.len_ ts o.type #[a.eval x]).run P w = .ok v w' → (execOp a.eval o).run P w = .ok (.value v) w' := by
    intro v w' hrun
    simp [execOp, ho, resolve, hc, hargs, hts, invoke, builtin, hrun]
  have hd3 : ∀ (w2 : World), (underlying t).run P w2 = .ok d w2 := fun _ => run_underlying' ht
  have h0 : ts[0]? = some t := hts0
  unfold alen at hr
  split at hr
  · have ex := hx.inv_string
    cases hr
    rename_i st
    rcases hd with rfl | ⟨e, rfl⟩ | ⟨k, e, rfl⟩
    · refine .inl ⟨.int .i64 st.size, w, hexec ?_, after_same h (.of0 (.int _ _))⟩
      rw [ex]
      simp [Builtin.len_, h0, hd3, goInt]
    all_goals cases hty rfl
  · rename_i ad len cap
    cases hr
    rcases hd with rfl | ⟨e, rfl⟩ | ⟨k, e, rfl⟩
    · cases hty rfl
    · refine .inl ⟨.int .i64 len, w, hexec ?_, after_same h (.of0 (.int _ _))⟩
      cases ad with
      | none => obtain ⟨rfl, rfl, ex⟩ := hx.inv_snil; rw [ex]; simp [Builtin.len_, h0, hd3, goInt]
      | some ad => rcases hx.inv_slice with ⟨_, _, _, _, _, _, _, ex⟩ | ⟨rfl, rfl, _, ex⟩ <;> (rw [ex]; simp [Builtin.len_, h0, hd3, goInt])
    · cases hty rfl
  · cases hr
    rcases hd with rfl | ⟨e, rfl⟩ | ⟨k, e, rfl⟩
    · cases hty rfl
    · cases hty rfl
    · have ex := hx.inv_mnil
      refine .inl ⟨.int .i64 0, w, hexec ?_, after_same h (.of0 (.int _ _))⟩
      rw [ex]
      simp [Builtin.len_, h0, hd3, goInt]
  · rename_i r0
    split at hr
    · rename_i es clock hes
      cases hr
      rcases hd with rfl | ⟨e, rfl⟩ | ⟨k, e, rfl⟩
      · cases hty rfl
      · cases hty rfl
      · obtain ⟨l, hl, ex⟩ := hx.inv_map
        obtain ⟨_, _, es', hw, hrel⟩ := h.map _ _ _ hes l hl
        have hsz := hrel.length
        refine .inl ⟨.int .i64 es.length, w, hexec ?_, after_same h (.of0 (.int _ _))⟩
        rw [ex]
        have hg : (getObj l.blk).run P w = .ok (.map es' clock) w := by
          unfold getObj
          simp only [Sem.run, hw]
        simp at hsz
        simp [Builtin.len_, h0, hd3, goInt, hg, hsz]
    · cases hr
  · cases hr

theorem so_lenArr {c : Call} {ts : Array TypeId} {t u e : TypeId} {n : Nat} {x : Operand} (ho : o.op = .call c) (hc : c.callee = .builtin .len) (hargs : c.args = #[x]) (hts : c.argTypes = ts) (hts0 : ts[0]? = some t)
    (h : Sim wb ι H w) (ht : P.underlying t = some (.array n e) ∨ P.underlying t = some (.pointer u) ∧ P.underlying u = some (.array n e)) : OpOk P o a w (After wb ι H w H (.int .i64 n)) := by
  have hexec : ∀ {v : Value} {w' : World}, (Builtin.len_ ts o.type #[a.eval x]).run P w = .ok v w' → (execOp a.eval o).run P w = .ok (.value v) w' := by
    intro v w' hrun
    simp [execOp, ho, resolve, hc, hargs, hts, invoke, builtin, hrun]
  refine .inl ⟨.int .i64 n, w, hexec ?_, after_same h (.of0 (.int _ _))⟩
  rcases ht with ht | ⟨ht, hu⟩
  · have hd3 : ∀ (w2 : World), (underlying t).run P w2 = .ok _ w2 := fun _ => run_underlying' ht
    simp [Builtin.len_, hts0, hd3, goInt]
  · have hd3 : ∀ (w2 : World), (underlying t).run P w2 = .ok _ w2 := fun _ => run_underlying' ht
    have hd4 : ∀ (w2 : World), (underlying u).run P w2 = .ok _ w2 := fun _ => run_underlying' hu
    simp [Builtin.len_, hts0, hd3, hd4, goInt]

theorem run_min2 {u v r : Value} (h : amin2 u v = some r) : (Builtin.min2 u v).run P w = .ok r w ∧ leafOk r = true := by
  unfold amin2 at h
  split at h
  · split at h
    · rename_i hk; subst hk; cases h; exact ⟨rfl, rfl⟩
    · cases h
  · cases h; refine ⟨?_, rfl⟩; simp [Builtin.min2, Op.stringOp, asBool]
  · cases h
theorem run_max2 {u v r : Value} (h : amax2 u v = some r) : (Builtin.max2 u v).run P w = .ok r w ∧ leafOk r = true := by
  unfold amax2 at h
  split at h
  · split at h
    · rename_i hk; subst hk; cases h; exact ⟨rfl, rfl⟩
    · cases h
  · cases h; refine ⟨?_, rfl⟩; simp [Builtin.max2, Op.stringOp, asBool]
  · cases h
theorem amin2_shape {u v r : Value} (h : amin2 u v = some r) {u' v' : Value} (hu : VRel ι u u') (hv : VRel ι v v') : u' = u ∧ v' = v := by
  unfold amin2 at h
  split at h
  · exact ⟨hu.inv_int, hv.inv_int⟩
  · exact ⟨hu.inv_string, hv.inv_string⟩
  · cases h
theorem amax2_shape {u v r : Value} (h : amax2 u v = some r) {u' v' : Value} (hu : VRel ι u u') (hv : VRel ι v v') : u' = u ∧ v' = v := by
  unfold amax2 at h
  split at h
  · exact ⟨hu.inv_int, hv.inv_int⟩
  · exact ⟨hu.inv_string, hv.inv_string⟩
  · cases h

theorem so_min {c : Call} {x y : Operand} {u v r : Value} (ho : o.op = .call c) (hc : c.callee = .builtin .min) (hargs : c.args = #[x, y]) (h : Sim wb ι H w) (hx : VRel ι u (a.eval x)) (hy : VRel ι v (a.eval y))
    (hr : amin2 u v = some r) : OpOk P o a w (After wb ι H w H r) := by
  obtain ⟨ex, ey⟩ := amin2_shape hr hx hy
  obtain ⟨h1, h2⟩ := run_min2 (P := P) (w := w) hr
  exact ok_value h (by simp [execOp, ho, resolve, hc, hargs, invoke, builtin, Builtin.min_, ex, ey, h1]) (.of0 (leafOk_rel h2))
theorem so_max {c : Call} {x y : Operand} {u v r : Value} (ho : o.op = .call c) (hc : c.callee = .builtin .max) (hargs : c.args = #[x, y]) (h : Sim wb ι H w) (hx : VRel ι u (a.eval x)) (hy : VRel ι v (a.eval y))
    (hr : amax2 u v = some r) : OpOk P o a w (After wb ι H w H r) := by
  obtain ⟨ex, ey⟩ := amax2_shape hr hx hy
  obtain ⟨h1, h2⟩ := run_max2 (P := P) (w := w) hr
  exact ok_value h (by simp [execOp, ho, resolve, hc, hargs, invoke, builtin, Builtin.max_, ex, ey, h1]) (.of0 (leafOk_rel h2))
theorem so_min3 {c : Call} {x y z : Operand} {u v q m r : Value} (ho : o.op = .call c) (hc : c.callee = .builtin .min) (hargs : c.args = #[x, y, z]) (h : Sim wb ι H w) (hx : VRel ι u (a.eval x)) (hy : VRel ι v (a.eval y)) (hz : VRel ι q (a.eval z))
    (hm : amin2 u v = some m) (hr : amin2 m q = some r) : OpOk P o a w (After wb ι H w H r) := by
  obtain ⟨ex, ey⟩ := amin2_shape hm hx hy
  obtain ⟨h1, h2⟩ := run_min2 (P := P) (w := w) hm
  obtain ⟨_, ez⟩ := amin2_shape hr (.of0 (leafOk_rel h2)) hz
  obtain ⟨h3, h4⟩ := run_min2 (P := P) (w := w) hr
  exact ok_value h (by simp [execOp, ho, resolve, hc, hargs, invoke, builtin, Builtin.min_, ex, ey, ez, h1, h3]) (.of0 (leafOk_rel h4))
theorem so_max3 {c : Call} {x y z : Operand} {u v q m r : Value} (ho : o.op = .call c) (hc : c.callee = .builtin .max) (hargs : c.args = #[x, y, z]) (h : Sim wb ι H w) (hx : VRel ι u (a.eval x)) (hy : VRel ι v (a.eval y)) (hz : VRel ι q (a.eval z))
    (hm : amax2 u v = some m) (hr : amax2 m q = some r) : OpOk P o a w (After wb ι H w H r) := by
  obtain ⟨ex, ey⟩ := amax2_shape hm hx hy
  obtain ⟨h1, h2⟩ := run_max2 (P := P) (w := w) hm
  obtain ⟨_, ez⟩ := amax2_shape hr (.of0 (leafOk_rel h2)) hz
  obtain ⟨h3, h4⟩ := run_max2 (P := P) (w := w) hr
  exact ok_value h (by simp [execOp, ho, resolve, hc, hargs, invoke, builtin, Builtin.max_, ex, ey, ez, h1, h3]) (.of0 (leafOk_rel h4))

theorem so_clear {c : Call} {ts : Array TypeId} {t e : TypeId} {n : Nat} {z vx : Value} {x : Operand} {s s' : St} (ho : o.op = .call c) (hc : c.callee = .builtin .clear) (hargs : c.args = #[x]) (hts : c.argTypes = ts) (hts0 : ts[0]? = some t)
    (h : Sim wb ι s.heap w) (ht : P.underlying t = some (.slice e)) (hn : sizeT P e = some n) (hz : zeroT P e = some z) (hx : VRel ι vx (a.eval x)) (hr : aclear n (cellsV z) vx s = some s') :
    OpOk P o a w (After wb ι s.heap w s'.heap (.tuple #[])) := by
  have hexec : ∀ {w' : World}, (Builtin.clear_ ts o.type #[a.eval x]).run P w = .ok (.tuple #[]) w' → (execOp a.eval o).run P w = .ok (.value (.tuple #[])) w' := by
    intro w' hrun
    simp [execOp, ho, resolve, hc, hargs, hts, invoke, builtin, hrun]
  obtain ⟨i, _, _, hzc⟩ := zeroT_info hz
  unfold aclear at hr
  split at hr
  · cases hr
    obtain ⟨_, _, ex⟩ := hx.inv_snil
    refine .inl ⟨.tuple #[], w, hexec ?_, after_same h (undef_rel ι)⟩
    rw [ex]
    simp [Builtin.clear_, hts0, run_underlying' ht]
  · cases hr
    refine .inl ⟨.tuple #[], w, hexec ?_, after_same h (undef_rel ι)⟩
    rcases hx.inv_slice with ⟨_, _, _, _, _, _, _, ex⟩ | ⟨_, _, _, ex⟩ <;> (rw [ex]; simp [Builtin.clear_, hts0, run_underlying' ht])
  · rename_i b0 off len cap hne
    split at hr
    case isFalse => cases hr
    rename_i hcond
    unfold writeN at hr
    split at hr
    case h_2 => cases hr
    rename_i n0 cells hcells
    split at hr
    case isFalse => cases hr
    rename_i hle
    cases hr
    rcases hx.inv_slice with ⟨lc, m', _, hb0, _, _, _, ex⟩ | ⟨rfl, rfl, a', ex⟩
    · have hzs : z.cells.size = n := by rw [← hcond.1, ← cellsV_cells]; simp
      have hrep : All2 (L2 ι) (repCells (cellsV z) len) (Builtin.zeroCells z.cells len).toList := by
        have := range_rep z.cells len
        have e2 : Builtin.zeroCells z.cells len = (Array.range (len * z.cells.size)).map (z.cells[· % z.cells.size]!) := rfl
        rw [e2, this]
        exact repCells_rel (constOk_cells hzc) len
      obtain ⟨w', g1, g2, g3, _⟩ := h.write (P := P) hcells hb0 hle hrep
      refine .inl ⟨.tuple #[], w', hexec ?_, ι, g2, g3, undef_rel ι⟩
      rw [ex]
      have hl0 : len ≠ 0 := by intro h0; subst h0; exact hne rfl
      cases len with
      | zero => exact absurd rfl hl0
      | succ len => simp [Builtin.clear_, hts0, run_underlying' ht, run_zeroValue' hz, g1]
    · exact (hne rfl).elim
  · cases hr

theorem const_VA {v : Value} (h : constOk v = true) : VA ι v v := by
  cases v with
  | agg cs => exact .agg (leafOks_rel h)
  | _ => exact .l2 (.l1 (.l0 (leafOk_rel h)))
theorem VRel.inv_ifaceV {t : TypeId} {u v' : Value} (h : VRel ι (.iface t u) v') : ∃ u', v' = .iface t u' ∧ VA ι u u' := by
  cases h with
  | va h => cases h with
    | l2 h => cases h with
      | iface _ h => exact ⟨_, rfl, .l2 (.l1 h)⟩
      | ifaceAgg _ h => exact ⟨_, rfl, .agg (h.mono fun _ _ => .l1)⟩
      | l1 h => cases h with
        | l0 h => cases h
theorem so_typeAssert {x : Operand} {xt asserted : TypeId} {d : TypeDesc} {u r z : Value} (ho : o.op = .typeAssert x xt asserted true) (h : Sim wb ι H w) (hd : P.underlying asserted = some d) (hd2 : ∀ ms, d ≠ .interface ms) (hz : zeroT P asserted = some z)
    (hx : VRel ι u (a.eval x)) (hr : atypeAssert z asserted u = some r) : OpOk P o a w (After wb ι H w H r) := by
  obtain ⟨_, _, _, hzc⟩ := zeroT_info hz
  unfold atypeAssert at hr
  split at hr
  · cases hr
    have ex := hx.inv_nilIface
    refine ok_value h (v' := .tuple #[z, .bool false]) ?_ (.tuple ⟨const_VA hzc, .l2 (.l1 (.l0 (.bool _))), trivial⟩)
    simp only [execOp, ho, ex, Instr.typeAssert, Sem.run_bind, run_underlying' hd, Result.andThen_ok]
    cases d <;> first | (exact absurd rfl (hd2 _)) | simp [run_zeroValue' hz, Result.andThen, Sem.run_bind]
  · rename_i t v
    obtain ⟨v', ex, hv⟩ := hx.inv_ifaceV
    cases hr
    cases hb : Nat.beq t asserted with
    | true =>
      have e : t = asserted := Nat.eq_of_beq_eq_true hb
      refine ok_value h (v' := .tuple #[v', .bool true]) ?_ (.tuple ⟨hv, .l2 (.l1 (.l0 (.bool _))), trivial⟩)
      simp only [execOp, ho, ex, Instr.typeAssert, Sem.run_bind, run_underlying' hd, Result.andThen_ok]
      cases d <;> first | (exact absurd rfl (hd2 _)) | simp [e, Result.andThen, Sem.run_bind]
    | false =>
      have e : t ≠ asserted := fun e => by rw [e, Nat.beq_refl] at hb; cases hb
      refine ok_value h (v' := .tuple #[z, .bool false]) ?_ (.tuple ⟨const_VA hzc, .l2 (.l1 (.l0 (.bool _))), trivial⟩)
      simp only [execOp, ho, ex, Instr.typeAssert, Sem.run_bind, run_underlying' hd, Result.andThen_ok]
      cases d <;> first | (exact absurd rfl (hd2 _)) | simp [e, run_zeroValue' hz, Result.andThen, Sem.run_bind]
  · cases hr

theorem so_call {c : Call} {f : Operand} {g : FuncId} {first captured : Array Value} {vs : List Value} {call : Caller} {r : Value} {s s' : St} (ho : o.op = .call c) (hc : c.callee = .value f)
    (hf : VRel ι (.func (.func g) first captured) (a.eval f)) (hxs : All2 (VRel ι) vs (c.args.toList.map a.eval)) (hok : funcOk P g = true)
    (hcall : ∀ args' : Array Value, All2 (VRel ι) (first.toList ++ vs ++ captured.toList) args'.toList → Calls P g args' w fun e w' => ∃ v', e = .returned v' ∧ After wb ι s.heap w s'.heap r v' w') :
    OpOk P o a w (After wb ι s.heap w s'.heap r) := by
  obtain ⟨first', captured', ef, h1, h2⟩ := hf.inv_func
  have hfn : ∃ fn, P.funcs[g]? = some fn ∧ fn.name ≠ "runtime.NumGoroutine" ∧ fn.body.isSome = true := by
    unfold funcOk at hok
    split at hok
    · rename_i fn hfn
      simp at hok
      exact ⟨fn, hfn, hok.1, hok.2⟩
    · cases hok
  obtain ⟨fn, hfn, hname, hbody⟩ := hfn
  refine .inr (.inr ⟨g, first' ++ c.args.map a.eval ++ captured', ?_, hcall _ ?_⟩)
  · have hnone : fn.body ≠ none := by intro e; rw [e] at hbody; cases hbody
    simp [execOp, ho, resolve, hc, ef, Deferred.ofValue, invoke, callFunc, hfn, hname, hnone]
  · simp only [Array.toList_append, Array.toList_map]
    exact ((h1.mono fun _ _ => VRel.of0).append hxs).append (h2.mono fun _ _ => VRel.of0)

end
end Go.Proofs.Ytamaapapaiopiaa.Ab
