/- The abstract machine against the model: append, copy, and the other builtins. -/
import Derived.Test.YtamaapapaiopiaaAbOps5
import Derived.Deep.DeepAppendWide
set_option linter.unusedVariables false
set_option linter.unusedSimpArgs false
set_option linter.unusedSectionVars false
namespace Go.Proofs.Ytamaapapaiopiaa.Ab
open Go

section
variable {P : Program} {o : Oper} {a : Act} {w : World} {wb : Nat} {ι : Emb} {H : List Blk}

theorem readN_less {s : St} {b off n k : Nat} {vs : List Value} (h : readN s b off n = some vs) (hk : k ≤ n) : readN s b off k = some (vs.take k) := by
  unfold readN at *
  simp only [Option.bind_eq_some_iff] at *
  obtain ⟨cells, hc, h⟩ := h
  split at h
  · cases h
    refine ⟨cells, hc, ?_⟩
    rw [if_pos (by omega)]
    simp [List.take_take, Nat.min_eq_left hk]
  · cases h
theorem readN_length {s : St} {b off n : Nat} {vs : List Value} (h : readN s b off n = some vs) : vs.length = n := by
  unfold readN at h
  simp only [Option.bind_eq_some_iff] at h
  obtain ⟨cells, hc, h⟩ := h
  split at h
  · cases h; simp; omega
  · cases h

theorem src_rel {n m : Nat} {y y' : Value} {new : List Value} {s : St} (h : Sim wb ι s.heap w) (hy : VRel ι y y') (hm : lenV y = some m) (he : elemsOf n y s = some new) :
    (∀ w2, (Builtin.lenOf y').run P w2 = .ok m w2) ∧ new.length = m * n ∧ ∀ k, k ≤ m → ∃ new' : Array Value, All2 (L2 ι) (new.take (k * n)) new'.toList ∧ ∀ w2 : World, w2.heap = w.heap → (Builtin.firstCells n k y').run P w2 = .ok new' w2 := by
  unfold elemsOf at he
  split at he
  · obtain ⟨_, rfl, ey⟩ := hy.inv_snil
    cases he
    simp only [lenV, Option.some.injEq] at hm
    subst hm
    rw [ey]
    refine ⟨fun _ => rfl, by simp, fun k hk => ⟨#[], by simp [All2], fun w2 _ => ?_⟩⟩
    simp [Builtin.firstCells]
  · rename_i b off len cap
    simp only [lenV, Option.some.injEq] at hm
    subst hm
    refine ⟨?_, readN_length he, fun k hk => ?_⟩
    · intro w2
      rcases hy.inv_slice with ⟨_, _, _, _, _, _, _, ey⟩ | ⟨rfl, _, _, ey⟩ <;> (rw [ey]; rfl)
    · rcases hy.inv_slice with ⟨lc, m', _, hb, _, _, _, ey⟩ | ⟨rfl, rfl, ⟨a1, a2, a3⟩, ey⟩
      · have hr := readN_less he (Nat.mul_le_mul_right n hk)
        obtain ⟨vs', h1, h2, _⟩ := h.read (P := P) hr hb
        refine ⟨vs'.toArray, by simpa using h2, fun w2 hw2 => ?_⟩
        obtain ⟨vs2, g1, g2, _⟩ := (h.congr hw2).read (P := P) hr hb
        have : vs2 = vs' := by
          have e1 : (loadCells ⟨lc.blk, lc.off + off, none⟩ (k * n)).run P w = .ok vs'.toArray w := h1
          -- the same heap gives the same cells
          have hcell : ∀ ad, w2.cell? ad = w.cell? ad := fun ad => by simp [World.cell?, hw2]
          have l1 := run_loadCells_list (P := P) (w := w2) ⟨lc.blk, lc.off + off, none⟩ vs' (fun j v hj => by
            rw [hcell]
            have hlen : vs'.length = k * n := by
              have := h2.length
              rw [readN_length hr] at this
              exact this.symm
            have hr2 : readN s b off (k * n) = some (new.take (k * n)) := hr
            unfold readN readRow at hr2
            cases e : s.heap[b]? with
            | none => simp [e] at hr2
            | some B => cases B with
              | map => simp [e] at hr2
              | row n' cells st =>
                have hst : st ≠ .dead := by intro hd; subst hd; simp [e] at hr2
                obtain ⟨cs, e', fz, hw, _, _, h3⟩ := h.row b n' cells st e hst lc hb
                have hr3 : (if off + k * n ≤ cells.length then some ((cells.drop off).take (k * n)) else none) = some (new.take (k * n)) := by cases st <;> simp_all
                split at hr3
                case isFalse => cases hr3
                rename_i hle
                have hcs : ∀ i, i < cells.length → lc.off + i < cs.size := fun i hi => by
                  obtain ⟨v', hv', _⟩ := h3 i cells[i] (by simp [hi])
                  exact (Array.getElem?_eq_some_iff.1 hv').1
                have hl : k * n = 0 ∨ lc.off + off + k * n ≤ cs.size := by
                  by_cases h0 : k * n = 0
                  · exact .inl h0
                  · have := hcs (off + k * n - 1) (by omega); right; omega
                have hd := run_loadCells_of (P := P) (w := w) (off := lc.off + off) (n := k * n) hw hl
                rw [e1] at hd
                have hd2 : vs' = (cs.toList.drop (lc.off + off)).take (k * n) := by
                  injection hd with hd _
                  simpa using congrArg Array.toList hd
                rw [hd2] at hj
                have hjn : j < k * n := by have := (List.getElem?_eq_some_iff.1 hj).1; simp at this; omega
                rw [addr_add, cell?_of hw]
                rw [List.getElem?_take_of_lt hjn, List.getElem?_drop] at hj
                simpa using hj)
          have hlen : vs'.length = k * n := by
            have := h2.length
            rw [readN_length hr] at this
            exact this.symm
          rw [hlen, g1] at l1
          injection l1 with l1 _
          simpa using congrArg Array.toList l1
        rw [this] at g1
        rw [ey]
        simp [Builtin.firstCells, g1]
      · obtain rfl : k = 0 := by omega
        refine ⟨#[], by simp [All2], fun w2 _ => ?_⟩
        rw [ey]
        simp [Builtin.firstCells, loadCells, loadCellsFrom]
  · rename_i t
    split at he
    · rename_i h1
      subst h1
      cases he
      simp only [lenV, Option.some.injEq] at hm
      subst hm
      have ey := hy.inv_string
      rw [ey]
      refine ⟨fun _ => rfl, by simp [bytesV], fun k hk => ⟨(t.extract 0 k).data.map fun b => .int .u8 b.toNat, ?_, fun w2 _ => rfl⟩⟩
      have : (bytesV t).take (k * 1) = ((t.extract 0 k).data.map fun b => Value.int .u8 b.toNat).toList := by
        simp [bytesV, ByteArray.data_extract, List.map_take]
      rw [this]
      have hb := bytesV_rel (ι := ι) (t.extract 0 k)
      have h2 : bytesV (t.extract 0 k) = ((t.extract 0 k).data.map fun b => Value.int .u8 b.toNat).toList := by simp [bytesV]
      rwa [h2] at hb
    · cases he
  · cases he

/-- 'append' at two slices, or at a slice and a string: what its run comes to -/
theorem run_append_room {t u ty e : TypeId} {n m sLen sCap : Nat} {y' : Value} {base : Option Addr} {new' : Array Value} {du : TypeDesc} (ht : P.underlying t = some (.slice e)) (hu : P.underlying u = some du) (hdu : ∀ k, du ≠ .int k)
    (hn : sizeT P e = some n) (hlen : (Builtin.lenOf y').run P w = .ok m w) (hnew : (Builtin.firstCells n m y').run P w = .ok new' w) (hroom : sLen + m ≤ sCap) {w' : World}
    (hst : (match base with | some ad => (storeCells (ad.add (sLen * n)) new'.toList).run P w = .ok () w' | none => w' = w)) :
    (Builtin.append_ #[t, u] ty #[.slice base sLen sCap, y']).run P w = .ok (.slice base (sLen + m) sCap) w' := by
  have hz : ∀ (f : Bool → Sem Value), ((match du with | .int _ => true | _ => false) : Bool) = false := fun _ => by cases du <;> first | rfl | exact absurd rfl (hdu _)
  have hd : (du matches .int _) = false := by cases du <;> first | rfl | exact absurd rfl (hdu _)
  unfold Builtin.append_
  simp only [List.getElem?_toArray, List.getElem?_cons_zero, List.getElem?_cons_succ, Sem.run_bind, run_underlying' ht, run_underlying' hu, run_sizeOf' hn, Result.andThen_ok, Sem.run_pure]
  cases du <;> first
    | exact absurd rfl (hdu _)
    | (simp only [Sem.run_bind, hlen, Result.andThen_ok, hroom, if_true, Bool.false_eq_true, if_false, Bool.not_false, hnew]
       cases base with
       | none => simp only at hst; subst hst; rfl
       | some ad => simp only at hst; simp only [Sem.run_bind, hst, Result.andThen_ok, Sem.run_pure])

theorem run_append_new {t u ty e : TypeId} {n b m sLen sCap : Nat} {y' z : Value} {base : Option Addr} {new' old' : Array Value} {du : TypeDesc} (ht : P.underlying t = some (.slice e)) (hu : P.underlying u = some du) (hdu : ∀ k, du ≠ .int k)
    (hn : sizeT P e = some n) (hb : bytesT P e = some b) (hz : zeroT P e = some z) (hlen : (Builtin.lenOf y').run P w = .ok m w) (hnew : (Builtin.firstCells n m y').run P w.drew = .ok new' w.drew) (hold : (Builtin.firstCells n sLen (.slice base sLen sCap)).run P w.drew = .ok old' w.drew)
    (hroom : sCap < sLen + m) (hb1 : 0 < b) (hfit : roomA (sLen + m) b) :
    ∃ cap, sLen + m ≤ cap ∧ (Builtin.append_ #[t, u] ty #[.slice base sLen sCap, y']).run P w =
      .ok (.slice (some ⟨w.heap.size, 0, none⟩) (sLen + m) cap) (w.drew.alloc (.cells (old' ++ new' ++ Builtin.zeroCells z.cells (cap - (sLen + m))) e)) := by
  obtain ⟨i, hi, hiz, hzc⟩ := zeroT_info hz
  have hib : i.bytes = b := by simp [bytesT, hi] at hb; exact hb
  have h48 : Builtin.nextslicecap (sLen + m) sCap * b ≤ 281474976710656 := by
    rcases hfit with hfit | hfit
    · exact growslice_fits (bytes := b) hroom hfit
    · exact growslice_fits_wide (bytes := b) hroom hfit
  refine ⟨(Question.appendCap (sLen + m) sCap e).cut (w.tape w.drawn (.appendCap (sLen + m) sCap e)), by simp [Question.cut], ?_⟩
  have hnot : ¬ (sLen + m ≤ sCap) := by omega
  have h48' : ¬ (281474976710656 < Builtin.nextslicecap (sLen + m) sCap * b) := by omega
  have hnew' := hnew
  have hold' := hold
  unfold Builtin.append_
  simp only [List.getElem?_toArray, List.getElem?_cons_zero, List.getElem?_cons_succ, Sem.run_bind, run_underlying' ht, run_underlying' hu, run_sizeOf' hn, Result.andThen_ok, Sem.run_pure]
  have hsz : ∀ w2 : World, (zeroValue e).run P w2 = .ok z w2 := fun w2 => run_zeroValue' hz
  have hti : ∀ w2 : World, (typeInfo e).run P w2 = .ok i w2 := fun w2 => run_typeInfo' hi
  have hbig : ¬ (9223372036854775807 < ((sLen + m : Nat) : Int)) := by
    rcases hfit with hfit | hfit
    · have : (sLen + m) * 1 ≤ (sLen + m) * b := Nat.mul_le_mul_left _ hb1
      omega
    · have : (sLen + m + (sLen + m) / 4 + 192) * 1 ≤ (sLen + m + (sLen + m) / 4 + 192) * b := Nat.mul_le_mul_left _ hb1
      omega
  cases du <;> first
    | exact absurd rfl (hdu _)
    | (simp only [Sem.run_bind, hlen, Result.andThen_ok, hnot, if_false, Bool.false_eq_true, Bool.not_false]
       simp [hti, hib, h48', hbig, Question.forced, hold, hnew, hsz, newRow, Question.cut]
       intro _ h00
       omega)


theorem zeroCells_rep (z : List Value) (n : Nat) : (Builtin.zeroCells z.toArray n).size = n * z.length := by simp [Builtin.zeroCells]

/-- 'append' -/
theorem so_append {c : Call} {t u e : TypeId} {x y : Operand} {n b : Nat} {z vx vy r : Value} {du : TypeDesc} {s s' : St} (ho : o.op = .call c) (hc : c.callee = .builtin .append) (hargs : c.args = #[x, y]) (hts : c.argTypes = #[t, u])
    (h : Sim wb ι s.heap w) (ht : P.underlying t = some (.slice e)) (hu : P.underlying u = some du) (hdu : ∀ k, du ≠ .int k) (hn : sizeT P e = some n) (hb : bytesT P e = some b) (hz : zeroT P e = some z) (hzl : (cellsV z).length = n)
    (hx : VRel ι vx (a.eval x)) (hy : VRel ι vy (a.eval y)) (hr : aappend n b vx vy s = some (r, s')) : OpOk P o a w (After wb ι s.heap w s'.heap r) := by
  have hexec : ∀ {v : Value} {w' : World}, (Builtin.append_ #[t, u] o.type #[a.eval x, a.eval y]).run P w = .ok v w' → (execOp a.eval o).run P w = .ok (.value v) w' := by
    intro v w' hrun
    simp [execOp, ho, resolve, hc, hargs, hts, invoke, builtin, hrun]
  have hzs : z.cells.size = n := by rw [← hzl, ← cellsV_cells]; simp
  unfold aappend at hr
  split at hr
  case isFalse => cases hr
  rename_i hb1
  simp only [Option.bind_eq_some_iff] at hr
  obtain ⟨m, hm, new, hnew, hr⟩ := hr
  obtain ⟨hlen, hnl, hsrc⟩ := src_rel h hy hm hnew
  obtain ⟨new', hn1, hn2⟩ := hsrc m (Nat.le_refl _)
  rw [List.take_of_length_le (by omega)] at hn1
  have hn1l := hn1.length
  split at hr
  · -- nothing ahead
    have ex := (hx.inv_snil).2.2
    split at hr
    case isFalse => cases hr
    rename_i hfit
    split at hr
    · rename_i hm0
      cases hr
      subst hm0
      refine .inl ⟨.slice none 0 0, w, hexec ?_, after_same h (.of0 .snil)⟩
      rw [ex]
      exact run_append_room ht hu hdu hn (hlen w) (hn2 w rfl) (by omega) rfl
    · rename_i hm0
      cases hr
      obtain ⟨cap, hcap, hrun⟩ := run_append_new (P := P) (ty := o.type) (w := w) (base := none) (sLen := 0) (sCap := 0) (old' := #[]) ht hu hdu hn hb hz (hlen w) (hn2 w.drew rfl) rfl (by omega) hb1 (by rw [Nat.zero_add]; exact hfit)
      refine .inl ⟨_, _, hexec (by rw [ex]; exact hrun), ?_⟩
      simp only [Nat.zero_add] at hrun hcap ⊢
      have hp := (h.congr (v := w.drew) rfl).push (n := n) (cells := new) (cs := #[] ++ new' ++ Builtin.zeroCells z.cells (cap - m)) (e := e) (fz := (0, 0)) (.inl rfl) (fun i v hi => by
        obtain ⟨v', hv', hr⟩ := hn1.get i v hi
        have hlt := (List.getElem?_eq_some_iff.1 hv').1
        simp at hlt
        refine ⟨v', ?_, hr⟩
        rw [Array.getElem?_append_left (by simpa using hlt)]
        simpa using hv')
      refine ⟨_, hp.1, (Step.drew h.dom).trans hp.2, slice_new _ _ _ _ _ _ rfl (Nat.le_refl _) hcap ?_⟩
      simp only [Array.size_append, Builtin.zeroCells, Array.size_map, Array.size_range, hzs, List.size_toArray, List.length_nil]
      rw [Nat.sub_mul]
      have h7 : m * n ≤ cap * n := Nat.mul_le_mul_right n hcap
      have h8 : new'.size = m * n := by simpa [hnl] using hn1l.symm
      omega
  · rename_i b0 off len cap
    have hshape : ∃ ad' cap', a.eval x = .slice (some ad') len cap' ∧ cap ≤ cap' := by
      rcases hx.inv_slice with ⟨lc, m', _, _, _, hc, _, ex⟩ | ⟨rfl, rfl, a', ex⟩
      · exact ⟨_, _, ex, hc⟩
      · exact ⟨_, _, ex, Nat.le_refl _⟩
    dsimp only at hr
    split at hr
    case isFalse => cases hr
    rename_i hfit
    split at hr
    · rename_i hroom
      split at hr
      · -- nothing is appended
        rename_i hm0
        cases hr
        subst hm0
        obtain ⟨ad', cap', ex, hcc⟩ := hshape
        have hn0 : new'.toList = [] := by
          have : new'.toList.length = 0 := by rw [← hn1l]; simp at hnl; simp [hnl]
          exact List.length_eq_zero_iff.1 this
        refine .inl ⟨.slice (some ad') len cap', w, hexec ?_, after_same h (by rw [← ex]; exact hx)⟩
        rw [ex]
        exact run_append_room (base := some ad') ht hu hdu hn (hlen w) (hn2 w rfl) (show len + 0 ≤ cap' by omega) (by rw [hn0]; rfl)
      · rename_i hm0
        simp only [Option.map_eq_some_iff] at hr
        obtain ⟨s2, hs2, hr⟩ := hr
        cases hr
        unfold writeN at hs2
        split at hs2
        case h_2 => cases hs2
        rename_i n0 cells hcells
        split at hs2
        case isFalse => cases hs2
        rename_i hle
        cases hs2
        rcases hx.inv_slice with ⟨lc, m', _, hb0, hlc, hc, hz0, ex⟩ | ⟨rfl, rfl, a', ex⟩
        · obtain ⟨w', g1, g2, g3, _⟩ := h.write (P := P) hcells hb0 hle hn1
          refine .inl ⟨.slice (some ⟨lc.blk, lc.off + off, none⟩) (len + m) m', w', hexec ?_, ι, g2, g3, .of0 (.slice off hb0 hroom hc hz0)⟩
          rw [ex]
          refine run_append_room (base := some ⟨lc.blk, lc.off + off, none⟩) ht hu hdu hn (hlen w) (hn2 w rfl) (by omega) ?_
          simp only [addr_add]
          rw [Nat.add_assoc]
          exact g1
        · omega
    · rename_i hroom
      split at hr
      case h_2 => cases hr
      rename_i n0 cells hcells
      split at hr
      case isFalse => cases hr
      rename_i hcond
      obtain ⟨rfl, rfl, hlenc⟩ := hcond
      cases hr
      have hrd : readN s b0 0 (len * n0) = some cells := by
        unfold readN readRow
        rw [hcells]
        simp [hlenc]
      obtain ⟨hxl, _, hxs⟩ := src_rel h hx (m := len) (n := n0) (new := cells) rfl (by unfold elemsOf; split <;> simp_all)
      obtain ⟨old', ho1, ho2⟩ := hxs len (Nat.le_refl _)
      rw [List.take_of_length_le (by omega)] at ho1
      have ho1l := ho1.length
      -- a new row
      have hmake : ∀ {ad' : Addr} {cap' : Nat}, a.eval x = .slice (some ad') len cap' → cap' < len + m →
          OpOk P o a w (After wb ι s.heap w ((s.putB b0 (.row n0 cells .dead)).push (.row n0 (cells ++ new) .act)).heap (.slice (some ⟨s.heap.length, 0, none⟩) (len + m) (len + m))) := by
        intro ad' cap' ex hcap'
        obtain ⟨cap2, hcap2, hrun⟩ := run_append_new (P := P) (ty := o.type) (w := w) (base := some ad') (sLen := len) (sCap := cap') (old' := old') ht hu hdu hn hb hz (hlen w) (hn2 w.drew rfl) (by rw [← ex]; exact ho2 w.drew rfl) hcap' hb1 hfit
        refine .inl ⟨_, _, hexec (by rw [ex]; exact hrun), ?_⟩
        have hk := h.kill hcells
        have hp := (hk.1.congr (v := w.drew) rfl).push (n := n0) (cells := cells ++ new) (cs := old' ++ new' ++ Builtin.zeroCells z.cells (cap2 - (len + m))) (e := e) (fz := (0, 0)) (.inl rfl) (fun i v hi => by
          obtain ⟨v', hv', hr⟩ := (ho1.append hn1).get i v hi
          have hlt := (List.getElem?_eq_some_iff.1 hv').1
          simp at hlt
          refine ⟨v', ?_, hr⟩
          rw [Array.getElem?_append_left (by simpa using hlt)]
          have : (old' ++ new')[i]? = (old'.toList ++ new'.toList)[i]? := by simp [← Array.getElem?_toList]
          rw [this]; exact hv')
        have hlen2 : (s.heap.set b0 (Blk.row n0 cells .dead)).length = s.heap.length := by simp
        rw [hlen2] at hp
        refine ⟨_, hp.1, (hk.2.trans (Step.drew hk.1.dom)).trans hp.2, slice_new _ _ _ _ _ _ rfl (Nat.le_refl _) hcap2 ?_⟩
        simp only [Array.size_append, Builtin.zeroCells, Array.size_map, Array.size_range, hzs]
        rw [Nat.sub_mul]
        have h7 : (len + m) * n0 ≤ cap2 * n0 := Nat.mul_le_mul_right n0 hcap2
        have h8 : new'.size = m * n0 := by simpa [hnl] using hn1l.symm
        have h9 : old'.size = len * n0 := by simpa [← hlenc] using ho1l.symm
        rw [Nat.add_mul] at h7 ⊢
        omega
      rcases hx.inv_slice with ⟨lc, m', _, hb0, hlc, hc, hz0, ex⟩ | ⟨rfl, rfl, a', ex⟩
      · by_cases hin : len + m ≤ m'
        · -- in its place
          have hz1 := hz0 rfl
          have hcl := (h.row b0 n0 cells .act hcells (by simp) lc hb0)
          obtain ⟨cs, _, _, _, _, hact, _⟩ := hcl
          obtain ⟨_, hln, hlz, _⟩ := hact rfl
          have hfit2 : lc.off + cells.length + new.length ≤ lc.z := by
            rw [← hlenc, hnl]
            have : (len + m) * n0 ≤ m' * n0 := Nat.mul_le_mul_right n0 hin
            rw [hln] at hz1
            rw [Nat.add_mul] at this
            omega
          obtain ⟨w', g1, g2, g3⟩ := h.grow (P := P) hcells hb0 hfit2 hn1
          refine .inl ⟨.slice (some ⟨lc.blk, lc.off + 0, none⟩) (len + m) m', w', hexec ?_, _, g2, g3, .of0 (.slice 0 (Emb.add_same _ _ _) (Nat.le_refl _) hin (fun _ => hz1))⟩
          rw [ex]
          refine run_append_room (base := some ⟨lc.blk, lc.off + 0, none⟩) ht hu hdu hn (hlen w) (hn2 w rfl) hin ?_
          simp only [addr_add]
          rw [Nat.add_zero, hlenc]
          exact g1
        · exact hmake ex (by omega)
      · exact hmake ex (by omega)
  · cases hr
end
end Go.Proofs.Ytamaapapaiopiaa.Ab
