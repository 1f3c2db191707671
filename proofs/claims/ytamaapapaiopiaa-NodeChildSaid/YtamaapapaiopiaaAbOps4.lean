/- The abstract machine against the model: the operations one by one (third part). -/
import Derived.Test.YtamaapapaiopiaaAbOps3
set_option linter.unusedVariables false
set_option linter.unusedSimpArgs false
set_option linter.unusedSectionVars false
namespace Go.Proofs.Ytamaapapaiopiaa.Ab
open Go

section
variable {P : Program} {o : Oper} {a : Act} {w : World} {wb : Nat} {ι : Emb} {H : List Blk}

theorem so_unOp {op : UnOp} {t : TypeId} {x : Operand} {u r : Value} (ho : o.op = .unOp op t x) (h : Sim wb ι H w) (hx : VRel ι u (a.eval x)) (hr : aun op u = some r) :
    OpOk P o a w (After wb ι H w H r) := by
  unfold aun at hr
  split at hr
  · have e := hx.inv_int
    cases hr
    exact ok_value h (by simp [execOp, ho, e, Op.unary, Op.intArith]) (.of0 (.int _ _))
  · have e := hx.inv_int
    cases hr
    exact ok_value h (by simp [execOp, ho, e, Op.unary, Op.intBits]) (.of0 (.int _ _))
  · have e := hx.inv_bool
    cases hr
    exact ok_value h (by simp [execOp, ho, e, Op.unary]) (.of0 (.bool _))
  · cases hr

theorem so_convInt {s t : TypeId} {k0 kd k : IntKind} {x : Operand} {n : Int} (ho : o.op = .convert s t x) (h : Sim wb ι H w) (hs : P.underlying s = some (.int k0)) (ht : P.underlying t = some (.int kd))
    (hx : VRel ι (.int k n) (a.eval x)) : OpOk P o a w (After wb ι H w H (.int kd (kd.wrap n))) := by
  have e := hx.inv_int
  exact ok_value h (by simp [execOp, ho, e, convert, run_underlying' hs, run_underlying' ht, Conv.intToInt]) (.of0 (.int _ _))
theorem so_convStr {s t : TypeId} {x : Operand} {n : ByteArray} (ho : o.op = .convert s t x) (h : Sim wb ι H w) (hs : P.underlying s = some .string) (ht : P.underlying t = some .string)
    (hx : VRel ι (.string n) (a.eval x)) : OpOk P o a w (After wb ι H w H (.string n)) := by
  have e := hx.inv_string
  exact ok_value h (by simp [execOp, ho, e, convert, run_underlying' hs, run_underlying' ht]) (.of0 (.string _))

theorem bytesV_rel (t : ByteArray) : All2 (L2 ι) (bytesV t) (t.data.map fun b => Value.int .u8 b.toNat).toList := by
  have : (t.data.map fun b => Value.int .u8 b.toNat).toList = bytesV t := by simp [bytesV]
  rw [this]
  refine leafOks_rel ?_
  unfold bytesV
  generalize t.data.toList = l
  induction l with
  | nil => rfl
  | cons x l ih => simp only [List.map_cons, List.all_cons, ih]; rfl

theorem freeze_heap {w : World} {b n : Nat} {cs : Array Value} {e : TypeId} (h : w.heap[b]? = some (.cells cs e)) :
    (w.freeze ⟨b, n, none⟩ 1).heap[b]? = some (.cells cs e (n, n + 1)) := by
  simp [World.freeze, Array.getElem?_modify, h]
theorem freeze_heap_ne {w : World} {b c n : Nat} (h : c ≠ b) : (w.freeze ⟨b, n, none⟩ 1).heap[c]? = w.heap[c]? := by
  simp [World.freeze, Array.getElem?_modify, Ne.symm h]

theorem so_convBytes {s t e : TypeId} {x : Operand} {n : ByteArray} (ho : o.op = .convert s t x) (h : Sim wb ι H w) (hs : P.underlying s = some .string) (ht : P.underlying t = some (.slice e)) (he : P.underlying e = some (.int .u8))
    (hx : VRel ι (.string n) (a.eval x)) : OpOk P o a w (After wb ι H w (H ++ [.row 1 (bytesV n) .act]) (.slice (some ⟨H.length, 0, none⟩) n.size n.size)) := by
  have ex := hx.inv_string
  obtain ⟨cap, hcap, hle⟩ : ∃ cap, (choose (.appendCap n.size 0 e)).run P w = .ok cap w.drew ∧ n.size ≤ cap := by
    refine ⟨_, by simp [Question.forced]; rfl, ?_⟩
    simp [Question.cut]
  let cs : Array Value := (n.data.map fun b => Value.int .u8 b.toNat) ++ Array.replicate (cap - n.size) (.int .u8 0)
  have hnd : n.data.size = n.size := rfl
  have hcs : cs.size = cap := by simp only [cs, Array.size_append, Array.size_map, Array.size_replicate]; omega
  let w1 : World := w.drew.alloc (.cells cs e)
  let w2 : World := w1.freeze ⟨w.heap.size, cap, none⟩ 1
  have h1 : w1.heap[w.heap.size]? = some (.cells cs e) := by
    show (w.heap.push _)[w.heap.size]? = _
    rw [Array.getElem?_push, if_pos rfl]
  have hrun : (execOp a.eval o).run P w = .ok (.value (.slice (some ⟨w.heap.size, 0, none⟩) n.size cap)) w2 := by
    have hsh : w1.shape? w.heap.size = some (e, cap) := by simp [World.shape?, h1, hcs]
    have hc : (Conv.stringToBytes e n).run P w = .ok (.slice (some ⟨w.heap.size, 0, none⟩) n.size cap) w2 := by
      unfold Conv.stringToBytes
      rw [Sem.run_bind, hcap]
      simp only [Result.andThen_ok, newRow, Sem.run_bind, run_newObj, World.alloc_eq, Sem.run_pure, markStringish, run_shape, World.size_drew]
      rw [show (w.drew.alloc (.cells ((n.data.map fun b => Value.int .u8 b.toNat) ++ Array.replicate (cap - n.size) (.int .u8 0)) e)) = w1 from rfl, hsh]
      rfl
    simp [execOp, ho, ex, convert, run_underlying' hs, run_underlying' ht, run_underlying' he, hc]
  have hp := h.push (w := w) (n := 1) (cells := bytesV n) (cs := cs) (e := e) (fz := (cap, cap + 1)) (.inr ⟨rfl, by rw [hcs]; exact Nat.le_refl _⟩) (fun i v hi => by
    obtain ⟨v', hv', hr⟩ := (bytesV_rel (ι := ι) n).get i v hi
    refine ⟨v', ?_, hr⟩
    have hlt := (List.getElem?_eq_some_iff.1 hv').1
    simp at hlt
    simp only [cs]
    rw [Array.getElem?_append_left (by simpa using hlt)]
    simpa using hv')
  have heap2 : w2.heap = (w.alloc (.cells cs e (cap, cap + 1))).heap := by
    apply Array.ext_getElem?
    intro c
    by_cases hc : c = w.heap.size
    · subst hc
      rw [show w2.heap[w.heap.size]? = _ from freeze_heap h1]
      show _ = (w.heap.push _)[w.heap.size]?
      rw [Array.getElem?_push, if_pos rfl]
    · rw [show w2.heap[c]? = _ from freeze_heap_ne hc]
      show (w.heap.push _)[c]? = (w.heap.push _)[c]?
      rw [Array.getElem?_push, Array.getElem?_push, if_neg hc, if_neg hc]
  refine .inl ⟨_, _, hrun, _, hp.1.congr heap2, ?_, slice_new _ _ _ _ _ _ rfl (Nat.le_refl _) hle (by simp [hcs])⟩
  have hs := hp.2
  exact ⟨hs.le, hs.old, hs.img, fun c hc hn => by rw [heap2]; exact hs.keep c hc hn, by rw [heap2]; exact hs.size, rfl, rfl, rfl, hs.len, hs.own⟩

/-- a row of bytes that a constant text was made of: what is marked lies behind its cells -/
theorem so_convSl {t e : TypeId} {x : Operand} {b off len cap : Nat} {cells : List Value} (ho : o.op = .convert t t x) (h : Sim wb ι H w) (ht : P.underlying t = some (.slice e)) (he : P.underlying e = some (.int .u8))
    (hb : H[b]? = some (.row 1 cells .act)) (hx : VRel ι (.slice (some ⟨b, off, none⟩) (len + 1) cap) (a.eval x)) : OpOk P o a w (After wb ι H w H (.slice (some ⟨b, off, none⟩) (len + 1) cap)) := by
  obtain ⟨lc, cap', hl, hcap, ex⟩ : ∃ (lc : Loc) (cap' : Nat), ι b = some lc ∧ cap ≤ cap' ∧ a.eval x = .slice (some ⟨lc.blk, lc.off + off, none⟩) (len + 1) cap' := by
    generalize a.eval x = u at hx
    cases hx with
    | va h => cases h with
      | l2 h => cases h with
        | l1 h => cases h with
          | l0 h => cases h with
            | slice _ h1 h2 h3 h4 => exact ⟨_, _, h1, h3, rfl⟩
  have hx2 := hx
  rw [ex] at hx2
  obtain ⟨cs, el, fz, hw, _, hact, hcells⟩ := h.row b 1 cells .act hb (by simp) lc hl
  obtain ⟨a1, a2, a3, a4⟩ := hact rfl
  let fz2 : Nat × Nat := if fz.1 == fz.2 then (cs.size, cs.size + 1) else (min fz.1 cs.size, max fz.2 (cs.size + 1))
  let w2 : World := w.freeze ⟨lc.blk, cs.size, none⟩ 1
  have hh : w2.heap[lc.blk]? = some (.cells cs el fz2) := by
    simp only [w2, World.freeze, Nat.one_ne_zero, if_false, Array.getElem?_modify, if_true, hw, Option.map_some]
    obtain ⟨lo, hi⟩ := fz
    rfl
  have hne : ∀ c, c ≠ lc.blk → w2.heap[c]? = w.heap[c]? := fun c hc => freeze_heap_ne hc
  have hsz : w2.heap.size = w.heap.size := by simp [w2, World.freeze]
  have hrun : (execOp a.eval o).run P w = .ok (.value (.slice (some ⟨lc.blk, lc.off + off, none⟩) (len + 1) cap')) w2 := by
    have hsh : w.shape? lc.blk = some (el, cs.size) := by simp [World.shape?, hw]
    simp [execOp, ho, ex, convert, run_underlying' ht, run_underlying' he, markStringish, hsh, w2]
  have hfz : fzOk 1 fz2 cs.size := by
    simp only [fz2]
    unfold fzOk at a4 ⊢
    split
    · right; exact ⟨rfl, Nat.le_refl _⟩
    · rename_i hf
      rcases a4 with h1 | ⟨_, h1⟩
      · exact absurd (by simpa using h1) hf
      · right; refine ⟨rfl, ?_⟩; simp only; omega
  refine .inl ⟨_, _, hrun, ι, ?_, ?_, hx2⟩
  · constructor
    · exact h.dom
    · intro b2 n2 cells2 st hb2 hst l hl2
      obtain ⟨cs2, e2, fz3, q1, q2, q3, q4⟩ := h.row b2 n2 cells2 st hb2 hst l hl2
      by_cases hc : l.blk = lc.blk
      · rw [hc, hw] at q1
        cases q1
        exact ⟨cs, el, fz2, by rw [hc]; exact hh, q2, fun hh => ⟨(q3 hh).1, (q3 hh).2.1, (q3 hh).2.2.1, by
          by_cases hbb : b2 = b
          · subst hbb
            rw [hb] at hb2
            cases hb2
            exact hfz
          · exact absurd hc (h.excl b2 b (by rw [hb2, hh]; rfl) (by rw [hb]; rfl) hbb l lc hl2 hl)⟩, q4⟩
      · exact ⟨cs2, e2, fz3, by rw [hne _ hc]; exact q1, q2, q3, q4⟩
    · intro b2 es clock hb2 l hl2
      obtain ⟨q1, q2, es', q3, q4⟩ := h.map b2 es clock hb2 l hl2
      have hc : l.blk ≠ lc.blk := by
        intro hc
        rw [hc, hw] at q3
        cases q3
      exact ⟨q1, q2, es', by rw [hne _ hc]; exact q3, q4⟩
    · exact h.excl
    · rw [hsz]; exact h.size
    · exact h.loc
  · constructor
    · exact .refl _
    · intro _ _; rfl
    · intro b2 x2 hx3 hb3; exact absurd (h.dom b2 x2 hx3) (by omega)
    · intro c hc hno
      exact hne c (fun e => hno b lc (by rw [hb]; rfl) hl e.symm)
    · rw [hsz]; exact Nat.le_refl _
    · rfl
    · rfl
    · rfl
    · exact Nat.le_refl _
    · intro _ _ h; exact h

theorem unbytes_ints : ∀ {l : List Value} {bs : List UInt8}, unbytes l = some bs → ∃ ns : List Int, l = ns.map (Value.int .u8) ∧ bs = ns.map fun n => UInt8.ofNat n.toNat
  | [], bs, h => by simp [unbytes] at h; subst h; exact ⟨[], rfl, rfl⟩
  | .int .u8 n :: l, bs, h => by
    simp only [unbytes, Option.map_eq_some_iff] at h
    obtain ⟨r, hr, rfl⟩ := h
    obtain ⟨ns, h1, h2⟩ := unbytes_ints hr
    exact ⟨n :: ns, by rw [h1]; rfl, by rw [h2]; rfl⟩
  | .int .i8 n :: l, bs, h => by simp [unbytes] at h
  | .int .i16 n :: l, bs, h => by simp [unbytes] at h
  | .int .i32 n :: l, bs, h => by simp [unbytes] at h
  | .int .i64 n :: l, bs, h => by simp [unbytes] at h
  | .int .u16 n :: l, bs, h => by simp [unbytes] at h
  | .int .u32 n :: l, bs, h => by simp [unbytes] at h
  | .int .u64 n :: l, bs, h => by simp [unbytes] at h
  | .bool _ :: l, bs, h => by simp [unbytes] at h
  | .float _ _ :: l, bs, h => by simp [unbytes] at h
  | .complex _ _ _ :: l, bs, h => by simp [unbytes] at h
  | .string _ :: l, bs, h => by simp [unbytes] at h
  | .pointer _ :: l, bs, h => by simp [unbytes] at h
  | .slice _ _ _ :: l, bs, h => by simp [unbytes] at h
  | .map _ :: l, bs, h => by simp [unbytes] at h
  | .chan _ :: l, bs, h => by simp [unbytes] at h
  | .func _ _ _ :: l, bs, h => by simp [unbytes] at h
  | .nilFunc :: l, bs, h => by simp [unbytes] at h
  | .iface _ _ :: l, bs, h => by simp [unbytes] at h
  | .nilIface :: l, bs, h => by simp [unbytes] at h
  | .agg _ :: l, bs, h => by simp [unbytes] at h
  | .tuple _ :: l, bs, h => by simp [unbytes] at h

theorem foldl_push (ns : List Int) : ∀ (r : ByteArray), (ns.foldl (fun (r : ByteArray) (n : Int) => r.push (UInt8.ofNat n.toNat)) r) = ⟨r.data ++ (ns.map fun n => UInt8.ofNat n.toNat).toArray⟩ := by
  induction ns with
  | nil => intro r; simp
  | cons n ns ih =>
    intro r
    rw [List.foldl_cons, ih]
    congr 1
    simp [ByteArray.push]

theorem so_convToStr {s t e : TypeId} {x : Operand} {u r : Value} {S : St} (ho : o.op = .convert s t x) (h : Sim wb ι S.heap w) (hs : P.underlying s = some (.slice e)) (ht : P.underlying t = some .string) (he : P.underlying e = some (.int .u8))
    (hx : VRel ι u (a.eval x)) (hr : abytesToStr u S = some r) : OpOk P o a w (After wb ι S.heap w S.heap r) := by
  unfold abytesToStr at hr
  split at hr
  · obtain ⟨_, _, ex⟩ := hx.inv_snil
    cases hr
    exact ok_value h (by simp [execOp, ho, ex, convert, run_underlying' hs, run_underlying' ht, run_underlying' he, Conv.bytesToString]) (.of0 (.string _))
  · rename_i b off len cap
    simp only [Option.bind_eq_some_iff, Option.map_eq_some_iff] at hr
    obtain ⟨cs, hcs, bs, hbs, rfl⟩ := hr
    obtain ⟨ns, hns, rfl⟩ := unbytes_ints hbs
    rcases hx.inv_slice with ⟨lc, m', _, hb, _, _, _, ex⟩ | ⟨rfl, rfl, ⟨a1, a2, a3⟩, ex⟩
    · obtain ⟨vs', h1, h2, h3⟩ := h.read (P := P) hcs hb
      have hvs : vs' = ns.map (Value.int .u8) := by
        rw [← hns]
        exact consts_eq (by rw [hns]; simp [leafOk]) h2
      rw [hvs] at h1
      have hrun := run_bytesToString w ⟨lc.blk, lc.off + off, none⟩ len m' ns h1
      rw [foldl_push] at hrun
      refine ok_value h (v' := .string ⟨(ns.map fun n => UInt8.ofNat n.toNat).toArray⟩) ?_ (.of0 (.string _))
      have : ByteArray.empty.data = #[] := rfl
      simp [this] at hrun
      simp [execOp, ho, ex, convert, run_underlying' hs, run_underlying' ht, run_underlying' he, hrun]
    · have hn0 : ns = [] := by
        unfold readN at hcs
        simp only [Option.bind_eq_some_iff] at hcs
        obtain ⟨cc, _, h5⟩ := hcs
        split at h5
        · cases h5; simp at hns; exact hns
        · cases h5
      subst hn0
      have hrun := run_bytesToString (P := P) w ⟨a1, a2, a3⟩ 0 0 [] rfl
      refine ok_value h (v' := .string ByteArray.empty) ?_ (.of0 (.string _))
      simp at hrun
      simp [execOp, ho, ex, convert, run_underlying' hs, run_underlying' ht, run_underlying' he, hrun]
  · cases hr

theorem so_makeInterface {t : TypeId} {d : TypeDesc} {x : Operand} {u : Value} (ho : o.op = .makeInterface t x) (h : Sim wb ι H w) (hd : P.underlying t = some d) (hd2 : ∀ ms, d ≠ .interface ms) (hx : VRel ι u (a.eval x))
    (hu : ifaceOk u = true) : OpOk P o a w (After wb ι H w H (.iface t u)) := by
  refine ok_value h (v' := .iface t (a.eval x)) ?_ ?_
  · simp only [execOp, ho, Instr.makeInterface, Sem.run_bind, run_underlying' hd, Result.andThen_ok]
    cases d <;> first | rfl | exact absurd rfl (hd2 _)
  · generalize a.eval x = y at hx
    cases hx with
    | tuple => simp [ifaceOk] at hu
    | poison => simp [ifaceOk] at hu
    | va hx =>
      cases hx with
      | agg g =>
        refine .of2 (.ifaceAgg t ?_)
        simp only [ifaceOk] at hu
        rename_i c1 c2
        generalize c1.toList = l1 at *
        generalize c2.toList = l2 at *
        induction l1 generalizing l2 with
        | nil => cases l2 with
          | nil => trivial
          | cons => exact g.elim
        | cons p l1 ih => cases l2 with
          | nil => exact g.elim
          | cons q l2 =>
            simp only [List.all_cons, Bool.and_eq_true] at hu
            refine ⟨?_, ih hu.2 l2 g.2⟩
            have := g.1
            cases this with
            | l1 h => exact h
            | iface => simp [notIface] at hu
            | ifaceAgg => simp [notIface] at hu
      | l2 g => cases g with
        | l1 g => exact .of2 (.iface t g)
        | iface => simp [ifaceOk] at hu
        | ifaceAgg => simp [ifaceOk] at hu

theorem VRel.leaf0 {u v : Value} (h : VRel ι u v) (hl : Ab.leaf0 u = true) : L0 ι u v := by
  cases h with
  | tuple => simp [Ab.leaf0] at hl
  | poison => simp [Ab.leaf0] at hl
  | va h => cases h with
    | agg => simp [Ab.leaf0] at hl
    | l2 h => cases h with
      | iface => simp [Ab.leaf0] at hl
      | ifaceAgg => simp [Ab.leaf0] at hl
      | l1 h => cases h with
        | l0 h => exact h
        | func fn ha hb =>
          simp [Ab.leaf0] at hl
          obtain ⟨rfl, rfl⟩ := hl
          rename_i a' b'
          have h1 : a' = #[] := by
            have := ha.length
            simp at this
            exact Array.eq_empty_of_size_eq_zero this.symm
          have h2 : b' = #[] := by
            have := hb.length
            simp at this
            exact Array.eq_empty_of_size_eq_zero this.symm
          rw [h1, h2]
          exact .func fn
theorem VRels.leaf0 : ∀ {l m : List Value}, All2 (VRel ι) l m → l.all Ab.leaf0 = true → All2 (L0 ι) l m
  | [], [], _, _ => trivial
  | _ :: _, _ :: _, ⟨h1, h2⟩, hl => by
    simp at hl
    exact ⟨h1.leaf0 hl.1, VRels.leaf0 h2 (by simpa using hl.2)⟩

theorem so_makeFunc {f : FuncId} {first captured : Array Operand} {T : Fr} {xs ys : List Value} (ho : o.op = .makeFunc (.func f) first captured) (h : Sim wb ι H w)
    (hx : All2 (VRel ι) xs (first.toList.map a.eval)) (hy : All2 (VRel ι) ys (captured.toList.map a.eval)) (h1 : xs.all leaf0 = true) (h2 : ys.all leaf0 = true) :
    OpOk P o a w (After wb ι H w H (.func (.func f) xs.toArray ys.toArray)) := by
  refine ok_value h (v' := .func (.func f) (first.map a.eval) (captured.map a.eval)) (by simp [execOp, ho, Instr.makeFunc]) ?_
  exact .of2 (.l1 (.func _ (by simpa using VRels.leaf0 hx h1) (by simpa using VRels.leaf0 hy h2)))

theorem so_makeSlice {t e : TypeId} {x y : Operand} {n b : Nat} {z u v r : Value} {S S' : St} (ho : o.op = .makeSlice t x y) (h : Sim wb ι S.heap w) (ht : P.underlying t = some (.slice e)) (hn : sizeT P e = some n) (hb : bytesT P e = some b)
    (hz : zeroT P e = some z) (hx : VRel ι u (a.eval x)) (hy : VRel ι v (a.eval y)) (hr : amake n b (cellsV z) u v S = some (r, S')) : OpOk P o a w (After wb ι S.heap w S'.heap r) := by
  obtain ⟨i, hi, hiz, hzc⟩ := zeroT_info hz
  have hin : i.size = n := by simp [sizeT, hi] at hn; exact hn
  have hib : i.bytes = b := by simp [bytesT, hi] at hb; exact hb
  unfold amake at hr
  split at hr
  · rename_i k l k' c
    split at hr
    case isFalse => cases hr
    rename_i hcond
    obtain ⟨h0, h1, h2, h3, h4, h5⟩ := hcond
    cases hr
    have ex := hx.inv_int
    have ey := hy.inv_int
    have hby : (i.bytes : Int) * c ≤ 281474976710656 := by
      have h6 : ((c.toNat * b : Nat) : Int) ≤ 140737488355328 := by omega
      rw [Nat.mul_comm, Int.natCast_mul, Int.toNat_of_nonneg (by omega)] at h6
      rw [hib]
      omega
    have hrun := run_make (P := P) w t e i z ht hi hiz k k' l c h0 h1 hby h2
    refine .inl ⟨_, _, by simp only [execOp, ho, ex, ey, Sem.run_bind, hrun, Result.andThen_ok]; rfl, ?_⟩
    have hzs : z.cells.size = n := by rw [← h4, ← cellsV_cells]; simp
    have hm : All2 (L2 ι) (repCells (cellsV z) c.toNat) (madeCells z.cells (c.toNat * i.size)).toList := by
      unfold madeCells
      rw [hin]
      have := range_rep z.cells c.toNat
      rw [hzs] at this
      rw [hzs, this]
      exact repCells_rel (constOk_cells hzc) _
    exact after_new (f := fun n m => .slice (some ⟨n, m, none⟩) l.toNat c.toNat) h hm (slice_new _ _ _ _ _ _ rfl (by omega) (Nat.le_refl _) (by simp [size_madeCells, hin]))
  · cases hr
end
end Go.Proofs.Ytamaapapaiopiaa.Ab
