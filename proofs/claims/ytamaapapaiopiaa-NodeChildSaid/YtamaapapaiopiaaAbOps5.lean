/- The abstract machine against the model: the operations one by one (fourth part). -/
import Derived.Test.YtamaapapaiopiaaAbOps4
set_option linter.unusedVariables false
set_option linter.unusedSimpArgs false
set_option linter.unusedSectionVars false
namespace Go.Proofs.Ytamaapapaiopiaa.Ab
open Go

section
variable {P : Program} {o : Oper} {a : Act} {w : World} {wb : Nat} {ι : Emb} {H : List Blk}

inductive ORel (ι : Emb) : Option Value → Option Value → Prop
  | none : ORel ι none none
  | some {v v' : Value} (h : VRel ι v v') : ORel ι (some v) (some v')

def opdOB (n : Nat) : Option Operand → Bool
  | some x => opdB n x
  | none => true
theorem opdO_rel {T : Fr} (hf : FrRel ι T a.tmps) {x : Option Operand} {v : Option Value} (h : opdO T x = some v) (hb : opdOB a.tmps.size x = true) : ORel ι v (x.map a.eval) := by
  cases x with
  | none => simp [opdO] at h; subst h; exact .none
  | some x =>
    simp only [opdO, Option.map_eq_some_iff] at h
    obtain ⟨u, hu, rfl⟩ := h
    exact .some (opd_rel hu hf hb)

theorem run_bounds {isSlice : Bool} {len len' cap cap' l h m : Nat} {lo hi mx lo' hi' mx' : Option Value} (hlo : ORel ι lo lo') (hhi : ORel ι hi hi') (hmx : ORel ι mx mx')
    (hm : abound cap mx = some m) (hh : abound len hi = some h) (hl : abound 0 lo = some l) (h1 : l ≤ h) (h2 : h ≤ m) (h3 : m ≤ cap) (h4 : cap ≤ cap') (hmh : mx = none ∨ hi ≠ none) :
    ∃ m', (Instr.sliceBounds isSlice len cap' lo' hi' mx').run P w = .ok (l, h, m') w ∧ (if mx = none then m' = cap' else m' = m) := by
  have hb : ∀ (k : IntKind) (i : Int) (y : Nat) (code : BoundsCode), 0 ≤ i → i ≤ y → (Instr.sliceBound (.int k i) y code).run P w = .ok i.toNat w := fun k i y code g1 g2 => by
    simp [Instr.sliceBound, asIntOf, g1, g2]
  have key : ∀ {d n : Nat} {x x' : Option Value}, ORel ι x x' → abound d x = some n → (x = none ∧ x' = none ∧ n = d) ∨ ∃ k i, x = some (.int k i) ∧ x' = some (.int k i) ∧ 0 ≤ i ∧ n = i.toNat := by
    intro d n x x' hx hd
    cases hx with
    | none => simp [abound] at hd; exact .inl ⟨rfl, rfl, hd.symm⟩
    | some hv =>
      unfold abound at hd
      split at hd
      · rename_i he; cases he
      · rename_i k i he
        cases he
        split at hd
        · rename_i h0; cases hd; rw [hv.inv_int]; exact .inr ⟨_, _, rfl, rfl, h0, rfl⟩
        · cases hd
      · cases hd
  unfold Instr.sliceBounds
  rcases key hmx hm with ⟨rfl, rfl, rfl⟩ | ⟨km, im, rfl, rfl, gm, rfl⟩
  · refine ⟨cap', ?_, by simp⟩
    rcases key hhi hh with ⟨rfl, rfl, rfl⟩ | ⟨kh, ih, rfl, rfl, gh, rfl⟩ <;> rcases key hlo hl with ⟨rfl, rfl, rfl⟩ | ⟨kl, il, rfl, rfl, gl, rfl⟩
    · simp
    · simp [hb kl il _ _ gl (show il ≤ (h : Int) by omega)]
    · simp [hb kh ih _ _ gh (show ih ≤ (cap' : Int) by omega)]
    · simp [hb kh ih _ _ gh (show ih ≤ (cap' : Int) by omega), hb kl il _ _ gl (show il ≤ (ih.toNat : Int) by omega)]
  · refine ⟨im.toNat, ?_, by simp⟩
    rcases key hhi hh with ⟨rfl, rfl, rfl⟩ | ⟨kh, ih, rfl, rfl, gh, rfl⟩
    · simp at hmh
    rcases key hlo hl with ⟨rfl, rfl, rfl⟩ | ⟨kl, il, rfl, rfl, gl, rfl⟩
    · simp [hb km im _ _ gm (show im ≤ (cap' : Int) by omega), hb kh ih _ _ gh (show ih ≤ (im.toNat : Int) by omega)]
    · simp [hb km im _ _ gm (show im ≤ (cap' : Int) by omega), hb kh ih _ _ gh (show ih ≤ (im.toNat : Int) by omega), hb kl il _ _ gl (show il ≤ (ih.toNat : Int) by omega)]

theorem addr_addN (b off n : Nat) : (⟨b, off, none⟩ : Addr).add n = ⟨b, off + n, none⟩ := addr_add b off n

/-- what is cut out of a slice -/
theorem sliced_rel {n len cap l h m m' cap' : Nat} {ad : Option Addr} {v : Value} {lo hi mx : Option Value} (hv : VRel ι (.slice ad len cap) v) (hm : abound cap mx = some m) (hh : abound len hi = some h) (hl : abound 0 lo = some l) (h1 : l ≤ h) (h2 : h ≤ m) (h3 : m ≤ cap)
    {r : Value} (hr : cutRow n ad l (h - l) (m - l) = some r)
    {ad' : Option Addr} (he : v = .slice ad' len cap') (hm' : m ≤ m') (hm2 : m' ≤ cap') : VRel ι r (.slice (if m' = l then ad' else ad'.map (·.add (l * n))) (h - l) (m' - l)) := by
  cases ad with
  | none =>
    obtain ⟨rfl, rfl, ex⟩ := hv.inv_snil
    rw [ex] at he
    cases he
    simp [cutRow] at hr
    subst hr
    obtain rfl : m = 0 := by omega
    obtain rfl : m' = 0 := by omega
    obtain rfl : h = 0 := by omega
    obtain rfl : l = 0 := by omega
    exact .of0 .snil
  | some ad =>
    obtain ⟨b, off, sp⟩ := ad
    cases sp with
    | some sp => simp [cutRow] at hr
    | none =>
      simp [cutRow] at hr
      subst hr
      rcases hv.inv_slice with ⟨lc, m2, _, hb, hle, hc, hz, ex⟩ | ⟨rfl, rfl, a', ex⟩
      · rw [ex] at he
        cases he
        simp only at hb
        by_cases hml : m' = l
        · rw [if_pos hml]
          obtain rfl : h = l := by omega
          obtain rfl : m = h := by omega
          subst hml
          simp only [Nat.sub_self]
          exact .of0 (.slice0 _ _)
        · rw [if_neg hml]
          simp only [Option.map_some, addr_add, Nat.add_assoc]
          refine .of0 (.slice _ hb (by omega) (by omega) fun ho0 => ?_)
          have h5 := hz (show off = 0 by omega)
          exact Nat.le_trans (Nat.add_le_add_left (Nat.mul_le_mul_right lc.n (show m' - l ≤ cap' by omega)) lc.off) h5
      · rw [ex] at he
        cases he
        obtain rfl : m = 0 := by omega
        obtain rfl : m' = 0 := by omega
        obtain rfl : h = 0 := by omega
        obtain rfl : l = 0 := by omega
        simp
        exact .of0 (.slice0 _ _)

theorem asliceSl_parts {n len cap : Nat} {ad : Option Addr} {lo hi mx : Option Value} {r : Value} (h : asliceSl n ad len cap lo hi mx = some r) :
    ∃ m hh l, abound cap mx = some m ∧ abound len hi = some hh ∧ abound 0 lo = some l ∧ l ≤ hh ∧ hh ≤ m ∧ m ≤ cap ∧ (mx = none ∨ hi ≠ none) ∧
      cutRow n ad l (hh - l) (m - l) = some r := by
  unfold asliceSl at h
  split at h
  case isFalse => cases h
  rename_i hmh
  simp only [Option.bind_eq_some_iff] at h
  obtain ⟨m, hm, hh, hhh, l, hl, h⟩ := h
  split at h
  · rename_i hc
    exact ⟨m, hh, l, hm, hhh, hl, hc.1, hc.2.1, hc.2.2, by cases mx <;> cases hi <;> simp_all, h⟩
  · cases h

theorem so_slice {t e : TypeId} {x : Operand} {lo hi mx : Option Operand} {vlo vhi vmx : Option Value} {n len cap : Nat} {ad : Option Addr} {r : Value} (ho : o.op = .slice t x lo hi mx) (h : Sim wb ι H w)
    (ht : P.underlying t = some (.slice e)) (hn : sizeT P e = some n) (hx : VRel ι (.slice ad len cap) (a.eval x)) (hlo : ORel ι vlo (lo.map a.eval)) (hhi : ORel ι vhi (hi.map a.eval)) (hmx : ORel ι vmx (mx.map a.eval))
    (hr : asliceSl n ad len cap vlo vhi vmx = some r) : OpOk P o a w (After wb ι H w H r) := by
  obtain ⟨m, hh, l, hm, hhh, hl, h1, h2, h3, hmh, hr'⟩ := asliceSl_parts hr
  have hshape : ∃ ad' cap', a.eval x = .slice ad' len cap' ∧ cap ≤ cap' := by
    cases ad with
    | none => obtain ⟨rfl, rfl, ex⟩ := hx.inv_snil; exact ⟨_, _, ex, Nat.le_refl _⟩
    | some ad => rcases hx.inv_slice with ⟨_, m', _, _, _, hc, _, ex⟩ | ⟨rfl, rfl, a', ex⟩
                 · exact ⟨_, _, ex, hc⟩
                 · exact ⟨_, _, ex, Nat.le_refl _⟩
  obtain ⟨ad', cap', ex, hcc⟩ := hshape
  obtain ⟨m', hrun, hm'⟩ := run_bounds (P := P) (w := w) (isSlice := true) (len' := len) hlo hhi hmx hm hhh hl h1 h2 h3 hcc hmh
  have hmle : m ≤ m' ∧ m' ≤ cap' := by
    split at hm'
    · omega
    · omega
  refine ok_value h (v' := .slice (if m' = l then ad' else ad'.map (·.add (l * n))) (hh - l) (m' - l)) ?_ (sliced_rel hx hm hhh hl h1 h2 h3 hr' ex hmle.1 hmle.2)
  simp [execOp, ho, ex, Instr.sliceAt, Instr.slice, run_underlying' ht, hrun, run_sizeOf' hn]

theorem so_sliceStr {t : TypeId} {x : Operand} {lo hi mx : Option Operand} {vlo vhi : Option Value} {s : ByteArray} {r : Value} (ho : o.op = .slice t x lo hi mx) (h : Sim wb ι H w)
    (ht : P.underlying t = some .string) (hx : VRel ι (.string s) (a.eval x)) (hlo : ORel ι vlo (lo.map a.eval)) (hhi : ORel ι vhi (hi.map a.eval)) (hmx : ORel ι none (mx.map a.eval))
    (hr : asliceStr s vlo vhi = some r) : OpOk P o a w (After wb ι H w H r) := by
  unfold asliceStr at hr
  simp only [Option.bind_eq_some_iff] at hr
  obtain ⟨hh, hhh, l, hl, hr⟩ := hr
  split at hr
  case isFalse => cases hr
  rename_i hc
  cases hr
  have ex := hx.inv_string
  have emx : mx.map a.eval = none := by cases hm : mx.map a.eval with
    | none => rfl
    | some v => rw [hm] at hmx; cases hmx
  obtain ⟨m', hrun, _⟩ := run_bounds (P := P) (w := w) (isSlice := false) (len' := s.size) (cap := s.size) (cap' := s.size) (mx := none) (mx' := none) hlo hhi .none rfl hhh hl hc.1 hc.2 (Nat.le_refl _) (Nat.le_refl _) (.inl rfl)
  refine ok_value h (v' := .string (s.extract l hh)) ?_ (.of0 (.string _))
  simp [execOp, ho, ex, emx, Instr.sliceAt, Instr.slice, run_underlying' ht, hrun]

theorem so_sliceArr {t e : TypeId} {x : Operand} {lo hi mx : Option Operand} {vlo vhi vmx : Option Value} {n len : Nat} {ad : Addr} {r : Value} (ho : o.op = .slice t x lo hi mx) (h : Sim wb ι H w)
    (ht : P.underlying t = some (.array len e) ∨ ∃ u, P.underlying t = some (.pointer u) ∧ P.underlying u = some (.array len e)) (hn : sizeT P e = some n) (hx : VRel ι (.pointer (some ad)) (a.eval x)) (hlo : ORel ι vlo (lo.map a.eval)) (hhi : ORel ι vhi (hi.map a.eval)) (hmx : ORel ι vmx (mx.map a.eval))
    (hb0 : ∃ cells st, H[ad.block]? = some (.row 0 cells st) ∧ st ≠ .dead) (hr : asliceSl n (some ad) len len vlo vhi vmx = some r) : OpOk P o a w (After wb ι H w H r) := by
  obtain ⟨m, hh, l, hm, hhh, hl, h1, h2, h3, hmh, hr'⟩ := asliceSl_parts hr
  obtain ⟨b, off, sp⟩ := ad
  obtain ⟨rfl, lc, hb, ex⟩ := hx.inv_ptr
  obtain ⟨m', hrun, hm'⟩ := run_bounds (P := P) (w := w) (isSlice := false) (len' := len) hlo hhi hmx hm hhh hl h1 h2 h3 (Nat.le_refl _) hmh
  have hmle : m ≤ m' ∧ m' ≤ len := by
    split at hm'
    · omega
    · omega
  have hsv : VRel ι (.slice (some ⟨b, off, none⟩) len len) (.slice (some ⟨lc.blk, lc.off + off, none⟩) len len) := .of0 (.slice off hb (Nat.le_refl _) (Nat.le_refl _) (fun _ => by
    obtain ⟨cells, st, hc, hst⟩ := hb0
    have := h.loc b 0 cells st hc hst lc hb
    rw [this.1]; simp; exact this.2))
  have hrel := sliced_rel (n := n) hsv hm hhh hl h1 h2 h3 hr' rfl hmle.1 hmle.2
  refine ok_value h (v' := .slice (if m' = l then some ⟨lc.blk, lc.off + off, none⟩ else (some (⟨lc.blk, lc.off + off, none⟩ : Addr)).map (·.add (l * n))) (hh - l) (m' - l)) ?_ hrel
  rcases ht with ht | ⟨u, ht, hu⟩
  · simp only [execOp, ho, ex, Instr.sliceAt, Instr.sureAddr, Sem.run_bind, run_underlying' ht, hrun, run_sizeOf' hn, Result.andThen_ok, Sem.run_pure]
    split <;> rfl
  · simp only [execOp, ho, ex, Instr.sliceAt, Instr.slice, asAddr, Sem.run_bind, run_underlying' ht, run_underlying' hu, hrun, run_sizeOf' hn, Result.andThen_ok, Sem.run_pure]
    split <;> rfl

theorem so_fieldAddr {t : TypeId} {x : Operand} {i n : Nat} {f : Nat × TypeId} {u r : Value} (ho : o.op = .fieldAddr t x i) (h : Sim wb ι H w) (hf : fieldT P t i = some f) (hn : sizeT P f.2 = some n) (h0 : n ≠ 0)
    (hx : VRel ι u (a.eval x)) (hr : afieldAddr f.1 u = some r) : OpOk P o a w (After wb ι H w H r) := by
  unfold afieldAddr at hr
  split at hr
  · rename_i b off
    cases hr
    obtain ⟨_, lc, hb, ex⟩ := hx.inv_ptr
    unfold fieldT at hf
    split at hf
    · rename_i fs hu
      simp only [Option.map_eq_some_iff] at hf
      obtain ⟨fd, hfd, rfl⟩ := hf
      refine ok_value h (v' := .pointer (some ⟨lc.blk, lc.off + (off + fd.offset), none⟩)) ?_ (.of0 (.ptr _ hb))
      simp only at hn
      simp [execOp, ho, ex, Instr.fieldAt, run_underlying' hu, hfd, Instr.sureAddr, fieldPlace, run_sizeOf' hn, h0, addr_add, Nat.add_assoc]
    · cases hf
  · cases hr

theorem part_rel {t : TypeId} {ag : Bool} {n off : Nat} {cs cs' : Array Value} {r : Value} (hag : aggT P t = some ag) (hn : sizeT P t = some n) (hc : All2 (L2 ι) cs.toList cs'.toList) (hr : afield ag off n (.agg cs) = some r) :
    ∃ r', (part t cs' off).run P w = .ok r' w ∧ VRel ι r r' := by
  have hl : cs.size = cs'.size := by simpa using hc.length
  unfold afield at hr
  cases ag with
  | true =>
    simp only [if_true] at hr
    split at hr
    · cases hr
      refine ⟨.agg (cs'.extract off (off + n)), by simp [part, run_isAgg' hag, run_sizeOf' hn], .va (.agg ?_)⟩
      have : (cs'.extract off (off + n)).toList = (cs'.toList.drop off).take n := by simp
      rw [this]
      simpa using (hc.drop off).take n
    · cases hr
  | false =>
    simp only [Bool.false_eq_true, if_false] at hr
    obtain ⟨r', h1, h2⟩ := hc.get _ _ hr
    have h1' : cs'[off]? = some r' := by simpa using h1
    exact ⟨r', by simp [part, run_isAgg' hag, h1'], .of2 h2⟩

theorem so_field {t : TypeId} {x : Operand} {i n : Nat} {f : Nat × TypeId} {ag : Bool} {u r : Value} (ho : o.op = .field t x i) (h : Sim wb ι H w) (hf : fieldT P t i = some f) (hag : aggT P f.2 = some ag) (hn : sizeT P f.2 = some n)
    (hx : VRel ι u (a.eval x)) (hr : afield ag f.1 n u = some r) : OpOk P o a w (After wb ι H w H r) := by
  have hr0 := hr
  unfold afield at hr
  split at hr
  · rename_i cs
    obtain ⟨cs', ex, hc⟩ := hx.inv_agg
    unfold fieldT at hf
    split at hf
    · rename_i fs hu
      simp only [Option.map_eq_some_iff] at hf
      obtain ⟨fd, hfd, rfl⟩ := hf
      obtain ⟨r', h1, h2⟩ := part_rel (w := w) hag hn hc hr0
      refine ok_value h (v' := r') ?_ h2
      simp [execOp, ho, ex, Instr.field, run_underlying' hu, hfd, asAgg, h1]
    · cases hf
  · cases hr

theorem so_indexS {t e : TypeId} {x y : Operand} {n : Nat} {u v r : Value} (ho : o.op = .indexAddr t x y) (h : Sim wb ι H w) (ht : P.underlying t = some (.slice e)) (hn : sizeT P e = some n)
    (hx : VRel ι u (a.eval x)) (hy : VRel ι v (a.eval y)) (hr : aindexS n u v = some r) : OpOk P o a w (After wb ι H w H r) := by
  unfold aindexS at hr
  split at hr
  · rename_i b off len cap k i
    have ey := hy.inv_int
    split at hr
    case isFalse => cases hr
    rename_i hc
    cases hr
    rcases hx.inv_slice with ⟨lc, m', _, hb, _, _, _, ex⟩ | ⟨rfl, rfl, a', ex⟩
    · refine ok_value h (v' := .pointer (some ⟨lc.blk, lc.off + (off + i.toNat * n), none⟩)) ?_ (.of0 (.ptr _ hb))
      simp [execOp, ho, ex, ey, Instr.indexAt, asIntOf, run_underlying' ht, hc.1, hc.2, run_sizeOf' hn, addr_add, Nat.add_assoc]
    · omega
  · cases hr

theorem so_indexA {t e : TypeId} {x y : Operand} {len n : Nat} {u v r : Value} (ho : o.op = .indexAddr t x y) (h : Sim wb ι H w) (ht : P.underlying t = some (.array len e)) (hn : sizeT P e = some n)
    (hx : VRel ι u (a.eval x)) (hy : VRel ι v (a.eval y)) (hr : aindexA len n u v = some r) : OpOk P o a w (After wb ι H w H r) := by
  unfold aindexA at hr
  split at hr
  · rename_i b off k i
    have ey := hy.inv_int
    split at hr
    case isFalse => cases hr
    rename_i hc
    cases hr
    obtain ⟨_, lc, hb, ex⟩ := hx.inv_ptr
    refine ok_value h (v' := .pointer (some ⟨lc.blk, lc.off + (off + i.toNat * n), none⟩)) ?_ (.of0 (.ptr _ hb))
    simp [execOp, ho, ex, ey, Instr.indexAt, Instr.sureAddr, asIntOf, run_underlying' ht, hc.1, hc.2, run_sizeOf' hn, addr_add, Nat.add_assoc]
  · cases hr

theorem so_indexStr {t : TypeId} {x y : Operand} {u v r : Value} (ho : o.op = .index t x y) (h : Sim wb ι H w) (ht : P.underlying t = some .string)
    (hx : VRel ι u (a.eval x)) (hy : VRel ι v (a.eval y)) (hr : aindexStr u v = some r) : OpOk P o a w (After wb ι H w H r) := by
  unfold aindexStr at hr
  split at hr
  · rename_i s k i
    have ex := hx.inv_string
    have ey := hy.inv_int
    split at hr
    case isFalse => cases hr
    rename_i hc
    simp only [Option.map_eq_some_iff] at hr
    obtain ⟨c, hcc, rfl⟩ := hr
    have hs : s[i.toNat]? = some c := by
      have hlt := (List.getElem?_eq_some_iff.1 hcc).1
      have hlt' : i.toNat < s.size := by simpa using hlt
      have : s.data[i.toNat]? = some c := by simpa using hcc
      rw [getElem?_pos s i.toNat hlt']
      rw [show s[i.toNat] = s.data[i.toNat] from rfl]
      rw [← this, Array.getElem?_eq_getElem]
    refine ok_value h (v' := .int .u8 c.toNat) ?_ (.of0 (.int _ _))
    simp [execOp, ho, ex, ey, Instr.index, asIntOf, run_underlying' ht, hc, hs]
  · cases hr

theorem so_indexAgg {t e : TypeId} {x y : Operand} {len n : Nat} {ag : Bool} {u v r : Value} (ho : o.op = .index t x y) (h : Sim wb ι H w) (ht : P.underlying t = some (.array len e)) (hag : aggT P e = some ag) (hn : sizeT P e = some n)
    (hx : VRel ι u (a.eval x)) (hy : VRel ι v (a.eval y)) (hr : aindexAgg ag len n u v = some r) : OpOk P o a w (After wb ι H w H r) := by
  unfold aindexAgg at hr
  split at hr
  · rename_i k i
    have ey := hy.inv_int
    split at hr
    case isFalse => cases hr
    rename_i hc
    have hr0 := hr
    unfold afield at hr
    split at hr
    · rename_i cs
      obtain ⟨cs', ex, hcs⟩ := hx.inv_agg
      obtain ⟨r', h1, h2⟩ := part_rel (w := w) hag hn hcs hr0
      refine ok_value h (v' := r') ?_ h2
      simp [execOp, ho, ex, ey, Instr.index, asIntOf, run_underlying' ht, hc.1, hc.2, run_sizeOf' hn, h1]
    · cases hr
  · cases hr

theorem so_extract {x : Operand} {i : Nat} {vs : Array Value} {r : Value} (ho : o.op = .extract x i) (h : Sim wb ι H w) (hx : VRel ι (.tuple vs) (a.eval x)) (hr : vs.toList[i]? = some r) (hnt : isTup r = false) : OpOk P o a w (After wb ι H w H r) := by
  obtain ⟨vs', ex, hc⟩ := hx.inv_tuple (fun e => by
    subst e
    cases i with
    | zero => simp at hr; subst hr; cases hnt
    | succ i => simp at hr)
  obtain ⟨r', h1, h2⟩ := hc.get _ _ hr
  have h1' : vs'[i]? = some r' := by simpa using h1
  exact ok_value h (v' := r') (by simp [execOp, ho, ex, Instr.extract, h1']) (.va h2)
end
end Go.Proofs.Ytamaapapaiopiaa.Ab
