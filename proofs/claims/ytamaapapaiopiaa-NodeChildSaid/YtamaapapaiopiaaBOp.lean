/- The abstract machine with variables in the frame, against the model: one operation. -/
import Derived.Test.YtamaapapaiopiaaBRel
set_option linter.unusedVariables false
set_option linter.unusedSimpArgs false
set_option linter.unusedSectionVars false
namespace Go.Proofs.Ytamaapapaiopiaa.Ab
open Go

section
variable {P : Program} {call : Caller} {tn : Tn} {n m wb lo : Nat} {ι : Emb} {lam : Lam} {a : Act} {w : World} {s : St} {T : Fr} {o : Oper}

theorem lbox_some {v c : Value} (h : lbox v = some c) : (cellsV v).all isLeaf = true ∧ c = .agg (cellsV v).toArray := by
  unfold lbox at h
  split at h
  · rename_i hl; cases h; exact ⟨hl, rfl⟩
  · cases h

def Lam.set (lam : Lam) (j b : Nat) : Lam := fun i => if i = j then some b else lam i

theorem look_setsJ {d j : Nat} (hd : o.dst = some d) (hl : look d tn = some j) : dOf tn o = some j := by unfold dOf; rw [hd]; exact hl

/-- a new place -/
theorem after_mk (hlo : lo ≤ w.heap.size) (htn : tnOk n m tn = true) (hz : a.tmps.size = n) (hs : Sim wb ι s.heap w) (hlam : LamOk lo ι s.heap lam w) {j : Nat} (hd : dOf tn o = some j)
    (hn : ∀ x ∈ pointing j tn, NRel tn n ι lam w a.tmps x (T x)) {c : Value} {cs : List Value} {cs' : Array Value} {e : TypeId} (hc : c = .agg cs.toArray) (hrel : All2 (L2 ι) cs cs'.toList) :
    AfterL tn n wb lo ι lam s.heap w T (j :: (o.dst.toList ++ pointing j tn)) ι (lam.set j w.heap.size) s.heap (w.alloc (.cells cs' e)) (mkT tn j o.dst c T) (a.put o.dst (.pointer (some ⟨w.heap.size, 0, none⟩))).tmps := by
  obtain ⟨d, hod, hld⟩ : ∃ d, o.dst = some d ∧ look d tn = some j := by
    unfold dOf at hd
    cases hod : o.dst with
    | none => rw [hod] at hd; cases hd
    | some d => rw [hod] at hd; exact ⟨d, rfl, hd⟩
  obtain ⟨_, hdn, hjn⟩ := tnOk_mem htn hld
  have hold : ∀ c, c < w.heap.size → (w.alloc (.cells cs' e)).heap[c]? = w.heap[c]? := fun c hc => by
    show (w.heap.push _)[c]? = _
    rw [Array.getElem?_push, if_neg (Nat.ne_of_lt hc)]
  have hnew : (w.alloc (.cells cs' e)).heap[w.heap.size]? = some (.cells cs' e (0, 0)) := by
    show (w.heap.push _)[w.heap.size]? = _
    rw [Array.getElem?_push, if_pos rfl]
  have hsz : w.heap.size ≤ (w.alloc (.cells cs' e)).heap.size := by simp
  have hT : ∀ x, mkT tn j o.dst c T x = if x = j then c else if x = d then lptr else clearT tn j T x := by
    intro x
    unfold mkT
    have h1 := getT_setT (putT (clearT tn j T) o.dst lptr) c j x
    have h2 := getT_setT (clearT tn j T) lptr d x
    rw [hod] at h1 ⊢
    show getT (setT (putT (clearT tn j T) (some d) lptr) j c) x = _
    rw [h1]
    by_cases e1 : x = j
    · rw [if_pos e1.symm, if_pos e1]
    · rw [if_neg (Ne.symm e1), if_neg e1]
      show getT (setT _ d lptr) x = _
      rw [h2]
      by_cases e2 : x = d
      · rw [if_pos e2.symm, if_pos e2]
      · rw [if_neg (Ne.symm e2), if_neg e2]; rfl
  have hlset : ∀ i, i ≠ j → lam.set j w.heap.size i = lam i := fun i hi => if_neg hi
  have hclear : ∀ x, (look x tn = some j ∧ clearT tn j T x = undef) ∨ (look x tn ≠ some j ∧ clearT tn j T x = T x) := by
    intro x
    unfold clearT
    cases hl : look x tn with
    | none => exact .inr ⟨by simp, rfl⟩
    | some q =>
      simp only
      cases hb : Nat.beq q j with
      | true => have := Nat.eq_of_beq_eq_true hb; subst this; exact .inl ⟨rfl, rfl⟩
      | false => have := Nat.ne_of_beq_eq_false hb; exact .inr ⟨by simpa using this, rfl⟩
  constructor
  · exact hs.later hold hsz
  · refine ⟨fun i b hi => ?_, fun i b hi x y hx hy => ?_, fun i i' b hi hi' => ?_⟩
    · unfold Lam.set at hi
      split at hi
      · cases hi; exact ⟨hlo, by simp⟩
      · have := hlam.lo i b hi; exact ⟨this.1, Nat.lt_of_lt_of_le this.2 hsz⟩
    · unfold Lam.set at hi
      split at hi
      · cases hi; have := hs.own_lt hx hy; omega
      · exact hlam.excl i b hi x y hx hy
    · unfold Lam.set at hi hi'
      split at hi
      · cases hi
        split at hi'
        · rename_i h1 h2; rw [h1, h2]
        · have := (hlam.lo i' _ hi').2; omega
      · split at hi'
        · cases hi'; have := (hlam.lo i _ hi).2; omega
        · exact hlam.inj i i' b hi hi'
  · exact .refl _
  · intro b _; rfl
  · intro b x hx hb; exact absurd (hs.dom b x hx) (by omega)
  · intro c hc _ _; exact hold c hc
  · intro i b hi hni
    have hij : i ≠ j := fun e => hni (by simp [e])
    exact ⟨by rw [hlset i hij]; exact hi, hold b (hlam.lo i b hi).2⟩
  · intro x i hx hnx
    have hij : i ≠ j := fun e => by
      subst e
      exact hnx (by simp [pointing_mem hx])
    exact hlset i hij
  · intro i b hi
    unfold Lam.set at hi
    split at hi
    · cases hi; exact .inr (Nat.le_refl _)
    · exact .inl hi
  · exact hsz
  · rfl
  · rfl
  · rfl
  · exact Nat.le_refl _
  · intro _ _ h; exact h
  · intro x hx
    rw [hT x]
    by_cases e1 : x = j
    · rw [if_pos e1]
      subst e1
      unfold NRel
      rw [if_neg (by omega)]
      intro cells hcells
      rw [hc] at hcells
      cases hcells
      exact ⟨w.heap.size, cs', e, (0, 0), by unfold Lam.set; simp, hnew, .inl rfl, by simpa using hrel⟩
    · rw [if_neg e1]
      by_cases e2 : x = d
      · rw [if_pos e2]
        subst e2
        unfold NRel
        rw [if_pos hdn, hld, hod, tmps_eq (by omega)]
        exact .inr ⟨0, w.heap.size, rfl, by unfold Lam.set; simp, rfl⟩
      · rw [if_neg e2]
        have hxp : x ∈ pointing j tn := by
          rw [hod] at hx
          simp [e1, e2] at hx
          exact hx
        have hr := hn x hxp
        unfold NRel at hr ⊢
        have hte : (a.put o.dst (.pointer (some ⟨w.heap.size, 0, none⟩))).tmps.getD x undef = a.tmps.getD x undef := tmps_ne (by rw [hod]; simp [e2])
        rw [hte]
        rcases hclear x with ⟨hl, he⟩ | ⟨hl, he⟩
        · obtain ⟨_, hxn, _⟩ := tnOk_mem htn hl
          rw [if_pos hxn, hl, he]
          exact .inl ⟨_, rfl⟩
        · rw [he]
          by_cases hxn : x < n
          · rw [if_pos hxn] at hr ⊢
            cases hq : look x tn with
            | none => rw [hq] at hr; exact hr
            | some q =>
              rw [hq] at hr
              have hqj : q ≠ j := fun e => hl (by rw [hq, e])
              rcases hr with h | ⟨off, blk, h1, h2, h3⟩
              · exact .inl h
              · exact .inr ⟨off, blk, h1, by rw [hlset q hqj]; exact h2, h3⟩
          · rw [if_neg hxn] at hr ⊢
            intro cells hcells
            obtain ⟨blk, cs2, e2', fz, h1, h2, h3⟩ := hr cells hcells
            exact ⟨blk, cs2, e2', fz, by rw [hlset x e1]; exact h1, by rw [hold blk (hlam.lo x blk h1).2]; exact h2, h3⟩
  · intro x hx
    have e1 : x ≠ j := fun e => hx (by simp [e])
    have e2 : x ≠ d := fun e => hx (by rw [hod]; simp [e])
    rw [hT x, if_neg e1, if_neg e2]
    rcases hclear x with ⟨hl, _⟩ | ⟨_, he⟩
    · exact absurd (pointing_mem hl) (fun hh => hx (by simp [hh]))
    · exact he

/-- memory that differs in one place's block alone -/
theorem Sim.other {w' : World} (hs : Sim wb ι s.heap w) {blk : Nat} (hro : ∀ b n cells, s.heap[b]? = some (.row n cells .ro) → ∀ l, ι b = some l → l.blk ≠ blk) (hex : ∀ a y, ownB s.heap[a]? = true → ι a = some y → y.blk ≠ blk) (hk : ∀ c, c ≠ blk → w'.heap[c]? = w.heap[c]?) (hz : w.heap.size ≤ w'.heap.size) : Sim wb ι s.heap w' where
  dom := hs.dom
  row b n cells st h1 hst l hl := by
    obtain ⟨cs, e, fz, q1, q2, q3⟩ := hs.row b n cells st h1 hst l hl
    refine ⟨cs, e, fz, ?_, q2, q3⟩
    rw [hk]
    · exact q1
    · cases st with
      | dead => exact absurd rfl hst
      | ro => exact hro b n cells h1 l hl
      | act => exact hex b l (by rw [h1]; rfl) hl
  map b es clock h1 l hl := by
    obtain ⟨q1, q2, es', q3, q4⟩ := hs.map b es clock h1 l hl
    exact ⟨q1, q2, es', by rw [hk _ (hex b l (by rw [h1]; rfl) hl)]; exact q3, q4⟩
  excl := hs.excl
  size := Nat.le_trans hs.size hz
  loc := hs.loc

theorem All2.putUpd {ι : Emb} {cells vs vs' : List Value} {cs : Array Value} {off : Nat} (h : All2 (L2 ι) cells cs.toList) (hv : All2 (L2 ι) vs vs') (hl : off + vs.length ≤ cells.length) : All2 (L2 ι) (putCells cells off vs) (updA cs off vs').toList := by
  have h1 := h.length
  have h2 := hv.length
  simp at h1
  refine All2.of_get (by rw [putCells_length _ _ _ hl]; simp [updA_size, h1]) fun i x x' hx hx' => ?_
  rw [putCells_get _ _ _ hl] at hx
  have hx' : (updA cs off vs')[i]? = some x' := by simpa using hx'
  have old : ∀ i x, cells[i]? = some x → cs[i]? = some x' → L2 ι x x' := fun i x hx hx' => by
    obtain ⟨y, hy, hr⟩ := h.get i x hx
    have : cs[i]? = some y := by simpa using hy
    rw [hx'] at this
    cases this
    exact hr
  by_cases c1 : i < off
  · rw [if_pos c1] at hx
    rw [updA_lt _ _ _ _ c1] at hx'
    exact old i x hx hx'
  · rw [if_neg c1] at hx
    by_cases c2 : i < off + vs.length
    · rw [if_pos c2] at hx
      have := updA_in vs' cs off (i - off) (by omega) (by omega)
      rw [show off + (i - off) = i by omega, hx'] at this
      obtain ⟨y, hy, hr⟩ := hv.get _ x hx
      rw [hy] at this
      cases this
      exact hr
    · rw [if_neg c2] at hx
      rw [updA_ge _ _ _ _ (by omega)] at hx'
      exact old i x hx hx'

/-- one operation -/
theorem opB_on (hcall : CallOk P call) (hro : ∀ j blk, lam j = some blk → ∀ b n cells, s.heap[b]? = some (.row n cells .ro) → ∀ l, ι b = some l → l.blk ≠ blk) (hlo : lo ≤ w.heap.size) (htn : tnOk n m tn = true) (hz : a.tmps.size = n) (hdb : dstB n o.dst = true) (hb : operB a.tmps.size o = true)
    {T1 : Fr} {s1 : St} (h : opB P call tn T o s (fun T s => some (T, s)) = some (T1, s1)) (hs : Sim wb ι s.heap w) (hlam : LamOk lo ι s.heap lam w)
    (hn : ∀ x, x ∈ opTmps o ∨ (locK tn o = .ld x ∨ locK tn o = .st x) ∨ x ∈ setsB tn o → NRel tn n ι lam w a.tmps x (T x)) :
    OpOk P o a w (fun v' w' => ∃ ι' lam', AfterL tn n wb lo ι lam s.heap w T (setsB tn o) ι' lam' s1.heap w' T1 (a.put o.dst v').tmps) := by
  have hmem : ∀ t, Operand.tmp t ∈ o.op.operands → t ∈ opTmps o := fun t ht => List.mem_filterMap.2 ⟨.tmp t, by simpa using ht, rfl⟩
  have hlt : ∀ t, Operand.tmp t ∈ o.op.operands → t < n := fun t ht => by
    have := List.all_eq_true.1 hb (.tmp t) (by simpa using ht)
    rw [← hz]; simpa [opdB] using this
  have hnm : ∀ t, Operand.tmp t ∈ o.op.operands → match look t tn with | none => VRel ι (T t) (a.tmps.getD t undef) | some j => PtRel lam j (T t) (a.tmps.getD t undef) := fun t ht => by
    have := hn t (.inl (hmem t ht))
    unfold NRel at this
    rw [if_pos (hlt t ht)] at this
    exact this
  have hopd : ∀ y, y ∈ o.op.operands → cleanO tn y = true → ∀ v, opd T y = some v → VRel ι v (a.eval y) := by
    intro y hy hc v hv
    cases y with
    | tmp t =>
      simp only [opd, Option.some.injEq] at hv
      subst hv
      have := hnm t hy
      have hl : look t tn = none := by simpa [cleanO, tOf] using hc
      rw [hl] at this
      exact this
    | const u =>
      simp only [opd] at hv
      split at hv
      · rename_i hc; cases hv; exact constOk_rel hc
      · cases hv
    | global g => simp [opd] at hv
    | func f => simp only [opd, Option.some.injEq] at hv; subst hv; exact .of0 (.func _)
  unfold opB at h
  cases hk : locK tn o with
  | bad => simp [hk] at h
  | glob =>
    simp only [hk] at h
    have hcln : o.op.operands.toList.all (cleanO tn) = true ∧ dOf tn o = none := by
      have key : globK tn o = .glob := by
        unfold locK at hk
        split at hk
        · split at hk <;> first | exact hk | cases hk
        · split at hk
          · rename_i x _ _ _ _; cases hcx : cleanO tn x <;> rw [hcx] at hk <;> cases hk
          · exact hk
        · split at hk
          · cases hcx : (dOf tn o).isNone <;> rw [hcx] at hk <;> cases hk
          · exact hk
        · split at hk
          · rename_i x y ho j2 hq _; cases hcx : (cleanO tn y && (dOf tn o).isNone) <;> rw [hcx] at hk <;> cases hk
          · exact hk
        · split at hk
          · rename_i j2 hq; cases hcx : sameO (dOf tn o) j2 <;> rw [hcx] at hk <;> cases hk
          · exact hk
        · split at hk
          · rename_i j2 hq; cases hcx : sameO (dOf tn o) j2 <;> rw [hcx] at hk <;> cases hk
          · exact hk
        · split at hk
          · rename_i j2 hq; cases hcx : sameO (dOf tn o) j2 <;> rw [hcx] at hk <;> cases hk
          · exact hk
        · split at hk
          · rename_i j2 hq; cases hcx : sameO (dOf tn o) j2 <;> rw [hcx] at hk <;> cases hk
          · exact hk
        · split at hk
          · rename_i y ho _ j2 hq; cases hcx : (cleanO tn y && sameO (dOf tn o) j2) <;> rw [hcx] at hk <;> cases hk
          · exact hk
        · exact hk
      unfold globK at key
      cases hc : (o.op.operands.toList.all (cleanO tn) && (dOf tn o).isNone) with
      | false => rw [hc] at key; cases key
      | true => simp only [Bool.and_eq_true] at hc; exact ⟨hc.1, by simpa using hc.2⟩
    have he : ∃ v, evalOp P call T o s (fun v s => some (v, s)) = some (v, s1) ∧ T1 = putT T o.dst v := by
      rw [evalOp_cps] at h
      simp only [Option.bind_eq_some_iff] at h
      obtain ⟨⟨v, s2⟩, h1, h2⟩ := h
      cases h2
      exact ⟨v, h1, rfl⟩
    obtain ⟨v, he, rfl⟩ := he
    have hset : setsB tn o = o.dst.toList := by unfold setsB; rw [hk]
    rw [hset]
    refine (evalOp_names hcall he hs (fun x hx _ => ?_) hb).mono fun v' w' hA => ?_
    · obtain ⟨y, hy, hyx⟩ := List.mem_filterMap.1 hx
      cases y with
      | tmp t =>
        simp only [Option.some.injEq] at hyx
        subst hyx
        exact hopd (.tmp t) (by simpa using hy) (List.all_eq_true.1 hcln.1 _ hy) _ rfl
      | _ => cases hyx
    · obtain ⟨ι', h2⟩ := after_glob (n := n) (tn := tn) (T := T) hz hdb hlam hA hcln.2
      exact ⟨ι', lam, h2⟩
  | ptr j =>
    simp only [hk] at h
    have he : ∃ v, evalOp P call T o s (fun v s => some (v, s)) = some (v, s1) ∧ T1 = putT T o.dst v := by
      rw [evalOp_cps] at h
      simp only [Option.bind_eq_some_iff] at h
      obtain ⟨⟨v, s2⟩, h1, h2⟩ := h
      cases h2
      exact ⟨v, h1, rfl⟩
    obtain ⟨v, he, rfl⟩ := he
    have hset : setsB tn o = o.dst.toList := by unfold setsB; rw [hk]
    rw [hset]
    obtain ⟨rfl, hd, hok⟩ := ptr_ok (lam := lam) hs hk he (fun x hx hxl => by
      have := hn x (.inl hx)
      unfold NRel at this
      rw [if_pos (by omega)] at this
      exact this) hb
    refine hok.mono fun v' w' ⟨h1, h2, h3, h4, h5, h6⟩ => ⟨ι, lam, after_same_mem hz hdb hs hlam h1 h2 h3 h4 h5 ?_⟩
    rw [hd]
    exact h6
  | mk j =>
    simp only [hk] at h
    have hset : setsB tn o = j :: (o.dst.toList ++ pointing j tn) := by unfold setsB; rw [hk]
    have hn' : ∀ x ∈ pointing j tn, NRel tn n ι lam w a.tmps x (T x) := fun x hx => hn x (.inr (.inr (by rw [hset]; simp [hx])))
    rw [hset]
    have noglob : globK tn o ≠ .mk j := by unfold globK; cases (o.op.operands.toList.all (cleanO tn) && (dOf tn o).isNone) <;> simp
    split at h
    · -- alloc
      rename_i e ho
      have hd : dOf tn o = some j := by
        simp only [locK, ho] at hk
        split at hk
        · rename_i q hq; cases hk; exact hq
        · exact absurd hk noglob
      simp only [Option.bind_eq_some_iff] at h
      obtain ⟨z, hzz, c, hc, h⟩ := h
      cases h
      obtain ⟨hl, hc⟩ := lbox_some hc
      obtain ⟨i, _, _, hco⟩ := zeroT_info hzz
      refine .inl ⟨.pointer (some ⟨w.heap.size, 0, none⟩), w.alloc (.cells z.cells e), ?_, ι, _, after_mk hlo htn hz hs hlam hd hn' hc (constOk_cells hco)⟩
      simp [execOp, ho, Instr.alloc, run_zeroValue' hzz, newVar, newRow]
    · -- box
      rename_i e x ho
      have hd : dOf tn o = some j ∧ cleanO tn x = true := by
        simp only [locK, ho] at hk
        split at hk
        · rename_i q hq
          cases hcx : cleanO tn x with
          | false => rw [hcx] at hk; cases hk
          | true => rw [hcx] at hk; cases hk; exact ⟨hq, rfl⟩
        · exact absurd hk noglob
      simp only [Option.bind_eq_some_iff] at h
      obtain ⟨v, hv, c, hc, h⟩ := h
      cases h
      obtain ⟨hl, hc⟩ := lbox_some hc
      have hr := hopd x (by simp [ho, Op.operands]) hd.2 v hv
      refine .inl ⟨.pointer (some ⟨w.heap.size, 0, none⟩), w.alloc (.cells (a.eval x).cells e), ?_, ι, _, after_mk hlo htn hz hs hlam hd.1 hn' hc (hr.cells hl)⟩
      simp [execOp, ho, Instr.box, newVar, newRow]
    · cases h
  | ld j =>
    simp only [hk] at h
    have hset : setsB tn o = o.dst.toList := by unfold setsB; rw [hk]
    rw [hset]
    have noglob : globK tn o ≠ .ld j := by unfold globK; cases (o.op.operands.toList.all (cleanO tn) && (dOf tn o).isNone) <;> simp
    split at h
    · rename_i t x ho
      have hd : tOf tn x = some j ∧ dOf tn o = none := by
        simp only [locK, ho] at hk
        split at hk
        · rename_i q hq
          cases hcx : (dOf tn o).isNone with
          | false => rw [hcx] at hk; cases hk
          | true => rw [hcx] at hk; cases hk; exact ⟨hq, by simpa using hcx⟩
        · exact absurd hk noglob
      obtain ⟨tx, rfl, hlx⟩ := tOf_some hd.1
      have hp := hnm tx (by simp [ho, Op.operands])
      rw [hlx] at hp
      have hjn := (tnOk_mem htn hlx).2.2
      have hsl := hn j (.inr (.inl (.inl hk)))
      unfold NRel at hsl
      rw [if_neg (by omega)] at hsl
      simp only [opd, getT, Option.bind_some, Option.bind_eq_some_iff] at h
      obtain ⟨ag, hag, n2, hn2, v, hv, h⟩ := h
      cases h
      rcases hp with ⟨q, hq⟩ | ⟨off, blk, h1, h2, h3⟩
      · rw [hq] at hv; cases hv
      · rw [h1] at hv
        unfold lload at hv
        split at hv
        · rename_i b2 off2 sp cs heq hcs
          cases heq
          obtain ⟨blk', cs', e', fz, q1, q2, q3, q4⟩ := hsl cs hcs
          rw [h2] at q1
          cases q1
          have he : a.eval (.tmp tx) = .pointer (some ⟨blk, off, none⟩) := h3
          have hlen : cs.size = cs'.size := by have := q4.length; simpa using this
          cases ag with
          | true =>
            simp only [if_true] at hv
            split at hv
            case isFalse => cases hv
            rename_i hle
            cases hv
            have hrun := run_loadCells_of (P := P) (n := n2) (off := off) q2 (.inr (by omega))
            refine .inl ⟨.agg ((cs'.toList.drop off).take n2).toArray, w, ?_, ι, lam, after_same_mem hz hdb hs hlam (fun _ _ => rfl) (Nat.le_refl _) rfl rfl rfl ?_⟩
            · simp [execOp, ho, Instr.loadAt, Instr.sureAddr, he, loadVar, run_isAgg' hag, run_sizeOf' hn2, hrun]
            · rw [hd.2]
              exact .va (.agg (by simpa using (q4.drop off).take n2))
          | false =>
            simp only [Bool.false_eq_true, if_false] at hv
            obtain ⟨v', g1, g2⟩ := q4.get off v hv
            have hcell : w.cell? ⟨blk, off, none⟩ = some v' := by rw [cell?_of q2]; simpa using g1
            refine .inl ⟨v', w, ?_, ι, lam, after_same_mem hz hdb hs hlam (fun _ _ => rfl) (Nat.le_refl _) rfl rfl rfl ?_⟩
            · simp [execOp, ho, Instr.loadAt, Instr.sureAddr, he, loadVar, run_isAgg' hag, hcell]
            · rw [hd.2]
              exact .of2 g2
        · cases hv
    · cases h
  | st j =>
    simp only [hk] at h
    have hset : setsB tn o = j :: o.dst.toList := by unfold setsB; rw [hk]
    rw [hset]
    have noglob : globK tn o ≠ .st j := by unfold globK; cases (o.op.operands.toList.all (cleanO tn) && (dOf tn o).isNone) <;> simp
    split at h
    · rename_i t x y ho
      have hd : tOf tn x = some j ∧ cleanO tn y = true ∧ dOf tn o = none := by
        simp only [locK, ho] at hk
        split at hk
        · rename_i q hq
          cases hcx : (cleanO tn y && (dOf tn o).isNone) with
          | false => rw [hcx] at hk; cases hk
          | true =>
            rw [hcx] at hk
            cases hk
            simp only [Bool.and_eq_true] at hcx
            exact ⟨hq, hcx.1, by simpa using hcx.2⟩
        · exact absurd hk noglob
      obtain ⟨tx, rfl, hlx⟩ := tOf_some hd.1
      have hp := hnm tx (by simp [ho, Op.operands])
      rw [hlx] at hp
      have hjn := (tnOk_mem htn hlx).2.2
      have hsl := hn j (.inr (.inl (.inr hk)))
      unfold NRel at hsl
      rw [if_neg (by omega)] at hsl
      simp only [Option.bind_eq_some_iff] at h
      obtain ⟨va, hva, v, hv0, n2, hn2, c, hc, h⟩ := h
      simp only [opd, getT, Option.some.injEq] at hva
      subst hva
      cases h
      have hvr := hopd y (by simp [ho, Op.operands]) hd.2.1 v hv0
      rcases hp with ⟨q, hq⟩ | ⟨off, blk, h1, h2, h3⟩
      · rw [hq] at hc; cases hc
      · rw [h1] at hc
        unfold lstore at hc
        split at hc
        · rename_i b2 off2 sp cs heq hcs
          cases heq
          split at hc
          case isFalse => cases hc
          rename_i hcond
          cases hc
          obtain ⟨blk', cs', e', fz, q1, q2, q3, q4⟩ := hsl cs hcs
          rw [h2] at q1
          cases q1
          have he : a.eval (.tmp tx) = .pointer (some ⟨blk, off, none⟩) := h3
          have hlen : cs.size = cs'.size := by have := q4.length; simpa using this
          have hvs := hvr.cells hcond.2.1
          have hvl := hvs.length
          have hc1 := hcond.1
          have hc2 := hcond.2.2
          obtain ⟨w', r1, r2, r3, r4, r5, r6, r7, r8⟩ := run_storeCells (P := P) (b := blk) (off := off) (a.eval y).cells.toList 0 w cs' q2 q3.no (by omega) hvs.leaf
          have hblk := hlam.lo j blk h2
          have hjd : j ∉ o.dst.toList := fun hh => by
            cases hdd : o.dst with
            | none => rw [hdd] at hh; simp at hh
            | some d =>
              rw [hdd] at hh hdb
              have h5 : d < n := by simpa [dstB] using hdb
              have h6 : j = d := by simpa using hh
              rw [← h6] at h5
              exact absurd h5 (Nat.not_lt.2 hjn)
          have hTj : putT (setT T j (.agg (putCells cs.toList off (cellsV v)).toArray)) o.dst undef j = .agg (putCells cs.toList off (cellsV v)).toArray := by
            rw [putT_ne hjd]
            have := getT_setT T (.agg (putCells cs.toList off (cellsV v)).toArray) j j
            rw [if_pos rfl] at this
            exact this
          have hTne : ∀ x, x ≠ j → setT T j (.agg (putCells cs.toList off (cellsV v)).toArray) x = T x := fun x hx => by
            have := getT_setT T (.agg (putCells cs.toList off (cellsV v)).toArray) j x
            rw [if_neg (Ne.symm hx)] at this
            exact this
          refine .inr (.inl ⟨w', ?_, ι, lam, ?_⟩)
          · have hsz : (a.eval y).cells.size = n2 := by
              have := hvs.length
              rw [hcond.1] at this
              simpa using this.symm
            simp [execOp, ho, Instr.storeAt, Instr.sureAddr, he, storeVar, run_sizeOf' hn2, hsz, r1]
          · constructor
            · exact hs.other (hro j blk h2) (fun a y ha hy => hlam.excl j blk h2 a y ha hy) r3 (by rw [r4]; exact Nat.le_refl _)
            · exact ⟨fun i b hi => by rw [r4]; exact hlam.lo i b hi, hlam.excl, hlam.inj⟩
            · exact .refl _
            · intro _ _; rfl
            · intro b x hx hb; exact absurd (hs.dom b x hx) (by omega)
            · intro c hc _ hnl; exact r3 c fun e => hnl j (by rw [e]; exact h2)
            · intro i b hi hni
              refine ⟨hi, r3 b fun e => hni ?_⟩
              rw [hlam.inj i j blk (by rw [← e]; exact hi) h2]
              simp
            · intro _ _ _ _; rfl
            · intro _ _ hj; exact .inl hj
            · rw [r4]; exact Nat.le_refl _
            · exact r5
            · exact r6
            · exact r7
            · exact Nat.le_refl _
            · intro _ _ h; exact h
            · intro x hx
              by_cases exj : x = j
              · subst exj
                rw [hTj]
                unfold NRel
                rw [if_neg (by omega)]
                intro cells hcells
                cases hcells
                refine ⟨blk, _, e', fz, h2, r2, by rw [updA_size]; exact q3, ?_⟩
                have hcell : (putCells cs.toList off (cellsV v)).toArray.toList = putCells cs.toList off (cellsV v) := by simp
                rw [hcell]
                exact q4.putUpd hvs (by have := hcond.1; have := hcond.2.2; simp; omega)
              · have hxd : x ∈ o.dst.toList := by simpa [exj] using hx
                refine nrel_dst (v := undef) hz hdb hxd ?_ (by rw [hd.2.2]; exact undef_rel ι)
                cases hdd : o.dst with
                | none => rw [hdd] at hxd; simp at hxd
                | some d => rw [hdd] at hxd; simp at hxd; subst hxd; exact putT_eq
            · intro x hx
              simp at hx
              rw [putT_ne (by simpa using hx.2), hTne x hx.1]
        · cases hc
    · cases h

end
end Go.Proofs.Ytamaapapaiopiaa.Ab
