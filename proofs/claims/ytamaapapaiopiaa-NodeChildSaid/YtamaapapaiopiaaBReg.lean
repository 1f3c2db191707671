/- The abstract machine with variables in the frame, against the model: regions in the text's order. -/
import Derived.Test.YtamaapapaiopiaaBOp
set_option linter.unusedVariables false
set_option linter.unusedSimpArgs false
set_option linter.unusedSectionVars false
namespace Go.Proofs.Ytamaapapaiopiaa.Ab
open Go

def guardB (n : Nat) (ops : Array Oper) (o : Oper) : Bool :=
  match o.guard with
  | none => true
  | some (j, _) => match (ops[j]?).bind (·.dst) with
    | some d => decide (d < n)
    | none => true
def operBB (n : Nat) (ops : Array Oper) (o : Oper) : Bool := operB n o && dstB n o.dst && guardB n ops o

/-- the whole frame corresponds -/
structure BSim (tn : Tn) (n wb : Nat) (ι0 : Emb) (H0 : List Blk) (w0 : World) (ι : Emb) (lam : Lam) (T : Fr) (H : List Blk) (tmps : Array Value) (w : World) : Prop where
  sim : Sim wb ι H w
  lok : LamOk w0.heap.size ι H lam w
  step : Step ι0 H0 w0 ι H w
  nm : ∀ x, NRel tn n ι lam w tmps x (T x)

theorem dst_sets {tn : Tn} {o : Oper} {x : Nat} (h : x ∈ o.dst.toList) : x ∈ setsB tn o := by
  unfold setsB
  split <;> simp_all

section
variable {P : Program} {call : Caller} {tn : Tn} {n m wb : Nat} {ι0 : Emb} {H0 : List Blk} {w0 : World} {ι : Emb} {lam : Lam} {a : Act} {w : World} {s : St} {T : Fr} {o : Oper}

theorem NRel.keep {H : List Blk} {lo : Nat} {sets : List Nat} {ι' : Emb} {lam' : Lam} {K : List Blk} {w' : World} {T' : Fr} {tmps tmps' : Array Value} (h : AfterL tn n wb lo ι lam H w T sets ι' lam' K w' T' tmps')
    (hlt : ∀ j b, lam j = some b → b < w.heap.size) {x : Nat} (hx : x ∉ sets) (ht : tmps'.getD x undef = tmps.getD x undef) {u : Value} (hr : NRel tn n ι lam w tmps x u) : NRel tn n ι' lam' w' tmps' x u := by
  unfold NRel at hr ⊢
  split
  · rename_i hxn
    rw [if_pos hxn] at hr
    rw [ht]
    cases hl : look x tn with
    | none => rw [hl] at hr; exact hr.mono h.le
    | some j =>
      rw [hl] at hr
      rcases hr with h1 | ⟨off, blk, h1, h2, h3⟩
      · exact .inl h1
      · exact .inr ⟨off, blk, h1, by rw [h.keepP x j hl hx]; exact h2, h3⟩
  · rename_i hxn
    rw [if_neg hxn] at hr
    intro cells hc
    obtain ⟨blk, cs, e, fz, h1, h2, h3, h4⟩ := hr cells hc
    obtain ⟨g1, g2⟩ := h.keepL x blk h1 hx
    exact ⟨blk, cs, e, fz, g1, by rw [g2]; exact h2, h3, h4.mono fun _ _ => L2.mono h.le⟩

theorem Step.afterL {H : List Blk} {sets : List Nat} {ι' : Emb} {lam' : Lam} {K : List Blk} {w' : World} {T' : Fr} {tmps' : Array Value} (h : Step ι0 H0 w0 ι H w) (hlok : LamOk w0.heap.size ι H lam w) (g : AfterL tn n wb w0.heap.size ι lam H w T sets ι' lam' K w' T' tmps') : Step ι0 H0 w0 ι' K w' where
  le := h.le.trans g.le
  old b hb := (g.old b (Nat.lt_of_lt_of_le hb h.len)).trans (h.old b hb)
  img b x e hb := by
    by_cases hk : b < H.length
    · rw [g.old b hk] at e
      exact h.img b x e hb
    · rcases g.img b x e (by omega) with h1 | ⟨a, y, ha, hy, he⟩
      · exact .inl (Nat.le_trans h.size h1)
      · by_cases hH : a < H0.length
        · rw [h.old a hH] at hy
          exact .inr ⟨a, y, h.own a hH ha, hy, he⟩
        · rcases h.img a y hy (by omega) with h2 | ⟨a', y', ha', hy', he'⟩
          · exact .inl (he ▸ h2)
          · exact .inr ⟨a', y', ha', hy', he'.trans he⟩
  keep c hc hn := by
    rw [g.keep c (Nat.lt_of_lt_of_le hc h.size) ?_ ?_, h.keep c hc hn]
    · intro a y ha hy he
      by_cases hH : a < H0.length
      · rw [h.old a hH] at hy
        exact hn a y (h.own a hH ha) hy he
      · rcases h.img a y hy (by omega) with h2 | ⟨a', y', ha', hy', he'⟩
        · omega
        · exact hn a' y' ha' hy' (he'.trans he)
    · intro j hj
      have := (hlok.lo j c hj).1
      omega
  size := Nat.le_trans h.size g.size
  os := g.os.trans h.os
  tape := g.tape.trans h.tape
  output := g.output.trans h.output
  len := Nat.le_trans h.len g.len
  own a ha e := h.own a ha (g.own a (Nat.lt_of_lt_of_le ha h.len) e)

theorem BSim.after {H : List Blk} {ι' : Emb} {lam' : Lam} {K : List Blk} {w' : World} {T' : Fr} {v' : Value} (h : BSim tn n wb ι0 H0 w0 ι lam T H a.tmps w)
    (g : AfterL tn n wb w0.heap.size ι lam H w T (setsB tn o) ι' lam' K w' T' (a.put o.dst v').tmps) : BSim tn n wb ι0 H0 w0 ι' lam' T' K (a.put o.dst v').tmps w' where
  sim := g.sim
  lok := g.lok
  step := h.step.afterL h.lok g
  nm x := by
    by_cases hx : x ∈ setsB tn o
    · exact g.nm x hx
    · rw [g.frame x hx]
      exact NRel.keep g (fun j b hj => (h.lok.lo j b hj).2) hx (tmps_ne fun hh => hx (dst_sets hh)) (h.nm x)

theorem BSim.weak {H : List Blk} {tmps : Array Value} {T' : Fr} (h : BSim tn n wb ι0 H0 w0 ι lam T H tmps w) (hw : ∀ x, T' x = T x ∨ T' x = poisonV) : BSim tn n wb ι0 H0 w0 ι lam T' H tmps w :=
  ⟨h.sim, h.lok, h.step, fun x => by
    rcases hw x with e | e
    · rw [e]; exact h.nm x
    · rw [e]; exact .poison⟩

/-- memory where a value of no operation is set -/
theorem BSim.unset {H : List Blk} (hz : a.tmps.size = n) (hdb : dstB n o.dst = true) (h : BSim tn n wb ι0 H0 w0 ι lam T H a.tmps w) : BSim tn n wb ι0 H0 w0 ι lam (putT T o.dst undef) H (a.put o.dst undef).tmps w where
  sim := h.sim
  lok := h.lok
  step := h.step
  nm x := by
    by_cases hx : x ∈ o.dst.toList
    · cases hd : o.dst with
      | none => rw [hd] at hx; simp at hx
      | some d =>
        rw [hd] at hx hdb
        simp at hx
        subst hx
        have hlt : x < n := by simpa [dstB] using hdb
        unfold NRel
        rw [if_pos hlt, putT_eq, tmps_eq (by omega)]
        split
        · exact undef_rel ι
        · exact .inl ⟨_, rfl⟩
    · rw [putT_ne hx]
      have := h.nm x
      unfold NRel at this ⊢
      rw [tmps_ne hx]
      exact this

/-! ### Guards -/
theorem VRel.inv_undef {v : Value} (h : VRel ι (.tuple #[]) v) : v = .tuple #[] := by
  have h2 := h.inv_tuple (by simp)
  obtain ⟨a', e, hh⟩ := h2
  subst e
  have := hh.length
  simp at this
  have : a' = #[] := by
    apply Array.eq_empty_of_size_eq_zero
    omega
  rw [this]

theorem wanted_bool {ops : Array Oper} {g : Nat × Bool} (ho : o.guard = some g) {t : Nat} (ht : guardT ops g = some t) (htn : t < a.tmps.size) {b : Bool} (hv : a.tmps.getD t undef = .bool b) : Region.wanted o (yielded ops a.tmps) = decide (b = g.2) := by
  obtain ⟨j, want⟩ := g
  unfold Region.wanted
  simp only [ho]
  unfold yielded
  unfold guardT at ht
  simp only at ht ⊢
  rw [ht]
  simp only [Option.bind_some]
  have : a.tmps[t]? = some (.bool b) := by
    rw [Array.getElem?_eq_getElem htn]
    simp [Array.getD, htn] at hv
    rw [hv]
  rw [this]
  cases b <;> cases want <;> rfl
theorem wanted_undef {ops : Array Oper} {g : Nat × Bool} (ho : o.guard = some g) {t : Nat} (ht : guardT ops g = some t) (htn : t < a.tmps.size) (hv : a.tmps.getD t undef = .tuple #[]) : Region.wanted o (yielded ops a.tmps) = false := by
  obtain ⟨j, want⟩ := g
  unfold Region.wanted
  simp only [ho]
  unfold yielded
  unfold guardT at ht
  simp only at ht ⊢
  rw [ht]
  simp only [Option.bind_some]
  have : a.tmps[t]? = some (.tuple #[]) := by
    rw [Array.getElem?_eq_getElem htn]
    simp [Array.getD, htn] at hv
    rw [hv]
  rw [this]
  rfl

/-- which way a guard goes -/
theorem guardV_ways {β : Type} {v : Value} {want : Bool} {x y : Option β} {r : β} (h : guardV v want x y = some r) : (v = .bool want ∧ x = some r) ∨ ((v = .bool (!want) ∨ v = .tuple #[]) ∧ y = some r) := by
  unfold guardV at h
  split at h
  · rename_i b
    split at h
    · rename_i hb; exact .inl ⟨by rw [hb], h⟩
    · rename_i hb
      refine .inr ⟨.inl ?_, h⟩
      cases b <;> cases want <;> simp_all
  · rename_i q
    split at h
    · rename_i hb
      have : q = #[] := by simpa using hb
      exact .inr ⟨.inr (by rw [this]), h⟩
    · cases h
  · cases h

/-- the guard's temporary, concretely -/
theorem guard_conc {ops : Array Oper} {g : Nat × Bool} (ho : o.guard = some g) {t : Nat} (ht : guardT ops g = some t) (hc : lookC t tn = true) (hz : a.tmps.size = n) (hgb : guardB n ops o = true) {u : Value} (hr : NRel tn n ι lam w a.tmps t u) :
    t < n ∧ (∀ b, u = .bool b → Region.wanted o (yielded ops a.tmps) = decide (b = g.2)) ∧ (u = .tuple #[] → Region.wanted o (yielded ops a.tmps) = false) := by
  have hlt : t < n := by
    unfold guardB at hgb
    unfold guardT at ht
    obtain ⟨j, want⟩ := g
    simp only [ho] at hgb
    simp only at ht
    rw [ht] at hgb
    simpa using hgb
  unfold NRel at hr
  have hl : look t tn = none := by simpa [lookC] using hc
  rw [if_pos hlt, hl] at hr
  refine ⟨hlt, fun b hb => wanted_bool ho ht (by omega) (by rw [hb] at hr; exact hr.inv_bool), fun hu => wanted_undef ho ht (by omega) ?_⟩
  rw [hu] at hr
  exact hr.inv_undef

/-! ### Operations one behind the other -/
/-- what so many operations do, from the i-th on -/
def OpsDo (P : Program) (tn : Tn) (n wb : Nat) (ops : Array Oper) (i k : Nat) (T : Fr) (s : St) (T' : Fr) (s' : St) : Prop :=
  ∀ (X : Option Nat × Nat) (ι0 : Emb) (H0 : List Blk) (w0 : World) (ι : Emb) (lam : Lam) (a : Act) (w : World), wb ≤ w0.heap.size → BSim tn n wb ι0 H0 w0 ι lam T s.heap a.tmps w → a.tmps.size = n → ∀ (Q : Exit → Act → World → Prop) (rest : List Nat),
    (∀ ι' lam' a' w', BSim tn n wb ι0 H0 w0 ι' lam' T' s'.heap a'.tmps w' → a'.tmps.size = n → a'.defers = a.defers → wpOpsIn (FR X) X.2 P ops Q rest a' w') → wpOpsIn (FR X) X.2 P ops Q (List.range' i k ++ rest) a w

theorem OpsDo.nil {ops : Array Oper} {i : Nat} {T T' : Fr} (hw : ∀ x, T' x = T x ∨ T' x = poisonV) : OpsDo P tn n wb ops i 0 T s T' s   := fun _ _ _ _ ι lam a w _ h hz Q rest hQ => by
  simpa using hQ ι lam a w (h.weak hw) hz rfl
theorem OpsDo.weak {ops : Array Oper} {i k : Nat} {s1 : St} {T T' T2 : Fr} (h : OpsDo P tn n wb ops i k T s T' s1) (hw : ∀ x, T2 x = T' x ∨ T2 x = poisonV) : OpsDo P tn n wb ops i k T s T2 s1 := fun X ι0 H0 w0 ι lam a w hwb hs hz Q rest hQ =>
  h X ι0 H0 w0 ι lam a w hwb hs hz Q rest fun ι' lam' a' w' hs' => hQ ι' lam' a' w' (hs'.weak hw)
theorem OpsDo.trans {ops : Array Oper} {i k l : Nat} {T T1 T2 : Fr} {s s1 s2 : St} (h : OpsDo P tn n wb ops i k T s T1 s1) (g : OpsDo P tn n wb ops (i + k) l T1 s1 T2 s2) : OpsDo P tn n wb ops i (k + l) T s T2 s2 := by
  intro X ι0 H0 w0 ι lam a w hwb hs hz Q rest hQ
  have : List.range' i (k + l) ++ rest = List.range' i k ++ (List.range' (i + k) l ++ rest) := by
    rw [← List.append_assoc, List.range'_append_1]
  rw [this]
  refine h X ι0 H0 w0 ι lam a w hwb hs hz Q _ fun ι' lam' a' w' hs' hz' hd => ?_
  exact g X ι0 H0 w0 ι' lam' a' w' hwb hs' hz' Q rest fun ι2 lam2 a2 w2 hs2 hz2 hd2 => hQ ι2 lam2 a2 w2 hs2 hz2 (hd2.trans hd)

theorem operBB_parts {ops : Array Oper} (h : operBB n ops o = true) : operB n o = true ∧ dstB n o.dst = true ∧ guardB n ops o = true := by
  unfold operBB at h
  simp only [Bool.and_eq_true] at h
  exact ⟨h.1.1, h.1.2, h.2⟩

/-- one that is wanted -/
theorem opB_does (hcall : CallOk P call) (htn : tnOk n m tn = true) {ops : Array Oper} {i : Nat} (ho : ops[i]? = some o) (hbb : operBB n ops o = true) {T1 : Fr} {s1 : St} (h : opB P call tn T o s (fun T s => some (T, s)) = some (T1, s1))
    (hg : o.guard = none ∨ ∃ g t, o.guard = some g ∧ guardT ops g = some t ∧ lookC t tn = true ∧ T t = .bool g.2) : OpsDo P tn n wb ops i 1 T s T1 s1 := by
  intro X ι0 H0 w0 ι lam a w hwb hs hz Q rest hQ
  obtain ⟨hb1, hb2, hb3⟩ := operBB_parts hbb
  rw [List.range'_one, List.singleton_append, wpOpsIn_cons]
  unfold wpOpIn
  simp only [ho]
  have hw : Region.wanted o (yielded ops a.tmps) = true := by
    rcases hg with hg | ⟨g, t, h1, h2, h3, h4⟩
    · unfold Region.wanted; rw [hg]
    · rw [(guard_conc h1 h2 h3 hz hb3 (hs.nm t)).2.1 g.2 h4]
      simp
  rw [if_pos hw]
  refine ((opB_on hcall (fun j blk hj b n' cells hb l hl => (by
    obtain ⟨_, _, _, _, h1, _⟩ := hs.sim.row b n' cells .ro hb (by simp) l hl
    have := h1 rfl
    have := (hs.lok.lo j blk hj).1
    omega)) hs.step.size htn hz hb2 (by rw [hz]; exact hb1) h hs.sim hs.lok fun x _ => hs.nm x).wp fun v' w' ⟨ι', lam', hA⟩ => ?_)
  exact hQ ι' lam' _ w' (hs.after hA) (by rw [put_size]; exact hz) (put_defers _ _ _)

/-- one that is not -/
theorem skip_does {ops : Array Oper} {i : Nat} (ho : ops[i]? = some o) (hbb : operBB n ops o = true) {g : Nat × Bool} {t : Nat} (h1 : o.guard = some g) (h2 : guardT ops g = some t) (h3 : lookC t tn = true) (h4 : T t = .bool (!g.2) ∨ T t = .tuple #[]) :
    OpsDo P tn n wb ops i 1 T s (putT T o.dst undef) s := by
  intro X ι0 H0 w0 ι lam a w hwb hs hz Q rest hQ
  obtain ⟨hb1, hb2, hb3⟩ := operBB_parts hbb
  rw [List.range'_one, List.singleton_append, wpOpsIn_cons]
  unfold wpOpIn
  simp only [ho]
  have hw : Region.wanted o (yielded ops a.tmps) = false := by
    obtain ⟨_, g1, g2⟩ := guard_conc h1 h2 h3 hz hb3 (hs.nm t)
    rcases h4 with h4 | h4
    · rw [g1 _ h4]; cases g.2 <;> rfl
    · exact g2 h4
  rw [if_neg (by rw [hw]; simp)]
  exact ⟨fun _ _ => trivial, hQ ι lam _ w (hs.unset hz hb2) (by rw [put_size]; exact hz) (put_defers _ _ _)⟩

theorem opB_cps {β : Type} (k : Fr → St → Option β) : opB P call tn T o s k = (opB P call tn T o s fun T s => some (T, s)).bind fun r => k r.1 r.2 := by
  unfold opB
  cases hk : locK tn o with
  | bad => rfl
  | glob =>
    simp only
    rw [evalOp_cps, evalOp_cps (k := fun v s => some (putT T o.dst v, s)), Option.bind_assoc]
    rfl
  | ptr j =>
    simp only
    rw [evalOp_cps, evalOp_cps (k := fun v s => some (putT T o.dst v, s)), Option.bind_assoc]
    rfl
  | mk j => simp only; split <;> simp [Option.bind_assoc]
  | ld j => simp only; split <;> simp [Option.bind_assoc]
  | st j => simp only; split <;> simp [Option.bind_assoc]

/-- an operation leaves alone what it doesn't set -/
theorem opB_frame {T1 : Fr} {s1 : St} (h : opB P call tn T o s (fun T s => some (T, s)) = some (T1, s1)) {x : Nat} (hx : x ∉ setsB tn o) : T1 x = T x := by
  have hd : x ∉ o.dst.toList := fun hh => hx (dst_sets hh)
  unfold opB at h
  cases hk : locK tn o with
  | bad => simp [hk] at h
  | glob =>
    simp only [hk] at h
    rw [evalOp_cps] at h
    simp only [Option.bind_eq_some_iff] at h
    obtain ⟨⟨v, s2⟩, h1, h2⟩ := h
    cases h2
    exact putT_ne hd
  | ptr j =>
    simp only [hk] at h
    rw [evalOp_cps] at h
    simp only [Option.bind_eq_some_iff] at h
    obtain ⟨⟨v, s2⟩, h1, h2⟩ := h
    cases h2
    exact putT_ne hd
  | mk j =>
    have hset : setsB tn o = j :: (o.dst.toList ++ pointing j tn) := by unfold setsB; rw [hk]
    rw [hset] at hx
    simp at hx
    have key : ∀ c, mkT tn j o.dst c T x = T x := by
      intro c
      unfold mkT
      have h1 := getT_setT (putT (clearT tn j T) o.dst lptr) c j x
      rw [if_neg (Ne.symm hx.1)] at h1
      show getT (setT (putT (clearT tn j T) o.dst lptr) j c) x = _
      rw [h1]
      show putT (clearT tn j T) o.dst lptr x = _
      rw [putT_ne hd]
      unfold clearT
      cases hl : look x tn with
      | none => rfl
      | some q =>
        simp only
        cases hb : Nat.beq q j with
        | true =>
          have := Nat.eq_of_beq_eq_true hb
          subst this
          exact absurd (pointing_mem hl) hx.2.2
        | false => rfl
    simp only [hk] at h
    split at h
    · simp only [Option.bind_eq_some_iff] at h
      obtain ⟨z, _, c, _, h⟩ := h
      cases h; exact key c
    · simp only [Option.bind_eq_some_iff] at h
      obtain ⟨z, _, c, _, h⟩ := h
      cases h; exact key c
    · cases h
  | ld j =>
    simp only [hk] at h
    split at h
    · simp only [Option.bind_eq_some_iff] at h
      obtain ⟨_, _, _, _, _, _, v, _, h⟩ := h
      cases h; exact putT_ne hd
    · cases h
  | st j =>
    have hset : setsB tn o = j :: o.dst.toList := by unfold setsB; rw [hk]
    rw [hset] at hx
    simp at hx
    simp only [hk] at h
    split at h
    · simp only [Option.bind_eq_some_iff] at h
      obtain ⟨_, _, _, _, _, _, c, _, h⟩ := h
      cases h
      rw [putT_ne hd]
      have h1 := getT_setT T c j x
      rw [if_neg (Ne.symm hx.1)] at h1
      exact h1
    · cases h

/-- operations under one guard, or none -/
theorem seqB_does (hcall : CallOk P call) (htn : tnOk n m tn = true) {ops : Array Oper} {G : Option (Nat × Bool)} (hG : G = none ∨ ∃ g t, G = some g ∧ guardT ops g = some t ∧ lookC t tn = true) :
    ∀ {l : List Oper} {i : Nat} {T : Fr} {s : St} {β : Type} {k : Fr → St → Option β} {r : β}, (∀ j, j < l.length → l[j]? = ops[i + j]?) → (∀ o ∈ l, operBB n ops o = true ∧ o.guard = G) → (∀ g t, G = some g → guardT ops g = some t → T t = .bool g.2 ∧ noSet tn t l = true) →
      seqB P call tn l T s k = some r → ∃ T' s', k T' s' = some r ∧ OpsDo P tn n wb ops i l.length T s T' s' ∧ ∀ x, x ∉ setsL tn l → T' x = T x
  | [], i, T, s, β, k, r, _, _, _, h => ⟨T, s, h, .nil fun _ => .inl rfl, fun _ _ => rfl⟩
  | o :: l, i, T, s, β, k, r, hl, hb, hT, h => by
    simp only [seqB] at h
    rw [opB_cps] at h
    simp only [Option.bind_eq_some_iff] at h
    obtain ⟨⟨T1, s1⟩, h1, h2⟩ := h
    simp only at h2
    have ho : ops[i]? = some o := by have := hl 0 (by simp); simpa using this.symm
    have hfr := fun x hx => opB_frame (x := x) h1 hx
    obtain ⟨T2, s2, g1, g2, g3⟩ := seqB_does hcall htn hG (l := l) (i := i + 1) (fun j hj => by have := hl (j + 1) (by simp; omega); simpa [Nat.add_assoc, Nat.add_comm 1 j] using this) (fun o ho => hb o (List.mem_cons_of_mem _ ho)) (fun g t e1 e2 => by
      obtain ⟨e3, e4⟩ := hT g t e1 e2
      simp only [noSet, Bool.and_eq_true] at e4
      refine ⟨?_, e4.2⟩
      rw [hfr t]
      · exact e3
      · intro hm
        have := e4.1
        have hmem : memN t (setsB tn o) = true := by
          have : ∀ {l : List Nat}, t ∈ l → memN t l = true := by
            intro l hl
            induction l with
            | nil => simp at hl
            | cons y l ih =>
              simp only [memN]
              cases hb : Nat.beq t y with
              | true => rfl
              | false =>
                have := Nat.ne_of_beq_eq_false hb
                simp [this] at hl
                exact ih hl
          exact this hm
        rw [hmem] at this
        cases this) h2
    have hone : OpsDo P tn n wb ops i 1 T s T1 s1 := by
      refine opB_does hcall htn ho (hb o List.mem_cons_self).1 h1 ?_
      rcases hG with hG | ⟨g, t, e1, e2, e3⟩
      · exact .inl (by rw [(hb o List.mem_cons_self).2, hG])
      · exact .inr ⟨g, t, by rw [(hb o List.mem_cons_self).2, e1], e2, e3, (hT g t e1 e2).1⟩
    refine ⟨T2, s2, g1, ?_, fun x hx => ?_⟩
    · have := hone.trans g2
      rwa [Nat.add_comm] at this
    · simp [setsL] at hx
      rw [g3 x hx.2]; exact hfr x hx.1

theorem skips_does {ops : Array Oper} {g : Nat × Bool} {t : Nat} (h2 : guardT ops g = some t) (h3 : lookC t tn = true) :
    ∀ {l : List Oper} {i : Nat} {T : Fr} {s : St}, (∀ j, j < l.length → l[j]? = ops[i + j]?) → (∀ o ∈ l, operBB n ops o = true ∧ o.guard = some g) → (T t = .bool (!g.2) ∨ T t = .tuple #[]) → noSet tn t l = true →
      OpsDo P tn n wb ops i l.length T s (skipT l T) s ∧ ∀ x, x ∉ setsL tn l → skipT l T x = T x
  | [], i, T, s, _, _, _, _ => ⟨.nil fun _ => .inl rfl, fun _ _ => rfl⟩
  | o :: l, i, T, s, hl, hb, hT, hns => by
    have ho : ops[i]? = some o := by have := hl 0 (by simp); simpa using this.symm
    simp only [noSet, Bool.and_eq_true] at hns
    have htd : t ∉ o.dst.toList := by
      intro hm
      have hm2 := dst_sets (tn := tn) hm
      have : ∀ {l : List Nat}, t ∈ l → memN t l = true := by
        intro l hl
        induction l with
        | nil => simp at hl
        | cons y l ih =>
          simp only [memN]
          cases hb : Nat.beq t y with
          | true => rfl
          | false =>
            have := Nat.ne_of_beq_eq_false hb
            simp [this] at hl
            exact ih hl
      have h1 := hns.1
      rw [this hm2] at h1
      cases h1
    obtain ⟨g1, g2⟩ := skips_does h2 h3 (l := l) (i := i + 1) (T := putT T o.dst undef) (s := s) (fun j hj => by have := hl (j + 1) (by simp; omega); simpa [Nat.add_assoc, Nat.add_comm 1 j] using this) (fun o ho => hb o (List.mem_cons_of_mem _ ho)) (by rw [putT_ne htd]; exact hT) hns.2
    have hone := skip_does (P := P) (wb := wb) (s := s) ho (hb o List.mem_cons_self).1 (hb o List.mem_cons_self).2 h2 h3 hT
    refine ⟨?_, fun x hx => ?_⟩
    · have := hone.trans g1
      rwa [Nat.add_comm] at this
    · simp [setsL] at hx
      show skipT l (putT T o.dst undef) x = _
      rw [g2 x hx.2, putT_ne fun hh => hx.1 (dst_sets hh)]

theorem memN_iff {x : Nat} : ∀ {l : List Nat}, memN x l = true ↔ x ∈ l
  | [] => by simp [memN]
  | y :: l => by
    simp only [memN]
    cases hb : Nat.beq x y with
    | true => have := Nat.eq_of_beq_eq_true hb; simp [this]
    | false => have := Nat.ne_of_beq_eq_false hb; simp [this, memN_iff]

/-- a frame of some values of another one -/
theorem ofL_cases {T2 : Fr} : ∀ {L : List Nat} {p : Nat} {X : List Value} {T0 : Fr}, (∀ k, k < L.length → getL X (p + k) = T2 (L.getD k 0)) → ∀ x, (x ∈ L ∧ ofL L p X T0 x = T2 x) ∨ (x ∉ L ∧ ofL L p X T0 x = T0 x)
  | [], p, X, T0, _, x => .inr ⟨by simp, rfl⟩
  | d :: L, p, X, T0, h, x => by
    simp only [ofL]
    cases hb : Nat.beq x d with
    | true =>
      have := Nat.eq_of_beq_eq_true hb
      subst this
      left
      exact ⟨by simp, by simpa using h 0 (by simp)⟩
    | false =>
      have hne := Nat.ne_of_beq_eq_false hb
      rcases ofL_cases (L := L) (p := p + 1) (X := X) (T0 := T0) (fun k hk => by have := h (k + 1) (by simp; omega); simpa [Nat.add_assoc, Nat.add_comm 1 k] using this) x with ⟨h1, h2⟩ | ⟨h1, h2⟩
      · exact .inl ⟨by simp [h1], h2⟩
      · exact .inr ⟨by simp [hne, h1], h2⟩
theorem getL_toL {T2 : Fr} : ∀ {L : List Nat} {k : Nat}, k < L.length → getL (toL L T2) k = T2 (L.getD k 0)
  | [], _, h => by simp at h
  | d :: L, 0, _ => rfl
  | d :: L, k + 1, h => by
    simp only [toL, getL]
    rw [getL_toL (by simpa using h)]
    simp
theorem ofL_toL {L : List Nat} {T2 T0 : Fr} (x : Nat) : (x ∈ L ∧ ofL L 0 (toL L T2) T0 x = T2 x) ∨ (x ∉ L ∧ ofL L 0 (toL L T2) T0 x = T0 x) :=
  ofL_cases (fun k hk => by rw [Nat.zero_add]; exact getL_toL hk) x

theorem group_weak {L sets : List Nat} {T T2 : Fr} (hk : ∀ x, x ∉ sets → T2 x = T x) (x : Nat) : ofL L 0 (toL L T2) (killT sets T) x = T2 x ∨ ofL L 0 (toL L T2) (killT sets T) x = poisonV := by
  rcases ofL_toL (L := L) (T2 := T2) (T0 := killT sets T) x with ⟨_, h⟩ | ⟨_, h⟩
  · exact .inl h
  · rw [h]
    unfold killT
    cases hm : memN x sets with
    | true => exact .inr rfl
    | false =>
      left
      simp only [cond_false]
      exact (hk x fun hh => by rw [memN_iff.2 hh] at hm; cases hm).symm

theorem grpC_ops (o : Oper) (gs : List Grp) : opsOf (grpC o gs) = o :: opsOf gs := by
  unfold grpC
  split
  · split
    · cases sameG _ _ <;> rfl
    · rfl
  · rfl
theorem grp_ops : ∀ (l : List Oper), opsOf (grp l) = l
  | [] => rfl
  | o :: l => by rw [grp, grpC_ops, grp_ops l]
theorem grpC_guard (o : Oper) {gs : List Grp} (h : ∀ g ∈ gs, ∀ q ∈ g.2, q.guard = g.1) : ∀ g ∈ grpC o gs, ∀ q ∈ g.2, q.guard = g.1 := by
  unfold grpC
  split
  · rename_i h0 os r
    have h1 := h (some h0, os) (by simp)
    have h2 := fun g hg => h g (List.mem_cons_of_mem _ hg)
    split
    · rename_i g hg
      cases hsg : sameG g h0 with
      | true =>
        unfold sameG at hsg
        simp only [Bool.and_eq_true] at hsg
        have e1 := Nat.eq_of_beq_eq_true hsg.1
        have e2 : g.2 = h0.2 := by simpa using hsg.2
        have he : g = h0 := Prod.ext e1 e2
        intro g' hg' q hq
        simp at hg'
        rcases hg' with rfl | hg'
        · simp at hq
          rcases hq with rfl | hq
          · rw [hg, he]
          · exact h1 q hq
        · exact h2 g' hg' q hq
      | false =>
        intro g' hg' q hq
        simp at hg'
        rcases hg' with rfl | rfl | hg'
        · simp at hq; subst hq; exact hg
        · exact h1 q hq
        · exact h2 g' hg' q hq
    · rename_i hg
      intro g' hg' q hq
      simp at hg'
      rcases hg' with rfl | rfl | hg'
      · simp at hq; subst hq; exact hg
      · exact h1 q hq
      · exact h2 g' hg' q hq
  · intro g' hg' q hq
    simp at hg'
    rcases hg' with rfl | hg'
    · simp at hq; subst hq; rfl
    · exact h g' hg' q hq
theorem grp_guard : ∀ (l : List Oper), ∀ g ∈ grp l, ∀ q ∈ g.2, q.guard = g.1
  | [] => by simp [grp]
  | o :: l => by rw [grp]; exact grpC_guard o (grp_guard l)

theorem grpsB_does (hcall : CallOk P call) (htn : tnOk n m tn = true) {ops : Array Oper} {mk : Nat} :
    ∀ {gs : List Grp} {i : Nat} {T : Fr} {s : St} {β : Type} {k : Fr → St → Option β} {r : β}, (∀ j, j < (opsOf gs).length → (opsOf gs)[j]? = ops[i + j]?) → (∀ g ∈ gs, ∀ q ∈ g.2, q.guard = g.1) → (∀ o ∈ opsOf gs, operBB n ops o = true) →
      grpsB P call tn ops mk gs T s k = some r → ∃ T' s', k T' s' = some r ∧ OpsDo P tn n wb ops i (opsOf gs).length T s T' s'
  | [], i, T, s, β, k, r, _, _, _, h => ⟨T, s, h, .nil fun _ => .inl rfl⟩
  | (none, os) :: gs, i, T, s, β, k, r, hl, hg, hb, h => by
    simp only [grpsB] at h
    have hlen : (opsOf ((none, os) :: gs)).length = os.length + (opsOf gs).length := by simp [opsOf]
    obtain ⟨T1, s1, h1, h2, _⟩ := seqB_does (wb := wb) hcall htn (G := none) (ops := ops) (i := i) (.inl rfl) (fun j (hj : j < os.length) => by rw [← hl j (by omega)]; simp only [opsOf]; rw [List.getElem?_append_left hj]) (fun o ho => ⟨hb o (by simp [opsOf, ho]), hg _ List.mem_cons_self o ho⟩) (fun g t e => by cases e) h
    obtain ⟨T2, s2, g1, g2⟩ := grpsB_does hcall htn (gs := gs) (i := i + os.length) (fun j hj => by
      have := hl (os.length + j) (by omega)
      simp only [opsOf] at this
      rw [List.getElem?_append_right (by omega)] at this
      simpa [Nat.add_assoc] using this) (fun g hg' => hg g (List.mem_cons_of_mem _ hg')) (fun o ho => hb o (by simp [opsOf, ho])) h1
    exact ⟨T2, s2, g1, by rw [hlen]; exact h2.trans g2⟩
  | (some g, os) :: gs, i, T, s, β, k, r, hl, hg, hb, h => by
    simp only [grpsB, Option.bind_eq_some_iff] at h
    obtain ⟨t, ht, h⟩ := h
    split at h
    case isFalse => cases h
    rename_i hc
    simp only [Bool.and_eq_true] at hc
    have hlen : (opsOf ((some g, os) :: gs)).length = os.length + (opsOf gs).length := by simp [opsOf]
    simp only [Option.bind_eq_some_iff] at h
    obtain ⟨q, hq, h⟩ := h
    have hl1 : ∀ j, j < os.length → os[j]? = ops[i + j]? := fun j hj => by rw [← hl j (by omega)]; simp only [opsOf]; rw [List.getElem?_append_left hj]
    have hb1 : ∀ o ∈ os, operBB n ops o = true ∧ o.guard = some g := fun o ho => ⟨hb o (by simp [opsOf, ho]), hg _ List.mem_cons_self o ho⟩
    have hmid : OpsDo P tn n wb ops i os.length T s (ofL (keepLive (lvOps tn ops (opsOf gs) mk) (dedup (setsL tn os))) 0 q.1 (killT (setsL tn os) T)) q.2 := by
      rcases guardV_ways hq with ⟨hv, hq⟩ | ⟨hv, hq⟩
      · obtain ⟨T1, s1, h1, h2, h3⟩ := seqB_does (wb := wb) hcall htn (G := some g) (ops := ops) (i := i) (.inr ⟨g, t, rfl, ht, hc.1⟩) hl1 hb1 (fun g' t' e1 e2 => by cases e1; rw [ht] at e2; cases e2; exact ⟨hv, hc.2⟩) hq
        cases h1
        exact h2.weak (group_weak h3)
      · cases hq
        obtain ⟨h2, h3⟩ := skips_does (P := P) (wb := wb) (s := s) ht hc.1 hl1 hb1 hv hc.2
        exact h2.weak (group_weak h3)
    obtain ⟨T2, s2, g1, g2⟩ := grpsB_does hcall htn (gs := gs) (i := i + os.length) (fun j hj => by
      have := hl (os.length + j) (by omega)
      simp only [opsOf] at this
      rw [List.getElem?_append_right (by omega)] at this
      simpa [Nat.add_assoc] using this) (fun g hg' => hg g (List.mem_cons_of_mem _ hg')) (fun o ho => hb o (by simp [opsOf, ho])) h
    exact ⟨T2, s2, g1, by rw [hlen]; exact hmid.trans g2⟩

end
end Go.Proofs.Ytamaapapaiopiaa.Ab
