/- Regions whose order is open: the text's order stands for all. -/
import Derived.Test.YtamaapapaiopiaaBDrawX
set_option linter.unusedVariables false
set_option linter.unusedSimpArgs false
set_option linter.unusedSectionVars false
namespace Go.Proofs.Ytamaapapaiopiaa.Ab
open Go

theorem last_zero {p : Nat → Prop} : ∀ {n : Nat}, (∀ k, k < n → ¬ p k) → last p n = 0
  | 0, _ => rfl
  | n + 1, h => by
    unfold last
    rw [if_neg (h n (by omega))]
    exact last_zero fun k hk => h k (by omega)

section
variable {P : Program} {call : Caller} {tn : Tn} {n m : Nat} {ops : Array Oper} {t : DTrace P call tn ops} {wb : Nat} {D : Nat → Prop} {ι0 ι : Emb} {H0 : List Blk} {lam : Lam} {w0 w : World}

theorem DInv.start {tmps : Array Value} (hD : ∀ k, ¬ D k) (h : BSim tn n wb ι0 H0 w0 ι lam (t.Tr 0) (t.H 0) tmps w) : DInv t n wb D ι0 H0 w0 ι lam w tmps := by
  have hver : ∀ b, t.ver D b = 0 := fun b => last_zero fun k _ h => hD k h.1
  have hverT : ∀ b, t.verT D b = 0 := fun b => last_zero fun k _ h => hD k h.1
  have hHD : ∀ b, t.HD D b = (t.H 0)[b]? := fun b => by unfold DTrace.HD; rw [hver]
  have hle : ι.le (ι.cut (t.L 0)) := fun b x hx => Emb.cut_some.2 ⟨h.sim.dom b x hx, hx⟩
  constructor
  · intro b x hx; exact .inl (h.sim.dom b x hx)
  · intro b n cells st hb hs l hl
    rw [hHD] at hb
    rw [hver]
    obtain ⟨cs, e, fz, q1, q2, q3, q4⟩ := h.sim.row b n cells st hb hs l hl
    refine ⟨cs, e, fz, q1, q2, q3, fun i v hi => ?_⟩
    obtain ⟨v', p1, p2⟩ := q4 i v hi
    exact ⟨v', p1, p2.mono hle⟩
  · intro b es clock hb l hl
    rw [hHD] at hb
    rw [hver]
    obtain ⟨q1, q2, es', q3, q4⟩ := h.sim.map b es clock hb l hl
    exact ⟨q1, q2, es', q3, q4.mono fun x e he => entRel_mono hle he⟩
  · intro a b ha hb; rw [hHD] at ha hb; exact h.sim.excl a b ha hb
  · exact h.sim.size
  · intro b n cells st hb; rw [hHD] at hb; exact h.sim.loc b n cells st hb
  · exact h.step.le
  · exact h.step.old
  · exact h.step.img
  · exact h.step.keep
  · exact h.step.size
  · exact h.step.os
  · exact h.step.tape
  · exact h.step.output
  · intro a ha hb; rw [hHD] at hb; exact h.step.own a ha hb
  · exact h.lok.lo
  · intro j b hj a y ha hy; rw [hHD] at ha; exact h.lok.excl j b hj a y ha hy
  · exact h.lok.inj
  · intro x
    rw [hverT]
    exact (h.nm x).mono hle

theorem DInv.finish {tmps : Array Value} (hH0 : H0.length ≤ t.L 0) (h : DInv t n wb D ι0 H0 w0 ι lam w tmps) (hD : ∀ k, k < ops.size → D k) : BSim tn n wb ι0 H0 w0 ι lam (t.Tr ops.size) (t.H ops.size) tmps w := by
  have hHD : ∀ b, t.HD D b = (t.H ops.size)[b]? := fun b => by
    refine (t.frame (last_le _ _) (Nat.le_refl _) fun k h1 h2 hw => ?_).symm
    exact last_no (p := fun k => D k ∧ t.wr k b) (n := ops.size) h1 h2 ⟨hD k h2, hw⟩
  have hT : ∀ x, t.Tr (t.verT D x) x = t.Tr ops.size x := fun x => by
    refine (t.frameT (last_le _ _) (Nat.le_refl _) fun k h1 h2 hw => ?_).symm
    exact last_no (p := fun k => D k ∧ t.sets k x) (n := ops.size) h1 h2 ⟨hD k h2, hw⟩
  have hdom : ∀ b x, ι b = some x → b < (t.H ops.size).length := fun b x hx => by
    show b < t.L ops.size
    rcases h.dom b x hx with hc | ⟨k, hk, _, _, h6⟩
    · have := t.L_mono (i := 0) (j := ops.size) (by omega) (by omega); omega
    · have := t.L_mono (i := k + 1) (j := ops.size) (by omega) (by omega); omega
  refine ⟨?_, ?_, ?_, ?_⟩
  · constructor
    · exact hdom
    · intro b n cells st hb hs l hl
      rw [← hHD] at hb
      obtain ⟨cs, e, fz, q1, q2, q3, q4⟩ := h.row b n cells st hb hs l hl
      refine ⟨cs, e, fz, q1, q2, q3, fun i v hi => ?_⟩
      obtain ⟨v', p1, p2⟩ := q4 i v hi
      exact ⟨v', p1, p2.mono (Emb.cut_le _ _)⟩
    · intro b es clock hb l hl
      rw [← hHD] at hb
      obtain ⟨q1, q2, es', q3, q4⟩ := h.map b es clock hb l hl
      exact ⟨q1, q2, es', q3, q4.mono fun x e he => entRel_mono (Emb.cut_le _ _) he⟩
    · intro a b ha hb; rw [← hHD] at ha hb; exact h.excl a b ha hb
    · exact h.size
    · intro b n cells st hb; rw [← hHD] at hb; exact h.loc b n cells st hb
  · exact ⟨h.lo, fun j b hj a y ha hy => h.lexcl j b hj a y (by rw [hHD]; exact ha) hy, h.linj⟩
  · constructor
    · exact h.le
    · exact h.old
    · exact h.img
    · exact h.keep
    · exact h.size0
    · exact h.os
    · exact h.tape
    · exact h.output
    · exact Nat.le_trans hH0 (t.L_mono (Nat.zero_le _) (Nat.le_refl _))
    · intro a ha ho; rw [← hHD] at ho; exact h.own a ha ho
  · intro x
    rw [← hT]
    exact (h.nm x).mono (Emb.cut_le _ _)

theorem NRel.cut_mono {tmps : Array Value} {x : Nat} {u : Value} {i j : Nat} (h : NRel tn n (ι.cut i) lam w tmps x u) (hij : i ≤ j) : NRel tn n (ι.cut j) lam w tmps x u := h.mono (Emb.cut_mono (.refl _) hij)

/-- the one step -/
theorem DInv.op {X : Option Nat × Nat} (hcall : CallOk P call) (htn : tnOk n m tn = true) (hwb0 : wb ≤ w0.heap.size) (hH0 : H0.length ≤ t.L 0) {a : Act} (hz : a.tmps.size = n) (h : DInv t n wb D ι0 H0 w0 ι lam w a.tmps) {j : Nat} (hn : t.Next D j) (hb : ops.toList.all (operBB n ops) = true) {Q : Exit → Act → World → Prop} {K : Act → World → Prop}
    (hK : ∀ ι' lam' v' w' (o : Oper), ops[j]? = some o → DInv t n wb (DTrace.plus D j) ι0 H0 w0 ι' lam' w' (a.put o.dst v').tmps → K (a.put o.dst v') w') : wpOpIn (FR X) X.2 P ops Q j K a w := by
  obtain ⟨o, ho⟩ := DTrace.get (ops := ops) hn.lt
  obtain ⟨Hv, R, s1, s2, s3, s4, s5, s6⟩ := t.step j o ho
  have hv : Seen t j Hv := ⟨s2, s3⟩
  obtain ⟨wv, w1, w2, w3, hs⟩ := h.sees hn hv
  have hbo : operBB n ops o = true := List.all_eq_true.1 hb o (by
    have := Array.mem_of_getElem? ho
    simpa using this)
  obtain ⟨hb1, hb2, hb3⟩ := operBB_parts hbo
  have hnm : ∀ x ∈ namesB tn ops o, NRel tn n (ι.cut (t.L j)) lam w a.tmps x (t.Tr j x) := fun x hx => by
    obtain ⟨g1, g2⟩ := hn.agreeT ho hx
    rw [← g2]
    exact (h.nm x).cut_mono (t.L_mono g1 (Nat.le_of_lt hn.lt))
  have hlok : LamOk w0.heap.size (ι.cut (t.L j)) Hv lam w := ⟨h.lo, fun q b hq a' y ha hy => by
    obtain ⟨_, _, g3, g4⟩ := hv.ownD h hn ha hy
    exact h.lexcl q b hq a' y g4 g3, h.linj⟩
  have hro : ∀ q blk, lam q = some blk → ∀ b n' cells, Hv[b]? = some (.row n' cells .ro) → ∀ l, (ι.cut (t.L j)) b = some l → l.blk ≠ blk := by
    intro q blk hq b n' cells hb2 l hl
    obtain ⟨hlt, hl2⟩ := Emb.cut_some.1 hl
    rw [hv.get b] at hb2
    cases hx : (t.H j)[b]? with
    | none => rw [hx] at hb2; cases hb2
    | some x =>
      rw [hx] at hb2
      simp only [Option.map_some, Option.some.injEq] at hb2
      have hvw : t.view j b ≠ .dead := by
        intro e
        rw [e] at hb2
        cases x with
        | row => simp [viewB, deadB] at hb2
        | map => simp [viewB, deadB] at hb2
      have hHD := (hn.agree hlt (h.dom b l hl2) hvw).2
      rw [hx] at hHD
      have hx2 : ∃ st, x = .row n' cells st ∧ st ≠ .dead := by
        cases hvj : t.view j b with
        | see => rw [hvj] at hb2; simp only [viewB] at hb2; exact ⟨.ro, hb2, by simp⟩
        | dead => exact absurd hvj hvw
        | frz =>
          rw [hvj] at hb2
          cases x with
          | map => simp [viewB, frzB] at hb2
          | row n2 c2 st2 => cases st2 <;> simp [viewB, frzB] at hb2 <;> obtain ⟨rfl, rfl⟩ := hb2 <;> exact ⟨_, rfl, by simp⟩
      obtain ⟨st, rfl, hst⟩ := hx2
      cases st with
      | dead => exact absurd rfl hst
      | act => exact h.lexcl q blk hq b l (by rw [hHD]; rfl) hl2
      | ro =>
        obtain ⟨_, _, _, _, q2, _⟩ := h.row b n' cells .ro hHD (by simp) l hl2
        have := q2 rfl
        have := (h.lo q blk hq).1
        omega
  have hz0 : w0.heap.size ≤ w.heap.size := h.size0
  have run : ∀ {T1 : Fr} {s1' : St} (h1 : opB P call tn (t.Tr j) o ⟨Hv⟩ (fun T s => some (T, s)) = some (T1, s1')), T1 = t.Tr (j + 1) → s1'.heap = R → o.wpIn (FR X) X.2 P a w K Q := by
    intro T1 s1' h1 e1 e2
    refine (opB_on hcall hro hz0 htn hz hb2 (by rw [hz]; exact hb1) h1 hs hlok fun x hx => ?_).wp fun v' w' ⟨ι', lam', hA⟩ => ?_
    · refine hnm x ?_
      unfold namesB readsB
      rcases hx with hx | (hx | hx) | hx
      · simp [hx]
      · simp [hx]
      · simp [hx]
      · simp [hx]
    · subst e1
      rw [e2] at hA
      exact hK _ lam' v' w' o ho (h.step hH0 hn hv w1 w3 hwb0 s4 s5 s6 ho rfl hA)
  unfold wpOpIn
  simp only [ho]
  unfold oneB at s1
  split at s1
  · rename_i hg
    have : Region.wanted o (yielded ops a.tmps) = true := by unfold Region.wanted; rw [hg]
    rw [if_pos this]
    exact run s1 rfl rfl
  · rename_i g hg
    simp only [Option.bind_eq_some_iff] at s1
    obtain ⟨tm, htm, s1⟩ := s1
    split at s1
    case isFalse => cases s1
    rename_i hl
    have hmem : tm ∈ namesB tn ops o := by
      unfold namesB readsB gTmp
      obtain ⟨q1, q2⟩ := g
      unfold guardT at htm
      simp only at htm
      simp [hg, htm]
    obtain ⟨g0, g1, g2⟩ := guard_conc hg htm hl hz hb3 (hnm tm hmem)
    rcases guardV_ways s1 with ⟨hv1, s1⟩ | ⟨hv1, s1⟩
    · have hw : Region.wanted o (yielded ops a.tmps) = true := by rw [g1 g.2 hv1]; simp
      rw [if_pos hw]
      exact run s1 rfl rfl
    · have hw : Region.wanted o (yielded ops a.tmps) = false := by
        rcases hv1 with hv1 | hv1
        · rw [g1 _ hv1]; cases g.2 <;> rfl
        · exact g2 hv1
      rw [if_neg (by rw [hw]; simp)]
      refine ⟨fun _ _ => trivial, ?_⟩
      simp only [Option.some.injEq, Prod.mk.injEq] at s1
      obtain ⟨e1, e2⟩ := s1
      have e2' : Hv = R := by cases e2; rfl
      -- nothing is done: a step of a value unset
      have hA : AfterL tn n wv w0.heap.size (ι.cut (t.L j)) lam Hv w (t.Tr j) (setsB tn o) (ι.cut (t.L j)) lam R w (t.Tr (j + 1)) (a.put o.dst undef).tmps := by
        rw [← e2', ← e1]
        refine { sim := hs, lok := hlok, le := .refl _, old := fun _ _ => rfl, img := fun b x hx hb => absurd (hs.dom b x hx) (by omega), keep := fun _ _ _ _ => rfl, keepL := fun q b hq _ => ⟨hq, rfl⟩, keepP := fun _ _ _ _ => rfl,
                 lnew := fun _ _ hq => .inl hq, size := Nat.le_refl _, os := rfl, tape := rfl, output := rfl, len := Nat.le_refl _, own := fun _ _ h => h, nm := fun x hx => ?_, frame := fun x hx => putT_ne fun hh => hx (dst_sets hh) }
        have hb0 := (hnm x (by unfold namesB; simp [hx]))
        by_cases hxd : x ∈ o.dst.toList
        · cases hd : o.dst with
          | none => rw [hd] at hxd; simp at hxd
          | some d =>
            rw [hd] at hxd hb2
            simp at hxd
            subst hxd
            have hlt : x < n := by simpa [dstB] using hb2
            unfold NRel
            rw [if_pos hlt, putT_eq, tmps_eq (by omega)]
            split
            · exact undef_rel _
            · exact .inl ⟨_, rfl⟩
        · rw [putT_ne hxd]
          unfold NRel at hb0 ⊢
          rw [tmps_ne hxd]
          exact hb0
      exact hK _ lam undef w o ho (h.step hH0 hn hv w1 w3 hwb0 s4 s5 s6 ho rfl hA)

theorem count_set {l : Array Bool} {j : Nat} (hj : j < l.size) (hf : l[j] = false) : (l.setIfInBounds j true).toList.count false + 1 = l.toList.count false := by
  have h1 : (l.setIfInBounds j true).toList = l.toList.set j true := by simp
  have hpos : 0 < l.toList.count false := List.count_pos_iff.2 (by
    rw [List.mem_iff_getElem]
    exact ⟨j, by simpa using hj, by simpa using hf⟩)
  rw [h1, List.count_set (by simpa using hj)]
  have h2 : (l.toList[j]'(by simpa using hj) == false) = true := by simpa using hf
  have h3 : ((true : Bool) == false) = false := rfl
  rw [if_pos h2, if_neg (by rw [h3]; simp)]
  omega

theorem draw_any {X : Option Nat × Nat} (hcall : CallOk P call) (htn : tnOk n m tn = true) (hwb0 : wb ≤ w0.heap.size) (hH0 : H0.length ≤ t.L 0) {a0 : Act} {Q : Exit → Act → World → Prop} (hsz0 : ops.toList.all (operBB n ops) = true)
    (hQ : ∀ ι lam a w, BSim tn n wb ι0 H0 w0 ι lam (t.Tr ops.size) (t.H ops.size) a.tmps w → a.defers = a0.defers → a.tmps.size = n → Q .normal a w) :
    ∀ (fuel : Nat) (listed : Array Bool) (a : Act) (w : World) (ι : Emb) (lam : Lam), listed.size = ops.size → listed.toList.count false ≤ fuel → (∀ j o, ops[j]? = some o → listed.getD j false = true → ∀ e ∈ o.after, Region.binds .any e = true → listed.getD e.on false = true) →
      DInv t n wb (fun k => listed.getD k false = true) ι0 H0 w0 ι lam w a.tmps → a.defers = a0.defers → a.tmps.size = n → wpAnyIn (FR X) X.2 P .any ops Q fuel listed a w := by
  have hfull : ∀ (listed : Array Bool) (a : Act) (w : World) (ι : Emb) (lam : Lam), listed.size = ops.size → Region.ready .any ops listed = [] →
      DInv t n wb (fun k => listed.getD k false = true) ι0 H0 w0 ι lam w a.tmps → a.defers = a0.defers → a.tmps.size = n → Q .normal a w := by
    intro listed a w ι lam hls hr hI h1 h2
    have hall : ∀ j, j < ops.size → listed.getD j false = true := by
      intro j
      induction j using Nat.strongRecOn with
      | _ j ih =>
        intro hj
        cases hx : listed.getD j false with
        | true => rfl
        | false =>
          exfalso
          obtain ⟨o, ho⟩ := DTrace.get (ops := ops) hj
          have : j ∈ Region.ready .any ops listed := mem_ready.2 ⟨by
            have hjl : j < listed.size := by omega
            simp [hjl] at hx ⊢
            exact hx, o, ho, fun e he hb => by
            have := t.edge j o ho e he hb
            exact ih e.on this (by omega)⟩
          rw [hr] at this
          cases this
    exact hQ ι lam a w (hI.finish hH0 hall) h1 h2
  intro fuel
  induction fuel with
  | zero =>
    intro listed a w ι lam hls hc hcl hI h1 h2
    have hr : Region.ready .any ops listed = [] := by
      rw [List.eq_nil_iff_forall_not_mem]
      intro j hj
      obtain ⟨h3, o, ho, _⟩ := mem_ready.1 hj
      have hjl : j < listed.size := by
        rw [hls]; exact (Array.getElem?_eq_some_iff.1 ho).1
      have hf : listed[j] = false := by simpa [hjl] using h3
      have : 0 < listed.toList.count false := List.count_pos_iff.2 (by
        rw [List.mem_iff_getElem]
        exact ⟨j, by simpa using hjl, by simpa using hf⟩)
      omega
    exact ⟨hr, hfull listed a w ι lam hls hr hI h1 h2⟩
  | succ fuel ih =>
    intro listed a w ι lam hls hc hcl hI h1 h2
    refine ⟨fun hr => hfull listed a w ι lam hls hr hI h1 h2, fun j hj => ?_⟩
    obtain ⟨h3, o, ho, h4⟩ := mem_ready.1 hj
    have hjo : j < ops.size := (Array.getElem?_eq_some_iff.1 ho).1
    have hjl : j < listed.size := by rw [hls]; exact hjo
    have hf : listed[j] = false := by simpa [hjl] using h3
    have hn : t.Next (fun k => listed.getD k false = true) j := by
      refine ⟨hjo, fun i k hk hD hb => ?_, by simp [hjl, hf], fun i hb => t.reach (fun k => listed.getD k false = true) hcl j o ho h4 i hb⟩
      obtain ⟨ok, hok⟩ := DTrace.get (ops := ops) hk
      exact t.reach (fun k => listed.getD k false = true) hcl k ok hok (hcl k ok hok hD) i hb
    have heq : DTrace.plus (fun k => listed.getD k false = true) j = fun k => (listed.setIfInBounds j true).getD k false = true := by
      funext k
      unfold DTrace.plus
      by_cases hkj : k = j
      · subst hkj; simp [hjl]
      · rw [getD_set_ne false (Ne.symm hkj)]; simp [hkj]
    refine hI.op hcall htn hwb0 hH0 h2 hn hsz0 fun ι' lam' v' w' o' ho' hI' => ?_
    rw [heq] at hI'
    refine ih (listed.setIfInBounds j true) _ w' ι' lam' (by simpa using hls) (by have := count_set hjl hf; omega) (fun k q hq hD e he hb => ?_) hI' (by rw [put_defers]; exact h1) (by rw [put_size]; exact h2)
    by_cases hkj : k = j
    · subst hkj
      rw [ho] at hq
      cases hq
      exact getD_set_true (h4 e he hb)
    · rw [getD_set_ne false (Ne.symm hkj)] at hD
      exact getD_set_true (hcl k q hq hD e he hb)

theorem BSim.drawn {T : Fr} {H : List Blk} {tmps : Array Value} (h : BSim tn n wb ι0 H0 w0 ι lam T H tmps w) : BSim tn n wb ι0 H0 w0 ι lam T H tmps { w with drawn := w.drawn + 1 } where
  sim := h.sim.congr rfl
  lok := ⟨h.lok.lo, h.lok.excl, h.lok.inj⟩
  step := ⟨h.step.le, h.step.old, h.step.img, h.step.keep, h.step.size, h.step.os, h.step.tape, h.step.output, h.step.len, h.step.own⟩
  nm := h.nm

theorem draw_sound_t {X : Option Nat × Nat} (hcall : CallOk P call) (htn : tnOk n m tn = true) {id : Nat} {T T' : Fr} {s s' : St} (hd : drawOk P tn ops = true) (ht : ∃ t : DTrace P call tn ops, t.Tr 0 = T ∧ t.H 0 = s.heap ∧ t.Tr ops.size = T' ∧ t.H ops.size = s'.heap)
    (hb : ops.toList.all (operBB n ops) = true) (hwb0 : wb ≤ w0.heap.size) {a : Act} (hs : BSim tn n wb ι0 H0 w0 ι lam T s.heap a.tmps w) (hz : a.tmps.size = n) {Q : Exit → Act → World → Prop}
    (hQ : ∀ ι' lam' a' w', BSim tn n wb ι0 H0 w0 ι' lam' T' s'.heap a'.tmps w' → a'.tmps.size = n → a'.defers = a.defers → Q .normal a' w') : (Code.region id ops true).wpIn (FR X) X.2 P Q a w := by
  have hm : P.follows .mixedOrders = true := by
    simp only [drawOk, Bool.and_eq_true] at hd
    exact hd.1.1
  obtain ⟨t, e1, e2, e3, e4⟩ := ht
  refine wpIn_region_any hm ?_
  have hrep : ∀ k, ¬ ((Array.replicate ops.size false).getD k false = true) := by
    intro k
    by_cases hk : k < ops.size
    · simp [hk]
    · simp [hk]
  have hs1 := hs.drawn
  rw [← e1, ← e2] at hs1
  refine draw_any (t := t) (ι0 := ι0) (w0 := w0) (H0 := H0) (a0 := a) hcall htn hwb0 (by unfold DTrace.L; rw [e2]; exact hs.step.len) hb (fun κ lam' a' w' g1 g4 g5 => ?_) ops.size (Array.replicate ops.size false) a _ ι lam (by simp) (by simp) (fun j o ho hD => absurd hD (hrep j)) (DInv.start hrep hs1) rfl hz
  rw [e4, e3] at g1
  exact hQ κ lam' a' w' g1 g5 g4
theorem draw_sound {X : Option Nat × Nat} (hcall : CallOk P call) (htn : tnOk n m tn = true) {id : Nat} {T T' : Fr} {s s' : St} (hd : drawOk P tn ops = true) (h : drawsB P call tn ops (beforeL [] ops.toList) (memMask P tn 0 ops.toList) T s.heap.length 0 ops.toList T s = some (T', s'))
    (hb : ops.toList.all (operBB n ops) = true) (hwb0 : wb ≤ w0.heap.size) {a : Act} (hs : BSim tn n wb ι0 H0 w0 ι lam T s.heap a.tmps w) (hz : a.tmps.size = n) {Q : Exit → Act → World → Prop}
    (hQ : ∀ ι' lam' a' w', BSim tn n wb ι0 H0 w0 ι' lam' T' s'.heap a'.tmps w' → a'.tmps.size = n → a'.defers = a.defers → Q .normal a' w') : (Code.region id ops true).wpIn (FR X) X.2 P Q a w :=
  draw_sound_t hcall htn hd (DTrace.of hd h) hb hwb0 hs hz hQ
theorem drawA_sound {X : Option Nat × Nat} (hcall : CallOk P call) (htn : tnOk n m tn = true) {id : Nat} {T T' T1 : Fr} {s s' : St} (hd : drawOk P tn ops = true) (h : drawsA P call tn ops (beforeL [] ops.toList) (memMask P tn 0 ops.toList) T1 0 ops.toList T s = some (T', s'))
    (hb : ops.toList.all (operBB n ops) = true) (hwb0 : wb ≤ w0.heap.size) {a : Act} (hs : BSim tn n wb ι0 H0 w0 ι lam T s.heap a.tmps w) (hz : a.tmps.size = n) {Q : Exit → Act → World → Prop}
    (hQ : ∀ ι' lam' a' w', BSim tn n wb ι0 H0 w0 ι' lam' T' s'.heap a'.tmps w' → a'.tmps.size = n → a'.defers = a.defers → Q .normal a' w') : (Code.region id ops true).wpIn (FR X) X.2 P Q a w :=
  draw_sound_t hcall htn hd (DTrace.ofA hd h) hb hwb0 hs hz hQ
end

/-! ### With what follows -/
section
variable {P : Program} {call : Caller} {tn : Tn} {ops : Array Oper}

theorem dedup_mem {x : Nat} : ∀ {l : List Nat}, x ∈ dedup l ↔ x ∈ l
  | [] => by simp [dedup]
  | y :: l => by
    simp only [dedup]
    cases hm : memN y l with
    | true =>
      have := memN_iff.1 hm
      simp only [cond_true, dedup_mem (l := l), List.mem_cons]
      constructor
      · exact .inr
      · rintro (rfl | h)
        · exact this
        · exact h
    | false => simp only [cond_false, List.mem_cons, dedup_mem (l := l)]

theorem group_eq {sets : List Nat} {T T2 : Fr} (hk : ∀ x, x ∉ sets → T2 x = T x) : ofL (dedup sets) 0 (toL (dedup sets) T2) (killT sets T) = T2 := by
  funext x
  rcases ofL_toL (L := dedup sets) (T2 := T2) (T0 := killT sets T) x with ⟨_, h⟩ | ⟨hm, h⟩
  · exact h
  · rw [h]
    have hx : x ∉ sets := fun hh => hm (dedup_mem.2 hh)
    unfold killT
    cases hmm : memN x sets with
    | true => exact absurd (memN_iff.1 hmm) hx
    | false => exact (hk x hx).symm

theorem oneK_eq {T : Fr} {o : Oper} {s : St} {β : Type} (k : Fr → St → Option β) : oneK P call tn ops T o s k = (oneB P call tn ops T o s).bind fun r => k r.1 r.2 := by
  unfold oneK oneB
  cases hg : o.guard with
  | none => exact opB_cps k
  | some g =>
    simp only
    cases ht : guardT ops g with
    | none => rfl
    | some t =>
      simp only [Option.bind_some]
      split
      · rw [guardV_map, guardV_map]
        congr 1
        · rw [opB_cps]
          cases h1 : opB P call tn T o s fun T s => some (T, s) with
          | none => rfl
          | some r =>
            obtain ⟨T1, s1⟩ := r
            simp only [Option.bind_some]
            rw [group_eq fun x hx => opB_frame h1 hx]
        · simp only [Option.bind_some]
          rw [group_eq fun x hx => putT_ne fun hh => hx (dst_sets hh)]
      · rfl

theorem looks_heap {T : Fr} {o : Oper} (hl : looks P o = true) {s s1 : St} {v : Value} (h : valB P call tn ops T o s = some (v, s1)) : s1 = s := by
  have key : ∀ (h : evalOp P call T o s (fun v s => some (v, s)) = some (v, s1)), s1 = s := by
    intro h
    unfold looks at hl
    split at hl
    · rename_i t x ho
      simp only [evalOp, ho, Option.bind_eq_some_iff] at h
      obtain ⟨_, _, _, _, _, _, _, _, h⟩ := h
      cases h; rfl
    · rename_i c ho
      split at hl
      · rename_i hc
        simp only [evalOp, ho, hc, Option.bind_eq_some_iff] at h
        obtain ⟨xs, _, h⟩ := h
        unfold evalBuiltin at h
        split at h
        any_goals contradiction
        split at h
        · cases h; rfl
        · split at h
          · cases h; rfl
          · cases h
        · simp only [Option.bind_eq_some_iff] at h
          obtain ⟨_, _, h⟩ := h
          cases h; rfl
        · cases h
      · cases hl
    · rename_i src dst x ho
      split at hl
      · rename_i e h1 h2
        simp only [evalOp, ho, h1, h2, Option.bind_eq_some_iff] at h
        obtain ⟨_, _, h⟩ := h
        split at h
        · simp only [Option.bind_eq_some_iff] at h
          obtain ⟨_, _, h⟩ := h
          cases h; rfl
        · cases h
      · cases hl
    · cases hl
  unfold valB at h
  split at h
  · exact key h
  · simp only [Option.bind_eq_some_iff] at h
    obtain ⟨t, _, h⟩ := h
    split at h
    case isFalse => cases h
    rcases guardV_ways h with ⟨_, h⟩ | ⟨_, h⟩
    · exact key h
    · cases h; rfl

theorem drawK_eq {bf : List Nat} {mm : Nat} {T0 : Fr} {n0 i : Nat} {o : Oper} {T : Fr} {s : St} {β : Type} (k : Fr → St → Option β) :
    drawK P call tn ops bf mm T0 n0 i o T s k = (drawB P call tn ops bf mm T0 n0 i o T s).bind fun r => k r.1 r.2 := by
  unfold drawK drawB
  cases modeB P tn bf ops.size mm i o with
  | pure => exact oneK_eq k
  | own => simp only [Option.bind_assoc, Option.bind_some]
  | quiet =>
    simp only
    split
    · rename_i hl
      simp only [Option.bind_assoc, Option.bind_some]
      cases hx : valB P call tn ops T o ⟨frzK (killsOf P tn ops.toList bf ops.size mm T0 n0 i 0 ops.toList) 0 s.heap⟩ with
      | none => rfl
      | some r =>
        obtain ⟨v, s1⟩ := r
        have := looks_heap hl hx
        subst this
        have hd : List.drop s.heap.length (frzK (killsOf P tn ops.toList bf ops.size mm T0 n0 i 0 ops.toList) 0 s.heap) = [] := List.drop_eq_nil_of_le (by rw [frzK_length]; exact Nat.le_refl _)
        simp [hd, quietR]
    · simp only [Option.map_eq_bind, Option.bind_assoc, Option.bind_some, Function.comp, quietR]
  | store =>
    simp only [Option.bind_assoc]
    congr 1
    funext t
    split
    · rfl
    · simp only [Option.bind_assoc, Option.bind_some]
  | bad => rfl

theorem drawsK_eq {bf : List Nat} {mm : Nat} {T0 : Fr} {n0 : Nat} {β : Type} : ∀ {l : List Oper} {i : Nat} {T : Fr} {s : St} (k : Fr → St → Option β), drawsK P call tn ops bf mm T0 n0 i l T s k = (drawsB P call tn ops bf mm T0 n0 i l T s).bind fun r => k r.1 r.2
  | [], _, _, _, _ => rfl
  | o :: l, i, T, s, k => by
    simp only [drawsK, drawsB, drawK_eq, Option.bind_assoc]
    congr 1
    funext r
    exact drawsK_eq k
theorem drawAK_eq {bf : List Nat} {mm : Nat} {T1 : Fr} {i : Nat} {o : Oper} {T : Fr} {s : St} {β : Type} (k : Fr → St → Option β) :
    drawAK P call tn ops bf mm T1 i o T s k = (drawA P call tn ops bf mm T1 i o T s).bind fun r => k r.1 r.2 := by
  unfold drawAK drawA
  cases modeA P tn bf ops.size mm i o with
  | pure => exact oneK_eq k
  | own => simp only [Option.bind_assoc, Option.bind_some]
  | quiet => simp only [Option.bind_assoc, Option.bind_some]
  | store => rfl
  | bad =>
    simp only
    split
    · simp only [Option.bind_assoc, Option.bind_some]
    · rfl
theorem drawsAK_eq {bf : List Nat} {mm : Nat} {T1 : Fr} {β : Type} : ∀ {l : List Oper} {i : Nat} {T : Fr} {s : St} (k : Fr → St → Option β), drawsAK P call tn ops bf mm T1 i l T s k = (drawsA P call tn ops bf mm T1 i l T s).bind fun r => k r.1 r.2
  | [], _, _, _, _ => rfl
  | o :: l, i, T, s, k => by
    simp only [drawsAK, drawsA, drawAK_eq, Option.bind_assoc]
    congr 1
    funext r
    exact drawsAK_eq k
theorem dryK_eq {L : List Nat} : ∀ {l : List Oper} {T : Fr} {s : St}, dryK P call tn ops L l T s = dryB P call tn ops L l T s
  | [], _, _ => rfl
  | o :: l, T, s => by
    simp only [dryK, dryB, oneK_eq]
    congr 1
    funext r
    exact dryK_eq
end
end Go.Proofs.Ytamaapapaiopiaa.Ab
