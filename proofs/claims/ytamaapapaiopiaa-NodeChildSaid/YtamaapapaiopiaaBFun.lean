/- The abstract machine with variables in the frame: results, functions; without a bound on rounds and calls. -/
import Derived.Test.YtamaapapaiopiaaBCode
set_option linter.unusedVariables false
set_option linter.unusedSimpArgs false
set_option linter.unusedSectionVars false
namespace Go.Proofs.Ytamaapapaiopiaa.Ab
open Go

/-! ### Results -/
def resB (n : Nat) : ResultVar → Bool
  | .tmp t => decide (t < n)
  | .cell a _ => decide (a < n)
def resSem (tmps : Array Value) (x : ResultVar) : Sem Value :=
  match x with
  | .tmp t => pure (tmps.getD t undef)
  | .cell a t => do loadVar t (← asAddr (tmps.getD a undef))

theorem VRel.va_of {ι : Emb} {v v' : Value} (h : VRel ι v v') (hn : noTup v = true) : VA ι v v' := by
  cases h with
  | va h => exact h
  | tuple => simp [noTup] at hn
  | poison => simp [noTup] at hn
theorem VRels.va_of {ι : Emb} : ∀ {l m : List Value}, All2 (VRel ι) l m → l.all noTup = true → All2 (VA ι) l m
  | [], [], _, _ => trivial
  | _ :: _, _ :: _, ⟨h1, h2⟩, hl => by
    simp only [List.all_cons, Bool.and_eq_true] at hl
    exact ⟨h1.va_of hl.1, VRels.va_of h2 hl.2⟩

theorem resPack_rel {ι : Emb} {vs vs' : List Value} (h : All2 (VRel ι) vs vs') (hn : vs.all noTup = true) : VRel ι (resPack vs) (if hz : vs'.toArray.size = 1 then vs'.toArray[0] else .tuple vs'.toArray) := by
  cases vs with
  | nil => cases vs' with
    | nil => simp [resPack]; exact undef_rel ι
    | cons => exact h.elim
  | cons v vs => cases vs' with
    | nil => exact h.elim
    | cons v' vs' => cases vs with
      | nil => cases vs' with
        | nil => simp [resPack]; exact h.1
        | cons => exact h.2.elim
      | cons u vs => cases vs' with
        | nil => exact h.2.elim
        | cons u' vs' =>
          have hl : ¬ ((v' :: u' :: vs').toArray.size = 1) := by simp
          rw [dif_neg hl]
          exact .tuple (VRels.va_of h hn)


section
variable {P : Program} {tn : Tn} {n m wb : Nat} {ι0 ι : Emb} {H0 : List Blk} {lam : Lam} {w0 w : World} {T : Fr} {s : St} {tmps : Array Value}

/-- a result variable's value -/
def resV (P : Program) (tn : Tn) (T : Fr) (s : St) : ResultVar → Option Value
  | .tmp t => if lookC t tn = true then some (getT T t) else none
  | .cell a t => match look a tn with
    | none => (aggT P t).bind fun ag => (sizeT P t).bind fun n => aload ag n (getT T a) s
    | some j => (aggT P t).bind fun ag => (sizeT P t).bind fun n => lload ag n (getT T a) (getT T j)
def resVs (P : Program) (tn : Tn) (T : Fr) (s : St) : List ResultVar → Option (List Value)
  | [] => some []
  | x :: l => (resV P tn T s x).bind fun v => (resVs P tn T s l).bind fun r => some (v :: r)
theorem resK_eq {β : Type} : ∀ {l : List ResultVar} (k : List Value → Option β), resK P tn T s l k = (resVs P tn T s l).bind k
  | [], k => rfl
  | .tmp t :: l, k => by
    simp only [resK, resVs, resV]
    split
    · simp only [Option.bind_some, Option.bind_assoc]; rw [resK_eq]
    · rfl
  | .cell a t :: l, k => by
    simp only [resK, resVs, resV]
    cases look a tn with
    | none =>
      simp only [Option.bind_assoc]
      congr 1; funext ag; congr 1; funext n; congr 1; funext v
      rw [resK_eq]; simp only [Option.bind_some]
    | some j =>
      simp only [Option.bind_assoc]
      congr 1; funext ag; congr 1; funext n; congr 1; funext v
      rw [resK_eq]; simp only [Option.bind_some]

theorem resV_sound (htn : tnOk n m tn = true) (h : BSim tn n wb ι0 H0 w0 ι lam T s.heap tmps w) {x : ResultVar} {v : Value} (hv : resV P tn T s x = some v) (hb : resB n x = true) : ∃ v', (resSem tmps x).run P w = .ok v' w ∧ VRel ι v v' := by
  cases x with
  | tmp t =>
    simp only [resV] at hv
    split at hv
    case isFalse => cases hv
    rename_i hl
    cases hv
    have := h.nm t
    unfold NRel at this
    rw [if_pos (by simpa [resB] using hb)] at this
    have hl2 : look t tn = none := by simpa [lookC] using hl
    rw [hl2] at this
    exact ⟨_, rfl, this⟩
  | cell ad t =>
    have had : ad < n := by simpa [resB] using hb
    have hx := h.nm ad
    unfold NRel at hx
    rw [if_pos had] at hx
    simp only [resV] at hv
    cases hl : look ad tn with
    | none =>
      rw [hl] at hv hx
      simp only [Option.bind_eq_some_iff] at hv
      obtain ⟨ag, hag, n2, hn, hv⟩ := hv
      unfold aload at hv
      split at hv
      case h_2 => cases hv
      rename_i b off heq
      have heq : T ad = _ := heq
      rw [heq] at hx
      obtain ⟨_, lc, hb2, hv'⟩ := hx.inv_ptr
      cases ag with
      | true =>
        simp only [if_true, Option.map_eq_some_iff] at hv
        obtain ⟨vs, hr, rfl⟩ := hv
        obtain ⟨vs', h1, h2, h3⟩ := h.sim.read (P := P) hr hb2
        refine ⟨.agg vs'.toArray, ?_, .va (.agg (by simpa using h2))⟩
        simp only [resSem]
        rw [hv']
        simp [asAddr, loadVar, run_isAgg' hag, run_sizeOf' hn, h1]
      | false =>
        simp only [Bool.false_eq_true, if_false] at hv
        obtain ⟨v', h1, h2⟩ := h.sim.read1 hv hb2
        refine ⟨v', ?_, .of2 h2⟩
        simp only [resSem]
        rw [hv']
        simp [asAddr, loadVar, run_isAgg' hag, h1]
    | some j =>
      rw [hl] at hv hx
      simp only [Option.bind_eq_some_iff] at hv
      obtain ⟨ag, hag, n2, hn, hv⟩ := hv
      have hjn := (tnOk_mem htn hl).2.2
      have hsl := h.nm j
      unfold NRel at hsl
      rw [if_neg (by omega)] at hsl
      unfold lload at hv
      split at hv
      case h_2 => cases hv
      rename_i b2 off sp cs heq hcs
      have heq : T ad = _ := heq
      have hcs : T j = _ := hcs
      rcases hx with ⟨q, hq⟩ | ⟨off', blk, h1, h2, h3⟩
      · rw [hq] at heq; cases heq
      · rw [h1] at heq
        cases heq
        obtain ⟨blk', cs', e', fz, q1, q2, q3, q4⟩ := hsl cs hcs
        rw [h2] at q1
        cases q1
        have hlen : cs.size = cs'.size := by have := q4.length; simpa using this
        cases ag with
        | true =>
          simp only [if_true] at hv
          split at hv
          case isFalse => cases hv
          rename_i hle
          cases hv
          have hrun := run_loadCells_of (P := P) (n := n2) (off := off) q2 (.inr (by omega))
          refine ⟨.agg ((cs'.toList.drop off).take n2).toArray, ?_, .va (.agg (by simpa using (q4.drop off).take n2))⟩
          simp only [resSem]
          rw [h3]
          simp [asAddr, loadVar, run_isAgg' hag, run_sizeOf' hn, hrun]
        | false =>
          simp only [Bool.false_eq_true, if_false] at hv
          obtain ⟨v', g1, g2⟩ := q4.get off v hv
          have hcell : w.cell? ⟨blk, off, none⟩ = some v' := by rw [cell?_of q2]; simpa using g1
          refine ⟨v', ?_, .of2 g2⟩
          simp only [resSem]
          rw [h3]
          simp [asAddr, loadVar, run_isAgg' hag, hcell]

theorem resVs_sound (htn : tnOk n m tn = true) (h : BSim tn n wb ι0 H0 w0 ι lam T s.heap tmps w) : ∀ {l : List ResultVar} {vs : List Value}, resVs P tn T s l = some vs → l.all (resB n) = true →
    ∃ vs', (l.mapM (resSem tmps)).run P w = .ok vs' w ∧ All2 (VRel ι) vs vs'
  | [], vs, hv, _ => by simp [resVs] at hv; subst hv; exact ⟨[], rfl, trivial⟩
  | x :: l, vs, hv, hb => by
    simp only [resVs, Option.bind_eq_some_iff] at hv
    obtain ⟨v, hv, r, hr, hh⟩ := hv
    cases hh
    simp only [List.all_cons, Bool.and_eq_true] at hb
    obtain ⟨v', h1, h2⟩ := resV_sound htn h hv hb.1
    obtain ⟨vs', h3, h4⟩ := resVs_sound htn h hr hb.2
    refine ⟨v' :: vs', ?_, h2, h4⟩
    rw [List.mapM_cons, Sem.run_bind, h1, Result.andThen_ok, Sem.run_bind, h3]
    rfl

theorem results_sound {fn : Func} (htn : tnOk n m tn = true) (h : BSim tn n wb ι0 H0 w0 ι lam T s.heap tmps w) {vs : List Value} (hv : resVs P tn T s fn.results.toList = some vs) (hn : vs.all noTup = true)
    (hb : fn.results.toList.all (resB n) = true) : ∃ v', (results fn tmps).run P w = .ok v' w ∧ VRel ι (resPack vs) v' := by
  obtain ⟨vs', h1, h2⟩ := resVs_sound htn h hv hb
  refine ⟨_, ?_, resPack_rel h2 hn⟩
  have hm : (fn.results.mapM (resSem tmps)).run P w = .ok vs'.toArray w := by
    rw [Array.mapM_eq_mapM_toList, Sem.run_map, h1]
    rfl
  show (do let vs ← fn.results.mapM (resSem tmps); pure (if h : vs.size = 1 then vs[0] else .tuple vs) : Sem Value).run P w = _
  rw [Sem.run_bind, hm]
  rfl
end

def funcW (fn : Func) : Bool :=
  match fn.body with
  | some c => codeW fn.ntmps c && fn.results.toList.all (resB fn.ntmps)
  | none => true
def progW (P : Program) : Bool := P.funcs.all funcW

def LibOk (P : Program) (lib : Lib) : Prop := ∀ f g, lib f = some g → ∀ args s v s', g args s = some (v, s') → ∀ wb ι w (args' : Array Value), Sim wb ι s.heap w → All2 (VRel ι) args args'.toList →
    Calls P f args' w fun e w' => ∃ v', e = .returned v' ∧ After wb ι s.heap w s'.heap v v' w'


theorem getL_get : ∀ (l : List Value) (i : Nat), getL l i = (l[i]?).getD undef
  | [], i => by simp [getL]
  | x :: l, 0 => by simp [getL]
  | x :: l, i + 1 => by simp [getL, getL_get l i]
theorem args_rel {ι : Emb} {args : List Value} {args' : Array Value} (h : All2 (VRel ι) args args'.toList) (k i : Nat) : VRel ι (ofArgs args i) ((args' ++ Array.replicate k undef).getD i undef) := by
  have hl := h.length
  unfold ofArgs
  rw [getL_get]
  by_cases hia : i < args.length
  · obtain ⟨b, hb, hr⟩ := h.get i args[i] (by simp [hia])
    have hsz : i < args'.size := by simpa [hl] using hia
    have : (args' ++ Array.replicate k undef).getD i undef = b := by
      have h2 : args'[i]? = some b := by simpa using hb
      rw [Array.getD_eq_getD_getElem?, Array.getElem?_append_left hsz, h2]
      rfl
    rw [this, List.getElem?_eq_getElem hia]
    exact hr
  · have hsz : args'.size ≤ i := by
      have : args'.toList.length = args.length := hl.symm
      simp at this
      omega
    have : (args' ++ Array.replicate k undef).getD i undef = undef := by
      rw [Array.getD_eq_getD_getElem?, Array.getElem?_append_right hsz, Array.getElem?_replicate]
      split <;> rfl
    rw [this, List.getElem?_eq_none (by omega)]
    exact undef_rel ι

theorem bodyB_sound {P : Program} {call : Caller} {tn : Tn} {lp : (List Value → St → Res) → List Value → St → Res} (hcall : CallOk P call) (hlp : ∀ body X s r, lp body X s = some r → ∃ q, loopN body q X s = some r)
    {f : FuncId} {fn : Func} (hfn : P.funcs[f]? = some fn) (hW : funcW fn = true) {args : List Value} {s s' : St} {v : Value} (h : bodyB P call tn lp fn args s = some (v, s')) {wb : Nat} {ι : Emb} {w : World} {args' : Array Value} (hs : Sim wb ι s.heap w) (ha : All2 (VRel ι) args args'.toList) :
    Calls P f args' w fun e w' => ∃ v', e = .returned v' ∧ After wb ι s.heap w s'.heap v v' w' := by
  simp only [bodyB, Option.bind_eq_some_iff] at h
  obtain ⟨c, hc, h⟩ := h
  split at h
  case isFalse => cases h
  rename_i hok
  simp only [Bool.and_eq_true, Nat.ble_eq] at hok
  obtain ⟨hlen, htn⟩ := hok
  unfold funcW at hW
  simp only [hc, Bool.and_eq_true] at hW
  have hsz : args'.size = args.length := by simpa using ha.length.symm
  have hts : (args' ++ Array.replicate (fn.ntmps - args'.size) undef).size = fn.ntmps := by simp; omega
  obtain ⟨e, T', s1, h1, h2⟩ := codeB_sound (wb := wb) hcall htn hlp c hW.1 _ _ _ _ _ h
  refine (callsIn_wide (n := 0)).1 (callsIn_of_wp (F := FR (none, 0)) hfn hc trivial ?_ rfl)
  have hstart : BSim tn fn.ntmps wb ι s.heap w ι (fun _ => none) (ofArgs args) s.heap (args' ++ Array.replicate (fn.ntmps - args'.size) undef) w := by
    refine ⟨hs, ⟨fun _ _ h => (by cases h), fun _ _ h => (by cases h), fun _ _ _ h => (by cases h)⟩, .refl _ _ _ hs.dom, fun x => ?_⟩
    unfold NRel
    split
    · rename_i hx
      cases hl : look x tn with
      | none => exact args_rel ha _ x
      | some j =>
        have := (tnOk_mem htn hl).1
        left
        unfold ofArgs
        rw [getL_get, List.getElem?_eq_none (by omega)]
        exact ⟨_, rfl⟩
    · rename_i hx
      intro cells hcc
      unfold ofArgs at hcc
      rw [getL_get, List.getElem?_eq_none (by omega)] at hcc
      cases hcc
  refine h2 (none, 0) ι s.heap w ι (fun _ => none) ⟨args' ++ Array.replicate (fn.ntmps - args'.size) undef, []⟩ w hs.size hstart hts hW.1 _ fun κ lam' a' w' g1 g2 g3 => ?_
  simp only at g3
  unfold doneK at h1
  simp only [resK_eq, retV] at h1
  have hne : ∀ id, e ≠ .exit id := by intro id he; subst he; simp at h1
  have h3 : ∃ vs, resVs P tn T' s1 fn.results.toList = some vs ∧ vs.all noTup = true ∧ v = resPack vs ∧ s' = s1 := by
    cases e with
    | exit id => exact absurd rfl (hne id)
    | normal =>
      simp only [Option.bind_eq_some_iff] at h1
      obtain ⟨vs, h4, h5⟩ := h1
      split at h5
      · rename_i hn; cases h5; exact ⟨vs, h4, hn, rfl, rfl⟩
      · cases h5
    | ret =>
      simp only [Option.bind_eq_some_iff] at h1
      obtain ⟨vs, h4, h5⟩ := h1
      split at h5
      · rename_i hn; cases h5; exact ⟨vs, h4, hn, rfl, rfl⟩
      · cases h5
  obtain ⟨vs, h4, h5, rfl, rfl⟩ := h3
  obtain ⟨v', h6, h7⟩ := results_sound htn g1 h4 h5 hW.2
  have hpost : a'.defers = [] ∧ ∃ u, (results fn a'.tmps).run P w' = .ok u w' ∧ (∃ v', Ending.returned u = .returned v' ∧ After wb ι s.heap w s'.heap (resPack vs) v' w') := ⟨g3, v', h6, v', rfl, κ, g1.sim, g1.step, h7⟩
  cases e with
  | exit id => exact absurd rfl (hne id)
  | normal => exact hpost
  | ret => exact hpost

theorem fnB_sound {P : Program} {lib : Lib} {hints : Hints} (hprog : progW P = true) (hlib : LibOk P lib) : ∀ j, CallOk P (fnB P lib hints j) := by
  intro j
  induction j with
  | zero => intro f args s v s' h; simp [fnB] at h
  | succ j ih =>
    intro f args s v s' h hok wb ι w args' hs ha
    simp only [fnB] at h
    split at h
    · rename_i g hg
      exact hlib f g hg args s v s' h wb ι w args' hs ha
    · simp only [Option.bind_eq_some_iff] at h
      obtain ⟨fn, hfn, h⟩ := h
      have hW : funcW fn = true := by
        have := Array.all_eq_true.1 hprog
        obtain ⟨hi, hget⟩ := Array.getElem?_eq_some_iff.1 hfn
        rw [← hget]
        exact this f hi
      exact bodyB_sound ih (fun body X s r hr => ⟨j, hr⟩) hfn hW h hs ha

/-! ### Without a bound -/
/-- from some place on -/
def Ev {α : Type} (F : Nat → Option α) (r : α) : Prop := ∃ j, ∀ i, j ≤ i → F i = some r
theorem Ev.eq {α : Type} {F : Nat → Option α} {r q : α} (h : Ev F r) (g : Ev F q) : r = q := by
  obtain ⟨i, hi⟩ := h
  obtain ⟨j, hj⟩ := g
  have h1 := hi (max i j) (Nat.le_max_left _ _)
  rw [hj (max i j) (Nat.le_max_right _ _)] at h1
  cases h1
  rfl
theorem Ev.const {α : Type} {x : Option α} {r : α} (h : x = some r) : Ev (fun _ => x) r := ⟨0, fun _ _ => h⟩
theorem Ev.bind {α β : Type} {F : Nat → Option α} {G : Nat → α → Option β} {p : α} {r : β} (h : Ev F p) (g : Ev (fun j => G j p) r) : Ev (fun j => (F j).bind (G j)) r := by
  obtain ⟨i, hi⟩ := h
  obtain ⟨j, hj⟩ := g
  exact ⟨max i j, fun m hm => by show (F m).bind (G m) = some r; rw [hi m (by omega)]; exact hj m (by omega)⟩
theorem Ev.shift {α : Type} {F : Nat → Option α} {r : α} (h : Ev (fun j => F (j + 1)) r) : Ev F r := by
  obtain ⟨i, hi⟩ := h
  exact ⟨i + 1, fun m hm => by
    obtain ⟨m, rfl⟩ : ∃ q, m = q + 1 := ⟨m - 1, by omega⟩
    exact hi m (by omega)⟩
theorem Ev.unshift {α : Type} {F : Nat → Option α} {r : α} (h : Ev F r) : Ev (fun j => F (j + 1)) r := by
  obtain ⟨i, hi⟩ := h
  exact ⟨i, fun m hm => hi _ (by omega)⟩
theorem Ev.congr {α : Type} {F G : Nat → Option α} {r : α} (h : Ev F r) (e : ∀ j, F j = G j) : Ev G r := by
  obtain ⟨i, hi⟩ := h
  exact ⟨i, fun m hm => by rw [← e]; exact hi m hm⟩

open Classical in
noncomputable def limO {α : Type} (F : Nat → Option α) : Option α := if h : ∃ r, Ev F r then some h.choose else none
theorem limO_some {α : Type} {F : Nat → Option α} {r : α} : limO F = some r ↔ Ev F r := by
  unfold limO
  constructor
  · intro h
    split at h
    · rename_i hx; cases h; exact hx.choose_spec
    · cases h
  · intro h
    rw [dif_pos ⟨r, h⟩]
    congr 1
    exact (Exists.choose_spec ⟨r, h⟩ : Ev F _).eq h

/-- as many rounds as it takes -/
noncomputable def loopL (body : List Value → St → Res) (T : List Value) (s : St) : Res := limO fun m => loopN body m T s

theorem loopN_succ {body : List Value → St → Res} : ∀ {m : Nat} {T : List Value} {s : St} {r : Ex × List Value × St}, loopN body m T s = some r → loopN body (m + 1) T s = some r
  | 0, _, _, _, h => by simp [loopN] at h
  | m + 1, T, s, r, h => by
    simp only [loopN, seqA, Option.bind_eq_some_iff] at h
    obtain ⟨⟨e1, T1, s1⟩, h1, h2⟩ := h
    rw [loopN, seqA, h1, Option.bind_some]
    cases e1 with
    | normal => exact loopN_succ (m := m) h2
    | exit id => exact h2
    | ret => exact h2
theorem loopN_le {body : List Value → St → Res} {m i : Nat} (hm : m ≤ i) {T : List Value} {s : St} {r : Ex × List Value × St} (h : loopN body m T s = some r) : loopN body i T s = some r := by
  induction i with
  | zero => rw [Nat.le_zero.1 hm] at h; exact h
  | succ i ih =>
    by_cases he : m = i + 1
    · rw [← he]; exact h
    · exact loopN_succ (ih (by omega))
theorem loopL_some {body : List Value → St → Res} {T : List Value} {s : St} {r : Ex × List Value × St} : loopL body T s = some r ↔ ∃ m, loopN body m T s = some r := by
  unfold loopL
  rw [limO_some]
  exact ⟨fun ⟨j, hj⟩ => ⟨j, hj j (Nat.le_refl _)⟩, fun ⟨m, hm⟩ => ⟨m, fun i hi => loopN_le hi hm⟩⟩

theorem loopL_eq (body : List Value → St → Res) (T : List Value) (s : St) : loopL body T s = seqA (body T s) (loopL body) := by
  have key : ∀ r, loopL body T s = some r ↔ seqA (body T s) (loopL body) = some r := by
    intro r
    rw [loopL_some]
    simp only [seqA, Option.bind_eq_some_iff]
    constructor
    · rintro ⟨m, hm⟩
      cases m with
      | zero => simp [loopN] at hm
      | succ m =>
        simp only [loopN, seqA, Option.bind_eq_some_iff] at hm
        obtain ⟨⟨e1, T1, s1⟩, h1, h2⟩ := hm
        refine ⟨(e1, T1, s1), h1, ?_⟩
        cases e1 with
        | normal => exact loopL_some.2 ⟨m, h2⟩
        | exit id => exact h2
        | ret => exact h2
    · rintro ⟨⟨e1, T1, s1⟩, h1, h2⟩
      cases e1 with
      | normal =>
        obtain ⟨m, hm⟩ := loopL_some.1 h2
        exact ⟨m + 1, by rw [loopN, seqA, h1]; exact hm⟩
      | exit id => exact ⟨1, by rw [loopN, seqA, h1]; exact h2⟩
      | ret => exact ⟨1, by rw [loopN, seqA, h1]; exact h2⟩
  cases h : seqA (body T s) (loopL body) with
  | some r => exact (key r).2 h
  | none =>
    cases h2 : loopL body T s with
    | none => rfl
    | some r => rw [(key r).1 h2] at h; cases h


section
variable {P : Program} {call : Caller} {callJ : Nat → Caller} {tn : Tn}

theorem evalOp_call {T : Fr} {o : Oper} {s : St} {p : Value × St} (hc : ∀ f args s r, call f args s = some r → Ev (fun j => callJ j f args s) r) (h : evalOp P call T o s (fun v s => some (v, s)) = some p) :
    Ev (fun j => evalOp P (callJ j) T o s (fun v s => some (v, s))) p := by
  by_cases hb : ∃ c f, o.op = .call c ∧ c.callee = .value f
  · obtain ⟨c, f, h1, h2⟩ := hb
    simp only [evalOp, h1, h2, Option.bind_eq_some_iff] at h ⊢
    obtain ⟨vf, hf, xs, hx, h⟩ := h
    rw [hf, hx]
    simp only [Option.bind_some]
    obtain ⟨q, hq, he⟩ := h
    refine Ev.bind (p := q) ?_ (.const he)
    unfold callV at hq ⊢
    split at hq
    · split at hq
      case isFalse => cases hq
      rename_i hok
      simp only [hok, if_true]
      exact hc _ _ _ _ hq
    · cases hq
  · refine .congr (.const h) fun j => ?_
    unfold evalOp
    split <;> first | rfl | skip
    split <;> first | rfl | skip
    rename_i c heq _ f hcal
    exact absurd ⟨c, f, heq, hcal⟩ hb


variable (hc : ∀ f args s r, call f args s = some r → Ev (fun j => callJ j f args s) r)
include hc

theorem evalOpK_call {T : Fr} {o : Oper} {s : St} {β : Type} {k : Value → St → Option β} {kJ : Nat → Value → St → Option β} {r : β} (h : evalOp P call T o s k = some r) (hk : ∀ v s, k v s = some r → Ev (fun j => kJ j v s) r) : Ev (fun j => evalOp P (callJ j) T o s (kJ j)) r := by
  rw [evalOp_cps] at h
  simp only [Option.bind_eq_some_iff] at h
  obtain ⟨p, h1, h2⟩ := h
  refine (Ev.bind (G := fun j p => kJ j p.1 p.2) (evalOp_call hc h1) (hk _ _ h2)).congr fun j => ?_
  exact (evalOp_cps _).symm

theorem opB_call {T : Fr} {o : Oper} {s : St} {β : Type} {k : Fr → St → Option β} {kJ : Nat → Fr → St → Option β} {r : β} (h : opB P call tn T o s k = some r) (hk : ∀ T s, k T s = some r → Ev (fun j => kJ j T s) r) : Ev (fun j => opB P (callJ j) tn T o s (kJ j)) r := by
  unfold opB at h ⊢
  cases hkk : locK tn o with
  | bad => simp [hkk] at h
  | glob => simp only [hkk] at h ⊢; exact evalOpK_call hc h fun v s h => hk _ _ h
  | ptr j => simp only [hkk] at h ⊢; exact evalOpK_call hc h fun v s h => hk _ _ h
  | mk j =>
    simp only [hkk] at h ⊢
    split at h
    · simp only [Option.bind_eq_some_iff] at h
      obtain ⟨z, hz, c, hc, h⟩ := h
      refine (hk _ _ h).congr fun j => ?_
      simp [hz, hc]
    · simp only [Option.bind_eq_some_iff] at h
      obtain ⟨z, hz, c, hc, h⟩ := h
      refine (hk _ _ h).congr fun j => ?_
      simp [hz, hc]
    · cases h
  | ld j =>
    simp only [hkk] at h ⊢
    split at h
    · simp only [Option.bind_eq_some_iff] at h
      obtain ⟨a, ha, ag, hag, n, hn, v, hv, h⟩ := h
      refine (hk _ _ h).congr fun j => ?_
      simp [ha, hag, hn, hv]
    · cases h
  | st j =>
    simp only [hkk] at h ⊢
    split at h
    · simp only [Option.bind_eq_some_iff] at h
      obtain ⟨a, ha, x, hx, n, hn, c, hcc, h⟩ := h
      refine (hk _ _ h).congr fun j => ?_
      simp [ha, hx, hn, hcc]
    · cases h

theorem seqB_call : ∀ {l : List Oper} {T : Fr} {s : St} {β : Type} {k : Fr → St → Option β} {kJ : Nat → Fr → St → Option β} {r : β}, seqB P call tn l T s k = some r → (∀ T s, k T s = some r → Ev (fun j => kJ j T s) r) → Ev (fun j => seqB P (callJ j) tn l T s (kJ j)) r
  | [], _, _, _, _, _, _, h, hk => hk _ _ h
  | o :: l, _, _, _, _, _, _, h, hk => opB_call hc h fun _ _ h => seqB_call h hk

theorem guardV_call {β : Type} {v : Value} {w : Bool} {x y : Option β} {xJ : Nat → Option β} {r : β} (h : guardV v w x y = some r) (hx : x = some r → Ev xJ r) : Ev (fun j => guardV v w (xJ j) y) r := by
  rcases guardV_ways h with ⟨rfl, h2⟩ | ⟨hv, h2⟩
  · refine (hx h2).congr fun j => ?_
    simp [guardV]
  · refine .congr (.const h2) fun j => ?_
    rcases hv with rfl | rfl
    · cases w <;> simp [guardV]
    · simp [guardV]

theorem grpsB_call {ops : Array Oper} {mk : Nat} : ∀ {gs : List Grp} {T : Fr} {s : St} {β : Type} {k : Fr → St → Option β} {kJ : Nat → Fr → St → Option β} {r : β}, grpsB P call tn ops mk gs T s k = some r → (∀ T s, k T s = some r → Ev (fun j => kJ j T s) r) →
    Ev (fun j => grpsB P (callJ j) tn ops mk gs T s (kJ j)) r
  | [], _, _, _, _, _, _, h, hk => hk _ _ h
  | (none, os) :: gs, _, _, _, _, _, _, h, hk => seqB_call hc h fun _ _ h => grpsB_call h hk
  | (some g, os) :: gs, T, s, β, k, kJ, r, h, hk => by
    simp only [grpsB, Option.bind_eq_some_iff] at h ⊢
    obtain ⟨t, ht, h⟩ := h
    rw [ht]
    simp only [Option.bind_some]
    split at h
    case isFalse => cases h
    rename_i hcc
    simp only [hcc, if_true]
    simp only [Option.bind_eq_some_iff] at h
    obtain ⟨q, h1, h2⟩ := h
    refine Ev.bind (p := q) ?_ (grpsB_call h2 hk)
    exact guardV_call hc h1 fun h => seqB_call hc h fun _ _ h => .const h

theorem oneB_call {ops : Array Oper} {T : Fr} {o : Oper} {s : St} {p : Fr × St} (h : oneB P call tn ops T o s = some p) : Ev (fun j => oneB P (callJ j) tn ops T o s) p := by
  unfold oneB at h ⊢
  cases hg : o.guard with
  | none => simp only [hg] at h ⊢; exact opB_call hc h fun _ _ h => .const h
  | some g =>
    simp only [hg, Option.bind_eq_some_iff] at h ⊢
    obtain ⟨t, ht, h⟩ := h
    rw [ht]
    simp only [Option.bind_some]
    split at h
    case isFalse => cases h
    rename_i hl
    simp only [hl, if_true]
    exact guardV_call hc h fun h => opB_call hc h fun _ _ h => .const h

theorem valB_call {ops : Array Oper} {T : Fr} {o : Oper} {s : St} {p : Value × St} (h : valB P call tn ops T o s = some p) : Ev (fun j => valB P (callJ j) tn ops T o s) p := by
  unfold valB at h ⊢
  cases hg : o.guard with
  | none => simp only [hg] at h ⊢; exact evalOp_call hc h
  | some g =>
    simp only [hg, Option.bind_eq_some_iff] at h ⊢
    obtain ⟨t, ht, h⟩ := h
    rw [ht]
    simp only [Option.bind_some]
    split at h
    case isFalse => cases h
    rename_i hl
    simp only [hl, if_true]
    exact guardV_call hc h fun h => evalOp_call hc h

theorem drawB_call {ops : Array Oper} {bf : List Nat} {mm : Nat} {T0 : Fr} {n0 i : Nat} {o : Oper} {T : Fr} {s : St} {p : Fr × St} (h : drawB P call tn ops bf mm T0 n0 i o T s = some p) :
    Ev (fun j => drawB P (callJ j) tn ops bf mm T0 n0 i o T s) p := by
  unfold drawB at h ⊢
  cases hm : modeB P tn bf ops.size mm i o with
  | pure => simp only [hm] at h ⊢; exact oneB_call hc h
  | own =>
    simp only [hm, Option.bind_eq_some_iff] at h ⊢
    obtain ⟨q, h1, h2⟩ := h
    exact (valB_call hc h1).bind (.const (Option.bind_eq_some_iff.2 h2))
  | quiet =>
    simp only [hm, Option.bind_eq_some_iff] at h ⊢
    obtain ⟨q, h1, h2⟩ := h
    exact (valB_call hc h1).bind (.const h2)
  | store =>
    simp only [hm, Option.bind_eq_some_iff] at h ⊢
    obtain ⟨t, ht, h⟩ := h
    rw [ht]
    simp only [Option.bind_some]
    split at h
    · cases h
    · rename_i hk
      simp only [Option.bind_eq_some_iff] at h
      obtain ⟨q, h1, h2⟩ := h
      simp only [hk]
      exact (valB_call hc h1).bind (.const (Option.bind_eq_some_iff.2 h2))
  | bad => simp [hm] at h

theorem drawsB_call {ops : Array Oper} {bf : List Nat} {mm : Nat} {T0 : Fr} {n0 : Nat} : ∀ {l : List Oper} {i : Nat} {T : Fr} {s : St} {p : Fr × St}, drawsB P call tn ops bf mm T0 n0 i l T s = some p → Ev (fun j => drawsB P (callJ j) tn ops bf mm T0 n0 i l T s) p
  | [], _, _, _, _, h => .const h
  | o :: l, i, T, s, p, h => by
    simp only [drawsB, Option.bind_eq_some_iff] at h ⊢
    obtain ⟨q, h1, h2⟩ := h
    exact (drawB_call hc h1).bind (drawsB_call h2)

theorem drawA_call {ops : Array Oper} {bf : List Nat} {mm : Nat} {T1 : Fr} {i : Nat} {o : Oper} {T : Fr} {s : St} {p : Fr × St} (h : drawA P call tn ops bf mm T1 i o T s = some p) :
    Ev (fun j => drawA P (callJ j) tn ops bf mm T1 i o T s) p := by
  unfold drawA at h ⊢
  cases hm : modeA P tn bf ops.size mm i o with
  | pure => simp only [hm] at h ⊢; exact oneB_call hc h
  | own =>
    simp only [hm, Option.bind_eq_some_iff] at h ⊢
    obtain ⟨q, h1, h2⟩ := h
    exact (valB_call hc h1).bind (.const (Option.bind_eq_some_iff.2 h2))
  | quiet =>
    simp only [hm, Option.bind_eq_some_iff] at h ⊢
    obtain ⟨q, h1, h2⟩ := h
    exact (valB_call hc h1).bind (.const (Option.bind_eq_some_iff.2 h2))
  | store => simp [hm] at h
  | bad =>
    simp only [hm] at h ⊢
    split at h
    case isFalse => cases h
    rename_i ha
    simp only [ha, if_true]
    simp only [Option.bind_eq_some_iff] at h
    obtain ⟨q, h1, h2⟩ := h
    exact (valB_call hc h1).bind (.const (Option.bind_eq_some_iff.2 h2))
theorem drawsA_call {ops : Array Oper} {bf : List Nat} {mm : Nat} {T1 : Fr} : ∀ {l : List Oper} {i : Nat} {T : Fr} {s : St} {p : Fr × St}, drawsA P call tn ops bf mm T1 i l T s = some p → Ev (fun j => drawsA P (callJ j) tn ops bf mm T1 i l T s) p
  | [], _, _, _, _, h => .const h
  | o :: l, i, T, s, p, h => by
    simp only [drawsA, Option.bind_eq_some_iff] at h ⊢
    obtain ⟨q, h1, h2⟩ := h
    exact (drawA_call hc h1).bind (drawsA_call h2)
theorem dryB_call {ops : Array Oper} {L : List Nat} : ∀ {l : List Oper} {T : Fr} {s : St} {p : List Value}, dryB P call tn ops L l T s = some p → Ev (fun j => dryB P (callJ j) tn ops L l T s) p
  | [], _, _, _, h => .const h
  | o :: l, T, s, p, h => by
    simp only [dryB, Option.bind_eq_some_iff] at h ⊢
    obtain ⟨q, h1, h2⟩ := h
    exact (oneB_call hc h1).bind (dryB_call h2)

theorem codeB_call {wd : Nat} : ∀ (c : Code) (lo : Lo) {β : Type} {T : Fr} {s : St} {k : Ex → Fr → St → Option β} {kJ : Nat → Ex → Fr → St → Option β} {r : β}, codeB P call tn loopL wd c lo T s k = some r → (∀ e T s, k e T s = some r → Ev (fun j => kJ j e T s) r) →
    Ev (fun j => codeB P (callJ j) tn (fun b => loopN b j) wd c lo T s (kJ j)) r := by
  intro c
  induction c with
  | skip => intro lo β T s k kJ r h hk; exact hk _ _ _ h
  | region id ops draw =>
    intro lo β T s k kJ r h hk
    cases draw with
    | false =>
      simp only [codeB] at h ⊢
      exact grpsB_call hc h fun T s h => hk _ _ _ h
    | true =>
      simp only [codeB] at h ⊢
      split at h
      case isFalse => cases h
      rename_i hd
      cases ha : hasApp P tn (beforeL [] ops.toList) ops.size (memMask P tn 0 ops.toList) 0 ops.toList with
      | true =>
        simp only [ha, cond_true, drawsAK_eq, dryK_eq, Option.bind_eq_some_iff] at h
        obtain ⟨X, h0, p, h1, h2⟩ := h
        simp only [hd, if_true, cond_true, drawsAK_eq, dryK_eq]
        exact (dryB_call hc h0).bind ((drawsA_call hc h1).bind (hk _ _ _ h2))
      | false =>
        simp only [ha, cond_false, drawsK_eq, Option.bind_eq_some_iff] at h
        obtain ⟨p, h1, h2⟩ := h
        simp only [hd, if_true, cond_false, drawsK_eq]
        exact (drawsB_call hc h1).bind (hk _ _ _ h2)
  | seq x y ihx ihy =>
    intro lo β T s k kJ r h hk
    simp only [codeB] at h ⊢
    refine ihx _ h fun e T1 s1 h1 => ?_
    cases e with
    | normal =>
      cases hj : joinB x y with
      | true => simp only [hj, cond_true] at h1 ⊢; exact ihy _ h1 hk
      | false => simp only [hj, cond_false] at h1 ⊢; exact ihy _ h1 hk
    | exit id => exact hk _ _ _ h1
    | ret => exact hk _ _ _ h1
  | cond c x y ihx ihy =>
    intro lo β T s k kJ r h hk
    simp only [codeB] at h ⊢
    split at h
    case isFalse => cases h
    rename_i hcl
    simp only [hcl, if_true]
    simp only [Option.bind_eq_some_iff] at h
    obtain ⟨v, hv, h⟩ := h
    rw [hv]
    simp only [Option.bind_some]
    unfold condV at h ⊢
    split at h
    · rename_i b
      cases b with
      | true => simp only [if_true] at h ⊢; exact ihx _ h hk
      | false => simp only [Bool.false_eq_true, if_false] at h ⊢; exact ihy _ h hk
    · cases h
  | block id x ih =>
    intro lo β T s k kJ r h hk
    simp only [codeB] at h ⊢
    refine ih _ h fun e T1 s1 h1 => ?_
    cases e with
    | normal => exact hk _ _ _ h1
    | ret => exact hk _ _ _ h1
    | exit j =>
      simp only at h1 ⊢
      split at h1
      · rename_i hj; simp only [hj, if_true]; exact hk _ _ _ h1
      · rename_i hj; simp only [hj, if_false]; exact hk _ _ _ h1
  | loop x ih =>
    intro lo β T s k kJ r h hk
    simp only [codeB, Option.bind_eq_some_iff] at h ⊢
    obtain ⟨p, h1, h2⟩ := h
    have hex : Ev (fun j => exV p.1 ((exitIds x).map fun i => (i, kJ j (.exit i) (ofL (bitsN (exLo i lo.exs) wd 0) 0 p.2.1 noT) p.2.2)) (if hasRet x = true then kJ j .ret (ofL (bitsN lo.ret wd 0) 0 p.2.1 noT) p.2.2 else none)) r := by
      obtain ⟨e, T1, s1⟩ := p
      cases e with
      | normal => cases h2
      | ret =>
        simp only [exV] at h2 ⊢
        split at h2
        · rename_i hr; simp only [hr, if_true]; exact hk _ _ _ h2
        · cases h2
      | exit q =>
        simp only [exV] at h2 ⊢
        have look : ∀ l : List Nat, lookE q (l.map fun i => (i, k (.exit i) (ofL (bitsN (exLo i lo.exs) wd 0) 0 T1 noT) s1)) = some r → Ev (fun j => lookE q (l.map fun i => (i, kJ j (.exit i) (ofL (bitsN (exLo i lo.exs) wd 0) 0 T1 noT) s1))) r := by
          intro l
          induction l with
          | nil => intro h; simp [lookE] at h
          | cons i l ih =>
            intro h
            simp only [List.map_cons, lookE] at h ⊢
            split at h
            · rename_i hq; simp only [hq, if_true]; exact hk _ _ _ h
            · rename_i hq; simp only [hq, if_false]; exact ih h
        exact look _ h2
    refine Ev.bind (p := p) ?_ hex
    obtain ⟨q, hm⟩ := loopL_some.1 h1
    have key : ∀ (q : Nat) (X : List Value) (s : St), loopN (fun X s => codeB P call tn loopL wd x { lo with nrm := lvIn tn (.loop x) lo } (ofL (bitsN (lvIn tn (.loop x) lo) wd 0) 0 X noT) s fun e T s => some (e, toL (liveE wd (bitsN (lvIn tn (.loop x) lo) wd 0) lo e) T, s)) q X s = some p →
        Ev (fun j => loopN (fun X s => codeB P (callJ j) tn (fun b => loopN b j) wd x { lo with nrm := lvIn tn (.loop x) lo } (ofL (bitsN (lvIn tn (.loop x) lo) wd 0) 0 X noT) s fun e T s => some (e, toL (liveE wd (bitsN (lvIn tn (.loop x) lo) wd 0) lo e) T, s)) q X s) p := by
      intro q
      induction q with
      | zero => intro X s h; simp [loopN] at h
      | succ q ihq =>
        intro X s h
        simp only [loopN, seqA, Option.bind_eq_some_iff] at h ⊢
        obtain ⟨⟨e1, X1, s1⟩, g1, g2⟩ := h
        refine Ev.bind (p := (e1, X1, s1)) (ih _ (kJ := fun _ e T s => some (e, toL (liveE wd (bitsN (lvIn tn (.loop x) lo) wd 0) lo e) T, s)) g1 fun e T s he => .const he) ?_
        cases e1 with
        | normal => exact ihq X1 s1 g2
        | exit id => exact .const g2
        | ret => exact .const g2
    obtain ⟨i, hi⟩ := key q _ s hm
    exact ⟨max i q, fun j hj => loopN_le (by omega) (hi j (by omega))⟩
  | exit id => intro lo β T s k kJ r h hk; exact hk _ _ _ h
  | ret => intro lo β T s k kJ r h hk; exact hk _ _ _ h
  | rangeFunc f params assign body _ _ => intro lo β T s k kJ r h; simp [codeB] at h
  | scope body _ => intro lo β T s k kJ r h; simp [codeB] at h
  | label l => intro lo β T s k kJ r h; simp [codeB] at h
  | goto l => intro lo β T s k kJ r h; simp [codeB] at h
  | refuse why => intro lo β T s k kJ r h; simp [codeB] at h

theorem bodyB_call {fn : Func} {args : List Value} {s : St} {r : Value × St} (h : bodyB P call tn loopL fn args s = some r) : Ev (fun j => bodyB P (callJ j) tn (fun b => loopN b j) fn args s) r := by
  simp only [bodyB, Option.bind_eq_some_iff] at h ⊢
  obtain ⟨c, h1, h2⟩ := h
  rw [h1]
  simp only [Option.bind_some]
  split at h2
  case isFalse => cases h2
  rename_i hl
  simp only [hl, if_true]
  exact codeB_call hc c _ h2 fun e T s he => .const he
end

/-- the abstract machine -/
noncomputable def run (P : Program) (lib : Lib) (hints : Hints) : Caller := fun f args s => limO fun j => fnB P lib hints j f args s

theorem run_ev {P : Program} {lib : Lib} {hints : Hints} (f : FuncId) (args : List Value) (s : St) (r : Value × St) (h : run P lib hints f args s = some r) : Ev (fun j => fnB P lib hints j f args s) r := limO_some.1 h

/-- a function's body gives its value -/
theorem run_of {P : Program} {lib : Lib} {hints : Hints} {f : FuncId} {fn : Func} {args : List Value} {s : St} {r : Value × St} (hl : lib f = none) (hf : P.funcs[f]? = some fn) (h : bodyB P (run P lib hints) (hints f) loopL fn args s = some r) : run P lib hints f args s = some r := by
  refine limO_some.2 (Ev.shift ((bodyB_call run_ev h).congr fun j => ?_))
  simp only [fnB, hl, hf, Option.bind_some]

theorem run_lib {P : Program} {lib : Lib} {hints : Hints} {f : FuncId} {g : List Value → St → Option (Value × St)} {args : List Value} {s : St} (hl : lib f = some g) : run P lib hints f args s = g args s := by
  have key : ∀ j, fnB P lib hints (j + 1) f args s = g args s := fun j => by simp only [fnB, hl]
  cases hg : g args s with
  | some r => exact limO_some.2 ⟨1, fun i hi => by obtain ⟨i, rfl⟩ : ∃ q, i = q + 1 := ⟨i - 1, by omega⟩; show fnB P lib hints (i + 1) f args s = _; rw [key, hg]⟩
  | none =>
    cases h : run P lib hints f args s with
    | none => rfl
    | some r =>
      obtain ⟨j, hj⟩ := limO_some.1 h
      have : fnB P lib hints (j + 1) f args s = some r := hj (j + 1) (by omega)
      rw [key, hg] at this
      cases this

/-- so many rounds and calls do -/
theorem run_fuel {P : Program} {lib : Lib} {hints : Hints} {f : FuncId} {args : List Value} {s : St} {r : Value × St} (h : Ev (fun j => fnB P lib hints j f args s) r) : run P lib hints f args s = some r := limO_some.2 h

theorem run_sound {P : Program} {lib : Lib} {hints : Hints} (hprog : progW P = true) (hlib : LibOk P lib) : CallOk P (run P lib hints) := by
  intro f args s v s' h
  obtain ⟨j, hj⟩ := run_ev f args s _ h
  exact fnB_sound hprog hlib j f args s v s' (hj j (Nat.le_refl _))

end Go.Proofs.Ytamaapapaiopiaa.Ab
