/- A range over a function, where the function gives its rounds as a list: rounds are run by the abstract machine. -/
import Derived.Test.YtamaapapaiopiaaBFun
import Derived.RangeFuncLeaves
import Derived.RangeFuncKeeps
set_option linter.unusedVariables false
set_option linter.unusedSimpArgs false
set_option linter.unusedSectionVars false
namespace Go.Proofs.Ytamaapapaiopiaa.Ab
open Go Go.RowKit

/-! ### Frames without places -/
structure FS (n wb : Nat) (ι : Emb) (T : Fr) (H : List Blk) (tmps : Array Value) (w : World) : Prop where
  sim : Sim wb ι H w
  nm : ∀ x, x < n → VRel ι (T x) (tmps.getD x undef)
def cutF (n : Nat) (T : Fr) : Fr := fun x => if x < n then T x else poisonV
theorem FS.b {n wb : Nat} {ι : Emb} {T : Fr} {H : List Blk} {tmps : Array Value} {w : World} (h : FS n wb ι T H tmps w) : BSim [] n wb ι H w ι (fun _ => none) (cutF n T) H tmps w := by
  refine ⟨h.sim, ⟨fun _ _ h => (by cases h), fun _ _ h => (by cases h), fun _ _ _ h => (by cases h)⟩, .refl _ _ _ h.sim.dom, fun x => ?_⟩
  unfold cutF
  by_cases c : x < n
  · rw [if_pos c]
    unfold NRel
    rw [if_pos c]
    exact h.nm x c
  · rw [if_neg c]; exact .poison
theorem BSim.fs {n wb : Nat} {ι0 ι : Emb} {H0 H : List Blk} {w0 w : World} {lam : Lam} {T : Fr} {tmps : Array Value} (h : BSim [] n wb ι0 H0 w0 ι lam T H tmps w) : FS n wb ι T H tmps w := by
  refine ⟨h.sim, fun x hx => ?_⟩
  have := h.nm x
  unfold NRel at this
  rw [if_pos hx] at this
  exact this
theorem FS.mono {n wb : Nat} {ι κ : Emb} {T T' : Fr} {H K : List Blk} {tmps tmps' : Array Value} {w v : World} (h : FS n wb ι T H tmps w) (g : FS n wb κ T' K tmps' v) (hl : ι.le κ) : FS n wb κ T K tmps v := ⟨g.sim, fun x hx => (h.nm x hx).mono hl⟩

section
variable {P : Program} {call : Caller} {n m wb : Nat}
/-- a piece of code, without places -/
theorem seg {c : Code} (hc : codeW n c = true) {T T' : Fr} {s s' : St} {e : Ex} (h : CodeDoes P [] n wb c (cutF n T) s e T' s') {X : Option Nat × Nat} {ι : Emb} {a : Act} {w : World} (hs : FS n wb ι T s.heap a.tmps w) (hz : a.tmps.size = n) {Q : Exit → Act → World → Prop}
    (hQ : ∀ ι' a' w', FS n wb ι' T' s'.heap a'.tmps w' → Step ι s.heap w ι' s'.heap w' → a'.tmps.size = n → a'.defers = a.defers → Q e.to a' w') : c.wpIn (FR X) X.2 P Q a w :=
  h X ι s.heap w ι (fun _ => none) a w hs.sim.size hs.b hz hc Q fun ι' lam' a' w' g1 g2 g3 => hQ ι' a' w' g1.fs g1.step g2 g3
def sel : List Nat → Code → Code
  | [], c => c
  | 0 :: p, .seq a _ => sel p a
  | 1 :: p, .seq _ b => sel p b
  | 2 :: p, .block _ a => sel p a
  | 2 :: p, .loop a => sel p a
  | 3 :: p, .rangeFunc _ _ a _ => sel p a
  | 4 :: p, .rangeFunc _ _ _ b => sel p b
  | _, _ => .skip
def bodyOf (fn : Func) : Code := fn.body.getD .skip
/-- what a printed piece does -/
theorem seg_does (hcall : CallOk P call) {wd : Nat} {c : Code} (hc : codeW n c = true) {lo : Lo} {Li Lu : List Nat} {F : List Value → St → Res} (hF : ∀ T s, codeB P call [] loopL wd c lo (ofL Li 0 T noT) s (fun e T s => some (e, toL Lu T, s)) = F T s) {T : Fr} {s s' : St} {e : Ex} {X' : List Value}
    (h : F (toL Li (cutF n T)) s = some (e, X', s')) : CodeDoes P [] n wb c (cutF n T) s e (ofL Lu 0 X' noT) s' := by
  rw [← hF] at h
  obtain ⟨e1, T1, s1, h1, h2⟩ := codeB_sound (wb := wb) (n := n) (m := 0) hcall rfl (fun body X s r h => loopL_some.1 h) c hc lo _ s _ _ h
  cases h1
  exact (h2.weakR (kept Lu T1)).weakL (kept Li (cutF n T))

def NoMap (H : List Blk) : Prop := ∀ (b : Nat) es clock, H[b]? ≠ some (.map es clock)
/-- what is no cells is of no block that one owns -/
theorem Sim.notOwn {ι : Emb} {H : List Blk} {w : World} (h : Sim wb ι H w) (hm : NoMap H) {c : Nat} {o : Obj} (ho : w.heap[c]? = some o) (hn : ∀ cs e fz, o ≠ .cells cs e fz) : ∀ b y, ownB H[b]? = true → ι b = some y → y.blk ≠ c := by
  intro b y hb hy he
  rcases ownB_cases hb with ⟨n', cells, hx⟩ | ⟨es, clock, hx⟩
  · obtain ⟨cs, e, fz, q1, _⟩ := h.row b n' cells .act hx (by simp) y hy
    rw [he, ho] at q1
    cases q1
    exact hn _ _ _ rfl
  · exact hm _ _ _ hx
/-- a block that is no cells has turned, and what grew -/
theorem Sim.grown {ι : Emb} {H : List Blk} {w w' : World} {row : Option Nat} (h : Sim wb ι H w) (hm : NoMap H) (hg : w.grownBy w' row) (hr : ∀ r, row = some r → ∃ o : Obj, w.heap[r]? = some o ∧ ∀ cs e fz, o ≠ .cells cs e fz) : Sim wb ι H w' where
  dom := h.dom
  row b n' cells st hb hst l hl := by
    obtain ⟨cs, e, fz, q1, q2, q3, q4⟩ := h.row b n' cells st hb hst l hl
    refine ⟨cs, e, fz, ?_, q2, q3, q4⟩
    rw [hg.block _ (Array.getElem?_eq_some_iff.1 q1).1 fun e1 => ?_]
    · exact q1
    · obtain ⟨o, ho, hn⟩ := hr _ e1.symm
      rw [q1] at ho
      cases ho
      exact hn _ _ _ rfl
  map b es clock hb := absurd hb (hm b es clock)
  excl := h.excl
  size := Nat.le_trans h.size hg.size
  loc := h.loc
theorem FS.grown {ι : Emb} {T : Fr} {H : List Blk} {tmps : Array Value} {w w' : World} {row : Option Nat} (h : FS n wb ι T H tmps w) (hm : NoMap H) (hg : w.grownBy w' row) (hr : ∀ r, row = some r → ∃ o : Obj, w.heap[r]? = some o ∧ ∀ cs e fz, o ≠ .cells cs e fz) : FS n wb ι T H tmps w' := ⟨h.sim.grown hm hg hr, h.nm⟩
theorem Step.grown {ι κ : Emb} {H K : List Blk} {w v v' : World} {row : Option Nat} (h : Step ι H w κ K v) (hg : v.grownBy v' row) (hr : ∀ r, row = some r → w.heap.size ≤ r) : Step ι H w κ K v' where
  le := h.le
  old := h.old
  img := h.img
  keep c hc hn := by
    rw [hg.block c (Nat.lt_of_lt_of_le hc h.size) fun e => ?_]
    · exact h.keep c hc hn
    · have := hr c e.symm; omega
  size := Nat.le_trans h.size hg.size
  os := hg.os.trans h.os
  tape := hg.tape.trans h.tape
  output := hg.output.trans h.output
  len := h.len
  own := h.own

def setP : List (Tmp × Value) → Fr → Fr
  | [], T => T
  | (p, v) :: l, T => setP l (setT T p v)
theorem FS.params {ι : Emb} {H : List Blk} {w : World} : ∀ {l : List (Tmp × Value)} {T : Fr} {tmps : Array Value}, FS n wb ι T H tmps w → tmps.size = n → (∀ x ∈ l, constOk x.2 = true) →
    FS n wb ι (setP l T) H (l.foldl (fun t (x : Tmp × Value) => t.setIfInBounds x.1 x.2) tmps) w ∧ (l.foldl (fun t (x : Tmp × Value) => t.setIfInBounds x.1 x.2) tmps).size = n
  | [], T, tmps, h, hz, _ => ⟨h, hz⟩
  | (p, v) :: l, T, tmps, h, hz, hc => by
    refine FS.params (l := l) (T := setT T p v) (tmps := tmps.setIfInBounds p v) ⟨h.sim, fun x hx => ?_⟩ (by simpa using hz) fun y hy => hc y (List.mem_cons_of_mem _ hy)
    unfold setT
    by_cases e : x = p
    · subst e
      rw [Nat.beq_refl]
      have : (tmps.setIfInBounds x v).getD x undef = v := by simp [Array.getD, hz, hx]
      rw [cond_true, this]
      exact constOk_rel (hc (x, v) (List.mem_cons_self ..))
    · have hb : Nat.beq x p = false := by
        cases hb : Nat.beq x p with
        | false => rfl
        | true => exact absurd (Nat.eq_of_beq_eq_true hb) e
      rw [hb, cond_false]
      have : (tmps.setIfInBounds p v).getD x undef = tmps.getD x undef := by
        simp [Array.getD, hz, hx, Array.getElem_setIfInBounds_ne, Ne.symm e]
      rw [this]
      exact h.nm x hx

/-- a function that gives so many rounds, the k-th of them f k; what Rd says is kept where a round goes on -/
def GivesF {α : Type} (n : Nat) (P : Program) (gi : Nat) (lb : Array Value) (args : α → Array Value) (Kp : World → World → Prop) (f : Nat → α) (N : Nat) (w : World) : Prop :=
  ∀ (l : Nat) (J Jx : List α → World → Prop) (W : World), Below w.heap.size w W → AbidesFrom W.heap.size J → AbidesFrom W.heap.size Jx →
    (∀ pre W1, J pre W1 → pre.length < N → YieldAt (FR (none, 0)) (n - 1) P l (args (f pre.length)) W1 fun e W' =>
      (e = .returned (.bool true) ∧ J (pre ++ [f pre.length]) W' ∧ Kp W1 W') ∨ (e = .returned (.bool false) ∧ Jx (pre ++ [f pre.length]) W')) →
    J [] W →
    CallsIn (FR (none, 0)) n P gi (#[.func (.yield l) #[] #[]] ++ lb) W fun e W' => (∃ v, e = .returned v) ∧ ((∃ xs, xs.length = N ∧ J xs W') ∨ ∃ pre, Jx pre W')

/-- **the law**: the function gives its rounds; the abstract machine runs them -/
theorem range_law {α : Type} 
    {g : Tmp} {ps : Array Tmp} {assign body : Code} (hca : codeW n assign = true) (hcb : codeW n body = true) {T : Fr} {s : St} {m : Nat} {ι : Emb} {a : Act} {w : World} (hs : FS n wb ι T s.heap a.tmps w) (hz : a.tmps.size = n) (hnm : NoMap s.heap)
    {gi : FuncId} {lbV : Array Value} (hg : a.eval (.tmp g) = .func (.func gi) #[] lbV) (eg : ∀ args w, (callFunc gi args).run P w = .ok (.enter gi args) w) {args : α → Array Value} (hsz : ∀ x, (args x).size = ps.size) {Rd : World → Prop} {f : Nat → α} {N : Nat} (hco : ∀ k, k < N → ∀ v ∈ args (f k), constOk v = true) (hseq : GivesF (m + 1) P gi lbV args (fun A B => Rd A → Rd B) f N w)
    {pI pX : List α → St → Prop} (hI0 : pI [] s) (hRd : ∀ ι' s' W pre, ι.le ι' → Sim wb ι' s'.heap W → pI pre s' → Rd W)
    (hround : ∀ pre s1, pI pre s1 → NoMap s1.heap → pre.length < N → ∃ T2 s2 e T3 s3, CodeDoes P [] n wb assign (cutF n (setP (ps.zip (args (f pre.length))).toList T)) s1 .normal T2 s2 ∧
      CodeDoes P [] n wb body (cutF n T2) s2 e T3 s3 ∧ NoMap s2.heap ∧ NoMap s3.heap ∧ ((e = .normal ∧ pI (pre ++ [f pre.length]) s3) ∨ (e = .ret ∧ pX (pre ++ [f pre.length]) s3)))
    {Q : Exit → Act → World → Prop}
    (hdone : ∀ ι' s' w' D xs, xs.length = N → pI xs s' → FS n wb ι' T s'.heap a.tmps w' → Step ι s.heap w ι' s'.heap w' → w.heap.size ≤ D → w'.heap[D]? = some (.deferred (some [])) → NoMap s'.heap → Q .normal { a with defers := { target := .collected D, args := #[] } :: a.defers } w')
    (hstop : ∀ ι' s' w' D xs, pX xs s' → FS n wb ι' T s'.heap a.tmps w' → Step ι s.heap w ι' s'.heap w' → w.heap.size ≤ D → w'.heap[D]? = some (.deferred (some [])) → NoMap s'.heap → Q .ret { a with defers := { target := .collected D, args := #[] } :: a.defers } w') :
    (Code.rangeFunc (.tmp g) ps assign body).wpIn (FR (none, 0)) (m + 2) P Q a w := by
  refine wpIn_rangeFunc ?_
  intro fn hfn
  obtain ⟨rec, hrec⟩ : ∃ rec : LoopState → Option Code → Loop, rec = fun st pe => { state := st, pending := pe, fn, tmps := a.tmps, params := ps, assign, body, defers := w.heap.size } := ⟨_, rfl⟩
  obtain ⟨W1, hW1⟩ : ∃ W1, (w.alloc (.deferred (some []))).alloc (.loop (rec .ready none)) = W1 := ⟨_, rfl⟩
  have hL1 : W1.heap[w.heap.size + 1]? = some (.loop (rec .ready none)) := by
    rw [← hW1]; have := World.alloc_heap_new (w.alloc (.deferred (some []))) (.loop (rec .ready none)); rwa [World.size_alloc] at this
  have hg1 := World.grownBy_alloc w (.deferred (some [])) none
  have hg2 := World.grownBy_alloc (w.alloc (.deferred (some []))) (.loop (rec .ready none)) none
  have hD1 : W1.heap[w.heap.size]? = some (.deferred (some [])) := by
    rw [← hW1, hg2.block _ (by rw [World.size_alloc]; omega) (by simp)]
    exact World.alloc_heap_new w _
  have hsz1 : W1.heap.size = w.heap.size + 2 := by rw [← hW1]; simp
  have hfs1 : FS n wb ι T s.heap a.tmps W1 := by
    rw [← hW1]; exact (hs.grown hnm hg1 fun r e => by cases e).grown hnm hg2 fun r e => by cases e
  have hst1 : Step ι s.heap w ι s.heap W1 := by
    rw [← hW1]; exact ((Step.refl ι s.heap w hs.sim.dom).grown hg1 fun r e => by cases e).grown hg2 fun r e => by cases e
  have hb1 : Below w.heap.size w W1 := by
    rw [← hW1]; exact ((Below.refl _ w).alloc (Nat.le_refl _) _).alloc (by simp) _
  refine ⟨w.heap.size + 1, [{ target := .collected w.heap.size, args := #[] }], W1, { target := .fn (.func gi) lbV, args := #[.func (.yield (w.heap.size + 1)) #[] #[]] }, W1, gi,
    #[.func (.yield (w.heap.size + 1)) #[] #[]] ++ lbV, W1, ?_, ?_, ?_, ?_, fun _ => by omega, ?_⟩
  · rw [← hW1, hrec]; exact run_enterLoop_outer _ _ _ _ _
  · simp only [resolve, hg]
    simp [go_sem]
  · intro f' _; trivial
  · simp [invoke, go_sem, eg]
  · have hlk : ∀ {ι' : Emb} {s' : St} {W : World} {st : LoopState} {pe : Option Code}, Sim wb ι' s'.heap W → NoMap s'.heap → W.heap[w.heap.size + 1]? = some (.loop (rec st pe)) → ∀ b y, ownB s'.heap[b]? = true → ι' b = some y → y.blk ≠ w.heap.size + 1 :=
      fun h1 h2 h3 => h1.notOwn h2 h3 (fun _ _ _ e => by cases e)
    have hdk : ∀ {ι' : Emb} {s' : St} {W : World}, Sim wb ι' s'.heap W → NoMap s'.heap → W.heap[w.heap.size]? = some (.deferred (some [])) → ∀ b y, ownB s'.heap[b]? = true → ι' b = some y → y.blk ≠ w.heap.size :=
      fun h1 h2 h3 => h1.notOwn h2 h3 (fun _ _ _ e => by cases e)
    have lt1 : ∀ {W : World} {o : Obj} {c : Nat}, W.heap[c]? = some o → c < W.heap.size := fun h => (Array.getElem?_eq_some_iff.1 h).1
    have hput : ∀ {W : World} {o o' : Obj}, W.heap[w.heap.size + 1]? = some o → (W.putObj (w.heap.size + 1) o').heap[w.heap.size + 1]? = some o' ∧ (W.putObj (w.heap.size + 1) o').heap[w.heap.size]? = W.heap[w.heap.size]? :=
      fun h => ⟨World.putObj_heap_same (lt1 h), World.putObj_heap_other (by omega)⟩
    have hwalk : ∀ {J : List α → World → Prop} {st : LoopState} {pe : Option Code} {p : List α → St → Prop}, AbidesFrom W1.heap.size (fun pre W => ∃ ι' s', FS n wb ι' T s'.heap a.tmps W ∧ Step ι s.heap w ι' s'.heap W ∧ p pre s' ∧ NoMap s'.heap ∧ W.heap[w.heap.size + 1]? = some (.loop (rec st pe)) ∧ W.heap[w.heap.size]? = some (.deferred (some []))) := by
      intro J st pe p pre A B row ⟨ι', s', q1, q2, q3, q4, q5, q6⟩ hgr hr
      have hne : ∀ {c : Nat} {o : Obj}, A.heap[c]? = some o → o.isWalk = false → B.heap[c]? = some o := fun {c o} hc ho => by
        rw [hgr.block c (lt1 hc) fun e => ?_]
        · exact hc
        · obtain ⟨_, o', ho', hw'⟩ := hr c e.symm
          rw [hc] at ho'
          cases ho'
          rw [ho] at hw'
          cases hw'
      have hcells : ∀ r, row = some r → ∃ o : Obj, A.heap[r]? = some o ∧ ∀ cs e fz, o ≠ .cells cs e fz := fun r e => by
        obtain ⟨_, o, ho, hw'⟩ := hr r e
        exact ⟨o, ho, fun cs e fz h => by subst h; cases hw'⟩
      exact ⟨ι', s', q1.grown q4 hgr hcells, q2.grown hgr fun r e => by have := (hr r e).1; omega, q3, q4, hne q5 rfl, hne q6 rfl⟩
    refine (hseq (w.heap.size + 1)
      (fun pre W => ∃ ι' s', FS n wb ι' T s'.heap a.tmps W ∧ Step ι s.heap w ι' s'.heap W ∧ pI pre s' ∧ NoMap s'.heap ∧ W.heap[w.heap.size + 1]? = some (.loop (rec .ready none)) ∧ W.heap[w.heap.size]? = some (.deferred (some [])))
      (fun pre W => ∃ ι' s', FS n wb ι' T s'.heap a.tmps W ∧ Step ι s.heap w ι' s'.heap W ∧ pX pre s' ∧ NoMap s'.heap ∧ W.heap[w.heap.size + 1]? = some (.loop (rec .done (some .ret))) ∧ W.heap[w.heap.size]? = some (.deferred (some [])))
      W1 hb1 (hwalk (J := pI |> fun _ _ _ => True)) (hwalk (J := pI |> fun _ _ _ => True)) ?_ ⟨ι, s, hfs1, hst1, hI0, hnm, hL1, hD1⟩).mono ?_
    · rintro pre W ⟨ι', s', q1, q2, q3, q4, q5, q6⟩ hlen
      obtain ⟨T2, s2, e, T3, s3, c1, c2, c3, c4, c5⟩ := hround pre s' q3 q4 hlen
      generalize hx : f pre.length = x at *
      have hps : (args x).size = (rec .ready none).params.size := by rw [hrec]; exact hsz x
      refine ⟨_, _, _, _, run_yield q5 hps, ?_⟩
      refine roundIn_of_wpIn trivial ?_
      have hpar := FS.params (l := (ps.zip (args x)).toList) q1 hz (fun y hy => by
        have := List.of_mem_zip (by simpa using hy)
        exact hco pre.length hlen y.2 (by rw [hx]; simpa using this.2))
      have hfold : (Array.foldl (fun tmps (x : Tmp × Value) => tmps.setIfInBounds x.1 x.2) (rec .ready none).tmps ((rec .ready none).params.zip (args x))) = ((ps.zip (args x)).toList.foldl (fun t (x : Tmp × Value) => t.setIfInBounds x.1 x.2) a.tmps) := by
        rw [hrec, ← Array.foldl_toList]
      rw [show (rec .ready none).assign = assign by rw [hrec], show (rec .ready none).body = body by rw [hrec]]
      have key : assign.wpIn (FR (some (w.heap.size + 1), m)) m P (Exit.then (fun a₁ w₁ => ∃ w₂, (Instr.beginRound (w.heap.size + 1)).run P w₁ = .ok () w₂ ∧ body.wpIn (FR (some (w.heap.size + 1), m)) m P (roundPost P (w.heap.size + 1) fun e W' =>
          (e = .returned (.bool true) ∧ (∃ ι' s', FS n wb ι' T s'.heap a.tmps W' ∧ Step ι s.heap w ι' s'.heap W' ∧ pI (pre ++ [x]) s' ∧ NoMap s'.heap ∧ W'.heap[w.heap.size + 1]? = some (.loop (rec .ready none)) ∧ W'.heap[w.heap.size]? = some (.deferred (some []))) ∧ (Rd W → Rd W')) ∨
          (e = .returned (.bool false) ∧ ∃ ι' s', FS n wb ι' T s'.heap a.tmps W' ∧ Step ι s.heap w ι' s'.heap W' ∧ pX (pre ++ [x]) s' ∧ NoMap s'.heap ∧ W'.heap[w.heap.size + 1]? = some (.loop (rec .done (some .ret))) ∧ W'.heap[w.heap.size]? = some (.deferred (some [])))) a₁ w₂) (fun _ _ _ => False))
          { tmps := (ps.zip (args x)).toList.foldl (fun t (x : Tmp × Value) => t.setIfInBounds x.1 x.2) a.tmps, defers := [] } W := by
        refine seg (X := (some (w.heap.size + 1), m)) hca c1 (a := { tmps := _, defers := [] }) hpar.1 hpar.2 fun ι2 a2 w2 g1 g2 g3 g4 => ?_
        have e5 : w2.heap[w.heap.size + 1]? = some (.loop (rec .ready none)) := by rw [g2.keep _ (lt1 q5) (hlk q1.sim q4 q5)]; exact q5
        have e6 : w2.heap[w.heap.size]? = some (.deferred (some [])) := by rw [g2.keep _ (lt1 q6) (hdk q1.sim q4 q6)]; exact q6
        refine ⟨_, run_beginRound e5 (by rw [hrec]), ?_⟩
        have hgp := grownBy_putObj' w2 (w.heap.size + 1) (.loop { rec .ready none with state := .busy })
        have hnc : ∀ {W : World} {o : Obj}, W.heap[w.heap.size + 1]? = some o → (∀ cs e fz, o ≠ .cells cs e fz) → ∀ r, some (w.heap.size + 1) = some r → ∃ o : Obj, W.heap[r]? = some o ∧ ∀ cs e fz, o ≠ .cells cs e fz := fun h1 h2 r e => by cases e; exact ⟨_, h1, h2⟩
        have hfs2 := g1.grown c3 hgp (hnc e5 fun _ _ _ e => by cases e)
        obtain ⟨p5, p6⟩ := hput (o' := .loop { rec .ready none with state := .busy }) e5
        refine seg (X := (some (w.heap.size + 1), m)) hcb c2 hfs2 g3 fun ι3 a3 w3 f1 f2 f3 f4 => ?_
        have r5 : w3.heap[w.heap.size + 1]? = some (.loop { rec .ready none with state := .busy }) := by rw [f2.keep _ (lt1 p5) (hfs2.sim.notOwn c3 p5 fun _ _ _ e => by cases e)]; exact p5
        have r6 : w3.heap[w.heap.size]? = some (.deferred (some [])) := by
          rw [f2.keep _ (lt1 (p6.trans e6)) (hfs2.sim.notOwn c3 (p6.trans e6) fun _ _ _ e => by cases e), p6]; exact e6
        have hle : ι'.le ι3 := g2.le.trans f2.le
        have hT : FS n wb ι3 T s3.heap a.tmps w3 := q1.mono f1 hle
        have hstep : Step ι s.heap w ι3 s3.heap w3 := (((q2.trans g2).grown hgp fun r e => by cases e; omega)).trans f2
        rcases c5 with ⟨rfl, hp⟩ | ⟨rfl, hp⟩
        · have hgq := grownBy_putObj' w3 (w.heap.size + 1) (.loop { ({ rec .ready none with state := .busy } : Loop) with state := if (none : Option Code).isNone then .ready else .done, pending := none })
          obtain ⟨u5, u6⟩ := hput (o' := .loop { ({ rec .ready none with state := .busy } : Loop) with state := if (none : Option Code).isNone then .ready else .done, pending := none }) r5
          have hfin := hT.grown c4 hgq (hnc r5 fun _ _ _ e => by cases e)
          refine ⟨_, _, run_endRound none r5, .inl ⟨rfl, ⟨ι3, s3, hfin, hstep.grown hgq fun r e => by cases e; omega, hp, c4, ?_, u6.trans r6⟩, fun _ => hRd ι3 s3 _ _ (q2.le.trans hle) hfin.sim hp⟩⟩
          rw [u5, hrec]
          rfl
        · have hgq := grownBy_putObj' w3 (w.heap.size + 1) (.loop { ({ rec .ready none with state := .busy } : Loop) with state := if (some Code.ret : Option Code).isNone then .ready else .done, pending := some .ret })
          obtain ⟨u5, u6⟩ := hput (o' := .loop { ({ rec .ready none with state := .busy } : Loop) with state := if (some Code.ret : Option Code).isNone then .ready else .done, pending := some .ret }) r5
          have hfin := hT.grown c4 hgq (hnc r5 fun _ _ _ e => by cases e)
          refine ⟨_, _, run_endRound (some .ret) r5, .inr ⟨rfl, ι3, s3, hfin, hstep.grown hgq fun r e => by cases e; omega, hp, c4, ?_, u6.trans r6⟩⟩
          rw [u5, hrec]
          rfl
      rw [← hfold] at key
      exact key
    · rintro e W' ⟨⟨v, rfl⟩, h⟩
      rcases h with ⟨xs, hS, ι', s', q1, q2, q3, q4, q5, q6⟩ | ⟨xs, ι', s', q1, q2, q3, q4, q5, q6⟩
      · have hres := run_endLoop (P := P) q5 (by rw [hrec]; simp)
        have hp : (rec .ready none).pending = none := by rw [hrec]
        rw [hp] at hres
        refine ⟨_, _, hres, ?_⟩
        exact hdone ι' s' _ _ xs hS q3 (q1.grown q4 (grownBy_putObj' _ _ _) fun r e => by cases e; exact ⟨_, q5, fun _ _ _ e => by cases e⟩) (q2.grown (grownBy_putObj' _ _ _) fun r e => by cases e; omega) (Nat.le_refl _) ((hput q5).2.trans q6) q4
      · have hres := run_endLoop (P := P) q5 (by rw [hrec]; simp)
        have hp : (rec .done (some .ret)).pending = some .ret := by rw [hrec]
        rw [hp] at hres
        refine ⟨_, _, hres, ?_⟩
        exact wpIn_ret (hstop ι' s' _ _ xs q3 (q1.grown q4 (grownBy_putObj' _ _ _) fun r e => by cases e; exact ⟨_, q5, fun _ _ _ e => by cases e⟩) (q2.grown (grownBy_putObj' _ _ _) fun r e => by cases e; omega) (Nat.le_refl _) ((hput q5).2.trans q6) q4)
end
end Go.Proofs.Ytamaapapaiopiaa.Ab
