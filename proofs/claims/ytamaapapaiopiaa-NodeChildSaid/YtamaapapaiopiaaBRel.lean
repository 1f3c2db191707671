/- The abstract machine with variables in the frame, against the model: how frames correspond. -/
import Derived.Test.YtamaapapaiopiaaAbOp
set_option linter.unusedVariables false
set_option linter.unusedSimpArgs false
set_option linter.unusedSectionVars false
namespace Go.Proofs.Ytamaapapaiopiaa.Ab
open Go

/-- where a place of the frame lies: its block -/
abbrev Lam := Nat → Option Nat

def SlotRel (ι : Emb) (lam : Lam) (w : World) (j : Nat) (u : Value) : Prop :=
  ∀ cells, u = .agg cells → ∃ blk cs e fz, lam j = some blk ∧ w.heap[blk]? = some (.cells cs e fz) ∧ fzOk 0 fz cs.size ∧ All2 (L2 ι) cells.toList cs.toList
def PtRel (lam : Lam) (j : Nat) (u v : Value) : Prop :=
  (∃ q, u = .tuple q) ∨ ∃ off blk, u = .pointer (some ⟨0, off, none⟩) ∧ lam j = some blk ∧ v = .pointer (some ⟨blk, off, none⟩)
/-- a temporary, or a place -/
def NRel (tn : Tn) (n : Nat) (ι : Emb) (lam : Lam) (w : World) (tmps : Array Value) (x : Nat) (u : Value) : Prop :=
  if x < n then (match look x tn with | none => VRel ι u (tmps.getD x undef) | some j => PtRel lam j u (tmps.getD x undef)) else SlotRel ι lam w x u

structure LamOk (lo : Nat) (ι : Emb) (H : List Blk) (lam : Lam) (w : World) : Prop where
  lo : ∀ j b, lam j = some b → lo ≤ b ∧ b < w.heap.size
  excl : ∀ j b, lam j = some b → ∀ a y, ownB H[a]? = true → ι a = some y → y.blk ≠ b
  inj : ∀ i j b, lam i = some b → lam j = some b → i = j

theorem NRel.poison {tn : Tn} {n : Nat} {ι : Emb} {lam : Lam} {w : World} {tmps : Array Value} {x : Nat} : NRel tn n ι lam w tmps x poisonV := by
  unfold NRel
  split
  · split
    · exact .poison _
    · exact .inl ⟨_, rfl⟩
  · intro c h; cases h

theorem tnOk_mem {n m : Nat} : ∀ {tn : Tn}, tnOk n m tn = true → ∀ {x j : Nat}, look x tn = some j → m ≤ x ∧ x < n ∧ n ≤ j
  | [], _, x, j, h => by simp [look] at h
  | (y, q) :: l, h, x, j, hl => by
    simp only [tnOk, Bool.and_eq_true, Nat.ble_eq] at h
    simp only [look] at hl
    cases hb : Nat.beq x y with
    | true =>
      rw [hb] at hl
      cases hl
      have := Nat.eq_of_beq_eq_true hb
      subst this
      exact ⟨h.1.1.1, h.1.1.2, h.1.2⟩
    | false => rw [hb] at hl; exact tnOk_mem h.2 hl

theorem pointing_mem {j : Nat} : ∀ {tn : Tn} {x : Nat}, look x tn = some j → x ∈ pointing j tn
  | [], x, h => by simp [look] at h
  | (y, q) :: l, x, hl => by
    simp only [look] at hl
    simp only [pointing]
    cases hb : Nat.beq x y with
    | true =>
      rw [hb] at hl
      cases hl
      have := Nat.eq_of_beq_eq_true hb
      subst this
      rw [Nat.beq_refl]
      exact List.mem_cons_self
    | false =>
      rw [hb] at hl
      have := pointing_mem (tn := l) hl
      cases Nat.beq q j
      · exact this
      · exact List.mem_cons_of_mem _ this

/-- the state behind an operation, where what the frame has of its own has changed at these places -/
structure AfterL (tn : Tn) (n wb lo : Nat) (ι : Emb) (lam : Lam) (H : List Blk) (w : World) (T : Fr) (sets : List Nat) (ι' : Emb) (lam' : Lam) (K : List Blk) (w' : World) (T' : Fr) (tmps : Array Value) : Prop where
  sim : Sim wb ι' K w'
  lok : LamOk lo ι' K lam' w'
  le : ι.le ι'
  old : ∀ b, b < H.length → ι' b = ι b
  img : ∀ b x, ι' b = some x → H.length ≤ b → w.heap.size ≤ x.blk ∨ ∃ a y, ownB H[a]? = true ∧ ι a = some y ∧ y.blk = x.blk
  keep : ∀ c, c < w.heap.size → (∀ a y, ownB H[a]? = true → ι a = some y → y.blk ≠ c) → (∀ j, lam j ≠ some c) → w'.heap[c]? = w.heap[c]?
  keepL : ∀ j b, lam j = some b → j ∉ sets → lam' j = some b ∧ w'.heap[b]? = w.heap[b]?
  keepP : ∀ x j, look x tn = some j → x ∉ sets → lam' j = lam j
  lnew : ∀ j b, lam' j = some b → lam j = some b ∨ w.heap.size ≤ b
  size : w.heap.size ≤ w'.heap.size
  os : w'.os = w.os
  tape : w'.tape = w.tape
  output : w'.output = w.output
  len : H.length ≤ K.length
  own : ∀ a, a < H.length → ownB K[a]? = true → ownB H[a]? = true
  nm : ∀ x, x ∈ sets → NRel tn n ι' lam' w' tmps x (T' x)
  frame : ∀ x, x ∉ sets → T' x = T x

theorem putT_ne {T : Fr} {d : Option Tmp} {v : Value} {x : Nat} (h : x ∉ d.toList) : putT T d v x = T x := by
  cases d with
  | none => rfl
  | some d =>
    have hd : ¬ d = x := fun e => h (by simp [e])
    have := getT_setT T v d x
    rw [if_neg hd] at this
    exact this
theorem putT_eq {T : Fr} {d : Nat} {v : Value} : putT T (some d) v d = v := by
  have := getT_setT T v d d
  rw [if_pos rfl] at this
  exact this
theorem tmps_ne {a : Act} {d : Option Tmp} {v : Value} {x : Nat} (h : x ∉ d.toList) : (a.put d v).tmps.getD x undef = a.tmps.getD x undef := by
  cases d with
  | none => rfl
  | some d =>
    have hd : d ≠ x := fun e => h (by simp [e])
    simp [Act.put, Array.getElem?_setIfInBounds_ne hd]
theorem tmps_eq {a : Act} {d : Nat} {v : Value} (h : d < a.tmps.size) : (a.put (some d) v).tmps.getD d undef = v := by simp [Act.put, h]

/-- memory on which all that was there is as it was -/
theorem Sim.later {wb : Nat} {ι : Emb} {H : List Blk} {w w' : World} (h : Sim wb ι H w) (hk : ∀ c, c < w.heap.size → w'.heap[c]? = w.heap[c]?) (hz : w.heap.size ≤ w'.heap.size) : Sim wb ι H w' where
  dom := h.dom
  row b n cells st hb hst l hl := by
    obtain ⟨cs, e, fz, q1, q2⟩ := h.row b n cells st hb hst l hl
    exact ⟨cs, e, fz, by rw [hk _ (Array.getElem?_eq_some_iff.1 q1).1]; exact q1, q2⟩
  map b es clock hb l hl := by
    obtain ⟨q1, q2, es', q3, q4⟩ := h.map b es clock hb l hl
    exact ⟨q1, q2, es', by rw [hk _ (Array.getElem?_eq_some_iff.1 q3).1]; exact q3, q4⟩
  excl := h.excl
  size := Nat.le_trans h.size hz
  loc := h.loc

section
variable {P : Program} {call : Caller}
theorem evalBuiltin_cps {b : Builtin} {ts : List TypeId} {xs : List Value} {s : St} {β : Type} (k : Value → St → Option β) :
    evalBuiltin P b ts xs s k = (evalBuiltin P b ts xs s fun v s => some (v, s)).bind fun r => k r.1 r.2 := by
  unfold evalBuiltin
  repeat' split
  all_goals (first | rfl | (simp only [Option.bind_assoc, Option.bind_some]; done) | skip)
  all_goals (simp only [Option.bind_assoc]; congr 1; funext n; try (congr 1; funext n2))
  all_goals (try (congr 1; funext n3))
  all_goals (try (split <;> simp [Option.bind_assoc]))


theorem evalOp_cps {T : Fr} {o : Oper} {s : St} {β : Type} (k : Value → St → Option β) :
    evalOp P call T o s k = (evalOp P call T o s fun v s => some (v, s)).bind fun r => k r.1 r.2 := by
  by_cases hb : ∃ c b, o.op = .call c ∧ c.callee = .builtin b
  · obtain ⟨c, b, h1, h2⟩ := hb
    simp only [evalOp, h1, h2]
    cases opds T c.args.toList with
    | none => rfl
    | some xs => simp only [Option.bind_some]; exact evalBuiltin_cps k
  unfold evalOp
  repeat' split
  all_goals (first | rfl | (simp only [Option.bind_assoc, Option.bind_some]; done) | skip)
  all_goals (try (try simp only [Option.bind_assoc]); try (refine congrArg (Option.bind _) (funext fun v => ?_)))
  all_goals (first | rfl | (split <;> first | rfl | (simp only [Option.bind_assoc, Option.bind_some]; done) | skip) | skip)
  all_goals (try (try simp only [Option.bind_assoc]); try (refine congrArg (Option.bind _) (funext fun v => ?_)))
  all_goals (first | rfl | (split <;> first | rfl | (simp only [Option.bind_assoc, Option.bind_some]; done) | skip) | skip)
  all_goals (try (try simp only [Option.bind_assoc]); try (refine congrArg (Option.bind _) (funext fun v => ?_)))
  all_goals (first | rfl | (split <;> first | rfl | (simp only [Option.bind_assoc, Option.bind_some]; done) | skip) | skip)
  all_goals (try (try simp only [Option.bind_assoc]); try (refine congrArg (Option.bind _) (funext fun v => ?_)))
  all_goals (first | rfl | (split <;> first | rfl | (simp only [Option.bind_assoc, Option.bind_some]; done) | skip) | skip)
  all_goals (try (try simp only [Option.bind_assoc]); try (refine congrArg (Option.bind _) (funext fun v => ?_)))
  all_goals (first | rfl | (split <;> first | rfl | (simp only [Option.bind_assoc, Option.bind_some]; done) | skip) | skip)
  all_goals (try (try simp only [Option.bind_assoc]); try (refine congrArg (Option.bind _) (funext fun v => ?_)))
  all_goals (first | rfl | (split <;> first | rfl | (simp only [Option.bind_assoc, Option.bind_some]; done) | skip) | skip)
  all_goals (exact evalBuiltin_cps k)

end

section congr
variable {P : Program} {call : Caller} {T T' : Fr}
theorem opds_congr : ∀ {xs : List Operand}, (∀ x ∈ xs, opd T x = opd T' x) → opds T xs = opds T' xs
  | [], _ => rfl
  | x :: xs, h => by
    simp only [opds, h x List.mem_cons_self, opds_congr (xs := xs) fun y hy => h y (List.mem_cons_of_mem _ hy)]
theorem opdParts_congr : ∀ {xs : List (Nat × Operand)}, (∀ x ∈ xs.map (·.2), opd T x = opd T' x) → opdParts T xs = opdParts T' xs
  | [], _ => rfl
  | (i, x) :: xs, h => by
    simp only [opdParts, h x (by simp), opdParts_congr (xs := xs) fun y hy => h y (by simp at hy ⊢; exact .inr hy)]
theorem opdO_congr : ∀ {x : Option Operand}, (∀ y, x = some y → opd T y = opd T' y) → opdO T x = opdO T' x
  | none, _ => rfl
  | some x, h => by simp only [opdO, h x rfl]

theorem evalOp_congr {β : Type} {o : Oper} {s : St} {k : Value → St → Option β} (h : ∀ x ∈ o.op.operands, opd T x = opd T' x) : evalOp P call T o s k = evalOp P call T' o s k := by
  obtain ⟨dst, op, type, pos, after, guard⟩ := o
  cases op <;> simp only [Op.operands] at h <;> simp only [evalOp]
  case build t ps => rw [opdParts_congr (xs := ps.toList) fun x hx => h x (by simpa using hx)]
  case buildSlice t n ps => rw [opdParts_congr (xs := ps.toList) fun x hx => h x (by simpa using hx)]
  case makeFunc fn first captured =>
    rw [opds_congr (xs := first.toList) fun x hx => h x (by simp at hx ⊢; exact .inl hx), opds_congr (xs := captured.toList) fun x hx => h x (by simp at hx ⊢; exact .inr hx)]
  case slice t x lo hi mx =>
    rw [h x (by simp), opdO_congr (x := lo) fun y hy => h y (by simp [hy]), opdO_congr (x := hi) fun y hy => h y (by simp [hy]), opdO_congr (x := mx) fun y hy => h y (by simp [hy])]
  case call c =>
    cases hc : c.callee with
    | builtin b => simp only; rw [opds_congr (xs := c.args.toList) fun x hx => h x (by simp [Call.operands, hc] at hx ⊢; exact hx)]
    | value f => simp only; rw [h f (by simp [Call.operands, hc]), opds_congr (xs := c.args.toList) fun x hx => h x (by simp [Call.operands, hc] at hx ⊢; exact .inr hx)]
    | invoke _ _ => rfl
  all_goals (first | rfl | (simp_all; done))

end congr

section
variable {P : Program} {call : Caller} {tn : Tn} {n m wb lo : Nat} {ι : Emb} {lam : Lam} {a : Act} {w : World} {s : St} {T : Fr} {o : Oper}

/-- of an operation that isn't at a place: what is known of the temporaries that it names does -/
theorem evalOp_names (hcall : CallOk P call) {v : Value} {s1 : St} (h : evalOp P call T o s (fun v s => some (v, s)) = some (v, s1)) (hs : Sim wb ι s.heap w)
    (hf : ∀ x ∈ opTmps o, x < a.tmps.size → VRel ι (T x) (a.tmps.getD x undef)) (hb : operB a.tmps.size o = true) : OpOk P o a w (After wb ι s.heap w s1.heap v) := by
  let T2 : Fr := fun i => if i ∈ opTmps o then T i else poisonV
  have hfr : FrRel ι T2 a.tmps := by
    intro i hi
    have hT : getT T2 i = if i ∈ opTmps o then T i else poisonV := rfl
    rw [hT]
    by_cases hm : i ∈ opTmps o
    · rw [if_pos hm]; exact hf i hm hi
    · rw [if_neg hm]; exact .poison _
  have he : evalOp P call T2 o s (fun v s => some (v, s)) = some (v, s1) := by
    rw [← h]
    refine evalOp_congr fun x hx => ?_
    cases x with
    | tmp t =>
      have : t ∈ opTmps o := List.mem_filterMap.2 ⟨.tmp t, by simpa using hx, rfl⟩
      show some (T2 t) = some (T t)
      simp [T2, this]
    | _ => rfl
  obtain ⟨v2, s2, hk, hok⟩ := evalOp_sound (a := a) hcall he hs hfr hb
  cases hk
  exact hok

theorem OpOk.mono {R S : Value → World → Prop} (h : OpOk P o a w R) (hi : ∀ v w', R v w' → S v w') : OpOk P o a w S := by
  rcases h with ⟨v', w', h1, h2⟩ | ⟨w', h1, h2⟩ | ⟨f, args, h1, h2⟩
  · exact .inl ⟨v', w', h1, hi _ _ h2⟩
  · exact .inr (.inl ⟨w', h1, hi _ _ h2⟩)
  · exact .inr (.inr ⟨f, args, h1, h2.mono fun e w' ⟨v', he, hr⟩ => ⟨v', he, hi _ _ hr⟩⟩)

theorem dst_lt {d x : Nat} (hd : dstB n (some d) = true) (hx : x = d) : x < n := by subst hx; simpa [dstB] using hd

/-- the name of a value set -/
theorem nrel_dst (hz : a.tmps.size = n) (hdb : dstB n o.dst = true) {v v' : Value} {w' : World} {x : Nat} {T' : Fr} (hx : x ∈ o.dst.toList) (hT : T' x = v)
    (hv : match dOf tn o with | none => VRel ι v v' | some j => PtRel lam j v v') : NRel tn n ι lam w' (a.put o.dst v').tmps x (T' x) := by
  unfold dOf at hv
  cases hd : o.dst with
  | none => rw [hd] at hx; simp at hx
  | some d =>
    rw [hd] at hx hdb hv
    simp at hx
    subst hx
    have hlt : x < n := by simpa [dstB] using hdb
    unfold NRel
    rw [if_pos hlt, tmps_eq (by omega), hT]
    simpa using hv

/-- an operation that isn't at a place -/
theorem after_glob (hz : a.tmps.size = n) (hdb : dstB n o.dst = true) (hlam : LamOk lo ι s.heap lam w) {K : List Blk} {v v' : Value} {w' : World} (hA : After wb ι s.heap w K v v' w') (hd : dOf tn o = none) :
    ∃ ι', AfterL tn n wb lo ι lam s.heap w T o.dst.toList ι' lam K w' (putT T o.dst v) (a.put o.dst v').tmps := by
  obtain ⟨κ, h1, h2, h3⟩ := hA
  have hkb : ∀ j b, lam j = some b → w'.heap[b]? = w.heap[b]? := fun j b hj => h2.keep b (hlam.lo j b hj).2 fun a y ha hy => hlam.excl j b hj a y ha hy
  refine ⟨κ, ⟨h1, ⟨fun j b hj => ⟨(hlam.lo j b hj).1, Nat.lt_of_lt_of_le (hlam.lo j b hj).2 h2.size⟩, fun j b hj x y hx hy => ?_, hlam.inj⟩, h2.le, h2.old, h2.img, fun c hc hn _ => h2.keep c hc hn, fun j b hj _ => ⟨hj, hkb j b hj⟩, fun _ _ _ _ => rfl, fun _ _ hj => .inl hj,
    h2.size, h2.os, h2.tape, h2.output, h2.len, h2.own, fun x hx => nrel_dst hz hdb hx ?_ (by rw [hd]; exact h3), fun x hx => putT_ne hx⟩⟩
  · by_cases hlt : x < s.heap.length
    · rw [h2.old x hlt] at hy
      exact hlam.excl j b hj x y (h2.own x hlt hx) hy
    · rcases h2.img x y hy (by omega) with h4 | ⟨a', y', h4, h5, h6⟩
      · have := (hlam.lo j b hj).2; omega
      · rw [← h6]; exact hlam.excl j b hj a' y' h4 h5
  · cases hdd : o.dst with
    | none => rw [hdd] at hx; simp at hx
    | some d => rw [hdd] at hx; simp at hx; subst hx; exact putT_eq

/-- nothing of memory has changed but what is new -/
theorem after_same_mem (hz : a.tmps.size = n) (hdb : dstB n o.dst = true) (hs : Sim wb ι s.heap w) (hlam : LamOk lo ι s.heap lam w) {v v' : Value} {w' : World}
    (hk : ∀ c, c < w.heap.size → w'.heap[c]? = w.heap[c]?) (hsz : w.heap.size ≤ w'.heap.size) (ho : w'.os = w.os) (ht : w'.tape = w.tape) (hou : w'.output = w.output)
    (hv : match dOf tn o with | none => VRel ι v v' | some j => PtRel lam j v v') :
    AfterL tn n wb lo ι lam s.heap w T o.dst.toList ι lam s.heap w' (putT T o.dst v) (a.put o.dst v').tmps where
  sim := hs.later hk hsz
  lok := ⟨fun j b hj => ⟨(hlam.lo j b hj).1, Nat.lt_of_lt_of_le (hlam.lo j b hj).2 hsz⟩, hlam.excl, hlam.inj⟩
  le := .refl _
  old _ _ := rfl
  img b x hx hb := absurd (hs.dom b x hx) (by omega)
  keep c hc _ _ := hk c hc
  keepL j b hj _ := ⟨hj, hk b (hlam.lo j b hj).2⟩
  keepP _ _ _ _ := rfl
  lnew _ _ hj := .inl hj
  size := hsz
  os := ho
  tape := ht
  output := hou
  len := Nat.le_refl _
  own _ _ h := h
  nm x hx := nrel_dst hz hdb hx (by
    cases hdd : o.dst with
    | none => rw [hdd] at hx; simp at hx
    | some d => rw [hdd] at hx; simp at hx; subst hx; exact putT_eq) hv
  frame x hx := putT_ne hx

/-- the address of a place, as a block of its own -/
def emb1 (blk : Nat) : Emb := fun b => if b = 0 then some ⟨blk, 0, 0, 0⟩ else none
theorem sim1 (hs : Sim wb ι s.heap w) (blk : Nat) : Sim wb (emb1 blk) [Blk.row 0 [] .dead] w where
  dom b x h := by
    unfold emb1 at h
    split at h
    · rename_i hb; simp [hb]
    · cases h
  row b n cells st hb hst := by
    have := (List.getElem?_eq_some_iff.1 hb).1
    simp at this
    subst this
    simp at hb
    exact absurd hb.2.2.symm hst
  map b es clock hb := by
    have := (List.getElem?_eq_some_iff.1 hb).1
    simp at this
    subst this
    simp at hb
  excl a b ha := by
    cases a with
    | zero => cases ha
    | succ a => cases ha
  size := hs.size
  loc b n cells st hb hst := by
    have := (List.getElem?_eq_some_iff.1 hb).1
    simp at this
    subst this
    simp at hb
    exact absurd hb.2.2.symm hst

theorem emb1_ptr {blk off : Nat} : VRel (emb1 blk) (.pointer (some ⟨0, off, none⟩)) (.pointer (some ⟨blk, off, none⟩)) := by
  have := L0.ptr (ι := emb1 blk) (b := 0) (l := ⟨blk, 0, 0, 0⟩) off rfl
  rw [Nat.zero_add] at this
  exact .of0 this

/-- what an address of a place becomes -/
def PtrDo (lam : Lam) (j : Nat) (w : World) (v v' : Value) (w' : World) : Prop :=
  (∀ c, c < w.heap.size → w'.heap[c]? = w.heap[c]?) ∧ w.heap.size ≤ w'.heap.size ∧ w'.os = w.os ∧ w'.tape = w.tape ∧ w'.output = w.output ∧ PtRel lam j v v'

theorem ptr_after {blk off : Nat} {j : Nat} (hl : lam j = some blk) {v' : Value} {w' : World} (h : After wb (emb1 blk) [Blk.row 0 [] .dead] w [Blk.row 0 [] .dead] (.pointer (some ⟨0, off, none⟩)) v' w') : PtrDo lam j w (.pointer (some ⟨0, off, none⟩)) v' w' := by
  obtain ⟨κ, h1, h2, h3⟩ := h
  obtain ⟨_, l, h4, h5⟩ := h3.inv_ptr
  have h6 := h2.le 0 ⟨blk, 0, 0, 0⟩ rfl
  rw [h4] at h6
  cases h6
  refine ⟨fun c hc => h2.keep c hc fun a y ha => ?_, h2.size, h2.os, h2.tape, h2.output, .inr ⟨off, blk, rfl, hl, by rw [h5, Nat.zero_add]⟩⟩
  cases a with
  | zero => cases ha
  | succ a => cases ha

theorem sameO_eq {x : Option Nat} {j : Nat} (h : sameO x j = true) : x = some j := by
  unfold sameO at h
  split at h
  · rw [Nat.eq_of_beq_eq_true h]
  · cases h

theorem tOf_some {x : Operand} {j : Nat} (h : tOf tn x = some j) : ∃ t, x = .tmp t ∧ look t tn = some j := by
  cases x with
  | tmp t => exact ⟨t, rfl, h⟩
  | _ => cases h

/-- the operations on addresses of places -/
theorem ptr_ok (hs : Sim wb ι s.heap w) {j : Nat} (hk : locK tn o = .ptr j) {v : Value} {s1 : St} (h : evalOp P call T o s (fun v s => some (v, s)) = some (v, s1))
    (hf : ∀ x ∈ opTmps o, x < a.tmps.size → match look x tn with | none => VRel ι (T x) (a.tmps.getD x undef) | some j => PtRel lam j (T x) (a.tmps.getD x undef)) (hb : operB a.tmps.size o = true) :
    s1 = s ∧ dOf tn o = some j ∧ OpOk P o a w (PtrDo lam j w v) := by
  have same : ∀ {v v' : Value}, PtRel lam j v v' → PtrDo lam j w v v' w := fun h => ⟨fun _ _ => rfl, Nat.le_refl _, rfl, rfl, rfl, h⟩
  have hmem : ∀ t, Operand.tmp t ∈ o.op.operands → t ∈ opTmps o := fun t ht => List.mem_filterMap.2 ⟨.tmp t, by simpa using ht, rfl⟩
  have hlt : ∀ t, Operand.tmp t ∈ o.op.operands → t < a.tmps.size := fun t ht => by
    have := List.all_eq_true.1 hb (.tmp t) (by simpa using ht)
    simpa [opdB] using this
  have hpt : ∀ t, Operand.tmp t ∈ o.op.operands → look t tn = some j → PtRel lam j (T t) (a.tmps.getD t undef) := fun t ht hl => by
    have := hf t (hmem t ht) (hlt t ht)
    rw [hl] at this
    exact this
  have hint : ∀ y, y ∈ o.op.operands → cleanO tn y = true → ∀ v, opd T y = some v → VRel ι v (a.eval y) := by
    intro y hy hc v hv
    cases y with
    | tmp t =>
      simp only [opd, Option.some.injEq] at hv
      subst hv
      have := hf t (hmem t hy) (hlt t hy)
      have hl : look t tn = none := by simpa [cleanO, tOf] using hc
      rw [hl] at this
      exact this
    | const u =>
      simp only [opd] at hv
      split at hv
      · rename_i hc; cases hv; exact constOk_rel hc
      · cases hv
    | global g => simp [opd] at hv
    | func f => simp only [opd, Option.some.injEq] at hv; subst hv; exact .of0 (.func _)
  unfold locK at hk
  have noglob : globK tn o ≠ .ptr j := by unfold globK; cases (o.op.operands.toList.all (cleanO tn) && (dOf tn o).isNone) <;> simp
  split at hk
  · split at hk
    · cases hk
    · exact absurd hk noglob
  · split at hk
    · rename_i x _ _ _ _; cases hcx : cleanO tn x <;> rw [hcx] at hk <;> cases hk
    · exact absurd hk noglob
  · split at hk
    · cases hcx : (dOf tn o).isNone <;> rw [hcx] at hk <;> cases hk
    · exact absurd hk noglob
  · split at hk
    · rename_i x y ho j2 hq _; cases hcx : (cleanO tn y && (dOf tn o).isNone) <;> rw [hcx] at hk <;> cases hk
    · exact absurd hk noglob
  · -- fieldAddr
    rename_i t x i ho
    split at hk
    · rename_i q hq
      cases hcx : sameO (dOf tn o) q with
      | false => rw [hcx] at hk; cases hk
      | true =>
        rw [hcx] at hk
        cases hk
        obtain ⟨tx, rfl, hlx⟩ := tOf_some hq
        have hp := hpt tx (by simp [ho, Op.operands]) hlx
        simp only [evalOp, ho, opd, getT, Option.bind_some, Option.bind_eq_some_iff] at h
        obtain ⟨f, hf2, n2, hn, h⟩ := h
        split at h
        · cases h
        rename_i h0
        simp only [Option.bind_eq_some_iff] at h
        obtain ⟨r, hr, h⟩ := h
        cases h
        refine ⟨rfl, sameO_eq hcx, ?_⟩
        rcases hp with ⟨q, hq⟩ | ⟨off, blk, h1, h2, h3⟩
        · rw [hq] at hr; cases hr
        · rw [h1] at hr
          have hr' := hr
          simp only [afieldAddr, Option.some.injEq] at hr'
          subst hr'
          exact (so_fieldAddr (wb := wb) (ι := emb1 blk) (H := [Blk.row 0 [] .dead]) ho (sim1 hs blk) hf2 hn h0 (by show VRel _ _ (a.eval (.tmp tx)); simp only [Act.eval]; rw [h3]; exact emb1_ptr) hr).mono fun v' w' hA => ptr_after h2 hA
    · exact absurd hk noglob
  · -- nilCheck
    rename_i x ho
    split at hk
    · rename_i q hq
      cases hcx : sameO (dOf tn o) q with
      | false => rw [hcx] at hk; cases hk
      | true =>
        rw [hcx] at hk
        cases hk
        obtain ⟨tx, rfl, hlx⟩ := tOf_some hq
        have hp := hpt tx (by simp [ho, Op.operands]) hlx
        simp only [evalOp, ho, opd, getT, Option.bind_some, Option.bind_eq_some_iff] at h
        obtain ⟨r, hr, h⟩ := h
        cases h
        refine ⟨rfl, sameO_eq hcx, ?_⟩
        rcases hp with ⟨q, hq⟩ | ⟨off, blk, h1, h2, h3⟩
        · rw [hq] at hr; cases hr
        · rw [h1] at hr
          simp only [anilCheck, Option.some.injEq] at hr
          subst hr
          have he : a.eval (.tmp tx) = .pointer (some ⟨blk, off, none⟩) := h3
          exact .inl ⟨_, w, by simp [execOp, ho, he], same (.inr ⟨off, blk, rfl, h2, rfl⟩)⟩
    · exact absurd hk noglob
  · -- move
    rename_i x ho
    split at hk
    · rename_i q hq
      cases hcx : sameO (dOf tn o) q with
      | false => rw [hcx] at hk; cases hk
      | true =>
        rw [hcx] at hk
        cases hk
        obtain ⟨tx, rfl, hlx⟩ := tOf_some hq
        have hp := hpt tx (by simp [ho, Op.operands]) hlx
        simp only [evalOp, ho, opd, getT, Option.bind_some, Option.some.injEq, Prod.mk.injEq] at h
        obtain ⟨rfl, rfl⟩ := h
        exact ⟨rfl, sameO_eq hcx, .inl ⟨a.eval (.tmp tx), w, by simp [execOp, ho], same hp⟩⟩
    · exact absurd hk noglob
  · -- assign
    rename_i x ho
    split at hk
    · rename_i q hq
      cases hcx : sameO (dOf tn o) q with
      | false => rw [hcx] at hk; cases hk
      | true =>
        rw [hcx] at hk
        cases hk
        obtain ⟨tx, rfl, hlx⟩ := tOf_some hq
        have hp := hpt tx (by simp [ho, Op.operands]) hlx
        simp only [evalOp, ho, opd, getT, Option.bind_some, Option.some.injEq, Prod.mk.injEq] at h
        obtain ⟨rfl, rfl⟩ := h
        exact ⟨rfl, sameO_eq hcx, .inl ⟨a.eval (.tmp tx), w, by simp [execOp, ho], same hp⟩⟩
    · exact absurd hk noglob
  · -- indexAddr
    rename_i t x y ho
    split at hk
    · rename_i q hq
      cases hcx : (cleanO tn y && sameO (dOf tn o) q) with
      | false => rw [hcx] at hk; cases hk
      | true =>
        rw [hcx] at hk
        cases hk
        simp only [Bool.and_eq_true] at hcx
        obtain ⟨tx, rfl, hlx⟩ := tOf_some hq
        have hp := hpt tx (by simp [ho, Op.operands]) hlx
        have hy := hint y (by simp [ho, Op.operands]) hcx.1
        simp only [evalOp, ho, opd, getT, Option.bind_some, Option.bind_eq_some_iff] at h
        obtain ⟨vy, hvy0, h⟩ := h
        have hvy := hy vy hvy0
        clear hvy0 hy
        split at h
        · rename_i e hu
          simp only [Option.bind_eq_some_iff] at h
          obtain ⟨n2, hn, r, hr, h⟩ := h
          rcases hp with ⟨q, hq⟩ | ⟨off, blk, h1, h2, h3⟩
          · rw [hq] at hr; cases hr
          · rw [h1] at hr; cases hr
        · rename_i len e hu
          simp only [Option.bind_eq_some_iff] at h
          obtain ⟨n2, hn, r, hr, h⟩ := h
          cases h
          refine ⟨rfl, sameO_eq hcx.2, ?_⟩
          rcases hp with ⟨q, hq⟩ | ⟨off, blk, h1, h2, h3⟩
          · rw [hq] at hr; cases hr
          · rw [h1] at hr
            have hr' := hr
            unfold aindexA at hr'
            split at hr'
            · rename_i b o2 k i heq
              cases heq
              split at hr'
              · cases hr'
                have hvi := hvy.inv_int
                exact (so_indexA (wb := wb) (ι := emb1 blk) (H := [Blk.row 0 [] .dead]) ho (sim1 hs blk) hu hn (by show VRel _ _ (a.eval (.tmp tx)); simp only [Act.eval]; rw [h3]; exact emb1_ptr) (by rw [hvi]; exact .of0 (.int _ _)) hr).mono fun v' w' hA => ptr_after h2 hA
              · cases hr'
            · cases hr'
        · cases h
    · exact absurd hk noglob
  · exact absurd hk noglob

end
end Go.Proofs.Ytamaapapaiopiaa.Ab
