/- Regions whose order is open: who comes before whom; the run in the text's order. -/
import Derived.Test.YtamaapapaiopiaaBReg
set_option linter.unusedVariables false
set_option linter.unusedSimpArgs false
set_option linter.unusedSectionVars false
namespace Go.Proofs.Ytamaapapaiopiaa.Ab
open Go

section
variable {P : Program} {call : Caller} {T T' : Fr}
/-- an operation that does not look at memory -/
theorem evalOp_pure {o : Oper} (hc : clsOf P o = 0) {β : Type} (s s0 : St) (k : Value → St → Option β) :
    evalOp P call T o s k = (evalOp P call T o s0 fun v _ => some v).bind fun v => k v s := by
  obtain ⟨dst, op, type, pos, after, guard⟩ := o
  cases op <;> simp only [clsOf] at hc <;> simp only [evalOp] <;> (try (cases hc; done))
  case convert src dst x =>
    cases opd T x with
    | none => rfl
    | some v =>
      simp only [Option.bind_some]
      split at hc
      · rename_i h1 h2; simp [h1, h2, Option.bind_assoc]
      · cases hc
      · cases hc
  case makeInterface t x =>
    cases opd T x with
    | none => rfl
    | some v =>
      simp only [Option.bind_some]
      split
      · rfl
      · simp [Option.bind_assoc]
      · rfl
  case makeFunc fn first captured =>
    cases fn with
    | func f => simp [Option.bind_assoc]
    | _ => rfl
  case slice t x lo hi mx =>
    split at hc
    · rename_i ht; rw [ht]; simp [Option.bind_assoc]
    · rename_i e ht; rw [ht]; simp [Option.bind_assoc]
    · cases hc
  case fieldAddr t x i =>
    cases opd T x with
    | none => rfl
    | some v => cases fieldT P t i with
      | none => rfl
      | some f =>
        simp only [Option.bind_some]
        cases sizeT P f.2 with
        | none => rfl
        | some n => simp only [Option.bind_some]; split <;> simp
  case indexAddr t x i =>
    cases opd T x with
    | none => rfl
    | some v => cases opd T i with
      | none => rfl
      | some f => simp only [Option.bind_some]; split <;> simp [Option.bind_assoc]
  case index t x i =>
    cases opd T x with
    | none => rfl
    | some v => cases opd T i with
      | none => rfl
      | some f => simp only [Option.bind_some]; split <;> simp [Option.bind_assoc]
  case call c =>
    cases hcc : c.callee with
    | builtin b =>
      simp only [hcc] at hc ⊢
      cases opds T c.args.toList with
      | none => rfl
      | some xs =>
        simp only [Option.bind_some]
        unfold evalBuiltin
        cases b <;> simp at hc <;> split <;> simp_all [Option.bind_assoc]
    | value f => simp [hcc] at hc
    | invoke _ _ => simp [hcc] at hc
  all_goals (simp [Option.bind_assoc]; done)

end

/-! ### Views -/
inductive VM where
  | see | frz | dead
  deriving DecidableEq
def viewB : VM → Blk → Blk
  | .see, b => b
  | .frz, b => frzB b
  | .dead, b => deadB b

theorem frzK_get {K : List Nat} : ∀ {l : List Blk} {i b : Nat}, (frzK K i l)[b]? = (l[b]?).map (viewB (if K.contains (i + b) then .dead else .frz))
  | [], i, b => by simp [frzK]
  | x :: l, i, 0 => by simp only [frzK, List.getElem?_cons_zero, Option.map_some, Nat.add_zero]; split <;> rfl
  | x :: l, i, b + 1 => by
    simp only [frzK, List.getElem?_cons_succ]
    rw [frzK_get, show i + 1 + b = i + (b + 1) by omega]
theorem frzK_length {K : List Nat} : ∀ {l : List Blk} {i : Nat}, (frzK K i l).length = l.length
  | [], _ => rfl
  | _ :: l, _ => by simp [frzK, frzK_length]
theorem onlyB_get {t : Nat} : ∀ {l : List Blk} {i b : Nat}, (onlyB t i l)[b]? = (l[b]?).map (viewB (if i + b = t then .see else .dead))
  | [], i, b => by simp [onlyB]
  | x :: l, i, 0 => by simp only [onlyB, List.getElem?_cons_zero, Option.map_some, Nat.add_zero]; split <;> rfl
  | x :: l, i, b + 1 => by
    simp only [onlyB, List.getElem?_cons_succ]
    rw [onlyB_get, show i + 1 + b = i + (b + 1) by omega]
theorem onlyB_length {t : Nat} : ∀ {l : List Blk} {i : Nat}, (onlyB t i l).length = l.length
  | [], _ => rfl
  | _ :: l, _ => by simp [onlyB, onlyB_length]

theorem bitsOf_bit {acc : List Nat} {t : Nat} : ∀ {es : List Edge}, (bitsOf acc es).testBit t = true → ∃ e ∈ es, Region.binds .any e = true ∧ (t = e.on ∨ (acc.getD e.on 0).testBit t = true)
  | [], h => by simp [bitsOf] at h
  | e :: es, h => by
    simp only [bitsOf] at h
    split at h
    · rename_i hb
      rw [Nat.testBit_or, Nat.testBit_or, Nat.testBit_two_pow] at h
      simp only [Bool.or_eq_true, decide_eq_true_eq] at h
      rcases h with (h | h) | h
      · exact ⟨e, by simp, hb, .inl h.symm⟩
      · exact ⟨e, by simp, hb, .inr h⟩
      · obtain ⟨e', h1, h2⟩ := bitsOf_bit h
        exact ⟨e', List.mem_cons_of_mem _ h1, h2⟩
    · obtain ⟨e', h1, h2⟩ := bitsOf_bit h
      exact ⟨e', List.mem_cons_of_mem _ h1, h2⟩

theorem beforeL_old : ∀ {l : List Oper} {acc : List Nat} {j : Nat}, j < acc.length → (beforeL acc l)[j]? = acc[j]?
  | [], acc, j, h => rfl
  | o :: l, acc, j, h => by
    rw [beforeL, beforeL_old (by simp; omega), List.getElem?_append_left h]
theorem beforeL_get : ∀ {l : List Oper} {acc : List Nat} {j : Nat} {o : Oper}, l[j]? = some o →
    ∃ a : List Nat, a.length = acc.length + j ∧ (∀ i, i < a.length → a[i]? = (beforeL acc l)[i]?) ∧ (beforeL acc l)[acc.length + j]? = some (bitsOf a o.after.toList)
  | [], acc, j, o, h => by simp at h
  | x :: l, acc, 0, o, h => by
    simp at h
    subst h
    refine ⟨acc, rfl, fun i hi => ?_, ?_⟩
    · rw [beforeL, beforeL_old (by simp; omega), List.getElem?_append_left hi]
    · rw [beforeL, beforeL_old (by simp)]
      simp
  | x :: l, acc, j + 1, o, h => by
    obtain ⟨a, h1, h2, h3⟩ := beforeL_get (acc := acc ++ [bitsOf acc x.after.toList]) (j := j) (l := l) (by simpa using h)
    refine ⟨a, by simp at h1; omega, fun i hi => by rw [h2 i hi]; rfl, ?_⟩
    rw [beforeL, ← h3]
    congr 1
    simp
    omega

/-- one of an operation's predecessors: through an edge of its own -/
theorem before_edge {l : List Oper} {j t : Nat} {o : Oper} (ho : l[j]? = some o) (hlt : ∀ e ∈ o.after, Region.binds .any e = true → e.on < j) (h : ((beforeL [] l).getD j 0).testBit t = true) :
    ∃ e ∈ o.after, Region.binds .any e = true ∧ (t = e.on ∨ ((beforeL [] l).getD e.on 0).testBit t = true) := by
  obtain ⟨a, h1, h2, h3⟩ := beforeL_get (acc := []) ho
  simp only [List.length_nil, Nat.zero_add] at h1 h3
  rw [List.getD_eq_getElem?_getD, h3, Option.getD_some] at h
  obtain ⟨e, he, hb, h4⟩ := bitsOf_bit h
  have he' : e ∈ o.after := by simpa using he
  refine ⟨e, he', hb, h4.imp id fun h5 => ?_⟩
  rw [List.getD_eq_getElem?_getD, ← h2 e.on (by rw [h1]; exact hlt e he' hb), ← List.getD_eq_getElem?_getD]
  exact h5

theorem edgesB_spec : ∀ {l : List Oper} {i : Nat}, edgesB i l = true → ∀ (j : Nat) (o : Oper), l[j]? = some o → (∀ e ∈ o.after, Region.binds .any e = true → e.on < i + j) ∧ ∀ cs b, o.op ≠ .select cs b
  | [], i, h, j, o, hj => by simp at hj
  | x :: l, i, h, 0, o, hj => by
    simp at hj
    subst hj
    simp only [edgesB, Bool.and_eq_true] at h
    refine ⟨fun e he hb => ?_, fun cs b hs => ?_⟩
    · have := List.all_eq_true.1 h.1.1 e (by simpa using he)
      simpa [hb] using this
    · have := h.1.2
      simp [hs] at this
  | x :: l, i, h, j + 1, o, hj => by
    simp only [edgesB, Bool.and_eq_true] at h
    have := edgesB_spec h.2 j o (by simpa using hj)
    exact ⟨fun e he hb => by have := this.1 e he hb; omega, this.2⟩


/-! ### Masks -/
theorem testBit_maskN (f : Nat → Bool) : ∀ (n j : Nat), (maskN f n).testBit j = (decide (j < n) && f j)
  | 0, j => by simp [maskN]
  | n + 1, j => by
    simp only [maskN, Nat.testBit_or, testBit_maskN f n j]
    by_cases h : j = n
    · subst h
      cases hf : f j <;> simp [hf]
    · have h1 : (cond (f n) (2 ^ n) 0).testBit j = false := by
        cases f n with
        | false => simp
        | true => simp only [cond_true, Nat.testBit_two_pow]; simpa using Ne.symm h
      rw [h1]
      have h2 : decide (j < n) = decide (j < n + 1) := by
        by_cases h3 : j < n
        · simp [h3, Nat.lt_succ_of_lt h3]
        · have : ¬ j < n + 1 := by omega
          simp [h3, this]
      simp [h2]
theorem cmpM_bit {bf : List Nat} {n i j : Nat} (h : (cmpM bf n i).testBit j = true) : (bf.getD i 0).testBit j = true ∨ j = i ∨ (bf.getD j 0).testBit i = true := by
  unfold cmpM at h
  rw [Nat.testBit_or, Nat.testBit_or, testBit_maskN, Nat.testBit_two_pow] at h
  simp only [Bool.or_eq_true, Bool.and_eq_true, decide_eq_true_eq] at h
  rcases h with h | h | h
  · exact .inl h
  · exact .inr (.inl h.symm)
  · exact .inr (.inr h.2)
theorem cmpM_of {bf : List Nat} {n i j : Nat} (hj : j < n) (h : (bf.getD i 0).testBit j = true ∨ j = i ∨ (bf.getD j 0).testBit i = true) : (cmpM bf n i).testBit j = true := by
  unfold cmpM
  rw [Nat.testBit_or, Nat.testBit_or, testBit_maskN, Nat.testBit_two_pow]
  rcases h with h | h | h
  · rw [h]; rfl
  · subst h; simp
  · rw [h]; simp [hj]
theorem subM_bit {a b j : Nat} (h : subM a b = true) (ha : a.testBit j = true) : b.testBit j = true := by
  have := Nat.eq_of_beq_eq_true h
  rw [← this, Nat.testBit_or, ha]
  rfl

section
variable {P : Program} {call : Caller} {tn : Tn} {ops : Array Oper}

theorem memMask_bit : ∀ {l : List Oper} {i j : Nat} {o : Oper}, l[j]? = some o → clsB P tn o ≠ 0 → (memMask P tn i l).testBit (i + j) = true
  | [], i, j, o, h, _ => by simp at h
  | x :: l, i, 0, o, h, hc => by
    simp at h
    subst h
    simp only [memMask]
    cases hb : Nat.beq (clsB P tn x) 0 with
    | true => exact absurd (Nat.eq_of_beq_eq_true hb) hc
    | false => simp only [cond_false, Nat.testBit_or, Nat.add_zero, Nat.testBit_two_pow_self]; rfl
  | x :: l, i, j + 1, o, h, hc => by
    have := memMask_bit (l := l) (i := i + 1) (j := j) (by simpa using h) hc
    rw [show i + (j + 1) = i + 1 + j by omega]
    simp only [memMask]
    cases Nat.beq (clsB P tn x) 0 with
    | true => exact this
    | false => simp only [cond_false, Nat.testBit_or, this, Bool.or_true]
theorem namersM_bit {x : Nat} : ∀ {l : List Oper} {i j : Nat} {o : Oper}, l[j]? = some o → x ∈ namesB tn ops o → (namersM tn ops x i l).testBit (i + j) = true
  | [], i, j, o, h, _ => by simp at h
  | y :: l, i, 0, o, h, hc => by
    simp at h
    subst h
    simp only [namersM]
    rw [memN_iff.2 hc]
    simp only [cond_true, Nat.testBit_or, Nat.add_zero, Nat.testBit_two_pow_self]; rfl
  | y :: l, i, j + 1, o, h, hc => by
    have := namersM_bit (l := l) (i := i + 1) (j := j) (by simpa using h) hc
    rw [show i + (j + 1) = i + 1 + j by omega]
    simp only [namersM]
    cases memN x (namesB tn ops y) with
    | false => exact this
    | true => simp only [cond_true, Nat.testBit_or, this, Bool.or_true]
theorem tmpsB_spec {bf : List Nat} : ∀ {l : List Oper} {i : Nat}, tmpsB tn ops bf i l = true → ∀ (j : Nat) (o : Oper), l[j]? = some o → ∀ d, d ∈ setsB tn o → subM (namersM tn ops d 0 ops.toList) (cmpM bf ops.size (i + j)) = true
  | [], i, h, j, o, hj => by simp at hj
  | x :: l, i, h, 0, o, hj => by
    simp at hj
    subst hj
    intro d hd
    simp only [tmpsB, Bool.and_eq_true] at h
    exact List.all_eq_true.1 h.1 d hd
  | x :: l, i, h, j + 1, o, hj => by
    simp only [tmpsB, Bool.and_eq_true] at h
    have := tmpsB_spec h.2 j o (by simpa using hj)
    rwa [show i + (j + 1) = i + 1 + j by omega]

theorem modeB_pure {bf : List Nat} {n mm i : Nat} {o : Oper} : modeB P tn bf n mm i o = .pure ↔ clsB P tn o = 0 := by
  unfold modeB
  split
  · rename_i h; simp [h]
  · rename_i c h
    constructor
    · intro h2
      cases h3 : subM mm (cmpM bf n i) with
      | true => rw [h3] at h2; cases h2
      | false =>
        rw [h3] at h2
        simp only [cond_false] at h2
        cases h4 : Nat.beq (clsB P tn o) 2 with
        | true => rw [h4] at h2; simp only [cond_true] at h2; split at h2 <;> cases h2
        | false => rw [h4] at h2; cases h2
    · intro h2; exact absurd h2 h
theorem modeB_own {bf : List Nat} {n mm i : Nat} {o : Oper} (h : modeB P tn bf n mm i o = .own) : subM mm (cmpM bf n i) = true := by
  unfold modeB at h
  split at h
  · cases h
  · cases h3 : subM mm (cmpM bf n i) with
    | true => rfl
    | false =>
      rw [h3] at h
      simp only [cond_false] at h
      cases h4 : Nat.beq (clsB P tn o) 2 with
      | true => rw [h4] at h; simp only [cond_true] at h; split at h <;> cases h
      | false => rw [h4] at h; cases h
theorem clsB_glob {o : Oper} (h : clsB P tn o ≠ 0) : locK tn o = .glob := by
  unfold clsB at h
  split at h
  · assumption
  · exact absurd rfl h

theorem killsOf_mem {ol : List Oper} {bf : List Nat} {n mm : Nat} {T : Fr} {n0 i t : Nat} : ∀ {l : List Oper} {j0 j : Nat} {o : Oper}, l[j]? = some o → (cmpM bf n i).testBit (j0 + j) = false → modeB P tn bf n mm (j0 + j) o = .store → targetOf ol T n0 o = some t →
    t ∈ killsOf P tn ol bf n mm T n0 i j0 l
  | [], j0, j, o, hj => by simp at hj
  | x :: l, j0, 0, o, hj => by
    simp at hj
    subst hj
    intro ho hm ht
    simp only [Nat.add_zero] at ho hm
    simp [killsOf, ho, hm, ht]
  | x :: l, j0, j + 1, o, hj => by
    rw [show j0 + (j + 1) = j0 + 1 + j by omega]
    intro ho hm ht
    have := killsOf_mem (l := l) (j0 := j0 + 1) (j := j) (by simpa using hj) ho hm ht
    simp only [killsOf]
    split
    · split
      · exact this
      · exact List.mem_append_right _ this
    · exact this

/-! ### One operation in the text's order -/
theorem ptr_cls {o : Oper} {j : Nat} (hk : locK tn o = .ptr j) : clsOf P o = 0 := by
  have noglob : globK tn o ≠ .ptr j := by unfold globK; cases (o.op.operands.toList.all (cleanO tn) && (dOf tn o).isNone) <;> simp
  have nocond : ∀ {b : Bool} {x : LK}, x ≠ .ptr j → cond b x .bad = .ptr j → False := by
    intro b x hx h
    cases b with
    | true => exact hx h
    | false => cases h
  obtain ⟨dst, op, type, pos, after, guard⟩ := o
  cases op <;> first | rfl | (exfalso; simp only [locK] at hk; first | exact noglob hk | (split at hk <;> first | exact noglob hk | exact nocond (by simp) hk | cases hk))

/-- where memory isn't looked at -/
theorem opB_pure {T T1 : Fr} {o : Oper} (hc : clsB P tn o = 0) {s s1 : St} (h : opB P call tn T o s (fun T s => some (T, s)) = some (T1, s1)) : s1 = s ∧ ∀ s', opB P call tn T o s' (fun T s => some (T, s)) = some (T1, s') := by
  have viaEval : ∀ (hcls : clsOf P o = 0) (h : evalOp P call T o s (fun v s => some (putT T o.dst v, s)) = some (T1, s1)), s1 = s ∧ ∀ s', evalOp P call T o s' (fun v s => some (putT T o.dst v, s)) = some (T1, s') := by
    intro hcls h
    rw [evalOp_pure hcls s s] at h
    simp only [Option.bind_eq_some_iff] at h
    obtain ⟨v, h1, h2⟩ := h
    cases h2
    exact ⟨rfl, fun s' => by rw [evalOp_pure hcls s' s, h1]; rfl⟩
  unfold opB at h ⊢
  cases hk : locK tn o with
  | bad => simp [hk] at h
  | glob =>
    simp only [hk] at h ⊢
    exact viaEval (by unfold clsB at hc; rw [hk] at hc; exact hc) h
  | ptr j =>
    simp only [hk] at h ⊢
    exact viaEval (ptr_cls hk) h
  | mk j =>
    simp only [hk] at h ⊢
    split at h
    · simp only [Option.bind_eq_some_iff] at h
      obtain ⟨z, hz, c, hc, h⟩ := h
      cases h
      exact ⟨rfl, fun s' => by simp [hz, hc]⟩
    · simp only [Option.bind_eq_some_iff] at h
      obtain ⟨z, hz, c, hc, h⟩ := h
      cases h
      exact ⟨rfl, fun s' => by simp [hz, hc]⟩
    · cases h
  | ld j =>
    simp only [hk] at h ⊢
    split at h
    · simp only [Option.bind_eq_some_iff] at h
      obtain ⟨a, ha, ag, hag, n, hn, v, hv, h⟩ := h
      cases h
      exact ⟨rfl, fun s' => by simp [ha, hag, hn, hv]⟩
    · cases h
  | st j =>
    simp only [hk] at h ⊢
    split at h
    · simp only [Option.bind_eq_some_iff] at h
      obtain ⟨a, ha, x, hx, n, hn, c, hc, h⟩ := h
      cases h
      exact ⟨rfl, fun s' => by simp [ha, hx, hn, hc]⟩
    · cases h

theorem guardV_map {β γ : Type} {v : Value} {w : Bool} {x y : Option β} (f : β → Option γ) : (guardV v w x y).bind f = guardV v w (x.bind f) (y.bind f) := by
  unfold guardV
  split
  · split <;> rfl
  · split <;> rfl
  · rfl

theorem oneB_pure {T T1 : Fr} {o : Oper} (hc : clsB P tn o = 0) {s s1 : St} (h : oneB P call tn ops T o s = some (T1, s1)) : s1 = s ∧ ∀ s', oneB P call tn ops T o s' = some (T1, s') := by
  unfold oneB at h ⊢
  split at h
  · exact opB_pure hc h
  · rename_i g hg
    simp only [Option.bind_eq_some_iff] at h
    obtain ⟨t, ht, h⟩ := h
    split at h
    case isFalse => cases h
    rename_i hl
    rcases guardV_ways h with ⟨hv, h⟩ | ⟨hv, h⟩
    · obtain ⟨rfl, h2⟩ := opB_pure hc h
      exact ⟨rfl, fun s' => by simp [ht, hl, hv, guardV, h2]⟩
    · cases h
      refine ⟨rfl, fun s' => ?_⟩
      rcases hv with hv | hv <;> simp [ht, hl, hv, guardV]

theorem valB_oneB {T : Fr} {o : Oper} (hk : locK tn o = .glob) {s : St} : oneB P call tn ops T o s = (valB P call tn ops T o s).bind fun r => some (putT T o.dst r.1, r.2) := by
  have key : opB P call tn T o s (fun T s => some (T, s)) = (evalOp P call T o s fun v s => some (v, s)).bind fun r => some (putT T o.dst r.1, r.2) := by
    unfold opB
    simp only [hk]
    rw [evalOp_cps]
  unfold oneB valB
  split
  · exact key
  · rename_i g hg
    cases guardT ops g with
    | none => rfl
    | some t =>
      simp only [Option.bind_some]
      split
      · rw [guardV_map, key]; rfl
      · rfl

theorem oneB_frame {T T1 : Fr} {o : Oper} {s s1 : St} (h : oneB P call tn ops T o s = some (T1, s1)) {x : Nat} (hx : x ∉ setsB tn o) : T1 x = T x := by
  unfold oneB at h
  split at h
  · exact opB_frame h hx
  · simp only [Option.bind_eq_some_iff] at h
    obtain ⟨t, ht, h⟩ := h
    split at h
    case isFalse => cases h
    rcases guardV_ways h with ⟨_, h⟩ | ⟨_, h⟩
    · exact opB_frame h hx
    · cases h
      exact putT_ne fun hh => hx (dst_sets hh)

/-- how an operation sees the blocks -/
def viewOf (P : Program) (tn : Tn) (ops : Array Oper) (bf : List Nat) (mm : Nat) (T0 : Fr) (n0 i : Nat) (o : Oper) (b : Nat) : VM :=
  match modeB P tn bf ops.size mm i o with
  | .pure | .bad => .dead
  | .own => .see
  | .quiet => if (killsOf P tn ops.toList bf ops.size mm T0 n0 i 0 ops.toList).contains b then .dead else .frz
  | .store => if some b = targetOf ops.toList T0 n0 o then .see else .dead

theorem drawB_view {bf : List Nat} {mm : Nat} {T0 : Fr} {n0 i : Nat} {o : Oper} {T T1 : Fr} {s s1 : St} (h : drawB P call tn ops bf mm T0 n0 i o T s = some (T1, s1)) :
    ∃ Hv R, oneB P call tn ops T o ⟨Hv⟩ = some (T1, ⟨R⟩) ∧ Hv.length = s.heap.length ∧ (∀ b, Hv[b]? = (s.heap[b]?).map (viewB (viewOf P tn ops bf mm T0 n0 i o b))) ∧
      (∀ b, b < s.heap.length → s1.heap[b]? = if viewOf P tn ops bf mm T0 n0 i o b = .see then R[b]? else s.heap[b]?) ∧ (∀ b, s.heap.length ≤ b → s1.heap[b]? = R[b]?) ∧ s.heap.length ≤ s1.heap.length := by
  unfold drawB at h
  unfold viewOf
  have hgl : modeB P tn bf ops.size mm i o ≠ .pure → locK tn o = .glob := fun hne => clsB_glob fun hc => hne (modeB_pure.2 hc)
  cases hm : modeB P tn bf ops.size mm i o with
  | pure =>
    simp only [hm] at h
    obtain ⟨rfl, h2⟩ := oneB_pure (modeB_pure.1 hm) h
    refine ⟨s1.heap.map deadB, s1.heap.map deadB, h2 _, by simp, fun b => by simp only [List.getElem?_map]; rfl, fun b hb => by simp, fun b hb => ?_, Nat.le_refl _⟩
    rw [List.getElem?_eq_none (by simpa using hb), List.getElem?_eq_none (by simpa using hb)]
  | own =>
    simp only [hm, Option.bind_eq_some_iff] at h
    obtain ⟨⟨u, s2⟩, h1, q, h2, h3⟩ := h
    unfold ownR at h2
    split at h2
    case isFalse => cases h2
    rename_i hle
    cases h2
    cases h3
    exact ⟨s.heap, s2.heap, by rw [valB_oneB (hgl (by rw [hm]; simp)), h1]; rfl, rfl, fun b => by cases s.heap[b]? <;> rfl, fun b hb => by simp, fun b hb => rfl, hle⟩
  | quiet =>
    simp only [hm, Option.bind_eq_some_iff] at h
    obtain ⟨⟨u, s2⟩, h1, h2⟩ := h
    cases h2
    refine ⟨_, s2.heap, by rw [valB_oneB (hgl (by rw [hm]; simp)), h1]; rfl, frzK_length, fun b => by rw [frzK_get, Nat.zero_add], fun b hb => ?_, fun b hb => ?_, by simp [quietR]⟩
    · simp only [quietR]
      rw [List.getElem?_append_left hb, if_neg]
      split <;> simp
    · simp only [quietR]
      rw [List.getElem?_append_right hb, List.getElem?_drop]
      congr 1
      omega
  | store =>
    simp only [hm, Option.bind_eq_some_iff] at h
    obtain ⟨t, ht, h⟩ := h
    split at h
    case isTrue => cases h
    rename_i hk
    simp only [Option.bind_eq_some_iff] at h
    obtain ⟨⟨u, s2⟩, h1, x, hx, h2⟩ := h
    cases h2
    refine ⟨_, s2.heap, by rw [valB_oneB (hgl (by rw [hm]; simp)), h1]; rfl, onlyB_length, fun b => by rw [onlyB_get, Nat.zero_add, ht]; simp, fun b hb => ?_, fun b hb => ?_, by simp⟩
    · rw [List.getElem?_append_left (by simpa using hb), ht]
      by_cases hbt : b = t
      · subst hbt
        simp only [if_true, List.getElem?_set_self hb, hx]
      · rw [List.getElem?_set_ne (Ne.symm hbt)]
        simp [hbt]
    · rw [List.getElem?_append_right (by simpa using hb), List.getElem?_drop]
      simp only [List.length_set]
      congr 1
      omega
  | bad => simp [hm] at h

/-- the run in the text's order, step by step -/
theorem drawsB_trace {bf : List Nat} {mm : Nat} {T0 : Fr} {n0 : Nat} : ∀ {l : List Oper} {i : Nat} {T T' : Fr} {s s' : St}, drawsB P call tn ops bf mm T0 n0 i l T s = some (T', s') →
    ∃ (Tr : Nat → Fr) (Sr : Nat → St), Tr 0 = T ∧ Sr 0 = s ∧ Tr l.length = T' ∧ Sr l.length = s' ∧
      ∀ j o, l[j]? = some o → drawB P call tn ops bf mm T0 n0 (i + j) o (Tr j) (Sr j) = some (Tr (j + 1), Sr (j + 1))
  | [], i, T, T', s, s', h => by
    simp only [drawsB, Option.some.injEq, Prod.mk.injEq] at h
    exact ⟨fun _ => T, fun _ => s, rfl, rfl, h.1, h.2, fun j o hj => by simp at hj⟩
  | o :: l, i, T, T', s, s', h => by
    simp only [drawsB, Option.bind_eq_some_iff] at h
    obtain ⟨⟨T1, s1⟩, h1, h2⟩ := h
    obtain ⟨Tr, Sr, e1, e2, e3, e4, e5⟩ := drawsB_trace h2
    refine ⟨fun j => match j with | 0 => T | j + 1 => Tr j, fun j => match j with | 0 => s | j + 1 => Sr j, rfl, rfl, e3, e4, fun j q hj => ?_⟩
    cases j with
    | zero => simp at hj; subst hj; simpa [e1, e2] using h1
    | succ j =>
      have := e5 j q (by simpa using hj)
      simpa [Nat.add_assoc, Nat.add_comm 1 j] using this
end

/-- what is used of a run in the text's order -/
structure DTrace (P : Program) (call : Caller) (tn : Tn) (ops : Array Oper) where
  Tr : Nat → Fr
  H : Nat → List Blk
  view : Nat → Nat → VM
  bef : Nat → Nat → Prop
  step : ∀ i o, ops[i]? = some o → ∃ Hv R, oneB P call tn ops (Tr i) o ⟨Hv⟩ = some (Tr (i + 1), ⟨R⟩) ∧ Hv.length = (H i).length ∧ (∀ b, Hv[b]? = ((H i)[b]?).map (viewB (view i b))) ∧
    (∀ b, b < (H i).length → (H (i + 1))[b]? = if view i b = .see then R[b]? else (H i)[b]?) ∧ (∀ b, (H i).length ≤ b → (H (i + 1))[b]? = R[b]?) ∧ (H i).length ≤ (H (i + 1)).length
  uni : ∀ i, (∀ b, view i b ≠ .see) ∨ (∀ b, view i b ≠ .frz)
  conf : ∀ i j, i < ops.size → j < ops.size → i ≠ j → ¬ (bef i j ∨ bef j i) → ∀ b, view i b = .see → view j b = .dead
  late : ∀ i j, i < ops.size → j < ops.size → i ≠ j → ¬ (bef i j ∨ bef j i) → ∀ b, view i b = .see → (H j).length ≤ b → b < (H (j + 1)).length → False
  tmp : ∀ i j oi oj, ops[i]? = some oi → ops[j]? = some oj → i ≠ j → ¬ (bef i j ∨ bef j i) → ∀ d, d ∈ setsB tn oi → d ∉ namesB tn ops oj
  lt : ∀ i j, j < ops.size → bef i j → i < j
  edge : ∀ j o, ops[j]? = some o → ∀ e ∈ o.after, Region.binds .any e = true → e.on < j
  sel : ∀ (j : Nat) (o : Oper), ops[j]? = some o → ∀ (cs : Array SelectCase) (b : Bool), o.op ≠ .select cs b
  reach : ∀ (D : Nat → Prop), (∀ j o, ops[j]? = some o → D j → ∀ e ∈ o.after, Region.binds .any e = true → D e.on) → ∀ j o, ops[j]? = some o → (∀ e ∈ o.after, Region.binds .any e = true → D e.on) → ∀ i, bef i j → D i

theorem DTrace.of {P : Program} {call : Caller} {tn : Tn} {ops : Array Oper} (hd : drawOk P tn ops = true) {T T' : Fr} {s s' : St} (h : drawsB P call tn ops (beforeL [] ops.toList) (memMask P tn 0 ops.toList) T s.heap.length 0 ops.toList T s = some (T', s')) :
    ∃ t : DTrace P call tn ops, t.Tr 0 = T ∧ t.H 0 = s.heap ∧ t.Tr ops.size = T' ∧ t.H ops.size = s'.heap := by
  simp only [drawOk, Bool.and_eq_true] at hd
  obtain ⟨⟨_, hedges⟩, htmps⟩ := hd
  generalize hbf : beforeL [] ops.toList = bf at h htmps
  have hmem : ∀ {j : Nat} {o : Oper}, ops[j]? = some o → clsB P tn o ≠ 0 → (memMask P tn 0 ops.toList).testBit j = true := fun ho hc => by
    have := memMask_bit (P := P) (tn := tn) (l := ops.toList) (i := 0) (by simpa using ho) hc
    rwa [Nat.zero_add] at this
  generalize hmm : memMask P tn 0 ops.toList = mm at h hmem
  obtain ⟨Tr, Sr, e1, e2, e3, e4, e5⟩ := drawsB_trace h
  have hget : ∀ {j : Nat} {o : Oper}, ops[j]? = some o → ops.toList[j]? = some o := fun h => by simpa using h
  have hget2 : ∀ {j : Nat}, j < ops.size → ∃ o, ops[j]? = some o := fun h => ⟨ops[_], Array.getElem?_eq_getElem h⟩
  have hE : ∀ j o, ops[j]? = some o → ∀ e ∈ o.after, Region.binds .any e = true → e.on < j := fun j o ho e he hb => by
    have := (edgesB_spec hedges j o (hget ho)).1 e he hb
    omega
  have hbit : ∀ {j o t}, ops[j]? = some o → (bf.getD j 0).testBit t = true → ∃ e ∈ o.after, Region.binds .any e = true ∧ (t = e.on ∨ (bf.getD e.on 0).testBit t = true) := fun ho hb => by
    subst hbf
    exact before_edge (hget ho) (hE _ _ ho) hb
  have hno : ∀ {i j : Nat}, i ≠ j → ¬((bf.getD j 0).testBit i = true ∨ (bf.getD i 0).testBit j = true) → (cmpM bf ops.size i).testBit j = false := by
    intro i j hne h
    cases hb : (cmpM bf ops.size i).testBit j with
    | false => rfl
    | true =>
      rcases cmpM_bit hb with h1 | h1 | h1
      · exact absurd (.inr h1) h
      · exact absurd h1.symm hne
      · exact absurd (.inl h1) h
  have notown : ∀ {i j oi oj}, ops[i]? = some oi → ops[j]? = some oj → (cmpM bf ops.size i).testBit j = false → modeB P tn bf ops.size mm i oi = .own → clsB P tn oj = 0 := by
    intro i j oi oj hoi hoj hno hm
    by_cases hc : clsB P tn oj = 0
    · exact hc
    · have := subM_bit (modeB_own hm) (hmem hoj hc)
      rw [hno] at this
      cases this
  have e5' : ∀ j o, ops[j]? = some o → drawB P call tn ops bf mm T s.heap.length j o (Tr j) (Sr j) = some (Tr (j + 1), Sr (j + 1)) := fun j o ho => by
    have := e5 j o (hget ho)
    rwa [Nat.zero_add] at this
  refine ⟨{ Tr := Tr, H := fun i => (Sr i).heap, view := fun i b => match ops[i]? with | some o => viewOf P tn ops bf mm T s.heap.length i o b | none => .dead,
            bef := fun i j => (bf.getD j 0).testBit i = true, step := ?_, uni := ?_, conf := ?_, late := ?_, tmp := ?_, lt := ?_, edge := hE, sel := ?_, reach := ?_ }, e1, by simp [e2], by simpa using e3, by simpa using congrArg St.heap e4⟩
  · intro i o ho
    obtain ⟨Hv, R, g1, g2, g3, g4, g5, g6⟩ := drawB_view (e5' i o ho)
    simp only [ho]
    exact ⟨Hv, R, g1, g2, g3, g4, g5, g6⟩
  · intro i
    cases ho : ops[i]? with
    | none => exact .inl fun b => by simp
    | some o =>
      simp only
      unfold viewOf
      cases modeB P tn bf ops.size mm i o with
      | pure => exact .inl fun b => by simp
      | bad => exact .inl fun b => by simp
      | own => exact .inr fun b => by simp
      | quiet => exact .inl fun b => by simp only; split <;> simp
      | store => exact .inr fun b => by simp only; split <;> simp
  · intro i j hi hj hne hno' b
    have hnoij := hno hne hno'
    have hnoji := hno (Ne.symm hne) (fun h => hno' h.symm)
    obtain ⟨oi, hoi⟩ := hget2 hi
    obtain ⟨oj, hoj⟩ := hget2 hj
    simp only [hoi, hoj]
    intro hv
    unfold viewOf at hv
    cases hmi : modeB P tn bf ops.size mm i oi with
    | pure => simp [hmi] at hv
    | bad => simp [hmi] at hv
    | quiet => simp only [hmi] at hv; split at hv <;> cases hv
    | own =>
      have := modeB_pure (bf := bf) (n := ops.size) (mm := mm) (i := j).2 (notown hoi hoj hnoij hmi)
      unfold viewOf
      simp [this]
    | store =>
      simp only [hmi] at hv
      split at hv
      case isFalse => cases hv
      rename_i hb
      have hk : b ∈ killsOf P tn ops.toList bf ops.size mm T s.heap.length j 0 ops.toList := killsOf_mem (j := i) (hget hoi) (by rw [Nat.zero_add]; exact hnoji) (by rw [Nat.zero_add]; exact hmi) hb.symm
      unfold viewOf
      cases hmj : modeB P tn bf ops.size mm j oj with
      | pure => rfl
      | bad => rfl
      | own =>
        have h0 := notown hoj hoi hnoji hmj
        rw [modeB_pure.2 h0] at hmi
        cases hmi
      | quiet => simp [hk]
      | store =>
        simp only
        rw [if_neg]
        intro hb2
        have h1 := e5' j oj hoj
        unfold drawB at h1
        simp only [hmj, ← hb2, Option.bind_some] at h1
        rw [if_pos (by simpa using hk)] at h1
        cases h1
  · intro i j hi hj hne hno' b hv hb1 hb2
    have hnoij := hno hne hno'
    obtain ⟨oi, hoi⟩ := hget2 hi
    obtain ⟨oj, hoj⟩ := hget2 hj
    simp only [hoi] at hv
    have h1 := e5' j oj hoj
    unfold viewOf at hv
    cases hmi : modeB P tn bf ops.size mm i oi with
    | pure => simp [hmi] at hv
    | bad => simp [hmi] at hv
    | quiet => simp only [hmi] at hv; split at hv <;> cases hv
    | own =>
      have hcj := notown hoi hoj hnoij hmi
      unfold drawB at h1
      simp only [modeB_pure.2 hcj] at h1
      have := (oneB_pure hcj h1).1
      rw [this] at hb2
      omega
    | store =>
      simp only [hmi] at hv
      split at hv
      case isFalse => cases hv
      rename_i hb
      have hlt : b < s.heap.length := by
        have := hb.symm
        unfold targetOf at this
        split at this
        · simp only [Option.bind_eq_some_iff] at this
          obtain ⟨x, _, h3⟩ := this
          split at h3
          · split at h3
            · cases h3; assumption
            · cases h3
          · cases h3
        · cases this
      have hmono : ∀ k, k ≤ ops.size → (Sr 0).heap.length ≤ (Sr k).heap.length := by
        intro k
        induction k with
        | zero => intro _; exact Nat.le_refl _
        | succ k ih =>
          intro hk
          obtain ⟨ok, hok⟩ := hget2 (j := k) (by omega)
          obtain ⟨_, _, _, _, _, _, _, g6⟩ := drawB_view (e5' k ok hok)
          have := ih (by omega)
          omega
      have := hmono j (by omega)
      rw [e2] at this
      omega
  · intro i j oi oj hoi hoj hne hno' d hd hdj
    have h1 := tmpsB_spec htmps i oi (hget hoi) d hd
    rw [Nat.zero_add] at h1
    have h2 := namersM_bit (tn := tn) (ops := ops) (l := ops.toList) (i := 0) (hget hoj) hdj
    rw [Nat.zero_add] at h2
    have := subM_bit h1 h2
    rw [hno hne hno'] at this
    cases this
  · intro i j hj
    induction j using Nat.strongRecOn with
    | _ j ih =>
      intro hb
      obtain ⟨o, ho⟩ := hget2 hj
      obtain ⟨e, he, hbd, h1⟩ := hbit ho hb
      have hlt := hE j o ho e he hbd
      rcases h1 with rfl | h1
      · exact hlt
      · have := ih e.on hlt (by omega) h1
        omega
  · intro j o ho
    exact (edgesB_spec hedges j o (hget ho)).2
  · intro D hD j
    induction j using Nat.strongRecOn with
    | _ j ih =>
      intro o ho hall i hb
      obtain ⟨e, he, hbd, h1⟩ := hbit ho hb
      rcases h1 with rfl | h1
      · exact hall e he hbd
      · have hlt := hE j o ho e he hbd
        have hsz : j < ops.size := (Array.getElem?_eq_some_iff.1 ho).1
        obtain ⟨o2, ho2⟩ := hget2 (j := e.on) (by omega)
        exact ih e.on hlt o2 ho2 (hD e.on o2 ho2 (hall e he hbd)) i h1

/-! ### Regions with an 'append' in no order to others -/
theorem onlyL_get {B : List Nat} : ∀ {l : List Blk} {i b : Nat}, (onlyL B i l)[b]? = (l[b]?).map (viewB (if B.contains (i + b) then .see else .dead))
  | [], _, _ => by simp [onlyL]
  | x :: l, i, 0 => by
    simp only [onlyL, List.getElem?_cons_zero, Nat.add_zero, Option.map_some]
    split <;> rfl
  | x :: l, i, b + 1 => by
    simp only [onlyL, List.getElem?_cons_succ]
    rw [onlyL_get, show i + 1 + b = i + (b + 1) by omega]
theorem onlyL_length {B : List Nat} : ∀ {l : List Blk} {i : Nat}, (onlyL B i l).length = l.length
  | [], _ => rfl
  | _ :: l, i => by simp [onlyL, onlyL_length (l := l)]
theorem mergeB_get {B : List Nat} {R : List Blk} : ∀ {l : List Blk} {i b : Nat}, (mergeB B R i l)[b]? = (l[b]?).map fun x => if B.contains (i + b) then (R[i + b]?).getD x else x
  | [], _, _ => by simp [mergeB]
  | x :: l, i, 0 => by simp [mergeB]
  | x :: l, i, b + 1 => by
    simp only [mergeB, List.getElem?_cons_succ]
    rw [mergeB_get, show i + 1 + b = i + (b + 1) by omega]
theorem mergeB_length {B : List Nat} {R : List Blk} : ∀ {l : List Blk} {i : Nat}, (mergeB B R i l).length = l.length
  | [], _ => rfl
  | _ :: l, i => by simp [mergeB, mergeB_length (l := l)]

section
variable {P : Program} {call : Caller} {tn : Tn} {ops : Array Oper}
theorem modeA_pure {bf : List Nat} {n mm i : Nat} {o : Oper} : modeA P tn bf n mm i o = .pure ↔ clsB P tn o = 0 := by
  rw [← modeB_pure (bf := bf) (n := n) (mm := mm) (i := i)]
  unfold modeA
  cases modeB P tn bf n mm i o with
  | quiet => simp only; split <;> simp
  | _ => simp
theorem modeA_own {bf : List Nat} {n mm i : Nat} {o : Oper} (h : modeA P tn bf n mm i o = .own) : subM mm (cmpM bf n i) = true := by
  refine modeB_own (P := P) (tn := tn) (o := o) ?_
  unfold modeA at h
  cases hm : modeB P tn bf n mm i o with
  | quiet => rw [hm] at h; simp only at h; split at h <;> cases h
  | own => rfl
  | _ => rw [hm] at h; cases h
theorem killsA_mem {bf : List Nat} {n mm : Nat} {T1 : Fr} {i b : Nat} : ∀ {l : List Oper} {j0 j : Nat} {o : Oper}, l[j]? = some o → (cmpM bf n i).testBit (j0 + j) = false → modeA P tn bf n mm (j0 + j) o = .bad → b ∈ appT P T1 o → b ∈ killsA P tn bf n mm T1 i j0 l
  | [], _, _, _, h, _, _, _ => by simp at h
  | x :: l, j0, 0, o, h, hc, hm, hb => by
    simp only [List.getElem?_cons_zero, Option.some.injEq] at h
    subst h
    rw [Nat.add_zero] at hc hm
    simp only [killsA, hm, hc, Bool.false_eq_true, if_false]
    exact List.mem_append_left _ hb
  | x :: l, j0, j + 1, o, h, hc, hm, hb => by
    have ih := killsA_mem (l := l) (j0 := j0 + 1) (j := j) (by simpa using h) (by rw [show j0 + 1 + j = j0 + (j + 1) by omega]; exact hc) (by rw [show j0 + 1 + j = j0 + (j + 1) by omega]; exact hm) hb
    simp only [killsA]
    split
    · split
      · exact ih
      · exact List.mem_append_right _ ih
    · exact ih

/-- how an operation sees the blocks -/
def viewA (P : Program) (tn : Tn) (ops : Array Oper) (bf : List Nat) (mm : Nat) (T1 : Fr) (i : Nat) (o : Oper) (b : Nat) : VM :=
  match modeA P tn bf ops.size mm i o with
  | .pure | .store => .dead
  | .own => .see
  | .quiet => if (killsA P tn bf ops.size mm T1 i 0 ops.toList).contains b then .dead else .frz
  | .bad => if (appT P T1 o).contains b then .see else .dead

theorem drawA_view {bf : List Nat} {mm : Nat} {T1 : Fr} {i : Nat} {o : Oper} {T T2 : Fr} {s s1 : St} (h : drawA P call tn ops bf mm T1 i o T s = some (T2, s1)) :
    ∃ Hv R, oneB P call tn ops T o ⟨Hv⟩ = some (T2, ⟨R⟩) ∧ Hv.length = s.heap.length ∧ (∀ b, Hv[b]? = (s.heap[b]?).map (viewB (viewA P tn ops bf mm T1 i o b))) ∧
      (∀ b, b < s.heap.length → s1.heap[b]? = if viewA P tn ops bf mm T1 i o b = .see then R[b]? else s.heap[b]?) ∧ (∀ b, s.heap.length ≤ b → s1.heap[b]? = R[b]?) ∧ s.heap.length ≤ s1.heap.length := by
  unfold drawA at h
  unfold viewA
  have hgl : modeA P tn bf ops.size mm i o ≠ .pure → locK tn o = .glob := fun hne => clsB_glob fun hc => hne (modeA_pure.2 hc)
  cases hm : modeA P tn bf ops.size mm i o with
  | pure =>
    simp only [hm] at h
    obtain ⟨rfl, h2⟩ := oneB_pure (modeA_pure.1 hm) h
    refine ⟨s1.heap.map deadB, s1.heap.map deadB, h2 _, by simp, fun b => by simp only [List.getElem?_map]; rfl, fun b hb => by simp, fun b hb => ?_, Nat.le_refl _⟩
    rw [List.getElem?_eq_none (by simpa using hb), List.getElem?_eq_none (by simpa using hb)]
  | own =>
    simp only [hm, Option.bind_eq_some_iff] at h
    obtain ⟨⟨u, s2⟩, h1, q, h2, h3⟩ := h
    unfold ownR at h2
    split at h2
    case isFalse => cases h2
    rename_i hle
    cases h2
    cases h3
    exact ⟨s.heap, s2.heap, by rw [valB_oneB (hgl (by rw [hm]; simp)), h1]; rfl, rfl, fun b => by cases s.heap[b]? <;> rfl, fun b hb => by simp, fun b hb => rfl, hle⟩
  | quiet =>
    simp only [hm, Option.bind_eq_some_iff] at h
    obtain ⟨⟨u, s2⟩, h1, q, h2, h3⟩ := h
    unfold apartR at h2
    split at h2
    case isFalse => cases h2
    cases h2
    cases h3
    refine ⟨_, s2.heap, by rw [valB_oneB (hgl (by rw [hm]; simp)), h1]; rfl, frzK_length, fun b => by rw [frzK_get, Nat.zero_add], fun b hb => ?_, fun b hb => ?_, by simp [quietR]⟩
    · simp only [quietR]
      rw [List.getElem?_append_left hb, if_neg]
      split <;> simp
    · simp only [quietR]
      rw [List.getElem?_append_right hb, List.getElem?_drop]
      congr 1
      omega
  | store => simp [hm] at h
  | bad =>
    simp only [hm] at h
    split at h
    case isFalse => cases h
    simp only [Option.bind_eq_some_iff] at h
    obtain ⟨⟨u, s2⟩, h1, q, h2, h3⟩ := h
    unfold appR at h2
    split at h2
    case isFalse => cases h2
    rename_i hc
    simp only [Bool.and_eq_true, Nat.ble_eq] at hc
    cases h2
    cases h3
    refine ⟨_, s2.heap, by rw [valB_oneB (hgl (by rw [hm]; simp)), h1]; rfl, onlyL_length, fun b => by rw [onlyL_get, Nat.zero_add], fun b hb => ?_, fun b hb => ?_, by simp [mergeB_length]⟩
    · rw [List.getElem?_append_left (by rw [mergeB_length]; exact hb), mergeB_get, Nat.zero_add]
      have hb2 : b < s2.heap.length := Nat.lt_of_lt_of_le hb hc.1.2
      rw [List.getElem?_eq_getElem hb, List.getElem?_eq_getElem hb2]
      simp only [Option.map_some, Option.getD_some]
      cases (appT P T1 o).contains b <;> simp
    · rw [List.getElem?_append_right (by rw [mergeB_length]; exact hb), mergeB_length, List.getElem?_drop]
      congr 1
      omega

theorem drawA_new {bf : List Nat} {mm : Nat} {T1 : Fr} {i : Nat} {o : Oper} {T T2 : Fr} {s s1 : St} (h : drawA P call tn ops bf mm T1 i o T s = some (T2, s1)) (hno : clsB P tn o ≠ 0) (hno2 : modeA P tn bf ops.size mm i o ≠ .own) :
    ∀ b ∈ killsA P tn bf ops.size mm T1 i 0 ops.toList, s.heap.length ≤ b → b < s1.heap.length → False := by
  unfold drawA at h
  intro b hb h1 h2
  have key : ∀ {m : Nat}, apartL (killsA P tn bf ops.size mm T1 i 0 ops.toList) s.heap.length m = true → m ≤ b := fun hh => by
    unfold apartL at hh
    have := List.all_eq_true.1 hh b hb
    simp at this
    omega
  cases hm : modeA P tn bf ops.size mm i o with
  | pure => exact hno (modeA_pure.1 hm)
  | own => exact hno2 hm
  | quiet =>
    simp only [hm, Option.bind_eq_some_iff] at h
    obtain ⟨⟨u, s2⟩, _, q, g2, h3⟩ := h
    unfold apartR at g2
    split at g2
    case isFalse => cases g2
    rename_i hc
    cases g2
    cases h3
    have hk : s2.heap.length ≤ b := key hc
    simp only [quietR, List.length_append, List.length_drop] at h2
    omega
  | store => simp [hm] at h
  | bad =>
    simp only [hm] at h
    split at h
    case isFalse => cases h
    simp only [Option.bind_eq_some_iff] at h
    obtain ⟨⟨u, s2⟩, _, q, g2, h3⟩ := h
    unfold appR at g2
    split at g2
    case isFalse => cases g2
    rename_i hc
    simp only [Bool.and_eq_true, Nat.ble_eq] at hc
    cases g2
    cases h3
    have hk : s2.heap.length ≤ b := key hc.2
    simp only [List.length_append, mergeB_length, List.length_drop] at h2
    omega

theorem drawA_apart {bf : List Nat} {mm : Nat} {T1 : Fr} {i : Nat} {o : Oper} {T T2 : Fr} {s s1 : St} (h : drawA P call tn ops bf mm T1 i o T s = some (T2, s1)) (hm : modeA P tn bf ops.size mm i o = .bad) :
    ∀ b ∈ appT P T1 o, b ∉ killsA P tn bf ops.size mm T1 i 0 ops.toList := by
  unfold drawA at h
  simp only [hm] at h
  split at h
  case isFalse => cases h
  simp only [Option.bind_eq_some_iff] at h
  obtain ⟨⟨u, s2⟩, _, q, g2, h3⟩ := h
  unfold appR at g2
  split at g2
  case isFalse => cases g2
  rename_i hc
  simp only [Bool.and_eq_true] at hc
  intro b hb
  have := List.all_eq_true.1 hc.1.1 b hb
  simpa using this

theorem drawsA_trace {bf : List Nat} {mm : Nat} {T1 : Fr} : ∀ {l : List Oper} {i : Nat} {T T' : Fr} {s s' : St}, drawsA P call tn ops bf mm T1 i l T s = some (T', s') →
    ∃ (Tr : Nat → Fr) (Sr : Nat → St), Tr 0 = T ∧ Sr 0 = s ∧ Tr l.length = T' ∧ Sr l.length = s' ∧
      ∀ j o, l[j]? = some o → drawA P call tn ops bf mm T1 (i + j) o (Tr j) (Sr j) = some (Tr (j + 1), Sr (j + 1))
  | [], i, T, T', s, s', h => by
    simp only [drawsA, Option.some.injEq, Prod.mk.injEq] at h
    exact ⟨fun _ => T, fun _ => s, rfl, rfl, h.1, h.2, fun j o hj => by simp at hj⟩
  | o :: l, i, T, T', s, s', h => by
    simp only [drawsA, Option.bind_eq_some_iff] at h
    obtain ⟨⟨T2, s1⟩, h1, h2⟩ := h
    obtain ⟨Tr, Sr, e1, e2, e3, e4, e5⟩ := drawsA_trace h2
    refine ⟨fun j => match j with | 0 => T | j + 1 => Tr j, fun j => match j with | 0 => s | j + 1 => Sr j, rfl, rfl, e3, e4, fun j q hj => ?_⟩
    cases j with
    | zero => simp at hj; subst hj; simpa [e1, e2] using h1
    | succ j =>
      have := e5 j q (by simpa using hj)
      simpa [Nat.add_assoc, Nat.add_comm 1 j] using this
end

theorem DTrace.ofA {P : Program} {call : Caller} {tn : Tn} {ops : Array Oper} (hd : drawOk P tn ops = true) {T T' T1 : Fr} {s s' : St} (h : drawsA P call tn ops (beforeL [] ops.toList) (memMask P tn 0 ops.toList) T1 0 ops.toList T s = some (T', s')) :
    ∃ t : DTrace P call tn ops, t.Tr 0 = T ∧ t.H 0 = s.heap ∧ t.Tr ops.size = T' ∧ t.H ops.size = s'.heap := by
  simp only [drawOk, Bool.and_eq_true] at hd
  obtain ⟨⟨_, hedges⟩, htmps⟩ := hd
  generalize hbf : beforeL [] ops.toList = bf at h htmps
  have hmem : ∀ {j : Nat} {o : Oper}, ops[j]? = some o → clsB P tn o ≠ 0 → (memMask P tn 0 ops.toList).testBit j = true := fun ho hc => by
    have := memMask_bit (P := P) (tn := tn) (l := ops.toList) (i := 0) (by simpa using ho) hc
    rwa [Nat.zero_add] at this
  generalize hmm : memMask P tn 0 ops.toList = mm at h hmem
  obtain ⟨Tr, Sr, e1, e2, e3, e4, e5⟩ := drawsA_trace h
  have hget : ∀ {j : Nat} {o : Oper}, ops[j]? = some o → ops.toList[j]? = some o := fun h => by simpa using h
  have hget2 : ∀ {j : Nat}, j < ops.size → ∃ o, ops[j]? = some o := fun h => ⟨ops[_], Array.getElem?_eq_getElem h⟩
  have hE : ∀ j o, ops[j]? = some o → ∀ e ∈ o.after, Region.binds .any e = true → e.on < j := fun j o ho e he hb => by
    have := (edgesB_spec hedges j o (hget ho)).1 e he hb
    omega
  have hbit : ∀ {j o t}, ops[j]? = some o → (bf.getD j 0).testBit t = true → ∃ e ∈ o.after, Region.binds .any e = true ∧ (t = e.on ∨ (bf.getD e.on 0).testBit t = true) := fun ho hb => by
    subst hbf
    exact before_edge (hget ho) (hE _ _ ho) hb
  have hno : ∀ {i j : Nat}, i ≠ j → ¬((bf.getD j 0).testBit i = true ∨ (bf.getD i 0).testBit j = true) → (cmpM bf ops.size i).testBit j = false := by
    intro i j hne h
    cases hb : (cmpM bf ops.size i).testBit j with
    | false => rfl
    | true =>
      rcases cmpM_bit hb with h1 | h1 | h1
      · exact absurd (.inr h1) h
      · exact absurd h1.symm hne
      · exact absurd (.inl h1) h
  have notown : ∀ {i j oi oj}, ops[i]? = some oi → ops[j]? = some oj → (cmpM bf ops.size i).testBit j = false → modeA P tn bf ops.size mm i oi = .own → clsB P tn oj = 0 := by
    intro i j oi oj hoi hoj hno hm
    by_cases hc : clsB P tn oj = 0
    · exact hc
    · have := subM_bit (modeA_own hm) (hmem hoj hc)
      rw [hno] at this
      cases this
  have e5' : ∀ j o, ops[j]? = some o → drawA P call tn ops bf mm T1 j o (Tr j) (Sr j) = some (Tr (j + 1), Sr (j + 1)) := fun j o ho => by
    have := e5 j o (hget ho)
    rwa [Nat.zero_add] at this
  refine ⟨{ Tr := Tr, H := fun i => (Sr i).heap, view := fun i b => match ops[i]? with | some o => viewA P tn ops bf mm T1 i o b | none => .dead,
            bef := fun i j => (bf.getD j 0).testBit i = true, step := ?_, uni := ?_, conf := ?_, late := ?_, tmp := ?_, lt := ?_, edge := hE, sel := ?_, reach := ?_ }, e1, by simp [e2], by simpa using e3, by simpa using congrArg St.heap e4⟩
  · intro i o ho
    obtain ⟨Hv, R, g1, g2, g3, g4, g5, g6⟩ := drawA_view (e5' i o ho)
    simp only [ho]
    exact ⟨Hv, R, g1, g2, g3, g4, g5, g6⟩
  · intro i
    cases ho : ops[i]? with
    | none => exact .inl fun b => by simp
    | some o =>
      simp only
      unfold viewA
      cases modeA P tn bf ops.size mm i o with
      | pure => exact .inl fun b => by simp
      | store => exact .inl fun b => by simp
      | own => exact .inr fun b => by simp
      | quiet => exact .inl fun b => by simp only; split <;> simp
      | bad => exact .inr fun b => by simp only; split <;> simp
  · intro i j hi hj hne hno' b
    have hnoij := hno hne hno'
    have hnoji := hno (Ne.symm hne) (fun h => hno' h.symm)
    obtain ⟨oi, hoi⟩ := hget2 hi
    obtain ⟨oj, hoj⟩ := hget2 hj
    simp only [hoi, hoj]
    intro hv
    unfold viewA at hv
    cases hmi : modeA P tn bf ops.size mm i oi with
    | pure => simp [hmi] at hv
    | store => simp [hmi] at hv
    | quiet => simp only [hmi] at hv; split at hv <;> cases hv
    | own =>
      have := modeA_pure (bf := bf) (n := ops.size) (mm := mm) (i := j).2 (notown hoi hoj hnoij hmi)
      unfold viewA
      simp [this]
    | bad =>
      simp only [hmi] at hv
      split at hv
      case isFalse => cases hv
      rename_i hb
      have hk : b ∈ killsA P tn bf ops.size mm T1 j 0 ops.toList := killsA_mem (j := i) (hget hoi) (by rw [Nat.zero_add]; exact hnoji) (by rw [Nat.zero_add]; exact hmi) (by simpa using hb)
      unfold viewA
      cases hmj : modeA P tn bf ops.size mm j oj with
      | pure => rfl
      | store => rfl
      | own =>
        have h0 := notown hoj hoi hnoji hmj
        rw [modeA_pure.2 h0] at hmi
        cases hmi
      | quiet => simp [hk]
      | bad =>
        simp only
        rw [if_neg]
        intro hb2
        exact drawA_apart (e5' j oj hoj) hmj b (by simpa using hb2) hk
  · intro i j hi hj hne hno' b hv hb1 hb2
    have hnoij := hno hne hno'
    have hnoji := hno (Ne.symm hne) (fun h => hno' h.symm)
    obtain ⟨oi, hoi⟩ := hget2 hi
    obtain ⟨oj, hoj⟩ := hget2 hj
    simp only [hoi] at hv
    have h1 := e5' j oj hoj
    unfold viewA at hv
    have pureNo : clsB P tn oj = 0 → False := fun hcj => by
      unfold drawA at h1
      simp only [modeA_pure.2 hcj] at h1
      have := (oneB_pure hcj h1).1
      rw [this] at hb2
      omega
    cases hmi : modeA P tn bf ops.size mm i oi with
    | pure => simp [hmi] at hv
    | store => simp [hmi] at hv
    | quiet => simp only [hmi] at hv; split at hv <;> cases hv
    | own => exact pureNo (notown hoi hoj hnoij hmi)
    | bad =>
      simp only [hmi] at hv
      split at hv
      case isFalse => cases hv
      rename_i hb
      have hk : b ∈ killsA P tn bf ops.size mm T1 j 0 ops.toList := killsA_mem (j := i) (hget hoi) (by rw [Nat.zero_add]; exact hnoji) (by rw [Nat.zero_add]; exact hmi) (by simpa using hb)
      by_cases hcj : clsB P tn oj = 0
      · exact pureNo hcj
      · by_cases hmj : modeA P tn bf ops.size mm j oj = .own
        · have h0 := notown hoj hoi hnoji hmj
          rw [modeA_pure.2 h0] at hmi
          cases hmi
        · exact drawA_new h1 hcj hmj b hk hb1 hb2
  · intro i j oi oj hoi hoj hne hno' d hd hdj
    have h1 := tmpsB_spec htmps i oi (hget hoi) d hd
    rw [Nat.zero_add] at h1
    have h2 := namersM_bit (tn := tn) (ops := ops) (l := ops.toList) (i := 0) (hget hoj) hdj
    rw [Nat.zero_add] at h2
    have := subM_bit h1 h2
    rw [hno hne hno'] at this
    cases this
  · intro i j hj
    induction j using Nat.strongRecOn with
    | _ j ih =>
      intro hb
      obtain ⟨o, ho⟩ := hget2 hj
      obtain ⟨e, he, hbd, h1⟩ := hbit ho hb
      have hlt := hE j o ho e he hbd
      rcases h1 with rfl | h1
      · exact hlt
      · have := ih e.on hlt (by omega) h1
        omega
  · intro j o ho
    exact (edgesB_spec hedges j o (hget ho)).2
  · intro D hD j
    induction j using Nat.strongRecOn with
    | _ j ih =>
      intro o ho hall i hb
      obtain ⟨e, he, hbd, h1⟩ := hbit ho hb
      rcases h1 with rfl | h1
      · exact hall e he hbd
      · have hlt := hE j o ho e he hbd
        have hsz : j < ops.size := (Array.getElem?_eq_some_iff.1 ho).1
        obtain ⟨o2, ho2⟩ := hget2 (j := e.on) (by omega)
        exact ih e.on hlt o2 ho2 (hD e.on o2 ho2 (hall e he hbd)) i h1

end Go.Proofs.Ytamaapapaiopiaa.Ab
