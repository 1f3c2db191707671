/- The abstract machine with variables in the frame, against the model: code, functions. -/
import Derived.Test.YtamaapapaiopiaaBDraw
import Derived.LoopN
set_option linter.unusedVariables false
set_option linter.unusedSimpArgs false
set_option linter.unusedSectionVars false
namespace Go.Proofs.Ytamaapapaiopiaa.Ab
open Go

def codeW (n : Nat) : Code → Bool
  | .region _ ops _ => ops.toList.all (operBB n ops)
  | .seq a b => codeW n a && codeW n b
  | .cond c a b => opdB n c && codeW n a && codeW n b
  | .block _ a => codeW n a
  | .loop a => codeW n a
  | _ => true

def Ex.to : Ex → Exit
  | .normal => .normal
  | .exit id => .exit id
  | .ret => .ret

theorem exV_some {β : Type} {e : Ex} {ids : List Nat} {f : Nat → Option β} {x : Option β} {r : β} (h : exV e (ids.map fun i => (i, f i)) x = some r) : (∃ i, e = .exit i ∧ f i = some r) ∨ (e = .ret ∧ x = some r) := by
  cases e with
  | normal => cases h
  | ret => exact .inr ⟨rfl, h⟩
  | exit j =>
    left
    refine ⟨j, rfl, ?_⟩
    simp only [exV] at h
    induction ids with
    | nil => simp [lookE] at h
    | cons i l ih =>
      simp only [List.map_cons, lookE] at h
      split at h
      · rename_i hj; rw [hj]; exact h
      · exact ih h


section
variable {P : Program} {call : Caller} {tn : Tn} {n m wb : Nat}

/-- what a piece of code is shown to do -/
def CodeDoes (P : Program) (tn : Tn) (n wb : Nat) (c : Code) (T : Fr) (s : St) (e : Ex) (T' : Fr) (s' : St) : Prop :=
  ∀ (X : Option Nat × Nat) (ι0 : Emb) (H0 : List Blk) (w0 : World) (ι : Emb) (lam : Lam) (a : Act) (w : World), wb ≤ w0.heap.size → BSim tn n wb ι0 H0 w0 ι lam T s.heap a.tmps w → a.tmps.size = n → codeW n c = true → ∀ Q : Exit → Act → World → Prop,
    (∀ ι' lam' a' w', BSim tn n wb ι0 H0 w0 ι' lam' T' s'.heap a'.tmps w' → a'.tmps.size = n → a'.defers = a.defers → Q e.to a' w') → c.wpIn (FR X) X.2 P Q a w

theorem CodeDoes.weakR {c : Code} {T : Fr} {s : St} {e : Ex} {T' T2 : Fr} {s' : St} (h : CodeDoes P tn n wb c T s e T' s') (hw : ∀ x, T2 x = T' x ∨ T2 x = poisonV) : CodeDoes P tn n wb c T s e T2 s' :=
  fun Y ι0 H0 w0 ι lam a w h1 h2 h3 h4 Q hQ => h Y ι0 H0 w0 ι lam a w h1 h2 h3 h4 Q fun ι' lam' a' w' g1 g2 g3 => hQ ι' lam' a' w' (g1.weak hw) g2 g3
theorem CodeDoes.weakL {c : Code} {T T0 : Fr} {s : St} {e : Ex} {T' : Fr} {s' : St} (h : CodeDoes P tn n wb c T s e T' s') (hw : ∀ x, T x = T0 x ∨ T x = poisonV) : CodeDoes P tn n wb c T0 s e T' s' :=
  fun Y ι0 H0 w0 ι lam a w h1 h2 h3 h4 Q hQ => h Y ι0 H0 w0 ι lam a w h1 (h2.weak hw) h3 h4 Q hQ
theorem kept (L : List Nat) (T : Fr) (x : Nat) : ofL L 0 (toL L T) noT x = T x ∨ ofL L 0 (toL L T) noT x = poisonV := by
  rcases ofL_toL (L := L) (T2 := T) (T0 := noT) x with ⟨_, h⟩ | ⟨_, h⟩
  · exact .inl h
  · exact .inr h

theorem loopN_does {c : Code} {body : List Value → St → Res} {F : List Value → Fr} {E : Ex → List Value → Fr} (hbody : ∀ X s e X' s', body X s = some (e, X', s') → CodeDoes P tn n wb c (F X) s e (E e X') s') (hE : ∀ X, E .normal X = F X) :
    ∀ (q : Nat) (X : List Value) (s : St) (e : Ex) (X' : List Value) (s' : St), loopN body q X s = some (e, X', s') → CodeDoes P tn n wb (.loop c) (F X) s e (E e X') s' := by
  intro q X s e X' s' h Y ι0 H0 w0 ι lam a w hwb hs hz hb Q hQ
  have key : ∀ (q : Nat) (X : List Value) (s : St) (ι : Emb) (lam : Lam) (a2 : Act) (w : World), loopN body q X s = some (e, X', s') → BSim tn n wb ι0 H0 w0 ι lam (F X) s.heap a2.tmps w → a2.tmps.size = n → a2.defers = a.defers → Code.roundsIn (FR Y) Y.2 P c Q q a2 w := by
    intro q
    induction q with
    | zero => intro X s ι lam a2 w h; simp [loopN] at h
    | succ q ih =>
      intro X s ι lam a2 w h hs hz hd
      simp only [loopN, seqA, Option.bind_eq_some_iff] at h
      obtain ⟨⟨e1, X1, s1⟩, h1, h2⟩ := h
      rw [roundsIn_succ]
      refine hbody X s e1 X1 s1 h1 Y ι0 H0 w0 ι lam a2 w hwb hs hz hb _ fun ι' lam' a1 w1 g1 g2 g3 => ?_
      cases e1 with
      | normal =>
        rw [hE] at g1
        exact ih X1 s1 ι' lam' a1 w1 h2 g1 g2 (g3.trans hd)
      | exit id => simp at h2; obtain ⟨rfl, rfl, rfl⟩ := h2; exact hQ ι' lam' a1 w1 g1 g2 (g3.trans hd)
      | ret => simp at h2; obtain ⟨rfl, rfl, rfl⟩ := h2; exact hQ ι' lam' a1 w1 g1 g2 (g3.trans hd)
  exact wpIn_loop_rounds q (key q X s ι lam a w h hs hz rfl)

theorem codeB_sound {lp : (List Value → St → Res) → List Value → St → Res} (hcall : CallOk P call) (htn : tnOk n m tn = true) (hlp : ∀ body X s r, lp body X s = some r → ∃ q, loopN body q X s = some r) {wd : Nat} :
    ∀ (c : Code), codeW n c = true → ∀ (lo : Lo) {β : Type} (T : Fr) (s : St) (k : Ex → Fr → St → Option β) (r : β), codeB P call tn lp wd c lo T s k = some r → ∃ e T' s', k e T' s' = some r ∧ CodeDoes P tn n wb c T s e T' s' := by
  intro c
  induction c with
  | skip =>
    intro hcw lo β T s k r h
    refine ⟨.normal, T, s, h, ?_⟩
    intro X ι0 H0 w0 ι lam a w hwb hs hz hb Q hQ
    exact wpIn_skip (hQ ι lam a w hs hz rfl)
  | region id ops draw =>
    intro hcw lo β T s k r h
    cases draw with
    | false =>
      simp only [codeB] at h
      obtain ⟨T1, s1, h1, h2⟩ := grpsB_does (wb := wb) hcall htn (ops := ops) (i := 0) (fun j hj => by rw [grp_ops]; simp) (grp_guard _) (fun o ho => by rw [grp_ops] at ho; exact List.all_eq_true.1 hcw o ho) h
      refine ⟨.normal, T1, s1, h1, ?_⟩
      intro X ι0 H0 w0 ι lam a w hwb hs hz hb Q hQ
      refine wpIn_region ?_
      have := h2 X ι0 H0 w0 ι lam a w hwb hs hz Q [] (fun ι' lam' a' w' g1 g2 g3 => hQ ι' lam' a' w' g1 g2 g3)
      rw [grp_ops] at this
      rw [List.range_eq_range']
      simpa using this
    | true =>
      simp only [codeB] at h
      split at h
      case isFalse => cases h
      rename_i hd
      cases ha : hasApp P tn (beforeL [] ops.toList) ops.size (memMask P tn 0 ops.toList) 0 ops.toList with
      | true =>
        simp only [ha, cond_true, drawsAK_eq, Option.bind_eq_some_iff] at h
        obtain ⟨X, _, ⟨T1, s1⟩, h1, h2⟩ := h
        refine ⟨.normal, T1, s1, h2, ?_⟩
        intro X ι0 H0 w0 ι lam a w hwb hs hz hb Q hQ
        exact drawA_sound hcall htn hd h1 hb hwb hs hz hQ
      | false =>
        simp only [ha, cond_false, drawsK_eq, Option.bind_eq_some_iff] at h
        obtain ⟨⟨T1, s1⟩, h1, h2⟩ := h
        refine ⟨.normal, T1, s1, h2, ?_⟩
        intro X ι0 H0 w0 ι lam a w hwb hs hz hb Q hQ
        exact draw_sound hcall htn hd h1 hb hwb hs hz hQ
  | seq x y ihx ihy =>
    intro hcw lo β T s k r h
    simp only [codeB] at h
    simp only [codeW, Bool.and_eq_true] at hcw
    obtain ⟨e1, T1, s1, h1, h2⟩ := ihx hcw.1 _ T s _ r h
    cases e1 with
    | normal =>
      have key : ∀ {T2 : Fr}, (∀ q, T2 q = T1 q ∨ T2 q = poisonV) → codeB P call tn lp wd y lo T2 s1 k = some r → ∃ e T' s', k e T' s' = some r ∧ CodeDoes P tn n wb (.seq x y) T s e T' s' := by
        intro T2 hw h1
        obtain ⟨e2, T3, s2, h3, h4⟩ := ihy hcw.2 lo T2 s1 k r h1
        refine ⟨e2, T3, s2, h3, ?_⟩
        intro X ι0 H0 w0 ι lam a w hwb hs hz hb Q hQ
        simp only [codeW, Bool.and_eq_true] at hb
        refine wpIn_seq (h2 X ι0 H0 w0 ι lam a w hwb hs hz hb.1 _ fun ι' lam' a1 w1 g1 g2 g3 => ?_)
        exact h4 X ι0 H0 w0 ι' lam' a1 w1 hwb (g1.weak hw) g2 hb.2 Q fun ι2 lam2 a2 w2 q1 q2 q3 => hQ ι2 lam2 a2 w2 q1 q2 (q3.trans g3)
      cases hj : joinB x y with
      | true =>
        rw [hj] at h1
        exact key (kept (bitsN (lvIn tn y lo) wd 0) T1) h1
      | false =>
        rw [hj] at h1
        exact key (fun _ => .inl rfl) h1
    | exit id =>
      refine ⟨.exit id, T1, s1, h1, ?_⟩
      intro X ι0 H0 w0 ι lam a w hwb hs hz hb Q hQ
      simp only [codeW, Bool.and_eq_true] at hb
      exact wpIn_seq (h2 X ι0 H0 w0 ι lam a w hwb hs hz hb.1 _ fun ι' lam' a1 w1 g1 g2 g3 => hQ ι' lam' a1 w1 g1 g2 g3)
    | ret =>
      refine ⟨.ret, T1, s1, h1, ?_⟩
      intro X ι0 H0 w0 ι lam a w hwb hs hz hb Q hQ
      simp only [codeW, Bool.and_eq_true] at hb
      exact wpIn_seq (h2 X ι0 H0 w0 ι lam a w hwb hs hz hb.1 _ fun ι' lam' a1 w1 g1 g2 g3 => hQ ι' lam' a1 w1 g1 g2 g3)
  | cond c x y ihx ihy =>
    intro hcw lo β T s k r h
    simp only [codeB] at h
    simp only [codeW, Bool.and_eq_true] at hcw
    split at h
    case isFalse => cases h
    rename_i hcl
    simp only [Option.bind_eq_some_iff] at h
    obtain ⟨v, hv, h⟩ := h
    have hev : ∀ {ι0 : Emb} {H0 : List Blk} {w0 : World} {ι : Emb} {lam : Lam} {a : Act} {w : World}, BSim tn n wb ι0 H0 w0 ι lam T s.heap a.tmps w → opdB n c = true → VRel ι v (a.eval c) := by
      intro ι0 H0 w0 ι lam a w hs hb
      cases c with
      | tmp t =>
        simp only [opd, Option.some.injEq] at hv
        subst hv
        have := hs.nm t
        unfold NRel at this
        rw [if_pos (by simpa [opdB] using hb)] at this
        have hl : look t tn = none := by simpa [cleanO, tOf] using hcl
        rw [hl] at this
        exact this
      | const u =>
        simp only [opd] at hv
        split at hv
        · rename_i hc; cases hv; exact constOk_rel hc
        · cases hv
      | global g => simp [opd] at hv
      | func f => simp only [opd, Option.some.injEq] at hv; subst hv; exact .of0 (.func _)
    unfold condV at h
    split at h
    · rename_i b
      cases b with
      | true =>
        obtain ⟨e1, T1, s1, h1, h2⟩ := ihx hcw.1.2 lo T s k r (by simpa using h)
        refine ⟨e1, T1, s1, h1, ?_⟩
        intro X ι0 H0 w0 ι lam a w hwb hs hz hb Q hQ
        simp only [codeW, Bool.and_eq_true] at hb
        exact wpIn_cond_true (hev hs hb.1.1).inv_bool (h2 X ι0 H0 w0 ι lam a w hwb hs hz hb.1.2 Q hQ)
      | false =>
        obtain ⟨e1, T1, s1, h1, h2⟩ := ihy hcw.2 lo T s k r (by simpa using h)
        refine ⟨e1, T1, s1, h1, ?_⟩
        intro X ι0 H0 w0 ι lam a w hwb hs hz hb Q hQ
        simp only [codeW, Bool.and_eq_true] at hb
        exact wpIn_cond_false (hev hs hb.1.1).inv_bool (h2 X ι0 H0 w0 ι lam a w hwb hs hz hb.2 Q hQ)
    · cases h
  | block id x ih =>
    intro hcw lo β T s k r h
    simp only [codeB] at h
    obtain ⟨e1, T1, s1, h1, h2⟩ := ih hcw _ T s _ r h
    cases e1 with
    | normal =>
      refine ⟨.normal, T1, s1, h1, ?_⟩
      intro X ι0 H0 w0 ι lam a w hwb hs hz hb Q hQ
      exact wpIn_block (h2 X ι0 H0 w0 ι lam a w hwb hs hz hb _ fun ι' lam' a1 w1 g1 g2 g3 => hQ ι' lam' a1 w1 g1 g2 g3)
    | ret =>
      refine ⟨.ret, T1, s1, h1, ?_⟩
      intro X ι0 H0 w0 ι lam a w hwb hs hz hb Q hQ
      exact wpIn_block (h2 X ι0 H0 w0 ι lam a w hwb hs hz hb _ fun ι' lam' a1 w1 g1 g2 g3 => hQ ι' lam' a1 w1 g1 g2 g3)
    | exit j =>
      simp only at h1
      split at h1
      · rename_i hj
        refine ⟨.normal, T1, s1, h1, ?_⟩
        intro X ι0 H0 w0 ι lam a w hwb hs hz hb Q hQ
        refine wpIn_block (h2 X ι0 H0 w0 ι lam a w hwb hs hz hb _ fun ι' lam' a1 w1 g1 g2 g3 => ?_)
        simp only [Ex.to, Exit.inBlock, hj, if_true]
        exact hQ ι' lam' a1 w1 g1 g2 g3
      · rename_i hj
        refine ⟨.exit j, T1, s1, h1, ?_⟩
        intro X ι0 H0 w0 ι lam a w hwb hs hz hb Q hQ
        refine wpIn_block (h2 X ι0 H0 w0 ι lam a w hwb hs hz hb _ fun ι' lam' a1 w1 g1 g2 g3 => ?_)
        simp only [Ex.to, Exit.inBlock, hj, if_false]
        exact hQ ι' lam' a1 w1 g1 g2 g3
  | loop x ih =>
    intro hcw lo β T s k r h
    simp only [codeB, Option.bind_eq_some_iff] at h
    obtain ⟨⟨e1, X1, s1⟩, h1, h2⟩ := h
    obtain ⟨q, hq⟩ := hlp _ _ _ _ h1
    have hloop := loopN_does (P := P) (wb := wb) (n := n) (c := x) (F := fun X => ofL (bitsN (lvIn tn (.loop x) lo) wd 0) 0 X noT) (E := fun e X => ofL (liveE wd (bitsN (lvIn tn (.loop x) lo) wd 0) lo e) 0 X noT) (fun X s e X' s' hb => by
      obtain ⟨e2, T2, s2, h3, h4⟩ := ih hcw _ _ s _ _ hb
      cases h3
      exact h4.weakR (kept _ T2)) (fun X => rfl) q _ s e1 X1 s1 hq
    have h3 : k e1 (ofL (liveE wd (bitsN (lvIn tn (.loop x) lo) wd 0) lo e1) 0 X1 noT) s1 = some r := by
      rcases exV_some h2 with ⟨i, he, h3⟩ | ⟨he, h3⟩
      · simp only at he h3; rw [he]; exact h3
      · split at h3
        · simp only at he; rw [he]; exact h3
        · cases h3
    exact ⟨e1, _, s1, h3, hloop.weakL (kept _ T)⟩
  | exit id =>
    intro hcw lo β T s k r h
    refine ⟨.exit id, T, s, h, ?_⟩
    intro X ι0 H0 w0 ι lam a w hwb hs hz hb Q hQ
    exact wpIn_exit (hQ ι lam a w hs hz rfl)
  | ret =>
    intro hcw lo β T s k r h
    refine ⟨.ret, T, s, h, ?_⟩
    intro X ι0 H0 w0 ι lam a w hwb hs hz hb Q hQ
    exact wpIn_ret (hQ ι lam a w hs hz rfl)
  | rangeFunc f params assign body _ _ => intro hcw lo β T s k r h; simp [codeB] at h
  | scope body _ => intro hcw lo β T s k r h; simp [codeB] at h
  | label l => intro hcw lo β T s k r h; simp [codeB] at h
  | goto l => intro hcw lo β T s k r h; simp [codeB] at h
  | refuse why => intro hcw lo β T s k r h; simp [codeB] at h
end
end Go.Proofs.Ytamaapapaiopiaa.Ab
