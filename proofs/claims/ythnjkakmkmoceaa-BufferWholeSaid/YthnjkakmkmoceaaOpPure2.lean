/- What the laws say of operations on a map: plain. -/
import Derived.Test.YthnjkakmkmoceaaOpPure
set_option linter.unusedVariables false
set_option linter.unusedSimpArgs false
set_option linter.unusedSectionVars false
namespace Go.Proofs.Ythnjkakmkmoceaa.Ab
open Go

/-! ### What is found -/
theorem get_append : ∀ (a b : List Rg) (x : BL), cGet (a ++ b) x = (cGet a x).or (cGet b x)
  | [], b, x => by simp [cGet]
  | p :: a, b, x => by
    rw [List.cons_append, cGet_cons, cGet_cons, get_append a b x]
    split <;> rfl
theorem get_filter (f : BL → Bool) (x : BL) : ∀ (m : List Rg), cGet (m.filter fun p => f p.1) x = if f x = true then cGet m x else none
  | [] => by simp [cGet]
  | p :: m => by
    rw [List.filter_cons, cGet_cons]
    by_cases e : (p.1 == x) = true
    · have e1 : p.1 = x := by simpa using e
      rw [if_pos e, e1]
      split
      · rw [cGet_cons, if_pos e]
      · rename_i h
        rw [get_filter f x m, if_neg h]
    · rw [if_neg e]
      split
      · rw [cGet_cons, if_neg e, get_filter f x m]
      · exact get_filter f x m
theorem get_put {m : List Rg} (k v x : BL) : cGet (cPut m k v) x = if x = k then some v else cGet m x := by
  unfold cPut
  rw [get_append, cGet_cons, get_filter (fun y => bl y k), get_filter (fun y => bl k y)]
  by_cases e : x = k
  · subst e
    simp [bl_irrefl]
  · have e1 : ((k, v).1 == x) = false := by simpa using fun h => e h.symm
    rw [if_neg e, e1]
    rcases bl_total e with h | h
    · rw [h, bl_asym h]
      cases cGet m x <;> simp
    · rw [h, bl_asym h]
      simp
theorem get_del {m : List Rg} (k x : BL) : cGet (cDel m k) x = if x = k then none else cGet m x := by
  unfold cDel
  rw [get_filter fun y => y != k]
  by_cases e : x = k
  · simp [e]
  · simp [e]
theorem get_out {m : List Rg} (r : Rg) (x : BL) : cGet (cOut m r) x = if hasR r x = true then none else cGet m x := by
  unfold cOut
  rw [get_filter fun y => !hasR r y]
  cases hasR r x <;> rfl
theorem get_none_of {m : List Rg} {x : BL} (h : ∀ p ∈ m, bl x p.1 = true) : cGet m x = none := cGet_none fun p hp => (beq_of_bl (h p hp)).2
/-- maps that tell the same are the same -/
theorem map_ext : ∀ {a b : List Rg}, Srt a → Srt b → (∀ x, cGet a x = cGet b x) → a = b
  | [], [], _, _, _ => rfl
  | [], q :: b, _, _, h => by
    have := h q.1
    rw [cGet_cons, if_pos (by simp)] at this
    cases this
  | p :: a, [], _, _, h => by
    have := h p.1
    rw [cGet_cons, if_pos (by simp)] at this
    cases this
  | p :: a, q :: b, ha, hb, h => by
    obtain ⟨a1, a2⟩ := srt_cons.1 ha
    obtain ⟨b1, b2⟩ := srt_cons.1 hb
    have hk : p.1 = q.1 := by
      apply Classical.byContradiction
      intro e
      rcases bl_total e with g | g
      · have h1 := h p.1
        rw [cGet_cons, if_pos (by simp), cGet_cons, if_neg (by simpa using fun c => e c.symm), get_none_of fun y hy => bl_trans g (b1 y hy)] at h1
        cases h1
      · have h1 := h q.1
        rw [cGet_cons, if_neg (by simpa using e), cGet_cons, if_pos (by simp), get_none_of fun y hy => bl_trans g (a1 y hy)] at h1
        cases h1
    have hv : p.2 = q.2 := by
      have h1 := h p.1
      rw [cGet_cons, if_pos (by simp), cGet_cons, if_pos (by simp [hk])] at h1
      exact Option.some.inj h1
    have hr : a = b := map_ext a2 b2 fun x => by
      have h1 := h x
      rw [cGet_cons, cGet_cons, ← hk] at h1
      by_cases e : (p.1 == x) = true
      · have e1 : p.1 = x := by simpa using e
        rw [← e1, get_none_of a1, get_none_of fun y hy => hk ▸ b1 y hy]
      · rw [if_neg e, if_neg e] at h1
        exact h1
    rw [hr, Prod.ext hk hv]
theorem val_get {m : List Rg} (h : Val m) {x : BL} (hx : ckK x = false) : cGet m x = none := cGet_none fun p hp => by
  rw [beq_eq_false_iff_ne]
  rintro rfl
  rw [(h.2 p hp).1] at hx
  cases hx
theorem has_pt {k x : BL} (hk : ckK k = true) : hasR (ptR k) x = (x == k) := by
  obtain ⟨p1, p2, p3, p4⟩ := pt_facts hk
  by_cases hx : ckK x = true
  · rw [has_iff p2 hx, p1]
    by_cases e : x = k
    · subst e
      rw [bl_irrefl, p4]
      simp
    · have e1 : (x == k) = false := by simpa using e
      rw [e1]
      cases h1 : bl x k
      · cases h2 : ((ptR k).2 == [] || bl x (ptR k).2)
        · rfl
        · exact absurd (p3 x (ckK_len hx).1 h1 h2) e
      · rfl
  · have e : (x == k) = false := by
      rw [beq_eq_false_iff_ne]
      rintro rfl
      exact hx hk
    rw [e]
    unfold hasR
    cases h1 : ckK x
    · simp
    · exact absurd h1 hx

/-! ### One operation, key by key -/
theorem sp_keyed {o : OpT} (h : ckO o = 0) (hk : keyed o.kind = true) : spR o = ptR o.key ∧ ckK o.key = true := by
  have := (ckO_key h).2.1 hk
  refine ⟨?_, this⟩
  unfold spR
  have h2 : (o.key == []) = false := by simpa using (ckK_len this).2
  rw [h2]
  rfl
theorem sp_ranged {o : OpT} (h : ckO o = 0) (hk : ranged o.kind = true) : spR o = (o.lo, o.hi) ∧ ckR (o.lo, o.hi) = true := by
  have := (ckO_key h).2.2.1 hk
  refine ⟨?_, this.2⟩
  unfold spR
  rw [this.1]
  rfl
theorem get_do {m : List Rg} {o : OpT} (ho : ckO o = 0) (x : BL) : cGet (doM m o) x = if hasR (spR o) x && wrt o.kind then (if o.kind = 2 then some o.val else none) else cGet m x := by
  have hk := (ckO_key ho).1
  unfold doM
  rcases kinds hk with e | e | e | e | e
  · rw [e]; simp [wrt]
  · obtain ⟨s1, s2⟩ := sp_keyed ho (by rw [e]; rfl)
    rw [e, s1, has_pt s2, if_pos rfl, get_put]
    by_cases c : x = o.key
    · simp [c, wrt]
    · simp [c]
  · obtain ⟨s1, s2⟩ := sp_keyed ho (by rw [e]; rfl)
    rw [e, s1, has_pt s2, if_neg (by decide), if_pos rfl, get_del]
    by_cases c : x = o.key
    · simp [c, wrt]
    · simp [c]
  · rw [e]; simp [wrt]
  · obtain ⟨s1, s2⟩ := sp_ranged ho (by rw [e]; rfl)
    rw [e, s1, if_neg (by decide), if_neg (by decide), if_pos rfl, get_out]
    cases hasR (o.lo, o.hi) x <;> simp [wrt]
theorem do_read {m : List Rg} {o : OpT} (h : wrt o.kind = false) : doM m o = m := by
  unfold wrt at h
  unfold doM
  simp only [Bool.or_eq_false_iff, beq_eq_false_iff_ne] at h
  rw [if_neg h.1.1, if_neg h.1.2, if_neg h.2]
theorem in_do {m : List Rg} (hv : Val m) {o : OpT} (ho : ckO o = 0) {r : Rg} (hd : ∀ x, hasR r x = true → (hasR (spR o) x && wrt o.kind) = false) : cIn (doM m o) r = cIn m r := by
  refine map_ext (List.Pairwise.filter _ (val_do hv ho).1) (List.Pairwise.filter _ hv.1) fun x => ?_
  unfold cIn
  rw [get_filter (fun y => hasR r y), get_filter (fun y => hasR r y), get_do ho]
  by_cases c : hasR r x = true
  · rw [if_pos c, if_pos c, hd x c]
    rfl
  · rw [if_neg c, if_neg c]
theorem doR_in {m : List Rg} (hv : Val m) {o : OpT} (ho : ckO o = 0) : doR m o = doR (cIn m (spR o)) o := by
  have hk := (ckO_key ho).1
  unfold doR
  rcases kinds hk with e | e | e | e | e
  · obtain ⟨s1, s2⟩ := sp_keyed ho (by rw [e]; rfl)
    have : cGet (cIn m (spR o)) o.key = cGet m o.key := by
      unfold cIn
      rw [get_filter (fun y => hasR (spR o) y), s1, has_pt s2]
      simp
    rw [e, if_pos rfl, if_pos rfl, this]
  · rw [e]; rfl
  · rw [e]; rfl
  · obtain ⟨s1, s2⟩ := sp_ranged ho (by rw [e]; rfl)
    rw [e, if_neg (by decide), if_pos rfl, if_neg (by decide), if_pos rfl, s1]
    have : cIn (cIn m (o.lo, o.hi)) (o.lo, o.hi) = cIn m (o.lo, o.hi) := by
      unfold cIn
      rw [List.filter_filter]
      simp
    rw [this]
  · rw [e]; rfl
/-- they do not touch each other -/
def apart (a b : OpT) : Prop := ∀ x, (hasR (spR a) x && hasR (spR b) x) = false
theorem apart_comm {a b : OpT} (h : apart a b) : apart b a := fun x => by rw [Bool.and_comm]; exact h x
theorem doR_apart {m : List Rg} (hv : Val m) {a b : OpT} (ha : ckO a = 0) (hb : ckO b = 0) (h : apart a b ∨ wrt a.kind = false) : doR (doM m a) b = doR m b := by
  rw [doR_in (val_do hv ha) hb, doR_in hv hb, in_do hv ha fun x hx => ?_]
  rcases h with h | h
  · have := h x
    rw [hx, Bool.and_true] at this
    rw [this]; rfl
  · rw [h, Bool.and_false]
theorem doM_apart {m : List Rg} (hv : Val m) {a b : OpT} (ha : ckO a = 0) (hb : ckO b = 0) (h : apart a b ∨ (wrt a.kind = false ∧ wrt b.kind = false)) : doM (doM m a) b = doM (doM m b) a := by
  refine map_ext (val_do (val_do hv ha) hb).1 (val_do (val_do hv hb) ha).1 fun x => ?_
  rw [get_do hb, get_do ha, get_do ha, get_do hb]
  rcases h with h | ⟨h1, h2⟩
  · have := h x
    cases c1 : hasR (spR a) x <;> cases c2 : hasR (spR b) x <;> simp_all
  · rw [h1, h2]
    simp
theorem apart_meet {a b : OpT} (h : meetL (spR a) (spR b) = none) : apart a b := fun x => by
  have := both_has (spR a) (spR b) x
  rw [this, h]
  rfl
theorem turns_pure {m : List Rg} (hv : Val m) {a b : OpT} (ha : ckO a = 0) (hb : ckO b = 0) (h : meetL (spR a) (spR b) = none ∨ (wrt a.kind = false ∧ wrt b.kind = false)) : apM m [a, b] = apM m [b, a] ∧ apR m [a, b] = (apR m [b, a]).reverse := by
  have h1 : apart a b ∨ (wrt a.kind = false ∧ wrt b.kind = false) := h.imp_left apart_meet
  refine ⟨doM_apart hv ha hb h1, ?_⟩
  have e1 : doR (doM m a) b = doR m b := doR_apart hv ha hb (h1.imp_right And.left)
  have e2 : doR (doM m b) a = doR m a := doR_apart hv hb ha ((h1.imp_left apart_comm).imp_right And.right)
  simp only [apR, List.reverse_cons, List.reverse_nil, List.nil_append, List.singleton_append, e1, e2]
theorem twice_pure {m : List Rg} (hv : Val m) {o : OpT} (ho : ckO o = 0) (hw : wrt o.kind = true) : apM m [o, o] = apM m [o] := by
  refine map_ext (val_do (val_do hv ho) ho).1 (val_do hv ho).1 fun x => ?_
  show cGet (doM (doM m o) o) x = cGet (doM m o) x
  rw [get_do ho (m := doM m o)]
  split
  · rename_i c
    rw [get_do ho, if_pos c]
  · rfl

/-! ### One after another -/
theorem apM_app : ∀ (a b : List OpT) (m : List Rg), apM m (a ++ b) = apM (apM m a) b
  | [], _, _ => rfl
  | _ :: a, b, m => apM_app a b _
theorem apR_app : ∀ (a b : List OpT) (m : List Rg), apR m (a ++ b) = apR m a ++ apR (apM m a) b
  | [], _, _ => rfl
  | o :: a, b, m => by
    show doR m o :: apR (doM m o) (a ++ b) = _
    rw [apR_app a b]
    rfl
theorem allE_app {a b : List OpT} (h : allE (a ++ b) = 0) : allE a = 0 ∧ allE b = 0 := by
  induction a with
  | nil => exact ⟨rfl, h⟩
  | cons o a ih =>
    obtain ⟨h1, h2⟩ := allE_cons0 (l := a ++ b) h
    refine ⟨?_, (ih h2).2⟩
    rw [allE_cons, if_pos h1]
    exact (ih h2).1
theorem reads_pure : ∀ {l : List OpT} {m : List Rg}, (l.any fun o => wrt o.kind) = false → apM m l = m
  | [], _, _ => rfl
  | o :: l, m, h => by
    simp only [List.any_cons, Bool.or_eq_false_iff] at h
    show apM (doM m o) l = m
    rw [do_read h.1, reads_pure h.2]
/-- the pair at or after a key -/
theorem first_pure : ∀ {m : List Rg} (_ : Val m) {k : BL} (_ : ckK k = true), (match (cIn m (k, [])).take 1 with | [p] => p.1 == k | _ => false) = (cGet m k).isSome
  | [], _, _, _ => rfl
  | p :: m, h, k, hk => by
    obtain ⟨h1, h2⟩ := srt_cons.1 h.1
    have hm : Val m := ⟨h2, fun q hq => h.2 q (List.mem_cons_of_mem _ hq)⟩
    have hp := (h.2 p (List.mem_cons_self ..)).1
    have hr : ckR (k, []) = true := by
      unfold ckR
      simp [(ckK_len hk).1]
    rw [cGet_cons]
    unfold cIn
    rw [List.filter_cons, has_iff hr hp]
    by_cases c : bl p.1 k = true
    · rw [c]
      simp only [Bool.not_true, Bool.false_and, Bool.false_eq_true, if_false, (beq_of_bl c).1]
      exact first_pure hm hk
    · have c2 : bl p.1 k = false := by simpa using c
      rw [c2]
      simp only [Bool.not_false, Bool.true_and, beq_self_eq_true, Bool.true_or, if_true, List.take_succ_cons, List.take_zero]
      by_cases e : p.1 = k
      · simp [e]
      · have e1 : (p.1 == k) = false := by simpa using e
        have e2 : bl k p.1 = true := by
          rcases bl_total e with g | g
          · rw [g] at c2; cases c2
          · exact g
        rw [e1]
        simp only [Bool.false_eq_true, if_false]
        rw [get_none_of fun q hq => bl_trans e2 (h1 q hq)]
        rfl

end Go.Proofs.Ythnjkakmkmoceaa.Ab
