/- What is plain of keys and ranges, further. -/
import Derived.Test.YtcahddipgocpfaaSpRank
set_option linter.unusedVariables false
set_option linter.unusedSimpArgs false
set_option linter.unusedSectionVars false
namespace Go.Proofs.Ytcahddipgocpfaa.Ab
open Go

theorem cov_iff {a b : Rg} : covL a b = true ↔ ckR a = true ∧ ckR b = true ∧ bl b.1 a.1 = false ∧ leastL a.2 b.2 = b.2 := by
  unfold covL
  simp only [Bool.and_eq_true, Bool.not_eq_true', beq_iff_eq, and_assoc]
theorem max_of {x y : BL} (h : bl y x = false) : maxL x y = y := by
  unfold maxL
  by_cases e : x = y
  · subst e; simp
  · rcases bl_total e with g | g
    · simp [g]
    · rw [h] at g; cases g
theorem cov_meet {a b : Rg} (h : covL a b = true) : meetL a b = some b := by
  obtain ⟨h1, h2, h3, h4⟩ := cov_iff.1 h
  unfold meetL
  rw [max_of h3, h4, h1, h2]
  rfl
theorem cov_all {a : Rg} : covL ([], []) a = ckR a := by
  unfold covL
  have h1 : ckR ([], []) = true := by decide
  have h2 : leastL [] a.2 = a.2 := by simp [leastL]
  simp only [h1, bl_nil_r, h2, beq_self_eq_true]
  cases ckR a <;> rfl
theorem has_all {k : BL} : hasR ([], []) k = ckK k := by
  unfold hasR
  have h1 : ckR ([], []) = true := by decide
  simp only [h1, bl_nil_r]
  cases ckK k <;> rfl
theorem least_iff {x y : BL} : leastL x y = y ↔ x = [] ∨ (y ≠ [] ∧ (bl y x = true ∨ x = y)) := by
  unfold leastL
  by_cases h1 : x = []
  · subst h1; simp
  · by_cases h2 : y = []
    · subst h2; simp [h1]
    · by_cases h3 : x = y
      · subst h3; simp [bl_irrefl, h1]
      · cases h4 : bl y x <;> simp [h1, h2, h3, h4]
theorem cov_trans {a b c : Rg} (h : covL a b = true) (g : covL b c = true) : covL a c = true := by
  obtain ⟨h1, h2, h3, h4⟩ := cov_iff.1 h
  obtain ⟨g1, g2, g3, g4⟩ := cov_iff.1 g
  rw [least_iff] at h4 g4
  refine cov_iff.2 ⟨h1, g2, ?_, least_iff.2 ?_⟩
  · cases e : bl c.1 a.1 with
    | false => rfl
    | true =>
      by_cases e1 : a.1 = b.1
      · rw [← e1] at g3; rw [g3] at e; cases e
      · rcases bl_total e1 with k | k
        · rw [bl_trans e k] at g3; cases g3
        · rw [k] at h3; cases h3
  · rcases h4 with h4 | ⟨h4, h5⟩
    · exact .inl h4
    · rcases g4 with g4 | ⟨g4, g5⟩
      · exact absurd g4 h4
      · refine .inr ⟨g4, ?_⟩
        rcases h5 with h5 | h5
        · rcases g5 with g5 | g5
          · exact .inl (bl_trans g5 h5)
          · rw [← g5]; exact .inl h5
        · rw [h5]; exact g5
theorem cov_anti {a b : Rg} (h : covL a b = true) (g : covL b a = true) : a = b := by
  obtain ⟨h1, h2, h3, h4⟩ := cov_iff.1 h
  obtain ⟨g1, g2, g3, g4⟩ := cov_iff.1 g
  rw [least_iff] at h4 g4
  apply Prod.ext
  · by_cases e : a.1 = b.1
    · exact e
    · rcases bl_total e with k | k
      · rw [k] at g3; cases g3
      · rw [k] at h3; cases h3
  · rcases h4 with h4 | ⟨h4, h5⟩
    · rcases g4 with g4 | ⟨g4, g5⟩
      · rw [h4, g4]
      · exact absurd h4 g4
    · rcases g4 with g4 | ⟨g4, g5⟩
      · exact absurd g4 h4
      · rcases h5 with h5 | h5
        · rcases g5 with g5 | g5
          · rw [bl_asymm h5] at g5; cases g5
          · exact g5.symm
        · exact h5

theorem max_assoc (x y z : BL) : maxL (maxL x y) z = maxL x (maxL y z) := by
  obtain ⟨f, h0, hz, h⟩ := rank [x, y, z]
  simp only [List.mem_cons, List.not_mem_nil, or_false, forall_eq_or_imp, forall_eq] at h
  unfold maxL
  by_cases h1 : f x < f y <;> by_cases h2 : f y < f z <;> by_cases h3 : f x < f z <;> simp [h, h1, h2, h3] <;> omega
theorem least_assoc (x y z : BL) : leastL (leastL x y) z = leastL x (leastL y z) := by
  obtain ⟨f, h0, hz, h⟩ := rank [x, y, z]
  simp only [List.mem_cons, List.not_mem_nil, or_false, forall_eq_or_imp, forall_eq] at h hz
  have hne : (x != []) = !decide (f x = 0) ∧ (y != []) = !decide (f y = 0) ∧ (z != []) = !decide (f z = 0) := ⟨congrArg not hz.1, congrArg not hz.2.1, congrArg not hz.2.2⟩
  unfold leastL
  by_cases h1 : f x = 0 <;> by_cases h2 : f y = 0 <;> by_cases h3 : f z = 0 <;> by_cases h4 : f y < f x <;> by_cases h5 : f z < f y <;> by_cases h6 : f z < f x <;> simp [h, hz, hne, h1, h2, h3, h4, h5, h6] <;> omega
theorem meet_parts {a b c x y : Rg} (h : meetL a b = some x) (g : meetL b c = some y) : meetL x c = meetL a y := by
  obtain ⟨h1, h2, h3, h4⟩ := meet_ck h
  obtain ⟨g1, g2, g3, g4⟩ := meet_ck g
  unfold meetL
  rw [h1, h3, g2, g3, h4, g4]
  simp only [max_assoc, least_assoc]

theorem cut_facts {a : Rg} {k at_ : BL} (h1 : ckR a = true) (h2 : ckK at_ = true) (h3 : (at_ == a.1 || !hasR a at_) = false) : (hasR a k == (hasR (a.1, at_) k != hasR (at_, a.2) k)) = true ∧ (!hasR (a.1, at_) k || !hasR (at_, a.2) k) = true := by
  rw [cut_has h1 h2] at h3
  simp only [Bool.or_eq_false_iff, Bool.not_eq_false', Bool.and_eq_false_iff] at h3
  obtain ⟨h4, h5⟩ := h3
  have hl := ckR_len h1
  have hk := ckK_len h2
  have c1 : ckR (a.1, at_) = true := by
    unfold ckR
    simp [h4, hl.1, hk.1]
  have c2 : ckR (at_, a.2) = true := by
    unfold ckR
    rcases h5 with h5 | h5
    · have : a.2 = [] := by simpa [bne] using h5
      simp [hk.1, this]
    · simp [hk.1, hl.2, h5]
  by_cases hk : ckK k = true
  · rw [has_iff h1 hk, has_iff c1 hk, has_iff c2 hk]
    have hne : (at_ == []) = false := by simp [(ckK_len h2).2]
    obtain ⟨f, h0, hz, h⟩ := rank [a.1, a.2, at_, k]
    simp only [List.mem_cons, List.not_mem_nil, or_false, forall_eq_or_imp, forall_eq] at h hz
    have ca := ckR_lt h1
    have e2 : (a.2 != []) = !decide (f a.2 = 0) := congrArg not hz.2.1
    simp only [h, hz, e2] at h4 h5 ca hne ⊢
    clear h hz h0
    simp at h4 h5 ca hne ⊢
    grind
  · simp [hasR, hk]

/-! ### The range of one key -/
theorem top_eq : ∀ {v o : BL}, (∀ c ∈ v, c = 255) → bl o v = false → o.length ≤ v.length → o = v
  | [], [], _, _, _ => rfl
  | [], _ :: _, _, _, h => by simp at h
  | _ :: _, [], _, h, _ => by cases h
  | c :: v, y :: o, hv, h, hl => by
    have hc := hv c (List.mem_cons_self ..)
    subst hc
    have h1 : ¬ (y.toNat < (255 : UInt8).toNat ∨ (y = 255 ∧ bl o v = true)) := fun g => by rw [bl_cons.2 g] at h; cases h
    have h2 : (255 : UInt8).toNat = 255 := rfl
    have h3 := y.toNat_lt
    have hy : y = 255 := UInt8.toNat_inj.1 (by omega)
    subst hy
    rw [top_eq (v := v) (o := o) (fun c hc => hv c (List.mem_cons_of_mem _ hc)) (by
      cases e : bl o v with
      | false => rfl
      | true => exact absurd (.inr ⟨rfl, e⟩) h1) (by simpa using hl)]
theorem between {x : UInt8} (hx : x ≠ 255) {v : BL} (hv : ∀ c ∈ v, c = 255) : ∀ {u o : BL}, bl o (u ++ x :: v) = false → bl o (u ++ [x + 1]) = true → o.length ≤ (u ++ x :: v).length → o = u ++ x :: v
  | [], [], h, _, _ => by cases h
  | [], y :: o, h, g, hl => by
    have hx1 : (x + 1).toNat = x.toNat + 1 := by
      have h1 := x.toNat_lt
      have h2 : x.toNat ≠ 255 := fun e => hx (UInt8.toNat_inj.1 e)
      rw [UInt8.toNat_add]
      have : (1 : UInt8).toNat = 1 := rfl
      omega
    have h1 : ¬ (y.toNat < x.toNat ∨ (y = x ∧ bl o v = true)) := fun g => by rw [List.nil_append, bl_cons.2 g] at h; cases h
    rw [List.nil_append, bl_cons] at g
    rw [bl_nil_r] at g
    have hy : y = x := UInt8.toNat_inj.1 (by
      rcases g with g | ⟨_, g⟩
      · omega
      · cases g)
    subst hy
    rw [top_eq (v := v) (o := o) hv (by
      cases e : bl o v with
      | false => rfl
      | true => exact absurd (.inr ⟨rfl, e⟩) h1) (by simpa using hl)]
    rfl
  | _ :: _, [], h, _, _ => by cases h
  | c :: u, y :: o, h, g, hl => by
    have h1 : ¬ (y.toNat < c.toNat ∨ (y = c ∧ bl o (u ++ x :: v) = true)) := fun g => by rw [List.cons_append, bl_cons.2 g] at h; cases h
    rw [List.cons_append, bl_cons] at g
    have hy : y = c := by
      rcases g with g | g
      · exact absurd (.inl g) h1
      · exact g.1
    subst hy
    have g2 : bl o (u ++ [x + 1]) = true := by
      rcases g with g | g
      · omega
      · exact g.2
    rw [between hx hv (u := u) (o := o) (by
      cases e : bl o (u ++ x :: v) with
      | false => rfl
      | true => exact absurd (.inr ⟨rfl, e⟩) h1) g2 (by simpa using hl)]
    rfl
theorem above {x : UInt8} (hx : x ≠ 255) {v : BL} : ∀ {u : BL}, bl (u ++ x :: v) (u ++ [x + 1]) = true
  | [] => by
    rw [List.nil_append, List.nil_append, bl_cons]
    left
    have h1 := x.toNat_lt
    have h2 : x.toNat ≠ 255 := fun e => hx (UInt8.toNat_inj.1 e)
    rw [UInt8.toNat_add]
    have : (1 : UInt8).toNat = 1 := rfl
    omega
  | c :: u => by
    rw [List.cons_append, List.cons_append, bl_cons]
    exact .inr ⟨rfl, above hx⟩
theorem strip_all {k : BL} : ∀ {n i : Nat}, stripN k n ≤ i → i < n → k.getD i 0 = 255
  | 0, _, _, h => by omega
  | n + 1, i, h, g => by
    unfold stripN at h
    split at h
    · rename_i h2
      by_cases e : i = n
      · subst e; simpa using h2
      · exact strip_all h (by omega)
    · omega
theorem strip_drop {k : BL} (h : k.length = 12) : ∀ c ∈ k.drop (stripN k 12), c = 255 := by
  intro c hc
  obtain ⟨j, hj, e⟩ := List.getElem_of_mem hc
  rw [List.getElem_drop] at e
  simp only [List.length_drop] at hj
  have := strip_all (k := k) (n := 12) (i := stripN k 12 + j) (by omega) (by omega)
  rw [← e]
  simpa [show stripN k 12 + j < k.length by omega] using this
theorem pt_facts {k : BL} (h : ckK k = true) : (ptR k).1 = k ∧ ckR (ptR k) = true ∧ (∀ o, o.length ≤ 12 → bl o k = false → ((ptR k).2 == [] || bl o (ptR k).2) = true → o = k) ∧ ((ptR k).2 == [] || bl k (ptR k).2) = true := by
  obtain ⟨h1, h2⟩ := ckK_len h
  by_cases h4 : k.length < 12
  · have e : ptR k = (k, k ++ [0]) := by unfold ptR; rw [if_pos h4]
    rw [e]
    have h5 : bl k (k ++ [0]) = true := by rw [bl_zero]; simp
    refine ⟨rfl, ?_, ?_, ?_⟩
    · unfold ckR
      simp [h5]
      omega
    · intro o ho g1 g2
      have : (k ++ [0] == []) = false := by simp
      simp only [this, Bool.false_or] at g2
      rw [bl_zero, g1] at g2
      simpa using g2
    · simp only [h5, Bool.or_true]
  · have h6 : k.length = 12 := by omega
    have e : ptR k = match stripN k 12 with
      | 0 => (k, [])
      | n + 1 => (k, k.take n ++ [k.getD n 0 + 1]) := by unfold ptR; rw [if_neg h4]; cases stripN k 12 <;> rfl
    have hd := strip_drop h6
    have hne := fun m => strip_ne (k := k) (m := m) (n := 12)
    have hle := strip_le (k := k) 12
    rw [e]
    generalize stripN k 12 = n at hd hne hle
    cases n with
    | zero =>
      refine ⟨rfl, ?_, ?_, rfl⟩
      · unfold ckR; simp; omega
      · intro o ho g1 _
        exact top_eq (by simpa using hd) g1 (by omega)
    | succ n =>
      have hx := hne n rfl
      have hk : k = k.take n ++ k.getD n 0 :: k.drop (n + 1) := by
        have hn : n < k.length := by omega
        have : k.getD n 0 = k[n] := by simp [hn]
        rw [this, List.getElem_cons_drop, List.take_append_drop]
      have g5 : bl k (k.take n ++ [k.getD n 0 + 1]) = true := by
        have := above hx (u := k.take n) (v := k.drop (n + 1))
        rw [← hk] at this
        exact this
      refine ⟨rfl, ?_, ?_, ?_⟩
      · unfold ckR
        simp only [g5]
        simp
        omega
      · intro o ho g1 g2
        have e0 : (k.take n ++ [k.getD n 0 + 1] == []) = false := by simp
        simp only [e0, Bool.false_or] at g2
        have := between hx hd (u := k.take n) (o := o) (by rw [← hk]; exact g1) g2 (by rw [← hk]; omega)
        rw [← hk] at this
        exact this
      · simp only [g5, Bool.or_true]

end Go.Proofs.Ytcahddipgocpfaa.Ab
