/- Strings have ranks: what is plain of keys and ranges. -/
import Derived.Test.YtcahddipgocpfaaSpLive
set_option linter.unusedVariables false
set_option linter.unusedSimpArgs false
set_option linter.unusedSectionVars false
namespace Go.Proofs.Ytcahddipgocpfaa.Ab
open Go

theorem cnt_lt {p q : BL → Bool} {a : BL} (h : ∀ x, p x = true → q x = true) (hq : q a = true) (hp : p a = false) : ∀ {L : List BL}, a ∈ L → (L.filter p).length < (L.filter q).length
  | [], h => by cases h
  | x :: L, hm => by
    have mono : ∀ L : List BL, (L.filter p).length ≤ (L.filter q).length := by
      intro L
      induction L with
      | nil => simp
      | cons y L ih =>
        simp only [List.filter_cons]
        cases h1 : p y
        · cases h2 : q y <;> simp <;> omega
        · rw [h y h1]; simp; omega
    simp only [List.filter_cons]
    by_cases e : a = x
    · subst e
      rw [hq, hp]
      have := mono L
      simp; omega
    · have hm2 : a ∈ L := by
        rcases List.mem_cons.1 hm with h | h
        · exact absurd h e
        · exact h
      have := cnt_lt h hq hp hm2
      cases h1 : p x
      · cases h2 : q x <;> simp <;> omega
      · rw [h x h1]; simp; omega
def rk (L : List BL) (x : BL) : Nat := (([] :: L).filter fun y => bl y x).length
theorem rk_lt {L : List BL} {a b : BL} (ha : a ∈ [] :: L) (h : bl a b = true) : rk L a < rk L b :=
  cnt_lt (p := fun y => bl y a) (q := fun y => bl y b) (fun x hx => bl_trans hx h) h (bl_irrefl a) ha
theorem rk_nil {L : List BL} : rk L [] = 0 := by simp [rk, bl_nil_r]
/-- any strings, as whole numbers -/
theorem rank (L : List BL) : ∃ f : BL → Nat, f [] = 0 ∧ (∀ a ∈ L, (a == []) = decide (f a = 0)) ∧ ∀ a ∈ L, ∀ b ∈ L, bl a b = decide (f a < f b) ∧ (a == b) = decide (f a = f b) := by
  refine ⟨rk L, rk_nil, ?_, ?_⟩
  · intro a ha
    by_cases e : a = []
    · subst e; simp [rk_nil]
    · have := rk_lt (L := L) (List.mem_cons_self ..) (bl_nil_l e)
      have e2 : (a == []) = false := by simp [e]
      rw [e2]
      symm
      rw [decide_eq_false_iff_not]
      omega
  · intro a ha b hb
    have ha := List.mem_cons_of_mem [] ha
    have hb := List.mem_cons_of_mem [] hb
    by_cases e : a = b
    · subst e
      simp [bl_irrefl]
    · have e2 : (a == b) = false := by simp [e]
      rw [e2]
      rcases bl_total e with h | h
      · have := rk_lt ha h
        rw [h]
        constructor
        · symm; rw [decide_eq_true_eq]; exact this
        · symm; rw [decide_eq_false_iff_not]; omega
      · have := rk_lt hb h
        rw [bl_asymm h]
        constructor
        · symm; rw [decide_eq_false_iff_not]; omega
        · symm; rw [decide_eq_false_iff_not]; omega

theorem meet_comm (a b : Rg) : meetL a b = meetL b a := by
  obtain ⟨a1, a2⟩ := a
  obtain ⟨b1, b2⟩ := b
  have e1 : maxL a1 b1 = maxL b1 a1 := by
    unfold maxL
    by_cases e : a1 = b1
    · rw [e]
    · rcases bl_total e with h | h <;> simp [h, bl_asymm h]
  have e2 : leastL a2 b2 = leastL b2 a2 := by
    unfold leastL
    by_cases e : a2 = b2
    · rw [e]
    · rcases bl_total e with h | h
      · cases h1 : (a2 == []) <;> cases h2 : (b2 == []) <;> simp_all [bl_asymm h]
      · cases h1 : (a2 == []) <;> cases h2 : (b2 == []) <;> simp_all [bl_asymm h]
  unfold meetL
  simp only [e1, e2, Bool.and_comm (ckR (a1, a2))]

def lst (x y : Nat) : Nat := if x = 0 ∨ (y ≠ 0 ∧ y < x) then y else x
theorem f_max {f : BL → Nat} {a b : BL} (h : bl a b = decide (f a < f b)) : f (maxL a b) = if f a < f b then f b else f a := by
  unfold maxL
  rw [h]
  by_cases g : f a < f b <;> simp [g]
theorem f_least {f : BL → Nat} {a b : BL} (h : bl b a = decide (f b < f a)) (ha : (a == []) = decide (f a = 0)) (hb : (b == []) = decide (f b = 0)) : f (leastL a b) = lst (f a) (f b) := by
  unfold leastL lst
  rw [h, ha]
  have e : (b != []) = !decide (f b = 0) := by rw [← hb]; rfl
  rw [e]
  by_cases g : f b < f a <;> by_cases g1 : f a = 0 <;> by_cases g2 : f b = 0 <;> simp [g, g1, g2]
theorem has_iff {r : Rg} {k : BL} (hr : ckR r = true) (hk : ckK k = true) : hasR r k = (!bl k r.1 && (r.2 == [] || bl k r.2)) := by
  unfold hasR; rw [hr, hk]; rfl
theorem meet_iff {a b : Rg} (ha : ckR a = true) (hb : ckR b = true) : meetL a b = if (leastL a.2 b.2 == [] || bl (maxL a.1 b.1) (leastL a.2 b.2)) = true then some (maxL a.1 b.1, leastL a.2 b.2) else none := by
  unfold meetL
  rw [ha, hb, ckR_meet ha hb]
  rfl
theorem ckR_lt {r : Rg} (h : ckR r = true) : (r.2 == [] || bl r.1 r.2) = true := by
  unfold ckR at h
  simp only [Bool.and_eq_true] at h
  exact h.2
theorem meet_ck {a b m : Rg} (h : meetL a b = some m) : ckR a = true ∧ ckR b = true ∧ ckR m = true ∧ m = (maxL a.1 b.1, leastL a.2 b.2) := by
  unfold meetL at h
  split at h
  · rename_i h2
    simp only [Bool.and_eq_true] at h2
    cases h
    exact ⟨h2.1.1, h2.1.2, h2.2, rfl⟩
  · cases h

theorem both_has (a b : Rg) (k : BL) : (hasR a k && hasR b k) = ((meetL a b).isSome && hasR (mR (meetL a b)) k) := by
  by_cases ha : ckR a = true
  · by_cases hb : ckR b = true
    · by_cases hk : ckK k = true
      · have ca := ckR_lt ha
        have cb := ckR_lt hb
        have hm := meet_iff ha hb
        have hx : meetL a b ≠ none → ckR (maxL a.1 b.1, leastL a.2 b.2) = true := fun h => by
          cases e : meetL a b with
          | none => exact absurd e h
          | some m =>
            obtain ⟨_, _, h3, h4⟩ := meet_ck e
            rw [← h4]; exact h3
        obtain ⟨f, h0, hz, h⟩ := rank [a.1, a.2, b.1, b.2, k, maxL a.1 b.1, leastL a.2 b.2]
        simp only [List.mem_cons, List.not_mem_nil, or_false, forall_eq_or_imp, forall_eq] at h hz
        have fm : f (maxL a.1 b.1) = if f a.1 < f b.1 then f b.1 else f a.1 := f_max (by simp only [h])
        have fl : f (leastL a.2 b.2) = lst (f a.2) (f b.2) := f_least (by simp only [h]) (by simp only [hz]) (by simp only [hz])
        rw [has_iff ha hk, has_iff hb hk]
        cases e : meetL a b with
        | none =>
          rw [e] at hm
          simp only [h, hz, fm, fl] at hm ca cb ⊢
          unfold lst at hm
          clear h hz hx h0
          simp at hm ca cb ⊢
          grind
        | some m =>
          have h3 := hx (by rw [e]; simp)
          obtain ⟨_, _, _, h4⟩ := meet_ck e
          rw [e] at hm
          simp only [mR, h4, has_iff h3 hk]
          simp only [h, hz, fm, fl] at ca cb hm ⊢
          unfold lst at hm ⊢
          clear h hz hx h0
          simp at hm ca cb ⊢
          grind
      · simp [hasR, hk]
    · simp [hb, hasR, meetL]
  · simp [ha, hasR, meetL]

end Go.Proofs.Ytcahddipgocpfaa.Ab
