/- Pivots: keys in order. -/
import Derived.Test.YtamaapapaiopiaaOpLists
set_option linter.unusedVariables false
set_option linter.unusedSimpArgs false
set_option linter.unusedSectionVars false
namespace Go.Proofs.Ytamaapapaiopiaa.Ab
open Go

def okP : Option BL → List BL → Bool
  | _, [] => true
  | none, k :: l => ckK k && okP (some k) l
  | some p, k :: l => (ckK k && bl p k) && okP (some k) l
def lowP (ps : List BL) : Nat → BL
  | 0 => []
  | i + 1 => ps.getD i []
def rgI (ps : List BL) (i : Nat) : Rg := (lowP ps i, ps.getD i [])
theorem okP_get : ∀ {l : List BL} {p : Option BL}, okP p l = true → ∀ (i : Nat) (hi : i < l.length), ckK l[i] = true ∧ (∀ q, (match i with | 0 => p | j + 1 => l[j]?) = some q → bl q l[i] = true)
  | [], _, _, i, hi => by simp at hi
  | k :: l, p, h, i, hi => by
    have hk : ckK k = true ∧ okP (some k) l = true ∧ ∀ q, p = some q → bl q k = true := by
      cases p with
      | none => simp only [okP, Bool.and_eq_true] at h; exact ⟨h.1, h.2, fun q hq => by cases hq⟩
      | some a => simp only [okP, Bool.and_eq_true] at h; exact ⟨h.1.1, h.2, fun q hq => by cases hq; exact h.1.2⟩
    cases i with
    | zero => exact ⟨hk.1, hk.2.2⟩
    | succ j =>
      obtain ⟨g1, g2⟩ := okP_get hk.2.1 j (by simpa using hi)
      refine ⟨by simpa using g1, fun q hq => ?_⟩
      simp only [List.getElem_cons_succ]
      refine g2 q ?_
      cases j with
      | zero => simpa using hq
      | succ j => simpa using hq
theorem ck_short {k : BL} (h : ckK k = true) : k ≠ [] ∧ k.length ≤ 12 := by
  unfold ckK at h
  simp at h
  exact h
def strC : Cod BL where
  n := 1
  enc k := [sv k]
  pos := by decide
  len _ := rfl
  inj a b h := by
    simp only [List.cons.injEq, and_true] at h
    exact sv_inj h
  leaf _ := rfl
theorem str_at {v : Value} {s : St} {l : List BL} (h : listOf strC v s = some l) {i : Nat} (hi : i < l.length) : ∃ p, aindexS 1 v (.int .i64 (i : Int)) = some p ∧ aload false 1 p s = some (sv l[i]) := by
  obtain ⟨p, h1, q, h2, h3⟩ := list_field h hi (j := 0) (c := sv l[i]) rfl (k := .i64) (n := 1) rfl
  refine ⟨p, h1, ?_⟩
  have : q = p := by
    unfold afieldAddr at h2
    split at h2
    · cases h2; rfl
    · cases h2
  rw [← this]
  exact h3
def prevS (l : List BL) : Nat → Option BL
  | 0 => none
  | i + 1 => l[i]?
theorem okP_cons (p : Option BL) (k : BL) (l : List BL) : okP p (k :: l) = ((ckK k && (match p with | none => true | some q => bl q k)) && okP (some k) l) := by
  cases p <;> simp [okP]

end Go.Proofs.Ytamaapapaiopiaa.Ab
