/- Rows of one's own: parts of an element; what an 'append' leaves as it was. -/
import Derived.Test.YthnjkakmkmoceaaBList2
set_option linter.unusedVariables false
set_option linter.unusedSimpArgs false
set_option linter.unusedSectionVars false
namespace Go.Proofs.Ythnjkakmkmoceaa.Ab
open Go

theorem cells_field {s : St} {n : Nat} {v : Value} {cs : List Value} (h : cellsOf n v s = some cs) {i j : Nat} (hj : j < n) (hi : i * n + n ≤ cs.length) {c : Value} (hc : cs[i * n + j]? = some c) {k : IntKind} : ∃ p, aindexS n v (.int k (i : Int)) = some p ∧ ∃ q, afieldAddr j p = some q ∧ aload false 1 q s = some c := by
  unfold cellsOf at h
  split at h
  · cases h
    simp only [List.length_nil] at hi
    omega
  · rename_i b o len cap
    split at h
    case isFalse => cases h
    obtain ⟨row, h1, h2, h3⟩ := readN_some h
    have hlen : cs.length = len * n := by
      rw [h3]
      simp
      omega
    have hlt : i < len := by
      rcases Nat.lt_or_ge i len with hh | hh
      · exact hh
      · have := Nat.mul_le_mul_right n hh; omega
    refine ⟨.pointer (some ⟨b, o + i * n, none⟩), by simp [aindexS, hlt], .pointer (some ⟨b, o + i * n + j, none⟩), rfl, ?_⟩
    simp only [aload, h1, Option.bind_some, Bool.false_eq_true, if_false]
    rw [h3, List.getElem?_take_of_lt (by omega), List.getElem?_drop] at hc
    rw [Nat.add_assoc]
    exact hc
  · cases h
theorem aappend_keep {n w : Nat} {x y : Value} {s : St} {v' : Value} {t : St} (h : aappend n w x y s = some (v', t)) : Keep (blkOf x) s t ∧ Fresh s x v' := by
  unfold aappend at h
  split at h
  case isFalse => cases h
  simp only [Option.bind_eq_some_iff] at h
  obtain ⟨m, hm, new, hn, h⟩ := h
  split at h
  · split at h
    case isFalse => cases h
    split at h
    · cases h; exact ⟨.refl _ _, .inl rfl⟩
    · cases h
      exact ⟨(Ext.push _ (Nat.le_refl _) _).keep, .inr fun c hc => by cases hc; exact Nat.le_refl _⟩
  · rename_i b o len cap
    split at h
    case isFalse => cases h
    split at h
    · split at h
      · cases h; exact ⟨.refl _ _, .inl rfl⟩
      · simp only [Option.map_eq_some_iff] at h
        obtain ⟨s2, h2, h3⟩ := h
        cases h3
        unfold writeN at h2
        split at h2
        · split at h2
          case isFalse => cases h2
          cases h2
          exact ⟨putB_keep, .inl rfl⟩
        · cases h2
    · split at h
      · split at h
        case isFalse => cases h
        cases h
        refine ⟨putB_keep.trans (Ext.push _ (Nat.le_refl _) _).keep, .inr fun c hc => ?_⟩
        cases hc
        exact Nat.le_refl _
      · cases h
  · cases h
theorem own_addK {N n w : Nat} {s : St} {x : Value} {cells z : List Value} {v : Value} (h : Own N n s x cells) (hN : N ≤ s.heap.length) (hw : 0 < w) (hn : 0 < n) (hn2 : n ≤ 16777216) (hz : z.length = n) (hzl : z.all isLeaf = true) (hv : (cellsV v).length = n) (hvl : (cellsV v).all isLeaf = true)
    (hb : (cells.length + n) * w ≤ 140737488355328 * n) : ∃ r, abuildSl n z 1 [(0, v)] s = some r ∧ ∃ v' t, aappend n w x r.1 r.2 = some (v', t) ∧ Own N n t v' (cells ++ cellsV v) ∧ Keep (blkOf x) s t ∧ Fresh s x v' := by
  obtain ⟨r, h1, v', t, h2, h3, h4⟩ := own_add h hN hw hn hn2 hz hzl hv hvl hb
  obtain ⟨k1, k2⟩ := aappend_keep h2
  unfold abuildSl at h1
  split at h1
  case isFalse => cases h1
  simp only [Option.map_eq_some_iff] at h1
  obtain ⟨cs, _, h5⟩ := h1
  subst h5
  refine ⟨_, by unfold abuildSl; rw [if_pos ‹_›]; simp only [‹afill _ _ _ = some cs›, Option.map_some], v', t, h2, h3, (Ext.push _ (Nat.le_refl _) _).keep.trans k1, ?_⟩
  rcases k2 with k2 | k2
  · exact .inl k2
  · exact .inr fun c hc => by have := k2 c hc; rw [push_len] at this; omega
theorem Own.keep {N n : Nat} {B : Option Nat} {s t : St} {v : Value} {cs : List Value} (h : Own N n s v cs) (k : Keep B s t) (hb : ∀ c, blkOf v = some c → B ≠ some c) : Own N n t v cs := by
  rcases h with h | ⟨b, len, rfl, h1, h2, h3⟩
  · exact .inl h
  · exact .inr ⟨b, len, rfl, h1, by rw [k.2 b (List.getElem?_eq_some_iff.1 h2).1 (hb b rfl)]; exact h2, h3⟩
theorem Own.blk {N n : Nat} {s : St} {v : Value} {cs : List Value} (h : Own N n s v cs) : ∀ c, blkOf v = some c → N ≤ c ∧ c < s.heap.length := by
  intro c hc
  rcases h with ⟨rfl, _⟩ | ⟨b, len, rfl, h1, h2, h3⟩
  · cases hc
  · cases hc; exact ⟨h1, (List.getElem?_eq_some_iff.1 h2).1⟩
theorem Own.notup {N n : Nat} {s : St} {v : Value} {cs : List Value} (h : Own N n s v cs) : noTup v = true := by
  rcases h with ⟨rfl, _⟩ | ⟨b, len, rfl, _⟩ <;> rfl
/-- rows of unlike elements are unlike -/
theorem own_apart {α : Type} {C : Cod α} {N M n : Nat} {s : St} {v w : Value} {l : List α} {cs : List Value} (h : OwnC C N s v l) (g : Own M n s w cs) (hn : n ≠ C.n) : ∀ c, blkOf v = some c → blkOf w ≠ some c := by
  intro c hc hd
  rcases h with ⟨rfl, _⟩ | ⟨b, cap, rest, rfl, _, h2, _⟩
  · cases hc
  · cases hc
    rcases g with ⟨rfl, _⟩ | ⟨b2, len, rfl, _, g2, _⟩
    · cases hd
    · cases hd
      rw [h2] at g2
      cases g2
      exact hn rfl

theorem own_add1R {α : Type} {C : Cod α} {N w : Nat} {s : St} {x : Value} {l : List α} {a : α} {z : List Value} {v : Value} (h : Own N C.n s x (encL C l)) (hN : N ≤ s.heap.length) (hw : 0 < w) (hn2 : C.n ≤ 16777216) (hz : z.length = C.n) (hzl : z.all isLeaf = true) (hv : cellsV v = C.enc a) (hb : roomA (l.length + 1) w) {n : Nat} (hn : n = C.n) :
    ∃ r, abuildSl n z 1 [(0, v)] s = some r ∧ s.heap.length ≤ r.2.heap.length ∧ ∃ v' s', aappend n w x r.1 r.2 = some (v', s') ∧ Own N C.n s' v' (encL C (l ++ [a])) ∧ Ext N s s' ∧ r.2.heap.length ≤ s'.heap.length := by
  subst hn
  have hvl : (cellsV v).length = C.n := by rw [hv, C.len]
  have hvf : (cellsV v).all isLeaf = true := by rw [hv]; exact leaf_isLeaf (C.leaf a)
  have h1 : abuildSl C.n z 1 [(0, v)] s = some (.slice (some ⟨s.heap.length, 0, none⟩) 1 1, s.push (.row C.n (cellsV v) .act)) := by
    have hrep : repCells z 1 = z := by simp [repCells]
    have hput : putCells z 0 (cellsV v) = cellsV v := by simp [putCells, hvl, hz]
    unfold abuildSl
    rw [if_pos ⟨by omega, hz, hzl⟩]
    simp only [hrep, afill, placeA, Nat.zero_mul]
    rw [if_pos ⟨hvl, by omega, hvf⟩, hput]
    rfl
  have hE : Ext N s (s.push (.row C.n (cellsV v) .act)) := .push N hN _
  have hO : Own N C.n (s.push (.row C.n (cellsV v) .act)) x (encL C l) := by
    rcases h with h | ⟨b, len, e1, e2, e3, e4, e5⟩
    · exact .inl h
    · exact .inr ⟨b, len, e1, e2, by rw [push_old (List.getElem?_eq_some_iff.1 e3).1]; exact e3, e4, e5⟩
  have hy : listOf C (.slice (some ⟨s.heap.length, 0, none⟩) 1 1) (s.push (.row C.n (cellsV v) .act)) = some [a] := by
    refine (listOf_iff C).2 ?_
    simp only [cellsOf, Nat.le_refl, if_true, readN, Ab.readRow, push_get, Option.bind_some]
    rw [if_pos (by omega), List.drop_zero, Nat.one_mul, ← hvl, List.take_length, hv]
    simp [encL]
  have hq : ∀ q, q * C.n = (encL C l).length + (encL C [a]).length → roomA q w := by
    intro q hq
    rw [encL_len, encL_len, ← Nat.add_mul] at hq
    rw [Nat.eq_of_mul_eq_mul_right C.pos hq]
    exact hb
  obtain ⟨v', s', g1, g2, g3⟩ := own_appendR hO (by rw [push_len]; omega) hw C.pos (list_lenV hy) (list_elems hy) (encL_len C [a]) hq
  rw [← encL_append] at g2
  exact ⟨_, h1, by simp [St.push], v', s', g1, g2, hE.trans g3, g3.1⟩

end Go.Proofs.Ythnjkakmkmoceaa.Ab
