/- Lists of plain things, in a slice: of so many cells each. -/
import Derived.Test.YtamaapapaiopiaaBLaw
set_option linter.unusedVariables false
set_option linter.unusedSimpArgs false
set_option linter.unusedSectionVars false
namespace Go.Proofs.Ytamaapapaiopiaa.Ab
open Go

/-- how a thing lies in cells -/
structure Cod (α : Type) where
  n : Nat
  enc : α → List Value
  pos : 0 < n
  len : ∀ a, (enc a).length = n
  inj : ∀ a b, enc a = enc b → a = b
  leaf : ∀ a, (enc a).all leafOk = true

section
variable {α : Type} (C : Cod α)
def encL (l : List α) : List Value := l.flatMap C.enc
theorem encL_nil : encL C [] = [] := rfl
theorem encL_cons (a : α) (l : List α) : encL C (a :: l) = C.enc a ++ encL C l := rfl
theorem encL_append (l m : List α) : encL C (l ++ m) = encL C l ++ encL C m := by simp [encL]
theorem encL_len : ∀ (l : List α), (encL C l).length = l.length * C.n
  | [] => by simp [encL]
  | a :: l => by rw [encL_cons, List.length_append, C.len, encL_len l, List.length_cons, Nat.add_mul]; omega
theorem encL_leaf (l : List α) : (encL C l).all leafOk = true := by
  rw [encL, List.all_flatMap, List.all_eq_true]
  intro a _
  exact C.leaf a
theorem encL_drop : ∀ (l : List α) (i : Nat), (encL C l).drop (i * C.n) = encL C (l.drop i)
  | l, 0 => by simp
  | [], i + 1 => by simp [encL]
  | a :: l, i + 1 => by
    rw [encL_cons, show (i + 1) * C.n = C.n + i * C.n by rw [Nat.add_mul]; omega, ← List.drop_drop, List.drop_left' (C.len a), encL_drop l i, List.drop_succ_cons]
theorem encL_take : ∀ (l : List α) (i : Nat), (encL C l).take (i * C.n) = encL C (l.take i)
  | l, 0 => by simp [encL]
  | [], i + 1 => by simp [encL]
  | a :: l, i + 1 => by
    rw [encL_cons, show (i + 1) * C.n = C.n + i * C.n by rw [Nat.add_mul]; omega, List.take_add, List.take_left' (C.len a), List.drop_left' (C.len a), encL_take l i, List.take_succ_cons, encL_cons]
theorem encL_inj : ∀ {l m : List α}, encL C l = encL C m → l = m
  | [], [], _ => rfl
  | [], a :: m, h => by
    have h1 := congrArg List.length h
    rw [encL_len, encL_len, List.length_cons, Nat.add_mul] at h1
    have := C.pos
    simp only [List.length_nil, Nat.zero_mul] at h1
    omega
  | a :: l, [], h => by
    have h1 := congrArg List.length h
    rw [encL_len, encL_len, List.length_cons, Nat.add_mul] at h1
    have := C.pos
    simp only [List.length_nil, Nat.zero_mul] at h1
    omega
  | a :: l, b :: m, h => by
    rw [encL_cons, encL_cons] at h
    have h1 := (List.append_inj h (by rw [C.len, C.len])).1
    have h2 := (List.append_inj h (by rw [C.len, C.len])).2
    rw [C.inj _ _ h1, encL_inj h2]

open Classical in
noncomputable def decL (cs : List Value) : Option (List α) := if h : ∃ l, cs = encL C l then some (Classical.choose h) else none
theorem decL_enc (l : List α) : decL C (encL C l) = some l := by
  unfold decL
  have h : ∃ m, encL C l = encL C m := ⟨l, rfl⟩
  rw [dif_pos h]
  congr 1
  exact (encL_inj C (Classical.choose_spec h)).symm
theorem decL_some {cs : List Value} {l : List α} (h : decL C cs = some l) : cs = encL C l := by
  unfold decL at h
  split at h
  · rename_i hh
    cases h
    exact Classical.choose_spec hh
  · cases h

/-- what a slice holds -/
noncomputable def listOf (v : Value) (s : St) : Option (List α) := (cellsOf C.n v s).bind (decL C)
theorem listOf_iff {v : Value} {s : St} {l : List α} : listOf C v s = some l ↔ cellsOf C.n v s = some (encL C l) := by
  unfold listOf
  constructor
  · intro h
    simp only [Option.bind_eq_some_iff] at h
    obtain ⟨cs, h1, h2⟩ := h
    rw [h1, decL_some C h2]
  · intro h
    rw [h]
    exact decL_enc C l
variable {C}
theorem list_frz {v : Value} {s : St} : listOf C v (frzS s) = listOf C v s := by unfold listOf; rw [cellsOf_frz]
theorem list_shape {v : Value} {s : St} {l : List α} (h : listOf C v s = some l) : ∃ a cap, v = .slice a l.length cap := by
  obtain ⟨a, len, cap, rfl, h2⟩ := cellsOf_len ((listOf_iff C).1 h)
  rw [encL_len] at h2
  have := C.pos
  have : len = l.length := (Nat.eq_of_mul_eq_mul_right this h2).symm
  subst this
  exact ⟨a, cap, rfl⟩
theorem list_len {v : Value} {s s2 : St} {l : List α} (h : listOf C v s = some l) {e : TypeId} : alenV (.slice e) v s2 = some (.int .i64 ((l.length : Nat) : Int)) := by
  obtain ⟨a, cap, rfl⟩ := list_shape h
  rfl
theorem list_lenV {v : Value} {s : St} {l : List α} (h : listOf C v s = some l) : lenV v = some l.length := by
  obtain ⟨a, cap, rfl⟩ := list_shape h
  rfl
theorem list_elems {v : Value} {s : St} {l : List α} (h : listOf C v s = some l) : elemsOf C.n v s = some (encL C l) := elems_of ((listOf_iff C).1 h)
theorem list_nil (s : St) : listOf C (.slice none 0 0) s = some [] := (listOf_iff C).2 rfl
theorem list_ext {s s' : St} (h : Ext s.heap.length s s') {v : Value} {l : List α} (hv : listOf C v s = some l) : listOf C v s' = some l :=
  (listOf_iff C).2 (h.cells ((listOf_iff C).1 hv))
/-- an element -/
theorem list_at {v : Value} {s : St} {l : List α} (h : listOf C v s = some l) {i : Nat} (hi : i < l.length) {k : IntKind} {n : Nat} (hn : n = C.n) : ∃ p, aindexS n v (.int k (i : Int)) = some p ∧ aload true n p s = some (.agg (C.enc l[i]).toArray) := by
  subst hn
  have hc := (listOf_iff C).1 h
  have hle : (i + 1) * C.n ≤ (encL C l).length := by rw [encL_len]; exact Nat.mul_le_mul_right _ hi
  obtain ⟨p, h1, _, h3⟩ := cells_at hc C.pos hle (k := k)
  refine ⟨p, h1, ?_⟩
  rw [h3]
  congr 2
  rw [encL_drop]
  have : l.drop i = l[i] :: l.drop (i + 1) := by rw [List.getElem_cons_drop]
  rw [this, encL_cons, List.take_left' (C.len _)]
/-- a part of an element -/
theorem list_field {v : Value} {s : St} {l : List α} (h : listOf C v s = some l) {i j : Nat} (hi : i < l.length) {c : Value} (hc : (C.enc l[i])[j]? = some c) {k : IntKind} {n : Nat} (hn : n = C.n) : ∃ p, aindexS n v (.int k (i : Int)) = some p ∧ ∃ q, afieldAddr j p = some q ∧ aload false 1 q s = some c := by
  subst hn
  have hcs := (listOf_iff C).1 h
  unfold cellsOf at hcs
  split at hcs
  · have := congrArg (Option.map List.length) hcs
    simp only [Option.map_some, List.length_nil, encL_len, Option.some.injEq] at this
    have h2 := C.pos
    have h3 : 0 < l.length * C.n := Nat.mul_pos (by omega) h2
    omega
  · rename_i b o len cap
    split at hcs
    case isFalse => cases hcs
    obtain ⟨row, h1, h2, h3⟩ := readN_some hcs
    have hlen : len = l.length := by
      have := congrArg List.length h3
      rw [encL_len] at this
      simp at this
      have h4 := C.pos
      have h5 : len * C.n = l.length * C.n := by omega
      exact Nat.eq_of_mul_eq_mul_right h4 h5
    subst hlen
    refine ⟨.pointer (some ⟨b, o + i * C.n, none⟩), by simp [aindexS, hi], .pointer (some ⟨b, o + i * C.n + j, none⟩), rfl, ?_⟩
    simp only [aload, h1, Option.bind_some, Bool.false_eq_true, if_false]
    have hj : j < C.n := by
      have := (List.getElem?_eq_some_iff.1 hc).1
      rw [C.len] at this
      exact this
    have h4 : (encL C l)[i * C.n + j]? = some c := by
      rw [← List.getElem?_drop, encL_drop]
      have : l.drop i = l[i] :: l.drop (i + 1) := by rw [List.getElem_cons_drop]
      rw [this, encL_cons, List.getElem?_append_left (by rw [C.len]; exact hj)]
      exact hc
    have h6 : i * C.n + C.n ≤ l.length * C.n := by rw [← Nat.succ_mul]; exact Nat.mul_le_mul_right _ hi
    rw [h3, List.getElem?_take_of_lt (by omega), List.getElem?_drop] at h4
    rw [Nat.add_assoc]
    exact h4
  · cases hcs
/-- a part of a list -/
theorem list_slice {v : Value} {s : St} {l : List α} (h : listOf C v s = some l) {lo hi mx : Option Value} {i j : Nat} (hlo : abound 0 lo = some i) (hhi : abound l.length hi = some j) (hij : i ≤ j) (hj : j ≤ l.length)
    (hmx : mx = none ∨ (hi.isSome = true ∧ ∀ c, abound c mx = some j)) {n : Nat} (hn : n = C.n) : ∃ u, asliceV n v lo hi mx = some u ∧ listOf C u s = some ((l.drop i).take (j - i)) := by
  subst hn
  obtain ⟨a, cap, rfl⟩ := list_shape h
  obtain ⟨u, h1, h2⟩ := cells_slice ((listOf_iff C).1 h) hlo hhi hij hj hmx
  refine ⟨u, h1, (listOf_iff C).2 ?_⟩
  rw [h2, encL_drop, encL_take]

/-! ### Lists of one's own -/
/-- in a row of one's own, from block N on, with room behind -/
def OwnC (C : Cod α) (N : Nat) (s : St) (v : Value) (l : List α) : Prop :=
  (v = .slice none 0 0 ∧ l = []) ∨ ∃ b cap rest, v = .slice (some ⟨b, 0, none⟩) l.length cap ∧ N ≤ b ∧ s.heap[b]? = some (.row C.n (encL C l ++ rest) .act) ∧ (encL C l ++ rest).length = cap * C.n ∧ rest.all leafOk = true
theorem OwnC.cap_le {N : Nat} {s : St} {b len cap : Nat} {rest : List Value} {l : List α} (h : (encL C l ++ rest).length = cap * C.n) : l.length ≤ cap := by
  rw [List.length_append, encL_len] at h
  have := C.pos
  exact Nat.le_of_mul_le_mul_right (by omega : l.length * C.n ≤ cap * C.n) this
theorem OwnC.list {N : Nat} {s : St} {v : Value} {l : List α} (h : OwnC C N s v l) : listOf C v s = some l := by
  rcases h with ⟨rfl, rfl⟩ | ⟨b, cap, rest, rfl, h1, h2, h3, _⟩
  · exact list_nil s
  · refine (listOf_iff C).2 ?_
    have hle := OwnC.cap_le (N := N) (s := s) (b := b) (len := l.length) h3
    simp only [cellsOf, if_pos hle]
    unfold readN Ab.readRow
    rw [h2]
    simp only [Option.bind_some]
    have e : (encL C l).length = l.length * C.n := encL_len C l
    rw [if_pos (by rw [List.length_append]; omega), List.drop_zero, ← e, List.take_left]
theorem Own.toC {N : Nat} {s : St} {v : Value} {l : List α} (h : Own N C.n s v (encL C l)) : OwnC C N s v l := by
  rcases h with ⟨rfl, h2⟩ | ⟨b, len, rfl, h1, h2, h3, h4⟩
  · exact .inl ⟨rfl, encL_inj C (m := []) h2⟩
  · rw [encL_len] at h3
    have : l.length = len := Nat.eq_of_mul_eq_mul_right C.pos h3
    subst this
    exact .inr ⟨b, l.length, [], rfl, h1, by rw [List.append_nil]; exact h2, by rw [List.append_nil, encL_len], rfl⟩
theorem own_list {N : Nat} {s : St} {v : Value} {l : List α} (h : Own N C.n s v (encL C l)) : listOf C v s = some l := (listOf_iff C).2 h.cells
theorem leaf_isLeaf {l : List Value} (h : l.all leafOk = true) : l.all isLeaf = true := by
  rw [List.all_eq_true] at h ⊢
  intro v hv
  have := h v hv
  cases v <;> first | rfl | (simp [leafOk] at this)
/-- a list appended to one's own -/
theorem own_addL {N w : Nat} {s : St} {x y : Value} {l m : List α} (h : Own N C.n s x (encL C l)) (hN : N ≤ s.heap.length) (hw : 0 < w) (hy : listOf C y s = some m) (hb : (l.length + m.length) * w ≤ 140737488355328) {n : Nat} (hn : n = C.n) :
    ∃ v' s', aappend n w x y s = some (v', s') ∧ Own N C.n s' v' (encL C (l ++ m)) ∧ Ext N s s' := by
  subst hn
  rw [encL_append]
  refine own_append h hN hw C.pos (list_lenV hy) (list_elems hy) (encL_len C m) ?_
  rw [encL_len, encL_len, ← Nat.add_mul, Nat.mul_right_comm]
  exact Nat.mul_le_mul_right _ hb
/-- one more -/
theorem own_add1 {N w : Nat} {s : St} {x : Value} {l : List α} {a : α} {z : List Value} {v : Value} (h : Own N C.n s x (encL C l)) (hN : N ≤ s.heap.length) (hw : 0 < w) (hn2 : C.n ≤ 16777216) (hz : z.length = C.n) (hzl : z.all isLeaf = true) (hv : cellsV v = C.enc a) (hb : (l.length + 1) * w ≤ 140737488355328) {n : Nat} (hn : n = C.n) :
    ∃ r, abuildSl n z 1 [(0, v)] s = some r ∧ s.heap.length ≤ r.2.heap.length ∧ ∃ v' s', aappend n w x r.1 r.2 = some (v', s') ∧ Own N C.n s' v' (encL C (l ++ [a])) ∧ Ext N s s' ∧ r.2.heap.length ≤ s'.heap.length := by
  subst hn
  have hvl : (cellsV v).length = C.n := by rw [hv, C.len]
  have hvf : (cellsV v).all isLeaf = true := by rw [hv]; exact leaf_isLeaf (C.leaf a)
  have h1 : abuildSl C.n z 1 [(0, v)] s = some (.slice (some ⟨s.heap.length, 0, none⟩) 1 1, s.push (.row C.n (cellsV v) .act)) := by
    have hrep : repCells z 1 = z := by simp [repCells]
    have hput : putCells z 0 (cellsV v) = cellsV v := by simp [putCells, hvl, hz]
    unfold abuildSl
    rw [if_pos ⟨by omega, hz, hzl⟩]
    simp only [hrep, afill, placeA, Nat.zero_mul]
    rw [if_pos ⟨hvl, by omega, hvf⟩, hput]
    rfl
  have hE : Ext N s (s.push (.row C.n (cellsV v) .act)) := .push N hN _
  have hO : Own N C.n (s.push (.row C.n (cellsV v) .act)) x (encL C l) := by
    rcases h with h | ⟨b, len, e1, e2, e3, e4, e5⟩
    · exact .inl h
    · exact .inr ⟨b, len, e1, e2, by rw [push_old (List.getElem?_eq_some_iff.1 e3).1]; exact e3, e4, e5⟩
  have hy : listOf C (.slice (some ⟨s.heap.length, 0, none⟩) 1 1) (s.push (.row C.n (cellsV v) .act)) = some [a] := by
    refine (listOf_iff C).2 ?_
    simp only [cellsOf, Nat.le_refl, if_true, readN, Ab.readRow, push_get, Option.bind_some]
    rw [if_pos (by omega), List.drop_zero, Nat.one_mul, ← hvl, List.take_length, hv]
    simp [encL]
  obtain ⟨v', s', g1, g2, g3⟩ := own_addL hO (by rw [push_len]; omega) hw hy hb rfl
  exact ⟨_, h1, by simp [St.push], v', s', g1, g2, hE.trans g3, g3.1⟩
end

end Go.Proofs.Ytamaapapaiopiaa.Ab
