/- Bytes of one's own: copied, appended to, written into. -/
import Derived.Test.YtodedkebnmfodaaFxNumbers
set_option linter.unusedVariables false
set_option linter.unusedSimpArgs false
set_option linter.unusedSectionVars false
namespace Go.Proofs.Ytodedkebnmfodaa.Ab
open Go

theorem bytes_lenV {s : St} {v : Value} {l : List UInt8} (h : bytesOf v s = some l) : lenV v = some l.length := by
  have h2 := bytes_len h (e := 0) (s2 := s)
  unfold bytesOf cellsOf at h
  split at h
  · simp only [Option.bind_some] at h
    cases h
    rfl
  · rw [e_len] at h2
    simp only [lenV]
    simp only [Option.some.injEq, Value.int.injEq, true_and] at h2
    congr 1
    omega
  · cases h
theorem bytes_elems {s : St} {v : Value} {l : List UInt8} (h : bytesOf v s = some l) : elemsOf 1 v s = some (bv l) := by
  unfold bytesOf at h
  simp only [Option.bind_eq_some_iff] at h
  obtain ⟨cs, h1, h2⟩ := h
  rw [elems_of h1, ubs_some h2]
/-- bytes appended to bytes of one's own -/
theorem own_more {N : Nat} {s : St} {x v : Value} {l m : List UInt8} (h : Own N 1 s x (bv l)) (hN : N ≤ s.heap.length) (hv : bytesOf v s = some m) (hb : l.length + m.length ≤ 140737488355328) :
    ∃ v' s', aappend 1 1 x v s = some (v', s') ∧ Own N 1 s' v' (bv (l ++ m)) ∧ Ext N s s' := by
  rw [bv_append]
  exact own_append h hN (by omega) (by omega) (bytes_lenV hv) (bytes_elems hv) (by rw [bv_length]; omega) (by rw [bv_length, bv_length]; omega)
/-- however many they are -/
theorem own_moreW {N : Nat} {s : St} {x v : Value} {l m : List UInt8} (h : Own N 1 s x (bv l)) (hN : N ≤ s.heap.length) (hv : bytesOf v s = some m) (hb : l.length + m.length ≤ 150000000000000) :
    ∃ v' s', aappend 1 1 x v s = some (v', s') ∧ Own N 1 s' v' (bv (l ++ m)) ∧ Ext N s s' := by
  rw [bv_append]
  refine own_appendR h hN (by omega) (by omega) (bytes_lenV hv) (bytes_elems hv) (by rw [bv_length]; omega) fun q hq => .inr ?_
  rw [bv_length, bv_length, Nat.mul_one] at hq
  omega
theorem own_copy {s : St} {v : Value} {m : List UInt8} (hv : bytesOf v s = some m) (hb : m.length ≤ 140737488355328) :
    ∃ v' s', aappend 1 1 (.slice none 0 0) v s = some (v', s') ∧ Own s.heap.length 1 s' v' (bv m) ∧ Ext s.heap.length s s' :=
  own_more (l := []) (Own.nil _ _ _) (Nat.le_refl _) hv (by simpa using hb)
/-- a byte written -/
theorem own_store {N : Nat} {s : St} {v : Value} {l : List UInt8} (h : Own N 1 s v (bv l)) {i : Nat} (hi : i < l.length) (x : UInt8) {k : IntKind} :
    ∃ p s', aindexS 1 v (.int k (i : Int)) = some p ∧ aload false 1 p s = some (.int .u8 ((l[i].toNat : Nat) : Int)) ∧ astore 1 p (.int .u8 ((x.toNat : Nat) : Int)) s = some s' ∧ Own N 1 s' v (bv (l.set i x)) ∧ Ext N s s' := by
  obtain ⟨p, h1, h2⟩ := bytes_at h.bytes hi (k := k)
  rcases h with ⟨_, h3⟩ | ⟨b, len, rfl, h4, h5, h6, h7⟩
  · have : l = [] := bv_inj (m := []) h3
    subst this
    simp at hi
  · rw [bv_length, Nat.mul_one] at h6
    have hp : p = .pointer (some ⟨b, i, none⟩) := by
      have : aindexS 1 (.slice (some ⟨b, 0, none⟩) len len) (.int k (i : Int)) = some (.pointer (some ⟨b, i, none⟩)) := by simp [aindexS]; omega
      rw [this] at h1
      exact (Option.some.inj h1).symm
    subst hp
    have hput : putCells (bv l) i [Value.int .u8 ((x.toNat : Nat) : Int)] = bv (l.set i x) := by
      have e : bv (l.set i x) = (bv l).set i (.int .u8 ((x.toNat : Nat) : Int)) := by simp only [bv, List.map_set]
      rw [e, List.set_eq_take_append_cons_drop, if_pos (by rw [bv_length]; exact hi)]
      simp only [putCells, List.length_cons, List.length_nil, List.append_assoc, List.singleton_append]
    refine ⟨_, s.putB b (.row 1 (bv (l.set i x)) .act), h1, h2, ?_, .inr ⟨b, len, rfl, h4, ?_, by rw [bv_length, List.length_set]; omega, h7⟩, ?_⟩
    · unfold astore
      simp only [cellsV, List.length_cons, List.length_nil, List.all_cons, List.all_nil, isLeaf]
      unfold writeN
      rw [h5]
      simp only [List.length_cons, List.length_nil, bv_length, hput]
      rw [if_pos (by simp), if_pos (by omega)]
    · have hb : b < s.heap.length := (List.getElem?_eq_some_iff.1 h5).1
      simp only [St.putB]
      rw [List.getElem?_set_self hb]
    · refine ⟨by simp [St.putB], fun c hc => ?_⟩
      simp only [St.putB]
      rw [List.getElem?_set_ne (by omega)]
/-- what is said of older bytes stays -/
theorem Ext.old {N : Nat} {s s' : St} (h : Ext N s s') {s0 : St} (h0 : Ext s0.heap.length s0 s) (hN : N = s0.heap.length) {v : Value} {l : List UInt8} (hv : bytesOf v s0 = some l) : bytesOf v s' = some l := by
  subst hN
  exact (h0.trans h).bytes hv
end Go.Proofs.Ytodedkebnmfodaa.Ab
