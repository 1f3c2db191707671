/- A law's arguments in memory: lists of plain things. -/
import Derived.Test.YtamaapapaiopiaaBRow
import Derived.Test.YtamaapapaiopiaaBList
import Derived.ChangeArms
import Derived.DataReads
import Derived.SizedLaws
set_option linter.unusedVariables false
set_option linter.unusedSimpArgs false
set_option linter.unusedSectionVars false
namespace Go.Proofs.Ytamaapapaiopiaa.Ab
open Go Go.ChangeShapes Go.WideShapes

theorem choose_list {α : Type} {p : Nat → α → Prop} : ∀ n, (∀ i, i < n → ∃ a, p i a) → ∃ l : List α, l.length = n ∧ ∀ (i : Nat) (h : i < l.length), p i l[i]
  | 0, _ => ⟨[], rfl, fun i h => by simp at h⟩
  | n + 1, h => by
    obtain ⟨l, h1, h2⟩ := choose_list n fun i hi => h i (by omega)
    obtain ⟨a, ha⟩ := h n (by omega)
    refine ⟨l ++ [a], by simp [h1], fun i hi => ?_⟩
    by_cases c : i < l.length
    · rw [List.getElem_append_left c]
      exact h2 i c
    · have : i = n := by simp at hi; omega
      subst this
      rw [List.getElem_append_right (by omega)]
      simpa [h1] using ha
theorem enc_at {α : Type} {C : Cod α} {l : List α} {q j : Nat} (hq : q < l.length) (hj : j < C.n) : (encL C l)[q * C.n + j]? = (C.enc l[q])[j]? := by
  rw [← List.getElem?_drop, encL_drop]
  have : l.drop q = l[q] :: l.drop (q + 1) := by rw [List.getElem_cons_drop]
  rw [this, encL_cons, List.getElem?_append_left (by rw [C.len]; exact hj)]
theorem add_add (x : Addr) (a b : Nat) : (x.add a).add b = x.add (a + b) := by
  unfold Addr.add
  split <;> split <;> simp_all <;> omega

def IsList {α : Type} (C : Cod α) (W : World) (a : Option Addr) (len cap : Nat) : Prop :=
  (a = none ∧ len = 0 ∧ cap = 0) ∨ ∃ x, ∃ l : List α, a = some x ∧ len ≤ cap ∧ l.length = cap ∧ ∀ i v, (encL C l)[i]? = some v → W.cell? (x.add i) = some v
theorem sim_list {α : Type} {C : Cod α} {W : World} {ι : Emb} {H : List Blk} (h : Sim W.heap.size ι H W) (hro : H.all roB = true) {a : Option Addr} {len cap : Nat} (hr : IsList C W a len cap) :
    ∃ (l : List α) (B : Blk), l.length = len ∧ listOf C (sliceArg H.length a len) ⟨H ++ [B]⟩ = some l ∧
    ∃ κ, ι.le κ ∧ Sim W.heap.size κ (H ++ [B]) W ∧ (H ++ [B]).all roB = true ∧ VRel κ (sliceArg H.length a len) (.slice a len cap) := by
  rcases hr with ⟨rfl, rfl, rfl⟩ | ⟨x, l, rfl, h1, h2, h3⟩
  · exact ⟨[], _, rfl, list_nil _, sim_row h hro (cells := []) (.inl ⟨rfl, rfl, rfl⟩)⟩
  · have hpos := C.pos
    have hll : (encL C l).length = cap * C.n := by rw [encL_len, h2]
    refine ⟨l.take len, .row 0 (encL C (l.take len)) .ro, by simp; omega, ?_, sim_row h hro (cells := encL C (l.take len)) (.inr ⟨x, rfl, h1, fun i hi => ?_, fun i v hv => ?_⟩)⟩
    · refine (listOf_iff C).2 ?_
      unfold sliceArg
      simp only [cellsOf, Nat.le_refl, if_true, readN, Ab.readRow, List.getElem?_append_right (Nat.le_refl _), Nat.sub_self, List.getElem?_cons_zero, Option.bind_some, Nat.zero_add]
      have e : (encL C (l.take len)).length = len * C.n := by rw [encL_len, List.length_take, Nat.min_eq_left (by omega)]
      rw [if_pos (by omega), List.drop_zero, ← e, List.take_length]
    · have hi2 : i < (encL C l).length := by
        rw [hll]
        exact Nat.lt_of_lt_of_le hi (Nat.le_mul_of_pos_right _ hpos)
      exact ⟨_, h3 i _ (List.getElem?_eq_getElem hi2)⟩
    · have hv2 : (encL C l)[i]? = some v := by
        rw [← encL_take] at hv
        rw [List.getElem?_take] at hv
        split at hv
        · exact hv
        · cases hv
      refine ⟨v, h3 i v hv2, ?_⟩
      have := List.all_eq_true.1 (encL_leaf C l) v (List.mem_of_getElem? hv2)
      exact .l1 (.l0 (leafOk_rel this))
theorem list_more {α : Type} {C : Cod α} {H : List Blk} {B : Blk} {v : Value} {l : List α} (h : listOf C v ⟨H⟩ = some l) : listOf C v ⟨H ++ [B]⟩ = some l :=
  list_ext (s := ⟨H⟩) (s' := ⟨H ++ [B]⟩) ⟨by simp, fun b hb => by simp only; rw [List.getElem?_append_left hb]⟩ h

theorem open_list {α : Type} {C : Cod α} {Hn : Type} {enc : TypeId × Value → Hn} {P : Program} {W : World} {t e : TypeId} {a : Option Addr} {len cap : Nat} {d : DataW Hn} {ps : List MemPlace} (ht : P.underlying t = some (.slice e)) (hc : P.cellsOf e = C.n)
    (hel : ∀ n cs y, DataW.trod enc P W 0 (fun _ => true) true n e cs = some y → ∃ a, cs = C.enc a) (hd : DataW.Trod enc P W 0 (fun _ => true) true t (.slice a len cap) d ps) : IsList C W a len cap := by
  obtain ⟨fuel, hf⟩ := hd
  rcases DataW.trod_slice ht hf with ⟨h0, _⟩ | ⟨x, len', cap', elems, rest, n, _, hcs, _, hb, hl, hm, hlen, he, hsp, _⟩
  · simp [Value.cells] at h0
    obtain ⟨rfl, rfl, rfl⟩ := h0
    exact .inl ⟨rfl, rfl, rfl⟩
  · simp [Value.cells] at hcs
    obtain ⟨rfl, rfl, rfl⟩ := hcs
    obtain ⟨hr1, hr2⟩ := hsp rfl
    have each : ∀ i, i < cap → ∃ a : α, W.cells? 0 (x.add (i * C.n)) C.n = some (C.enc a) := by
      intro i hi
      have key : ∀ y : DataW Hn × List MemPlace, (W.cells? 0 (x.add (i * P.cellsOf e)) (P.cellsOf e)).bind (DataW.trod enc P W 0 (fun _ => true) true n e) = some y → ∃ a : α, W.cells? 0 (x.add (i * C.n)) C.n = some (C.enc a) := by
        intro y hy
        rw [hc, Option.bind_eq_some_iff] at hy
        obtain ⟨cs, h1, h2⟩ := hy
        obtain ⟨a, rfl⟩ := hel n cs y h2
        exact ⟨a, h1⟩
      by_cases c : i < len
      · exact key elems[i] (by rw [he i c, List.getElem?_eq_getElem])
      · have hlt : i - len < rest.length := by omega
        refine key rest[i - len] ?_
        have := hr2 (i - len) (by omega)
        rw [show len + (i - len) = i by omega] at this
        rw [this, List.getElem?_eq_getElem]
    obtain ⟨l, h1, h2⟩ := choose_list cap each
    refine .inr ⟨x, l, rfl, hl, h1, fun i v hv => ?_⟩
    have hpos := C.pos
    have hi : i < l.length * C.n := by
      have := (List.getElem?_eq_some_iff.1 hv).1
      rw [encL_len] at this
      exact this
    have hq : i / C.n < l.length := Nat.div_lt_of_lt_mul (by rw [Nat.mul_comm]; exact hi)
    have hj : i % C.n < C.n := Nat.mod_lt _ hpos
    have hsplit : i = i / C.n * C.n + i % C.n := by
      have := Nat.div_add_mod i C.n
      rw [Nat.mul_comm] at this
      exact this.symm
    obtain ⟨_, _, h5⟩ := World.cells?_some (h2 _ hq)
    have h6 := h5 _ hj
    rw [add_add, ← hsplit] at h6
    rw [h6, ← enc_at hq hj, ← hsplit]
    exact hv
theorem sized_list {α : Type} {C : Cod α} {Hn : Type} {enc : TypeId × Value → Hn} {P : Program} {W : World} {base : Nat} {spare : Nat → Bool} {held : Bool} {t e : TypeId} {a : Option Addr} {len cap : Nat} {d : DataW Hn} {ps : List MemPlace} {ts : List TypeId} {ds : List (DataW Hn)} {j : Nat}
    (hsz : (DataW.weightsEach P ts ds).all (· ≤ reachBytes) = true) (ht : ts[j]? = some t) (hd : ds[j]? = some d) (hu : P.underlying t = some (.slice e)) {B : Nat} (hB : P.bytesOf e = B)
    (h : DataW.Trod enc P W base spare held t (.slice a len cap) d ps) : len * B ≤ 140737488351232 := by
  obtain ⟨fuel, hf⟩ := h
  rcases DataW.trod_slice hu hf with ⟨h0, _⟩ | ⟨x, len', cap', elems, rest, n, _, hcs, hx, _, _, _, hlen, _⟩
  · simp [Value.cells] at h0
    obtain ⟨rfl, rfl, rfl⟩ := h0
    simp
  · simp [Value.cells] at hcs
    obtain ⟨rfl, rfl, rfl⟩ := hcs
    obtain ⟨hx, _⟩ := Prod.mk.inj hx
    subst hx
    have z := sized_slice hsz ht hd hu
    rw [hB] at z
    simp only [List.length_map] at z
    exact Nat.le_trans (Nat.mul_le_mul_right _ (by omega)) z

end Go.Proofs.Ytamaapapaiopiaa.Ab
