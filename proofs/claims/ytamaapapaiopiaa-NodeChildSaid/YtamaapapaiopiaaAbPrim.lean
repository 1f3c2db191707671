/- The abstract machine against the model: new rows, rows written, rows read. -/
import Derived.Test.YtamaapapaiopiaaAbRel
set_option linter.unusedVariables false
set_option linter.unusedSimpArgs false
set_option linter.unusedSectionVars false
namespace Go.Proofs.Ytamaapapaiopiaa.Ab
open Go

theorem Sim.congr {wb : Nat} {ι : Emb} {H : List Blk} {w v : World} (h : Sim wb ι H w) (e : v.heap = w.heap) : Sim wb ι H v where
  dom := h.dom
  row := by rw [e]; exact h.row
  map := by rw [e]; exact h.map
  excl := h.excl
  size := by rw [e]; exact h.size
  loc := h.loc

theorem Step.drew {ι : Emb} {H : List Blk} {w : World} (hd : ∀ b x, ι b = some x → b < H.length) : Step ι H w ι H w.drew where
  le := .refl _
  old _ _ := rfl
  img b x h hb := absurd (hd b x h) (by omega)
  keep _ _ _ := rfl
  size := Nat.le_refl _
  os := rfl
  tape := rfl
  output := rfl
  len := Nat.le_refl _
  own _ _ h := h

def Emb.add (ι : Emb) (n : Nat) (x : Loc) : Emb := fun b => if b = n then some x else ι b
theorem Emb.le_add {ι : Emb} {n : Nat} {x : Loc} (h : ι n = none) : ι.le (ι.add n x) := by
  intro b y e
  unfold Emb.add
  split
  · rename_i hb; subst hb; rw [h] at e; cases e
  · exact e
theorem Emb.add_same (ι : Emb) (n : Nat) (x : Loc) : ι.add n x n = some x := by simp [Emb.add]
theorem Emb.add_ne {ι : Emb} {n b : Nat} {x : Loc} (h : b ≠ n) : ι.add n x b = ι b := by simp [Emb.add, h]

theorem Sim.fresh {wb : Nat} {ι : Emb} {H : List Blk} {w : World} (h : Sim wb ι H w) {b : Nat} (hb : H.length ≤ b) : ι b = none := by
  cases e : ι b with
  | none => rfl
  | some x => exact absurd (h.dom b x e) (by omega)

theorem Sim.lt {wb : Nat} {ι : Emb} {H : List Blk} {w : World} (h : Sim wb ι H w) {b : Nat} {B : Blk} (hB : H[b]? = some B) (hn : ∀ n c, B ≠ .row n c .dead) {x : Loc} (hx : ι b = some x) : x.blk < w.heap.size := by
  cases B with
  | row n cells st =>
    obtain ⟨cs, e, fz, hw, _⟩ := h.row b n cells st hB (fun he => hn n cells (by rw [he])) x hx
    rcases Nat.lt_or_ge x.blk w.heap.size with hl | hl
    · exact hl
    · rw [Array.getElem?_eq_none hl] at hw; cases hw
  | map es clock =>
    obtain ⟨_, _, es', hw, _⟩ := h.map b es clock hB x hx
    rcases Nat.lt_or_ge x.blk w.heap.size with hl | hl
    · exact hl
    · rw [Array.getElem?_eq_none hl] at hw; cases hw

theorem Sim.own_lt {wb : Nat} {ι : Emb} {H : List Blk} {w : World} (h : Sim wb ι H w) {b : Nat} (hb : ownB H[b]? = true) {x : Loc} (hx : ι b = some x) : x.blk < w.heap.size := by
  cases e : H[b]? with
  | none => rw [e] at hb; cases hb
  | some B => exact h.lt e (fun n c hc => by subst hc; rw [e] at hb; cases hb) hx

theorem Sim.own_ge {wb : Nat} {ι : Emb} {H : List Blk} {w : World} (h : Sim wb ι H w) {b : Nat} (hb : ownB H[b]? = true) {x : Loc} (hx : ι b = some x) : wb ≤ x.blk := by
  cases e : H[b]? with
  | none => rw [e] at hb; cases hb
  | some B =>
    cases B with
    | row n cells st =>
      cases st with
      | act => obtain ⟨_, _, _, _, _, h1, _⟩ := h.row b n cells .act e (by simp) x hx; exact (h1 rfl).1
      | ro => rw [e] at hb; cases hb
      | dead => rw [e] at hb; cases hb
    | map es clock => exact (h.map b es clock e x hx).1

/-! ### A new row -/
theorem Sim.push {wb : Nat} {ι : Emb} {H : List Blk} {w : World} (h : Sim wb ι H w) {n : Nat} {cells : List Value} {cs : Array Value} {e : TypeId} {fz : Nat × Nat}
    (hz : fzOk n fz cs.size) (hc : ∀ (i : Nat) (v : Value), cells[i]? = some v → ∃ v' : Value, cs[i]? = some v' ∧ L2 ι v v') :
    Sim wb (ι.add H.length ⟨w.heap.size, 0, n, cs.size⟩) (H ++ [.row n cells .act]) (w.alloc (.cells cs e fz)) ∧
    Step ι H w (ι.add H.length ⟨w.heap.size, 0, n, cs.size⟩) (H ++ [.row n cells .act]) (w.alloc (.cells cs e fz)) := by
  have hf : ι H.length = none := h.fresh (Nat.le_refl _)
  have hle : ι.le (ι.add H.length ⟨w.heap.size, 0, n, cs.size⟩) := Emb.le_add hf
  have hold : ∀ c, c < w.heap.size → (w.alloc (.cells cs e fz)).heap[c]? = w.heap[c]? := fun c hc => by
    show (w.heap.push _)[c]? = _
    rw [Array.getElem?_push, if_neg (Nat.ne_of_lt hc)]
  have hnew : (w.alloc (.cells cs e fz)).heap[w.heap.size]? = some (.cells cs e fz) := by
    show (w.heap.push _)[w.heap.size]? = _
    rw [Array.getElem?_push, if_pos rfl]
  constructor
  · constructor
    · intro b x hx
      simp only [List.length_append, List.length_singleton]
      by_cases hb : b = H.length
      · omega
      · rw [Emb.add_ne hb] at hx; have := h.dom b x hx; omega
    · intro b n' cells' st hb hst l hx
      by_cases hbl : b = H.length
      · subst hbl
        rw [List.getElem?_append_right (Nat.le_refl _)] at hb
        simp at hb
        obtain ⟨rfl, rfl, rfl⟩ := hb
        rw [Emb.add_same] at hx
        cases hx
        refine ⟨cs, e, fz, hnew, by simp, fun _ => ⟨h.size, rfl, rfl, hz⟩, fun i v hi => ?_⟩
        obtain ⟨v', hv', hr⟩ := hc i v hi
        exact ⟨v', by simpa using hv', hr.mono hle⟩
      · have hbl2 : b < H.length := by
          have := (List.getElem?_eq_some_iff.1 hb).1
          simp at this; omega
        rw [List.getElem?_append_left hbl2] at hb
        rw [Emb.add_ne hbl] at hx
        obtain ⟨cs', e', fz', hw, h1, h2, h3⟩ := h.row b n' cells' st hb hst l hx
        refine ⟨cs', e', fz', ?_, h1, h2, fun i v hi => ?_⟩
        · rw [hold l.blk ?_]; exact hw
          exact h.lt hb (fun n c hc => hst (by cases hc; rfl)) (x := l) hx
        · obtain ⟨v', hv', hr⟩ := h3 i v hi
          exact ⟨v', hv', hr.mono hle⟩
    · intro b es clock hb l hx
      have hbl : b ≠ H.length := by
        intro hb2; subst hb2
        rw [List.getElem?_append_right (Nat.le_refl _)] at hb
        simp at hb
      have hbl2 : b < H.length := by
        have := (List.getElem?_eq_some_iff.1 hb).1
        simp at this; omega
      rw [List.getElem?_append_left hbl2] at hb
      rw [Emb.add_ne hbl] at hx
      obtain ⟨h1, hz, es', hw, h3⟩ := h.map b es clock hb l hx
      refine ⟨h1, hz, es', ?_, h3.mono fun x e he => ⟨he.1, he.2.1, he.2.2.1.mono hle, he.2.2.2⟩⟩
      rw [hold l.blk ?_]; exact hw
      exact h.lt hb (fun n c hc => by cases hc) (x := l) hx
    · intro a b ha hb hne x y hx hy
      by_cases ha' : a = H.length
      · subst ha'
        have hb' : b ≠ H.length := fun e => hne e.symm
        rw [Emb.add_same] at hx
        rw [Emb.add_ne hb'] at hy
        cases hx
        have hbl : b < H.length := h.dom b y hy
        rw [List.getElem?_append_left hbl] at hb
        have := h.own_lt hb hy
        show w.heap.size ≠ y.blk
        omega
      · rw [Emb.add_ne ha'] at hx
        have hal : a < H.length := h.dom a x hx
        rw [List.getElem?_append_left hal] at ha
        by_cases hb' : b = H.length
        · subst hb'
          rw [Emb.add_same] at hy
          cases hy
          have := h.own_lt ha hx
          show x.blk ≠ w.heap.size
          omega
        · rw [Emb.add_ne hb'] at hy
          have hbl : b < H.length := h.dom b y hy
          rw [List.getElem?_append_left hbl] at hb
          exact h.excl a b ha hb hne x y hx hy
    · have := h.size; simp; omega
    · intro b n' cells' st hb hst l hx
      by_cases hbl : b = H.length
      · subst hbl
        rw [List.getElem?_append_right (Nat.le_refl _)] at hb
        simp at hb
        rw [Emb.add_same] at hx
        cases hx
        exact ⟨hb.1, Nat.zero_le _⟩
      · have hbl2 : b < H.length := by
          have := (List.getElem?_eq_some_iff.1 hb).1
          simp at this; omega
        rw [List.getElem?_append_left hbl2] at hb
        rw [Emb.add_ne hbl] at hx
        exact h.loc b n' cells' st hb hst l hx
  · constructor
    · exact hle
    · intro b hb; exact Emb.add_ne (by omega)
    · intro b x hx hb
      by_cases hbl : b = H.length
      · subst hbl; rw [Emb.add_same] at hx; cases hx; exact .inl (Nat.le_refl _)
      · rw [Emb.add_ne hbl] at hx; exact absurd (h.dom b x hx) (by omega)
    · intro c hc _; exact hold c hc
    · simp
    · rfl
    · rfl
    · rfl
    · simp
    · intro a ha e; rwa [List.getElem?_append_left ha] at e

/-! ### A row is no more -/
theorem Sim.kill {wb : Nat} {ι : Emb} {H : List Blk} {w : World} (h : Sim wb ι H w) {b n : Nat} {cells : List Value} {st0 : Stat} (hb0 : H[b]? = some (.row n cells st0)) :
    Sim wb ι (H.set b (.row n cells .dead)) w ∧ Step ι H w ι (H.set b (.row n cells .dead)) w := by
  have hget : ∀ (a : Nat) (B : Blk), (H.set b (Blk.row n cells .dead))[a]? = some B → (∀ n c, B ≠ Blk.row n c .dead) → H[a]? = some B := by
    intro a B hB hn
    by_cases hab : b = a
    · subst hab
      rw [List.getElem?_set] at hB
      simp at hB
      exact absurd hB.2.symm (hn n cells)
    · rwa [List.getElem?_set_ne hab] at hB
  have hown : ∀ a : Nat, ownB (H.set b (Blk.row n cells .dead))[a]? = true → ownB H[a]? = true := by
    intro a ha
    cases e : (H.set b (Blk.row n cells .dead))[a]? with
    | none => rw [e] at ha; cases ha
    | some B =>
      rw [hget a B e fun n c hc => by subst hc; rw [e] at ha; cases ha]
      rw [e] at ha; exact ha
  constructor
  · constructor
    · intro a x hx; simpa using h.dom a x hx
    · intro a n' cells' st hb hst; exact h.row a n' cells' st (hget a _ hb fun n c hc => hst (by cases hc; rfl)) hst
    · intro a es clock hb; exact h.map a es clock (hget a _ hb fun n c hc => by cases hc)
    · intro a c ha hc; exact h.excl a c (hown a ha) (hown c hc)
    · exact h.size
    · intro a n' cells' st ha hst l hl
      by_cases hab : b = a
      · subst hab
        rw [List.getElem?_set] at ha
        simp at ha
        exact absurd ha.2.2.2.symm hst
      · rw [List.getElem?_set_ne hab] at ha
        exact h.loc a n' cells' st ha hst l hl
  · constructor
    · exact .refl _
    · intro _ _; rfl
    · intro a x hx ha; exact absurd (h.dom a x hx) (by omega)
    · intro _ _ _; rfl
    · exact Nat.le_refl _
    · rfl
    · rfl
    · rfl
    · simp
    · intro a _ e; exact hown a e

/-! ### Cells written -/
def updA (cs : Array Value) : Nat → List Value → Array Value
  | _, [] => cs
  | p, v :: vs => updA (cs.setIfInBounds p v) (p + 1) vs
theorem updA_size (vs : List Value) : ∀ (cs : Array Value) (p : Nat), (updA cs p vs).size = cs.size := by
  induction vs with
  | nil => intro cs p; rfl
  | cons v vs ih => intro cs p; rw [updA, ih]; simp
theorem updA_lt (vs : List Value) : ∀ (cs : Array Value) (p i : Nat), i < p → (updA cs p vs)[i]? = cs[i]? := by
  induction vs with
  | nil => intro cs p i _; rfl
  | cons v vs ih => intro cs p i hi; rw [updA, ih _ _ _ (by omega), Array.getElem?_setIfInBounds_ne (by omega)]
theorem updA_ge (vs : List Value) : ∀ (cs : Array Value) (p i : Nat), p + vs.length ≤ i → (updA cs p vs)[i]? = cs[i]? := by
  induction vs with
  | nil => intro cs p i _; rfl
  | cons v vs ih => intro cs p i hi; simp at hi; rw [updA, ih _ _ _ (by omega), Array.getElem?_setIfInBounds_ne (by omega)]
theorem updA_in (vs : List Value) : ∀ (cs : Array Value) (p j : Nat), j < vs.length → p + vs.length ≤ cs.size → (updA cs p vs)[p + j]? = vs[j]? := by
  induction vs with
  | nil => intro cs p j hj; simp at hj
  | cons v vs ih =>
    intro cs p j hj hs
    simp at hj hs
    cases j with
    | zero =>
      rw [updA, updA_lt _ _ _ _ (by omega)]
      simp
      rw [Array.getElem?_setIfInBounds_self_of_lt (by omega)]
    | succ j =>
      rw [updA]
      have := ih (cs.setIfInBounds p v) (p + 1) j (by omega) (by simp; omega)
      rw [show p + (j + 1) = p + 1 + j by omega, this]
      simp

theorem cell?_of {w : World} {b : Nat} {cs : Array Value} {e : TypeId} {fz : Nat × Nat} (h : w.heap[b]? = some (.cells cs e fz)) (i : Nat) : w.cell? ⟨b, i, none⟩ = cs[i]? := by
  simp [World.cell?, h]
theorem frozen?_of {w : World} {b : Nat} {cs : Array Value} {e : TypeId} {fz : Nat × Nat} (h : w.heap[b]? = some (.cells cs e fz)) (i : Nat) (hf : ¬(fz.1 ≤ i ∧ i < fz.2)) : w.frozen? ⟨b, i, none⟩ = false := by
  obtain ⟨lo, hi⟩ := fz
  simp [World.frozen?, h]
  simp at hf
  exact fun hh => hf hh
theorem setCell_heap {w : World} {b : Nat} {cs : Array Value} {e : TypeId} {fz : Nat × Nat} (h : w.heap[b]? = some (.cells cs e fz)) (i : Nat) (v : Value) :
    (w.setCell ⟨b, i, none⟩ v).heap[b]? = some (.cells (cs.setIfInBounds i v) e fz) := by
  simp [World.setCell, Array.getElem?_modify, h]
theorem setCell_heap_ne {w : World} {b c : Nat} (i : Nat) (v : Value) (h : c ≠ b) : (w.setCell ⟨b, i, none⟩ v).heap[c]? = w.heap[c]? := by
  simp [World.setCell, Array.getElem?_modify, Ne.symm h]

theorem addr_add (b off i : Nat) : (⟨b, off, none⟩ : Addr).add i = ⟨b, off + i, none⟩ := by
  unfold Addr.add; split <;> simp_all

/-- a leaf is stored -/
theorem run_store_leaf {P : Program} {w : World} {b i : Nat} {cs : Array Value} {e : TypeId} {fz : Nat × Nat} {v : Value} {α : Type} (k : Sem α) (hv : isLeaf v = true)
    (h : w.heap[b]? = some (.cells cs e fz)) (hi : i < cs.size) (hf : ¬(fz.1 ≤ i ∧ i < fz.2)) (m : Mode) :
    (Sem.store m ⟨b, i, none⟩ v k).run P w = k.run P (w.setCell ⟨b, i, none⟩ v) := by
  have h1 : w.cell? ⟨b, i, none⟩ = some cs[i] := by rw [cell?_of h]; simp [hi]
  have h2 := frozen?_of h i hf
  cases v <;> simp_all [Sem.run, isLeaf]

theorem run_storeCells {P : Program} {b off : Nat} {e : TypeId} {fz : Nat × Nat} (vs : List Value) : ∀ (i : Nat) (w : World) (cs : Array Value), w.heap[b]? = some (.cells cs e fz) →
    (∀ j, j < cs.size → ¬(fz.1 ≤ j ∧ j < fz.2)) → off + i + vs.length ≤ cs.size → vs.all isLeaf = true →
    ∃ w', (storeCells ⟨b, off, none⟩ vs i).run P w = .ok () w' ∧ w'.heap[b]? = some (.cells (updA cs (off + i) vs) e fz) ∧ (∀ c, c ≠ b → w'.heap[c]? = w.heap[c]?) ∧
      w'.heap.size = w.heap.size ∧ w'.os = w.os ∧ w'.tape = w.tape ∧ w'.output = w.output ∧ w'.drawn = w.drawn := by
  induction vs with
  | nil => intro i w cs h _ _ _; exact ⟨w, rfl, h, fun _ _ => rfl, rfl, rfl, rfl, rfl, rfl⟩
  | cons v vs ih =>
    intro i w cs h hf hl hv
    simp at hl hv
    have hw := setCell_heap h (off + i) v
    obtain ⟨w', h1, h2, h3, h4, h5, h6, h7, h8⟩ := ih (i + 1) (w.setCell ⟨b, off + i, none⟩ v) (cs.setIfInBounds (off + i) v) hw (by simpa using hf) (by simp; omega) (by simpa using hv.2)
    refine ⟨w', ?_, ?_, ?_, ?_, ?_, ?_, ?_, ?_⟩
    · rw [storeCells, addr_add]
      show (Sem.store .plain ⟨b, off + i, none⟩ v _).run P w = _
      rw [run_store_leaf _ hv.1 h (by omega) (hf _ (by omega))]
      exact h1
    · rw [h2, updA, Nat.add_assoc]
    · intro c hc; rw [h3 c hc, setCell_heap_ne _ _ hc]
    · rw [h4]; simp
    · rw [h5]; rfl
    · rw [h6]; rfl
    · rw [h7]; rfl
    · rw [h8]; rfl

theorem L2.leaf {ι : Emb} {v v' : Value} (h : L2 ι v v') : isLeaf v' = true := by
  cases h with
  | l1 h => cases h with
    | l0 h => cases h <;> rfl
    | func => rfl
  | iface => rfl
  | ifaceAgg => rfl
theorem All2.leaf {ι : Emb} : ∀ {l m : List Value}, All2 (L2 ι) l m → m.all isLeaf = true
  | [], [], _ => rfl
  | _ :: _, _ :: _, ⟨h1, h2⟩ => by simp [h1.leaf]; simpa using All2.leaf h2

theorem putCells_get (cells : List Value) (off : Nat) (vs : List Value) (h : off + vs.length ≤ cells.length) (i : Nat) :
    (putCells cells off vs)[i]? = if i < off then cells[i]? else if i < off + vs.length then vs[i - off]? else cells[i]? := by
  unfold putCells
  have hl : (cells.take off ++ vs).length = off + vs.length := by simp; omega
  have ht : (cells.take off).length = off := by simp; omega
  by_cases h1 : i < off
  · simp only [h1, if_true]
    rw [List.append_assoc, List.getElem?_append_left (by omega), List.getElem?_take_of_lt h1]
  · simp only [h1, if_false]
    by_cases h2 : i < off + vs.length
    · simp only [h2, if_true]
      rw [List.append_assoc, List.getElem?_append_right (by omega), ht, List.getElem?_append_left (by omega)]
    · simp only [h2, if_false]
      rw [List.getElem?_append_right (by omega), hl, List.getElem?_drop]
      congr 1; omega
theorem putCells_length (cells : List Value) (off : Nat) (vs : List Value) (h : off + vs.length ≤ cells.length) : (putCells cells off vs).length = cells.length := by
  unfold putCells; simp; omega

theorem Sim.write {wb : Nat} {ι : Emb} {P : Program} {H : List Blk} {w : World} (h : Sim wb ι H w) {b off n : Nat} {lc : Loc} {cells vs vs' : List Value}
    (hb : H[b]? = some (.row n cells .act)) (hx : ι b = some lc) (hl : off + vs.length ≤ cells.length) (hv : All2 (L2 ι) vs vs') :
    ∃ w', (storeCells ⟨lc.blk, lc.off + off, none⟩ vs').run P w = .ok () w' ∧ Sim wb ι (H.set b (.row n (putCells cells off vs) .act)) w' ∧
      Step ι H w ι (H.set b (.row n (putCells cells off vs) .act)) w' ∧ w'.drawn = w.drawn := by
  obtain ⟨cs, e, fz, hw, _, h2, h3⟩ := h.row b n cells .act hb (by simp) lc hx
  obtain ⟨hwb, hn1, hn2, hf⟩ := h2 rfl
  have hvl := hv.length
  have hcs : ∀ i, i < cells.length → lc.off + i < cs.size := fun i hi => by
    obtain ⟨v', hv', _⟩ := h3 i cells[i] (by simp [hi])
    exact (Array.getElem?_eq_some_iff.1 hv').1
  have hsz : vs.length = 0 ∨ lc.off + off + vs.length ≤ cs.size := by
    by_cases h0 : vs.length = 0
    · exact .inl h0
    · have := hcs (off + vs.length - 1) (by omega); right; omega
  have hbl : b < H.length := (List.getElem?_eq_some_iff.1 hb).1
  rcases hsz with h0 | hsz
  · have : vs = [] := by simpa using h0
    subst this
    have : vs' = [] := by cases vs' with
      | nil => rfl
      | cons x l => simp [All2] at hv
    subst this
    have hput : putCells cells off [] = cells := by simp [putCells]
    have hset : H.set b (.row n (putCells cells off []) .act) = H := by
      rw [hput]
      apply List.ext_getElem?
      intro i
      by_cases hi : b = i
      · subst hi; rw [List.getElem?_set_self hbl]; exact hb.symm
      · rw [List.getElem?_set_ne hi]
    rw [hset]
    exact ⟨w, rfl, h, .refl _ _ _ h.dom, rfl⟩
  obtain ⟨w', r1, r2, r3, r4, r5, r6, r7, r8⟩ := run_storeCells (P := P) (b := lc.blk) (off := lc.off + off) vs' 0 w cs hw hf.no (by omega) hv.leaf
  have hown : ∀ a : Nat, ownB (H.set b (Blk.row n (putCells cells off vs) .act))[a]? = ownB H[a]? := fun a => by
    by_cases ha : b = a
    · subst ha; rw [List.getElem?_set_self hbl, hb]; rfl
    · rw [List.getElem?_set_ne ha]
  have hother : ∀ a x, ι a = some x → ownB H[a]? = true → a ≠ b → x.blk ≠ lc.blk := fun a x ha ho hne =>
    h.excl a b ho (by rw [hb]; rfl) hne x lc ha hx
  refine ⟨w', r1, ⟨?_, ?_, ?_, ?_, ?_, ?_⟩, ⟨.refl _, fun _ _ => rfl, ?_, ?_, ?_, r5, r6, r7, by simp, fun a _ e => by rwa [hown] at e⟩, r8⟩
  · intro a x ha; simpa using h.dom a x ha
  · intro a n' cells' st ha hst l' hax
    by_cases hab : b = a
    · subst hab
      rw [List.getElem?_set_self hbl] at ha
      simp at ha
      obtain ⟨rfl, rfl, rfl⟩ := ha
      rw [hx] at hax
      cases hax
      refine ⟨updA cs (lc.off + off + 0) vs', e, fz, r2, by simp, fun _ => ⟨hwb, hn1, by rw [updA_size]; exact hn2, by rw [updA_size]; exact hf⟩, fun i v hi => ?_⟩
      rw [putCells_get _ _ _ hl] at hi
      by_cases h4 : i < off
      · simp only [h4, if_true] at hi
        obtain ⟨v', hv', hr⟩ := h3 i v hi
        exact ⟨v', by rw [updA_lt _ _ _ _ (by omega)]; exact hv', hr⟩
      · simp only [h4, if_false] at hi
        by_cases h5 : i < off + vs.length
        · simp only [h5, if_true] at hi
          obtain ⟨v', hv', hr⟩ := hv.get _ _ hi
          refine ⟨v', ?_, hr⟩
          have := updA_in vs' cs (lc.off + off + 0) (i - off) (by omega) (by omega)
          rw [show lc.off + off + 0 + (i - off) = lc.off + i by omega] at this
          rw [this]; exact hv'
        · simp only [h5, if_false] at hi
          obtain ⟨v', hv', hr⟩ := h3 i v hi
          exact ⟨v', by rw [updA_ge _ _ _ _ (by omega)]; exact hv', hr⟩
    · rw [List.getElem?_set_ne hab] at ha
      obtain ⟨cs', e', fz', hw', q1, q2, q3⟩ := h.row a n' cells' st ha hst l' hax
      have hne : l'.blk ≠ lc.blk := by
        cases st with
        | dead => exact absurd rfl hst
        | ro => have := q1 rfl; omega
        | act => exact hother a l' hax (by rw [ha]; rfl) (Ne.symm hab)
      exact ⟨cs', e', fz', by rw [r3 l'.blk hne]; exact hw', q1, q2, q3⟩
  · intro a es clock ha l' hax
    have hab : b ≠ a := by intro hh; subst hh; rw [List.getElem?_set_self hbl] at ha; simp at ha
    rw [List.getElem?_set_ne hab] at ha
    obtain ⟨q1, qz, es', hw', q3⟩ := h.map a es clock ha l' hax
    have hne : l'.blk ≠ lc.blk := hother a l' hax (by rw [ha]; rfl) (Ne.symm hab)
    exact ⟨q1, qz, es', by rw [r3 l'.blk hne]; exact hw', q3⟩
  · intro a c ha hc; rw [hown] at ha hc; exact h.excl a c ha hc
  · rw [r4]; exact h.size
  · intro a n' cells' st ha hst l hl
    by_cases hab : b = a
    · subst hab
      rw [List.getElem?_set_self hbl] at ha
      simp at ha
      obtain ⟨rfl, _⟩ := ha
      exact h.loc b n cells .act hb (by simp) l hl
    · rw [List.getElem?_set_ne hab] at ha
      exact h.loc a n' cells' st ha hst l hl
  · intro a x ha hal; exact absurd (h.dom a x ha) (by omega)
  · intro c hc hn
    refine r3 c fun hcb => ?_
    exact hn b lc (by rw [hb]; rfl) hx hcb.symm
  · rw [r4]; exact Nat.le_refl _

/-- a row grows in its place: the elder block is no more -/
theorem Sim.grow {wb : Nat} {ι : Emb} {P : Program} {H : List Blk} {w : World} (h : Sim wb ι H w) {b n : Nat} {lc : Loc} {cells new new' : List Value}
    (hb : H[b]? = some (.row n cells .act)) (hx : ι b = some lc) (hfit : lc.off + cells.length + new.length ≤ lc.z) (hv : All2 (L2 ι) new new') :
    ∃ w', (storeCells ⟨lc.blk, lc.off + cells.length, none⟩ new').run P w = .ok () w' ∧ Sim wb (ι.add H.length lc) (H.set b (.row n cells .dead) ++ [.row n (cells ++ new) .act]) w' ∧
      Step ι H w (ι.add H.length lc) (H.set b (.row n cells .dead) ++ [.row n (cells ++ new) .act]) w' := by
  obtain ⟨cs, e, fz, hw, _, h2, h3⟩ := h.row b n cells .act hb (by simp) lc hx
  obtain ⟨hwb, hn1, hn2, hf⟩ := h2 rfl
  have hvl := hv.length
  have hbl : b < H.length := (List.getElem?_eq_some_iff.1 hb).1
  obtain ⟨w', r1, r2, r3, r4, r5, r6, r7, r8⟩ := run_storeCells (P := P) (b := lc.blk) (off := lc.off + cells.length) new' 0 w cs hw hf.no (by omega) hv.leaf
  have hfr : ι H.length = none := h.fresh (Nat.le_refl _)
  have hle : ι.le (ι.add H.length lc) := Emb.le_add hfr
  have hkl := (h.kill (cells := cells) hb).1
  have hown : ∀ a : Nat, a < H.length → ownB (H.set b (Blk.row n cells .dead) ++ [Blk.row n (cells ++ new) .act])[a]? = true → ownB H[a]? = true ∧ a ≠ b := by
    intro a ha ho
    rw [List.getElem?_append_left (by simpa using ha)] at ho
    by_cases hab : b = a
    · subst hab; rw [List.getElem?_set_self hbl] at ho; cases ho
    · rw [List.getElem?_set_ne hab] at ho; exact ⟨ho, Ne.symm hab⟩
  have hother : ∀ a x, ι a = some x → ownB H[a]? = true → a ≠ b → x.blk ≠ lc.blk := fun a x ha ho hne => h.excl a b ho (by rw [hb]; rfl) hne x lc ha hx
  have hlen : (H.set b (Blk.row n cells .dead)).length = H.length := by simp
  have hget : ∀ (a : Nat) (B : Blk), (H.set b (Blk.row n cells .dead) ++ [Blk.row n (cells ++ new) .act])[a]? = some B → (a = H.length ∧ B = .row n (cells ++ new) .act) ∨ (a < H.length ∧ a = b ∧ B = .row n cells .dead) ∨ (a < H.length ∧ a ≠ b ∧ H[a]? = some B) := by
    intro a B hB
    by_cases ha : a < H.length
    · rw [List.getElem?_append_left (by omega)] at hB
      by_cases hab : b = a
      · subst hab; rw [List.getElem?_set_self hbl] at hB; cases hB; exact .inr (.inl ⟨ha, rfl, rfl⟩)
      · rw [List.getElem?_set_ne hab] at hB; exact .inr (.inr ⟨ha, Ne.symm hab, hB⟩)
    · have : a = H.length := by have := (List.getElem?_eq_some_iff.1 hB).1; simp at this; omega
      subst this
      rw [List.getElem?_append_right (by omega)] at hB
      simp at hB
      exact .inl ⟨rfl, hB.symm⟩
  refine ⟨w', r1, ⟨?_, ?_, ?_, ?_, ?_, ?_⟩, ⟨hle, ?_, ?_, ?_, by rw [r4]; exact Nat.le_refl _, r5, r6, r7, by simp, fun a ha ho => (hown a ha ho).1⟩⟩
  · intro a x ha
    simp
    by_cases hal : a = H.length
    · omega
    · rw [Emb.add_ne hal] at ha; have := h.dom a x ha; omega
  · intro a n' cells' st ha hst l hl
    rcases hget a _ ha with ⟨rfl, he⟩ | ⟨_, _, he⟩ | ⟨hal, hab, hH⟩
    · injection he with e1 e2 e3
      subst e1 e2 e3
      rw [Emb.add_same] at hl
      cases hl
      refine ⟨_, e, fz, r2, by simp, fun _ => ⟨hwb, hn1, by rw [updA_size]; exact hn2, by rw [updA_size]; exact hf⟩, fun i v hi => ?_⟩
      by_cases hic : i < cells.length
      · rw [List.getElem?_append_left hic] at hi
        obtain ⟨v', hv', hr⟩ := h3 i v hi
        exact ⟨v', by rw [updA_lt _ _ _ _ (by omega)]; exact hv', hr.mono hle⟩
      · rw [List.getElem?_append_right (by omega)] at hi
        obtain ⟨v', hv', hr⟩ := hv.get _ _ hi
        have hil := (List.getElem?_eq_some_iff.1 hi).1
        refine ⟨v', ?_, hr.mono hle⟩
        have := updA_in new' cs (lc.off + cells.length + 0) (i - cells.length) (by omega) (by omega)
        rw [show lc.off + cells.length + 0 + (i - cells.length) = lc.off + i by omega] at this
        rw [this]; exact hv'
    · injection he with _ _ e3
      exact absurd e3 hst
    · rw [Emb.add_ne (by omega)] at hl
      obtain ⟨cs', e', fz', hw', q1, q2, q3⟩ := h.row a n' cells' st hH hst l hl
      have hne : l.blk ≠ lc.blk := by
        cases st with
        | dead => exact absurd rfl hst
        | ro => have := q1 rfl; omega
        | act => exact hother a l hl (by rw [hH]; rfl) hab
      refine ⟨cs', e', fz', by rw [r3 l.blk hne]; exact hw', q1, q2, fun i v hi => ?_⟩
      obtain ⟨v', hv', hr⟩ := q3 i v hi
      exact ⟨v', hv', hr.mono hle⟩
  · intro a es clock ha l hl
    rcases hget a _ ha with ⟨_, he⟩ | ⟨_, _, he⟩ | ⟨hal, hab, hH⟩
    · cases he
    · cases he
    · rw [Emb.add_ne (by omega)] at hl
      obtain ⟨q1, qz, es', hw', q3⟩ := h.map a es clock hH l hl
      have hne : l.blk ≠ lc.blk := hother a l hl (by rw [hH]; rfl) hab
      exact ⟨q1, qz, es', by rw [r3 l.blk hne]; exact hw', q3.mono fun x e he => ⟨he.1, he.2.1, he.2.2.1.mono hle, he.2.2.2⟩⟩
  · intro a c ha hc hne x y hax hcy
    by_cases hal : a = H.length
    · subst hal
      rw [Emb.add_same] at hax
      cases hax
      have hcl : c ≠ H.length := fun e => hne e.symm
      rw [Emb.add_ne hcl] at hcy
      have hco := hown c (h.dom c y hcy) hc
      exact (hother c y hcy hco.1 hco.2).symm
    · rw [Emb.add_ne hal] at hax
      have hao := hown a (h.dom a x hax) ha
      by_cases hcl : c = H.length
      · subst hcl
        rw [Emb.add_same] at hcy
        cases hcy
        exact hother a x hax hao.1 hao.2
      · rw [Emb.add_ne hcl] at hcy
        exact h.excl a c hao.1 (hown c (h.dom c y hcy) hc).1 hne x y hax hcy
  · rw [r4]; exact h.size
  · intro a n' cells' st ha hst l hl
    rcases hget a _ ha with ⟨rfl, he⟩ | ⟨hal, hab, he⟩ | ⟨hal, hab, hH⟩
    · injection he with e1 _ _
      rw [Emb.add_same] at hl
      cases hl
      exact ⟨by rw [e1]; exact hn1, by omega⟩
    · injection he with e1 _ _
      rw [Emb.add_ne (by omega)] at hl
      subst hab e1
      exact h.loc a n' cells .act hb (by simp) l hl
    · rw [Emb.add_ne (by omega)] at hl
      exact h.loc a n' cells' st hH hst l hl
  · intro a ha; exact Emb.add_ne (by omega)
  · intro a x ha hal
    by_cases hal2 : a = H.length
    · subst hal2
      rw [Emb.add_same] at ha
      cases ha
      exact .inr ⟨b, lc, by rw [hb]; rfl, hx, rfl⟩
    · rw [Emb.add_ne hal2] at ha
      exact absurd (h.dom a x ha) (by omega)
  · intro c hc hn
    refine r3 c fun hcb => ?_
    exact hn b lc (by rw [hb]; rfl) hx hcb.symm

/-! ### Cells read -/
theorem run_loadCells_of {P : Program} {w : World} {b off n : Nat} {cs : Array Value} {e : TypeId} {fz : Nat × Nat} (h : w.heap[b]? = some (.cells cs e fz)) (hl : n = 0 ∨ off + n ≤ cs.size) :
    (loadCells ⟨b, off, none⟩ n).run P w = .ok ((cs.toList.drop off).take n).toArray w := by
  have key : ∀ j v, ((cs.toList.drop off).take n)[j]? = some v → w.cell? ((⟨b, off, none⟩ : Addr).add j) = some v := by
    intro j v hj
    rw [addr_add, cell?_of h]
    have hjn : j < n := by have := (List.getElem?_eq_some_iff.1 hj).1; simp at this; omega
    rw [List.getElem?_take_of_lt hjn, List.getElem?_drop] at hj
    simpa using hj
  have := run_loadCells_list (P := P) (w := w) ⟨b, off, none⟩ ((cs.toList.drop off).take n) key
  rw [show ((cs.toList.drop off).take n).length = n by simp; omega] at this
  exact this

theorem Sim.read {wb : Nat} {ι : Emb} {P : Program} {s : St} {w : World} (h : Sim wb ι s.heap w) {b off n : Nat} {lc : Loc} {vs : List Value} (hr : readN s b off n = some vs) (hx : ι b = some lc) :
    ∃ vs', (loadCells ⟨lc.blk, lc.off + off, none⟩ n).run P w = .ok vs'.toArray w ∧ All2 (L2 ι) vs vs' ∧ vs.length = n := by
  unfold readN readRow at hr
  cases e : s.heap[b]? with
  | none => simp [e] at hr
  | some B =>
    cases B with
    | map => simp [e] at hr
    | row n' cells st =>
      have hst : st ≠ .dead := by intro hd; subst hd; simp [e] at hr
      have hr' : (if off + n ≤ cells.length then some ((cells.drop off).take n) else none) = some vs := by
        cases st <;> simp_all
      split at hr'
      case isFalse => cases hr'
      rename_i hle
      cases hr'
      obtain ⟨cs, e', fz, hw, _, _, h3⟩ := h.row b n' cells st e hst lc hx
      have hcs : ∀ i, i < cells.length → lc.off + i < cs.size := fun i hi => by
        obtain ⟨v', hv', _⟩ := h3 i cells[i] (by simp [hi])
        exact (Array.getElem?_eq_some_iff.1 hv').1
      have hl : n = 0 ∨ lc.off + off + n ≤ cs.size := by
        by_cases h0 : n = 0
        · exact .inl h0
        · have := hcs (off + n - 1) (by omega); right; omega
      refine ⟨_, run_loadCells_of hw hl, ?_, by simp; omega⟩
      refine All2.of_get (by simp; omega) fun i a a' ha ha' => ?_
      have hin : i < n := by have := (List.getElem?_eq_some_iff.1 ha).1; simp at this; omega
      rw [List.getElem?_take_of_lt hin, List.getElem?_drop] at ha ha'
      obtain ⟨v', hv', hrel⟩ := h3 (off + i) a ha
      have : cs[lc.off + off + i]? = some a' := by simpa using ha'
      rw [show lc.off + off + i = lc.off + (off + i) by omega, hv'] at this
      cases this
      exact hrel

theorem Sim.read1 {wb : Nat} {ι : Emb} {s : St} {w : World} (h : Sim wb ι s.heap w) {b off : Nat} {lc : Loc} {v : Value} (hr : ((readRow s b).bind fun cells => cells[off]?) = some v) (hx : ι b = some lc) :
    ∃ v', w.cell? ⟨lc.blk, lc.off + off, none⟩ = some v' ∧ L2 ι v v' := by
  unfold readRow at hr
  cases e : s.heap[b]? with
  | none => simp [e] at hr
  | some B =>
    cases B with
    | map => simp [e] at hr
    | row n' cells st =>
      have hst : st ≠ .dead := by intro hd; subst hd; simp [e] at hr
      have hr' : cells[off]? = some v := by cases st <;> simp_all
      obtain ⟨cs, e', fz, hw, _, _, h3⟩ := h.row b n' cells st e hst lc hx
      obtain ⟨v', hv', hrel⟩ := h3 off v hr'
      exact ⟨v', by rw [cell?_of hw]; exact hv', hrel⟩

end Go.Proofs.Ytamaapapaiopiaa.Ab
