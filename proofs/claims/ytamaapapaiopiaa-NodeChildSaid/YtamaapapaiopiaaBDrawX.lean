/- Regions whose order is open: what holds when some operations have run. -/
import Derived.Test.YtamaapapaiopiaaBDrawO
set_option linter.unusedVariables false
set_option linter.unusedSimpArgs false
set_option linter.unusedSectionVars false
namespace Go.Proofs.Ytamaapapaiopiaa.Ab
open Go

/-! ### The last of those before n -/
open Classical in
noncomputable def last (p : Nat → Prop) : Nat → Nat
  | 0 => 0
  | k + 1 => if p k then k + 1 else last p k

theorem last_le (p : Nat → Prop) : ∀ n, last p n ≤ n
  | 0 => Nat.le_refl _
  | k + 1 => by
    unfold last
    split
    · exact Nat.le_refl _
    · exact Nat.le_succ_of_le (last_le p k)
theorem last_no {p : Nat → Prop} : ∀ {n k : Nat}, last p n ≤ k → k < n → ¬ p k
  | 0, k, _, h => absurd h (by omega)
  | n + 1, k, h, hk => by
    unfold last at h
    split at h
    · omega
    · rename_i hp
      by_cases hkn : k = n
      · exact hkn ▸ hp
      · exact last_no h (by omega)
theorem last_is {p : Nat → Prop} : ∀ {n k : Nat}, last p n = k + 1 → p k
  | 0, k, h => by simp [last] at h
  | n + 1, k, h => by
    unfold last at h
    split at h
    · rename_i hp; cases h; exact hp
    · exact last_is h
theorem last_eq {p : Nat → Prop} {n k : Nat} (hk : k < n) (hp : p k) (hno : ∀ i, k < i → i < n → ¬ p i) : last p n = k + 1 := by
  induction n with
  | zero => omega
  | succ n ih =>
    unfold last
    by_cases hkn : k = n
    · subst hkn; rw [if_pos hp]
    · rw [if_neg (hno n (by omega) (by omega))]
      exact ih (by omega) fun i h1 h2 => hno i h1 (by omega)
theorem last_congr {p q : Nat → Prop} {n : Nat} (h : ∀ k, k < n → (p k ↔ q k)) : last p n = last q n := by
  induction n with
  | zero => rfl
  | succ n ih =>
    unfold last
    rw [ih fun k hk => h k (by omega)]
    by_cases hp : p n
    · rw [if_pos hp, if_pos ((h n (by omega)).1 hp)]
    · rw [if_neg hp, if_neg fun hq => hp ((h n (by omega)).2 hq)]

/-! ### An embedding cut off -/
def Emb.cut (ι : Emb) (n : Nat) : Emb := fun b => if b < n then ι b else none
theorem Emb.cut_some {ι : Emb} {n b : Nat} {x : Loc} : ι.cut n b = some x ↔ b < n ∧ ι b = some x := by
  unfold Emb.cut
  split <;> simp [*]
theorem Emb.cut_le (ι : Emb) (n : Nat) : (ι.cut n).le ι := fun _ _ h => (Emb.cut_some.1 h).2
theorem Emb.cut_mono {ι κ : Emb} {n m : Nat} (h : ι.le κ) (hn : n ≤ m) : (ι.cut n).le (κ.cut m) := fun b x e => by
  obtain ⟨h1, h2⟩ := Emb.cut_some.1 e
  exact Emb.cut_some.2 ⟨by omega, h b x h2⟩

namespace DTrace
variable {P : Program} {call : Caller} {tn : Tn} {ops : Array Oper} (t : DTrace P call tn ops)

def L (i : Nat) : Nat := (t.H i).length
/-- the operation writes or makes the block -/
def wr (k b : Nat) : Prop := (b < t.L k ∧ t.view k b = .see) ∨ (t.L k ≤ b ∧ b < t.L (k + 1))
def sets (_ : DTrace P call tn ops) (k x : Nat) : Prop := ∃ o, ops[k]? = some o ∧ x ∈ setsB tn o
noncomputable def ver (D : Nat → Prop) (b : Nat) : Nat := last (fun k => D k ∧ t.wr k b) ops.size
noncomputable def verT (D : Nat → Prop) (x : Nat) : Nat := last (fun k => D k ∧ t.sets k x) ops.size
noncomputable def HD (D : Nat → Prop) (b : Nat) : Option Blk := (t.H (t.ver D b))[b]?
def cre (D : Nat → Prop) (b : Nat) : Prop := b < t.L 0 ∨ ∃ k, k < ops.size ∧ D k ∧ t.L k ≤ b ∧ b < t.L (k + 1)

theorem get {k : Nat} (h : k < ops.size) : ∃ o, ops[k]? = some o := ⟨ops[k], Array.getElem?_eq_getElem h⟩
theorem L_succ {k : Nat} (h : k < ops.size) : t.L k ≤ t.L (k + 1) := by
  obtain ⟨o, ho⟩ := get h
  obtain ⟨_, _, _, _, _, _, _, h6⟩ := t.step k o ho
  exact h6
theorem L_mono {i j : Nat} (h : i ≤ j) (hj : j ≤ ops.size) : t.L i ≤ t.L j := by
  induction j with
  | zero => rw [Nat.le_zero.1 h]; exact Nat.le_refl _
  | succ j ih =>
    by_cases he : i = j + 1
    · rw [he]; exact Nat.le_refl _
    · exact Nat.le_trans (ih (by omega) (by omega)) (t.L_succ (by omega))

theorem frame1 {k b : Nat} (h : k < ops.size) (hn : ¬ t.wr k b) : (t.H (k + 1))[b]? = (t.H k)[b]? := by
  obtain ⟨o, ho⟩ := get h
  obtain ⟨_, R, _, _, _, h4, h5, h6⟩ := t.step k o ho
  by_cases hb : b < (t.H k).length
  · rw [h4 b hb, if_neg fun hv => hn (.inl ⟨hb, hv⟩)]
  · have hb2 : ¬ b < (t.H (k + 1)).length := fun hb2 => hn (.inr ⟨by unfold L; omega, hb2⟩)
    rw [List.getElem?_eq_none (by omega), List.getElem?_eq_none (by omega)]
theorem frame {b i : Nat} : ∀ {j : Nat}, i ≤ j → j ≤ ops.size → (∀ k, i ≤ k → k < j → ¬ t.wr k b) → (t.H j)[b]? = (t.H i)[b]?
  | 0, h, _, _ => by rw [Nat.le_zero.1 h]
  | j + 1, h, hj, hn => by
    by_cases he : i = j + 1
    · rw [he]
    · rw [t.frame1 (by omega) (hn j (by omega) (by omega))]
      exact frame (by omega) (by omega) fun k h1 h2 => hn k h1 (by omega)
theorem frameT1 {k x : Nat} (h : k < ops.size) (hn : ¬ t.sets k x) : t.Tr (k + 1) x = t.Tr k x := by
  obtain ⟨o, ho⟩ := get h
  obtain ⟨_, _, h1, _⟩ := t.step k o ho
  exact oneB_frame h1 fun hx => hn ⟨o, ho, hx⟩
theorem frameT {x i : Nat} : ∀ {j : Nat}, i ≤ j → j ≤ ops.size → (∀ k, i ≤ k → k < j → ¬ t.sets k x) → t.Tr j x = t.Tr i x
  | 0, h, _, _ => by rw [Nat.le_zero.1 h]
  | j + 1, h, hj, hn => by
    by_cases he : i = j + 1
    · rw [he]
    · rw [t.frameT1 (by omega) (hn j (by omega) (by omega))]
      exact frameT (by omega) (by omega) fun k h1 h2 => hn k h1 (by omega)

/-- who has run: with each its predecessors; and the next -/
structure Next (D : Nat → Prop) (j : Nat) : Prop where
  lt : j < ops.size
  down : ∀ i k, k < ops.size → D k → t.bef i k → D i
  not : ¬ D j
  all : ∀ i, t.bef i j → D i

variable {t}
variable {D : Nat → Prop} {j : Nat}
theorem Next.free (h : t.Next D j) {k : Nat} (hk : k < ops.size) (hc : (D k ∧ j < k) ∨ (¬ D k ∧ k < j)) : k ≠ j ∧ ¬ (t.bef k j ∨ t.bef j k) := by
  refine ⟨by rcases hc with h | h <;> omega, ?_⟩
  rintro (hb | hb)
  · have := t.lt k j h.lt hb
    rcases hc with ⟨h1, h2⟩ | ⟨h1, h2⟩
    · omega
    · exact h1 (h.all k hb)
  · have := t.lt j k hk hb
    rcases hc with ⟨h1, h2⟩ | ⟨h1, h2⟩
    · exact h.not (h.down j k hk h1 hb)
    · omega

theorem Next.nowr (h : t.Next D j) {b k : Nat} (hb : b < t.L j) (hc : t.cre D b) (hv : t.view j b ≠ .dead) (hk : k < ops.size) (hx : (D k ∧ j < k) ∨ (¬ D k ∧ k < j)) : ¬ t.wr k b := by
  obtain ⟨hne, hno⟩ := h.free hk hx
  rintro (⟨h1, h2⟩ | ⟨h1, h2⟩)
  · exact hv (t.conf k j hk h.lt hne hno b h2)
  · rcases hx with ⟨h3, h4⟩ | ⟨h3, h4⟩
    · have := t.L_mono (i := j) (j := k) (by omega) (by omega)
      omega
    · rcases hc with hc | ⟨k', hk', hD, h5, h6⟩
      · have := t.L_mono (i := 0) (j := k) (by omega) (by omega)
        omega
      · have : k' = k := by
          rcases Nat.lt_trichotomy k' k with hlt | he | hlt
          · have := t.L_mono (i := k' + 1) (j := k) (by omega) (by omega); omega
          · exact he
          · have := t.L_mono (i := k + 1) (j := k') (by omega) (by omega); omega
        exact h3 (this ▸ hD)

theorem Next.agree (h : t.Next D j) {b : Nat} (hb : b < t.L j) (hc : t.cre D b) (hv : t.view j b ≠ .dead) : t.ver D b ≤ j ∧ t.HD D b = (t.H j)[b]? := by
  have hle : t.ver D b ≤ j := by
    rcases Nat.lt_or_ge j (t.ver D b) with hgt | hle
    · exfalso
      have hlt := last_le (fun k => D k ∧ t.wr k b) ops.size
      have hp := last_is (p := fun k => D k ∧ t.wr k b) (n := ops.size) (k := t.ver D b - 1) (by show t.ver D b = _; omega)
      have hlt2 : t.ver D b ≤ ops.size := hlt
      by_cases he : t.ver D b - 1 = j
      · exact h.not (he ▸ hp.1)
      · exact h.nowr hb hc hv (by omega) (.inl ⟨hp.1, by omega⟩) hp.2
    · exact hle
  refine ⟨hle, ?_⟩
  have hj := h.lt
  refine (t.frame hle (by omega) fun k h1 h2 hw => ?_).symm
  by_cases hD : D k
  · exact last_no (p := fun k => D k ∧ t.wr k b) (n := ops.size) h1 (by omega) ⟨hD, hw⟩
  · exact h.nowr hb hc hv (by omega) (.inr ⟨hD, h2⟩) hw

theorem Next.nosets (h : t.Next D j) {o : Oper} (ho : ops[j]? = some o) {x k : Nat} (hx : x ∈ namesB tn ops o) (hk : k < ops.size) (hc : (D k ∧ j < k) ∨ (¬ D k ∧ k < j)) : ¬ t.sets k x := by
  obtain ⟨hne, hno⟩ := h.free hk hc
  rintro ⟨q, hq, hd⟩
  exact t.tmp k j q o hq ho hne hno x hd hx

theorem Next.agreeT (h : t.Next D j) {o : Oper} (ho : ops[j]? = some o) {x : Nat} (hx : x ∈ namesB tn ops o) : t.verT D x ≤ j ∧ t.Tr (t.verT D x) x = t.Tr j x := by
  have hle : t.verT D x ≤ j := by
    rcases Nat.lt_or_ge j (t.verT D x) with hgt | hle
    · exfalso
      have hlt := last_le (fun k => D k ∧ t.sets k x) ops.size
      have hp := last_is (p := fun k => D k ∧ t.sets k x) (n := ops.size) (k := t.verT D x - 1) (by show t.verT D x = _; omega)
      have hlt2 : t.verT D x ≤ ops.size := hlt
      by_cases he : t.verT D x - 1 = j
      · exact h.not (he ▸ hp.1)
      · exact h.nosets ho hx (by omega) (.inl ⟨hp.1, by omega⟩) hp.2
    · exact hle
  refine ⟨hle, ?_⟩
  have hj := h.lt
  refine (t.frameT hle (by omega) fun k h1 h2 hw => ?_).symm
  by_cases hD : D k
  · exact last_no (p := fun k => D k ∧ t.sets k x) (n := ops.size) h1 (by omega) ⟨hD, hw⟩
  · exact h.nosets ho hx (by omega) (.inr ⟨hD, h2⟩) hw

/-- who has run, with one more -/
def plus (D : Nat → Prop) (j : Nat) (k : Nat) : Prop := D k ∨ k = j

theorem Next.ver_wr (h : t.Next D j) {b : Nat} (hw : t.wr j b) : t.ver (plus D j) b = j + 1 := by
  refine last_eq h.lt ⟨.inr rfl, hw⟩ fun k h1 h2 h3 => ?_
  rcases h3 with ⟨hD | rfl, hk⟩
  · obtain ⟨hne, hno⟩ := h.free h2 (.inl ⟨hD, h1⟩)
    have hno' : ¬ (t.bef j k ∨ t.bef k j) := fun hh => hno hh.symm
    rcases hw with ⟨g1, g2⟩ | ⟨g1, g2⟩
    · rcases hk with ⟨f1, f2⟩ | ⟨f1, f2⟩
      · have := t.conf j k h.lt h2 (Ne.symm hne) hno' b g2
        rw [f2] at this; cases this
      · have := t.L_mono (i := j) (j := k) (by omega) (by omega)
        omega
    · rcases hk with ⟨f1, f2⟩ | ⟨f1, f2⟩
      · exact t.late k j h2 h.lt hne hno b f2 g1 g2
      · have := t.L_mono (i := j + 1) (j := k) (by omega) (by omega)
        omega
  · omega
theorem Next.ver_not (h : t.Next D j) {b : Nat} (hw : ¬ t.wr j b) : t.ver (plus D j) b = t.ver D b := by
  refine last_congr fun k hk => ⟨fun ⟨h1, h2⟩ => ⟨?_, h2⟩, fun ⟨h1, h2⟩ => ⟨.inl h1, h2⟩⟩
  rcases h1 with h1 | rfl
  · exact h1
  · exact absurd h2 hw
theorem Next.verT_set (h : t.Next D j) {o : Oper} (ho : ops[j]? = some o) {x : Nat} (hx : x ∈ setsB tn o) : t.verT (plus D j) x = j + 1 := by
  refine last_eq h.lt ⟨.inr rfl, o, ho, hx⟩ fun k h1 h2 h3 => ?_
  rcases h3 with ⟨hD | rfl, hk⟩
  · exact h.nosets ho (by unfold namesB; simp [hx]) h2 (.inl ⟨hD, h1⟩) hk
  · omega
theorem Next.verT_not (h : t.Next D j) {x : Nat} (hw : ¬ t.sets j x) : t.verT (plus D j) x = t.verT D x := by
  refine last_congr fun k hk => ⟨fun ⟨h1, h2⟩ => ⟨?_, h2⟩, fun ⟨h1, h2⟩ => ⟨.inl h1, h2⟩⟩
  rcases h1 with h1 | rfl
  · exact h1
  · exact absurd h2 hw
end DTrace

theorem NRel.mono {tn : Tn} {n : Nat} {ι κ : Emb} (hi : ι.le κ) {lam : Lam} {w : World} {tmps : Array Value} {x : Nat} {u : Value} (h : NRel tn n ι lam w tmps x u) : NRel tn n κ lam w tmps x u := by
  unfold NRel at h ⊢
  split
  · rename_i hx
    rw [if_pos hx] at h
    cases hl : look x tn with
    | none => rw [hl] at h; exact VRel.mono hi h
    | some j => rw [hl] at h; exact h
  · rename_i hx
    rw [if_neg hx] at h
    intro cells hc
    obtain ⟨blk, cs, e, fz, h1, h2, h3, h4⟩ := h cells hc
    exact ⟨blk, cs, e, fz, h1, h2, h3, h4.mono fun _ _ => L2.mono hi⟩
/-- what an operation doesn't set stays as it is, under any embedding -/
theorem NRel.keep2 {tn : Tn} {n wb lo : Nat} {ι ι2 : Emb} {lam : Lam} {H : List Blk} {w : World} {T : Fr} {sets : List Nat} {ι' : Emb} {lam' : Lam} {K : List Blk} {w' : World} {T' : Fr} {tmps tmps' : Array Value} (h : AfterL tn n wb lo ι lam H w T sets ι' lam' K w' T' tmps')
    {x : Nat} (hx : x ∉ sets) (ht : tmps'.getD x undef = tmps.getD x undef) {u : Value} (hr : NRel tn n ι2 lam w tmps x u) : NRel tn n ι2 lam' w' tmps' x u := by
  unfold NRel at hr ⊢
  split
  · rename_i hxn
    rw [if_pos hxn] at hr
    rw [ht]
    cases hl : look x tn with
    | none => rw [hl] at hr; exact hr
    | some j =>
      rw [hl] at hr
      rcases hr with h1 | ⟨off, blk, h1, h2, h3⟩
      · exact .inl h1
      · exact .inr ⟨off, blk, h1, by rw [h.keepP x j hl hx]; exact h2, h3⟩
  · rename_i hxn
    rw [if_neg hxn] at hr
    intro cells hc
    obtain ⟨blk, cs, e, fz, h1, h2, h3, h4⟩ := hr cells hc
    obtain ⟨g1, g2⟩ := h.keepL x blk h1 hx
    exact ⟨blk, cs, e, fz, g1, by rw [g2]; exact h2, h3, h4⟩

theorem ownB_cases {x : Option Blk} (h : ownB x = true) : (∃ n cells, x = some (.row n cells .act)) ∨ (∃ es clock, x = some (.map es clock)) := by
  unfold ownB at h
  split at h
  · exact .inl ⟨_, _, rfl⟩
  · exact .inr ⟨_, _, rfl⟩
  · cases h

theorem entRel_mono {ι κ : Emb} (hi : ι.le κ) {x : Value × Value × Nat} {e : MapEntry} (h : entRel ι x e) : entRel κ x e := ⟨h.1, h.2.1, h.2.2.1.mono hi, h.2.2.2⟩

section
variable {P : Program} {call : Caller} {tn : Tn} {n : Nat} {ops : Array Oper} (t : DTrace P call tn ops)

structure DInv (n wb : Nat) (D : Nat → Prop) (ι0 : Emb) (H0 : List Blk) (w0 : World) (ι : Emb) (lam : Lam) (w : World) (tmps : Array Value) : Prop where
  dom : ∀ b x, ι b = some x → t.cre D b
  row : ∀ b n cells st, t.HD D b = some (.row n cells st) → st ≠ .dead → ∀ l, ι b = some l →
    ∃ cs e fz, w.heap[l.blk]? = some (.cells cs e fz) ∧ (st = .ro → l.blk < wb) ∧ (st = .act → wb ≤ l.blk ∧ l.n = n ∧ l.z = cs.size ∧ fzOk n fz cs.size) ∧
      ∀ (i : Nat) (v : Value), cells[i]? = some v → ∃ v' : Value, cs[l.off + i]? = some v' ∧ L2 (ι.cut (t.L (t.ver D b))) v v'
  map : ∀ b es clock, t.HD D b = some (.map es clock) → ∀ l, ι b = some l →
    wb ≤ l.blk ∧ (l.n = 0 ∧ l.off ≤ l.z) ∧ ∃ es', w.heap[l.blk]? = some (.map es' clock) ∧ All2 (entRel (ι.cut (t.L (t.ver D b)))) es es'.toList
  excl : ∀ a b, ownB (t.HD D a) = true → ownB (t.HD D b) = true → a ≠ b → ∀ x y, ι a = some x → ι b = some y → x.blk ≠ y.blk
  size : wb ≤ w.heap.size
  loc : ∀ b n cells st, t.HD D b = some (.row n cells st) → st ≠ .dead → ∀ l, ι b = some l → l.n = n ∧ l.off ≤ l.z
  le : ι0.le ι
  old : ∀ b, b < H0.length → ι b = ι0 b
  img : ∀ b x, ι b = some x → H0.length ≤ b → w0.heap.size ≤ x.blk ∨ ∃ a y, ownB H0[a]? = true ∧ ι0 a = some y ∧ y.blk = x.blk
  keep : ∀ c, c < w0.heap.size → (∀ a y, ownB H0[a]? = true → ι0 a = some y → y.blk ≠ c) → w.heap[c]? = w0.heap[c]?
  size0 : w0.heap.size ≤ w.heap.size
  os : w.os = w0.os
  tape : w.tape = w0.tape
  output : w.output = w0.output
  own : ∀ a, a < H0.length → ownB (t.HD D a) = true → ownB H0[a]? = true
  lo : ∀ j b, lam j = some b → w0.heap.size ≤ b ∧ b < w.heap.size
  lexcl : ∀ j b, lam j = some b → ∀ a y, ownB (t.HD D a) = true → ι a = some y → y.blk ≠ b
  linj : ∀ i j b, lam i = some b → lam j = some b → i = j
  nm : ∀ x, NRel tn n (ι.cut (t.L (t.verT D x))) lam w tmps x (t.Tr (t.verT D x) x)

variable {t}
variable {wb : Nat} {D : Nat → Prop} {j : Nat} {ι0 ι κ : Emb} {H0 : List Blk} {lam lam' : Lam} {w0 w w' : World} {tmps : Array Value}

theorem DInv.lt (h : DInv t n wb D ι0 H0 w0 ι lam w tmps) {b : Nat} (ho : ownB (t.HD D b) = true) {l : Loc} (hl : ι b = some l) : l.blk < w.heap.size ∧ wb ≤ l.blk := by
  rcases ownB_cases ho with ⟨n, cells, e⟩ | ⟨es, clock, e⟩
  · obtain ⟨cs, _, _, h1, _, h3, _⟩ := h.row b n cells .act e (by simp) l hl
    exact ⟨(Array.getElem?_eq_some_iff.1 h1).1, (h3 rfl).1⟩
  · obtain ⟨h1, _, es', h2, _⟩ := h.map b es clock e l hl
    exact ⟨(Array.getElem?_eq_some_iff.1 h2).1, h1⟩

/-- memory as the next operation sees it -/
structure Seen (t : DTrace P call tn ops) (j : Nat) (Hv : List Blk) : Prop where
  len : Hv.length = t.L j
  get : ∀ b, Hv[b]? = ((t.H j)[b]?).map (viewB (t.view j b))

theorem Seen.own {Hv : List Blk} (hv : Seen t j Hv) {a : Nat} (h : ownB Hv[a]? = true) : t.view j a = .see ∧ a < t.L j ∧ Hv[a]? = (t.H j)[a]? := by
  have hlt : a < t.L j := by
    rw [← hv.len]
    rcases Nat.lt_or_ge a Hv.length with hh | hh
    · exact hh
    · rw [List.getElem?_eq_none hh] at h; cases h
  rw [hv.get a] at h ⊢
  cases hvw : t.view j a with
  | see => exact ⟨rfl, hlt, by cases (t.H j)[a]? <;> rfl⟩
  | frz =>
    rw [hvw] at h
    cases hb : (t.H j)[a]? with
    | none => rw [hb] at h; cases h
    | some x =>
      rw [hb] at h
      cases x with
      | row n c st => cases st <;> cases h
      | map => cases h
  | dead =>
    rw [hvw] at h
    cases hb : (t.H j)[a]? with
    | none => rw [hb] at h; cases h
    | some x =>
      rw [hb] at h
      cases x with
      | row n c st => cases h
      | map => cases h

theorem Seen.ownD {Hv : List Blk} (hv : Seen t j Hv) (h : DInv t n wb D ι0 H0 w0 ι lam w tmps) (hn : t.Next D j) {a : Nat} {y : Loc} (ha : ownB Hv[a]? = true) (hy : ι.cut (t.L j) a = some y) :
    t.view j a = .see ∧ a < t.L j ∧ ι a = some y ∧ ownB (t.HD D a) = true := by
  obtain ⟨h1, h2, h3⟩ := hv.own ha
  obtain ⟨_, hy2⟩ := Emb.cut_some.1 hy
  refine ⟨h1, h2, hy2, ?_⟩
  rw [(hn.agree h2 (h.dom a y hy2) (by rw [h1]; simp)).2, ← h3]
  exact ha

/-- what stays a block of its own -/
theorem Seen.far {Hv : List Blk} (hv : Seen t j Hv) (h : DInv t n wb D ι0 H0 w0 ι lam w tmps) (hn : t.Next D j) {a b : Nat} {y l : Loc} (ha : ownB Hv[a]? = true) (hy : ι.cut (t.L j) a = some y)
    (hw : ¬ t.wr j b) (hl : ι b = some l) (hb : ownB (t.HD D b) = true ∨ l.blk < wb) : y.blk ≠ l.blk := by
  obtain ⟨h1, h2, h3, h4⟩ := hv.ownD h hn ha hy
  rcases hb with hb | hb
  · have hne : a ≠ b := fun e => hw (.inl ⟨e ▸ h2, e ▸ h1⟩)
    exact h.excl a b h4 hb hne y l h3 hl
  · have := (h.lt h4 h3).2
    omega

theorem DInv.sees (h : DInv t n wb D ι0 H0 w0 ι lam w tmps) (hn : t.Next D j) {Hv : List Blk} (hv : Seen t j Hv) :
    ∃ wv, wb ≤ wv ∧ wv ≤ w.heap.size ∧ ((∀ b, t.view j b ≠ .see) ∧ wv = w.heap.size ∨ wv = wb) ∧ Sim wv (ι.cut (t.L j)) Hv w := by
  have main : ∀ wv, wb ≤ wv → wv ≤ w.heap.size → (((∀ b, t.view j b ≠ .see) ∧ wv = w.heap.size) ∨ ((∀ b, t.view j b ≠ .frz) ∧ wv = wb)) → Sim wv (ι.cut (t.L j)) Hv w := by
    intro wv h1 h2 h3
    have hrow : ∀ b n cells st, Hv[b]? = some (.row n cells st) → st ≠ .dead → ∀ l, ι.cut (t.L j) b = some l → ι b = some l ∧ t.ver D b ≤ j ∧ ∃ st0, t.HD D b = some (.row n cells st0) ∧ st0 ≠ .dead ∧
        ((t.view j b = .see ∧ st0 = st) ∨ (t.view j b = .frz ∧ st = .ro)) := by
      intro b n cells st hb hst l hl
      obtain ⟨hlt, hl2⟩ := Emb.cut_some.1 hl
      rw [hv.get b] at hb
      cases hx : (t.H j)[b]? with
      | none => rw [hx] at hb; cases hb
      | some x =>
        rw [hx] at hb
        simp only [Option.map_some, Option.some.injEq] at hb
        have hvw : t.view j b ≠ .dead := by
          intro e
          rw [e] at hb
          cases x with
          | row n' c' st' => simp [viewB, deadB] at hb; exact hst hb.2.2.symm
          | map => simp [viewB, deadB] at hb; exact hst hb.2.2.symm
        obtain ⟨g1, g2⟩ := hn.agree hlt (h.dom b l hl2) hvw
        rw [hx] at g2
        refine ⟨hl2, g1, ?_⟩
        cases hvj : t.view j b with
        | see => rw [hvj] at hb; simp only [viewB] at hb; subst hb; exact ⟨st, g2, hst, .inl ⟨rfl, rfl⟩⟩
        | dead => exact absurd hvj hvw
        | frz =>
          rw [hvj] at hb
          cases x with
          | map => simp [viewB, frzB] at hb; exact absurd hb.2.2.symm hst
          | row n' c' st' =>
            cases st' with
            | act => simp [viewB, frzB] at hb; obtain ⟨rfl, rfl, rfl⟩ := hb; exact ⟨.act, g2, by simp, .inr ⟨rfl, rfl⟩⟩
            | ro => simp [viewB, frzB] at hb; obtain ⟨rfl, rfl, rfl⟩ := hb; exact ⟨.ro, g2, by simp, .inr ⟨rfl, rfl⟩⟩
            | dead => simp [viewB, frzB] at hb; exact absurd hb.2.2.symm hst
    constructor
    · intro b x hx; rw [hv.len]; exact (Emb.cut_some.1 hx).1
    · intro b n cells st hb hst l hl
      obtain ⟨hl2, hver, st0, g1, g2, g3⟩ := hrow b n cells st hb hst l hl
      obtain ⟨cs, e, fz, q1, q2, q3, q4⟩ := h.row b n cells st0 g1 g2 l hl2
      have hlt : l.blk < w.heap.size := by
        rcases Nat.lt_or_ge l.blk w.heap.size with hh | hh
        · exact hh
        · rw [Array.getElem?_eq_none hh] at q1; cases q1
      refine ⟨cs, e, fz, q1, fun hro => ?_, fun hact => ?_, fun i v hi => ?_⟩
      · rcases h3 with ⟨_, rfl⟩ | ⟨hnf, rfl⟩
        · exact hlt
        · rcases g3 with ⟨_, rfl⟩ | ⟨hf, _⟩
          · exact q2 hro
          · exact absurd hf (hnf b)
      · rcases g3 with ⟨hs, rfl⟩ | ⟨_, rfl⟩
        · obtain ⟨p1, p2⟩ := q3 hact
          rcases h3 with ⟨hns, _⟩ | ⟨_, rfl⟩
          · exact absurd hs (hns b)
          · exact ⟨p1, p2⟩
        · cases hact
      · obtain ⟨v', p1, p2⟩ := q4 i v hi
        exact ⟨v', p1, p2.mono (Emb.cut_mono (.refl _) (t.L_mono hver (Nat.le_of_lt hn.lt)))⟩
    · intro b es clock hb l hl
      obtain ⟨s1, s2, s3⟩ := hv.own (a := b) (by rw [hb]; rfl)
      obtain ⟨hlt, hl2⟩ := Emb.cut_some.1 hl
      obtain ⟨g1, g2⟩ := hn.agree hlt (h.dom b l hl2) (by rw [s1]; simp)
      rw [← s3, hb] at g2
      obtain ⟨q1, q2, es', q3, q4⟩ := h.map b es clock g2 l hl2
      refine ⟨?_, q2, es', q3, q4.mono fun x e => entRel_mono (Emb.cut_mono (.refl _) (t.L_mono g1 (Nat.le_of_lt hn.lt)))⟩
      rcases h3 with ⟨hns, _⟩ | ⟨_, rfl⟩
      · exact absurd s1 (hns b)
      · exact q1
    · intro a b ha hb hne x y hx hy
      obtain ⟨_, _, x1, x2⟩ := hv.ownD h hn ha hx
      obtain ⟨_, _, y1, y2⟩ := hv.ownD h hn hb hy
      exact h.excl a b x2 y2 hne x y x1 y1
    · exact h2
    · intro b n cells st hb hst l hl
      obtain ⟨hl2, _, st0, g1, g2, _⟩ := hrow b n cells st hb hst l hl
      exact h.loc b n cells st0 g1 g2 l hl2
  rcases t.uni j with hu | hu
  · exact ⟨w.heap.size, h.size, Nat.le_refl _, .inl ⟨hu, rfl⟩, main _ h.size (Nat.le_refl _) (.inl ⟨hu, rfl⟩)⟩
  · exact ⟨wb, Nat.le_refl _, h.size, .inr rfl, main _ (Nat.le_refl _) h.size (.inr ⟨hu, rfl⟩)⟩

/-- the embedding behind an operation -/
def joined (t : DTrace P call tn ops) (j : Nat) (ι κ : Emb) : Emb := fun b => if t.L j ≤ b ∧ b < t.L (j + 1) then κ b else ι b

theorem DInv.step (hH0 : H0.length ≤ t.L 0) (h : DInv t n wb D ι0 H0 w0 ι lam w tmps) (hn : t.Next D j) {Hv R : List Blk} (hv : Seen t j Hv) {wv : Nat} (hwv : wb ≤ wv) (hcase : (∀ b, t.view j b ≠ .see) ∧ wv = w.heap.size ∨ wv = wb) (hwb0 : wb ≤ w0.heap.size)
    (hR1 : ∀ b, b < t.L j → (t.H (j + 1))[b]? = if t.view j b = .see then R[b]? else (t.H j)[b]?) (hR2 : ∀ b, t.L j ≤ b → (t.H (j + 1))[b]? = R[b]?) (hR3 : t.L j ≤ t.L (j + 1))
    {o : Oper} (ho : ops[j]? = some o) {a : Act} (ha : a.tmps = tmps) {v' : Value} (g : AfterL tn n wv w0.heap.size (ι.cut (t.L j)) lam Hv w (t.Tr j) (setsB tn o) κ lam' R w' (t.Tr (j + 1)) (a.put o.dst v').tmps) :
    DInv t n wb (DTrace.plus D j) ι0 H0 w0 (joined t j ι κ) lam' w' (a.put o.dst v').tmps := by
  have hsim := g.sim
  have hj := hn.lt
  have hjl : t.L 0 ≤ t.L j := t.L_mono (Nat.zero_le _) (Nat.le_of_lt hj)
  have hRlen : R.length = t.L (j + 1) := by
    have h1 : Hv.length ≤ R.length := g.len
    rw [hv.len] at h1
    rcases Nat.lt_trichotomy R.length (t.L (j + 1)) with hlt | he | hlt
    · have := hR2 R.length h1
      rw [List.getElem?_eq_none (Nat.le_refl _)] at this
      rw [List.getElem?_eq_getElem (by exact hlt)] at this
      cases this
    · exact he
    · have := hR2 (t.L (j + 1)) hR3
      rw [List.getElem?_eq_none (l := t.H (j + 1)) (i := t.L (j + 1)) (Nat.le_refl _)] at this
      rw [List.getElem?_eq_getElem hlt] at this
      cases this
  have hnew : ∀ b, t.L j ≤ b → ι b ≠ none → ¬ b < t.L (j + 1) := by
    intro b hb hne hb2
    cases hx : ι b with
    | none => exact hne hx
    | some x =>
      rcases h.dom b x hx with hc | ⟨k, hk, hD, h5, h6⟩
      · omega
      · rcases Nat.lt_trichotomy k j with hlt | he | hlt
        · have := t.L_mono (i := k + 1) (j := j) (by omega) (by omega); omega
        · exact hn.not (he ▸ hD)
        · have := t.L_mono (i := j + 1) (j := k) (by omega) (by omega); omega
  have hle : ι.le (joined t j ι κ) := by
    intro b x hx
    unfold joined
    rw [if_neg]
    · exact hx
    · intro ⟨h1, h2⟩
      exact hnew b h1 (by rw [hx]; simp) h2
  have hold : ∀ b, b < t.L j → κ b = ι b := by
    intro b hb
    rw [g.old b (by rw [hv.len]; exact hb)]
    unfold Emb.cut
    rw [if_pos hb]
  have hkle : κ.le ((joined t j ι κ).cut (t.L (j + 1))) := by
    intro b x hx
    have hlt : b < t.L (j + 1) := by rw [← hRlen]; exact hsim.dom b x hx
    refine Emb.cut_some.2 ⟨hlt, ?_⟩
    unfold joined
    by_cases hb : t.L j ≤ b
    · rw [if_pos ⟨hb, hlt⟩]; exact hx
    · rw [if_neg (fun hh => hb hh.1), ← hold b (by omega)]; exact hx
  have hHw : ∀ b, t.wr j b → t.HD (DTrace.plus D j) b = R[b]? ∧ t.ver (DTrace.plus D j) b = j + 1 := by
    intro b hw
    have hver := hn.ver_wr hw
    refine ⟨?_, hver⟩
    unfold DTrace.HD
    rw [hver]
    rcases hw with ⟨h1, h2⟩ | ⟨h1, _⟩
    · rw [hR1 b h1, if_pos h2]
    · exact hR2 b h1
  have hHn : ∀ b, ¬ t.wr j b → t.HD (DTrace.plus D j) b = t.HD D b ∧ t.ver (DTrace.plus D j) b = t.ver D b := by
    intro b hw
    have hver := hn.ver_not hw
    refine ⟨?_, hver⟩
    unfold DTrace.HD
    rw [hver]
  have hκ : ∀ b x, t.wr j b → joined t j ι κ b = some x → κ b = some x := by
    intro b x hw hx
    unfold joined at hx
    split at hx
    · exact hx
    · rename_i hnot
      rcases hw with ⟨h1, _⟩ | h2
      · rw [hold b h1]; exact hx
      · exact absurd h2 hnot
  have hι : ∀ b x, ¬ t.wr j b → joined t j ι κ b = some x → ι b = some x := by
    intro b x hw hx
    unfold joined at hx
    split at hx
    · rename_i hh; exact absurd (.inr hh) hw
    · exact hx
  have hwro : ∀ b l, t.wr j b → κ b = some l → l.blk < wv → l.blk < wb := by
    intro b l hw hl hlt
    rcases hcase with ⟨hns, hwe⟩ | hwe
    · rcases hw with ⟨_, h2⟩ | ⟨h1, _⟩
      · exact absurd h2 (hns b)
      · rcases g.img b l hl (by rw [hv.len]; exact h1) with h3 | ⟨a', y, ha', _, _⟩
        · omega
        · exact absurd (hv.own ha').1 (hns a')
    · omega
  have hstay : ∀ b l, ¬ t.wr j b → ι b = some l → (ownB (t.HD D b) = true ∨ l.blk < wb) → l.blk < w.heap.size → w'.heap[l.blk]? = w.heap[l.blk]? := by
    intro b l hw hl hb hlt
    refine g.keep l.blk hlt (fun a' y ha' hy => hv.far h hn ha' hy hw hl hb) fun q hq => ?_
    rcases hb with hb | hb
    · exact h.lexcl q l.blk hq b l hb hl rfl
    · have := (h.lo q l.blk hq).1; omega
  constructor
  · intro b x hx
    by_cases hw : t.L j ≤ b ∧ b < t.L (j + 1)
    · exact .inr ⟨j, hj, .inr rfl, hw.1, hw.2⟩
    · unfold joined at hx
      rw [if_neg hw] at hx
      rcases h.dom b x hx with hc | ⟨k, hk, hD, h5⟩
      · exact .inl hc
      · exact .inr ⟨k, hk, .inl hD, h5⟩
  · intro b n cells st hb hs l hl
    by_cases hw : t.wr j b
    · obtain ⟨e1, e2⟩ := hHw b hw
      rw [e1] at hb
      rw [e2]
      have hkl := hκ b l hw hl
      obtain ⟨cs, e, fz, q1, q2, q3, q4⟩ := hsim.row b n cells st hb hs l hkl
      refine ⟨cs, e, fz, q1, fun hro => hwro b l hw hkl (q2 hro), fun hact => ⟨Nat.le_trans hwv (q3 hact).1, (q3 hact).2⟩, fun i v hi => ?_⟩
      obtain ⟨v', p1, p2⟩ := q4 i v hi
      exact ⟨v', p1, p2.mono hkle⟩
    · obtain ⟨e1, e2⟩ := hHn b hw
      rw [e1] at hb
      rw [e2]
      have hil := hι b l hw hl
      obtain ⟨cs, e, fz, q1, q2, q3, q4⟩ := h.row b n cells st hb hs l hil
      refine ⟨cs, e, fz, ?_, q2, q3, fun i v hi => ?_⟩
      · rw [hstay b l hw hil ?_ (Array.getElem?_eq_some_iff.1 q1).1]
        · exact q1
        · cases st with
          | act => left; rw [hb]; rfl
          | ro => exact .inr (q2 rfl)
          | dead => exact absurd rfl hs
      · obtain ⟨v', p1, p2⟩ := q4 i v hi
        exact ⟨v', p1, p2.mono (Emb.cut_mono hle (Nat.le_refl _))⟩
  · intro b es clock hb l hl
    by_cases hw : t.wr j b
    · obtain ⟨e1, e2⟩ := hHw b hw
      rw [e1] at hb
      rw [e2]
      obtain ⟨q1, q2, es', q3, q4⟩ := hsim.map b es clock hb l (hκ b l hw hl)
      exact ⟨Nat.le_trans hwv q1, q2, es', q3, q4.mono fun x e he => entRel_mono hkle he⟩
    · obtain ⟨e1, e2⟩ := hHn b hw
      rw [e1] at hb
      rw [e2]
      have hil := hι b l hw hl
      obtain ⟨q1, q2, es', q3, q4⟩ := h.map b es clock hb l hil
      refine ⟨q1, q2, es', ?_, q4.mono fun x e he => entRel_mono (Emb.cut_mono hle (Nat.le_refl _)) he⟩
      rw [hstay b l hw hil (.inl (by rw [hb]; rfl)) (Array.getElem?_eq_some_iff.1 q3).1]
      exact q3
  · have mixed : ∀ a b, t.wr j a → ¬ t.wr j b → ownB (t.HD (DTrace.plus D j) a) = true → ownB (t.HD (DTrace.plus D j) b) = true → ∀ x y, joined t j ι κ a = some x → joined t j ι κ b = some y → x.blk ≠ y.blk := by
      intro a b hwa hwb hoa hob x y hx hy
      rw [(hHw a hwa).1] at hoa
      rw [(hHn b hwb).1] at hob
      have hkx := hκ a x hwa hx
      have hiy := hι b y hwb hy
      by_cases hal : a < t.L j
      · have hoa2 : ownB Hv[a]? = true := g.own a (by rw [hv.len]; exact hal) hoa
        refine hv.far h hn hoa2 (Emb.cut_some.2 ⟨hal, ?_⟩) hwb hiy (.inl hob)
        rw [← hold a hal]; exact hkx
      · rcases g.img a x hkx (by rw [hv.len]; omega) with h3 | ⟨a', y', ha', hy', he⟩
        · have := (h.lt hob hiy).1
          omega
        · rw [← he]
          exact hv.far h hn ha' hy' hwb hiy (.inl hob)
    intro a b hoa hob hne x y hx hy
    by_cases hwa : t.wr j a
    · by_cases hwb : t.wr j b
      · rw [(hHw a hwa).1] at hoa
        rw [(hHw b hwb).1] at hob
        exact hsim.excl a b hoa hob hne x y (hκ a x hwa hx) (hκ b y hwb hy)
      · exact mixed a b hwa hwb hoa hob x y hx hy
    · by_cases hwb : t.wr j b
      · exact (mixed b a hwb hwa hob hoa y x hy hx).symm
      · rw [(hHn a hwa).1] at hoa
        rw [(hHn b hwb).1] at hob
        exact h.excl a b hoa hob hne x y (hι a x hwa hx) (hι b y hwb hy)
  · exact Nat.le_trans h.size g.size
  · intro b n cells st hb hs l hl
    by_cases hw : t.wr j b
    · rw [(hHw b hw).1] at hb
      exact hsim.loc b n cells st hb hs l (hκ b l hw hl)
    · rw [(hHn b hw).1] at hb
      exact h.loc b n cells st hb hs l (hι b l hw hl)
  · exact h.le.trans hle
  · intro b hb
    rw [← h.old b hb]
    unfold joined
    rw [if_neg (by omega)]
  · intro b x hx hb
    have hown : ∀ a' y', ownB Hv[a']? = true → ι.cut (t.L j) a' = some y' → w0.heap.size ≤ y'.blk ∨ ∃ a y, ownB H0[a]? = true ∧ ι0 a = some y ∧ y.blk = y'.blk := by
      intro a' y' ha' hy'
      obtain ⟨_, _, g3, g4⟩ := hv.ownD h hn ha' hy'
      by_cases hz : a' < H0.length
      · exact .inr ⟨a', y', h.own a' hz g4, by rw [← h.old a' hz]; exact g3, rfl⟩
      · exact h.img a' y' g3 (by omega)
    unfold joined at hx
    split at hx
    · rename_i hh
      rcases g.img b x hx (by rw [hv.len]; exact hh.1) with h3 | ⟨a', y', ha', hy', he⟩
      · exact .inl (Nat.le_trans h.size0 h3)
      · rw [← he]; exact hown a' y' ha' hy'
    · exact h.img b x hx hb
  · intro c hc hnc
    rw [← h.keep c hc hnc]
    refine g.keep c (Nat.lt_of_lt_of_le hc h.size0) (fun a' y' ha' hy' => ?_) fun q hq => ?_
    · obtain ⟨_, _, g3, g4⟩ := hv.ownD h hn ha' hy'
      by_cases hz : a' < H0.length
      · exact hnc a' y' (h.own a' hz g4) (by rw [← h.old a' hz]; exact g3)
      · rcases h.img a' y' g3 (by omega) with h5 | ⟨a, y, h5, h6, h7⟩
        · omega
        · rw [← h7]; exact hnc a y h5 h6
    · have := (h.lo q c hq).1; omega
  · exact Nat.le_trans h.size0 g.size
  · exact g.os.trans h.os
  · exact g.tape.trans h.tape
  · exact g.output.trans h.output
  · intro a' ha' hob
    by_cases hw : t.wr j a'
    · rw [(hHw a' hw).1] at hob
      have hal : a' < t.L j := by omega
      have h5 : ownB Hv[a']? = true := g.own a' (by rw [hv.len]; exact hal) hob
      obtain ⟨g1, g2, g3⟩ := hv.own h5
      refine h.own a' ha' ?_
      rw [(hn.agree hal (.inl (by omega)) (by rw [g1]; simp)).2, ← g3]
      exact h5
    · rw [(hHn a' hw).1] at hob
      exact h.own a' ha' hob
  · exact g.lok.lo
  · intro q b hq a' y hob hy
    by_cases hw : t.wr j a'
    · rw [(hHw a' hw).1] at hob
      exact g.lok.excl q b hq a' y hob (hκ a' y hw hy)
    · rw [(hHn a' hw).1] at hob
      have hiy := hι a' y hw hy
      rcases g.lnew q b hq with hlq | hlq
      · exact h.lexcl q b hlq a' y hob hiy
      · have := (h.lt hob hiy).1
        omega
  · exact g.lok.inj
  · intro x
    by_cases hs : t.sets j x
    · obtain ⟨o', ho', hd⟩ := hs
      rw [ho] at ho'
      cases ho'
      rw [hn.verT_set ho hd]
      exact (g.nm x hd).mono hkle
    · rw [hn.verT_not hs]
      have hxs : x ∉ setsB tn o := fun hh => hs ⟨o, ho, hh⟩
      have h1 := (h.nm x).mono (Emb.cut_mono (n := t.L (t.verT D x)) (m := t.L (t.verT D x)) hle (Nat.le_refl _))
      refine NRel.keep2 g hxs ?_ h1
      rw [← ha]
      exact tmps_ne fun hh => hxs (dst_sets hh)
end

end Go.Proofs.Ytamaapapaiopiaa.Ab
