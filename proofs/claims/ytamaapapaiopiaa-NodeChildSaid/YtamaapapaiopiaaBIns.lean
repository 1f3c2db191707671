/- slices.Insert within a slice: what the kit's walk shows of the model, told of the abstract machine. -/
import Derived.Test.YtamaapapaiopiaaBLaw
import Derived.Lib.Overlaps
import Derived.Lib.AppendZerosOnto
import Derived.Deep.DeepAppendWide
set_option linter.unusedVariables false
set_option linter.unusedSimpArgs false
set_option linter.unusedSectionVars false
namespace Go.Proofs.Ytamaapapaiopiaa.Ab
open Go

/-! ### A row is another one, at its place -/
theorem Sim.renew {wb : Nat} {ι : Emb} {H : List Blk} {w w' : World} (h : Sim wb ι H w) {b n : Nat} {lc : Loc} {cells cells2 : List Value} {cs2 : Array Value} {e : TypeId} {fz : Nat × Nat}
    (hb : H[b]? = some (.row n cells .act)) (hx : ι b = some lc) (r2 : w'.heap[lc.blk]? = some (.cells cs2 e fz)) (hz2 : lc.z = cs2.size) (hf : fzOk n fz cs2.size) (r3 : ∀ c, c ≠ lc.blk → w'.heap[c]? = w.heap[c]?)
    (r4 : w'.heap.size = w.heap.size) (r5 : w'.os = w.os) (r6 : w'.tape = w.tape) (r7 : w'.output = w.output) (hc2 : ∀ (i : Nat) (v : Value), cells2[i]? = some v → ∃ v' : Value, cs2[lc.off + i]? = some v' ∧ L2 ι v v') :
    Sim wb (ι.add H.length lc) (H.set b (.row n cells .dead) ++ [.row n cells2 .act]) w' ∧
      Step ι H w (ι.add H.length lc) (H.set b (.row n cells .dead) ++ [.row n cells2 .act]) w' := by
  obtain ⟨cs, _, _, hw, _, h2, h3⟩ := h.row b n cells .act hb (by simp) lc hx
  obtain ⟨hwb, hn1, hn2, _⟩ := h2 rfl
  have hbl : b < H.length := (List.getElem?_eq_some_iff.1 hb).1
  have hfr : ι H.length = none := h.fresh (Nat.le_refl _)
  have hle : ι.le (ι.add H.length lc) := Emb.le_add hfr
  have hkl := (h.kill (cells := cells) hb).1
  have hown : ∀ a : Nat, a < H.length → ownB (H.set b (Blk.row n cells .dead) ++ [Blk.row n cells2 .act])[a]? = true → ownB H[a]? = true ∧ a ≠ b := by
    intro a ha ho
    rw [List.getElem?_append_left (by simpa using ha)] at ho
    by_cases hab : b = a
    · subst hab; rw [List.getElem?_set_self hbl] at ho; cases ho
    · rw [List.getElem?_set_ne hab] at ho; exact ⟨ho, Ne.symm hab⟩
  have hother : ∀ a x, ι a = some x → ownB H[a]? = true → a ≠ b → x.blk ≠ lc.blk := fun a x ha ho hne => h.excl a b ho (by rw [hb]; rfl) hne x lc ha hx
  have hlen : (H.set b (Blk.row n cells .dead)).length = H.length := by simp
  have hget : ∀ (a : Nat) (B : Blk), (H.set b (Blk.row n cells .dead) ++ [Blk.row n cells2 .act])[a]? = some B → (a = H.length ∧ B = .row n cells2 .act) ∨ (a < H.length ∧ a = b ∧ B = .row n cells .dead) ∨ (a < H.length ∧ a ≠ b ∧ H[a]? = some B) := by
    intro a B hB
    by_cases ha : a < H.length
    · rw [List.getElem?_append_left (by omega)] at hB
      by_cases hab : b = a
      · subst hab; rw [List.getElem?_set_self hbl] at hB; cases hB; exact .inr (.inl ⟨ha, rfl, rfl⟩)
      · rw [List.getElem?_set_ne hab] at hB; exact .inr (.inr ⟨ha, Ne.symm hab, hB⟩)
    · have : a = H.length := by have := (List.getElem?_eq_some_iff.1 hB).1; simp at this; omega
      subst this
      rw [List.getElem?_append_right (by omega)] at hB
      simp at hB
      exact .inl ⟨rfl, hB.symm⟩
  refine ⟨⟨?_, ?_, ?_, ?_, ?_, ?_⟩, ⟨hle, ?_, ?_, ?_, by rw [r4]; exact Nat.le_refl _, r5, r6, r7, by simp, fun a ha ho => (hown a ha ho).1⟩⟩
  · intro a x ha
    simp
    by_cases hal : a = H.length
    · omega
    · rw [Emb.add_ne hal] at ha; have := h.dom a x ha; omega
  · intro a n' cells' st ha hst l hl
    rcases hget a _ ha with ⟨rfl, he⟩ | ⟨_, _, he⟩ | ⟨hal, hab, hH⟩
    · injection he with e1 e2 e3
      subst e1 e2 e3
      rw [Emb.add_same] at hl
      cases hl
      refine ⟨_, e, fz, r2, by simp, fun _ => ⟨hwb, hn1, hz2, hf⟩, fun i v hi => ?_⟩
      obtain ⟨v', hv', hr⟩ := hc2 i v hi
      exact ⟨v', hv', hr.mono hle⟩
    · injection he with _ _ e3
      exact absurd e3 hst
    · rw [Emb.add_ne (by omega)] at hl
      obtain ⟨cs', e', fz', hw', q1, q2, q3⟩ := h.row a n' cells' st hH hst l hl
      have hne : l.blk ≠ lc.blk := by
        cases st with
        | dead => exact absurd rfl hst
        | ro => have := q1 rfl; omega
        | act => exact hother a l hl (by rw [hH]; rfl) hab
      refine ⟨cs', e', fz', by rw [r3 l.blk hne]; exact hw', q1, q2, fun i v hi => ?_⟩
      obtain ⟨v', hv', hr⟩ := q3 i v hi
      exact ⟨v', hv', hr.mono hle⟩
  · intro a es clock ha l hl
    rcases hget a _ ha with ⟨_, he⟩ | ⟨_, _, he⟩ | ⟨hal, hab, hH⟩
    · cases he
    · cases he
    · rw [Emb.add_ne (by omega)] at hl
      obtain ⟨q1, qz, es', hw', q3⟩ := h.map a es clock hH l hl
      have hne : l.blk ≠ lc.blk := hother a l hl (by rw [hH]; rfl) hab
      exact ⟨q1, qz, es', by rw [r3 l.blk hne]; exact hw', q3.mono fun x e he => ⟨he.1, he.2.1, he.2.2.1.mono hle, he.2.2.2⟩⟩
  · intro a c ha hc hne x y hax hcy
    by_cases hal : a = H.length
    · subst hal
      rw [Emb.add_same] at hax
      cases hax
      have hcl : c ≠ H.length := fun e => hne e.symm
      rw [Emb.add_ne hcl] at hcy
      have hco := hown c (h.dom c y hcy) hc
      exact (hother c y hcy hco.1 hco.2).symm
    · rw [Emb.add_ne hal] at hax
      have hao := hown a (h.dom a x hax) ha
      by_cases hcl : c = H.length
      · subst hcl
        rw [Emb.add_same] at hcy
        cases hcy
        exact hother a x hax hao.1 hao.2
      · rw [Emb.add_ne hcl] at hcy
        exact h.excl a c hao.1 (hown c (h.dom c y hcy) hc).1 hne x y hax hcy
  · rw [r4]; exact h.size
  · intro a n' cells' st ha hst l hl
    rcases hget a _ ha with ⟨rfl, he⟩ | ⟨hal, hab, he⟩ | ⟨hal, hab, hH⟩
    · injection he with e1 _ _
      rw [Emb.add_same] at hl
      cases hl
      exact ⟨by rw [e1]; exact hn1, (h.loc b n cells .act hb (by simp) lc hx).2⟩
    · injection he with e1 _ _
      rw [Emb.add_ne (by omega)] at hl
      subst hab e1
      exact h.loc a n' cells .act hb (by simp) l hl
    · rw [Emb.add_ne (by omega)] at hl
      exact h.loc a n' cells' st hH hst l hl
  · intro a ha; exact Emb.add_ne (by omega)
  · intro a x ha hal
    by_cases hal2 : a = H.length
    · subst hal2
      rw [Emb.add_same] at ha
      cases ha
      exact .inr ⟨b, lc, by rw [hb]; rfl, hx, rfl⟩
    · rw [Emb.add_ne hal2] at ha
      exact absurd (h.dom a x ha) (by omega)
  · intro c hc hn
    refine r3 c fun hcb => ?_
    exact hn b lc (by rw [hb]; rfl) hx hcb.symm


/-- 'copy', out of what is read and what is written -/
theorem run_copyN {P : Program} {t e : TypeId} {n : Nat} (ht : P.underlying t = some (.slice e)) (hn : sizeT P e = some n) {W W' : World} {dst src : Addr} {dl dc sl sc k : Nat} {ty : TypeId} (hk : Nat.min sl dl = k) {new' : List Value}
    (hl : (loadCells src (k * n)).run P W = .ok new'.toArray W) (hst : (storeCells dst new').run P W = .ok () W') : (Builtin.copy_ #[t, t] ty #[.slice (some dst) dl dc, .slice (some src) sl sc]).run P W = .ok (goInt k) W' := by
  simp [Builtin.copy_, run_underlying' ht, run_sizeOf' hn, Builtin.lenOf, Builtin.firstCells, hk, hl, hst, goInt]

def gInsMid (nn wd : Nat) (x : Value) (i : Nat) (y : Value) (s : St) : Option (Value × St) :=
  match x, y with
  | .slice (some ⟨b, 0, none⟩) len cap, .slice (some ⟨b2, o2, none⟩) m c2 =>
    match s.heap[b]?, s.heap[b2]? with
    | some (.row n1 row .act), some (.row n2 row2 .act) =>
      if n1 = nn ∧ n2 = nn ∧ b ≠ b2 ∧ i < len ∧ len ≤ cap ∧ len * nn ≤ row.length ∧ 0 < m ∧ o2 + m * nn ≤ row2.length ∧ m ≤ c2 ∧ roomA (len + m) wd then
        some (.slice (some ⟨s.heap.length, 0, none⟩) (len + m) (len + m), (s.putB b (.row nn row .dead)).push (.row nn (row.take (i * nn) ++ (row2.drop o2).take (m * nn) ++ (row.take (len * nn)).drop (i * nn)) .act))
      else none
    | _, _ => none
  | _, _ => none

/-- what the walks show -/
structure InsWalk (P : Program) (f : FuncId) (t e tI ov : TypeId) (nn wd : Nat) : Prop where
  ht : P.underlying t = some (.slice e)
  hI : P.underlying tI = some (.int .i64)
  hn : sizeT P e = some nn
  hw : bytesT P e = some wd
  hz : ∃ z, zeroT P e = some z ∧ (cellsV z).length = nn
  hn2 : 2 ≤ nn
  hw0 : 0 < wd
  hov : ∀ (w : World) (a b : Addr) (la ca lb cb : Nat), a.block ≠ b.block → ∀ tA tB kA kB, w.shape? a.block = some (tA, kA) → w.shape? b.block = some (tB, kB) → kB ≠ 0 → w.frozen? a = false → w.frozen? { block := a.block, off := kA } = false →
    (callFunc ov #[.slice (some a) la ca, .slice (some b) lb cb]).run P w = .ok (.value (.bool false)) w
  walkD : ∀ (b off n c i vb voff m vc : Nat) (w : World), i < n → 0 < m → n + m ≤ c → n + m ≤ 9223372036854775807 →
    (∀ lb cb, (callFunc ov #[.slice (some ⟨vb, voff, none⟩) m vc, .slice (some ⟨b, off + (i + m) * nn, none⟩) lb cb]).run P w = .ok (.value (.bool false)) w) →
    ∀ (W1 : World) (r1 : Value), (∀ ty dc sc, (Builtin.copy_ #[t, t] ty #[.slice (some ⟨b, off + (i + m) * nn, none⟩) (n + m - (i + m)) dc, .slice (some ⟨b, off + i * nn, none⟩) (n + m - i) sc]).run P w.drew = .ok r1 W1) →
    ∀ (W2 : World) (r2 : Value), (∀ ty dc, (Builtin.copy_ #[t, t] ty #[.slice (some ⟨b, off + i * nn, none⟩) (n + m - i) dc, .slice (some ⟨vb, voff, none⟩) m vc]).run P W1 = .ok r2 W2) →
    Calls P f #[.slice (some ⟨b, off, none⟩) n c, .int .i64 i, .slice (some ⟨vb, voff, none⟩) m vc] w fun e w' => e = .returned (.slice (some ⟨b, off, none⟩) (n + m) c) ∧ w' = W2
  walkE : ∀ (b off n c i vb voff m vc : Nat) (w : World), i < n → 0 < m → n ≤ c → c < n + m → n + m ≤ 9223372036854775807 →
    ∀ (W0 : World) (N cap : Nat), n + m ≤ cap → (∀ ty, (Builtin.append_ #[t, tI] ty #[.slice (some ⟨b, off, none⟩) i c, .int .i64 ((n : Int) + (m : Int) - (i : Int))]).run P w = .ok (.slice (some ⟨N, 0, none⟩) (n + m) cap) W0) →
    ∀ (W1 : World) (r1 : Value), (∀ ty dc, (Builtin.copy_ #[t, t] ty #[.slice (some ⟨N, i * nn, none⟩) (n + m - i) dc, .slice (some ⟨vb, voff, none⟩) m vc]).run P W0 = .ok r1 W1) →
    ∀ (W2 : World) (r2 : Value), (∀ ty dc sc, (Builtin.copy_ #[t, t] ty #[.slice (some ⟨N, (i + m) * nn, none⟩) (n + m - (i + m)) dc, .slice (some ⟨b, off + i * nn, none⟩) (n - i) sc]).run P W1.drew = .ok r2 W2) →
    Calls P f #[.slice (some ⟨b, off, none⟩) n c, .int .i64 i, .slice (some ⟨vb, voff, none⟩) m vc] w fun e w' => e = .returned (.slice (some ⟨N, 0, none⟩) (n + m) cap) ∧ w' = W2

theorem fz_no {nn : Nat} {fz : Nat × Nat} {n : Nat} (h : fzOk nn fz n) (h2 : 2 ≤ nn) : fz.1 = fz.2 := by
  rcases h with h | ⟨h, _⟩
  · exact h
  · omega
theorem not_frozen {w : World} {b : Nat} {cs : Array Value} {e : TypeId} {fz : Nat × Nat} (h : w.heap[b]? = some (.cells cs e fz)) (hf : fz.1 = fz.2) (off : Nat) : w.frozen? { block := b, off := off } = false := by
  obtain ⟨lo, hi⟩ := fz
  simp only at hf
  subst hf
  simp [World.frozen?, h]

/-- cells, side by side -/
theorem mid_rel {ι : Emb} {row row2 : List Value} {cs cs2 csF : Array Value} {o o2 p i n m nn : Nat} (hrow : ∀ (j : Nat) (v : Value), row[j]? = some v → ∃ v', cs[o + j]? = some v' ∧ L2 ι v v') (hrow2 : ∀ (j : Nat) (v : Value), row2[j]? = some v → ∃ v', cs2[p + j]? = some v' ∧ L2 ι v v')
    (hi : i < n) (hl : n * nn ≤ row.length) (hl2 : o2 + m * nn ≤ row2.length) {q : Nat}
    (h1 : ∀ j, j < i * nn → csF[q + j]? = cs[o + j]?) (h2 : ∀ j, j < m * nn → csF[q + i * nn + j]? = cs2[p + o2 + j]?) (h3 : ∀ j, j < (n - i) * nn → csF[q + (i + m) * nn + j]? = cs[o + i * nn + j]?) :
    ∀ (j : Nat) (v : Value), (row.take (i * nn) ++ (row2.drop o2).take (m * nn) ++ (row.take (n * nn)).drop (i * nn))[j]? = some v → ∃ v', csF[q + j]? = some v' ∧ L2 ι v v' := by
  intro j v hj
  have e1 : i * nn ≤ n * nn := Nat.mul_le_mul_right _ (by omega)
  have e2 : (i + m) * nn = i * nn + m * nn := Nat.add_mul _ _ _
  have e3 : (n - i) * nn = n * nn - i * nn := Nat.sub_mul _ _ _
  have l1 : (row.take (i * nn)).length = i * nn := by simp; omega
  have l2 : ((row2.drop o2).take (m * nn)).length = m * nn := by simp; omega
  by_cases c1 : j < i * nn
  · rw [List.append_assoc, List.getElem?_append_left (by omega), List.getElem?_take_of_lt c1] at hj
    obtain ⟨v', g1, g2⟩ := hrow j v hj
    exact ⟨v', by rw [h1 j c1]; exact g1, g2⟩
  · by_cases c2 : j < i * nn + m * nn
    · rw [List.getElem?_append_left (by rw [List.length_append]; omega), List.getElem?_append_right (by omega), l1, List.getElem?_take_of_lt (by omega), List.getElem?_drop] at hj
      obtain ⟨v', g1, g2⟩ := hrow2 _ v hj
      refine ⟨v', ?_, g2⟩
      have := h2 (j - i * nn) (by omega)
      rw [show q + i * nn + (j - i * nn) = q + j by omega, show p + o2 + (j - i * nn) = p + (o2 + (j - i * nn)) by omega] at this
      rw [this]; exact g1
    · rw [List.getElem?_append_right (by rw [List.length_append]; omega), List.length_append, l1, l2, List.getElem?_drop] at hj
      have hlt : i * nn + (j - (i * nn + m * nn)) < n * nn := by
        have := (List.getElem?_eq_some_iff.1 hj).1
        simp at this
        omega
      rw [List.getElem?_take_of_lt hlt] at hj
      obtain ⟨v', g1, g2⟩ := hrow _ v hj
      refine ⟨v', ?_, g2⟩
      have := h3 (j - (i * nn + m * nn)) (by omega)
      rw [e2, show q + (i * nn + m * nn) + (j - (i * nn + m * nn)) = q + j by omega, show o + i * nn + (j - (i * nn + m * nn)) = o + (i * nn + (j - (i * nn + m * nn))) by omega] at this
      rw [this]; exact g1

theorem zero_size {P : Program} {e : TypeId} {ti : TypeInfo} {z : Value} {n : Nat} (hti : P.info? e = some ti) (htz : ti.zero = some z) (hz : zeroT P e = some z) (hzn : (cellsV z).length = n) : z.cells.size = n := by
  rw [← hzn, ← cellsV_cells]; simp
theorem ins_sound {P : Program} {f : FuncId} {t e tI ov : TypeId} {nn wd : Nat} (W : InsWalk P f t e tI ov nn wd) {x y v : Value} {i : Nat} {s s' : St} (hg : gInsMid nn wd x i y s = some (v, s')) {wb : Nat} {ι : Emb} {w : World} {args' : Array Value} (hs : Sim wb ι s.heap w) (ha : All2 (VRel ι) [x, .int .i64 (i : Int), y] args'.toList) :
    Calls P f args' w fun e w' => ∃ v', e = .returned v' ∧ After wb ι s.heap w s'.heap v v' w' := by
  unfold gInsMid at hg
  split at hg
  case h_2 => cases hg
  rename_i b len cap b2 o2 m c2
  split at hg
  case h_2 => cases hg
  rename_i n1 row n2 row2 hb hb2
  split at hg
  case isFalse => cases hg
  rename_i hc
  obtain ⟨rfl, rfl, hne, hi, hlc, hrl, hm, hr2, hmc, hroom⟩ := hc
  cases hg
  have hn2 := W.hn2
  have hnn : 0 < n2 := by omega
  -- the arguments
  obtain ⟨l⟩ := args'
  match l, ha with
  | [x', z', y'], ha =>
  obtain ⟨hx, hz, hy, _⟩ := ha
  obtain rfl := hz.inv_int
  rcases hx.inv_slice with ⟨lc, c', _, hlb, _, hcc, hz0, rfl⟩ | ⟨hh, _⟩
  case inr => omega
  rcases hy.inv_slice with ⟨l2, d', _, hlb2, _, hdd, _, rfl⟩ | ⟨hh, _⟩
  case inr => omega
  simp only at hlb hlb2 hz0
  obtain ⟨cs, ee, fz, hwh, _, hact, hrow⟩ := hs.row b n2 row .act hb (by simp) lc hlb
  obtain ⟨hwb, hln, hlz, hfz⟩ := hact rfl
  obtain ⟨cs2, ee2, fz2, hwh2, _, hact2, hrow2⟩ := hs.row b2 n2 row2 .act hb2 (by simp) l2 hlb2
  obtain ⟨hwb2, hln2, hlz2, hfz2⟩ := hact2 rfl
  have hblk : l2.blk ≠ lc.blk := hs.excl b2 b (by rw [hb2]; rfl) (by rw [hb]; rfl) (Ne.symm hne) l2 lc hlb2 hlb
  have hz1 := hz0 trivial
  rw [hln, hlz] at hz1
  have m1 : (len + m) * n2 = len * n2 + m * n2 := Nat.add_mul _ _ _
  have m2 : (i + m) * n2 = i * n2 + m * n2 := Nat.add_mul _ _ _
  have m3 : i * n2 + n2 ≤ len * n2 := by rw [← Nat.succ_mul]; exact Nat.mul_le_mul_right _ hi
  have m4 : (len - i) * n2 = len * n2 - i * n2 := Nat.sub_mul _ _ _
  have m5 : len * n2 ≤ c' * n2 := Nat.mul_le_mul_right _ (by omega)
  have hrow2sz : l2.off + row2.length ≤ cs2.size := by
    rcases Nat.eq_zero_or_pos row2.length with h0 | h0
    · have : 0 < m * n2 := Nat.mul_pos hm hnn
      omega
    · obtain ⟨v', g1, _⟩ := hrow2 (row2.length - 1) _ (List.getElem?_eq_getElem (by omega))
      have := (Array.getElem?_eq_some_iff.1 g1).1
      omega
  -- what is read of the second slice, in any world that has its block
  have hsrc2 : ∀ W' : World, W'.heap[l2.blk]? = w.heap[l2.blk]? → (loadCells ⟨l2.blk, l2.off + o2, none⟩ (m * n2)).run P W' = .ok ((cs2.toList.drop (l2.off + o2)).take (m * n2)).toArray W' := fun W' h' =>
    run_loadCells_of (h'.trans hwh2) (.inr (by omega))
  have hlen2 : ((cs2.toList.drop (l2.off + o2)).take (m * n2)).length = m * n2 := by simp; omega
  have hleaf2 : ((cs2.toList.drop (l2.off + o2)).take (m * n2)).all isLeaf = true := by
    rw [List.all_eq_true]
    intro v' hv'
    obtain ⟨j, hj, hjv⟩ := List.getElem_of_mem hv'
    have hj2 : j < m * n2 := by omega
    have hjr : o2 + j < row2.length := by omega
    obtain ⟨u, g1, g2⟩ := hrow2 (o2 + j) _ (List.getElem?_eq_getElem hjr)
    have : v' = u := by
      have e1 : ((cs2.toList.drop (l2.off + o2)).take (m * n2))[j]? = some v' := by rw [List.getElem?_eq_getElem hj, hjv]
      rw [List.getElem?_take_of_lt hj2, List.getElem?_drop, show l2.off + o2 + j = l2.off + (o2 + j) by omega] at e1
      rw [← Array.getElem?_toList, e1] at g1
      exact Option.some.inj g1
    subst this
    have := All2.leaf (ι := ι) (l := [row2[o2 + j]]) (m := [v']) ⟨g2, trivial⟩
    simpa using this
  have hleaf1 : ((cs.toList.drop (lc.off + 0 + i * n2)).take ((len - i) * n2)).all isLeaf = true := by
    rw [List.all_eq_true]
    intro v' hv'
    obtain ⟨j, hj, hjv⟩ := List.getElem_of_mem hv'
    have hj2 : j < (len - i) * n2 := by simp at hj; omega
    have hjr : i * n2 + j < row.length := by omega
    obtain ⟨u, g1, g2⟩ := hrow (i * n2 + j) _ (List.getElem?_eq_getElem hjr)
    have : v' = u := by
      have e1 : ((cs.toList.drop (lc.off + 0 + i * n2)).take ((len - i) * n2))[j]? = some v' := by rw [List.getElem?_eq_getElem hj, hjv]
      rw [List.getElem?_take_of_lt hj2, List.getElem?_drop, show lc.off + 0 + i * n2 + j = lc.off + (i * n2 + j) by omega] at e1
      rw [← Array.getElem?_toList, e1] at g1
      exact Option.some.inj g1
    subst this
    have := All2.leaf (ι := ι) (l := [row[i * n2 + j]]) (m := [v']) ⟨g2, trivial⟩
    simpa using this
  have hlen1 : ((cs.toList.drop (lc.off + 0 + i * n2)).take ((len - i) * n2)).length = (len - i) * n2 := by simp; omega
  have hroom48 : (len + m) * wd ≤ 281474976710656 := by
    rcases hroom with h | h
    · omega
    · exact Nat.le_trans (Nat.mul_le_mul_right _ (by omega)) h
  have hbnd : len + m ≤ 281474976710656 := by
    have : (len + m) * 1 ≤ (len + m) * wd := Nat.mul_le_mul_left _ W.hw0
    omega
  by_cases hin : len + m ≤ c'
  · -- in its place
    have m6 : (len + m) * n2 ≤ c' * n2 := Nat.mul_le_mul_right _ hin
    have hfz' := fz_no hfz hn2
    have hnof : ∀ j, j < cs.size → ¬(fz.1 ≤ j ∧ j < fz.2) := fun j _ => by omega
    have hwd : w.drew.heap = w.heap := rfl
    obtain ⟨W1, s1, s2, s3, s4, s5, s6, s7, s8⟩ := run_storeCells (P := P) (b := lc.blk) (off := lc.off + 0 + (i + m) * n2) ((cs.toList.drop (lc.off + 0 + i * n2)).take ((len - i) * n2)) 0 w.drew cs (by rw [hwd]; exact hwh) hnof (by rw [hlen1]; omega) hleaf1
    obtain ⟨W2, t1, t2, t3, t4, t5, t6, t7, t8⟩ := run_storeCells (P := P) (b := lc.blk) (off := lc.off + 0 + i * n2) ((cs2.toList.drop (l2.off + o2)).take (m * n2)) 0 W1 _ s2 (by rw [updA_size]; exact hnof) (by rw [hlen2, updA_size]; omega) hleaf2
    have k1 : Nat.min (len + m - i) (len + m - (i + m)) = len - i := by
      have : Nat.min (len + m - i) (len + m - (i + m)) = min (len + m - i) (len + m - (i + m)) := rfl
      omega
    have k2 : Nat.min m (len + m - i) = m := by
      have : Nat.min m (len + m - i) = min m (len + m - i) := rfl
      omega
    have hcp1 := fun ty dc sc => run_copyN (P := P) W.ht W.hn (W := w.drew) (W' := W1) (dst := ⟨lc.blk, lc.off + 0 + (i + m) * n2, none⟩) (src := ⟨lc.blk, lc.off + 0 + i * n2, none⟩) (dc := dc) (sc := sc) (ty := ty) k1 (run_loadCells_of (by rw [hwd]; exact hwh) (.inr (by omega))) s1
    have hcp2 := fun ty dc => run_copyN (P := P) W.ht W.hn (W := W1) (W' := W2) (dst := ⟨lc.blk, lc.off + 0 + i * n2, none⟩) (src := ⟨l2.blk, l2.off + o2, none⟩) (dc := dc) (sc := d') (ty := ty) k2 (hsrc2 W1 (by rw [s3 _ hblk, hwd])) t1
    have hsh2 : w.shape? l2.blk = some (ee2, cs2.size) := by simp [World.shape?, hwh2]
    have hsh1 : w.shape? lc.blk = some (ee, cs.size) := by simp [World.shape?, hwh]
    have hov := fun lb cb => W.hov w ⟨l2.blk, l2.off + o2, none⟩ ⟨lc.blk, lc.off + 0 + (i + m) * n2, none⟩ m d' lb cb hblk ee2 ee cs2.size cs.size hsh2 hsh1 (by omega) (not_frozen hwh2 (fz_no hfz2 hn2) _) (not_frozen hwh2 (fz_no hfz2 hn2) _)
    refine (W.walkD lc.blk (lc.off + 0) len c' i l2.blk (l2.off + o2) m d' w hi hm hin (by omega) hov W1 _ hcp1 W2 _ hcp2).mono ?_
    rintro e1 w' ⟨rfl, rfl⟩
    refine ⟨_, rfl, ?_⟩
    have hren := hs.renew (w' := w') hb hlb t2 (by rw [updA_size, updA_size]; exact hlz) (by rw [updA_size, updA_size]; exact hfz) (fun c hc => by rw [t3 c hc, s3 c hc, hwd]) (by rw [t4, s4]; rfl) (by rw [t5, s5]; rfl) (by rw [t6, s6]; rfl) (by rw [t7, s7]; rfl)
      (cells2 := row.take (i * n2) ++ (row2.drop o2).take (m * n2) ++ (row.take (len * n2)).drop (i * n2))
      (mid_rel (o := lc.off) (p := l2.off) (q := lc.off) hrow hrow2 hi hrl hr2 (fun j hj => by
        rw [updA_lt _ _ _ _ (by omega), updA_lt _ _ _ _ (by omega)]) (fun j hj => by
        have := updA_in ((cs2.toList.drop (l2.off + o2)).take (m * n2)) (updA cs (lc.off + 0 + (i + m) * n2 + 0) ((cs.toList.drop (lc.off + 0 + i * n2)).take ((len - i) * n2))) (lc.off + 0 + i * n2 + 0) j (by omega) (by rw [updA_size]; omega)
        rw [show lc.off + i * n2 + j = lc.off + 0 + i * n2 + 0 + j by omega, this, List.getElem?_take_of_lt hj, List.getElem?_drop, Array.getElem?_toList]) (fun j hj => by
        have := updA_in ((cs.toList.drop (lc.off + 0 + i * n2)).take ((len - i) * n2)) cs (lc.off + 0 + (i + m) * n2 + 0) j (by omega) (by omega)
        rw [updA_ge _ _ _ _ (by omega), show lc.off + (i + m) * n2 + j = lc.off + 0 + (i + m) * n2 + 0 + j by omega, this, List.getElem?_take_of_lt hj, List.getElem?_drop, Array.getElem?_toList]
        congr 1))
    refine ⟨_, hren.1, hren.2, .va (.l2 (.l1 (.l0 (.slice 0 (Emb.add_same _ _ _) (Nat.le_refl _) hin (fun _ => by rw [hln, hlz]; exact hz1)))))⟩
  · -- a new row
    obtain ⟨z, hz, hzn⟩ := W.hz
    obtain ⟨ti, hti, htz, hzc⟩ := zeroT_info hz
    have hts : ti.size = n2 := by have h := W.hn; simp [sizeT, hti] at h; exact h
    have htb : ti.bytes = wd := by have h := W.hw; simp [bytesT, hti] at h; exact h
    have hwd : w.drew.heap = w.heap := rfl
    have hold : (Builtin.firstCells ti.size i (.slice (some ⟨lc.blk, lc.off + 0, none⟩) i c')).run P w.drew = .ok ((cs.toList.drop (lc.off + 0)).take (i * n2)).toArray w.drew := by
      rw [hts]
      exact run_loadCells_of (by rw [hwd]; exact hwh) (.inr (by omega))
    have hsum : i + (len + m - i) = len + m := by omega
    have hkk : ((len : Int) + (m : Int) - (i : Int)) = ((len + m - i : Nat) : Int) := by omega
    have hkw : (len + m - i) * ti.bytes ≤ (len + m) * wd := by rw [htb]; exact Nat.mul_le_mul_right _ (by omega)
    have hrun := fun ty => Lib.run_append_grow_zeros (P := P) w t tI ty e ti z .i64 .i64 W.ht W.hI hti htz (some ⟨lc.blk, lc.off + 0, none⟩) i c' ((cs.toList.drop (lc.off + 0)).take (i * n2)) hold (len + m - i) (by omega) (by omega) (by omega) (by omega) (by omega) (by
      rw [htb, hsum]
      rcases hroom with h | h
      · exact growslice_fits (bytes := wd) (by omega) h
      · exact growslice_fits_wide (bytes := wd) (by omega) h)
    rw [hsum] at hrun
    have hG : len + m ≤ grownCap w (len + m) c' e := by simp [grownCap, Question.cut]
    generalize grownCap w (len + m) c' e = G at hrun hG
    have hzs : z.cells.size = n2 := zero_size hti htz hz hzn
    generalize hROW : ((cs.toList.drop (lc.off + 0)).take (i * n2)).toArray ++ Builtin.zeroCells z.cells (len + m - i) ++ Builtin.zeroCells z.cells (G - (len + m)) = ROW at hrun
    have hoz : ((cs.toList.drop (lc.off + 0)).take (i * n2)).length = i * n2 := by simp; omega
    have m7 : (len + m - i) * n2 = (len + m) * n2 - i * n2 := Nat.sub_mul _ _ _
    have m8 : (G - (len + m)) * n2 = G * n2 - (len + m) * n2 := Nat.sub_mul _ _ _
    have m9 : (len + m) * n2 ≤ G * n2 := Nat.mul_le_mul_right _ hG
    have hRs : ROW.size = G * n2 := by
      rw [← hROW]
      simp only [Array.size_append, Builtin.zeroCells, Array.size_map, Array.size_range, hzs, List.size_toArray, hoz]
      omega
    have hRo : ∀ j, j < i * n2 → ROW[j]? = cs[lc.off + j]? := fun j hj => by
      rw [← hROW, Array.append_assoc, Array.getElem?_append_left (by simp only [List.size_toArray, hoz]; exact hj)]
      rw [List.getElem?_toArray, List.getElem?_take_of_lt hj, List.getElem?_drop, Array.getElem?_toList]
      congr 1
    have hW0 : (w.drew.alloc (.cells ROW e)).heap[w.heap.size]? = some (.cells ROW e (0, 0)) := by
      show (w.heap.push _)[w.heap.size]? = _
      rw [Array.getElem?_push, if_pos rfl]
    have hW0o : ∀ c, c ≠ w.heap.size → (w.drew.alloc (.cells ROW e)).heap[c]? = w.heap[c]? := fun c hc => by
      show (w.heap.push _)[c]? = _
      rw [Array.getElem?_push, if_neg hc]
    have hb1 : lc.blk ≠ w.heap.size := by have := (Array.getElem?_eq_some_iff.1 hwh).1; omega
    have hb2' : l2.blk ≠ w.heap.size := by have := (Array.getElem?_eq_some_iff.1 hwh2).1; omega
    have hW0s : (w.drew.alloc (.cells ROW e)).heap.size = w.heap.size + 1 := by show (w.heap.push _).size = _; simp
    have hW0r : (w.drew.alloc (.cells ROW e)).os = w.os ∧ (w.drew.alloc (.cells ROW e)).tape = w.tape ∧ (w.drew.alloc (.cells ROW e)).output = w.output := ⟨rfl, rfl, rfl⟩
    generalize w.drew.alloc (.cells ROW e) = W0 at hrun hW0 hW0o hW0s hW0r
    obtain ⟨W1, s1, s2, s3, s4, s5, s6, s7, s8⟩ := run_storeCells (P := P) (b := w.heap.size) (off := i * n2) ((cs2.toList.drop (l2.off + o2)).take (m * n2)) 0 W0 ROW hW0 (fun j _ => by simp) (by rw [hlen2]; omega) hleaf2
    obtain ⟨W2, t1, t2, t3, t4, t5, t6, t7, t8⟩ := run_storeCells (P := P) (b := w.heap.size) (off := (i + m) * n2) ((cs.toList.drop (lc.off + 0 + i * n2)).take ((len - i) * n2)) 0 W1.drew _ (by show W1.heap[_]? = _; exact s2) (fun j _ => by simp) (by rw [hlen1, updA_size]; omega) hleaf1
    have k1 : Nat.min (len - i) (len + m - (i + m)) = len - i := by
      have : Nat.min (len - i) (len + m - (i + m)) = min (len - i) (len + m - (i + m)) := rfl
      omega
    have k2 : Nat.min m (len + m - i) = m := by
      have : Nat.min m (len + m - i) = min m (len + m - i) := rfl
      omega
    have hcp1 := fun ty dc => run_copyN (P := P) W.ht W.hn (W := W0) (W' := W1) (dst := ⟨w.heap.size, i * n2, none⟩) (src := ⟨l2.blk, l2.off + o2, none⟩) (dc := dc) (sc := d') (ty := ty) k2 (hsrc2 W0 (hW0o _ hb2')) s1
    have hcp2 := fun ty dc sc => run_copyN (P := P) W.ht W.hn (W := W1.drew) (W' := W2) (dst := ⟨w.heap.size, (i + m) * n2, none⟩) (src := ⟨lc.blk, lc.off + 0 + i * n2, none⟩) (dc := dc) (sc := sc) (ty := ty) k1 (run_loadCells_of (by show W1.heap[_]? = _; rw [s3 _ hb1, hW0o _ hb1]; exact hwh) (.inr (by omega))) t1
    refine (W.walkE lc.blk (lc.off + 0) len c' i l2.blk (l2.off + o2) m d' w hi hm (by omega) (by omega) (by omega) W0 w.heap.size G hG (fun ty => by rw [hkk]; exact hrun ty) W1 _ hcp1 W2 _ hcp2).mono ?_
    rintro e1 w' ⟨rfl, rfl⟩
    refine ⟨_, rfl, ?_⟩
    have hk := hs.kill hb
    generalize hCF : updA (updA ROW (i * n2 + 0) ((cs2.toList.drop (l2.off + o2)).take (m * n2))) ((i + m) * n2 + 0) ((cs.toList.drop (lc.off + 0 + i * n2)).take ((len - i) * n2)) = csF at t2
    have hFs : csF.size = G * n2 := by rw [← hCF, updA_size, updA_size, hRs]
    have hp := hk.1.push (n := n2) (cells := row.take (i * n2) ++ (row2.drop o2).take (m * n2) ++ (row.take (len * n2)).drop (i * n2)) (cs := csF) (e := e) (fz := (0, 0)) (.inl rfl) (fun j v hj => by
      have := mid_rel (o := lc.off) (p := l2.off) (q := 0) (csF := csF) hrow hrow2 hi hrl hr2 (fun j hj => by
        rw [← hCF, Nat.zero_add, updA_lt _ _ _ _ (by omega), updA_lt _ _ _ _ (by omega), hRo j hj]) (fun j hj => by
        have := updA_in ((cs2.toList.drop (l2.off + o2)).take (m * n2)) ROW (i * n2 + 0) j (by omega) (by omega)
        rw [← hCF, updA_lt _ _ _ _ (by omega), show 0 + i * n2 + j = i * n2 + 0 + j by omega, this, List.getElem?_take_of_lt hj, List.getElem?_drop, Array.getElem?_toList]) (fun j hj => by
        have := updA_in ((cs.toList.drop (lc.off + 0 + i * n2)).take ((len - i) * n2)) (updA ROW (i * n2 + 0) ((cs2.toList.drop (l2.off + o2)).take (m * n2))) ((i + m) * n2 + 0) j (by omega) (by rw [updA_size]; omega)
        rw [← hCF, show 0 + (i + m) * n2 + j = (i + m) * n2 + 0 + j by omega, this, List.getElem?_take_of_lt hj, List.getElem?_drop, Array.getElem?_toList]
        congr 1) j v hj
      rwa [Nat.zero_add] at this)
    have hlenS : (s.heap.set b (Blk.row n2 row .dead)).length = s.heap.length := by simp
    rw [hlenS] at hp
    have hheap : w'.heap = (w.alloc (.cells csF e (0, 0))).heap := by
      apply Array.ext_getElem?
      intro c
      show _ = (w.heap.push _)[c]?
      rw [Array.getElem?_push]
      by_cases hcN : c = w.heap.size
      · rw [if_pos hcN, hcN]; exact t2
      · rw [if_neg hcN, t3 c hcN]
        show W1.heap[c]? = _
        rw [s3 c hcN, hW0o c hcN]
    have hst := hk.2.trans hp.2
    refine ⟨_, hp.1.congr hheap, ⟨hst.le, hst.old, hst.img, fun c hc hn => by rw [hheap]; exact hst.keep c hc hn, by rw [hheap]; exact hst.size, ?_, ?_, ?_, hst.len, hst.own⟩, slice_new _ _ _ _ _ _ rfl (Nat.le_refl _) hG (by simp only [hFs]; exact Nat.le_refl _)⟩
    · rw [t5]; show W1.os = _; rw [s5]; exact hW0r.1
    · rw [t6]; show W1.tape = _; rw [s6]; exact hW0r.2.1
    · rw [t7]; show W1.output = _; rw [s7]; exact hW0r.2.2

end Go.Proofs.Ytamaapapaiopiaa.Ab
