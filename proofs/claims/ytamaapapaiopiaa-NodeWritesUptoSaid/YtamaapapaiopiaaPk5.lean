/- Texts of this proof, packed: BIns, OpCmp, OpVal, OpLists, EntVal, OpArg, EnArg, NdArg, PivVal, NdCheck, BLive, NdLive, FxNum, FxOct, FxRead, FxOctT, OctNum, NdLib. -/
import Derived.Test.YtamaapapaiopiaaPk4
import Derived.Lib.Overlaps
import Derived.Lib.AppendZerosOnto
import Derived.Deep.DeepAppendWide
import Derived.Shelf.Spec.SlicesInsert
import Derived.ChangeSame
import Derived.WideShapes
set_option linter.unusedVariables false
set_option linter.unusedSimpArgs false
set_option linter.unusedSectionVars false
/- slices.Insert within a slice: what the kit's walk shows of the model, told of the abstract machine. -/
namespace Go.Proofs.Ytamaapapaiopiaa.Ab
open Go

/-! ### A row is another one, at its place -/
theorem Sim.renew {wb : Nat} {ι : Emb} {H : List Blk} {w w' : World} (h : Sim wb ι H w) {b n : Nat} {lc : Loc} {cells cells2 : List Value} {cs2 : Array Value} {e : TypeId} {fz : Nat × Nat}
    (hb : H[b]? = some (.row n cells .act)) (hx : ι b = some lc) (r2 : w'.heap[lc.blk]? = some (.cells cs2 e fz)) (hz2 : lc.z = cs2.size) (hf : fzOk n fz cs2.size) (r3 : ∀ c, c ≠ lc.blk → w'.heap[c]? = w.heap[c]?)
    (r4 : w'.heap.size = w.heap.size) (r5 : w'.os = w.os) (r6 : w'.tape = w.tape) (r7 : w'.output = w.output) (hc2 : ∀ (i : Nat) (v : Value), cells2[i]? = some v → ∃ v' : Value, cs2[lc.off + i]? = some v' ∧ L2 ι v v') :
    Sim wb (ι.add H.length lc) (H.set b (.row n cells .dead) ++ [.row n cells2 .act]) w' ∧
      Step ι H w (ι.add H.length lc) (H.set b (.row n cells .dead) ++ [.row n cells2 .act]) w' := by
  obtain ⟨cs, _, _, hw, _, h2, h3⟩ := h.row b n cells .act hb (by simp) lc hx
  obtain ⟨hwb, hn1, hn2, _⟩ := h2 rfl
  have hbl : b < H.length := (List.getElem?_eq_some_iff.1 hb).1
  have hfr : ι H.length = none := h.fresh (Nat.le_refl _)
  have hle : ι.le (ι.add H.length lc) := Emb.le_add hfr
  have hkl := (h.kill (cells := cells) hb).1
  have hown : ∀ a : Nat, a < H.length → ownB (H.set b (Blk.row n cells .dead) ++ [Blk.row n cells2 .act])[a]? = true → ownB H[a]? = true ∧ a ≠ b := by
    intro a ha ho
    rw [List.getElem?_append_left (by simpa using ha)] at ho
    by_cases hab : b = a
    · subst hab; rw [List.getElem?_set_self hbl] at ho; cases ho
    · rw [List.getElem?_set_ne hab] at ho; exact ⟨ho, Ne.symm hab⟩
  have hother : ∀ a x, ι a = some x → ownB H[a]? = true → a ≠ b → x.blk ≠ lc.blk := fun a x ha ho hne => h.excl a b ho (by rw [hb]; rfl) hne x lc ha hx
  have hlen : (H.set b (Blk.row n cells .dead)).length = H.length := by simp
  have hget : ∀ (a : Nat) (B : Blk), (H.set b (Blk.row n cells .dead) ++ [Blk.row n cells2 .act])[a]? = some B → (a = H.length ∧ B = .row n cells2 .act) ∨ (a < H.length ∧ a = b ∧ B = .row n cells .dead) ∨ (a < H.length ∧ a ≠ b ∧ H[a]? = some B) := by
    intro a B hB
    by_cases ha : a < H.length
    · rw [List.getElem?_append_left (by omega)] at hB
      by_cases hab : b = a
      · subst hab; rw [List.getElem?_set_self hbl] at hB; cases hB; exact .inr (.inl ⟨ha, rfl, rfl⟩)
      · rw [List.getElem?_set_ne hab] at hB; exact .inr (.inr ⟨ha, Ne.symm hab, hB⟩)
    · have : a = H.length := by have := (List.getElem?_eq_some_iff.1 hB).1; simp at this; omega
      subst this
      rw [List.getElem?_append_right (by omega)] at hB
      simp at hB
      exact .inl ⟨rfl, hB.symm⟩
  refine ⟨⟨?_, ?_, ?_, ?_, ?_, ?_⟩, ⟨hle, ?_, ?_, ?_, by rw [r4]; exact Nat.le_refl _, r5, r6, r7, by simp, fun a ha ho => (hown a ha ho).1⟩⟩
  · intro a x ha
    simp
    by_cases hal : a = H.length
    · omega
    · rw [Emb.add_ne hal] at ha; have := h.dom a x ha; omega
  · intro a n' cells' st ha hst l hl
    rcases hget a _ ha with ⟨rfl, he⟩ | ⟨_, _, he⟩ | ⟨hal, hab, hH⟩
    · injection he with e1 e2 e3
      subst e1 e2 e3
      rw [Emb.add_same] at hl
      cases hl
      refine ⟨_, e, fz, r2, by simp, fun _ => ⟨hwb, hn1, hz2, hf⟩, fun i v hi => ?_⟩
      obtain ⟨v', hv', hr⟩ := hc2 i v hi
      exact ⟨v', hv', hr.mono hle⟩
    · injection he with _ _ e3
      exact absurd e3 hst
    · rw [Emb.add_ne (by omega)] at hl
      obtain ⟨cs', e', fz', hw', q1, q2, q3⟩ := h.row a n' cells' st hH hst l hl
      have hne : l.blk ≠ lc.blk := by
        cases st with
        | dead => exact absurd rfl hst
        | ro => have := q1 rfl; omega
        | act => exact hother a l hl (by rw [hH]; rfl) hab
      refine ⟨cs', e', fz', by rw [r3 l.blk hne]; exact hw', q1, q2, fun i v hi => ?_⟩
      obtain ⟨v', hv', hr⟩ := q3 i v hi
      exact ⟨v', hv', hr.mono hle⟩
  · intro a es clock ha l hl
    rcases hget a _ ha with ⟨_, he⟩ | ⟨_, _, he⟩ | ⟨hal, hab, hH⟩
    · cases he
    · cases he
    · rw [Emb.add_ne (by omega)] at hl
      obtain ⟨q1, qz, es', hw', q3⟩ := h.map a es clock hH l hl
      have hne : l.blk ≠ lc.blk := hother a l hl (by rw [hH]; rfl) hab
      exact ⟨q1, qz, es', by rw [r3 l.blk hne]; exact hw', q3.mono fun x e he => ⟨he.1, he.2.1, he.2.2.1.mono hle, he.2.2.2⟩⟩
  · intro a c ha hc hne x y hax hcy
    by_cases hal : a = H.length
    · subst hal
      rw [Emb.add_same] at hax
      cases hax
      have hcl : c ≠ H.length := fun e => hne e.symm
      rw [Emb.add_ne hcl] at hcy
      have hco := hown c (h.dom c y hcy) hc
      exact (hother c y hcy hco.1 hco.2).symm
    · rw [Emb.add_ne hal] at hax
      have hao := hown a (h.dom a x hax) ha
      by_cases hcl : c = H.length
      · subst hcl
        rw [Emb.add_same] at hcy
        cases hcy
        exact hother a x hax hao.1 hao.2
      · rw [Emb.add_ne hcl] at hcy
        exact h.excl a c hao.1 (hown c (h.dom c y hcy) hc).1 hne x y hax hcy
  · rw [r4]; exact h.size
  · intro a n' cells' st ha hst l hl
    rcases hget a _ ha with ⟨rfl, he⟩ | ⟨hal, hab, he⟩ | ⟨hal, hab, hH⟩
    · injection he with e1 _ _
      rw [Emb.add_same] at hl
      cases hl
      exact ⟨by rw [e1]; exact hn1, (h.loc b n cells .act hb (by simp) lc hx).2⟩
    · injection he with e1 _ _
      rw [Emb.add_ne (by omega)] at hl
      subst hab e1
      exact h.loc a n' cells .act hb (by simp) l hl
    · rw [Emb.add_ne (by omega)] at hl
      exact h.loc a n' cells' st hH hst l hl
  · intro a ha; exact Emb.add_ne (by omega)
  · intro a x ha hal
    by_cases hal2 : a = H.length
    · subst hal2
      rw [Emb.add_same] at ha
      cases ha
      exact .inr ⟨b, lc, by rw [hb]; rfl, hx, rfl⟩
    · rw [Emb.add_ne hal2] at ha
      exact absurd (h.dom a x ha) (by omega)
  · intro c hc hn
    refine r3 c fun hcb => ?_
    exact hn b lc (by rw [hb]; rfl) hx hcb.symm


/-- 'copy', out of what is read and what is written -/
theorem run_copyN {P : Program} {t e : TypeId} {n : Nat} (ht : P.underlying t = some (.slice e)) (hn : sizeT P e = some n) {W W' : World} {dst src : Addr} {dl dc sl sc k : Nat} {ty : TypeId} (hk : Nat.min sl dl = k) {new' : List Value}
    (hl : (loadCells src (k * n)).run P W = .ok new'.toArray W) (hst : (storeCells dst new').run P W = .ok () W') : (Builtin.copy_ #[t, t] ty #[.slice (some dst) dl dc, .slice (some src) sl sc]).run P W = .ok (goInt k) W' := by
  simp [Builtin.copy_, run_underlying' ht, run_sizeOf' hn, Builtin.lenOf, Builtin.firstCells, hk, hl, hst, goInt]

def gInsMid (nn wd : Nat) (x : Value) (i : Nat) (y : Value) (s : St) : Option (Value × St) :=
  match x, y with
  | .slice (some ⟨b, 0, none⟩) len cap, .slice (some ⟨b2, o2, none⟩) m c2 =>
    match s.heap[b]?, s.heap[b2]? with
    | some (.row n1 row .act), some (.row n2 row2 .act) =>
      if n1 = nn ∧ n2 = nn ∧ b ≠ b2 ∧ i < len ∧ len ≤ cap ∧ len * nn ≤ row.length ∧ 0 < m ∧ o2 + m * nn ≤ row2.length ∧ m ≤ c2 ∧ roomA (len + m) wd then
        some (.slice (some ⟨s.heap.length, 0, none⟩) (len + m) (len + m), (s.putB b (.row nn row .dead)).push (.row nn (row.take (i * nn) ++ (row2.drop o2).take (m * nn) ++ (row.take (len * nn)).drop (i * nn)) .act))
      else none
    | _, _ => none
  | _, _ => none

/-- what the walks show -/
structure InsWalk (P : Program) (f : FuncId) (t e tI ov : TypeId) (nn wd : Nat) : Prop where
  ht : P.underlying t = some (.slice e)
  hI : P.underlying tI = some (.int .i64)
  hn : sizeT P e = some nn
  hw : bytesT P e = some wd
  hz : ∃ z, zeroT P e = some z ∧ (cellsV z).length = nn
  hn2 : 2 ≤ nn
  hw0 : 0 < wd
  hov : ∀ (w : World) (a b : Addr) (la ca lb cb : Nat), a.block ≠ b.block → ∀ tA tB kA kB, w.shape? a.block = some (tA, kA) → w.shape? b.block = some (tB, kB) → kB ≠ 0 → w.frozen? a = false → w.frozen? { block := a.block, off := kA } = false →
    (callFunc ov #[.slice (some a) la ca, .slice (some b) lb cb]).run P w = .ok (.value (.bool false)) w
  walkD : ∀ (b off n c i vb voff m vc : Nat) (w : World), i < n → 0 < m → n + m ≤ c → n + m ≤ 9223372036854775807 →
    (∀ lb cb, (callFunc ov #[.slice (some ⟨vb, voff, none⟩) m vc, .slice (some ⟨b, off + (i + m) * nn, none⟩) lb cb]).run P w = .ok (.value (.bool false)) w) →
    ∀ (W1 : World) (r1 : Value), (∀ ty dc sc, (Builtin.copy_ #[t, t] ty #[.slice (some ⟨b, off + (i + m) * nn, none⟩) (n + m - (i + m)) dc, .slice (some ⟨b, off + i * nn, none⟩) (n + m - i) sc]).run P w.drew = .ok r1 W1) →
    ∀ (W2 : World) (r2 : Value), (∀ ty dc, (Builtin.copy_ #[t, t] ty #[.slice (some ⟨b, off + i * nn, none⟩) (n + m - i) dc, .slice (some ⟨vb, voff, none⟩) m vc]).run P W1 = .ok r2 W2) →
    Calls P f #[.slice (some ⟨b, off, none⟩) n c, .int .i64 i, .slice (some ⟨vb, voff, none⟩) m vc] w fun e w' => e = .returned (.slice (some ⟨b, off, none⟩) (n + m) c) ∧ w' = W2
  walkE : ∀ (b off n c i vb voff m vc : Nat) (w : World), i < n → 0 < m → n ≤ c → c < n + m → n + m ≤ 9223372036854775807 →
    ∀ (W0 : World) (N cap : Nat), n + m ≤ cap → (∀ ty, (Builtin.append_ #[t, tI] ty #[.slice (some ⟨b, off, none⟩) i c, .int .i64 ((n : Int) + (m : Int) - (i : Int))]).run P w = .ok (.slice (some ⟨N, 0, none⟩) (n + m) cap) W0) →
    ∀ (W1 : World) (r1 : Value), (∀ ty dc, (Builtin.copy_ #[t, t] ty #[.slice (some ⟨N, i * nn, none⟩) (n + m - i) dc, .slice (some ⟨vb, voff, none⟩) m vc]).run P W0 = .ok r1 W1) →
    ∀ (W2 : World) (r2 : Value), (∀ ty dc sc, (Builtin.copy_ #[t, t] ty #[.slice (some ⟨N, (i + m) * nn, none⟩) (n + m - (i + m)) dc, .slice (some ⟨b, off + i * nn, none⟩) (n - i) sc]).run P W1.drew = .ok r2 W2) →
    Calls P f #[.slice (some ⟨b, off, none⟩) n c, .int .i64 i, .slice (some ⟨vb, voff, none⟩) m vc] w fun e w' => e = .returned (.slice (some ⟨N, 0, none⟩) (n + m) cap) ∧ w' = W2

theorem fz_no {nn : Nat} {fz : Nat × Nat} {n : Nat} (h : fzOk nn fz n) (h2 : 2 ≤ nn) : fz.1 = fz.2 := by
  rcases h with h | ⟨h, _⟩
  · exact h
  · omega
theorem not_frozen {w : World} {b : Nat} {cs : Array Value} {e : TypeId} {fz : Nat × Nat} (h : w.heap[b]? = some (.cells cs e fz)) (hf : fz.1 = fz.2) (off : Nat) : w.frozen? { block := b, off := off } = false := by
  obtain ⟨lo, hi⟩ := fz
  simp only at hf
  subst hf
  simp [World.frozen?, h]

/-- cells, side by side -/
theorem mid_rel {ι : Emb} {row row2 : List Value} {cs cs2 csF : Array Value} {o o2 p i n m nn : Nat} (hrow : ∀ (j : Nat) (v : Value), row[j]? = some v → ∃ v', cs[o + j]? = some v' ∧ L2 ι v v') (hrow2 : ∀ (j : Nat) (v : Value), row2[j]? = some v → ∃ v', cs2[p + j]? = some v' ∧ L2 ι v v')
    (hi : i < n) (hl : n * nn ≤ row.length) (hl2 : o2 + m * nn ≤ row2.length) {q : Nat}
    (h1 : ∀ j, j < i * nn → csF[q + j]? = cs[o + j]?) (h2 : ∀ j, j < m * nn → csF[q + i * nn + j]? = cs2[p + o2 + j]?) (h3 : ∀ j, j < (n - i) * nn → csF[q + (i + m) * nn + j]? = cs[o + i * nn + j]?) :
    ∀ (j : Nat) (v : Value), (row.take (i * nn) ++ (row2.drop o2).take (m * nn) ++ (row.take (n * nn)).drop (i * nn))[j]? = some v → ∃ v', csF[q + j]? = some v' ∧ L2 ι v v' := by
  intro j v hj
  have e1 : i * nn ≤ n * nn := Nat.mul_le_mul_right _ (by omega)
  have e2 : (i + m) * nn = i * nn + m * nn := Nat.add_mul _ _ _
  have e3 : (n - i) * nn = n * nn - i * nn := Nat.sub_mul _ _ _
  have l1 : (row.take (i * nn)).length = i * nn := by simp; omega
  have l2 : ((row2.drop o2).take (m * nn)).length = m * nn := by simp; omega
  by_cases c1 : j < i * nn
  · rw [List.append_assoc, List.getElem?_append_left (by omega), List.getElem?_take_of_lt c1] at hj
    obtain ⟨v', g1, g2⟩ := hrow j v hj
    exact ⟨v', by rw [h1 j c1]; exact g1, g2⟩
  · by_cases c2 : j < i * nn + m * nn
    · rw [List.getElem?_append_left (by rw [List.length_append]; omega), List.getElem?_append_right (by omega), l1, List.getElem?_take_of_lt (by omega), List.getElem?_drop] at hj
      obtain ⟨v', g1, g2⟩ := hrow2 _ v hj
      refine ⟨v', ?_, g2⟩
      have := h2 (j - i * nn) (by omega)
      rw [show q + i * nn + (j - i * nn) = q + j by omega, show p + o2 + (j - i * nn) = p + (o2 + (j - i * nn)) by omega] at this
      rw [this]; exact g1
    · rw [List.getElem?_append_right (by rw [List.length_append]; omega), List.length_append, l1, l2, List.getElem?_drop] at hj
      have hlt : i * nn + (j - (i * nn + m * nn)) < n * nn := by
        have := (List.getElem?_eq_some_iff.1 hj).1
        simp at this
        omega
      rw [List.getElem?_take_of_lt hlt] at hj
      obtain ⟨v', g1, g2⟩ := hrow _ v hj
      refine ⟨v', ?_, g2⟩
      have := h3 (j - (i * nn + m * nn)) (by omega)
      rw [e2, show q + (i * nn + m * nn) + (j - (i * nn + m * nn)) = q + j by omega, show o + i * nn + (j - (i * nn + m * nn)) = o + (i * nn + (j - (i * nn + m * nn))) by omega] at this
      rw [this]; exact g1

theorem zero_size {P : Program} {e : TypeId} {ti : TypeInfo} {z : Value} {n : Nat} (hti : P.info? e = some ti) (htz : ti.zero = some z) (hz : zeroT P e = some z) (hzn : (cellsV z).length = n) : z.cells.size = n := by
  rw [← hzn, ← cellsV_cells]; simp
theorem ins_sound {P : Program} {f : FuncId} {t e tI ov : TypeId} {nn wd : Nat} (W : InsWalk P f t e tI ov nn wd) {x y v : Value} {i : Nat} {s s' : St} (hg : gInsMid nn wd x i y s = some (v, s')) {wb : Nat} {ι : Emb} {w : World} {args' : Array Value} (hs : Sim wb ι s.heap w) (ha : All2 (VRel ι) [x, .int .i64 (i : Int), y] args'.toList) :
    Calls P f args' w fun e w' => ∃ v', e = .returned v' ∧ After wb ι s.heap w s'.heap v v' w' := by
  unfold gInsMid at hg
  split at hg
  case h_2 => cases hg
  rename_i b len cap b2 o2 m c2
  split at hg
  case h_2 => cases hg
  rename_i n1 row n2 row2 hb hb2
  split at hg
  case isFalse => cases hg
  rename_i hc
  obtain ⟨rfl, rfl, hne, hi, hlc, hrl, hm, hr2, hmc, hroom⟩ := hc
  cases hg
  have hn2 := W.hn2
  have hnn : 0 < n2 := by omega
  -- the arguments
  obtain ⟨l⟩ := args'
  match l, ha with
  | [x', z', y'], ha =>
  obtain ⟨hx, hz, hy, _⟩ := ha
  obtain rfl := hz.inv_int
  rcases hx.inv_slice with ⟨lc, c', _, hlb, _, hcc, hz0, rfl⟩ | ⟨hh, _⟩
  case inr => omega
  rcases hy.inv_slice with ⟨l2, d', _, hlb2, _, hdd, _, rfl⟩ | ⟨hh, _⟩
  case inr => omega
  simp only at hlb hlb2 hz0
  obtain ⟨cs, ee, fz, hwh, _, hact, hrow⟩ := hs.row b n2 row .act hb (by simp) lc hlb
  obtain ⟨hwb, hln, hlz, hfz⟩ := hact rfl
  obtain ⟨cs2, ee2, fz2, hwh2, _, hact2, hrow2⟩ := hs.row b2 n2 row2 .act hb2 (by simp) l2 hlb2
  obtain ⟨hwb2, hln2, hlz2, hfz2⟩ := hact2 rfl
  have hblk : l2.blk ≠ lc.blk := hs.excl b2 b (by rw [hb2]; rfl) (by rw [hb]; rfl) (Ne.symm hne) l2 lc hlb2 hlb
  have hz1 := hz0 trivial
  rw [hln, hlz] at hz1
  have m1 : (len + m) * n2 = len * n2 + m * n2 := Nat.add_mul _ _ _
  have m2 : (i + m) * n2 = i * n2 + m * n2 := Nat.add_mul _ _ _
  have m3 : i * n2 + n2 ≤ len * n2 := by rw [← Nat.succ_mul]; exact Nat.mul_le_mul_right _ hi
  have m4 : (len - i) * n2 = len * n2 - i * n2 := Nat.sub_mul _ _ _
  have m5 : len * n2 ≤ c' * n2 := Nat.mul_le_mul_right _ (by omega)
  have hrow2sz : l2.off + row2.length ≤ cs2.size := by
    rcases Nat.eq_zero_or_pos row2.length with h0 | h0
    · have : 0 < m * n2 := Nat.mul_pos hm hnn
      omega
    · obtain ⟨v', g1, _⟩ := hrow2 (row2.length - 1) _ (List.getElem?_eq_getElem (by omega))
      have := (Array.getElem?_eq_some_iff.1 g1).1
      omega
  -- what is read of the second slice, in any world that has its block
  have hsrc2 : ∀ W' : World, W'.heap[l2.blk]? = w.heap[l2.blk]? → (loadCells ⟨l2.blk, l2.off + o2, none⟩ (m * n2)).run P W' = .ok ((cs2.toList.drop (l2.off + o2)).take (m * n2)).toArray W' := fun W' h' =>
    run_loadCells_of (h'.trans hwh2) (.inr (by omega))
  have hlen2 : ((cs2.toList.drop (l2.off + o2)).take (m * n2)).length = m * n2 := by simp; omega
  have hleaf2 : ((cs2.toList.drop (l2.off + o2)).take (m * n2)).all isLeaf = true := by
    rw [List.all_eq_true]
    intro v' hv'
    obtain ⟨j, hj, hjv⟩ := List.getElem_of_mem hv'
    have hj2 : j < m * n2 := by omega
    have hjr : o2 + j < row2.length := by omega
    obtain ⟨u, g1, g2⟩ := hrow2 (o2 + j) _ (List.getElem?_eq_getElem hjr)
    have : v' = u := by
      have e1 : ((cs2.toList.drop (l2.off + o2)).take (m * n2))[j]? = some v' := by rw [List.getElem?_eq_getElem hj, hjv]
      rw [List.getElem?_take_of_lt hj2, List.getElem?_drop, show l2.off + o2 + j = l2.off + (o2 + j) by omega] at e1
      rw [← Array.getElem?_toList, e1] at g1
      exact Option.some.inj g1
    subst this
    have := All2.leaf (ι := ι) (l := [row2[o2 + j]]) (m := [v']) ⟨g2, trivial⟩
    simpa using this
  have hleaf1 : ((cs.toList.drop (lc.off + 0 + i * n2)).take ((len - i) * n2)).all isLeaf = true := by
    rw [List.all_eq_true]
    intro v' hv'
    obtain ⟨j, hj, hjv⟩ := List.getElem_of_mem hv'
    have hj2 : j < (len - i) * n2 := by simp at hj; omega
    have hjr : i * n2 + j < row.length := by omega
    obtain ⟨u, g1, g2⟩ := hrow (i * n2 + j) _ (List.getElem?_eq_getElem hjr)
    have : v' = u := by
      have e1 : ((cs.toList.drop (lc.off + 0 + i * n2)).take ((len - i) * n2))[j]? = some v' := by rw [List.getElem?_eq_getElem hj, hjv]
      rw [List.getElem?_take_of_lt hj2, List.getElem?_drop, show lc.off + 0 + i * n2 + j = lc.off + (i * n2 + j) by omega] at e1
      rw [← Array.getElem?_toList, e1] at g1
      exact Option.some.inj g1
    subst this
    have := All2.leaf (ι := ι) (l := [row[i * n2 + j]]) (m := [v']) ⟨g2, trivial⟩
    simpa using this
  have hlen1 : ((cs.toList.drop (lc.off + 0 + i * n2)).take ((len - i) * n2)).length = (len - i) * n2 := by simp; omega
  have hroom48 : (len + m) * wd ≤ 281474976710656 := by
    rcases hroom with h | h
    · omega
    · exact Nat.le_trans (Nat.mul_le_mul_right _ (by omega)) h
  have hbnd : len + m ≤ 281474976710656 := by
    have : (len + m) * 1 ≤ (len + m) * wd := Nat.mul_le_mul_left _ W.hw0
    omega
  by_cases hin : len + m ≤ c'
  · -- in its place
    have m6 : (len + m) * n2 ≤ c' * n2 := Nat.mul_le_mul_right _ hin
    have hfz' := fz_no hfz hn2
    have hnof : ∀ j, j < cs.size → ¬(fz.1 ≤ j ∧ j < fz.2) := fun j _ => by omega
    have hwd : w.drew.heap = w.heap := rfl
    obtain ⟨W1, s1, s2, s3, s4, s5, s6, s7, s8⟩ := run_storeCells (P := P) (b := lc.blk) (off := lc.off + 0 + (i + m) * n2) ((cs.toList.drop (lc.off + 0 + i * n2)).take ((len - i) * n2)) 0 w.drew cs (by rw [hwd]; exact hwh) hnof (by rw [hlen1]; omega) hleaf1
    obtain ⟨W2, t1, t2, t3, t4, t5, t6, t7, t8⟩ := run_storeCells (P := P) (b := lc.blk) (off := lc.off + 0 + i * n2) ((cs2.toList.drop (l2.off + o2)).take (m * n2)) 0 W1 _ s2 (by rw [updA_size]; exact hnof) (by rw [hlen2, updA_size]; omega) hleaf2
    have k1 : Nat.min (len + m - i) (len + m - (i + m)) = len - i := by
      have : Nat.min (len + m - i) (len + m - (i + m)) = min (len + m - i) (len + m - (i + m)) := rfl
      omega
    have k2 : Nat.min m (len + m - i) = m := by
      have : Nat.min m (len + m - i) = min m (len + m - i) := rfl
      omega
    have hcp1 := fun ty dc sc => run_copyN (P := P) W.ht W.hn (W := w.drew) (W' := W1) (dst := ⟨lc.blk, lc.off + 0 + (i + m) * n2, none⟩) (src := ⟨lc.blk, lc.off + 0 + i * n2, none⟩) (dc := dc) (sc := sc) (ty := ty) k1 (run_loadCells_of (by rw [hwd]; exact hwh) (.inr (by omega))) s1
    have hcp2 := fun ty dc => run_copyN (P := P) W.ht W.hn (W := W1) (W' := W2) (dst := ⟨lc.blk, lc.off + 0 + i * n2, none⟩) (src := ⟨l2.blk, l2.off + o2, none⟩) (dc := dc) (sc := d') (ty := ty) k2 (hsrc2 W1 (by rw [s3 _ hblk, hwd])) t1
    have hsh2 : w.shape? l2.blk = some (ee2, cs2.size) := by simp [World.shape?, hwh2]
    have hsh1 : w.shape? lc.blk = some (ee, cs.size) := by simp [World.shape?, hwh]
    have hov := fun lb cb => W.hov w ⟨l2.blk, l2.off + o2, none⟩ ⟨lc.blk, lc.off + 0 + (i + m) * n2, none⟩ m d' lb cb hblk ee2 ee cs2.size cs.size hsh2 hsh1 (by omega) (not_frozen hwh2 (fz_no hfz2 hn2) _) (not_frozen hwh2 (fz_no hfz2 hn2) _)
    refine (W.walkD lc.blk (lc.off + 0) len c' i l2.blk (l2.off + o2) m d' w hi hm hin (by omega) hov W1 _ hcp1 W2 _ hcp2).mono ?_
    rintro e1 w' ⟨rfl, rfl⟩
    refine ⟨_, rfl, ?_⟩
    have hren := hs.renew (w' := w') hb hlb t2 (by rw [updA_size, updA_size]; exact hlz) (by rw [updA_size, updA_size]; exact hfz) (fun c hc => by rw [t3 c hc, s3 c hc, hwd]) (by rw [t4, s4]; rfl) (by rw [t5, s5]; rfl) (by rw [t6, s6]; rfl) (by rw [t7, s7]; rfl)
      (cells2 := row.take (i * n2) ++ (row2.drop o2).take (m * n2) ++ (row.take (len * n2)).drop (i * n2))
      (mid_rel (o := lc.off) (p := l2.off) (q := lc.off) hrow hrow2 hi hrl hr2 (fun j hj => by
        rw [updA_lt _ _ _ _ (by omega), updA_lt _ _ _ _ (by omega)]) (fun j hj => by
        have := updA_in ((cs2.toList.drop (l2.off + o2)).take (m * n2)) (updA cs (lc.off + 0 + (i + m) * n2 + 0) ((cs.toList.drop (lc.off + 0 + i * n2)).take ((len - i) * n2))) (lc.off + 0 + i * n2 + 0) j (by omega) (by rw [updA_size]; omega)
        rw [show lc.off + i * n2 + j = lc.off + 0 + i * n2 + 0 + j by omega, this, List.getElem?_take_of_lt hj, List.getElem?_drop, Array.getElem?_toList]) (fun j hj => by
        have := updA_in ((cs.toList.drop (lc.off + 0 + i * n2)).take ((len - i) * n2)) cs (lc.off + 0 + (i + m) * n2 + 0) j (by omega) (by omega)
        rw [updA_ge _ _ _ _ (by omega), show lc.off + (i + m) * n2 + j = lc.off + 0 + (i + m) * n2 + 0 + j by omega, this, List.getElem?_take_of_lt hj, List.getElem?_drop, Array.getElem?_toList]
        congr 1))
    refine ⟨_, hren.1, hren.2, .va (.l2 (.l1 (.l0 (.slice 0 (Emb.add_same _ _ _) (Nat.le_refl _) hin (fun _ => by rw [hln, hlz]; exact hz1)))))⟩
  · -- a new row
    obtain ⟨z, hz, hzn⟩ := W.hz
    obtain ⟨ti, hti, htz, hzc⟩ := zeroT_info hz
    have hts : ti.size = n2 := by have h := W.hn; simp [sizeT, hti] at h; exact h
    have htb : ti.bytes = wd := by have h := W.hw; simp [bytesT, hti] at h; exact h
    have hwd : w.drew.heap = w.heap := rfl
    have hold : (Builtin.firstCells ti.size i (.slice (some ⟨lc.blk, lc.off + 0, none⟩) i c')).run P w.drew = .ok ((cs.toList.drop (lc.off + 0)).take (i * n2)).toArray w.drew := by
      rw [hts]
      exact run_loadCells_of (by rw [hwd]; exact hwh) (.inr (by omega))
    have hsum : i + (len + m - i) = len + m := by omega
    have hkk : ((len : Int) + (m : Int) - (i : Int)) = ((len + m - i : Nat) : Int) := by omega
    have hkw : (len + m - i) * ti.bytes ≤ (len + m) * wd := by rw [htb]; exact Nat.mul_le_mul_right _ (by omega)
    have hrun := fun ty => Lib.run_append_grow_zeros (P := P) w t tI ty e ti z .i64 .i64 W.ht W.hI hti htz (some ⟨lc.blk, lc.off + 0, none⟩) i c' ((cs.toList.drop (lc.off + 0)).take (i * n2)) hold (len + m - i) (by omega) (by omega) (by omega) (by omega) (by omega) (by
      rw [htb, hsum]
      rcases hroom with h | h
      · exact growslice_fits (bytes := wd) (by omega) h
      · exact growslice_fits_wide (bytes := wd) (by omega) h)
    rw [hsum] at hrun
    have hG : len + m ≤ grownCap w (len + m) c' e := by simp [grownCap, Question.cut]
    generalize grownCap w (len + m) c' e = G at hrun hG
    have hzs : z.cells.size = n2 := zero_size hti htz hz hzn
    generalize hROW : ((cs.toList.drop (lc.off + 0)).take (i * n2)).toArray ++ Builtin.zeroCells z.cells (len + m - i) ++ Builtin.zeroCells z.cells (G - (len + m)) = ROW at hrun
    have hoz : ((cs.toList.drop (lc.off + 0)).take (i * n2)).length = i * n2 := by simp; omega
    have m7 : (len + m - i) * n2 = (len + m) * n2 - i * n2 := Nat.sub_mul _ _ _
    have m8 : (G - (len + m)) * n2 = G * n2 - (len + m) * n2 := Nat.sub_mul _ _ _
    have m9 : (len + m) * n2 ≤ G * n2 := Nat.mul_le_mul_right _ hG
    have hRs : ROW.size = G * n2 := by
      rw [← hROW]
      simp only [Array.size_append, Builtin.zeroCells, Array.size_map, Array.size_range, hzs, List.size_toArray, hoz]
      omega
    have hRo : ∀ j, j < i * n2 → ROW[j]? = cs[lc.off + j]? := fun j hj => by
      rw [← hROW, Array.append_assoc, Array.getElem?_append_left (by simp only [List.size_toArray, hoz]; exact hj)]
      rw [List.getElem?_toArray, List.getElem?_take_of_lt hj, List.getElem?_drop, Array.getElem?_toList]
      congr 1
    have hW0 : (w.drew.alloc (.cells ROW e)).heap[w.heap.size]? = some (.cells ROW e (0, 0)) := by
      show (w.heap.push _)[w.heap.size]? = _
      rw [Array.getElem?_push, if_pos rfl]
    have hW0o : ∀ c, c ≠ w.heap.size → (w.drew.alloc (.cells ROW e)).heap[c]? = w.heap[c]? := fun c hc => by
      show (w.heap.push _)[c]? = _
      rw [Array.getElem?_push, if_neg hc]
    have hb1 : lc.blk ≠ w.heap.size := by have := (Array.getElem?_eq_some_iff.1 hwh).1; omega
    have hb2' : l2.blk ≠ w.heap.size := by have := (Array.getElem?_eq_some_iff.1 hwh2).1; omega
    have hW0s : (w.drew.alloc (.cells ROW e)).heap.size = w.heap.size + 1 := by show (w.heap.push _).size = _; simp
    have hW0r : (w.drew.alloc (.cells ROW e)).os = w.os ∧ (w.drew.alloc (.cells ROW e)).tape = w.tape ∧ (w.drew.alloc (.cells ROW e)).output = w.output := ⟨rfl, rfl, rfl⟩
    generalize w.drew.alloc (.cells ROW e) = W0 at hrun hW0 hW0o hW0s hW0r
    obtain ⟨W1, s1, s2, s3, s4, s5, s6, s7, s8⟩ := run_storeCells (P := P) (b := w.heap.size) (off := i * n2) ((cs2.toList.drop (l2.off + o2)).take (m * n2)) 0 W0 ROW hW0 (fun j _ => by simp) (by rw [hlen2]; omega) hleaf2
    obtain ⟨W2, t1, t2, t3, t4, t5, t6, t7, t8⟩ := run_storeCells (P := P) (b := w.heap.size) (off := (i + m) * n2) ((cs.toList.drop (lc.off + 0 + i * n2)).take ((len - i) * n2)) 0 W1.drew _ (by show W1.heap[_]? = _; exact s2) (fun j _ => by simp) (by rw [hlen1, updA_size]; omega) hleaf1
    have k1 : Nat.min (len - i) (len + m - (i + m)) = len - i := by
      have : Nat.min (len - i) (len + m - (i + m)) = min (len - i) (len + m - (i + m)) := rfl
      omega
    have k2 : Nat.min m (len + m - i) = m := by
      have : Nat.min m (len + m - i) = min m (len + m - i) := rfl
      omega
    have hcp1 := fun ty dc => run_copyN (P := P) W.ht W.hn (W := W0) (W' := W1) (dst := ⟨w.heap.size, i * n2, none⟩) (src := ⟨l2.blk, l2.off + o2, none⟩) (dc := dc) (sc := d') (ty := ty) k2 (hsrc2 W0 (hW0o _ hb2')) s1
    have hcp2 := fun ty dc sc => run_copyN (P := P) W.ht W.hn (W := W1.drew) (W' := W2) (dst := ⟨w.heap.size, (i + m) * n2, none⟩) (src := ⟨lc.blk, lc.off + 0 + i * n2, none⟩) (dc := dc) (sc := sc) (ty := ty) k1 (run_loadCells_of (by show W1.heap[_]? = _; rw [s3 _ hb1, hW0o _ hb1]; exact hwh) (.inr (by omega))) t1
    refine (W.walkE lc.blk (lc.off + 0) len c' i l2.blk (l2.off + o2) m d' w hi hm (by omega) (by omega) (by omega) W0 w.heap.size G hG (fun ty => by rw [hkk]; exact hrun ty) W1 _ hcp1 W2 _ hcp2).mono ?_
    rintro e1 w' ⟨rfl, rfl⟩
    refine ⟨_, rfl, ?_⟩
    have hk := hs.kill hb
    generalize hCF : updA (updA ROW (i * n2 + 0) ((cs2.toList.drop (l2.off + o2)).take (m * n2))) ((i + m) * n2 + 0) ((cs.toList.drop (lc.off + 0 + i * n2)).take ((len - i) * n2)) = csF at t2
    have hFs : csF.size = G * n2 := by rw [← hCF, updA_size, updA_size, hRs]
    have hp := hk.1.push (n := n2) (cells := row.take (i * n2) ++ (row2.drop o2).take (m * n2) ++ (row.take (len * n2)).drop (i * n2)) (cs := csF) (e := e) (fz := (0, 0)) (.inl rfl) (fun j v hj => by
      have := mid_rel (o := lc.off) (p := l2.off) (q := 0) (csF := csF) hrow hrow2 hi hrl hr2 (fun j hj => by
        rw [← hCF, Nat.zero_add, updA_lt _ _ _ _ (by omega), updA_lt _ _ _ _ (by omega), hRo j hj]) (fun j hj => by
        have := updA_in ((cs2.toList.drop (l2.off + o2)).take (m * n2)) ROW (i * n2 + 0) j (by omega) (by omega)
        rw [← hCF, updA_lt _ _ _ _ (by omega), show 0 + i * n2 + j = i * n2 + 0 + j by omega, this, List.getElem?_take_of_lt hj, List.getElem?_drop, Array.getElem?_toList]) (fun j hj => by
        have := updA_in ((cs.toList.drop (lc.off + 0 + i * n2)).take ((len - i) * n2)) (updA ROW (i * n2 + 0) ((cs2.toList.drop (l2.off + o2)).take (m * n2))) ((i + m) * n2 + 0) j (by omega) (by rw [updA_size]; omega)
        rw [← hCF, show 0 + (i + m) * n2 + j = (i + m) * n2 + 0 + j by omega, this, List.getElem?_take_of_lt hj, List.getElem?_drop, Array.getElem?_toList]
        congr 1) j v hj
      rwa [Nat.zero_add] at this)
    have hlenS : (s.heap.set b (Blk.row n2 row .dead)).length = s.heap.length := by simp
    rw [hlenS] at hp
    have hheap : w'.heap = (w.alloc (.cells csF e (0, 0))).heap := by
      apply Array.ext_getElem?
      intro c
      show _ = (w.heap.push _)[c]?
      rw [Array.getElem?_push]
      by_cases hcN : c = w.heap.size
      · rw [if_pos hcN, hcN]; exact t2
      · rw [if_neg hcN, t3 c hcN]
        show W1.heap[c]? = _
        rw [s3 c hcN, hW0o c hcN]
    have hst := hk.2.trans hp.2
    refine ⟨_, hp.1.congr hheap, ⟨hst.le, hst.old, hst.img, fun c hc hn => by rw [hheap]; exact hst.keep c hc hn, by rw [hheap]; exact hst.size, ?_, ?_, ?_, hst.len, hst.own⟩, slice_new _ _ _ _ _ _ rfl (Nat.le_refl _) hG (by simp only [hFs]; exact Nat.le_refl _)⟩
    · rw [t5]; show W1.os = _; rw [s5]; exact hW0r.1
    · rw [t6]; show W1.tape = _; rw [s6]; exact hW0r.2.1
    · rw [t7]; show W1.output = _; rw [s7]; exact hW0r.2.2

end Go.Proofs.Ytamaapapaiopiaa.Ab

/- slices.Insert of pairs: known by the kit's walks. -/
namespace Go.Proofs.Ytamaapapaiopiaa.Ab
open Go Go.RowKit Go.Lib Go.Shelf

/-! ### slices.Insert -/
set_option maxHeartbeats 4000000 in
set_option maxRecDepth 100000 in
theorem InsD (b off n c i vb voff m vc : Nat) (w : World) (hi : i < n) (hm : 0 < m) (hroom : n + m ≤ c) (hc63 : n + m ≤ 9223372036854775807)
    (hov : ∀ lb cb, (callFunc 102 #[.slice (some ⟨vb, voff, none⟩) m vc, .slice (some ⟨b, off + (i + m) * 2, none⟩) lb cb]).run Try.prog w = .ok (.value (.bool false)) w)
    (W1 : World) (r1 : Value) (hcp1 : ∀ ty dc sc, (Builtin.copy_ #[24, 24] ty #[.slice (some ⟨b, off + (i + m) * 2, none⟩) (n + m - (i + m)) dc, .slice (some ⟨b, off + i * 2, none⟩) (n + m - i) sc]).run Try.prog w.drew = .ok r1 W1)
    (W2 : World) (r2 : Value) (hcp2 : ∀ ty dc, (Builtin.copy_ #[24, 24] ty #[.slice (some ⟨b, off + i * 2, none⟩) (n + m - i) dc, .slice (some ⟨vb, voff, none⟩) m vc]).run Try.prog W1 = .ok r2 W2) :
    Calls Try.prog 95 #[.slice (some ⟨b, off, none⟩) n c, .int .i64 i, .slice (some ⟨vb, voff, none⟩) m vc] w fun e w' => e = .returned (.slice (some ⟨b, off, none⟩) (n + m) c) ∧ w' = W2 := by
  have hz1 : ¬ ((m : Int) = 0) := by omega
  have hz2 : ¬ ((i : Int) = (n : Int)) := by omega
  have hsz : (Try.prog.info? 45).map (·.size) = some 2 := by kernel_rfl
  have hw1 : IntKind.i64.wrap ((i : Int) + (m : Int)) = (i : Int) + (m : Int) := by rw [IntKind.wrap_i64]; omega
  have hb1 : (0 : Int) ≤ (i : Int) + (m : Int) := by omega
  have hin : i ≤ n := by omega
  have htn : ((i : Int) + (m : Int)).toNat = i + m := by omega
  have hb2 : ¬ (c = i + m) := by omega
  have hb3 : (i : Int) ≤ (n : Int) + (m : Int) := by omega
  have hb4 : ¬ (c = i) := by omega
  have mixed : Try.prog.follows .mixedOrders = true := by kernel_rfl
  go_enter Try.func95, Try.ntmps95
  go_wp2_with (simp only [hov])
  go_region_law_o (refine step_copy_runI rfl _ _ 24 24 rfl _ _ (by simp [Act.eval, Act.put]) (by simp [Act.eval, Act.put]) (hcp1 _ _ _) ?_)
  go_wp2_with (at_builtin; refine wpList_copy_runI _ rfl _ _ 24 24 rfl _ _ rfl rfl (hcp2 _ _) ?_)
  go_ret
  exact ⟨rfl, rfl⟩
set_option maxHeartbeats 4000000 in
set_option maxRecDepth 100000 in
theorem InsE (b off n c i vb voff m vc : Nat) (w : World) (hi : i < n) (hm : 0 < m) (hnc : n ≤ c) (hroom : c < n + m) (hc63 : n + m ≤ 9223372036854775807)
    (W0 : World) (N cap : Nat) (hcap : n + m ≤ cap) (hap : ∀ ty, (Builtin.append_ #[24, 3] ty #[.slice (some ⟨b, off, none⟩) i c, .int .i64 ((n : Int) + (m : Int) - (i : Int))]).run Try.prog w = .ok (.slice (some ⟨N, 0, none⟩) (n + m) cap) W0)
    (W1 : World) (r1 : Value) (hcp1 : ∀ ty dc, (Builtin.copy_ #[24, 24] ty #[.slice (some ⟨N, i * 2, none⟩) (n + m - i) dc, .slice (some ⟨vb, voff, none⟩) m vc]).run Try.prog W0 = .ok r1 W1)
    (W2 : World) (r2 : Value) (hcp2 : ∀ ty dc sc, (Builtin.copy_ #[24, 24] ty #[.slice (some ⟨N, (i + m) * 2, none⟩) (n + m - (i + m)) dc, .slice (some ⟨b, off + i * 2, none⟩) (n - i) sc]).run Try.prog W1.drew = .ok r2 W2) :
    Calls Try.prog 95 #[.slice (some ⟨b, off, none⟩) n c, .int .i64 i, .slice (some ⟨vb, voff, none⟩) m vc] w fun e w' => e = .returned (.slice (some ⟨N, 0, none⟩) (n + m) cap) ∧ w' = W2 := by
  have hz1 : ¬ ((m : Int) = 0) := by omega
  have hz2 : ¬ ((i : Int) = (n : Int)) := by omega
  have hz3 : (c : Int) < (n : Int) + (m : Int) := by omega
  have hsz : (Try.prog.info? 45).map (·.size) = some 2 := by kernel_rfl
  have hw1 : IntKind.i64.wrap ((i : Int) + (m : Int)) = (i : Int) + (m : Int) := by rw [IntKind.wrap_i64]; omega
  have hb1 : (0 : Int) ≤ (i : Int) + (m : Int) := by omega
  have hin : i ≤ n := by omega
  have hb3 : (i : Int) ≤ (n : Int) := by omega
  have hb5 : ¬ (cap = i + m) := by omega
  have hb6 : ¬ (c = i) := by omega
  have htn : ((i : Int) + (m : Int)).toNat = i + m := by omega
  have mixed : Try.prog.follows .mixedOrders = true := by kernel_rfl
  go_enter Try.func95, Try.ntmps95
  go_wp2_with (first
    | (at_builtin; refine Lib.wpList_append_run _ rfl _ _ _ _ rfl _ _ rfl rfl _ _ (hap _) ?_)
    | (at_builtin; refine wpList_copy_runI _ rfl _ _ 24 24 rfl _ _ rfl rfl (hcp1 _ _) ?_)
    | (at_builtin; refine wpList_copy_runI _ rfl _ _ 24 24 rfl _ _ rfl rfl (hcp2 _ _ _) ?_))
  go_region_law_o (refine step_copy_runI rfl _ _ 24 24 rfl (.slice (some ⟨N, (i + m) * 2, none⟩) (n + m - (i + m)) (cap - (i + m))) (.slice (some ⟨b, off + i * 2, none⟩) (n - i) (c - i)) (by simp [Act.eval, Act.put, hb5, hb6]) (by simp [Act.eval, Act.put, hb5, hb6]) (hcp2 3 (cap - (i + m)) (c - i)) ?_)
  go_wp2
  go_ret
  exact ⟨rfl, rfl⟩
theorem insWalk : InsWalk Try.prog 95 24 45 3 102 2 32 where
  ht := Try.underlying24
  hI := Try.underlying3
  hn := by kernel_rfl
  hw := by kernel_rfl
  hz := ⟨.agg #[.string ⟨#[]⟩, .string ⟨#[]⟩], by kernel_rfl, rfl⟩
  hn2 := by decide
  hw0 := by decide
  hov w a b la ca lb cb hne tA tB kA kB h1 h2 h3 h4 h5 := by
    have hz : ∀ w, (Go.sizeOf 45).run Try.prog w = .ok 2 w := fun w => run_sizeOf' (by kernel_rfl)
    rw [run_callFunc_extern Try.func102 (by kernel_rfl) (by kernel_rfl) (by kernel_rfl) (e := Extern.SlicesOverlaps.overlaps #[24, 24] #[4]) (by kernel_rfl),
      Lib.run_overlaps_apart w 24 4 45 Try.underlying24 2 hz a b la ca lb cb hne tA tB kA kB h1 h2 h3 h4 h5]
    rfl
  walkD := InsD
  walkE := InsE

def gIns : Sum := fun xs s => match xs with
  | [x, .int .i64 i, y] => if 0 ≤ i then
      (if lenV x = some i.toNat then (if (asliceV 2 x (some (.int .i64 i)) none none).isSome = true ∧ lenV y ≠ none ∧ lenV y ≠ some 0 then (aappend 2 32 x y s).bind fun r => retV [r.1] r.2 else none)
      else gInsMid 2 32 x i.toNat y s) else none
  | _ => none
theorem lenV_slice {x : Value} {n : Nat} {s : St} {u : Value} {lo hi mx : Option Value} (h : lenV x = some n) (hs : asliceV 2 x lo hi mx = some u) (e : TypeId) : alenV (.slice e) x s = some (.int .i64 (n : Int)) := by
  unfold asliceV at hs
  split at hs
  · cases h; rfl
  · cases hs
theorem ins_known {l : List (FuncId × Sum)} (hno : libL l 95 = none) (hl : LibOk Try.prog (libL l)) : ∀ args s v s', gIns args s = some (v, s') → ∀ wb ι w (args' : Array Value), Sim wb ι s.heap w → All2 (VRel ι) args args'.toList → Calls Try.prog 95 args' w fun e w' => ∃ v', e = .returned v' ∧ After wb ι s.heap w s'.heap v v' w' := by
  intro args s v s' h wb ι w args' hs ha
  unfold gIns at h
  split at h
  case h_2 => cases h
  rename_i x i y
  split at h
  case isFalse => cases h
  rename_i hi
  obtain ⟨i, rfl⟩ := Int.eq_ofNat_of_zero_le hi
  simp only [Int.toNat_natCast] at h
  split at h
  · rename_i hlen
    split at h
    case isFalse => cases h
    rename_i hc
    obtain ⟨hc1, hc2, hc3⟩ := hc
    obtain ⟨m, hm⟩ : ∃ m, lenV y = some (m + 1) := by
      cases e : lenV y with
      | none => exact absurd e hc2
      | some q => cases q with
        | zero => exact absurd e hc3
        | succ m => exact ⟨m, rfl⟩
    obtain ⟨u, hu⟩ := Option.isSome_iff_exists.1 hc1
    have hrun : run Try.prog (libL l) hints 95 [x, .int .i64 (i : Int), y] s = some (v, s') := by
      refine slices_Insert_api_Pair_api_Pair_of hno ?_
      unfold slices_Insert_api_Pair_api_Pair
      simp only [Option.bind_eq_some_iff] at h
      obtain ⟨r, hr, hv⟩ := h
      have hy : ∀ e, alenV (.slice e) y s = some (.int .i64 ((m + 1 : Nat) : Int)) := fun e => by
        unfold aappend at hr
        split at hr
        case isFalse => cases hr
        simp only [Option.bind_eq_some_iff] at hr
        obtain ⟨m', _, new, hnew, _⟩ := hr
        unfold elemsOf at hnew
        split at hnew
        · cases hm
        · cases hm; rfl
        · simp at hnew
        · cases hnew
      have e1 : (((m + 1 : Nat) : Int) == 0) = false := by rw [beq_eq_false_iff_ne]; omega
      simp only [hu, hy, lenV_slice hlen hu, e1, beq_self_eq_true, n_bind, n_map, getL_0, getL_1, getL_2, getL_3, getL_4, getL_5, getL_6, getL_7, getL_8, getL_9, getL_10, getL_11, getL_12, condV_t, condV_f, guardV_tt, guardV_ff, guardV_tf, guardV_ft, guardV_u, apick_t, apick_f, exV_exit, exV_ret, lookE_same, joinK_eq, seqA_n, seqA_e, seqA_r, e_add, e_sub, e_mul, e_eql, e_neq, e_lss, e_leq, e_gtr, e_geq, e_conv, e_not, e_neg, and_guard, or_guard, hr]
      exact hv
    exact run_sound progOk hl _ _ _ _ _ hrun slices_Insert_api_Pair_api_Pair_ok _ _ _ _ hs ha
  · exact ins_sound insWalk h hs ha

end Go.Proofs.Ytamaapapaiopiaa.Ab

/- Operations, as values; the kinds' forms. -/
namespace Go.Proofs.Ytamaapapaiopiaa.Ab
open Go

/-- a || b && c, a && (b || c), as they are worked out -/
theorem or_and {β : Type} {a b c : Bool} {s : St} {K : List Value × St → Value → Option β} :
    ((guardV (.bool a) false (some ([.bool b], s)) (some ([undef], s))).bind fun q => (guardV (getL q.1 0) true (some ([.bool c], q.2)) (some ([undef], q.2))).bind fun q2 => (guardV (.bool a) false ((apick (getL q.1 0) (getL q2.1 0) (.bool false)).bind fun v => some ([v], q2.2)) (some ([undef], q2.2))).bind fun q3 => (apick (.bool a) (.bool true) (getL q3.1 0)).bind (K q3)) = K ([if a = true then undef else .bool (b && c)], s) (.bool (a || (b && c))) := by
  cases a <;> cases b <;> cases c <;> rfl
theorem and_or {β : Type} {a b c : Bool} {s : St} {K : List Value × St → Value → Option β} :
    ((guardV (.bool a) true (some ([.bool b], s)) (some ([undef], s))).bind fun q => (guardV (getL q.1 0) false (some ([.bool c], q.2)) (some ([undef], q.2))).bind fun q2 => (guardV (.bool a) true ((apick (getL q.1 0) (.bool true) (getL q2.1 0)).bind fun v => some ([v], q2.2)) (some ([undef], q2.2))).bind fun q3 => (apick (.bool a) (getL q3.1 0) (.bool false)).bind (K q3)) = K ([if a = true then .bool (b || c) else undef], s) (.bool (a && (b || c))) := by
  cases a <;> cases b <;> cases c <;> rfl
theorem condV_if {b : Bool} {β : Type} {x y : Option β} : condV (.bool b) x y = if b = true then x else y := by cases b <;> rfl
theorem ret1 {v : Value} {s : St} (h : noTup v = true := by rfl) : retV [v] s = some (v, s) := by simp [retV, h, resPack]

structure OpT where
  kind : Int
  key : BL
  val : BL
  lo : BL
  hi : BL
  most : Int
def oC (o : OpT) : List Value := [.int .i64 o.kind, sv o.key, sv o.val, sv o.lo, sv o.hi, .int .i64 o.most]
def oV (o : OpT) : Value := .agg #[.int .i64 o.kind, sv o.key, sv o.val, sv o.lo, sv o.hi, .int .i64 o.most]
theorem oV_eq (o : OpT) : oV o = .agg (oC o).toArray := rfl
def asOp : Value → Option OpT
  | .agg cs => match cs.toList with
    | [.int .i64 k, .string a, .string b, .string c, .string d, .int .i64 m] => some ⟨k, a.data.toList, b.data.toList, c.data.toList, d.data.toList, m⟩
    | _ => none
  | _ => none
theorem asOp_oV {o : OpT} : asOp (oV o) = some o := rfl
theorem asOp_some {v : Value} {o : OpT} (h : asOp v = some o) : v = oV o := by
  unfold asOp at h
  split at h
  · rename_i cs
    split at h
    · rename_i k a b c d m e
      cases h
      obtain ⟨l⟩ := cs
      simp only at e
      subst e
      unfold oV
      rw [← sv_of, ← sv_of, ← sv_of, ← sv_of]
    · cases h
  · cases h
theorem o_box (o : OpT) : lbox (oV o) = some (oV o) := rfl
theorem o_all (o : OpT) : lload true 6 lptr (oV o) = some (oV o) := rfl
theorem o_0 (o : OpT) : lload false 1 lptr (oV o) = some (.int .i64 o.kind) := rfl
theorem o_00 (o : OpT) : lload false 1 (.pointer (some ⟨0, 0, none⟩)) (oV o) = some (.int .i64 o.kind) := rfl
theorem o_1 (o : OpT) : lload false 1 (.pointer (some ⟨0, 1, none⟩)) (oV o) = some (sv o.key) := rfl
theorem o_2 (o : OpT) : lload false 1 (.pointer (some ⟨0, 2, none⟩)) (oV o) = some (sv o.val) := rfl
theorem o_3 (o : OpT) : lload false 1 (.pointer (some ⟨0, 3, none⟩)) (oV o) = some (sv o.lo) := rfl
theorem o_4 (o : OpT) : lload false 1 (.pointer (some ⟨0, 4, none⟩)) (oV o) = some (sv o.hi) := rfl
theorem o_5 (o : OpT) : lload false 1 (.pointer (some ⟨0, 5, none⟩)) (oV o) = some (.int .i64 o.most) := rfl
theorem o_st (o : OpT) : lstore 6 lptr (oV o) (.agg #[(.int .i64 0), (.string ⟨#[]⟩), (.string ⟨#[]⟩), (.string ⟨#[]⟩), (.string ⟨#[]⟩), (.int .i64 0)]) = some (oV o) := rfl
theorem o_st2 (o : OpT) : lstore 6 lptr (oV o) (.agg #[(.int .i64 0), sv [], sv [], sv [], sv [], (.int .i64 0)]) = some (oV o) := rfl
theorem p_0 : afieldAddr 0 lptr = some lptr := rfl
theorem p_1 : afieldAddr 1 lptr = some (.pointer (some ⟨0, 1, none⟩)) := rfl
theorem p_2 : afieldAddr 2 lptr = some (.pointer (some ⟨0, 2, none⟩)) := rfl
theorem p_3 : afieldAddr 3 lptr = some (.pointer (some ⟨0, 3, none⟩)) := rfl
theorem p_4 : afieldAddr 4 lptr = some (.pointer (some ⟨0, 4, none⟩)) := rfl
theorem p_5 : afieldAddr 5 lptr = some (.pointer (some ⟨0, 5, none⟩)) := rfl

def G1O (F : OpT → Value) : List Value → Option Value
  | [v] => (asOp v).map F
  | _ => none
theorem sum1O {lib : Lib} {f : FuncId} {F : OpT → Value} (h : ∀ o s, plainV (F o) = true ∧ ∃ t, run Try.prog lib hints f [oV o] s = some (F o, t)) : SumOk Try.prog lib hints f (gP (G1O F)) := sumP fun xs v s hv => by
  unfold G1O at hv
  split at hv
  · simp only [Option.map_eq_some_iff] at hv
    obtain ⟨k, h1, rfl⟩ := hv
    rw [asOp_some h1]
    exact h k s
  · cases hv
def G1I (F : Int → Value) : List Value → Option Value
  | [.int .i64 k] => some (F k)
  | _ => none
theorem sum1I {lib : Lib} {f : FuncId} {F : Int → Value} (h : ∀ k s, plainV (F k) = true ∧ ∃ t, run Try.prog lib hints f [.int .i64 k] s = some (F k, t)) : SumOk Try.prog lib hints f (gP (G1I F)) := sumP fun xs v s hv => by
  unfold G1I at hv
  split at hv
  · cases hv
    exact h _ s
  · cases hv
theorem sum0 {lib : Lib} {f : FuncId} {v : Value} (h : ∀ s, plainV v = true ∧ ∃ t, run Try.prog lib hints f [] s = some (v, t)) : SumOk Try.prog lib hints f (gP (G0 v)) := sumP fun xs u s hv => by
  unfold G0 at hv
  split at hv
  · cases hv
    exact h s
  · cases hv

/-! ### The forms -/
def formC : Int → List Value
  | 1 => [.bool true, .bool false, .bool false, .bool false, .bool false, .func (.func 89) #[] #[]]
  | 2 => [.bool true, .bool true, .bool false, .bool false, .bool true, .func (.func 90) #[] #[]]
  | 3 => [.bool true, .bool false, .bool false, .bool false, .bool true, .func (.func 91) #[] #[]]
  | 4 => [.bool false, .bool false, .bool true, .bool true, .bool false, .func (.func 92) #[] #[]]
  | 5 => [.bool false, .bool false, .bool true, .bool false, .bool true, .func (.func 93) #[] #[]]
  | _ => [.bool false, .bool false, .bool false, .bool false, .bool false, .nilFunc]
def formV (k : Int) : Value := .agg (formC k).toArray
def formsV : Value := .agg (formC 0 ++ formC 1 ++ formC 2 ++ formC 3 ++ formC 4 ++ formC 5).toArray
def okKind (k : Int) : Bool := decide (1 ≤ k) && decide (k ≤ 5)
theorem kinds {k : Int} (h : okKind k = true) : k = 1 ∨ k = 2 ∨ k = 3 ∨ k = 4 ∨ k = 5 := by
  unfold okKind at h
  simp at h
  omega
theorem noKind {k : Int} (h : okKind k = false) : formV k = formV 0 := by
  have : k ≠ 1 ∧ k ≠ 2 ∧ k ≠ 3 ∧ k ≠ 4 ∧ k ≠ 5 := by
    unfold okKind at h
    simp at h
    refine ⟨?_, ?_, ?_, ?_, ?_⟩ <;> (rintro rfl; revert h; decide)
  unfold formV formC
  obtain ⟨h1, h2, h3, h4, h5⟩ := this
  split <;> simp_all
theorem forms_run {R : Caller} (s : St) : op_forms R s = some (formsV, s) := by kernel_rfl
def fmV (k : Int) : Value := .tuple #[formV k, .bool (okKind k)]
theorem formOf_run {R : Caller} (hF : ∀ s, R 87 [] s = some (formsV, s)) (k : Int) (s : St) : op_formOf R (.int .i64 k) s = some (fmV k, s) := by
  unfold op_formOf fmV
  cases h : okKind k
  · rw [noKind h]
    unfold okKind at h
    have h2 : (decide (k < 1) || decide (k > 5)) = true := by
      simp at h ⊢
      omega
    cases h1 : decide (k < 1) <;> rw [h1] at h2
    · have h3 : decide (k > 5) = true := by simpa using h2
      simp only [e_lss, e_gtr, h1, h3, n_bind, n_map, getL_0, getL_1, getL_2, getL_3, getL_4, getL_5, getL_6, getL_7, getL_8, getL_9, getL_10, getL_11, getL_12, condV_t, condV_f, guardV_tt, guardV_ff, guardV_tf, guardV_ft, guardV_u, apick_t, apick_f, exV_exit, exV_ret, lookE_same, joinK_eq, seqA_n, seqA_e, seqA_r, e_add, e_sub, e_mul, e_eql, e_neq, e_lss, e_leq, e_gtr, e_geq, e_conv, e_not, e_neg, and_guard, or_guard, retV]
      rfl
    · simp only [e_lss, e_gtr, h1, n_bind, n_map, getL_0, getL_1, getL_2, getL_3, getL_4, getL_5, getL_6, getL_7, getL_8, getL_9, getL_10, getL_11, getL_12, condV_t, condV_f, guardV_tt, guardV_ff, guardV_tf, guardV_ft, guardV_u, apick_t, apick_f, exV_exit, exV_ret, lookE_same, joinK_eq, seqA_n, seqA_e, seqA_r, e_add, e_sub, e_mul, e_eql, e_neq, e_lss, e_leq, e_gtr, e_geq, e_conv, e_not, e_neg, and_guard, or_guard, retV]
      rfl
  · have h1 : decide (k < 1) = false := by rcases kinds h with rfl | rfl | rfl | rfl | rfl <;> rfl
    have h2 : decide (k > 5) = false := by rcases kinds h with rfl | rfl | rfl | rfl | rfl <;> rfl
    have h3 : aindexAgg true 6 6 formsV (.int .i64 k) = some (formV k) := by rcases kinds h with rfl | rfl | rfl | rfl | rfl <;> rfl
    have h4 : lstore 6 lptr (formV k) (.agg #[(.bool false), (.bool false), (.bool false), (.bool false), (.bool false), .nilFunc]) = some (formV k) := by rcases kinds h with rfl | rfl | rfl | rfl | rfl <;> rfl
    have h5 : lload true 6 lptr (formV k) = some (formV k) := by rcases kinds h with rfl | rfl | rfl | rfl | rfl <;> rfl
    simp only [e_lss, e_gtr, h1, h2, op_forms_call, hF, h3, h4, h5, n_bind, n_map, getL_0, getL_1, getL_2, getL_3, getL_4, getL_5, getL_6, getL_7, getL_8, getL_9, getL_10, getL_11, getL_12, condV_t, condV_f, guardV_tt, guardV_ff, guardV_tf, guardV_ft, guardV_u, apick_t, apick_f, exV_exit, exV_ret, lookE_same, joinK_eq, seqA_n, seqA_e, seqA_r, e_add, e_sub, e_mul, e_eql, e_neq, e_lss, e_leq, e_gtr, e_geq, e_conv, e_not, e_neg, and_guard, or_guard, retV]
    rfl
theorem form_plain (k : Int) : plainV (fmV k) = true := by
  unfold fmV
  cases h : okKind k
  · rw [noKind h]; rfl
  · rcases kinds h with rfl | rfl | rfl | rfl | rfl <;> rfl
theorem x_fm (k : Int) : aextract 0 (fmV k) = some (formV k) ∧ aextract 1 (fmV k) = some (.bool (okKind k)) := ⟨rfl, rfl⟩
def gForms : Sum := gP (G0 formsV)
def gFm : Sum := gP (G1I fmV)
theorem forms_eq {s : St} : gForms [] s = some (formsV, s) := rfl
theorem fm_eq {k : Int} {s : St} : gFm [.int .i64 k] s = some (fmV k, s) := rfl

/-! ### What may be -/
def keyed (k : Int) : Bool := k == 1 || k == 2 || k == 3
def ranged (k : Int) : Bool := k == 4 || k == 5
def wrt (k : Int) : Bool := k == 2 || k == 3 || k == 5
def ckO (o : OpT) : Int :=
  if !okKind o.kind || (keyed o.kind && (o.lo != [] || o.hi != [])) || (ranged o.kind && o.key != []) || (o.kind != 2 && o.val != []) || (o.kind != 4 && o.most != 0) then 40
  else if keyed o.kind && !ckK o.key then 20
  else if !decide (o.val.length ≤ 16) then 2
  else if ranged o.kind && !ckR (o.lo, o.hi) then 21
  else if o.kind == 4 && (decide (o.most < 1) || decide (o.most > 4)) then 1
  else 0
theorem ckO_bad {o : OpT} (h : okKind o.kind = false) : ckO o = 40 := by unfold ckO; rw [h]; rfl
theorem of_run {R : Caller} (o : OpT) (s : St) : op_of R (oV o) s = some (rv (o.lo, o.hi), s) := by
  unfold op_of
  simp only [o_box, o_3, o_4, ab2, n_bind, n_map, getL_0, getL_1, getL_2, getL_3, getL_4, getL_5, getL_6, getL_7, getL_8, getL_9, getL_10, getL_11, getL_12, condV_t, condV_f, guardV_tt, guardV_ff, guardV_tf, guardV_ft, guardV_u, apick_t, apick_f, exV_exit, exV_ret, lookE_same, joinK_eq, seqA_n, seqA_e, seqA_r, e_add, e_sub, e_mul, e_eql, e_neq, e_lss, e_leq, e_gtr, e_geq, e_conv, e_not, e_neg, and_guard, or_guard, retV]
  rfl
theorem len16 {k : BL} : decide (((k.length : Nat) : Int) > 16) = !decide (k.length ≤ 16) := by
  by_cases h : k.length ≤ 16
  · simp [h]; omega
  · simp [h]; omega
theorem f_ld (k : Int) (h : okKind k = true) : lstore 6 lptr (formV k) (.agg #[(.bool false), (.bool false), (.bool false), (.bool false), (.bool false), .nilFunc]) = some (formV k) ∧
    lload false 1 lptr (formV k) = some (.bool (keyed k)) ∧ lload false 1 (.pointer (some ⟨0, 1, none⟩)) (formV k) = some (.bool (k == 2)) ∧ lload false 1 (.pointer (some ⟨0, 2, none⟩)) (formV k) = some (.bool (ranged k)) ∧ lload false 1 (.pointer (some ⟨0, 3, none⟩)) (formV k) = some (.bool (k == 4)) ∧ lload false 1 (.pointer (some ⟨0, 4, none⟩)) (formV k) = some (.bool (wrt k)) := by
  rcases kinds h with rfl | rfl | rfl | rfl | rfl <;> exact ⟨rfl, rfl, rfl, rfl, rfl, rfl⟩
theorem CheckOp_run {R : Caller} (hF : ∀ k s, R 80 [.int .i64 k] s = some (fmV k, s)) (hO : ∀ o s, R 81 [oV o] s = some (rv (o.lo, o.hi), s)) (hR : ∀ r s, R 82 [rv r] s = some (.int .i64 (eR r), s)) (hK : ∀ k s, R 30 [sv k] s = some (.int .i64 (eK k), s)) (o : OpT) (s : St) : op_CheckOp R (oV o) s = some (.int .i64 (ckO o), s) := by
  unfold op_CheckOp
  simp only [o_box, o_0, op_formOf_call, hF, (x_fm _).1, (x_fm _).2, n_bind, n_map, getL_0, getL_1, getL_2, getL_3, getL_4, getL_5, getL_6, getL_7, getL_8, getL_9, getL_10, getL_11, getL_12, condV_t, condV_f, guardV_tt, guardV_ff, guardV_tf, guardV_ft, guardV_u, apick_t, apick_f, exV_exit, exV_ret, lookE_same, joinK_eq, seqA_n, seqA_e, seqA_r, e_add, e_sub, e_mul, e_eql, e_neq, e_lss, e_leq, e_gtr, e_geq, e_conv, e_not, e_neg, and_guard, or_guard]
  cases hk : okKind o.kind
  · rw [noKind hk, ckO_bad hk]
    have h1 : lstore 6 lptr (formV 0) (.agg #[(.bool false), (.bool false), (.bool false), (.bool false), (.bool false), .nilFunc]) = some (formV 0) := rfl
    simp only [h1, Bool.not_false, n_bind, n_map, getL_0, getL_1, getL_2, getL_3, getL_4, getL_5, getL_6, getL_7, getL_8, getL_9, getL_10, getL_11, getL_12, condV_t, condV_f, guardV_tt, guardV_ff, guardV_tf, guardV_ft, guardV_u, apick_t, apick_f, exV_exit, exV_ret, lookE_same, joinK_eq, seqA_n, seqA_e, seqA_r, e_add, e_sub, e_mul, e_eql, e_neq, e_lss, e_leq, e_gtr, e_geq, e_conv, e_not, e_neg, and_guard, or_guard, op_CheckOp.j0, retV]
    rfl
  obtain ⟨f0, f1, f2, f3, f4, f5⟩ := f_ld o.kind hk
  have hrk : ranged o.kind = !keyed o.kind := by rcases kinds hk with h | h | h | h | h <;> rw [h] <;> rfl
  have hne : ∀ a b : BL, (!(a == [] && b == [])) = (a != [] || b != []) := fun a b => by simp [bne, Bool.not_and]
  have rne : ∀ (o1 o2 : Operand) (r : Rg), abin Try.prog .neq 74 o1 o2 (rv r) (.agg #[sv [], sv []]) = some (.bool (r.1 != [] || r.2 != [])) := fun o1 o2 r => by
    rw [z_rv2, rv_neq, hne]
  have hck : ckO o = if (keyed o.kind && (o.lo != [] || o.hi != [])) || (!keyed o.kind && o.key != []) || (o.kind != 2 && o.val != []) || (o.kind != 4 && o.most != 0) then 40
      else if keyed o.kind && !ckK o.key then 20
      else if !decide (o.val.length ≤ 16) then 2
      else if !keyed o.kind && !ckR (o.lo, o.hi) then 21
      else if o.kind == 4 && (decide (o.most < 1) || decide (o.most > 4)) then 1
      else 0 := by
    unfold ckO
    rw [hk, hrk]
    rfl
  rw [hck]
  have hb2 : (o.kind != 2) = !(o.kind == 2) := rfl
  have hb4 : (o.kind != 4) = !(o.kind == 4) := rfl
  rw [hrk] at f3
  rw [hb2, hb4]
  generalize keyed o.kind = kd at *
  generalize (o.kind == 2) = k2 at *
  generalize (o.kind == 4) = k4 at *
  have hj : ∀ b, op_CheckOp.j0 R [lptr, lptr, .bool b, oV o, formV o.kind] s = some (.int .i64 (if b then 40 else if kd && !ckK o.key then 20
      else if !decide (o.val.length ≤ 16) then 2
      else if !kd && !ckR (o.lo, o.hi) then 21
      else if k4 && (decide (o.most < 1) || decide (o.most > 4)) then 1
      else 0), s) := fun b => by
    unfold op_CheckOp.j0
    cases b
    · simp only [p_0, p_1, p_2, p_3, p_5, o_all, o_1, o_2, o_5, f1, f3, f4, e_lenV, len16, span_CheckKey_call, hK, op_of_call, hO, span_Check_call, hR, eK_n, eR_n, n_bind, n_map, getL_0, getL_1, getL_2, getL_3, getL_4, getL_5, getL_6, getL_7, getL_8, getL_9, getL_10, getL_11, getL_12, condV_t, condV_f, guardV_tt, guardV_ff, guardV_tf, guardV_ft, guardV_u, apick_t, apick_f, exV_exit, exV_ret, lookE_same, joinK_eq, seqA_n, seqA_e, seqA_r, e_add, e_sub, e_mul, e_eql, e_neq, e_lss, e_leq, e_gtr, e_geq, e_conv, e_not, e_neg, and_guard, or_guard]
      cases kd <;> cases h1 : ckK o.key <;> cases h2 : decide (o.val.length ≤ 16) <;> cases h3 : ckR (o.lo, o.hi) <;> cases k4 <;> cases h4 : decide (o.most < 1) <;> cases h5 : decide (o.most > 4) <;>
        simp only [h1, h2, h3, h4, h5, f1, f3, f4, o_1, o_2, o_5, o_all, e_lenV, len16, eK_n, eR_n, op_of_call, hO, span_Check_call, hR, Bool.not_true, Bool.not_false, Bool.and_true, Bool.and_false, Bool.true_and, Bool.false_and, Bool.or_true, Bool.or_false, Bool.true_or, Bool.false_or, if_true, if_false, Bool.false_eq_true, n_bind, n_map, getL_0, getL_1, getL_2, getL_3, getL_4, getL_5, getL_6, getL_7, getL_8, getL_9, getL_10, getL_11, getL_12, condV_t, condV_f, guardV_tt, guardV_ff, guardV_tf, guardV_ft, guardV_u, apick_t, apick_f, exV_exit, exV_ret, lookE_same, joinK_eq, seqA_n, seqA_e, seqA_r, e_add, e_sub, e_mul, e_eql, e_neq, e_lss, e_leq, e_gtr, e_geq, e_conv, e_not, e_neg, and_guard, or_guard, retV] <;> rfl
    · simp only [n_bind, n_map, getL_0, getL_1, getL_2, getL_3, getL_4, getL_5, getL_6, getL_7, getL_8, getL_9, getL_10, getL_11, getL_12, condV_t, condV_f, guardV_tt, guardV_ff, guardV_tf, guardV_ft, guardV_u, apick_t, apick_f, exV_exit, exV_ret, lookE_same, joinK_eq, seqA_n, seqA_e, seqA_r, e_add, e_sub, e_mul, e_eql, e_neq, e_lss, e_leq, e_gtr, e_geq, e_conv, e_not, e_neg, and_guard, or_guard, retV]
      rfl
  simp only [nil_sv, f0, f1, f2, f3, f4, o_1, o_2, o_5, o_all, e_sneq, rne, op_of_call, hO, Bool.not_true, hj, n_bind, n_map, getL_0, getL_1, getL_2, getL_3, getL_4, getL_5, getL_6, getL_7, getL_8, getL_9, getL_10, getL_11, getL_12, condV_t, condV_f, guardV_tt, guardV_ff, guardV_tf, guardV_ft, guardV_u, apick_t, apick_f, exV_exit, exV_ret, lookE_same, joinK_eq, seqA_n, seqA_e, seqA_r, e_add, e_sub, e_mul, e_eql, e_neq, e_lss, e_leq, e_gtr, e_geq, e_conv, e_not, e_neg, and_guard, or_guard]
  cases kd <;> cases h1 : (o.key == []) <;> cases k2 <;> cases h2 : (o.val == []) <;> cases h3 : (o.lo != [] || o.hi != []) <;> cases k4 <;> cases h4 : (o.most != 0) <;>
    simp only [h1, h2, h3, h4, f0, f1, f2, f3, f4, o_1, o_2, o_5, o_all, e_sneq, rne, op_of_call, hO, hj, bne, Bool.not_true, Bool.not_false, Bool.and_true, Bool.and_false, Bool.true_and, Bool.false_and, Bool.or_true, Bool.or_false, Bool.true_or, Bool.false_or, if_true, if_false, Bool.false_eq_true, n_bind, n_map, getL_0, getL_1, getL_2, getL_3, getL_4, getL_5, getL_6, getL_7, getL_8, getL_9, getL_10, getL_11, getL_12, condV_t, condV_f, guardV_tt, guardV_ff, guardV_tf, guardV_ft, guardV_u, apick_t, apick_f, exV_exit, exV_ret, lookE_same, joinK_eq, seqA_n, seqA_e, seqA_r, e_add, e_sub, e_mul, e_eql, e_neq, e_lss, e_leq, e_gtr, e_geq, e_conv, e_not, e_neg, and_guard, or_guard]

end Go.Proofs.Ytamaapapaiopiaa.Ab

/- Operations: the reference's answers, what they write, what they touch. -/
namespace Go.Proofs.Ytamaapapaiopiaa.Ab
open Go

set_option maxHeartbeats 2000000 in
theorem refCheckOp_run {R : Caller} (hR : ∀ r s, R 72 [rv r] s = some (.int .i64 (eR r), s)) (hK : ∀ k s, R 69 [sv k] s = some (.int .i64 (eK k), s)) (o : OpT) (s : St) : ref04_CheckOp R (oV o) s = some (.int .i64 (ckO o), s) := by
  cases hk : okKind o.kind
  · rw [ckO_bad hk]
    have : (o.kind == 1) = false ∧ (o.kind == 2) = false ∧ (o.kind == 3) = false ∧ (o.kind == 4) = false ∧ (o.kind == 5) = false := by
      unfold okKind at hk
      refine ⟨?_, ?_, ?_, ?_, ?_⟩ <;> (rw [beq_eq_false_iff_ne]; intro e; rw [e] at hk; revert hk; decide)
    obtain ⟨k1, k2, k3, k4, k5⟩ := this
    unfold ref04_CheckOp
    simp only [o_box, o_0, k1, k2, k3, k4, k5, Bool.not_false, n_bind, n_map, getL_0, getL_1, getL_2, getL_3, getL_4, getL_5, getL_6, getL_7, getL_8, getL_9, getL_10, getL_11, getL_12, condV_t, condV_f, guardV_tt, guardV_ff, guardV_tf, guardV_ft, guardV_u, apick_t, apick_f, exV_exit, exV_ret, lookE_same, joinK_eq, seqA_n, seqA_e, seqA_r, e_add, e_sub, e_mul, e_eql, e_neq, e_lss, e_leq, e_gtr, e_geq, e_conv, e_not, e_neg, and_guard, or_guard, retV]
    rfl
  · obtain ⟨k, key, val, lo, hi, most⟩ := o
    simp only at hk
    have k11 : ((1 : Int) == 1) = true := rfl
    have k12 : ((1 : Int) == 2) = false := rfl
    have k13 : ((1 : Int) == 3) = false := rfl
    have k14 : ((1 : Int) == 4) = false := rfl
    have k15 : ((1 : Int) == 5) = false := rfl
    have k21 : ((2 : Int) == 1) = false := rfl
    have k22 : ((2 : Int) == 2) = true := rfl
    have k24 : ((2 : Int) == 4) = false := rfl
    have k25 : ((2 : Int) == 5) = false := rfl
    have k31 : ((3 : Int) == 1) = false := rfl
    have k32 : ((3 : Int) == 2) = false := rfl
    have k33 : ((3 : Int) == 3) = true := rfl
    have k34 : ((3 : Int) == 4) = false := rfl
    have k35 : ((3 : Int) == 5) = false := rfl
    have k41 : ((4 : Int) == 1) = false := rfl
    have k42 : ((4 : Int) == 2) = false := rfl
    have k43 : ((4 : Int) == 3) = false := rfl
    have k44 : ((4 : Int) == 4) = true := rfl
    have k51 : ((5 : Int) == 1) = false := rfl
    have k52 : ((5 : Int) == 2) = false := rfl
    have k53 : ((5 : Int) == 3) = false := rfl
    have k54 : ((5 : Int) == 4) = false := rfl
    have k55 : ((5 : Int) == 5) = true := rfl
    unfold ref04_CheckOp ckO
    rw [hk]
    have n12 : ((1 : Int) != 2) = true := rfl
    have n14 : ((1 : Int) != 4) = true := rfl
    have n22 : ((2 : Int) != 2) = false := rfl
    have n24 : ((2 : Int) != 4) = true := rfl
    have n32 : ((3 : Int) != 2) = true := rfl
    have n34 : ((3 : Int) != 4) = true := rfl
    have n42 : ((4 : Int) != 2) = true := rfl
    have n44 : ((4 : Int) != 4) = false := rfl
    have n52 : ((5 : Int) != 2) = true := rfl
    have n54 : ((5 : Int) != 4) = true := rfl
    have hb : ∀ a b : BL, (a != b) = !(a == b) := fun _ _ => rfl
    have rI : ∀ (n : Int) (s : St), retV [.int .i64 n] s = some (.int .i64 n, s) := fun _ _ => rfl
    have hif : ∀ (c : Bool) (n m : Int), (if c = true then some ((Value.int .i64 n), s) else some (.int .i64 m, s)) = some (.int .i64 (if c = true then n else m), s) := fun c n m => by cases c <;> rfl
    rcases kinds hk with rfl | rfl | rfl | rfl | rfl
    all_goals simp only [o_box, o_0, o_1, o_2, o_3, o_4, o_5, nil_sv, e_sneq, keyed, ranged, hb, k11, k12, k13, k14, k15, k21, k22, k24, k25, k31, k32, k33, k34, k35, k41, k42, k43, k44, k51, k52, k53, k54, k55, n12, n14, n22, n24, n32, n34, n42, n44, n52, n54, Bool.not_true, Bool.not_false, Bool.and_true, Bool.and_false, Bool.true_and, Bool.false_and, Bool.or_true, Bool.or_false, Bool.true_or, Bool.false_or, Bool.or_self, Bool.and_self, if_true, if_false, Bool.false_eq_true, ref02_CheckKey_call, hK, ref02_Check_call, hR, e_lenV, len16, ab2, or_and, and_or, eK_n, eR_n, Option.bind_assoc, n_bind, n_map, getL_0, getL_1, getL_2, getL_3, getL_4, getL_5, getL_6, getL_7, getL_8, getL_9, getL_10, getL_11, getL_12, condV_t, condV_f, guardV_tt, guardV_ff, guardV_tf, guardV_ft, guardV_u, apick_t, apick_f, exV_exit, exV_ret, lookE_same, joinK_eq, seqA_n, seqA_e, seqA_r, e_add, e_sub, e_mul, e_eql, e_neq, e_lss, e_leq, e_gtr, e_geq, e_conv, e_not, e_neg, and_guard, or_guard, rI, condV_if, hif]

theorem f_wr (k : Int) : lload false 1 (.pointer (some ⟨0, 4, none⟩)) (formV k) = some (.bool (wrt k)) ∧ lstore 6 lptr (formV k) (.agg #[(.bool false), (.bool false), (.bool false), (.bool false), (.bool false), .nilFunc]) = some (formV k) := by
  cases h : okKind k
  · have : wrt k = false := by
      have h1 : (k == 2) = false ∧ (k == 3) = false ∧ (k == 5) = false := by
        unfold okKind at h
        refine ⟨?_, ?_, ?_⟩ <;> (rw [beq_eq_false_iff_ne]; intro e; rw [e] at h; revert h; decide)
      unfold wrt; rw [h1.1, h1.2.1, h1.2.2]; rfl
    rw [noKind h, this]; exact ⟨rfl, rfl⟩
  · rcases kinds h with rfl | rfl | rfl | rfl | rfl <;> exact ⟨rfl, rfl⟩
theorem Writes_run {R : Caller} (hF : ∀ k s, R 80 [.int .i64 k] s = some (fmV k, s)) (o : OpT) (s : St) : op_Writes R (oV o) s = some (.bool (wrt o.kind), s) := by
  unfold op_Writes
  simp only [o_box, o_0, op_formOf_call, hF, (x_fm _).1, (x_fm _).2, (f_wr _).1, (f_wr _).2, n_bind, n_map, getL_0, getL_1, getL_2, getL_3, getL_4, getL_5, getL_6, getL_7, getL_8, getL_9, getL_10, getL_11, getL_12, condV_t, condV_f, guardV_tt, guardV_ff, guardV_tf, guardV_ft, guardV_u, apick_t, apick_f, exV_exit, exV_ret, lookE_same, joinK_eq, seqA_n, seqA_e, seqA_r, e_add, e_sub, e_mul, e_eql, e_neq, e_lss, e_leq, e_gtr, e_geq, e_conv, e_not, e_neg, and_guard, or_guard, retV]
  rfl
theorem refWrites_run {R : Caller} (o : OpT) (s : St) : ref04_Writes R (oV o) s = some (.bool (wrt o.kind), s) := by
  unfold ref04_Writes
  simp only [o_box, o_0, e_eql, Option.bind_some]
  unfold wrt
  cases h2 : (o.kind == 2) <;> cases h3 : (o.kind == 3) <;> cases h5 : (o.kind == 5) <;> simp only [h2, h3, h5, o_0, n_bind, n_map, getL_0, getL_1, getL_2, getL_3, getL_4, getL_5, getL_6, getL_7, getL_8, getL_9, getL_10, getL_11, getL_12, condV_t, condV_f, guardV_tt, guardV_ff, guardV_tf, guardV_ft, guardV_u, apick_t, apick_f, exV_exit, exV_ret, lookE_same, joinK_eq, seqA_n, seqA_e, seqA_r, e_add, e_sub, e_mul, e_eql, e_neq, e_lss, e_leq, e_gtr, e_geq, e_conv, e_not, e_neg, and_guard, or_guard, retV] <;> rfl

/-- what an operation touches -/
def spR (o : OpT) : Rg := if o.key == [] then (o.lo, o.hi) else ptR o.key
def spL (o : OpT) : Rg × Int := if ckO o == 0 then (spR o, 0) else (([], []), ckO o)
theorem ckO_key {o : OpT} (h : ckO o = 0) : okKind o.kind = true ∧ (keyed o.kind = true → ckK o.key = true) ∧ (ranged o.kind = true → o.key = [] ∧ ckR (o.lo, o.hi) = true) ∧ (keyed o.kind = true → o.lo = [] ∧ o.hi = []) ∧ o.val.length ≤ 16 ∧ (o.kind = 4 → 1 ≤ o.most ∧ o.most ≤ 4) := by
  unfold ckO at h
  split at h
  · cases h
  · rename_i c1
    split at h
    · cases h
    · rename_i c2
      split at h
      · cases h
      · rename_i c3
        split at h
        · cases h
        · rename_i c4
          split at h
          · cases h
          · rename_i c5
            simp only [Bool.not_eq_true, Bool.or_eq_false_iff, Bool.not_eq_false', Bool.and_eq_false_iff] at c1 c2 c3 c4 c5
            obtain ⟨⟨⟨⟨a1, a2⟩, a3⟩, a4⟩, a5⟩ := c1
            refine ⟨a1, fun hk => ?_, fun hr => ⟨?_, ?_⟩, fun hk => ?_, ?_, fun h4 => ?_⟩
            · rcases c2 with c2 | c2
              · rw [hk] at c2; cases c2
              · exact c2
            · rcases a3 with a3 | a3
              · rw [hr] at a3; cases a3
              · simpa [bne] using a3
            · rcases c4 with c4 | c4
              · rw [hr] at c4; cases c4
              · exact c4
            · rcases a2 with a2 | ⟨a2, a3⟩
              · rw [hk] at a2; cases a2
              · exact ⟨by simpa [bne] using a2, by simpa [bne] using a3⟩
            · simpa using c3
            · rw [h4] at c5
              rcases c5 with c5 | c5
              · simp at c5
              · simp at c5; omega
theorem sp_nil {o : OpT} (h : ckO o = 0) (hn : o.key = []) : keyed o.kind = false := by
  cases hk : keyed o.kind with
  | false => rfl
  | true =>
    have := (ckO_key h).2.1 hk
    rw [hn] at this
    cases this
theorem sp_key {o : OpT} (h : ckO o = 0) (hn : o.key ≠ []) : keyed o.kind = true ∧ ckK o.key = true := by
  cases hk : keyed o.kind with
  | true => exact ⟨rfl, (ckO_key h).2.1 hk⟩
  | false =>
    have h1 := (ckO_key h).1
    have h2 : ranged o.kind = true := by
      rcases kinds h1 with e | e | e | e | e <;> rw [e] at hk ⊢ <;> first | rfl | cases hk
    exact absurd ((ckO_key h).2.2.1 h2).1 hn

end Go.Proofs.Ytamaapapaiopiaa.Ab

/- Lists of operations, and maps: which may be; what operations touch. -/
namespace Go.Proofs.Ytamaapapaiopiaa.Ab
open Go

theorem sv_inj {a b : BL} (h : sv a = sv b) : a = b := by
  unfold sv at h
  injection h with h
  have := congrArg (fun x : ByteArray => x.data.toList) h
  simpa using this
theorem int_inj {k : IntKind} {a b : Int} (h : Value.int k a = .int k b) : a = b := by injection h
theorem bool_inj {a b : Bool} (h : Value.bool a = .bool b) : a = b := by injection h
def prC : Cod Rg where
  n := 2
  enc r := [sv r.1, sv r.2]
  pos := by decide
  len _ := rfl
  inj a b h := by
    simp only [List.cons.injEq, and_true] at h
    exact Prod.ext (sv_inj h.1) (sv_inj h.2)
  leaf _ := rfl
def opC : Cod OpT where
  n := 6
  enc := oC
  pos := by decide
  len _ := rfl
  inj a b h := by
    obtain ⟨a1, a2, a3, a4, a5, a6⟩ := a
    obtain ⟨b1, b2, b3, b4, b5, b6⟩ := b
    simp only [oC, List.cons.injEq, and_true] at h
    obtain ⟨h1, h2, h3, h4, h5, h6⟩ := h
    rw [int_inj h1, sv_inj h2, sv_inj h3, sv_inj h4, sv_inj h5, int_inj h6]
  leaf _ := rfl
abbrev Lk := Rg × Bool
def lkC : Cod Lk where
  n := 3
  enc r := [sv r.1.1, sv r.1.2, .bool r.2]
  pos := by decide
  len _ := rfl
  inj a b h := by
    simp only [List.cons.injEq, and_true] at h
    exact Prod.ext (Prod.ext (sv_inj h.1) (sv_inj h.2.1)) (bool_inj h.2.2)
  leaf _ := rfl
theorem pr_enc (r : Rg) : Value.agg (prC.enc r).toArray = rv r := rfl
theorem op_enc (o : OpT) : Value.agg (opC.enc o).toArray = oV o := rfl
def lkV (k : Lk) : Value := .agg #[sv k.1.1, sv k.1.2, .bool k.2]
theorem lk_enc (k : Lk) : Value.agg (lkC.enc k).toArray = lkV k := rfl
theorem inc_i64 {n : Nat} (h : n < 140737488355328) : IntKind.wrap .i64 ((n : Int) + 1) = ((n + 1 : Nat) : Int) := by rw [wrap_i64 (by omega) (by omega)]; omega
theorem drop_get {α : Type} {l rest : List α} {a : α} {i : Nat} (h : l.drop i = a :: rest) : ∃ hi : i < l.length, l[i] = a ∧ l.drop (i + 1) = rest := by
  have hi : i < l.length := by
    rcases Nat.lt_or_ge i l.length with h1 | h1
    · exact h1
    · rw [List.drop_eq_nil_of_le h1] at h; cases h
  refine ⟨hi, ?_, ?_⟩
  · rw [List.drop_eq_getElem_cons hi] at h
    exact (List.cons.inj h).1
  · rw [List.drop_eq_getElem_cons hi] at h
    exact (List.cons.inj h).2

/-! ### All operations -/
def allE : List OpT → Int
  | [] => 0
  | o :: l => if ckO o = 0 then allE l else ckO o
theorem allE_cons (o : OpT) (l : List OpT) : allE (o :: l) = if ckO o = 0 then allE l else ckO o := rfl
def chkE (l : List OpT) : Int := if l.length = 0 ∨ 4 < l.length then 3 else allE l
def endR (e : Int) : Ex × List Value := if e = 0 then (.exit 0, []) else (.ret, [.int .i64 e])

/-! ### Functions of a list alone -/
noncomputable def gL {α : Type} (C : Cod α) (F : List α → Value) : Sum := fun xs s => (match xs with | [v] => (listOf C v s).bind fun l => if l.length < 140737488355328 then some (F l) else none | _ => none).map fun v => (v, s)
theorem gL_eq {α : Type} {C : Cod α} {F : List α → Value} {v : Value} {s : St} {l : List α} (h : listOf C v s = some l) (hl : l.length < 140737488355328) : gL C F [v] s = some (F l, s) := by
  simp only [gL, h, Option.bind_some, if_pos hl, Option.map_some]
theorem gL_sum {α : Type} {C : Cod α} {F : List α → Value} {lib : Lib} {f : FuncId} (hp : ∀ l, plainV (F l) = true) (h : ∀ v s l, listOf C v s = some l → l.length < 140737488355328 → ∃ t, run Try.prog lib hints f [v] s = some (F l, t)) : SumOk Try.prog lib hints f (gL C F) :=
  SumOk.plain (G := fun xs s => match xs with | [v] => (listOf C v s).bind fun l => if l.length < 140737488355328 then some (F l) else none | _ => none) fun xs s v hh => by
    split at hh
    · rename_i v0
      simp only [Option.bind_eq_some_iff] at hh
      obtain ⟨l, h1, h2⟩ := hh
      split at h2
      · rename_i hl
        cases h2
        exact ⟨hp l, h v0 (frzS s) l (by rw [list_frz]; exact h1) hl⟩
      · cases h2
    · cases hh
noncomputable def gAllE : Sum := gL opC fun l => .int .i64 (allE l)
noncomputable def gChkE : Sum := gL opC fun l => .int .i64 (chkE l)
theorem allE_eq {v : Value} {s : St} {l : List OpT} (h : listOf opC v s = some l) (hl : l.length < 140737488355328) : gAllE [v] s = some (.int .i64 (allE l), s) := gL_eq h hl
theorem chkE_eq {v : Value} {s : St} {l : List OpT} (h : listOf opC v s = some l) (hl : l.length < 140737488355328) : gChkE [v] s = some (.int .i64 (chkE l), s) := gL_eq h hl
theorem many {n : Nat} : (((n : Nat) : Int) == 0 || decide (((n : Nat) : Int) > 4)) = decide (n = 0 ∨ 4 < n) := by
  by_cases h : n = 0
  · subst h; rfl
  · have h1 : (((n : Nat) : Int) == 0) = false := by rw [beq_eq_false_iff_ne]; omega
    rw [h1]
    simp [h]
    omega

/-! ### Maps -/
def mapE (last : BL) : List Rg → Int
  | [] => 0
  | p :: m => if !ckK p.1 then 20 else if !decide (p.2.length ≤ 16) then 2 else if !bl last p.1 then 1 else mapE p.1 m
theorem mapE_cons (last : BL) (p : Rg) (m : List Rg) : mapE last (p :: m) = if !ckK p.1 then 20 else if !decide (p.2.length ≤ 16) then 2 else if !bl last p.1 then 1 else mapE p.1 m := rfl
noncomputable def gMapE : Sum := gL prC fun l => .int .i64 (mapE [] l)
theorem mapE_eq {v : Value} {s : St} {l : List Rg} (h : listOf prC v s = some l) (hl : l.length < 140737488355328) : gMapE [v] s = some (.int .i64 (mapE [] l), s) := gL_eq h hl
theorem map_loop {R : Caller} (hK : ∀ k s, R 30 [sv k] s = some (.int .i64 (eK k), s)) {v : Value} {s : St} {l : List Rg} (h : listOf prC v s = some l) (hl : l.length < 140737488355328) : ∀ (rest : List Rg) (i : Nat) (last : BL), l.drop i = rest → i ≤ l.length →
    loopL (op_CheckMap.b0 R) [sv last, v, .int .i64 ((l.length : Nat) : Int), .int .i64 (i : Int)] s = some ((endR (mapE last rest)).1, (endR (mapE last rest)).2, s) := by
  intro rest
  induction rest with
  | nil =>
    intro i last hi hle
    have h1 : decide ((i : Int) < ((l.length : Nat) : Int)) = false := by
      have := List.drop_eq_nil_iff.1 hi
      simp; omega
    rw [loopL_eq]
    simp only [op_CheckMap.b0, h1, n_bind, n_map, getL_0, getL_1, getL_2, getL_3, getL_4, getL_5, getL_6, getL_7, getL_8, getL_9, getL_10, getL_11, getL_12, condV_t, condV_f, guardV_tt, guardV_ff, guardV_tf, guardV_ft, guardV_u, apick_t, apick_f, exV_exit, exV_ret, lookE_same, joinK_eq, seqA_n, seqA_e, seqA_r, e_add, e_sub, e_mul, e_eql, e_neq, e_lss, e_leq, e_gtr, e_geq, e_conv, e_not, e_neg, and_guard, or_guard]
    rfl
  | cons p rest ih =>
    intro i last hi hle
    obtain ⟨hlt, he, hd⟩ := drop_get hi
    have h1 : decide ((i : Int) < ((l.length : Nat) : Int)) = true := by simp; omega
    obtain ⟨q, h2, h3⟩ := list_at h hlt (k := .i64) (n := 2) rfl
    rw [pr_enc, he] at h3
    rw [loopL_eq]
    simp only [op_CheckMap.b0, h1, h2, h3, z_rv, st_rv, ld_0, ld_1, span_CheckKey_call, hK, eK_n, e_lenV, len16, leq_bl, n_bind, n_map, getL_0, getL_1, getL_2, getL_3, getL_4, getL_5, getL_6, getL_7, getL_8, getL_9, getL_10, getL_11, getL_12, condV_t, condV_f, guardV_tt, guardV_ff, guardV_tf, guardV_ft, guardV_u, apick_t, apick_f, exV_exit, exV_ret, lookE_same, joinK_eq, seqA_n, seqA_e, seqA_r, e_add, e_sub, e_mul, e_eql, e_neq, e_lss, e_leq, e_gtr, e_geq, e_conv, e_not, e_neg, and_guard, or_guard]
    rw [mapE_cons]
    cases c1 : ckK p.1
    · simp only [c1, Bool.not_false, if_true, n_bind, n_map, getL_0, getL_1, getL_2, getL_3, getL_4, getL_5, getL_6, getL_7, getL_8, getL_9, getL_10, getL_11, getL_12, condV_t, condV_f, guardV_tt, guardV_ff, guardV_tf, guardV_ft, guardV_u, apick_t, apick_f, exV_exit, exV_ret, lookE_same, joinK_eq, seqA_n, seqA_e, seqA_r, e_add, e_sub, e_mul, e_eql, e_neq, e_lss, e_leq, e_gtr, e_geq, e_conv, e_not, e_neg, and_guard, or_guard]
      rfl
    · cases c2 : decide (p.2.length ≤ 16)
      · simp only [c2, Bool.not_true, Bool.not_false, if_true, if_false, Bool.false_eq_true, n_bind, n_map, getL_0, getL_1, getL_2, getL_3, getL_4, getL_5, getL_6, getL_7, getL_8, getL_9, getL_10, getL_11, getL_12, condV_t, condV_f, guardV_tt, guardV_ff, guardV_tf, guardV_ft, guardV_u, apick_t, apick_f, exV_exit, exV_ret, lookE_same, joinK_eq, seqA_n, seqA_e, seqA_r, e_add, e_sub, e_mul, e_eql, e_neq, e_lss, e_leq, e_gtr, e_geq, e_conv, e_not, e_neg, and_guard, or_guard, ld_1, e_lenV, len16]
        rfl
      · cases c3 : bl last p.1
        · simp only [c2, c3, Bool.not_true, Bool.not_false, if_true, if_false, Bool.false_eq_true, n_bind, n_map, getL_0, getL_1, getL_2, getL_3, getL_4, getL_5, getL_6, getL_7, getL_8, getL_9, getL_10, getL_11, getL_12, condV_t, condV_f, guardV_tt, guardV_ff, guardV_tf, guardV_ft, guardV_u, apick_t, apick_f, exV_exit, exV_ret, lookE_same, joinK_eq, seqA_n, seqA_e, seqA_r, e_add, e_sub, e_mul, e_eql, e_neq, e_lss, e_leq, e_gtr, e_geq, e_conv, e_not, e_neg, and_guard, or_guard, ld_0, ld_1, e_lenV, len16, leq_bl]
          rfl
        · simp only [c2, c3, Bool.not_true, Bool.not_false, if_true, if_false, Bool.false_eq_true, n_bind, n_map, getL_0, getL_1, getL_2, getL_3, getL_4, getL_5, getL_6, getL_7, getL_8, getL_9, getL_10, getL_11, getL_12, condV_t, condV_f, guardV_tt, guardV_ff, guardV_tf, guardV_ft, guardV_u, apick_t, apick_f, exV_exit, exV_ret, lookE_same, joinK_eq, seqA_n, seqA_e, seqA_r, e_add, e_sub, e_mul, e_eql, e_neq, e_lss, e_leq, e_gtr, e_geq, e_conv, e_not, e_neg, and_guard, or_guard, ld_0, ld_1, e_lenV, len16, leq_bl, inc_i64 (show i < 140737488355328 by omega)]
          exact ih (i + 1) p.1 hd (by omega)
theorem map_run {R : Caller} (hK : ∀ k s, R 30 [sv k] s = some (.int .i64 (eK k), s)) {v : Value} {s : St} {l : List Rg} (h : listOf prC v s = some l) (hl : l.length < 140737488355328) : op_CheckMap R v s = some (.int .i64 (mapE [] l), s) := by
  have h1 := map_loop hK h hl l 0 [] rfl (Nat.zero_le _)
  rw [show ((0 : Nat) : Int) = 0 from rfl] at h1
  unfold op_CheckMap
  simp only [nil_sv, list_len h, h1, n_bind, n_map, getL_0, getL_1, getL_2, getL_3, getL_4, getL_5, getL_6, getL_7, getL_8, getL_9, getL_10, getL_11, getL_12, condV_t, condV_f, guardV_tt, guardV_ff, guardV_tf, guardV_ft, guardV_u, apick_t, apick_f, exV_exit, exV_ret, lookE_same, joinK_eq, seqA_n, seqA_e, seqA_r, e_add, e_sub, e_mul, e_eql, e_neq, e_lss, e_leq, e_gtr, e_geq, e_conv, e_not, e_neg, and_guard, or_guard]
  unfold endR
  by_cases h2 : mapE [] l = 0
  · simp only [if_pos h2, n_bind, n_map, getL_0, getL_1, getL_2, getL_3, getL_4, getL_5, getL_6, getL_7, getL_8, getL_9, getL_10, getL_11, getL_12, condV_t, condV_f, guardV_tt, guardV_ff, guardV_tf, guardV_ft, guardV_u, apick_t, apick_f, exV_exit, exV_ret, lookE_same, joinK_eq, seqA_n, seqA_e, seqA_r, e_add, e_sub, e_mul, e_eql, e_neq, e_lss, e_leq, e_gtr, e_geq, e_conv, e_not, e_neg, and_guard, or_guard, retV, h2]
    rfl
  · simp only [if_neg h2, n_bind, n_map, getL_0, getL_1, getL_2, getL_3, getL_4, getL_5, getL_6, getL_7, getL_8, getL_9, getL_10, getL_11, getL_12, condV_t, condV_f, guardV_tt, guardV_ff, guardV_tf, guardV_ft, guardV_u, apick_t, apick_f, exV_exit, exV_ret, lookE_same, joinK_eq, seqA_n, seqA_e, seqA_r, e_add, e_sub, e_mul, e_eql, e_neq, e_lss, e_leq, e_gtr, e_geq, e_conv, e_not, e_neg, and_guard, or_guard, retV]
    rfl
theorem refMap_loop {R : Caller} (hK : ∀ k s, R 69 [sv k] s = some (.int .i64 (eK k), s)) {v : Value} {s : St} {l : List Rg} (h : listOf prC v s = some l) (hl : l.length < 140737488355328) : ∀ (rest : List Rg) (i : Nat) (last : BL), l.drop i = rest → i ≤ l.length → (i = 0 → last = []) → (∀ hi : 0 < i, ∃ h2 : i - 1 < l.length, last = l[i - 1].1) →
    loopL (ref04_CheckMap.b0 R) [v, v, .int .i64 ((l.length : Nat) : Int), .int .i64 (i : Int)] s = some ((endR (mapE last rest)).1, (endR (mapE last rest)).2, s) := by
  intro rest
  induction rest with
  | nil =>
    intro i last hi hle _ _
    have h1 : decide ((i : Int) < ((l.length : Nat) : Int)) = false := by
      have := List.drop_eq_nil_iff.1 hi
      simp; omega
    rw [loopL_eq]
    simp only [ref04_CheckMap.b0, h1, n_bind, n_map, getL_0, getL_1, getL_2, getL_3, getL_4, getL_5, getL_6, getL_7, getL_8, getL_9, getL_10, getL_11, getL_12, condV_t, condV_f, guardV_tt, guardV_ff, guardV_tf, guardV_ft, guardV_u, apick_t, apick_f, exV_exit, exV_ret, lookE_same, joinK_eq, seqA_n, seqA_e, seqA_r, e_add, e_sub, e_mul, e_eql, e_neq, e_lss, e_leq, e_gtr, e_geq, e_conv, e_not, e_neg, and_guard, or_guard]
    rfl
  | cons p rest ih =>
    intro i last hi hle hz hp
    obtain ⟨hlt, he, hd⟩ := drop_get hi
    have h1 : decide ((i : Int) < ((l.length : Nat) : Int)) = true := by simp; omega
    obtain ⟨q, h2, h3⟩ := list_at h hlt (k := .i64) (n := 2) rfl
    rw [pr_enc, he] at h3
    rw [loopL_eq]
    simp only [ref04_CheckMap.b0, h1, h2, h3, z_rv, st_rv, ld_0, ld_1, ref02_CheckKey_call, hK, eK_n, e_lenV, len16, n_bind, n_map, getL_0, getL_1, getL_2, getL_3, getL_4, getL_5, getL_6, getL_7, getL_8, getL_9, getL_10, getL_11, getL_12, condV_t, condV_f, guardV_tt, guardV_ff, guardV_tf, guardV_ft, guardV_u, apick_t, apick_f, exV_exit, exV_ret, lookE_same, joinK_eq, seqA_n, seqA_e, seqA_r, e_add, e_sub, e_mul, e_eql, e_neq, e_lss, e_leq, e_gtr, e_geq, e_conv, e_not, e_neg, and_guard, or_guard]
    rw [mapE_cons]
    cases c1 : ckK p.1
    · simp only [c1, Bool.not_false, if_true, n_bind, n_map, getL_0, getL_1, getL_2, getL_3, getL_4, getL_5, getL_6, getL_7, getL_8, getL_9, getL_10, getL_11, getL_12, condV_t, condV_f, guardV_tt, guardV_ff, guardV_tf, guardV_ft, guardV_u, apick_t, apick_f, exV_exit, exV_ret, lookE_same, joinK_eq, seqA_n, seqA_e, seqA_r, e_add, e_sub, e_mul, e_eql, e_neq, e_lss, e_leq, e_gtr, e_geq, e_conv, e_not, e_neg, and_guard, or_guard]
      rfl
    · cases c2 : decide (p.2.length ≤ 16)
      · simp only [c2, Bool.not_true, Bool.not_false, if_true, if_false, Bool.false_eq_true, n_bind, n_map, getL_0, getL_1, getL_2, getL_3, getL_4, getL_5, getL_6, getL_7, getL_8, getL_9, getL_10, getL_11, getL_12, condV_t, condV_f, guardV_tt, guardV_ff, guardV_tf, guardV_ft, guardV_u, apick_t, apick_f, exV_exit, exV_ret, lookE_same, joinK_eq, seqA_n, seqA_e, seqA_r, e_add, e_sub, e_mul, e_eql, e_neq, e_lss, e_leq, e_gtr, e_geq, e_conv, e_not, e_neg, and_guard, or_guard, ld_1, e_lenV, len16]
        rfl
      · rcases Nat.eq_zero_or_pos i with h0 | h0
        · have h4 : decide ((i : Int) > 0) = false := by simp; omega
          have h5 : bl last p.1 = true := by rw [hz h0]; exact bl_nil_l (ckK_len c1).2
          simp only [c2, h4, h5, Bool.not_true, Bool.not_false, if_true, if_false, Bool.false_eq_true, n_bind, n_map, getL_0, getL_1, getL_2, getL_3, getL_4, getL_5, getL_6, getL_7, getL_8, getL_9, getL_10, getL_11, getL_12, condV_t, condV_f, guardV_tt, guardV_ff, guardV_tf, guardV_ft, guardV_u, apick_t, apick_f, exV_exit, exV_ret, lookE_same, joinK_eq, seqA_n, seqA_e, seqA_r, e_add, e_sub, e_mul, e_eql, e_neq, e_lss, e_leq, e_gtr, e_geq, e_conv, e_not, e_neg, and_guard, or_guard, ld_0, ld_1, e_lenV, len16, own_id, inc_i64 (show i < 140737488355328 by omega)]
          exact ih (i + 1) p.1 hd (by omega) (by omega) fun _ => ⟨by omega, by simp [he]⟩
        · have h4 : decide ((i : Int) > 0) = true := by simp; omega
          obtain ⟨g1, g2⟩ := hp h0
          have h6 : IntKind.wrap .i64 ((i : Int) - 1) = ((i - 1 : Nat) : Int) := by rw [wrap_i64 (by omega) (by omega)]; omega
          obtain ⟨q2, h7, q3, h8, h9⟩ := list_field h g1 (j := 0) (c := sv last) (by rw [g2]; rfl) (k := .i64) (n := 2) rfl
          cases c3 : bl last p.1
          · simp only [c2, c3, h4, h6, h7, h8, h9, Bool.not_true, Bool.not_false, if_true, if_false, Bool.false_eq_true, n_bind, n_map, getL_0, getL_1, getL_2, getL_3, getL_4, getL_5, getL_6, getL_7, getL_8, getL_9, getL_10, getL_11, getL_12, condV_t, condV_f, guardV_tt, guardV_ff, guardV_tf, guardV_ft, guardV_u, apick_t, apick_f, exV_exit, exV_ret, lookE_same, joinK_eq, seqA_n, seqA_e, seqA_r, e_add, e_sub, e_mul, e_eql, e_neq, e_lss, e_leq, e_gtr, e_geq, e_conv, e_not, e_neg, and_guard, or_guard, ld_0, ld_1, e_lenV, len16, own_id, geq_bl]
            rfl
          · simp only [c2, c3, h4, h6, h7, h8, h9, Bool.not_true, Bool.not_false, if_true, if_false, Bool.false_eq_true, n_bind, n_map, getL_0, getL_1, getL_2, getL_3, getL_4, getL_5, getL_6, getL_7, getL_8, getL_9, getL_10, getL_11, getL_12, condV_t, condV_f, guardV_tt, guardV_ff, guardV_tf, guardV_ft, guardV_u, apick_t, apick_f, exV_exit, exV_ret, lookE_same, joinK_eq, seqA_n, seqA_e, seqA_r, e_add, e_sub, e_mul, e_eql, e_neq, e_lss, e_leq, e_gtr, e_geq, e_conv, e_not, e_neg, and_guard, or_guard, ld_0, ld_1, e_lenV, len16, own_id, geq_bl, inc_i64 (show i < 140737488355328 by omega)]
            exact ih (i + 1) p.1 hd (by omega) (by omega) fun _ => ⟨by omega, by simp [he]⟩
theorem refMap_run {R : Caller} (hK : ∀ k s, R 69 [sv k] s = some (.int .i64 (eK k), s)) {v : Value} {s : St} {l : List Rg} (h : listOf prC v s = some l) (hl : l.length < 140737488355328) : ref04_CheckMap R v s = some (.int .i64 (mapE [] l), s) := by
  have h1 := refMap_loop hK h hl l 0 [] rfl (Nat.zero_le _) (fun _ => rfl) (fun h => absurd h (Nat.lt_irrefl _))
  rw [show ((0 : Nat) : Int) = 0 from rfl] at h1
  unfold ref04_CheckMap
  simp only [list_len h, h1, n_bind, n_map, getL_0, getL_1, getL_2, getL_3, getL_4, getL_5, getL_6, getL_7, getL_8, getL_9, getL_10, getL_11, getL_12, condV_t, condV_f, guardV_tt, guardV_ff, guardV_tf, guardV_ft, guardV_u, apick_t, apick_f, exV_exit, exV_ret, lookE_same, joinK_eq, seqA_n, seqA_e, seqA_r, e_add, e_sub, e_mul, e_eql, e_neq, e_lss, e_leq, e_gtr, e_geq, e_conv, e_not, e_neg, and_guard, or_guard]
  unfold endR
  by_cases h2 : mapE [] l = 0
  · simp only [if_pos h2, n_bind, n_map, getL_0, getL_1, getL_2, getL_3, getL_4, getL_5, getL_6, getL_7, getL_8, getL_9, getL_10, getL_11, getL_12, condV_t, condV_f, guardV_tt, guardV_ff, guardV_tf, guardV_ft, guardV_u, apick_t, apick_f, exV_exit, exV_ret, lookE_same, joinK_eq, seqA_n, seqA_e, seqA_r, e_add, e_sub, e_mul, e_eql, e_neq, e_lss, e_leq, e_gtr, e_geq, e_conv, e_not, e_neg, and_guard, or_guard, retV, h2]
    rfl
  · simp only [if_neg h2, n_bind, n_map, getL_0, getL_1, getL_2, getL_3, getL_4, getL_5, getL_6, getL_7, getL_8, getL_9, getL_10, getL_11, getL_12, condV_t, condV_f, guardV_tt, guardV_ff, guardV_tf, guardV_ft, guardV_u, apick_t, apick_f, exV_exit, exV_ret, lookE_same, joinK_eq, seqA_n, seqA_e, seqA_r, e_add, e_sub, e_mul, e_eql, e_neq, e_lss, e_leq, e_gtr, e_geq, e_conv, e_not, e_neg, and_guard, or_guard, retV]
    rfl

end Go.Proofs.Ytamaapapaiopiaa.Ab

/- Entries: as values; which are a buffer. -/
namespace Go.Proofs.Ytamaapapaiopiaa.Ab
open Go

abbrev En := Int × OpT
def enV (e : En) : Value := .agg #[.int .u64 e.1, .int .i64 e.2.kind, sv e.2.key, sv e.2.val, sv e.2.lo, sv e.2.hi, .int .i64 e.2.most]
def enC : Cod En where
  n := 7
  enc e := .int .u64 e.1 :: oC e.2
  pos := by decide
  len _ := rfl
  inj a b h := by
    obtain ⟨h1, h2⟩ := List.cons.inj h
    exact Prod.ext (int_inj h1) (opC.inj _ _ h2)
  leaf _ := rfl
theorem en_enc (e : En) : Value.agg (enC.enc e).toArray = enV e := rfl
theorem n_st (e f : En) : lstore 7 lptr (enV e) (enV f) = some (enV e) := rfl
theorem n_z : (Value.agg #[(.int .u64 0), (.int .i64 0), sv [], sv [], sv [], sv [], (.int .i64 0)]) = enV (0, ⟨0, [], [], [], [], 0⟩) := rfl
theorem n_seq (e : En) : lload false 1 lptr (enV e) = some (.int .u64 e.1) := rfl
theorem n_op (e : En) : lload true 6 (.pointer (some ⟨0, 1, none⟩)) (enV e) = some (oV e.2) := rfl
theorem n_kind (e : En) : lload false 1 (.pointer (some ⟨0, 1, none⟩)) (enV e) = some (.int .i64 e.2.kind) := rfl
theorem n_val (e : En) : lload false 1 (.pointer (some ⟨0, 3, none⟩)) (enV e) = some (sv e.2.val) := rfl

/-! ### Which are a buffer -/
def stE (p : Option Int) (e : En) : Int := if ckO e.2 == 0 then (if wrt e.2.kind then (if (match p with | some q => decide (q ≥ e.1) | none => false) then 1 else 0) else 40) else ckO e.2
def eBF : Option Int → List En → Int
  | _, [] => 0
  | p, e :: l => if stE p e == 0 then eBF (some e.1) l else stE p e
def eB (l : List En) : Int := eBF none l
def prevE (l : List En) : Nat → Option Int
  | 0 => none
  | i + 1 => l[i]?.map (·.1)
theorem i_n0 {n : Int} : (n != 0) = !(n == 0) := rfl
theorem buffer_Check_one {R : Caller} (hC : ∀ o s, R 58 [oV o] s = some (.int .i64 (ckO o), s)) (hW : ∀ o s, R 59 [oV o] s = some (.bool (wrt o.kind), s)) {v : Value} {s : St} {l : List En} (h : listOf enC v s = some l) {i : Nat} (hi : i < l.length) (hl : l.length < 140737488355328) :
    buffer_Check.b0 R [v, v, .int .i64 ((l.length : Nat) : Int), .int .i64 (i : Int)] s = if (stE (prevE l i) l[i] == 0) = true then some (.normal, [v, v, .int .i64 ((l.length : Nat) : Int), .int .i64 ((i + 1 : Nat) : Int)], s) else some (.ret, [.int .i64 (stE (prevE l i) l[i])], s) := by
  have h1 : decide ((i : Int) < ((l.length : Nat) : Int)) = true := by simp; omega
  obtain ⟨p, g1, g2⟩ := list_at h hi (k := .i64) (n := 7) rfl
  rw [en_enc] at g2
  unfold buffer_Check.b0
  simp only [getL_0, getL_1, getL_2, getL_3, e_lss, h1, n_bind, condV_t, g1, g2, nil_sv, n_z, n_st, n_op, op_CheckOp_call, hC, e_neq]
  unfold stE
  rcases Bool.eq_false_or_eq_true (ckO l[i].2 == 0) with c1 | c1
  · rcases Bool.eq_false_or_eq_true (wrt l[i].2.kind) with c2 | c2
    · cases i with
      | zero =>
        have c3 : decide (((0 : Nat) : Int) > 0) = false := rfl
        simp only [i_n0, c1, c2, c3, prevE, n_op, n_seq, op_Writes_call, hW, e_gtr, own_id, inc_i64 (show 0 < 140737488355328 by omega), Bool.not_true, n_bind, n_map, getL_0, getL_1, getL_2, getL_3, getL_4, getL_5, getL_6, getL_7, getL_8, getL_9, getL_10, getL_11, getL_12, condV_t, condV_f, guardV_tt, guardV_ff, guardV_tf, guardV_ft, guardV_u, apick_t, apick_f, exV_exit, exV_ret, lookE_same, joinK_eq, seqA_n, seqA_e, seqA_r, e_add, e_sub, e_mul, e_eql, e_neq, e_lss, e_leq, e_gtr, e_geq, e_conv, e_not, e_neg, and_guard, or_guard]
        rfl
      | succ j =>
        have c3 : decide (((j + 1 : Nat) : Int) > 0) = true := decide_eq_true (by omega)
        have hj : j < l.length := by omega
        obtain ⟨q, f1, q2, f2, f3⟩ := list_field h hj (j := 0) (c := .int .u64 l[j].1) rfl (k := .i64) (n := 7) rfl
        have hp : prevE l (j + 1) = some l[j].1 := by simp only [prevE, List.getElem?_eq_getElem hj, Option.map_some]
        have hd : IntKind.wrap .i64 (((j + 1 : Nat) : Int) - 1) = ((j : Nat) : Int) := by rw [wrap_i64 (by omega) (by omega)]; omega
        rw [hp]
        rcases Bool.eq_false_or_eq_true (decide (l[j].1 ≥ l[j + 1].1)) with c4 | c4
        · simp only [i_n0, c1, c2, c3, c4, n_op, n_seq, op_Writes_call, hW, e_gtr, e_geq, own_id, hd, f1, f2, f3, Bool.not_true, if_true, n_bind, n_map, getL_0, getL_1, getL_2, getL_3, getL_4, getL_5, getL_6, getL_7, getL_8, getL_9, getL_10, getL_11, getL_12, condV_t, condV_f, guardV_tt, guardV_ff, guardV_tf, guardV_ft, guardV_u, apick_t, apick_f, exV_exit, exV_ret, lookE_same, joinK_eq, seqA_n, seqA_e, seqA_r, e_add, e_sub, e_mul, e_eql, e_neq, e_lss, e_leq, e_gtr, e_geq, e_conv, e_not, e_neg, and_guard, or_guard]
          rfl
        · simp only [i_n0, c1, c2, c3, c4, n_op, n_seq, op_Writes_call, hW, e_gtr, e_geq, own_id, hd, f1, f2, f3, inc_i64 (show j + 1 < 140737488355328 by omega), Bool.not_true, if_true, n_bind, n_map, getL_0, getL_1, getL_2, getL_3, getL_4, getL_5, getL_6, getL_7, getL_8, getL_9, getL_10, getL_11, getL_12, condV_t, condV_f, guardV_tt, guardV_ff, guardV_tf, guardV_ft, guardV_u, apick_t, apick_f, exV_exit, exV_ret, lookE_same, joinK_eq, seqA_n, seqA_e, seqA_r, e_add, e_sub, e_mul, e_eql, e_neq, e_lss, e_leq, e_gtr, e_geq, e_conv, e_not, e_neg, and_guard, or_guard]
          rfl
    · simp only [i_n0, c1, c2, n_op, op_Writes_call, hW, Bool.not_true, Bool.not_false, if_true, Bool.false_eq_true, if_false, n_bind, n_map, getL_0, getL_1, getL_2, getL_3, getL_4, getL_5, getL_6, getL_7, getL_8, getL_9, getL_10, getL_11, getL_12, condV_t, condV_f, guardV_tt, guardV_ff, guardV_tf, guardV_ft, guardV_u, apick_t, apick_f, exV_exit, exV_ret, lookE_same, joinK_eq, seqA_n, seqA_e, seqA_r, e_add, e_sub, e_mul, e_eql, e_neq, e_lss, e_leq, e_gtr, e_geq, e_conv, e_not, e_neg, and_guard, or_guard]
      rfl
  · simp only [i_n0, c1, Bool.not_false, Bool.false_eq_true, if_false, n_bind, n_map, getL_0, getL_1, getL_2, getL_3, getL_4, getL_5, getL_6, getL_7, getL_8, getL_9, getL_10, getL_11, getL_12, condV_t, condV_f, guardV_tt, guardV_ff, guardV_tf, guardV_ft, guardV_u, apick_t, apick_f, exV_exit, exV_ret, lookE_same, joinK_eq, seqA_n, seqA_e, seqA_r, e_add, e_sub, e_mul, e_eql, e_neq, e_lss, e_leq, e_gtr, e_geq, e_conv, e_not, e_neg, and_guard, or_guard]
theorem buffer_Check_loop {R : Caller} (hC : ∀ o s, R 58 [oV o] s = some (.int .i64 (ckO o), s)) (hW : ∀ o s, R 59 [oV o] s = some (.bool (wrt o.kind), s)) {v : Value} {s : St} {l : List En} (h : listOf enC v s = some l) (hl : l.length < 140737488355328) : ∀ (rest : List En) (i : Nat), l.drop i = rest → i ≤ l.length →
    loopL (buffer_Check.b0 R) [v, v, .int .i64 ((l.length : Nat) : Int), .int .i64 (i : Int)] s = if (eBF (prevE l i) rest == 0) = true then some (.exit 0, [], s) else some (.ret, [.int .i64 (eBF (prevE l i) rest)], s) := by
  intro rest
  induction rest with
  | nil =>
    intro i hi hle
    have h1 : decide ((i : Int) < ((l.length : Nat) : Int)) = false := by
      have := List.drop_eq_nil_iff.1 hi
      simp; omega
    rw [loopL_eq]
    simp only [buffer_Check.b0, h1, n_bind, n_map, getL_0, getL_1, getL_2, getL_3, getL_4, getL_5, getL_6, getL_7, getL_8, getL_9, getL_10, getL_11, getL_12, condV_t, condV_f, guardV_tt, guardV_ff, guardV_tf, guardV_ft, guardV_u, apick_t, apick_f, exV_exit, exV_ret, lookE_same, joinK_eq, seqA_n, seqA_e, seqA_r, e_add, e_sub, e_mul, e_eql, e_neq, e_lss, e_leq, e_gtr, e_geq, e_conv, e_not, e_neg, and_guard, or_guard, eBF]
    rfl
  | cons o rest ih =>
    intro i hi hle
    obtain ⟨hlt, he, hd⟩ := drop_get hi
    rw [loopL_eq, buffer_Check_one hC hW h hlt hl, he]
    have hn : prevE l (i + 1) = some o.1 := by simp only [prevE, List.getElem?_eq_getElem hlt, he, Option.map_some]
    have key := ih (i + 1) hd (by omega)
    rw [hn] at key
    simp only [eBF]
    rcases Bool.eq_false_or_eq_true (stE (prevE l i) o == 0) with c | c
    · simp only [c, if_true, seqA_n, key]
    · simp only [c, Bool.false_eq_true, if_false, seqA_r]
theorem buffer_Check_run {R : Caller} (hC : ∀ o s, R 58 [oV o] s = some (.int .i64 (ckO o), s)) (hW : ∀ o s, R 59 [oV o] s = some (.bool (wrt o.kind), s)) {v : Value} {s : St} {l : List En} (h : listOf enC v s = some l) (hl : l.length < 140737488355328) : buffer_Check R v s = some (.int .i64 (eB l), s) := by
  have key := buffer_Check_loop hC hW h hl l 0 rfl (Nat.zero_le _)
  rw [show ((0 : Nat) : Int) = 0 from rfl] at key
  unfold buffer_Check eB
  simp only [list_len h, n_bind, n_map, getL_0, getL_1, getL_2, getL_3, getL_4, getL_5, getL_6, getL_7, getL_8, getL_9, getL_10, getL_11, getL_12, condV_t, condV_f, guardV_tt, guardV_ff, guardV_tf, guardV_ft, guardV_u, apick_t, apick_f, exV_exit, exV_ret, lookE_same, joinK_eq, seqA_n, seqA_e, seqA_r, e_add, e_sub, e_mul, e_eql, e_neq, e_lss, e_leq, e_gtr, e_geq, e_conv, e_not, e_neg, and_guard, or_guard, key]
  rcases Bool.eq_false_or_eq_true (eBF (prevE l 0) l == 0) with c | c
  · simp only [c, if_true, n_bind, n_map, getL_0, getL_1, getL_2, getL_3, getL_4, getL_5, getL_6, getL_7, getL_8, getL_9, getL_10, getL_11, getL_12, condV_t, condV_f, guardV_tt, guardV_ff, guardV_tf, guardV_ft, guardV_u, apick_t, apick_f, exV_exit, exV_ret, lookE_same, joinK_eq, seqA_n, seqA_e, seqA_r, e_add, e_sub, e_mul, e_eql, e_neq, e_lss, e_leq, e_gtr, e_geq, e_conv, e_not, e_neg, and_guard, or_guard, retV]
    have : eBF none l = 0 := by simpa [prevE] using c
    rw [this]
    rfl
  · simp only [c, Bool.false_eq_true, if_false, n_bind, n_map, getL_0, getL_1, getL_2, getL_3, getL_4, getL_5, getL_6, getL_7, getL_8, getL_9, getL_10, getL_11, getL_12, condV_t, condV_f, guardV_tt, guardV_ff, guardV_tf, guardV_ft, guardV_u, apick_t, apick_f, exV_exit, exV_ret, lookE_same, joinK_eq, seqA_n, seqA_e, seqA_r, e_add, e_sub, e_mul, e_eql, e_neq, e_lss, e_leq, e_gtr, e_geq, e_conv, e_not, e_neg, and_guard, or_guard, retV]
    rfl
theorem ref12_Check_one {R : Caller} (hC : ∀ o s, R 70 [oV o] s = some (.int .i64 (ckO o), s)) (hW : ∀ o s, R 71 [oV o] s = some (.bool (wrt o.kind), s)) {v : Value} {s : St} {l : List En} (h : listOf enC v s = some l) {i : Nat} (hi : i < l.length) (hl : l.length < 140737488355328) :
    ref12_Check.b0 R [v, v, .int .i64 ((l.length : Nat) : Int), .int .i64 (i : Int)] s = if (stE (prevE l i) l[i] == 0) = true then some (.normal, [v, v, .int .i64 ((l.length : Nat) : Int), .int .i64 ((i + 1 : Nat) : Int)], s) else some (.ret, [.int .i64 (stE (prevE l i) l[i])], s) := by
  have h1 : decide ((i : Int) < ((l.length : Nat) : Int)) = true := by simp; omega
  obtain ⟨p, g1, g2⟩ := list_at h hi (k := .i64) (n := 7) rfl
  rw [en_enc] at g2
  unfold ref12_Check.b0
  simp only [getL_0, getL_1, getL_2, getL_3, e_lss, h1, n_bind, condV_t, g1, g2, nil_sv, n_z, n_st, n_op, ref04_CheckOp_call, hC, e_neq]
  unfold stE
  rcases Bool.eq_false_or_eq_true (ckO l[i].2 == 0) with c1 | c1
  · rcases Bool.eq_false_or_eq_true (wrt l[i].2.kind) with c2 | c2
    · cases i with
      | zero =>
        have c3 : decide (((0 : Nat) : Int) > 0) = false := rfl
        simp only [i_n0, c1, c2, c3, prevE, n_op, n_seq, ref04_Writes_call, hW, e_gtr, own_id, inc_i64 (show 0 < 140737488355328 by omega), Bool.not_true, n_bind, n_map, getL_0, getL_1, getL_2, getL_3, getL_4, getL_5, getL_6, getL_7, getL_8, getL_9, getL_10, getL_11, getL_12, condV_t, condV_f, guardV_tt, guardV_ff, guardV_tf, guardV_ft, guardV_u, apick_t, apick_f, exV_exit, exV_ret, lookE_same, joinK_eq, seqA_n, seqA_e, seqA_r, e_add, e_sub, e_mul, e_eql, e_neq, e_lss, e_leq, e_gtr, e_geq, e_conv, e_not, e_neg, and_guard, or_guard]
        rfl
      | succ j =>
        have c3 : decide (((j + 1 : Nat) : Int) > 0) = true := decide_eq_true (by omega)
        have hj : j < l.length := by omega
        obtain ⟨q, f1, q2, f2, f3⟩ := list_field h hj (j := 0) (c := .int .u64 l[j].1) rfl (k := .i64) (n := 7) rfl
        have hp : prevE l (j + 1) = some l[j].1 := by simp only [prevE, List.getElem?_eq_getElem hj, Option.map_some]
        have hd : IntKind.wrap .i64 (((j + 1 : Nat) : Int) - 1) = ((j : Nat) : Int) := by rw [wrap_i64 (by omega) (by omega)]; omega
        rw [hp]
        rcases Bool.eq_false_or_eq_true (decide (l[j].1 ≥ l[j + 1].1)) with c4 | c4
        · simp only [i_n0, c1, c2, c3, c4, n_op, n_seq, ref04_Writes_call, hW, e_gtr, e_geq, own_id, hd, f1, f2, f3, Bool.not_true, if_true, n_bind, n_map, getL_0, getL_1, getL_2, getL_3, getL_4, getL_5, getL_6, getL_7, getL_8, getL_9, getL_10, getL_11, getL_12, condV_t, condV_f, guardV_tt, guardV_ff, guardV_tf, guardV_ft, guardV_u, apick_t, apick_f, exV_exit, exV_ret, lookE_same, joinK_eq, seqA_n, seqA_e, seqA_r, e_add, e_sub, e_mul, e_eql, e_neq, e_lss, e_leq, e_gtr, e_geq, e_conv, e_not, e_neg, and_guard, or_guard]
          rfl
        · simp only [i_n0, c1, c2, c3, c4, n_op, n_seq, ref04_Writes_call, hW, e_gtr, e_geq, own_id, hd, f1, f2, f3, inc_i64 (show j + 1 < 140737488355328 by omega), Bool.not_true, if_true, n_bind, n_map, getL_0, getL_1, getL_2, getL_3, getL_4, getL_5, getL_6, getL_7, getL_8, getL_9, getL_10, getL_11, getL_12, condV_t, condV_f, guardV_tt, guardV_ff, guardV_tf, guardV_ft, guardV_u, apick_t, apick_f, exV_exit, exV_ret, lookE_same, joinK_eq, seqA_n, seqA_e, seqA_r, e_add, e_sub, e_mul, e_eql, e_neq, e_lss, e_leq, e_gtr, e_geq, e_conv, e_not, e_neg, and_guard, or_guard]
          rfl
    · simp only [i_n0, c1, c2, n_op, ref04_Writes_call, hW, Bool.not_true, Bool.not_false, if_true, Bool.false_eq_true, if_false, n_bind, n_map, getL_0, getL_1, getL_2, getL_3, getL_4, getL_5, getL_6, getL_7, getL_8, getL_9, getL_10, getL_11, getL_12, condV_t, condV_f, guardV_tt, guardV_ff, guardV_tf, guardV_ft, guardV_u, apick_t, apick_f, exV_exit, exV_ret, lookE_same, joinK_eq, seqA_n, seqA_e, seqA_r, e_add, e_sub, e_mul, e_eql, e_neq, e_lss, e_leq, e_gtr, e_geq, e_conv, e_not, e_neg, and_guard, or_guard]
      rfl
  · simp only [i_n0, c1, Bool.not_false, Bool.false_eq_true, if_false, n_bind, n_map, getL_0, getL_1, getL_2, getL_3, getL_4, getL_5, getL_6, getL_7, getL_8, getL_9, getL_10, getL_11, getL_12, condV_t, condV_f, guardV_tt, guardV_ff, guardV_tf, guardV_ft, guardV_u, apick_t, apick_f, exV_exit, exV_ret, lookE_same, joinK_eq, seqA_n, seqA_e, seqA_r, e_add, e_sub, e_mul, e_eql, e_neq, e_lss, e_leq, e_gtr, e_geq, e_conv, e_not, e_neg, and_guard, or_guard]
theorem ref12_Check_loop {R : Caller} (hC : ∀ o s, R 70 [oV o] s = some (.int .i64 (ckO o), s)) (hW : ∀ o s, R 71 [oV o] s = some (.bool (wrt o.kind), s)) {v : Value} {s : St} {l : List En} (h : listOf enC v s = some l) (hl : l.length < 140737488355328) : ∀ (rest : List En) (i : Nat), l.drop i = rest → i ≤ l.length →
    loopL (ref12_Check.b0 R) [v, v, .int .i64 ((l.length : Nat) : Int), .int .i64 (i : Int)] s = if (eBF (prevE l i) rest == 0) = true then some (.exit 0, [], s) else some (.ret, [.int .i64 (eBF (prevE l i) rest)], s) := by
  intro rest
  induction rest with
  | nil =>
    intro i hi hle
    have h1 : decide ((i : Int) < ((l.length : Nat) : Int)) = false := by
      have := List.drop_eq_nil_iff.1 hi
      simp; omega
    rw [loopL_eq]
    simp only [ref12_Check.b0, h1, n_bind, n_map, getL_0, getL_1, getL_2, getL_3, getL_4, getL_5, getL_6, getL_7, getL_8, getL_9, getL_10, getL_11, getL_12, condV_t, condV_f, guardV_tt, guardV_ff, guardV_tf, guardV_ft, guardV_u, apick_t, apick_f, exV_exit, exV_ret, lookE_same, joinK_eq, seqA_n, seqA_e, seqA_r, e_add, e_sub, e_mul, e_eql, e_neq, e_lss, e_leq, e_gtr, e_geq, e_conv, e_not, e_neg, and_guard, or_guard, eBF]
    rfl
  | cons o rest ih =>
    intro i hi hle
    obtain ⟨hlt, he, hd⟩ := drop_get hi
    rw [loopL_eq, ref12_Check_one hC hW h hlt hl, he]
    have hn : prevE l (i + 1) = some o.1 := by simp only [prevE, List.getElem?_eq_getElem hlt, he, Option.map_some]
    have key := ih (i + 1) hd (by omega)
    rw [hn] at key
    simp only [eBF]
    rcases Bool.eq_false_or_eq_true (stE (prevE l i) o == 0) with c | c
    · simp only [c, if_true, seqA_n, key]
    · simp only [c, Bool.false_eq_true, if_false, seqA_r]
theorem ref12_Check_run {R : Caller} (hC : ∀ o s, R 70 [oV o] s = some (.int .i64 (ckO o), s)) (hW : ∀ o s, R 71 [oV o] s = some (.bool (wrt o.kind), s)) {v : Value} {s : St} {l : List En} (h : listOf enC v s = some l) (hl : l.length < 140737488355328) : ref12_Check R v s = some (.int .i64 (eB l), s) := by
  have key := ref12_Check_loop hC hW h hl l 0 rfl (Nat.zero_le _)
  rw [show ((0 : Nat) : Int) = 0 from rfl] at key
  unfold ref12_Check eB
  simp only [list_len h, n_bind, n_map, getL_0, getL_1, getL_2, getL_3, getL_4, getL_5, getL_6, getL_7, getL_8, getL_9, getL_10, getL_11, getL_12, condV_t, condV_f, guardV_tt, guardV_ff, guardV_tf, guardV_ft, guardV_u, apick_t, apick_f, exV_exit, exV_ret, lookE_same, joinK_eq, seqA_n, seqA_e, seqA_r, e_add, e_sub, e_mul, e_eql, e_neq, e_lss, e_leq, e_gtr, e_geq, e_conv, e_not, e_neg, and_guard, or_guard, key]
  rcases Bool.eq_false_or_eq_true (eBF (prevE l 0) l == 0) with c | c
  · simp only [c, if_true, n_bind, n_map, getL_0, getL_1, getL_2, getL_3, getL_4, getL_5, getL_6, getL_7, getL_8, getL_9, getL_10, getL_11, getL_12, condV_t, condV_f, guardV_tt, guardV_ff, guardV_tf, guardV_ft, guardV_u, apick_t, apick_f, exV_exit, exV_ret, lookE_same, joinK_eq, seqA_n, seqA_e, seqA_r, e_add, e_sub, e_mul, e_eql, e_neq, e_lss, e_leq, e_gtr, e_geq, e_conv, e_not, e_neg, and_guard, or_guard, retV]
    have : eBF none l = 0 := by simpa [prevE] using c
    rw [this]
    rfl
  · simp only [c, Bool.false_eq_true, if_false, n_bind, n_map, getL_0, getL_1, getL_2, getL_3, getL_4, getL_5, getL_6, getL_7, getL_8, getL_9, getL_10, getL_11, getL_12, condV_t, condV_f, guardV_tt, guardV_ff, guardV_tf, guardV_ft, guardV_u, apick_t, apick_f, exV_exit, exV_ret, lookE_same, joinK_eq, seqA_n, seqA_e, seqA_r, e_add, e_sub, e_mul, e_eql, e_neq, e_lss, e_leq, e_gtr, e_geq, e_conv, e_not, e_neg, and_guard, or_guard, retV]
    rfl
noncomputable def gEB : Sum := gL enC fun l => .int .i64 (eB l)

end Go.Proofs.Ytamaapapaiopiaa.Ab

/- A law's arguments: operations, pairs, lists of them. -/
namespace Go.Proofs.Ytamaapapaiopiaa.Ab
open Go Go.ChangeShapes Go.WideShapes
set_option maxRecDepth 100000

theorem cl_int : Try.prog.cellsOf 3 = 1 := by kernel_rfl
theorem cl_str : Try.prog.cellsOf 9 = 1 := by kernel_rfl
theorem el_pair {H : Type} {enc : TypeId × Value → H} {W : World} {base : Nat} {sp : Nat → Bool} {held : Bool} {n : Nat} {cs : List Value} {y : DataW H × List MemPlace} (h : DataW.trod enc Try.prog W base sp held n 45 cs = some y) : ∃ a : Rg, cs = prC.enc a := by
  obtain ⟨xs, m, _, rfl, hl, hlen, hf⟩ := DataW.trod_struct Try.underlying45 h
  have c : Try.prog.cellsOf 45 = 2 := by kernel_rfl
  rw [c] at hl
  match xs, hlen, cs, hl with
  | [y0, y1], _, [c0, c1], _ =>
    have t0 : DataW.trod enc Try.prog W base sp held m 9 (([c0, c1].drop 0).take (Try.prog.cellsOf 9)) = some y0 := hf 0 _ rfl
    have t1 : DataW.trod enc Try.prog W base sp held m 9 (([c0, c1].drop 1).take (Try.prog.cellsOf 9)) = some y1 := hf 1 _ rfl
    rw [cl_str] at t0 t1
    simp only [List.drop_succ_cons, List.drop_zero, List.take_succ_cons, List.take_zero] at t0 t1
    obtain ⟨a, e0, _, _⟩ := DataW.trod_string Try.underlying9 t0
    obtain ⟨b, e1, _, _⟩ := DataW.trod_string Try.underlying9 t1
    simp only [List.cons.injEq, and_true] at e0 e1
    subst e0 e1
    refine ⟨(a.data.toList, b.data.toList), ?_⟩
    show _ = [sv _, sv _]
    rw [← sv_of, ← sv_of]
theorem el_op {H : Type} {enc : TypeId × Value → H} {W : World} {base : Nat} {sp : Nat → Bool} {held : Bool} {n : Nat} {cs : List Value} {y : DataW H × List MemPlace} (h : DataW.trod enc Try.prog W base sp held n 64 cs = some y) : ∃ o : OpT, cs = opC.enc o := by
  obtain ⟨xs, m, _, rfl, hl, hlen, hf⟩ := DataW.trod_struct Try.underlying64 h
  have c : Try.prog.cellsOf 64 = 6 := by kernel_rfl
  rw [c] at hl
  match xs, hlen, cs, hl with
  | [y0, y1, y2, y3, y4, y5], _, [c0, c1, c2, c3, c4, c5], _ =>
    have t0 : DataW.trod enc Try.prog W base sp held m 3 (([c0, c1, c2, c3, c4, c5].drop 0).take (Try.prog.cellsOf 3)) = some y0 := hf 0 _ rfl
    have t1 : DataW.trod enc Try.prog W base sp held m 9 (([c0, c1, c2, c3, c4, c5].drop 1).take (Try.prog.cellsOf 9)) = some y1 := hf 1 _ rfl
    have t2 : DataW.trod enc Try.prog W base sp held m 9 (([c0, c1, c2, c3, c4, c5].drop 2).take (Try.prog.cellsOf 9)) = some y2 := hf 2 _ rfl
    have t3 : DataW.trod enc Try.prog W base sp held m 9 (([c0, c1, c2, c3, c4, c5].drop 3).take (Try.prog.cellsOf 9)) = some y3 := hf 3 _ rfl
    have t4 : DataW.trod enc Try.prog W base sp held m 9 (([c0, c1, c2, c3, c4, c5].drop 4).take (Try.prog.cellsOf 9)) = some y4 := hf 4 _ rfl
    have t5 : DataW.trod enc Try.prog W base sp held m 3 (([c0, c1, c2, c3, c4, c5].drop 5).take (Try.prog.cellsOf 3)) = some y5 := hf 5 _ rfl
    rw [cl_int] at t0 t5
    rw [cl_str] at t1 t2 t3 t4
    simp only [List.drop_succ_cons, List.drop_zero, List.take_succ_cons, List.take_zero] at t0 t1 t2 t3 t4 t5
    obtain ⟨k, e0, _, _⟩ := DataW.trod_int Try.underlying3 t0
    obtain ⟨s1, e1, _, _⟩ := DataW.trod_string Try.underlying9 t1
    obtain ⟨s2, e2, _, _⟩ := DataW.trod_string Try.underlying9 t2
    obtain ⟨s3, e3, _, _⟩ := DataW.trod_string Try.underlying9 t3
    obtain ⟨s4, e4, _, _⟩ := DataW.trod_string Try.underlying9 t4
    obtain ⟨k5, e5, _, _⟩ := DataW.trod_int Try.underlying3 t5
    simp only [List.cons.injEq, and_true] at e0 e1 e2 e3 e4 e5
    subst e0 e1 e2 e3 e4 e5
    refine ⟨⟨k, s1.data.toList, s2.data.toList, s3.data.toList, s4.data.toList, k5⟩, ?_⟩
    show _ = [_, sv _, sv _, sv _, sv _, _]
    rw [← sv_of, ← sv_of, ← sv_of, ← sv_of]
theorem open_op {H : Type} {enc : TypeId × Value → H} {W : World} {base : Nat} {sp : Nat → Bool} {held : Bool} {r : Reach} {b0 : Nat} {v : Value} {d : DataW H} {ps : List MemPlace} (hval : Value.okWide Try.prog W r b0 64 v) (hd : DataW.Trod enc Try.prog W base sp held 64 v d ps) : ∃ o : OpT, v = oV o := by
  obtain ⟨cs, rfl, hcs⟩ := okWide_struct Try.underlying64 hval
  obtain ⟨fuel, hf⟩ := hd
  obtain ⟨o, ho⟩ := el_op hf
  refine ⟨o, ?_⟩
  have : cs.toList = oC o := ho
  rw [oV_eq, ← this]
theorem op_rel {κ : Emb} (o : OpT) : VRel κ (oV o) (oV o) := .va (.agg ⟨.l1 (.l0 (.int _ _)), .l1 (.l0 (.string _)), .l1 (.l0 (.string _)), .l1 (.l0 (.string _)), .l1 (.l0 (.string _)), .l1 (.l0 (.int _ _)), trivial⟩)

end Go.Proofs.Ytamaapapaiopiaa.Ab

/- A law's arguments: lists of entries. -/
namespace Go.Proofs.Ytamaapapaiopiaa.Ab
open Go Go.ChangeShapes Go.WideShapes

theorem cl_u64 : Try.prog.cellsOf 62 = 1 := by kernel_rfl
theorem cl_op : Try.prog.cellsOf 64 = 6 := by kernel_rfl
set_option maxRecDepth 100000 in
theorem el_en {H : Type} {enc : TypeId × Value → H} {W : World} {base : Nat} {sp : Nat → Bool} {held : Bool} {n : Nat} {cs : List Value} {y : DataW H × List MemPlace} (h : DataW.trod enc Try.prog W base sp held n 66 cs = some y) : ∃ a : En, cs = enC.enc a := by
  obtain ⟨xs, m, _, rfl, hl, hlen, hf⟩ := DataW.trod_struct Try.underlying66 h
  have c : Try.prog.cellsOf 66 = 7 := by kernel_rfl
  rw [c] at hl
  match xs, hlen, cs, hl with
  | [y0, y1], _, [c0, c1, c2, c3, c4, c5, c6], _ =>
    have t0 : DataW.trod enc Try.prog W base sp held m 62 (([c0, c1, c2, c3, c4, c5, c6].drop 0).take (Try.prog.cellsOf 62)) = some y0 := hf 0 _ rfl
    have t1 : DataW.trod enc Try.prog W base sp held m 64 (([c0, c1, c2, c3, c4, c5, c6].drop 1).take (Try.prog.cellsOf 64)) = some y1 := hf 1 _ rfl
    rw [cl_u64] at t0
    rw [cl_op] at t1
    simp only [List.drop_succ_cons, List.drop_zero, List.take_succ_cons, List.take_zero] at t0 t1
    obtain ⟨k, e0, _, _⟩ := DataW.trod_int Try.underlying62 t0
    obtain ⟨o, e1⟩ := el_op t1
    simp only [List.cons.injEq, and_true] at e0
    subst e0
    exact ⟨(k, o), by rw [e1]; rfl⟩

end Go.Proofs.Ytamaapapaiopiaa.Ab

/- A law's argument: a node. -/
namespace Go.Proofs.Ytamaapapaiopiaa.Ab
open Go Go.ChangeShapes Go.WideShapes
set_option maxRecDepth 100000

theorem opens_pr : Opens Try.prog (.ofC prC fun _ => True) 45 := fun Hn enc W n cs y hy hw => by
  obtain ⟨a, rfl⟩ := el_pair hy
  exact opens_leaf ⟨a, rfl, trivial⟩
theorem opens_en : Opens Try.prog (.ofC enC fun e => (Lit.int .u64 e.1).wf = true) 66 := fun Hn enc W n cs y hy hw => by
  obtain ⟨a, rfl⟩ := el_en hy
  refine opens_leaf ⟨a, rfl, ?_⟩
  obtain ⟨xs, m, _, rfl, hl, hlen, hf⟩ := DataW.trod_struct Try.underlying66 hy
  match xs, hlen with
  | [y0, y1], _ =>
    have t0 : DataW.trod enc Try.prog W 0 (fun _ => true) true m 62 (((enC.enc a).drop 0).take (Try.prog.cellsOf 62)) = some y0 := hf 0 _ rfl
    rw [cl_u64] at t0
    obtain ⟨k, e0, _, h⟩ := DataW.trod_int Try.underlying62 t0
    have : Value.int .u64 a.1 = .int .u64 k := (List.cons.inj e0).1
    rw [int_inj this]
    exact h
structure Nd where
  leaf : Bool
  pairs : List Rg
  kids : List Int
  pivots : List BL
  bufs : List (List En)
def nodeC : NCod Nd := NCod.map (.pair (.ofC blnC fun _ => True) (.pair (.list (.ofC prC fun _ => True) 32) (.pair (.list (.ofC (intC .i64) fun i => (Lit.int .i64 i).wf = true) 8) (.pair (.list (.ofC strgC fun k => k.length ≤ reachBytes) 16) (.pair (.list (.list (.ofC enC fun e => (Lit.int .u64 e.1).wf = true) 88) 24) .unit))))) fun n => (n.leaf, n.pairs, n.kids, n.pivots, n.bufs, ())
theorem opens_node : Opens Try.prog nodeC 29 := fun Hn enc W n cs y hy hw =>
  opens_map (g := fun p => ⟨p.1, p.2.1, p.2.2.1, p.2.2.2.1, p.2.2.2.2.1⟩) (fun a => rfl) (opens_struct (C := .pair (.ofC blnC fun _ => True) (.pair (.list (.ofC prC fun _ => True) 32) (.pair (.list (.ofC (intC .i64) fun i => (Lit.int .i64 i).wf = true) 8) (.pair (.list (.ofC strgC fun k => k.length ≤ reachBytes) 16) (.pair (.list (.list (.ofC enC fun e => (Lit.int .u64 e.1).wf = true) 88) 24) .unit))))) Try.underlying29 (by kernel_rfl)
    (opensF_cons rfl (by kernel_rfl) (opens_bool Try.underlying4) (opensF_cons rfl (by kernel_rfl) (opens_list Try.underlying24 (by kernel_rfl) (by decide) (by kernel_rfl) opens_pr) (opensF_cons rfl (by kernel_rfl) (opens_list Try.underlying25 (by kernel_rfl) (by decide) (by kernel_rfl) (opens_int Try.underlying3)) (opensF_cons rfl (by kernel_rfl) (opens_list Try.underlying26 (by kernel_rfl) (by decide) (by kernel_rfl) (opens_string Try.underlying9))
      (opensF_cons rfl (by kernel_rfl) (opens_list Try.underlying27 (by kernel_rfl) (by decide) (by kernel_rfl) (opens_list Try.underlying47 (by kernel_rfl) (by decide) (by kernel_rfl) opens_en)) opensF_nil))))) Hn enc W n cs y hy hw)
theorem node_inv {a : Nd} {s : St} {v : Value} (h : NArg nodeC a s v) : ∃ p k q b, v = .agg #[.bool a.leaf, p, k, q, b] ∧ ListN (.ofC prC fun _ => True) 32 a.pairs s p ∧ ListN (.ofC (intC .i64) fun i => (Lit.int .i64 i).wf = true) 8 a.kids s k ∧ ListN (.ofC strgC fun k => k.length ≤ reachBytes) 16 a.pivots s q ∧ ListN (.list (.ofC enC fun e => (Lit.int .u64 e.1).wf = true) 88) 24 a.bufs s b := by
  obtain ⟨cs, rfl, c0, d0, rfl, ⟨rfl, _⟩, c1, d1, rfl, ⟨p, rfl, h1⟩, c2, d2, rfl, ⟨k, rfl, h2⟩, c3, d3, rfl, ⟨q, rfl, h3⟩, c4, d4, rfl, ⟨b, rfl, h4⟩, rfl⟩ := h
  exact ⟨p, k, q, b, rfl, h1, h2, h3, h4⟩

end Go.Proofs.Ytamaapapaiopiaa.Ab

/- Pivots: keys in order. -/
namespace Go.Proofs.Ytamaapapaiopiaa.Ab
open Go

def okP : Option BL → List BL → Bool
  | _, [] => true
  | none, k :: l => ckK k && okP (some k) l
  | some p, k :: l => (ckK k && bl p k) && okP (some k) l
def lowP (ps : List BL) : Nat → BL
  | 0 => []
  | i + 1 => ps.getD i []
def rgI (ps : List BL) (i : Nat) : Rg := (lowP ps i, ps.getD i [])
theorem okP_get : ∀ {l : List BL} {p : Option BL}, okP p l = true → ∀ (i : Nat) (hi : i < l.length), ckK l[i] = true ∧ (∀ q, (match i with | 0 => p | j + 1 => l[j]?) = some q → bl q l[i] = true)
  | [], _, _, i, hi => by simp at hi
  | k :: l, p, h, i, hi => by
    have hk : ckK k = true ∧ okP (some k) l = true ∧ ∀ q, p = some q → bl q k = true := by
      cases p with
      | none => simp only [okP, Bool.and_eq_true] at h; exact ⟨h.1, h.2, fun q hq => by cases hq⟩
      | some a => simp only [okP, Bool.and_eq_true] at h; exact ⟨h.1.1, h.2, fun q hq => by cases hq; exact h.1.2⟩
    cases i with
    | zero => exact ⟨hk.1, hk.2.2⟩
    | succ j =>
      obtain ⟨g1, g2⟩ := okP_get hk.2.1 j (by simpa using hi)
      refine ⟨by simpa using g1, fun q hq => ?_⟩
      simp only [List.getElem_cons_succ]
      refine g2 q ?_
      cases j with
      | zero => simpa using hq
      | succ j => simpa using hq
theorem ck_short {k : BL} (h : ckK k = true) : k ≠ [] ∧ k.length ≤ 12 := by
  unfold ckK at h
  simp at h
  exact h
def strC : Cod BL where
  n := 1
  enc k := [sv k]
  pos := by decide
  len _ := rfl
  inj a b h := by
    simp only [List.cons.injEq, and_true] at h
    exact sv_inj h
  leaf _ := rfl
theorem str_at {v : Value} {s : St} {l : List BL} (h : listOf strC v s = some l) {i : Nat} (hi : i < l.length) : ∃ p, aindexS 1 v (.int .i64 (i : Int)) = some p ∧ aload false 1 p s = some (sv l[i]) := by
  obtain ⟨p, h1, q, h2, h3⟩ := list_field h hi (j := 0) (c := sv l[i]) rfl (k := .i64) (n := 1) rfl
  refine ⟨p, h1, ?_⟩
  have : q = p := by
    unfold afieldAddr at h2
    split at h2
    · cases h2; rfl
    · cases h2
  rw [← this]
  exact h3
def prevS (l : List BL) : Nat → Option BL
  | 0 => none
  | i + 1 => l[i]?
theorem okP_cons (p : Option BL) (k : BL) (l : List BL) : okP p (k :: l) = ((ckK k && (match p with | none => true | some q => bl q k)) && okP (some k) l) := by
  cases p <;> simp [okP]

/-! ### Range -/
theorem Range_run {R : Caller} {w : Value} {s : St} {ps : List BL} (h : listOf strC w s = some ps) (hl : ps.length < 140737488355328) {i : Nat} (hi : i ≤ ps.length) : ref12_Range R w (.int .i64 (i : Int)) s = some (rv (rgI ps i), s) := by
  have hret : ∀ r, retV [rv r] s = some (rv r, s) := fun r => ret1 rfl
  have hj1 : ∀ lo, lo = lowP ps i → ref12_Range.j1 R [w, .int .i64 (i : Int), lptr, lptr, rv ([], []), rv (lo, [])] s = some (rv (rgI ps i), s) := fun lo hlo => by
    subst hlo
    unfold ref12_Range.j1
    by_cases c : i < ps.length
    · have h1 : decide ((i : Int) < ((ps.length : Nat) : Int)) = true := by simp; omega
      obtain ⟨p, h2, h3⟩ := str_at h c
      have hget : ps[i] = ps.getD i [] := by simp [List.getD_eq_getElem?_getD, c]
      simp only [list_len h, h1, h2, h3, p_1, st_1, ref12_Range.j0, ld_rv, st_rv, hret, n_bind, n_map, getL_0, getL_1, getL_2, getL_3, getL_4, getL_5, getL_6, getL_7, getL_8, getL_9, getL_10, getL_11, getL_12, condV_t, condV_f, guardV_tt, guardV_ff, guardV_tf, guardV_ft, guardV_u, apick_t, apick_f, exV_exit, exV_ret, lookE_same, joinK_eq, seqA_n, seqA_e, seqA_r, e_add, e_sub, e_mul, e_eql, e_neq, e_lss, e_leq, e_gtr, e_geq, e_conv, e_not, e_neg, and_guard, or_guard]
      rw [hget]
      rfl
    · have h1 : decide ((i : Int) < ((ps.length : Nat) : Int)) = false := by simp; omega
      have hget : ps.getD i [] = [] := by simp [List.getD_eq_getElem?_getD, List.getElem?_eq_none (Nat.le_of_not_lt c)]
      simp only [list_len h, h1, ref12_Range.j0, ld_rv, st_rv, hret, n_bind, n_map, getL_0, getL_1, getL_2, getL_3, getL_4, getL_5, getL_6, getL_7, getL_8, getL_9, getL_10, getL_11, getL_12, condV_t, condV_f, guardV_tt, guardV_ff, guardV_tf, guardV_ft, guardV_u, apick_t, apick_f, exV_exit, exV_ret, lookE_same, joinK_eq, seqA_n, seqA_e, seqA_r, e_add, e_sub, e_mul, e_eql, e_neq, e_lss, e_leq, e_gtr, e_geq, e_conv, e_not, e_neg, and_guard, or_guard]
      unfold rgI
      rw [hget]
  unfold ref12_Range
  cases i with
  | zero =>
    have c3 : decide (((0 : Nat) : Int) > 0) = false := rfl
    simp only [c3, nil_sv, z_rv2, n_bind, n_map, getL_0, getL_1, getL_2, getL_3, getL_4, getL_5, getL_6, getL_7, getL_8, getL_9, getL_10, getL_11, getL_12, condV_t, condV_f, guardV_tt, guardV_ff, guardV_tf, guardV_ft, guardV_u, apick_t, apick_f, exV_exit, exV_ret, lookE_same, joinK_eq, seqA_n, seqA_e, seqA_r, e_add, e_sub, e_mul, e_eql, e_neq, e_lss, e_leq, e_gtr, e_geq, e_conv, e_not, e_neg, and_guard, or_guard]
    exact hj1 [] rfl
  | succ j =>
    have c3 : decide (((j + 1 : Nat) : Int) > 0) = true := decide_eq_true (by omega)
    have hj : j < ps.length := by omega
    obtain ⟨q, f1, f2⟩ := str_at h hj
    have hd1 : IntKind.wrap .i64 (((j + 1 : Nat) : Int) - 1) = ((j : Nat) : Int) := by rw [wrap_i64 (by omega) (by omega)]; omega
    have hs0 : lstore 1 lptr (sv ps[j]) (rv ([], [])) = some (rv (ps[j], [])) := rfl
    simp only [c3, nil_sv, z_rv2, hd1, f1, f2, hs0, n_bind, n_map, getL_0, getL_1, getL_2, getL_3, getL_4, getL_5, getL_6, getL_7, getL_8, getL_9, getL_10, getL_11, getL_12, condV_t, condV_f, guardV_tt, guardV_ff, guardV_tf, guardV_ft, guardV_u, apick_t, apick_f, exV_exit, exV_ret, lookE_same, joinK_eq, seqA_n, seqA_e, seqA_r, e_add, e_sub, e_mul, e_eql, e_neq, e_lss, e_leq, e_gtr, e_geq, e_conv, e_not, e_neg, and_guard, or_guard]
    exact hj1 _ (by simp [lowP, List.getD_eq_getElem?_getD, hj])
theorem Pivots_loop {R : Caller} (hK : ∀ k s, R 69 [sv k] s = some (.int .i64 (eK k), s)) {q : Value} {s : St} {ps : List BL} (h : listOf strC q s = some ps) (hl : ps.length < 140737488355328) : ∀ (rest : List BL) (i : Nat), ps.drop i = rest → i ≤ ps.length →
    loopL (ref12_Pivots.b0 R) [q, q, .int .i64 ((ps.length : Nat) : Int), .int .i64 (i : Int)] s = if okP (prevS ps i) rest = true then some (.exit 0, [], s) else some (.ret, [.int .i64 20], s) := by
  intro rest
  induction rest with
  | nil =>
    intro i hi hle
    have h1 : decide ((i : Int) < ((ps.length : Nat) : Int)) = false := by
      have := List.drop_eq_nil_iff.1 hi
      simp; omega
    rw [loopL_eq]
    simp only [ref12_Pivots.b0, h1, n_bind, n_map, getL_0, getL_1, getL_2, getL_3, getL_4, getL_5, getL_6, getL_7, getL_8, getL_9, getL_10, getL_11, getL_12, condV_t, condV_f, guardV_tt, guardV_ff, guardV_tf, guardV_ft, guardV_u, apick_t, apick_f, exV_exit, exV_ret, lookE_same, joinK_eq, seqA_n, seqA_e, seqA_r, e_add, e_sub, e_mul, e_eql, e_neq, e_lss, e_leq, e_gtr, e_geq, e_conv, e_not, e_neg, and_guard, or_guard, okP, if_true]
  | cons x rest ih =>
    intro i hi hle
    obtain ⟨hlt, he, hd⟩ := drop_get hi
    have h1 : decide ((i : Int) < ((ps.length : Nat) : Int)) = true := by simp; omega
    obtain ⟨a, h2, h3⟩ := str_at h hlt
    rw [he] at h3
    have hn : prevS ps (i + 1) = some x := by simp only [prevS, List.getElem?_eq_getElem hlt, he]
    have key := ih (i + 1) hd (by omega)
    rw [hn] at key
    rw [loopL_eq, okP_cons]
    rcases Bool.eq_false_or_eq_true (ckK x) with c1 | c1
    · cases i with
      | zero =>
        have c3 : decide (((0 : Nat) : Int) > 0) = false := rfl
        simp only [ref12_Pivots.b0, h1, h2, h3, ref02_CheckKey_call, hK, eK_n, c1, c3, Bool.not_true, prevS, Bool.true_and, Bool.and_true, Bool.or_self, inc_i64 (show 0 < 140737488355328 by omega), n_bind, n_map, getL_0, getL_1, getL_2, getL_3, getL_4, getL_5, getL_6, getL_7, getL_8, getL_9, getL_10, getL_11, getL_12, condV_t, condV_f, guardV_tt, guardV_ff, guardV_tf, guardV_ft, guardV_u, apick_t, apick_f, exV_exit, exV_ret, lookE_same, joinK_eq, seqA_n, seqA_e, seqA_r, e_add, e_sub, e_mul, e_eql, e_neq, e_lss, e_leq, e_gtr, e_geq, e_conv, e_not, e_neg, and_guard, or_guard]
        exact key
      | succ j =>
        have c3 : decide (((j + 1 : Nat) : Int) > 0) = true := decide_eq_true (by omega)
        have hj : j < ps.length := by omega
        obtain ⟨a2, f1, f2⟩ := str_at h hj
        have hd1 : IntKind.wrap .i64 (((j + 1 : Nat) : Int) - 1) = ((j : Nat) : Int) := by rw [wrap_i64 (by omega) (by omega)]; omega
        have hp : prevS ps (j + 1) = some ps[j] := by simp only [prevS, List.getElem?_eq_getElem hj]
        rw [hp]
        rcases Bool.eq_false_or_eq_true (bl ps[j] x) with c4 | c4
        · simp only [ref12_Pivots.b0, h1, h2, h3, ref02_CheckKey_call, hK, eK_n, c1, c3, hd1, f1, f2, geq_bl, c4, Bool.not_true, Bool.true_and, Bool.and_true, Bool.and_self, Bool.or_self, Bool.or_false, Bool.and_false, inc_i64 (show j + 1 < 140737488355328 by omega), n_bind, n_map, getL_0, getL_1, getL_2, getL_3, getL_4, getL_5, getL_6, getL_7, getL_8, getL_9, getL_10, getL_11, getL_12, condV_t, condV_f, guardV_tt, guardV_ff, guardV_tf, guardV_ft, guardV_u, apick_t, apick_f, exV_exit, exV_ret, lookE_same, joinK_eq, seqA_n, seqA_e, seqA_r, e_add, e_sub, e_mul, e_eql, e_neq, e_lss, e_leq, e_gtr, e_geq, e_conv, e_not, e_neg, and_guard, or_guard]
          exact key
        · simp only [ref12_Pivots.b0, h1, h2, h3, ref02_CheckKey_call, hK, eK_n, c1, c3, hd1, f1, f2, geq_bl, c4, Bool.not_true, Bool.not_false, Bool.true_and, Bool.and_true, Bool.and_self, Bool.and_false, Bool.false_and, Bool.or_true, Bool.false_or, Bool.false_eq_true, if_false, n_bind, n_map, getL_0, getL_1, getL_2, getL_3, getL_4, getL_5, getL_6, getL_7, getL_8, getL_9, getL_10, getL_11, getL_12, condV_t, condV_f, guardV_tt, guardV_ff, guardV_tf, guardV_ft, guardV_u, apick_t, apick_f, exV_exit, exV_ret, lookE_same, joinK_eq, seqA_n, seqA_e, seqA_r, e_add, e_sub, e_mul, e_eql, e_neq, e_lss, e_leq, e_gtr, e_geq, e_conv, e_not, e_neg, and_guard, or_guard]
    · simp only [ref12_Pivots.b0, h1, h2, h3, ref02_CheckKey_call, hK, eK_n, c1, Bool.not_false, Bool.false_and, Bool.true_or, Bool.false_eq_true, if_false, n_bind, n_map, getL_0, getL_1, getL_2, getL_3, getL_4, getL_5, getL_6, getL_7, getL_8, getL_9, getL_10, getL_11, getL_12, condV_t, condV_f, guardV_tt, guardV_ff, guardV_tf, guardV_ft, guardV_u, apick_t, apick_f, exV_exit, exV_ret, lookE_same, joinK_eq, seqA_n, seqA_e, seqA_r, e_add, e_sub, e_mul, e_eql, e_neq, e_lss, e_leq, e_gtr, e_geq, e_conv, e_not, e_neg, and_guard, or_guard]
theorem Pivots_run {R : Caller} (hK : ∀ k s, R 69 [sv k] s = some (.int .i64 (eK k), s)) {q : Value} {s : St} {ps : List BL} (h : listOf strC q s = some ps) (hl : ps.length < 140737488355328) : ref12_Pivots R q s = some (.int .i64 (if okP none ps = true then 0 else 20), s) := by
  have key := Pivots_loop hK h hl ps 0 rfl (Nat.zero_le _)
  rw [show ((0 : Nat) : Int) = 0 from rfl, show prevS ps 0 = none from rfl] at key
  unfold ref12_Pivots
  by_cases c : okP none ps = true
  · rw [if_pos c] at key
    rw [if_pos c]
    simp only [list_len h, key, n_bind, n_map, getL_0, getL_1, getL_2, getL_3, getL_4, getL_5, getL_6, getL_7, getL_8, getL_9, getL_10, getL_11, getL_12, condV_t, condV_f, guardV_tt, guardV_ff, guardV_tf, guardV_ft, guardV_u, apick_t, apick_f, exV_exit, exV_ret, lookE_same, joinK_eq, seqA_n, seqA_e, seqA_r, e_add, e_sub, e_mul, e_eql, e_neq, e_lss, e_leq, e_gtr, e_geq, e_conv, e_not, e_neg, and_guard, or_guard]
    exact ret1 rfl
  · rw [if_neg c] at key
    rw [if_neg c]
    simp only [list_len h, key, n_bind, n_map, getL_0, getL_1, getL_2, getL_3, getL_4, getL_5, getL_6, getL_7, getL_8, getL_9, getL_10, getL_11, getL_12, condV_t, condV_f, guardV_tt, guardV_ff, guardV_tf, guardV_ft, guardV_u, apick_t, apick_f, exV_exit, exV_ret, lookE_same, joinK_eq, seqA_n, seqA_e, seqA_r, e_add, e_sub, e_mul, e_eql, e_neq, e_lss, e_leq, e_gtr, e_geq, e_conv, e_not, e_neg, and_guard, or_guard]
    exact ret1 rfl

end Go.Proofs.Ytamaapapaiopiaa.Ab

/- Nodes: which may be. -/
namespace Go.Proofs.Ytamaapapaiopiaa.Ab
open Go

/-! ### The least and the greatest of some numbers -/
def mnL (a : Int) : List Int → Int
  | [] => a
  | x :: l => mnL (if x < a then x else a) l
def mxL (a : Int) : List Int → Int
  | [] => a
  | x :: l => mxL (if x > a then x else a) l
theorem amin_e {k : IntKind} {x y : Int} : amin2 (.int k x) (.int k y) = some (.int k (if y < x then y else x)) := by simp [amin2]
theorem amax_e {k : IntKind} {x y : Int} : amax2 (.int k x) (.int k y) = some (.int k (if y > x then y else x)) := by simp [amax2]
theorem int_at {v : Value} {s : St} {l : List Int} (h : listOf (intC .i64) v s = some l) {i : Nat} (hi : i < l.length) : ∃ p, aindexS 1 v (.int .i64 (i : Int)) = some p ∧ aload false 1 p s = some (.int .i64 l[i]) := by
  obtain ⟨p, h1, q, h2, h3⟩ := list_field h hi (j := 0) (c := .int .i64 l[i]) rfl (k := .i64) (n := 1) rfl
  refine ⟨p, h1, ?_⟩
  have : q = p := by
    unfold afieldAddr at h2
    split at h2
    · cases h2; rfl
    · cases h2
  rw [← this]
  exact h3
theorem slices_Min_int_int_loop {R : Caller} {v : Value} {s : St} {l : List Int} (h : listOf (intC .i64) v s = some l) (hl : l.length < 140737488355328) : ∀ (rest : List Int) (i : Nat) (a : Int), l.drop i = rest → i ≤ l.length →
    loopL (slices_Min_int_int.b0 R) [v, .int .i64 a, .int .i64 (i : Int)] s = some (.exit 0, [.int .i64 (mnL a rest)], s) := by
  intro rest
  induction rest with
  | nil =>
    intro i a hi hle
    have h1 : decide ((i : Int) < ((l.length : Nat) : Int)) = false := by
      have := List.drop_eq_nil_iff.1 hi
      simp; omega
    rw [loopL_eq]
    simp only [slices_Min_int_int.b0, list_len h, h1, mnL, n_bind, n_map, getL_0, getL_1, getL_2, getL_3, getL_4, getL_5, getL_6, getL_7, getL_8, getL_9, getL_10, getL_11, getL_12, condV_t, condV_f, guardV_tt, guardV_ff, guardV_tf, guardV_ft, guardV_u, apick_t, apick_f, exV_exit, exV_ret, lookE_same, joinK_eq, seqA_n, seqA_e, seqA_r, e_add, e_sub, e_mul, e_eql, e_neq, e_lss, e_leq, e_gtr, e_geq, e_conv, e_not, e_neg, and_guard, or_guard]
  | cons x rest ih =>
    intro i a hi hle
    obtain ⟨hlt, he, hd⟩ := drop_get hi
    have h1 : decide ((i : Int) < ((l.length : Nat) : Int)) = true := by simp; omega
    obtain ⟨p, h2, h3⟩ := int_at h hlt
    rw [he] at h3
    rw [loopL_eq]
    simp only [slices_Min_int_int.b0, list_len h, h1, h2, h3, amin_e, inc_i64 (show i < 140737488355328 by omega), n_bind, n_map, getL_0, getL_1, getL_2, getL_3, getL_4, getL_5, getL_6, getL_7, getL_8, getL_9, getL_10, getL_11, getL_12, condV_t, condV_f, guardV_tt, guardV_ff, guardV_tf, guardV_ft, guardV_u, apick_t, apick_f, exV_exit, exV_ret, lookE_same, joinK_eq, seqA_n, seqA_e, seqA_r, e_add, e_sub, e_mul, e_eql, e_neq, e_lss, e_leq, e_gtr, e_geq, e_conv, e_not, e_neg, and_guard, or_guard]
    exact ih (i + 1) _ hd (by omega)
theorem slices_Min_int_int_run {R : Caller} {v : Value} {s : St} {l : List Int} {x : Int} {r : List Int} (hl2 : l = x :: r) (h : listOf (intC .i64) v s = some l) (hl : l.length < 140737488355328) : slices_Min_int_int R v s = some (.int .i64 (mnL x r), s) := by
  have h0 : 0 < l.length := by rw [hl2]; simp
  have h1 : decide (((l.length : Nat) : Int) < 1) = false := by simp; omega
  obtain ⟨p, h2, h3⟩ := int_at h h0
  have hx : l[0] = x := by subst hl2; rfl
  rw [hx] at h3
  have key := slices_Min_int_int_loop (R := R) h hl r 1 x (by rw [hl2]; rfl) (by omega)
  have h2' : aindexS 1 v (.int .i64 0) = some p := h2
  have key' : loopL (slices_Min_int_int.b0 R) [v, .int .i64 x, .int .i64 1] s = some (.exit 0, [.int .i64 (mnL x r)], s) := key
  unfold slices_Min_int_int
  simp only [list_len h, h1, slices_Min_int_int.j0, h2', h3, key', n_bind, n_map, getL_0, getL_1, getL_2, getL_3, getL_4, getL_5, getL_6, getL_7, getL_8, getL_9, getL_10, getL_11, getL_12, condV_t, condV_f, guardV_tt, guardV_ff, guardV_tf, guardV_ft, guardV_u, apick_t, apick_f, exV_exit, exV_ret, lookE_same, joinK_eq, seqA_n, seqA_e, seqA_r, e_add, e_sub, e_mul, e_eql, e_neq, e_lss, e_leq, e_gtr, e_geq, e_conv, e_not, e_neg, and_guard, or_guard]
  exact ret1 rfl
theorem slices_Max_int_int_loop {R : Caller} {v : Value} {s : St} {l : List Int} (h : listOf (intC .i64) v s = some l) (hl : l.length < 140737488355328) : ∀ (rest : List Int) (i : Nat) (a : Int), l.drop i = rest → i ≤ l.length →
    loopL (slices_Max_int_int.b0 R) [v, .int .i64 a, .int .i64 (i : Int)] s = some (.exit 0, [.int .i64 (mxL a rest)], s) := by
  intro rest
  induction rest with
  | nil =>
    intro i a hi hle
    have h1 : decide ((i : Int) < ((l.length : Nat) : Int)) = false := by
      have := List.drop_eq_nil_iff.1 hi
      simp; omega
    rw [loopL_eq]
    simp only [slices_Max_int_int.b0, list_len h, h1, mxL, n_bind, n_map, getL_0, getL_1, getL_2, getL_3, getL_4, getL_5, getL_6, getL_7, getL_8, getL_9, getL_10, getL_11, getL_12, condV_t, condV_f, guardV_tt, guardV_ff, guardV_tf, guardV_ft, guardV_u, apick_t, apick_f, exV_exit, exV_ret, lookE_same, joinK_eq, seqA_n, seqA_e, seqA_r, e_add, e_sub, e_mul, e_eql, e_neq, e_lss, e_leq, e_gtr, e_geq, e_conv, e_not, e_neg, and_guard, or_guard]
  | cons x rest ih =>
    intro i a hi hle
    obtain ⟨hlt, he, hd⟩ := drop_get hi
    have h1 : decide ((i : Int) < ((l.length : Nat) : Int)) = true := by simp; omega
    obtain ⟨p, h2, h3⟩ := int_at h hlt
    rw [he] at h3
    rw [loopL_eq]
    simp only [slices_Max_int_int.b0, list_len h, h1, h2, h3, amax_e, inc_i64 (show i < 140737488355328 by omega), n_bind, n_map, getL_0, getL_1, getL_2, getL_3, getL_4, getL_5, getL_6, getL_7, getL_8, getL_9, getL_10, getL_11, getL_12, condV_t, condV_f, guardV_tt, guardV_ff, guardV_tf, guardV_ft, guardV_u, apick_t, apick_f, exV_exit, exV_ret, lookE_same, joinK_eq, seqA_n, seqA_e, seqA_r, e_add, e_sub, e_mul, e_eql, e_neq, e_lss, e_leq, e_gtr, e_geq, e_conv, e_not, e_neg, and_guard, or_guard]
    exact ih (i + 1) _ hd (by omega)
theorem slices_Max_int_int_run {R : Caller} {v : Value} {s : St} {l : List Int} {x : Int} {r : List Int} (hl2 : l = x :: r) (h : listOf (intC .i64) v s = some l) (hl : l.length < 140737488355328) : slices_Max_int_int R v s = some (.int .i64 (mxL x r), s) := by
  have h0 : 0 < l.length := by rw [hl2]; simp
  have h1 : decide (((l.length : Nat) : Int) < 1) = false := by simp; omega
  obtain ⟨p, h2, h3⟩ := int_at h h0
  have hx : l[0] = x := by subst hl2; rfl
  rw [hx] at h3
  have key := slices_Max_int_int_loop (R := R) h hl r 1 x (by rw [hl2]; rfl) (by omega)
  have h2' : aindexS 1 v (.int .i64 0) = some p := h2
  have key' : loopL (slices_Max_int_int.b0 R) [v, .int .i64 x, .int .i64 1] s = some (.exit 0, [.int .i64 (mxL x r)], s) := key
  unfold slices_Max_int_int
  simp only [list_len h, h1, slices_Max_int_int.j0, h2', h3, key', n_bind, n_map, getL_0, getL_1, getL_2, getL_3, getL_4, getL_5, getL_6, getL_7, getL_8, getL_9, getL_10, getL_11, getL_12, condV_t, condV_f, guardV_tt, guardV_ff, guardV_tf, guardV_ft, guardV_u, apick_t, apick_f, exV_exit, exV_ret, lookE_same, joinK_eq, seqA_n, seqA_e, seqA_r, e_add, e_sub, e_mul, e_eql, e_neq, e_lss, e_leq, e_gtr, e_geq, e_conv, e_not, e_neg, and_guard, or_guard]
  exact ret1 rfl

/-! ### Rows of rows -/
theorem listN_len {α : Type} {C : NCod α} {B : Nat} {l : List α} {s s2 : St} {v : Value} (h : ListN C B l s v) {e : TypeId} : alenV (.slice e) v s2 = some (.int .i64 ((l.length : Nat) : Int)) := by
  rcases h.2 with ⟨rfl, rfl⟩ | ⟨b, css, st, k, rfl, _⟩
  · rfl
  · rfl
theorem flat1 {α : Type} {C : NCod α} (hn : C.n = 1) {s : St} : ∀ {l : List α} {css : List (List Value)}, All2 (fun a c => C.rel a s c) l css → css.flatten.length = l.length ∧ ∀ (i : Nat) (hi : i < l.length), ∃ c, css.flatten[i]? = some c ∧ C.rel l[i] s [c]
  | [], [], _ => ⟨rfl, fun i hi => by simp at hi⟩
  | a :: l, c :: css, ⟨h1, h2⟩ => by
    have hl := C.len h1
    rw [hn] at hl
    obtain ⟨x, rfl⟩ := List.length_eq_one_iff.1 hl
    obtain ⟨g1, g2⟩ := flat1 hn h2
    refine ⟨by simpa using g1, fun i hi => ?_⟩
    cases i with
    | zero => exact ⟨x, rfl, h1⟩
    | succ i => simpa using g2 i (by simpa using hi)
theorem listN_at {α : Type} {C : NCod α} (hn : C.n = 1) {B : Nat} {l : List α} {s : St} {v : Value} (h : ListN C B l s v) {i : Nat} (hi : i < l.length) : ∃ p c, aindexS 1 v (.int .i64 (i : Int)) = some p ∧ aload false 1 p s = some c ∧ C.rel l[i] s [c] := by
  rcases h.2 with ⟨rfl, rfl⟩ | ⟨b, css, st, k, rfl, h2, h3, h4⟩
  · simp at hi
  · obtain ⟨g1, g2⟩ := flat1 hn h4
    obtain ⟨c, g3, g4⟩ := g2 i hi
    refine ⟨.pointer (some ⟨b, i, none⟩), c, by simp [aindexS, hi], ?_, g4⟩
    have hr : readRow s b = some css.flatten := by
      unfold Ab.readRow
      rw [h2]
      cases st with
      | dead => exact absurd rfl h3
      | act => rfl
      | ro => rfl
    simp [aload, hr, g3]

/-! ### Which kid's entries lie within its bounds -/
def wiE (r : Rg) (o : OpT) : Bool := if o.kind == 5 then covL r (o.lo, o.hi) else hasR r o.key
theorem within_run {R : Caller} (hC : ∀ a b s, R 61 [rv a, rv b] s = some (.bool (covL a b), s)) (hH : ∀ r k s, R 62 [rv r, sv k] s = some (.bool (hasR r k), s)) (r : Rg) (o : OpT) (s : St) : node_within R (rv r) (oV o) s = some (.bool (wiE r o), s) := by
  unfold node_within wiE
  have hb : ∀ b : Bool, retV [.bool b] s = some (.bool b, s) := fun b => ret1 rfl
  rcases Bool.eq_false_or_eq_true (o.kind == 5) with c | c
  · simp only [box_rv, o_box, o_0, o_3, o_4, ab2, c, ld_rv, span_Covers_call, hC, hb, if_true, n_bind, n_map, getL_0, getL_1, getL_2, getL_3, getL_4, getL_5, getL_6, getL_7, getL_8, getL_9, getL_10, getL_11, getL_12, condV_t, condV_f, guardV_tt, guardV_ff, guardV_tf, guardV_ft, guardV_u, apick_t, apick_f, exV_exit, exV_ret, lookE_same, joinK_eq, seqA_n, seqA_e, seqA_r, e_add, e_sub, e_mul, e_eql, e_neq, e_lss, e_leq, e_gtr, e_geq, e_conv, e_not, e_neg, and_guard, or_guard]
  · simp only [box_rv, o_box, o_0, o_1, c, ld_rv, span_Has_call, hH, hb, Bool.false_eq_true, if_false, n_bind, n_map, getL_0, getL_1, getL_2, getL_3, getL_4, getL_5, getL_6, getL_7, getL_8, getL_9, getL_10, getL_11, getL_12, condV_t, condV_f, guardV_tt, guardV_ff, guardV_tf, guardV_ft, guardV_u, apick_t, apick_f, exV_exit, exV_ret, lookE_same, joinK_eq, seqA_n, seqA_e, seqA_r, e_add, e_sub, e_mul, e_eql, e_neq, e_lss, e_leq, e_gtr, e_geq, e_conv, e_not, e_neg, and_guard, or_guard]
def ndV (f : Bool) (p k q b : Value) : Value := .agg #[.bool f, p, k, q, b]
def leafs (p k q b : Value) : Prop := isLeaf p = true ∧ isLeaf k = true ∧ isLeaf q = true ∧ isLeaf b = true
theorem nd_box (f : Bool) (p k q b : Value) (h : leafs p k q b) : lbox (ndV f p k q b) = some (ndV f p k q b) := by
  obtain ⟨h1, h2, h3, h4⟩ := h
  unfold lbox ndV
  rw [if_pos (by simp only [cellsV, List.all_cons, h1, h2, h3, h4, List.all_nil]; rfl)]
  rfl
theorem nd_3 (f : Bool) (p k q b : Value) (hq : isLeaf q = true) : lload false 1 (.pointer (some ⟨0, 3, none⟩)) (ndV f p k q b) = some q := rfl
theorem bounds_run {R : Caller} {f : Bool} {p k q b : Value} {s : St} {ps : List BL} (h : listOf strC q s = some ps) (hlf : leafs p k q b) (hl : ps.length < 140737488355328) {i : Nat} (hi : i ≤ ps.length) : node_bounds R (ndV f p k q b) (.int .i64 (i : Int)) s = some (rv (rgI ps i), s) := by
  have hret : ∀ r, retV [rv r] s = some (rv r, s) := fun r => ret1 rfl
  have hq := hlf.2.2.1
  have hbx := nd_box f p k q b hlf
  have hj1 : ∀ lo, lo = lowP ps i → node_bounds.j1 R [.int .i64 (i : Int), lptr, lptr, lptr, ndV f p k q b, rv ([], []), rv (lo, [])] s = some (rv (rgI ps i), s) := fun lo hlo => by
    subst hlo
    unfold node_bounds.j1
    by_cases c : i < ps.length
    · have h1 : decide ((i : Int) < ((ps.length : Nat) : Int)) = true := by simp; omega
      obtain ⟨a, h2, h3⟩ := str_at h c
      have hget : ps[i] = ps.getD i [] := by simp [List.getD_eq_getElem?_getD, c]
      simp only [p_3, nd_3 f p k q b hq, list_len h, h1, h2, h3, p_1, st_1, node_bounds.j0, ld_rv, st_rv, hret, n_bind, n_map, getL_0, getL_1, getL_2, getL_3, getL_4, getL_5, getL_6, getL_7, getL_8, getL_9, getL_10, getL_11, getL_12, condV_t, condV_f, guardV_tt, guardV_ff, guardV_tf, guardV_ft, guardV_u, apick_t, apick_f, exV_exit, exV_ret, lookE_same, joinK_eq, seqA_n, seqA_e, seqA_r, e_add, e_sub, e_mul, e_eql, e_neq, e_lss, e_leq, e_gtr, e_geq, e_conv, e_not, e_neg, and_guard, or_guard]
      rw [hget]
      rfl
    · have h1 : decide ((i : Int) < ((ps.length : Nat) : Int)) = false := by simp; omega
      have hget : ps.getD i [] = [] := by simp [List.getD_eq_getElem?_getD, List.getElem?_eq_none (Nat.le_of_not_lt c)]
      simp only [p_3, nd_3 f p k q b hq, list_len h, h1, node_bounds.j0, ld_rv, st_rv, hret, n_bind, n_map, getL_0, getL_1, getL_2, getL_3, getL_4, getL_5, getL_6, getL_7, getL_8, getL_9, getL_10, getL_11, getL_12, condV_t, condV_f, guardV_tt, guardV_ff, guardV_tf, guardV_ft, guardV_u, apick_t, apick_f, exV_exit, exV_ret, lookE_same, joinK_eq, seqA_n, seqA_e, seqA_r, e_add, e_sub, e_mul, e_eql, e_neq, e_lss, e_leq, e_gtr, e_geq, e_conv, e_not, e_neg, and_guard, or_guard]
      unfold rgI
      rw [hget]
  unfold node_bounds
  cases i with
  | zero =>
    have c3 : decide (((0 : Nat) : Int) > 0) = false := rfl
    simp only [hbx, c3, nil_sv, z_rv2, n_bind, n_map, getL_0, getL_1, getL_2, getL_3, getL_4, getL_5, getL_6, getL_7, getL_8, getL_9, getL_10, getL_11, getL_12, condV_t, condV_f, guardV_tt, guardV_ff, guardV_tf, guardV_ft, guardV_u, apick_t, apick_f, exV_exit, exV_ret, lookE_same, joinK_eq, seqA_n, seqA_e, seqA_r, e_add, e_sub, e_mul, e_eql, e_neq, e_lss, e_leq, e_gtr, e_geq, e_conv, e_not, e_neg, and_guard, or_guard]
    exact hj1 [] rfl
  | succ j =>
    have c3 : decide (((j + 1 : Nat) : Int) > 0) = true := decide_eq_true (by omega)
    have hj : j < ps.length := by omega
    obtain ⟨a, f1, f2⟩ := str_at h hj
    have hd1 : IntKind.wrap .i64 (((j + 1 : Nat) : Int) - 1) = ((j : Nat) : Int) := by rw [wrap_i64 (by omega) (by omega)]; omega
    have hs0 : lstore 1 lptr (sv ps[j]) (rv ([], [])) = some (rv (ps[j], [])) := rfl
    simp only [hbx, nd_3 f p k q b hq, c3, nil_sv, z_rv2, hd1, f1, f2, hs0, n_bind, n_map, getL_0, getL_1, getL_2, getL_3, getL_4, getL_5, getL_6, getL_7, getL_8, getL_9, getL_10, getL_11, getL_12, condV_t, condV_f, guardV_tt, guardV_ff, guardV_tf, guardV_ft, guardV_u, apick_t, apick_f, exV_exit, exV_ret, lookE_same, joinK_eq, seqA_n, seqA_e, seqA_r, e_add, e_sub, e_mul, e_eql, e_neq, e_lss, e_leq, e_gtr, e_geq, e_conv, e_not, e_neg, and_guard, or_guard]
    exact hj1 _ (by simp [lowP, List.getD_eq_getElem?_getD, hj])

end Go.Proofs.Ytamaapapaiopiaa.Ab

/- A function of no arguments, run by the kernel on an empty heap. -/
namespace Go.Proofs.Ytamaapapaiopiaa.Ab
open Go

theorem Sim.empty (w : World) : Sim w.heap.size (fun _ => none) [] w where
  dom b x h := by cases h
  row b n cells st h := by simp at h
  map b es clock h := by simp at h
  excl a b h := by simp [ownB] at h
  size := Nat.le_refl _
  loc b n cells st h := by simp at h

def saysTrue (r : Option (Value × St)) : Bool := match r with
  | some (.bool true, _) => true
  | _ => false
theorem closed_calls {P : Program} {lib : Lib} {hints : Hints} (hprog : progW P = true) (hlib : LibOk P lib) {f : FuncId} (hok : funcOk P f = true) {j : Nat} (h : saysTrue (fnB P lib hints j f [] ⟨[]⟩) = true)
    {s : St} {wb : Nat} {ι : Emb} {w : World} {args' : Array Value} (hs : Sim wb ι s.heap w) (ha : All2 (VRel ι) [] args'.toList) : Calls P f args' w fun e w' => ∃ v', e = .returned v' ∧ After wb ι s.heap w s.heap (.bool true) v' w' := by
  unfold saysTrue at h
  split at h
  case h_2 => cases h
  rename_i t hr
  refine (fnB_sound hprog hlib j f [] ⟨[]⟩ _ _ hr hok w.heap.size (fun _ => none) w args' (Sim.empty w) (by
    obtain ⟨l⟩ := args'
    cases l with
    | nil => trivial
    | cons => exact ha.elim)).mono fun e w' ⟨v', he, κ, h1, h2, h3⟩ => ⟨v', he, ?_⟩
  have hsame : ∀ c, c < w.heap.size → w'.heap[c]? = w.heap[c]? := fun c hc => h2.keep c hc fun a y ha => by simp [ownB] at ha
  refine ⟨ι, hs.later hsame h2.size, ⟨.refl _, fun _ _ => rfl, fun b x hx hb => absurd (hs.dom b x hx) (by omega), fun c hc _ => hsame c hc, h2.size, h2.os, h2.tape, h2.output, Nat.le_refl _, fun _ _ h => h⟩, ?_⟩
  have : v' = .bool true := h3.inv_bool
  subst this
  exact .va (.l2 (.l1 (.l0 (.bool _))))

end Go.Proofs.Ytamaapapaiopiaa.Ab

/- The chapter's examples: run by the kernel. -/
namespace Go.Proofs.Ytamaapapaiopiaa.Ab
open Go

theorem live_says : saysTrue (fnB Try.prog (libL []) hints 60 7 [] ⟨[]⟩) = true := by kernel_rfl
def gTrue : Sum := gP (G0 (.bool true))
theorem true_eq {s : St} : gTrue [] s = some (.bool true, s) := rfl
theorem live_known {l : List (FuncId × Sum)} (_ : LibOk Try.prog (libL l)) : ∀ args s v s', gTrue args s = some (v, s') → ∀ wb ι w (args' : Array Value), Sim wb ι s.heap w → All2 (VRel ι) args args'.toList → Calls Try.prog 7 args' w fun e w' => ∃ v', e = .returned v' ∧ After wb ι s.heap w s'.heap v v' w' := by
  intro args s v s' h wb ι w args' hs ha
  unfold gTrue gP G0 at h
  simp only [Option.map_eq_some_iff] at h
  obtain ⟨u, h, e⟩ := h
  cases e
  split at h
  · cases h
    exact closed_calls progOk (libOk_nil _) law13_live_ok live_says hs ha
  · cases h
end Go.Proofs.Ytamaapapaiopiaa.Ab

/- Numbers as bytes: what the program's functions do. -/
namespace Go.Proofs.Ytamaapapaiopiaa.Ab
open Go

/-- the number that bytes begin with, from the i-th byte on -/
def rdN : Nat → Nat → List UInt8 → Option (Nat × Nat × Int)
  | _, _, [] => none
  | i, n, c :: l =>
    if i = 9 ∧ 1 < c.toNat then some (0, 0, 11)
    else if c.toNat < 128 then (if c.toNat = 0 ∧ 0 < i then some (0, 0, 11) else some (n + c.toNat % 128 * 2 ^ (7 * i), i + 1, 0))
    else rdN (i + 1) (n + c.toNat % 128 * 2 ^ (7 * i)) l
def readNum (l : List UInt8) : Nat × Nat × Int := (rdN 0 0 l).getD (0, 0, 10)

theorem and127 (c : Nat) : c &&& 127 = c % 128 := Nat.and_two_pow_sub_one_eq_mod c 7
theorem or_add {n m i : Nat} (h : n < 2 ^ i) : n ||| m * 2 ^ i = n + m * 2 ^ i := by
  rw [Nat.mul_comm, Nat.or_comm, ← Nat.two_pow_add_eq_or_of_lt h, Nat.add_comm]

theorem ReadNum_loop {R : Caller} {s : St} {v : Value} {l : List UInt8} (h : bytesOf v s = some l) : ∀ (rest : List UInt8) (i n : Nat), i ≤ 9 → l.drop i = rest → n < 2 ^ (7 * i) →
    loopL (octet_ReadNum.b0 R) [.int .u64 (n : Int), v, .int .i64 ((l.length : Nat) : Int), .int .i64 (i : Int)] s =
      match rdN i n rest with
      | none => some (.exit 0, [], s)
      | some r => some (.ret, [.int .u64 (r.1 : Int), .int .i64 (r.2.1 : Int), .int .i64 r.2.2], s)
  | [], i, n, hi, hr, hn => by
    have hle : l.length ≤ i := List.drop_eq_nil_iff.1 hr
    rw [loopL_eq]
    have hc : decide ((i : Int) < ((l.length : Nat) : Int)) = false := by simp; omega
    simp only [octet_ReadNum.b0, n_bind, n_map, getL_0, getL_1, getL_2, getL_3, getL_4, getL_5, getL_6, getL_7, getL_8, getL_9, getL_10, getL_11, getL_12, condV_t, condV_f, guardV_tt, guardV_ff, guardV_tf, guardV_ft, guardV_u, apick_t, apick_f, exV_exit, exV_ret, lookE_same, joinK_eq, seqA_n, seqA_e, seqA_r, e_add, e_sub, e_mul, e_eql, e_neq, e_lss, e_leq, e_gtr, e_geq, e_conv, e_not, e_neg, and_guard, or_guard, hc]
    rfl
  | c :: rest, i, n, hi, hr, hn => by
    have hlt : i < l.length := by
      rcases Nat.lt_or_ge i l.length with hh | hh
      · exact hh
      · rw [List.drop_eq_nil_of_le hh] at hr; cases hr
    have hci : l[i] = c := by
      have := List.drop_eq_getElem_cons hlt
      rw [hr] at this
      exact (List.cons.inj this).1.symm
    have hrest : l.drop (i + 1) = rest := by
      have := List.drop_eq_getElem_cons hlt
      rw [hr] at this
      exact (List.cons.inj this).2.symm
    obtain ⟨p, hp1, hp2⟩ := bytes_at h hlt (k := .i64)
    rw [hci] at hp2
    have hcl := c.toNat_lt
    rw [loopL_eq]
    have hc : decide ((i : Int) < ((l.length : Nat) : Int)) = true := by simp; omega
    simp only [octet_ReadNum.b0, n_bind, n_map, getL_0, getL_1, getL_2, getL_3, getL_4, getL_5, getL_6, getL_7, getL_8, getL_9, getL_10, getL_11, getL_12, condV_t, condV_f, guardV_tt, guardV_ff, guardV_tf, guardV_ft, guardV_u, apick_t, apick_f, exV_exit, exV_ret, lookE_same, joinK_eq, seqA_n, seqA_e, seqA_r, e_add, e_sub, e_mul, e_eql, e_neq, e_lss, e_leq, e_gtr, e_geq, e_conv, e_not, e_neg, and_guard, or_guard, hc, hp1, hp2]
    have hw1 : IntKind.wrap .i64 (7 * (i : Int)) = ((7 * i : Nat) : Int) := by rw [wrap_i64 (by omega) (by omega)]; push_cast; rfl
    have hw2 : IntKind.wrap .i64 ((i : Int) + 1) = ((i + 1 : Nat) : Int) := by rw [wrap_i64 (by omega) (by omega)]; push_cast; rfl
    have h127 : (127 : Int) = ((127 : Nat) : Int) := rfl
    rw [h127]
    simp only [u_and (k := .u8) rfl (show c.toNat < 2 ^ IntKind.bits .u8 from hcl) (show 127 < 2 ^ IntKind.bits .u8 by decide), and127, n_bind, n_map, getL_0, getL_1, getL_2, getL_3, getL_4, getL_5, getL_6, getL_7, getL_8, getL_9, getL_10, getL_11, getL_12, condV_t, condV_f, guardV_tt, guardV_ff, guardV_tf, guardV_ft, guardV_u, apick_t, apick_f, exV_exit, exV_ret, lookE_same, joinK_eq, seqA_n, seqA_e, seqA_r, e_add, e_sub, e_mul, e_eql, e_neq, e_lss, e_leq, e_gtr, e_geq, e_conv, e_not, e_neg, and_guard, or_guard, hw1, hw2]
    by_cases h9 : i = 9 ∧ 1 < c.toNat
    · have hb : (((i : Int) == 9) && decide ((c.toNat : Int) > 1)) = true := by simp; omega
      simp only [hb, n_bind, n_map, getL_0, getL_1, getL_2, getL_3, getL_4, getL_5, getL_6, getL_7, getL_8, getL_9, getL_10, getL_11, getL_12, condV_t, condV_f, guardV_tt, guardV_ff, guardV_tf, guardV_ft, guardV_u, apick_t, apick_f, exV_exit, exV_ret, lookE_same, joinK_eq, seqA_n, seqA_e, seqA_r, e_add, e_sub, e_mul, e_eql, e_neq, e_lss, e_leq, e_gtr, e_geq, e_conv, e_not, e_neg, and_guard, or_guard, rdN, if_pos h9]
      rfl
    · have hb : (((i : Int) == 9) && decide ((c.toNat : Int) > 1)) = false := by
        rw [Bool.eq_false_iff]; simp; omega
      have hc128 : c.toNat % 128 < 128 := Nat.mod_lt _ (by omega)
      have hconv : IntKind.wrap .u64 ((c.toNat % 128 : Nat) : Int) = ((c.toNat % 128 : Nat) : Int) := uwrap rfl (Nat.lt_trans hc128 (by decide))
      have hpow : c.toNat % 128 * 2 ^ (7 * i) < 2 ^ 64 ∧ n + c.toNat % 128 * 2 ^ (7 * i) < 2 ^ (7 * (i + 1)) := by
        refine ⟨?_, ?_⟩
        · by_cases h8 : i ≤ 8
          · calc c.toNat % 128 * 2 ^ (7 * i) < 128 * 2 ^ (7 * i) := Nat.mul_lt_mul_of_pos_right hc128 (Nat.two_pow_pos _)
              _ ≤ 128 * 2 ^ 56 := Nat.mul_le_mul_left _ (Nat.pow_le_pow_right (by omega) (by omega))
              _ < 2 ^ 64 := by decide
          · have e9 : i = 9 := by omega
            have : c.toNat ≤ 1 := by omega
            subst e9
            have h1 : c.toNat % 128 ≤ 1 := by omega
            calc c.toNat % 128 * 2 ^ (7 * 9) ≤ 1 * 2 ^ (7 * 9) := Nat.mul_le_mul_right _ h1
              _ < 2 ^ 64 := by decide
        · have e : 2 ^ (7 * (i + 1)) = 128 * 2 ^ (7 * i) := by rw [show 7 * (i + 1) = 7 + 7 * i by omega, Nat.pow_add]
          rw [e]
          have : (c.toNat % 128 + 1) * 2 ^ (7 * i) ≤ 128 * 2 ^ (7 * i) := Nat.mul_le_mul_right _ (by omega)
          rw [Nat.add_mul] at this
          omega
      have hshl : ∀ t ox oy, abin Try.prog .shl t ox oy (.int .u64 ((c.toNat % 128 : Nat) : Int)) (.int .i64 ((7 * i : Nat) : Int)) = some (.int .u64 ((c.toNat % 128 * 2 ^ (7 * i) : Nat) : Int)) := fun t ox oy => by
        rw [u_shl rfl, show c.toNat % 128 * 2 ^ (7 * i) % 2 ^ IntKind.bits .u64 = c.toNat % 128 * 2 ^ (7 * i) from Nat.mod_eq_of_lt hpow.1]
      have hn64 : n < 2 ^ IntKind.bits .u64 := Nat.lt_of_lt_of_le hn (Nat.pow_le_pow_right (by omega) (show 7 * i ≤ 64 by omega))
      have hor : ∀ t ox oy, abin Try.prog .or t ox oy (.int .u64 (n : Int)) (.int .u64 ((c.toNat % 128 * 2 ^ (7 * i) : Nat) : Int)) = some (.int .u64 ((n + c.toNat % 128 * 2 ^ (7 * i) : Nat) : Int)) := fun t ox oy => by
        rw [u_or rfl hn64 hpow.1, or_add hn]
      have hlt128 : decide ((c.toNat : Int) < 128) = decide (c.toNat < 128) := decide_eq_decide.2 (by omega)
      simp only [hb, n_bind, n_map, getL_0, getL_1, getL_2, getL_3, getL_4, getL_5, getL_6, getL_7, getL_8, getL_9, getL_10, getL_11, getL_12, condV_t, condV_f, guardV_tt, guardV_ff, guardV_tf, guardV_ft, guardV_u, apick_t, apick_f, exV_exit, exV_ret, lookE_same, joinK_eq, seqA_n, seqA_e, seqA_r, e_add, e_sub, e_mul, e_eql, e_neq, e_lss, e_leq, e_gtr, e_geq, e_conv, e_not, e_neg, and_guard, or_guard, hconv, hshl, hor, hlt128]
      rw [rdN, if_neg h9]
      by_cases h1 : c.toNat < 128
      · simp only [decide_eq_true h1, n_bind, n_map, getL_0, getL_1, getL_2, getL_3, getL_4, getL_5, getL_6, getL_7, getL_8, getL_9, getL_10, getL_11, getL_12, condV_t, condV_f, guardV_tt, guardV_ff, guardV_tf, guardV_ft, guardV_u, apick_t, apick_f, exV_exit, exV_ret, lookE_same, joinK_eq, seqA_n, seqA_e, seqA_r, e_add, e_sub, e_mul, e_eql, e_neq, e_lss, e_leq, e_gtr, e_geq, e_conv, e_not, e_neg, and_guard, or_guard, if_pos h1]
        by_cases h2 : c.toNat = 0 ∧ 0 < i
        · have hb2 : (((c.toNat : Int) == 0) && decide ((i : Int) > 0)) = true := by simp; omega
          simp only [hb2, n_bind, n_map, getL_0, getL_1, getL_2, getL_3, getL_4, getL_5, getL_6, getL_7, getL_8, getL_9, getL_10, getL_11, getL_12, condV_t, condV_f, guardV_tt, guardV_ff, guardV_tf, guardV_ft, guardV_u, apick_t, apick_f, exV_exit, exV_ret, lookE_same, joinK_eq, seqA_n, seqA_e, seqA_r, e_add, e_sub, e_mul, e_eql, e_neq, e_lss, e_leq, e_gtr, e_geq, e_conv, e_not, e_neg, and_guard, or_guard, if_pos h2]
          rfl
        · have hb2 : (((c.toNat : Int) == 0) && decide ((i : Int) > 0)) = false := by
            rw [Bool.eq_false_iff]; simp; omega
          simp only [hb2, n_bind, n_map, getL_0, getL_1, getL_2, getL_3, getL_4, getL_5, getL_6, getL_7, getL_8, getL_9, getL_10, getL_11, getL_12, condV_t, condV_f, guardV_tt, guardV_ff, guardV_tf, guardV_ft, guardV_u, apick_t, apick_f, exV_exit, exV_ret, lookE_same, joinK_eq, seqA_n, seqA_e, seqA_r, e_add, e_sub, e_mul, e_eql, e_neq, e_lss, e_leq, e_gtr, e_geq, e_conv, e_not, e_neg, and_guard, or_guard, if_neg h2]
      · simp only [decide_eq_false h1, n_bind, n_map, getL_0, getL_1, getL_2, getL_3, getL_4, getL_5, getL_6, getL_7, getL_8, getL_9, getL_10, getL_11, getL_12, condV_t, condV_f, guardV_tt, guardV_ff, guardV_tf, guardV_ft, guardV_u, apick_t, apick_f, exV_exit, exV_ret, lookE_same, joinK_eq, seqA_n, seqA_e, seqA_r, e_add, e_sub, e_mul, e_eql, e_neq, e_lss, e_leq, e_gtr, e_geq, e_conv, e_not, e_neg, and_guard, or_guard, if_neg h1]
        by_cases h8 : i ≤ 8
        · exact ReadNum_loop h rest (i + 1) _ (by omega) hrest hpow.2
        · omega

theorem ReadNum_run {R : Caller} {s : St} {v : Value} {l : List UInt8} (h : bytesOf v s = some l) : octet_ReadNum R v s = some (.tuple #[.int .u64 ((readNum l).1 : Int), .int .i64 ((readNum l).2.1 : Int), .int .i64 (readNum l).2.2], s) := by
  have := ReadNum_loop (R := R) h l 0 0 (by omega) rfl (by simp)
  unfold octet_ReadNum readNum
  simp only [bytes_len h, n_bind, n_map, getL_0, getL_1, getL_2, getL_3, getL_4, getL_5, getL_6, getL_7, getL_8, getL_9, getL_10, getL_11, getL_12, condV_t, condV_f, guardV_tt, guardV_ff, guardV_tf, guardV_ft, guardV_u, apick_t, apick_f, exV_exit, exV_ret, lookE_same, joinK_eq, seqA_n, seqA_e, seqA_r, e_add, e_sub, e_mul, e_eql, e_neq, e_lss, e_leq, e_gtr, e_geq, e_conv, e_not, e_neg, and_guard, or_guard]
  rw [show (0 : Int) = ((0 : Nat) : Int) from rfl, this]
  cases rdN 0 0 l with
  | none => rfl
  | some r => rfl

/-! ### A number's bytes -/
def encF : Nat → Nat → List UInt8
  | 0, _ => []
  | k + 1, n => if n < 128 then [UInt8.ofNat n] else UInt8.ofNat (n % 128 + 128) :: encF k (n / 128)
def enc (n : Nat) : List UInt8 := encF 10 n
theorem encF_len : ∀ (k n : Nat), (encF k n).length ≤ k
  | 0, _ => by simp [encF]
  | k + 1, n => by
    simp only [encF]
    split
    · simp
    · simp [encF_len k (n / 128)]
theorem encF_ne {k n : Nat} : encF (k + 1) n ≠ [] := by
  simp only [encF]
  split <;> simp
theorem enc_ne {n : Nat} : enc n ≠ [] := encF_ne
theorem enc_len {n : Nat} : (enc n).length ≤ 10 := encF_len 10 n
theorem ofNat_toNat {n : Nat} (h : n < 256) : ((UInt8.ofNat n).toNat : Nat) = n := by simp; omega
theorem bv_one {n : Nat} (h : n < 256) : bv [UInt8.ofNat n] = [.int .u8 ((n : Nat) : Int)] := by
  simp only [bv, List.map_cons, List.map_nil, ofNat_toNat h]
theorem or128 (n : Nat) : n % 256 ||| 128 = n % 128 + 128 := by
  have h : n % 256 = n % 128 + 128 * (n / 128 % 2) := by omega
  rw [h]
  rcases Nat.mod_two_eq_zero_or_one (n / 128) with e | e
  · rw [e, Nat.mul_zero, Nat.add_zero]
    have := or_add (n := n % 128) (m := 1) (i := 7) (Nat.mod_lt _ (by decide))
    simpa using this
  · rw [e, Nat.mul_one]
    have := or_add (n := n % 128) (m := 1) (i := 7) (Nat.mod_lt _ (by decide))
    have h2 : n % 128 + 128 = n % 128 ||| 128 := by simpa using this.symm
    rw [h2, Nat.or_assoc, Nat.or_self]

theorem Num_loop {R : Caller} {N : Nat} : ∀ (k n : Nat) (acc : List UInt8) (s : St) (out : Value), n < 128 ^ (k + 1) → n < 2 ^ 64 → acc.length + k ≤ 100 → Own N 1 s out (bv acc) → N ≤ s.heap.length →
    ∃ (m : Nat) (out' : Value) (s' : St) (pre : List UInt8), loopL (octet_Num.b0 R) [.int .u64 (n : Int), out] s = some (.exit 0, [.int .u64 (m : Int), out'], s') ∧ m < 128 ∧ Own N 1 s' out' (bv (acc ++ pre)) ∧ encF (k + 1) n = pre ++ [UInt8.ofNat m] ∧ Ext N s s' ∧ N ≤ s'.heap.length ∧ pre.length ≤ k
  | 0, n, acc, s, out, h1, h2, h3, h4, h5 => by
    rw [loopL_eq]
    have hc : decide ((n : Int) ≥ 128) = false := by simp; omega
    simp only [octet_Num.b0, n_bind, n_map, getL_0, getL_1, getL_2, getL_3, getL_4, getL_5, getL_6, getL_7, getL_8, getL_9, getL_10, getL_11, getL_12, condV_t, condV_f, guardV_tt, guardV_ff, guardV_tf, guardV_ft, guardV_u, apick_t, apick_f, exV_exit, exV_ret, lookE_same, joinK_eq, seqA_n, seqA_e, seqA_r, e_add, e_sub, e_mul, e_eql, e_neq, e_lss, e_leq, e_gtr, e_geq, e_conv, e_not, e_neg, and_guard, or_guard, hc]
    exact ⟨n, out, s, [], rfl, by simpa using h1, by simpa using h4, by simp [encF]; omega, .refl _ _, h5, by simp⟩
  | k + 1, n, acc, s, out, h1, h2, h3, h4, h5 => by
    rw [loopL_eq]
    by_cases hn : n < 128
    · have hc : decide ((n : Int) ≥ 128) = false := by simp; omega
      simp only [octet_Num.b0, n_bind, n_map, getL_0, getL_1, getL_2, getL_3, getL_4, getL_5, getL_6, getL_7, getL_8, getL_9, getL_10, getL_11, getL_12, condV_t, condV_f, guardV_tt, guardV_ff, guardV_tf, guardV_ft, guardV_u, apick_t, apick_f, exV_exit, exV_ret, lookE_same, joinK_eq, seqA_n, seqA_e, seqA_r, e_add, e_sub, e_mul, e_eql, e_neq, e_lss, e_leq, e_gtr, e_geq, e_conv, e_not, e_neg, and_guard, or_guard, hc]
      exact ⟨n, out, s, [], rfl, hn, by simpa using h4, by rw [encF, if_pos hn]; rfl, .refl _ _, h5, by simp⟩
    · have hc : decide ((n : Int) ≥ 128) = true := by simp; omega
      have hu : ∀ t ox oy, abin Try.prog .or t ox oy (.int .u8 ((n % 256 : Nat) : Int)) (.int .u8 (128 : Int)) = some (.int .u8 ((n % 128 + 128 : Nat) : Int)) := fun t ox oy => by
        rw [show (128 : Int) = ((128 : Nat) : Int) from rfl, u_or rfl (show n % 256 < 2 ^ 8 from Nat.mod_lt _ (by decide)) (show 128 < 2 ^ 8 by decide), or128]
      have hs : ∀ t ox oy, abin Try.prog .shr t ox oy (.int .u64 (n : Int)) (.int .u64 (7 : Int)) = some (.int .u64 ((n / 128 : Nat) : Int)) := fun t ox oy => by
        rw [show (7 : Int) = ((7 : Nat) : Int) from rfl, u_shr (show n < 2 ^ 64 from h2)]
      obtain ⟨r, g1, v', s', g2, g3, g4⟩ := own_add (w := 1) (z := [.int .u8 0]) (v := .int .u8 ((n % 128 + 128 : Nat) : Int)) h4 h5 (by omega) (by omega) (by omega) rfl rfl rfl rfl (by rw [bv_length]; omega)
      simp only [octet_Num.b0, n_bind, n_map, getL_0, getL_1, getL_2, getL_3, getL_4, getL_5, getL_6, getL_7, getL_8, getL_9, getL_10, getL_11, getL_12, condV_t, condV_f, guardV_tt, guardV_ff, guardV_tf, guardV_ft, guardV_u, apick_t, apick_f, exV_exit, exV_ret, lookE_same, joinK_eq, seqA_n, seqA_e, seqA_r, e_add, e_sub, e_mul, e_eql, e_neq, e_lss, e_leq, e_gtr, e_geq, e_conv, e_not, e_neg, and_guard, or_guard, hc, wrapu8, hu, g1, g2, hs]
      have h5' : N ≤ s'.heap.length := Nat.le_trans h5 g4.1
      have hacc : bv acc ++ cellsV (.int .u8 ((n % 128 + 128 : Nat) : Int)) = bv (acc ++ [UInt8.ofNat (n % 128 + 128)]) := by
        rw [bv_append, bv_one (by omega)]; rfl
      rw [hacc] at g3
      obtain ⟨m, out', s2, pre, f1, f2, f3, f4, f5, f6, f7⟩ := Num_loop k (n / 128) (acc ++ [UInt8.ofNat (n % 128 + 128)]) s' v' (by rw [Nat.pow_succ] at h1; omega) (by omega) (by simp; omega) g3 h5'
      refine ⟨m, out', s2, UInt8.ofNat (n % 128 + 128) :: pre, f1, f2, by simpa using f3, ?_, g4.trans f5, f6, by simp; omega⟩
      rw [encF, if_neg hn, f4]
      rfl

theorem Num_run {R : Caller} {n : Nat} (hn : n < 2 ^ 64) (s : St) : ∃ v s', octet_Num R (.int .u64 (n : Int)) s = some (v, s') ∧ Own s.heap.length 1 s' v (bv (enc n)) ∧ Ext s.heap.length s s' := by
  obtain ⟨m, out', s2, pre, f1, f2, f3, f4, f5, f6, f7⟩ := Num_loop (R := R) (N := s.heap.length) 9 n [] s (.slice none 0 0) (Nat.lt_of_lt_of_le hn (by decide)) hn (by simp) (Own.nil _ _ _) (Nat.le_refl _)
  obtain ⟨r, g1, v', s', g2, g3, g4⟩ := own_add (w := 1) (z := [.int .u8 0]) (v := .int .u8 ((m : Nat) : Int)) f3 f6 (by omega) (by omega) (by omega) rfl rfl rfl rfl (by rw [bv_length]; simp; omega)
  have hm : m % 256 = m := by omega
  unfold octet_Num
  simp only [f1, n_bind, n_map, getL_0, getL_1, getL_2, getL_3, getL_4, getL_5, getL_6, getL_7, getL_8, getL_9, getL_10, getL_11, getL_12, condV_t, condV_f, guardV_tt, guardV_ff, guardV_tf, guardV_ft, guardV_u, apick_t, apick_f, exV_exit, exV_ret, lookE_same, joinK_eq, seqA_n, seqA_e, seqA_r, e_add, e_sub, e_mul, e_eql, e_neq, e_lss, e_leq, e_gtr, e_geq, e_conv, e_not, e_neg, and_guard, or_guard, wrapu8, hm, g1, g2]
  have hacc : bv ([] ++ pre) ++ cellsV (.int .u8 ((m : Nat) : Int)) = bv (enc n) := by
    unfold enc
    rw [f4, List.nil_append, bv_append, bv_one (by omega)]; rfl
  rw [hacc] at g3
  refine ⟨v', s', ?_, g3, f5.trans g4⟩
  rcases g3 with ⟨rfl, _⟩ | ⟨b, len, rfl, _⟩ <;> rfl

theorem refNum_run {lib : Lib} (hl : lib 68 = none) : ∀ (k n : Nat), n < 128 ^ (k + 1) → n < 2 ^ 64 → k ≤ 50 → ∀ (s : St), ∃ v s', run Try.prog lib hints 68 [.int .u64 (n : Int)] s = some (v, s') ∧ Own s.heap.length 1 s' v (bv (encF (k + 1) n)) ∧ Ext s.heap.length s s' := by
  intro k
  induction k with
  | zero =>
    intro n h1 h2 _ s
    have hn : n < 128 := by simpa using h1
    have hc : decide ((n : Int) < 128) = true := by simp; omega
    have hm : n % 256 = n := by omega
    have hb : abuildSl 1 [.int .u8 0] 1 [(0, .int .u8 ((n : Nat) : Int))] s = some (newBytes [UInt8.ofNat n] s) := by
      unfold newBytes
      rw [bv_one (by omega)]
      rfl
    refine ⟨_, _, ref01_Num_of hl (r := newBytes [UInt8.ofNat n] s) ?_, ?_, newBytes_ext (Nat.le_refl _)⟩
    · unfold ref01_Num
      simp only [n_bind, n_map, getL_0, getL_1, getL_2, getL_3, getL_4, getL_5, getL_6, getL_7, getL_8, getL_9, getL_10, getL_11, getL_12, condV_t, condV_f, guardV_tt, guardV_ff, guardV_tf, guardV_ft, guardV_u, apick_t, apick_f, exV_exit, exV_ret, lookE_same, joinK_eq, seqA_n, seqA_e, seqA_r, e_add, e_sub, e_mul, e_eql, e_neq, e_lss, e_leq, e_gtr, e_geq, e_conv, e_not, e_neg, and_guard, or_guard, hc, wrapu8, hm, hb]
      rfl
    · rw [encF, if_pos hn]
      exact newBytes_own (Nat.le_refl _) (by simp)
  | succ k ih =>
    intro n h1 h2 hk s
    by_cases hn : n < 128
    · have hc : decide ((n : Int) < 128) = true := by simp; omega
      have hm : n % 256 = n := by omega
      have hb : abuildSl 1 [.int .u8 0] 1 [(0, .int .u8 ((n : Nat) : Int))] s = some (newBytes [UInt8.ofNat n] s) := by
        unfold newBytes
        rw [bv_one (by omega)]
        rfl
      refine ⟨_, _, ref01_Num_of hl (r := newBytes [UInt8.ofNat n] s) ?_, ?_, newBytes_ext (Nat.le_refl _)⟩
      · unfold ref01_Num
        simp only [n_bind, n_map, getL_0, getL_1, getL_2, getL_3, getL_4, getL_5, getL_6, getL_7, getL_8, getL_9, getL_10, getL_11, getL_12, condV_t, condV_f, guardV_tt, guardV_ff, guardV_tf, guardV_ft, guardV_u, apick_t, apick_f, exV_exit, exV_ret, lookE_same, joinK_eq, seqA_n, seqA_e, seqA_r, e_add, e_sub, e_mul, e_eql, e_neq, e_lss, e_leq, e_gtr, e_geq, e_conv, e_not, e_neg, and_guard, or_guard, hc, wrapu8, hm, hb]
        rfl
      · rw [encF, if_pos hn]
        exact newBytes_own (Nat.le_refl _) (by simp)
    · have hc : decide ((n : Int) < 128) = false := by simp; omega
      have hrem : ∀ t ox oy, abin Try.prog .rem t ox oy (.int .u64 (n : Int)) (.int .u64 (128 : Int)) = some (.int .u64 ((n % 128 : Nat) : Int)) := fun t ox oy => by
        rw [e_rem (by decide)]; rfl
      have hquo : ∀ t ox oy, abin Try.prog .quo t ox oy (.int .u64 (n : Int)) (.int .u64 (128 : Int)) = some (.int .u64 ((n / 128 : Nat) : Int)) := fun t ox oy => by
        rw [e_quo (by decide)]
        have : (n : Int).tdiv 128 = ((n / 128 : Nat) : Int) := rfl
        rw [this, wrapu64, Nat.mod_eq_of_lt (by omega)]
      have hm : n % 128 % 256 = n % 128 := by omega
      have hw : IntKind.wrap .u8 (((n % 128 : Nat) : Int) + 128) = ((n % 128 + 128 : Nat) : Int) := by
        rw [show (((n % 128 : Nat) : Int) + 128) = ((n % 128 + 128 : Nat) : Int) by omega, wrapu8, Nat.mod_eq_of_lt (by omega)]
      have hb : abuildSl 1 [.int .u8 0] 1 [(0, .int .u8 ((n % 128 + 128 : Nat) : Int))] s = some (newBytes [UInt8.ofNat (n % 128 + 128)] s) := by
        unfold newBytes
        rw [bv_one (by omega)]
        rfl
      obtain ⟨v, s', g1, g2, g3⟩ := ih (n / 128) (by rw [Nat.pow_succ] at h1; omega) (by omega) (by omega) (newBytes [UInt8.ofNat (n % 128 + 128)] s).2
      have hO : Own s.heap.length 1 s' (newBytes [UInt8.ofNat (n % 128 + 128)] s).1 (bv [UInt8.ofNat (n % 128 + 128)]) :=
        .inr ⟨s.heap.length, 1, rfl, Nat.le_refl _, by rw [g3.2 _ (by simp [newBytes, St.push])]; exact push_get, by simp [bv], by omega⟩
      have hle : s.heap.length ≤ s'.heap.length := Nat.le_trans (by simp [newBytes, St.push]) g3.1
      have hlen := encF_len (k + 1) (n / 128)
      obtain ⟨v2, s2, f1, f2, f3⟩ := own_append (w := 1) hO hle (by omega) (by omega) (y := v) (m := (encF (k + 1) (n / 128)).length) (by
        rcases g2 with ⟨rfl, e⟩ | ⟨b, len, rfl, _, _, e, _⟩
        · rw [bv_inj (m := []) e]; rfl
        · rw [bv_length, Nat.mul_one] at e; rw [e]; rfl) (elems_of g2.cells) (by rw [bv_length, Nat.mul_one]) (by rw [bv_length, bv_length]; simp; omega)
      refine ⟨v2, s2, ref01_Num_of hl (r := (v2, s2)) ?_, ?_, ((newBytes_ext (Nat.le_refl _)).trans (g3.less (by simp [newBytes, St.push]))).trans f3⟩
      · unfold ref01_Num
        simp only [n_bind, n_map, getL_0, getL_1, getL_2, getL_3, getL_4, getL_5, getL_6, getL_7, getL_8, getL_9, getL_10, getL_11, getL_12, condV_t, condV_f, guardV_tt, guardV_ff, guardV_tf, guardV_ft, guardV_u, apick_t, apick_f, exV_exit, exV_ret, lookE_same, joinK_eq, seqA_n, seqA_e, seqA_r, e_add, e_sub, e_mul, e_eql, e_neq, e_lss, e_leq, e_gtr, e_geq, e_conv, e_not, e_neg, and_guard, or_guard, hc, hrem, wrapu8, hm, hw, hb, hquo, ref01_Num_call, g1, f1]
        rcases f2 with ⟨rfl, _⟩ | ⟨b, len, rfl, _⟩ <;> rfl
      · rw [encF, if_neg hn, ← List.singleton_append, bv_append]
        exact f2

end Go.Proofs.Ytamaapapaiopiaa.Ab

/- Texts, numbers in four bytes, and what is known of the octet functions. -/
namespace Go.Proofs.Ytamaapapaiopiaa.Ab
open Go

/-! ### Numbers: as they are known -/
def tup3 (n k : Nat) (e : Int) : Value := .tuple #[.int .u64 (n : Int), .int .i64 (k : Int), .int .i64 e]
def gReadNum : Sum := fun xs s => (match xs with | [v] => (bytesOf v s).map fun l => tup3 (readNum l).1 (readNum l).2.1 (readNum l).2.2 | _ => none).map fun v => (v, s)
def gNum : Sum := fun xs s => (match xs with | [.int .u64 a] => if 0 ≤ a ∧ a < 18446744073709551616 then some (enc a.toNat) else none | _ => none).map fun l => newBytes l s

theorem gReadNum_eq {v : Value} {s : St} {l : List UInt8} (h : bytesOf v s = some l) : gReadNum [v] s = some (tup3 (readNum l).1 (readNum l).2.1 (readNum l).2.2, s) := by
  simp only [gReadNum, h, Option.map_some]
theorem gNum_eq {n : Nat} {s : St} (h : n < 18446744073709551616) : gNum [.int .u64 (n : Int)] s = some (newBytes (enc n) s) := by
  simp only [gNum]
  rw [if_pos (by omega)]
  rfl

theorem ReadNum_sum {lib : Lib} (hl : lib 74 = none) : SumOk Try.prog lib hints 74 gReadNum :=
  SumOk.plain (G := fun xs s => match xs with | [v] => (bytesOf v s).map fun l => tup3 (readNum l).1 (readNum l).2.1 (readNum l).2.2 | _ => none) fun xs s v h => by
    split at h
    · simp only [Option.map_eq_some_iff] at h
      obtain ⟨l, hl2, rfl⟩ := h
      exact ⟨rfl, _, octet_ReadNum_of hl (ReadNum_run (by rw [bytesOf_frz]; exact hl2))⟩
    · cases h
theorem Num_sum {lib : Lib} (hl : lib 84 = none) : SumOk Try.prog lib hints 84 gNum :=
  SumOk.bytes (G := fun xs _ => match xs with | [.int .u64 a] => if 0 ≤ a ∧ a < 18446744073709551616 then some (enc a.toNat) else none | _ => none) fun xs s l h => by
    split at h
    · rename_i a
      split at h
      · rename_i ha
        cases h
        obtain ⟨n, rfl⟩ := Int.eq_ofNat_of_zero_le ha.1
        obtain ⟨v, s', h1, h2, _⟩ := Num_run (R := run Try.prog lib hints) (n := n) (by omega) (frzS s)
        rw [frzS_len] at h2
        exact ⟨enc_ne, v, s', octet_Num_of hl h1, h2⟩
      · cases h
    · cases h
theorem refNum_sum {lib : Lib} (hl : lib 68 = none) : SumOk Try.prog lib hints 68 gNum :=
  SumOk.bytes (G := fun xs _ => match xs with | [.int .u64 a] => if 0 ≤ a ∧ a < 18446744073709551616 then some (enc a.toNat) else none | _ => none) fun xs s l h => by
    split at h
    · rename_i a
      split at h
      · rename_i ha
        cases h
        obtain ⟨n, rfl⟩ := Int.eq_ofNat_of_zero_le ha.1
        have hn : n < 18446744073709551616 := by omega
        obtain ⟨v, s', h1, h2, _⟩ := refNum_run hl 9 n (Nat.lt_of_lt_of_le hn (by decide)) hn (by omega) (frzS s)
        rw [frzS_len] at h2
        exact ⟨enc_ne, v, s', h1, h2⟩
      · cases h
    · cases h

/-! ### The reference's reading of numbers -/
theorem rdN_k : ∀ {l : List UInt8} {i n : Nat} {r : Nat × Nat × Int}, rdN i n l = some r → (r.2.2 = 0 ∨ r.2.2 = 11) ∧ (r.2.2 ≠ 0 → r.1 = 0 ∧ r.2.1 = 0) ∧ (r.2.2 = 0 → i < r.2.1 ∧ r.2.1 ≤ i + l.length)
  | [], i, n, r, h => by simp [rdN] at h
  | c :: l, i, n, r, h => by
    simp only [rdN] at h
    split at h
    · cases h; simp
    · split at h
      · split at h
        · cases h; simp
        · cases h; simp
      · obtain ⟨h1, h2, h3⟩ := rdN_k h
        refine ⟨h1, h2, fun e => ?_⟩
        have := h3 e
        simp
        omega
theorem readNum_k (l : List UInt8) : (readNum l).2.2 = 0 → 0 < (readNum l).2.1 ∧ (readNum l).2.1 ≤ l.length := by
  unfold readNum
  cases h : rdN 0 0 l with
  | none => intro e; simp at e
  | some r => intro e; have := (rdN_k h).2.2 e; simp at this ⊢; omega

/-- the reference's: the first byte below 128, of ten -/
def findLow : Nat → List UInt8 → Option Nat
  | 0, _ => none
  | _ + 1, [] => none
  | k + 1, c :: l => if c.toNat < 128 then some 0 else (findLow k l).map (· + 1)
def horner (l : List UInt8) (n : Nat) : Nat := l.foldr (fun c n => (n * 128 + c.toNat % 128) % 18446744073709551616) n
def refRead (l : List UInt8) : Nat × Nat × Int :=
  match findLow 10 l with
  | some i => if enc (horner (l.take (i + 1)) 0) = l.take (i + 1) then (horner (l.take (i + 1)) 0, i + 1, 0) else (0, 0, 11)
  | none => if 10 ≤ l.length then (0, 0, 11) else (0, 0, 10)
theorem horner_lt {l : List UInt8} {n : Nat} (h : n < 18446744073709551616) : horner l n < 18446744073709551616 := by
  cases l with
  | nil => exact h
  | cons => exact Nat.mod_lt _ (by decide)

theorem refReadNum_inner {R : Caller} {s : St} {v : Value} {l : List UInt8} (h : bytesOf v s = some l) (i : Value) : ∀ (j n : Nat), j ≤ l.length → j ≤ 100 → n < 18446744073709551616 →
    loopL (ref01_ReadNum.b1 R) [v, i, .int .u64 (n : Int), .int .i64 ((j : Int) - 1)] s = some (.exit 2, [v, i, .int .u64 ((horner (l.take j) n : Nat) : Int)], s)
  | 0, n, hj, _, hn => by
    rw [loopL_eq]
    have hc : decide (((0 : Nat) : Int) - 1 ≥ 0) = false := by simp
    simp only [ref01_ReadNum.b1, n_bind, n_map, getL_0, getL_1, getL_2, getL_3, getL_4, getL_5, getL_6, getL_7, getL_8, getL_9, getL_10, getL_11, getL_12, condV_t, condV_f, guardV_tt, guardV_ff, guardV_tf, guardV_ft, guardV_u, apick_t, apick_f, exV_exit, exV_ret, lookE_same, joinK_eq, seqA_n, seqA_e, seqA_r, e_add, e_sub, e_mul, e_eql, e_neq, e_lss, e_leq, e_gtr, e_geq, e_conv, e_not, e_neg, and_guard, or_guard, hc]
    rfl
  | j + 1, n, hj, hj2, hn => by
    rw [loopL_eq]
    have e0 : (((j + 1 : Nat) : Int) - 1) = (j : Int) := by omega
    rw [e0]
    have hc : decide ((j : Int) ≥ 0) = true := by simp
    obtain ⟨p, hp1, hp2⟩ := bytes_at h (i := j) (by omega) (k := .i64)
    have hrem : ∀ t ox oy, abin Try.prog .rem t ox oy (.int .u8 ((l[j].toNat : Nat) : Int)) (.int .u8 (128 : Int)) = some (.int .u8 ((l[j].toNat % 128 : Nat) : Int)) := fun t ox oy => by
      rw [e_rem (by decide)]; rfl
    have hmul : IntKind.wrap .u64 ((n : Int) * (128 : Int)) = ((n * 128 % 18446744073709551616 : Nat) : Int) := by
      rw [show (n : Int) * (128 : Int) = ((n * 128 : Nat) : Int) by omega, wrapu64]
    have hcv : IntKind.wrap .u64 ((l[j].toNat % 128 : Nat) : Int) = ((l[j].toNat % 128 : Nat) : Int) := by rw [wrapu64, Nat.mod_eq_of_lt (by omega)]
    have hadd : IntKind.wrap .u64 (((n * 128 % 18446744073709551616 : Nat) : Int) + ((l[j].toNat % 128 : Nat) : Int)) = (((n * 128 + l[j].toNat % 128) % 18446744073709551616 : Nat) : Int) := by
      rw [show ((n * 128 % 18446744073709551616 : Nat) : Int) + ((l[j].toNat % 128 : Nat) : Int) = ((n * 128 % 18446744073709551616 + l[j].toNat % 128 : Nat) : Int) by omega, wrapu64]
      congr 1
      omega
    have hsub : IntKind.wrap .i64 ((j : Int) - 1) = (j : Int) - 1 := wrap_i64 (by omega) (by omega)
    simp only [ref01_ReadNum.b1, n_bind, n_map, getL_0, getL_1, getL_2, getL_3, getL_4, getL_5, getL_6, getL_7, getL_8, getL_9, getL_10, getL_11, getL_12, condV_t, condV_f, guardV_tt, guardV_ff, guardV_tf, guardV_ft, guardV_u, apick_t, apick_f, exV_exit, exV_ret, lookE_same, joinK_eq, seqA_n, seqA_e, seqA_r, e_add, e_sub, e_mul, e_eql, e_neq, e_lss, e_leq, e_gtr, e_geq, e_conv, e_not, e_neg, and_guard, or_guard, hc]
    rw [hmul]
    simp only [n_bind, n_map, getL_0, getL_1, getL_2, getL_3, getL_4, getL_5, getL_6, getL_7, getL_8, getL_9, getL_10, getL_11, getL_12, condV_t, condV_f, guardV_tt, guardV_ff, guardV_tf, guardV_ft, guardV_u, apick_t, apick_f, exV_exit, exV_ret, lookE_same, joinK_eq, seqA_n, seqA_e, seqA_r, e_add, e_sub, e_mul, e_eql, e_neq, e_lss, e_leq, e_gtr, e_geq, e_conv, e_not, e_neg, and_guard, or_guard, hp1, hp2, hrem]
    rw [hcv, hadd, hsub]
    rw [refReadNum_inner h i j _ (by omega) (by omega) (Nat.mod_lt _ (by decide))]
    have ht : l.take (j + 1) = l.take j ++ [l[j]] := by rw [List.take_succ_eq_append_getElem (by omega)]
    rw [ht]
    simp only [horner, List.foldr_append, List.foldr_cons, List.foldr_nil]

theorem refReadNum_loop {R : Caller} (hR : ∀ xs s, R 68 xs s = gNum xs s) {s : St} {v : Value} {l : List UInt8} (h : bytesOf v s = some l) : ∀ (rest : List UInt8) (i : Nat), i ≤ 10 → l.drop i = rest →
    match findLow (10 - i) rest with
    | some d => ∃ s', loopL (ref01_ReadNum.b0 R) [v, .int .i64 (i : Int)] s = some (.ret, (if enc (horner (l.take (i + d + 1)) 0) = l.take (i + d + 1) then [.int .u64 ((horner (l.take (i + d + 1)) 0 : Nat) : Int), .int .i64 ((i + d + 1 : Nat) : Int), .int .i64 0] else [.int .u64 0, .int .i64 0, .int .i64 11]), s')
    | none => loopL (ref01_ReadNum.b0 R) [v, .int .i64 (i : Int)] s = some (.exit 0, [v], s) := by
  intro rest
  induction rest with
  | nil =>
    intro i hi hr
    have hle : l.length ≤ i := List.drop_eq_nil_iff.1 hr
    have : findLow (10 - i) [] = none := by cases 10 - i <;> rfl
    rw [this]
    simp only
    rw [loopL_eq]
    have hc : decide ((i : Int) < ((l.length : Nat) : Int)) = false := by simp; omega
    simp only [ref01_ReadNum.b0, n_bind, n_map, getL_0, getL_1, getL_2, getL_3, getL_4, getL_5, getL_6, getL_7, getL_8, getL_9, getL_10, getL_11, getL_12, condV_t, condV_f, guardV_tt, guardV_ff, guardV_tf, guardV_ft, guardV_u, apick_t, apick_f, exV_exit, exV_ret, lookE_same, joinK_eq, seqA_n, seqA_e, seqA_r, e_add, e_sub, e_mul, e_eql, e_neq, e_lss, e_leq, e_gtr, e_geq, e_conv, e_not, e_neg, and_guard, or_guard, bytes_len h, hc, Bool.false_and]
  | cons c rest IH =>
    intro i hi hr
    have hlt : i < l.length := by
      rcases Nat.lt_or_ge i l.length with hh | hh
      · exact hh
      · rw [List.drop_eq_nil_of_le hh] at hr; cases hr
    have hci : l[i] = c := by
      have := List.drop_eq_getElem_cons hlt
      rw [hr] at this
      exact (List.cons.inj this).1.symm
    have hrest : l.drop (i + 1) = rest := by
      have := List.drop_eq_getElem_cons hlt
      rw [hr] at this
      exact (List.cons.inj this).2.symm
    by_cases h10 : i = 10
    · subst h10
      have : findLow (10 - 10) (c :: rest) = none := rfl
      rw [this]
      simp only
      rw [loopL_eq]
      have hc : (decide (((10 : Nat) : Int) < ((l.length : Nat) : Int)) && decide (((10 : Nat) : Int) < 10)) = false := by simp
      simp only [ref01_ReadNum.b0, n_bind, n_map, getL_0, getL_1, getL_2, getL_3, getL_4, getL_5, getL_6, getL_7, getL_8, getL_9, getL_10, getL_11, getL_12, condV_t, condV_f, guardV_tt, guardV_ff, guardV_tf, guardV_ft, guardV_u, apick_t, apick_f, exV_exit, exV_ret, lookE_same, joinK_eq, seqA_n, seqA_e, seqA_r, e_add, e_sub, e_mul, e_eql, e_neq, e_lss, e_leq, e_gtr, e_geq, e_conv, e_not, e_neg, and_guard, or_guard, bytes_len h, hc]
    · obtain ⟨k, hk⟩ : ∃ k, 10 - i = k + 1 := ⟨9 - i, by omega⟩
      have hk2 : 10 - (i + 1) = k := by omega
      obtain ⟨p, hp1, hp2⟩ := bytes_at h hlt (k := .i64)
      rw [hci] at hp2
      have hcl := c.toNat_lt
      have hc : (decide ((i : Int) < ((l.length : Nat) : Int)) && decide ((i : Int) < 10)) = true := by simp; omega
      have hw2 : IntKind.wrap .i64 ((i : Int) + 1) = ((i + 1 : Nat) : Int) := by rw [wrap_i64 (by omega) (by omega)]; push_cast; rfl
      rw [hk, findLow]
      by_cases h1 : c.toNat < 128
      · have hb : decide ((c.toNat : Int) ≥ 128) = false := by simp; omega
        rw [if_pos h1]
        simp only [Nat.add_zero]
        rw [loopL_eq]
        have hin := refReadNum_inner (R := R) h (.int .i64 (i : Int)) (i + 1) 0 (by omega) (by omega) (by omega)
        rw [show (((i + 1 : Nat) : Int) - 1) = (i : Int) by omega, show (((0 : Nat) : Int)) = (0 : Int) from rfl] at hin
        have hm64 := horner_lt (l := l.take (i + 1)) (n := 0) (by decide)
        generalize horner (l.take (i + 1)) 0 = m at hin hm64 ⊢
        simp only [ref01_ReadNum.b0, n_bind, n_map, getL_0, getL_1, getL_2, getL_3, getL_4, getL_5, getL_6, getL_7, getL_8, getL_9, getL_10, getL_11, getL_12, condV_t, condV_f, guardV_tt, guardV_ff, guardV_tf, guardV_ft, guardV_u, apick_t, apick_f, exV_exit, exV_ret, lookE_same, joinK_eq, seqA_n, seqA_e, seqA_r, e_add, e_sub, e_mul, e_eql, e_neq, e_lss, e_leq, e_gtr, e_geq, e_conv, e_not, e_neg, and_guard, or_guard, bytes_len h, hc, hp1, hp2, hb]
        rw [hin]
        simp only [n_bind, n_map, getL_0, getL_1, getL_2, getL_3, getL_4, getL_5, getL_6, getL_7, getL_8, getL_9, getL_10, getL_11, getL_12, condV_t, condV_f, guardV_tt, guardV_ff, guardV_tf, guardV_ft, guardV_u, apick_t, apick_f, exV_exit, exV_ret, lookE_same, joinK_eq, seqA_n, seqA_e, seqA_r, e_add, e_sub, e_mul, e_eql, e_neq, e_lss, e_leq, e_gtr, e_geq, e_conv, e_not, e_neg, and_guard, or_guard, ref01_Num_call]
        rw [hR, gNum_eq hm64]
        simp only [n_bind, n_map, getL_0, getL_1, getL_2, getL_3, getL_4, getL_5, getL_6, getL_7, getL_8, getL_9, getL_10, getL_11, getL_12, condV_t, condV_f, guardV_tt, guardV_ff, guardV_tf, guardV_ft, guardV_u, apick_t, apick_f, exV_exit, exV_ret, lookE_same, joinK_eq, seqA_n, seqA_e, seqA_r, e_add, e_sub, e_mul, e_eql, e_neq, e_lss, e_leq, e_gtr, e_geq, e_conv, e_not, e_neg, and_guard, or_guard]
        have hE : Ext s.heap.length s (newBytes (enc m) s).2 := newBytes_ext (Nat.le_refl _)
        have hs1 := bytes_str (s := frzS (newBytes (enc m) s).2) (v := (newBytes (enc m) s).1) (by rw [bytesOf_frz]; exact newBytes_bytes)
        obtain ⟨u, hu1, hu2⟩ := bytes_slice h (lo := none) (hi := some (.int .i64 ((i + 1 : Nat) : Int))) (mx := none) (i := 0) (j := i + 1) (by simp [abound]) (by simp [abound]; omega) (by omega) (by omega) (.inl rfl)
        have hs2 := bytes_str (s := frzS (newBytes (enc m) s).2) (v := u) (by rw [bytesOf_frz]; exact hE.bytes hu2)
        simp only [quiet_new, quiet_new2, hs1, n_bind, n_map, getL_0, getL_1, getL_2, getL_3, getL_4, getL_5, getL_6, getL_7, getL_8, getL_9, getL_10, getL_11, getL_12, condV_t, condV_f, guardV_tt, guardV_ff, guardV_tf, guardV_ft, guardV_u, apick_t, apick_f, exV_exit, exV_ret, lookE_same, joinK_eq, seqA_n, seqA_e, seqA_r, e_add, e_sub, e_mul, e_eql, e_neq, e_lss, e_leq, e_gtr, e_geq, e_conv, e_not, e_neg, and_guard, or_guard, hw2, hu1, hs2]
        rw [List.drop_zero, Nat.sub_zero]
        generalize enc m = em at hE hs1 hs2 ⊢
        have hneq : ∀ t ox oy, abin Try.prog .neq t ox oy (.string ⟨em.toArray⟩) (.string ⟨(l.take (i + 1)).toArray⟩) = some (.bool (!(em == l.take (i + 1)))) := fun t ox oy => e_sneq
        simp only [hneq, n_bind, n_map, getL_0, getL_1, getL_2, getL_3, getL_4, getL_5, getL_6, getL_7, getL_8, getL_9, getL_10, getL_11, getL_12, condV_t, condV_f, guardV_tt, guardV_ff, guardV_tf, guardV_ft, guardV_u, apick_t, apick_f, exV_exit, exV_ret, lookE_same, joinK_eq, seqA_n, seqA_e, seqA_r, e_add, e_sub, e_mul, e_eql, e_neq, e_lss, e_leq, e_gtr, e_geq, e_conv, e_not, e_neg, and_guard, or_guard]
        by_cases heq : em = l.take (i + 1)
        · have hbb : (!(em == l.take (i + 1))) = false := by simp [heq]
          rw [if_pos heq]
          simp only [hbb, n_bind, n_map, getL_0, getL_1, getL_2, getL_3, getL_4, getL_5, getL_6, getL_7, getL_8, getL_9, getL_10, getL_11, getL_12, condV_t, condV_f, guardV_tt, guardV_ff, guardV_tf, guardV_ft, guardV_u, apick_t, apick_f, exV_exit, exV_ret, lookE_same, joinK_eq, seqA_n, seqA_e, seqA_r, e_add, e_sub, e_mul, e_eql, e_neq, e_lss, e_leq, e_gtr, e_geq, e_conv, e_not, e_neg, and_guard, or_guard]
          exact ⟨_, rfl⟩
        · have hbb : (!(em == l.take (i + 1))) = true := by simp [heq]
          rw [if_neg heq]
          simp only [hbb, n_bind, n_map, getL_0, getL_1, getL_2, getL_3, getL_4, getL_5, getL_6, getL_7, getL_8, getL_9, getL_10, getL_11, getL_12, condV_t, condV_f, guardV_tt, guardV_ff, guardV_tf, guardV_ft, guardV_u, apick_t, apick_f, exV_exit, exV_ret, lookE_same, joinK_eq, seqA_n, seqA_e, seqA_r, e_add, e_sub, e_mul, e_eql, e_neq, e_lss, e_leq, e_gtr, e_geq, e_conv, e_not, e_neg, and_guard, or_guard]
          exact ⟨_, rfl⟩
      · have hb : decide ((c.toNat : Int) ≥ 128) = true := by simp; omega
        rw [if_neg h1]
        have ih := IH (i + 1) (by omega) hrest
        rw [hk2] at ih
        rw [loopL_eq]
        simp only [ref01_ReadNum.b0, n_bind, n_map, getL_0, getL_1, getL_2, getL_3, getL_4, getL_5, getL_6, getL_7, getL_8, getL_9, getL_10, getL_11, getL_12, condV_t, condV_f, guardV_tt, guardV_ff, guardV_tf, guardV_ft, guardV_u, apick_t, apick_f, exV_exit, exV_ret, lookE_same, joinK_eq, seqA_n, seqA_e, seqA_r, e_add, e_sub, e_mul, e_eql, e_neq, e_lss, e_leq, e_gtr, e_geq, e_conv, e_not, e_neg, and_guard, or_guard, bytes_len h, hc, hp1, hp2, hb, hw2]
        cases hf : findLow k rest with
        | none => rw [hf] at ih; exact ih
        | some d =>
          rw [hf] at ih
          simp only [Option.map_some] at ih ⊢
          rw [show i + (d + 1) + 1 = i + 1 + d + 1 by omega]
          exact ih

theorem refReadNum_run {R : Caller} (hR : ∀ xs s, R 68 xs s = gNum xs s) {s : St} {v : Value} {l : List UInt8} (h : bytesOf v s = some l) : ∃ s', ref01_ReadNum R v s = some (tup3 (refRead l).1 (refRead l).2.1 (refRead l).2.2, s') := by
  have := refReadNum_loop hR h l 0 (by omega) rfl
  rw [Nat.sub_zero, show (((0 : Nat) : Int)) = (0 : Int) from rfl] at this
  unfold ref01_ReadNum refRead
  cases hf : findLow 10 l with
  | none =>
    rw [hf] at this
    simp only at this ⊢
    simp only [this, n_bind, n_map, getL_0, getL_1, getL_2, getL_3, getL_4, getL_5, getL_6, getL_7, getL_8, getL_9, getL_10, getL_11, getL_12, condV_t, condV_f, guardV_tt, guardV_ff, guardV_tf, guardV_ft, guardV_u, apick_t, apick_f, exV_exit, exV_ret, lookE_same, joinK_eq, seqA_n, seqA_e, seqA_r, e_add, e_sub, e_mul, e_eql, e_neq, e_lss, e_leq, e_gtr, e_geq, e_conv, e_not, e_neg, and_guard, or_guard, bytes_len h]
    by_cases h10 : 10 ≤ l.length
    · have hb : decide (((l.length : Nat) : Int) ≥ 10) = true := by simp; omega
      simp only [hb, n_bind, n_map, getL_0, getL_1, getL_2, getL_3, getL_4, getL_5, getL_6, getL_7, getL_8, getL_9, getL_10, getL_11, getL_12, condV_t, condV_f, guardV_tt, guardV_ff, guardV_tf, guardV_ft, guardV_u, apick_t, apick_f, exV_exit, exV_ret, lookE_same, joinK_eq, seqA_n, seqA_e, seqA_r, e_add, e_sub, e_mul, e_eql, e_neq, e_lss, e_leq, e_gtr, e_geq, e_conv, e_not, e_neg, and_guard, or_guard, if_pos h10]
      exact ⟨_, rfl⟩
    · have hb : decide (((l.length : Nat) : Int) ≥ 10) = false := by simp; omega
      simp only [hb, n_bind, n_map, getL_0, getL_1, getL_2, getL_3, getL_4, getL_5, getL_6, getL_7, getL_8, getL_9, getL_10, getL_11, getL_12, condV_t, condV_f, guardV_tt, guardV_ff, guardV_tf, guardV_ft, guardV_u, apick_t, apick_f, exV_exit, exV_ret, lookE_same, joinK_eq, seqA_n, seqA_e, seqA_r, e_add, e_sub, e_mul, e_eql, e_neq, e_lss, e_leq, e_gtr, e_geq, e_conv, e_not, e_neg, and_guard, or_guard, if_neg h10]
      exact ⟨_, rfl⟩
  | some d =>
    rw [hf] at this
    simp only [Nat.zero_add] at this ⊢
    obtain ⟨s', this⟩ := this
    simp only [this, n_bind, n_map, getL_0, getL_1, getL_2, getL_3, getL_4, getL_5, getL_6, getL_7, getL_8, getL_9, getL_10, getL_11, getL_12, condV_t, condV_f, guardV_tt, guardV_ff, guardV_tf, guardV_ft, guardV_u, apick_t, apick_f, exV_exit, exV_ret, lookE_same, joinK_eq, seqA_n, seqA_e, seqA_r, e_add, e_sub, e_mul, e_eql, e_neq, e_lss, e_leq, e_gtr, e_geq, e_conv, e_not, e_neg, and_guard, or_guard]
    by_cases heq : enc (horner (l.take (d + 1)) 0) = l.take (d + 1)
    · simp only [if_pos heq, n_bind, n_map, getL_0, getL_1, getL_2, getL_3, getL_4, getL_5, getL_6, getL_7, getL_8, getL_9, getL_10, getL_11, getL_12, condV_t, condV_f, guardV_tt, guardV_ff, guardV_tf, guardV_ft, guardV_u, apick_t, apick_f, exV_exit, exV_ret, lookE_same, joinK_eq, seqA_n, seqA_e, seqA_r, e_add, e_sub, e_mul, e_eql, e_neq, e_lss, e_leq, e_gtr, e_geq, e_conv, e_not, e_neg, and_guard, or_guard]
      exact ⟨_, rfl⟩
    · simp only [if_neg heq, n_bind, n_map, getL_0, getL_1, getL_2, getL_3, getL_4, getL_5, getL_6, getL_7, getL_8, getL_9, getL_10, getL_11, getL_12, condV_t, condV_f, guardV_tt, guardV_ff, guardV_tf, guardV_ft, guardV_u, apick_t, apick_f, exV_exit, exV_ret, lookE_same, joinK_eq, seqA_n, seqA_e, seqA_r, e_add, e_sub, e_mul, e_eql, e_neq, e_lss, e_leq, e_gtr, e_geq, e_conv, e_not, e_neg, and_guard, or_guard]
      exact ⟨_, rfl⟩

/-! ### Texts -/
theorem readNum_lt (l : List UInt8) : (readNum l).1 < 18446744073709551616 := by
  have key : ∀ (l : List UInt8) (i n : Nat) (r : Nat × Nat × Int), i ≤ 9 → n < 2 ^ (7 * i) → rdN i n l = some r → r.1 < 18446744073709551616 := by
    intro l
    induction l with
    | nil => intro i n r _ _ h; simp [rdN] at h
    | cons c l ih =>
      intro i n r hi hn h
      have hc128 : c.toNat % 128 < 128 := Nat.mod_lt _ (by omega)
      simp only [rdN] at h
      split at h
      · cases h; simp
      · rename_i h9
        have e : 2 ^ (7 * (i + 1)) = 128 * 2 ^ (7 * i) := by rw [show 7 * (i + 1) = 7 + 7 * i by omega, Nat.pow_add]
        have hnext : n + c.toNat % 128 * 2 ^ (7 * i) < 2 ^ (7 * (i + 1)) := by
          rw [e]
          have : (c.toNat % 128 + 1) * 2 ^ (7 * i) ≤ 128 * 2 ^ (7 * i) := Nat.mul_le_mul_right _ (by omega)
          rw [Nat.add_mul] at this
          omega
        split at h
        · rename_i hlt
          split at h
          · cases h; simp
          · cases h
            show n + c.toNat % 128 * 2 ^ (7 * i) < 18446744073709551616
            by_cases h8 : i ≤ 8
            · exact Nat.lt_of_lt_of_le hnext (Nat.le_trans (Nat.pow_le_pow_right (by omega) (show 7 * (i + 1) ≤ 63 by omega)) (by decide))
            · have e9 : i = 9 := by omega
              subst e9
              have h1 : c.toNat % 128 ≤ 1 := by omega
              have h2 : c.toNat % 128 * 2 ^ (7 * 9) ≤ 1 * 2 ^ (7 * 9) := Nat.mul_le_mul_right _ h1
              have h3 : (2 : Nat) ^ (7 * 9) = 9223372036854775808 := by decide
              omega
        · have hi8 : i ≤ 8 := by omega
          exact ih (i + 1) _ r (by omega) hnext h
  unfold readNum
  cases h : rdN 0 0 l with
  | none => simp
  | some r => exact key l 0 0 r (by omega) (by simp) h


end Go.Proofs.Ytamaapapaiopiaa.Ab

/- The two ways to read a number are one. -/
namespace Go.Proofs.Ytamaapapaiopiaa.Ab
open Go

/-- the value, whatever the bytes -/
def hn : List UInt8 → Nat
  | [] => 0
  | c :: l => hn l * 128 + c.toNat % 128
theorem horner_hn (l : List UInt8) : horner l 0 = hn l % 18446744073709551616 := by
  induction l with
  | nil => rfl
  | cons c l ih =>
    show (horner l 0 * 128 + c.toNat % 128) % 18446744073709551616 = _
    rw [ih, hn]
    omega
def High (l : List UInt8) : Prop := ∀ c ∈ l, 128 ≤ c.toNat
/-- as numbers are written -/
def Canon (u : List UInt8) : Prop := ∃ pre c, u = pre ++ [c] ∧ High pre ∧ c.toNat < 128 ∧ (c.toNat = 0 → pre = [])

theorem hn_encF : ∀ (k n : Nat), n < 128 ^ k → hn (encF k n) = n
  | 0, n, h => by simp at h; subst h; rfl
  | k + 1, n, h => by
    simp only [encF]
    split
    · simp only [hn, ofNat_toNat (show n < 256 by omega)]; omega
    · rw [Nat.pow_succ] at h
      simp only [hn, ofNat_toNat (show n % 128 + 128 < 256 by omega), hn_encF k (n / 128) (by omega)]
      omega
theorem encF_canon : ∀ (k n : Nat), n < 128 ^ (k + 1) → ∃ pre c, encF (k + 1) n = pre ++ [c] ∧ High pre ∧ c.toNat < 128 ∧ (c.toNat = 0 → n = 0 ∧ pre = [])
  | 0, n, h => by
    have hn : n < 128 := by simpa using h
    refine ⟨[], UInt8.ofNat n, by simp [encF, hn], fun c hc => by simp at hc, by rw [ofNat_toNat (by omega)]; exact hn, fun e => ⟨by rw [ofNat_toNat (by omega)] at e; exact e, rfl⟩⟩
  | k + 1, n, h => by
    by_cases hn : n < 128
    · refine ⟨[], UInt8.ofNat n, by simp [encF, hn], fun c hc => by simp at hc, by rw [ofNat_toNat (by omega)]; exact hn, fun e => ⟨by rw [ofNat_toNat (by omega)] at e; exact e, rfl⟩⟩
    · rw [Nat.pow_succ] at h
      obtain ⟨pre, c, h1, h2, h3, h4⟩ := encF_canon k (n / 128) (by omega)
      refine ⟨UInt8.ofNat (n % 128 + 128) :: pre, c, by rw [encF, if_neg hn, h1]; rfl, fun x hx => ?_, h3, fun e => ?_⟩
      · rcases List.mem_cons.1 hx with rfl | hx
        · rw [ofNat_toNat (by omega)]; omega
        · exact h2 x hx
      · have := (h4 e).1; omega
theorem enc_canon {n : Nat} (h : n < 18446744073709551616) : Canon (enc n) := by
  obtain ⟨pre, c, h1, h2, h3, h4⟩ := encF_canon 9 n (Nat.lt_of_lt_of_le h (by decide))
  exact ⟨pre, c, h1, h2, h3, fun e => (h4 e).2⟩
theorem encF_hn : ∀ (pre : List UInt8) (c : UInt8) (k : Nat), High pre → c.toNat < 128 → (c.toNat = 0 → pre = []) → pre.length < k → encF k (hn (pre ++ [c])) = pre ++ [c]
  | [], c, k, _, hc, _, hk => by
    obtain ⟨k, rfl⟩ : ∃ q, k = q + 1 := ⟨k - 1, by simp at hk; omega⟩
    have : hn ([] ++ [c]) = c.toNat := by simp [hn]; omega
    rw [this, encF, if_pos hc]
    simp
  | x :: pre, c, k, hp, hc, h0, hk => by
    obtain ⟨k, rfl⟩ : ∃ q, k = q + 1 := ⟨k - 1, by simp at hk; omega⟩
    have hx : 128 ≤ x.toNat := hp x (by simp)
    have hx2 := x.toNat_lt
    have hpos : 0 < hn (pre ++ [c]) := by
      have key : ∀ (q : List UInt8), 0 < c.toNat → 0 < hn (q ++ [c]) := by
        intro q hc0
        induction q with
        | nil => simp [hn]; omega
        | cons y q ih => simp only [List.cons_append, hn]; omega
      refine key pre ?_
      rcases Nat.eq_zero_or_pos c.toNat with e | e
      · have := h0 e; simp at this
      · exact e
    have hv : hn (x :: pre ++ [c]) = hn (pre ++ [c]) * 128 + x.toNat % 128 := rfl
    rw [hv, encF, if_neg (by omega)]
    have e1 : (hn (pre ++ [c]) * 128 + x.toNat % 128) / 128 = hn (pre ++ [c]) := by omega
    have e2 : (hn (pre ++ [c]) * 128 + x.toNat % 128) % 128 + 128 = x.toNat := by omega
    rw [e1, e2, encF_hn pre c k (fun y hy => hp y (by simp [hy])) hc (fun e => by have := h0 e; simp at this) (by simp at hk; omega)]
    simp

theorem hn_lt : ∀ (l : List UInt8), hn l < 128 ^ l.length
  | [] => by simp [hn]
  | c :: l => by
    have := hn_lt l
    simp only [hn, List.length_cons, Nat.pow_succ]
    omega
theorem hn_append : ∀ (pre l : List UInt8), hn (pre ++ l) = hn pre + 128 ^ pre.length * hn l
  | [], l => by simp [hn]
  | c :: pre, l => by
    simp only [List.cons_append, hn, hn_append pre l, List.length_cons, Nat.pow_succ]
    rw [Nat.add_mul, Nat.mul_assoc, Nat.mul_comm (hn l) 128, ← Nat.mul_assoc]
    omega

/-- just what is canonical and not too great is written as it stands -/
theorem enc_iff {u : List UInt8} (hu : u.length ≤ 10) : enc (horner u 0) = u ↔ Canon u ∧ hn u < 18446744073709551616 := by
  rw [horner_hn]
  constructor
  · intro h
    have hm : hn u % 18446744073709551616 < 18446744073709551616 := Nat.mod_lt _ (by decide)
    have hv := hn_encF 10 (hn u % 18446744073709551616) (Nat.lt_of_lt_of_le hm (by decide))
    have h2 : hn u = hn u % 18446744073709551616 := by
      have : encF 10 (hn u % 18446744073709551616) = u := h
      rw [this] at hv
      exact hv
    refine ⟨?_, by omega⟩
    rw [← h]
    exact enc_canon hm
  · rintro ⟨⟨pre, c, rfl, h1, h2, h3⟩, h4⟩
    rw [Nat.mod_eq_of_lt h4]
    exact encF_hn pre c 10 h1 h2 h3 (by simp at hu; omega)

theorem findLow_some : ∀ {k : Nat} {l : List UInt8} {d : Nat}, findLow k l = some d → ∃ pre c rest, l = pre ++ c :: rest ∧ pre.length = d ∧ d < k ∧ High pre ∧ c.toNat < 128
  | 0, l, d, h => by simp [findLow] at h
  | k + 1, [], d, h => by simp [findLow] at h
  | k + 1, c :: l, d, h => by
    simp only [findLow] at h
    split at h
    · rename_i hc; cases h; exact ⟨[], c, l, rfl, rfl, by omega, fun x hx => by simp at hx, hc⟩
    · rename_i hc
      simp only [Option.map_eq_some_iff] at h
      obtain ⟨e, he, rfl⟩ := h
      obtain ⟨pre, q, rest, rfl, rfl, h3, h4, h5⟩ := findLow_some he
      refine ⟨c :: pre, q, rest, rfl, rfl, by omega, fun x hx => ?_, h5⟩
      simp at hx
      rcases hx with rfl | hx
      · omega
      · exact h4 x hx
theorem findLow_none : ∀ {k : Nat} {l : List UInt8}, findLow k l = none → High (l.take k)
  | 0, l, _ => fun x hx => by simp at hx
  | k + 1, [], _ => fun x hx => by simp at hx
  | k + 1, c :: l, h => by
    simp only [findLow] at h
    split at h
    · cases h
    · rename_i hc
      have h2 : findLow k l = none := by simpa using h
      intro x hx
      simp at hx
      rcases hx with rfl | hx
      · omega
      · exact findLow_none h2 x hx

theorem rdN_low : ∀ (pre : List UInt8) (c : UInt8) (rest : List UInt8) (i n : Nat), High pre → c.toNat < 128 → i + pre.length ≤ 9 →
    rdN i n (pre ++ c :: rest) = if i + pre.length = 9 ∧ 1 < c.toNat then some (0, 0, 11) else if c.toNat = 0 ∧ 0 < i + pre.length then some (0, 0, 11) else some (n + 2 ^ (7 * i) * hn (pre ++ [c]), i + pre.length + 1, 0)
  | [], c, rest, i, n, _, hc, hi => by
    simp only [List.nil_append, rdN, List.length_nil, Nat.add_zero]
    split
    · rfl
    · split
      · rfl
      · simp only [hn, Nat.zero_mul, Nat.zero_add]
        rw [Nat.mul_comm]
  | x :: pre, c, rest, i, n, hp, hc, hi => by
    have hx : 128 ≤ x.toNat := hp x (by simp)
    simp only [List.length_cons] at hi
    rw [List.cons_append, rdN, if_neg (by omega), if_neg (by omega), rdN_low pre c rest (i + 1) _ (fun y hy => hp y (by simp [hy])) hc (by omega)]
    simp only [List.length_cons]
    rw [show i + 1 + pre.length = i + (pre.length + 1) by omega]
    split
    · rfl
    · split
      · rfl
      · congr 2
        simp only [List.cons_append, hn]
        rw [show 7 * (i + 1) = 7 + 7 * i by omega, Nat.pow_add, Nat.mul_add, Nat.add_assoc]
        congr 1
        rw [Nat.mul_comm (x.toNat % 128), Nat.add_comm, show (2 : Nat) ^ 7 = 128 from rfl, ← Nat.mul_assoc, Nat.mul_comm 128 (2 ^ (7 * i)), Nat.mul_assoc, Nat.mul_comm 128, Nat.mul_assoc]
theorem rdN_high : ∀ (l : List UInt8) (i n : Nat), i ≤ 9 → High (l.take (10 - i)) → rdN i n l = if i + l.length ≤ 9 then none else some (0, 0, 11)
  | [], i, n, hi, _ => by simp [rdN, hi]
  | x :: l, i, n, hi, hp => by
    obtain ⟨k, hk⟩ : ∃ k, 10 - i = k + 1 := ⟨9 - i, by omega⟩
    rw [hk] at hp
    have hx : 128 ≤ x.toNat := hp x (by simp)
    by_cases h9 : i = 9
    · subst h9
      rw [rdN, if_pos ⟨rfl, by omega⟩, if_neg (by simp)]
    · rw [rdN, if_neg (by omega), if_neg (by omega), rdN_high l (i + 1) _ (by omega) (fun y hy => hp y (by
        rw [show 10 - (i + 1) = k by omega] at hy
        simp [hy]))]
      simp only [List.length_cons]
      rw [show i + 1 + l.length = i + (l.length + 1) by omega]

theorem refRead_eq (l : List UInt8) : refRead l = readNum l := by
  unfold refRead readNum
  cases hf : findLow 10 l with
  | none =>
    have := findLow_none hf
    rw [rdN_high l 0 0 (by omega) this, Nat.zero_add]
    simp only
    by_cases h : l.length ≤ 9
    · rw [if_pos h, if_neg (by omega)]; rfl
    · rw [if_neg h, if_pos (by omega)]; rfl
  | some d =>
    obtain ⟨pre, c, rest, rfl, rfl, h3, h4, h5⟩ := findLow_some hf
    rw [rdN_low pre c rest 0 0 h4 h5 (by omega)]
    simp only [Nat.zero_add]
    have ht : (pre ++ c :: rest).take (pre.length + 1) = pre ++ [c] := by
      rw [List.take_append, List.take_of_length_le (by omega), Nat.add_sub_cancel_left]
      rfl
    rw [ht]
    have hiff := enc_iff (u := pre ++ [c]) (by simp; omega)
    have hsum : hn (pre ++ [c]) = hn pre + 128 ^ pre.length * (c.toNat % 128) := by rw [hn_append]; simp [hn]
    have hpl := hn_lt pre
    have hcm : c.toNat % 128 = c.toNat := Nat.mod_eq_of_lt h5
    rw [hcm] at hsum
    by_cases h9 : pre.length = 9 ∧ 1 < c.toNat
    · rw [if_pos h9]
      rw [if_neg]
      · rfl
      · intro he
        have := (hiff.1 he).2
        rw [hsum, h9.1] at this
        have h2 : 128 ^ 9 * 2 ≤ 128 ^ 9 * c.toNat := Nat.mul_le_mul_left _ h9.2
        have h3 : (128 : Nat) ^ 9 = 9223372036854775808 := by decide
        omega
    · rw [if_neg h9]
      by_cases h0 : c.toNat = 0 ∧ 0 < pre.length
      · rw [if_pos h0, if_neg]
        · rfl
        · intro he
          obtain ⟨⟨pre2, c2, e1, e2, e3, e4⟩, _⟩ := hiff.1 he
          have e5 := List.append_inj e1 (by have := congrArg List.length e1; simp at this; exact this)
          have e6 : c = c2 := by have := e5.2; simpa using this
          have := e4 (by rw [← e6]; exact h0.1)
          rw [← e5.1] at this
          rw [this] at h0
          simp at h0
      · rw [if_neg h0]
        have hlt : hn (pre ++ [c]) < 18446744073709551616 := by
          rw [hsum]
          by_cases h8 : pre.length ≤ 8
          · have h1 : (128 : Nat) ^ pre.length ≤ 128 ^ 8 := Nat.pow_le_pow_right (by omega) h8
            have h2 : 128 ^ pre.length * c.toNat ≤ 128 ^ 8 * 127 := Nat.mul_le_mul h1 (by omega)
            have h3 : (128 : Nat) ^ 8 = 72057594037927936 := by decide
            omega
          · have e9 : pre.length = 9 := by omega
            rw [e9] at hpl ⊢
            have h2 : 128 ^ 9 * c.toNat ≤ 128 ^ 9 * 1 := Nat.mul_le_mul_left _ (by omega)
            have h3 : (128 : Nat) ^ 9 = 9223372036854775808 := by decide
            omega
        rw [if_pos]
        · rw [horner_hn, Nat.mod_eq_of_lt hlt]
          simp
        · exact hiff.2 ⟨⟨pre, c, rfl, h4, h5, fun e => by
            rcases Nat.eq_zero_or_pos pre.length with h | h
            · exact List.length_eq_zero_iff.1 h
            · exact absurd ⟨e, h⟩ h0⟩, hlt⟩
end Go.Proofs.Ytamaapapaiopiaa.Ab

/- Texts. -/
namespace Go.Proofs.Ytamaapapaiopiaa.Ab
open Go

def readText (l : List UInt8) (most : Int) : List UInt8 × Nat × Int :=
  if (readNum l).2.2 ≠ 0 then ([], 0, (readNum l).2.2)
  else if most < 0 ∨ most < (readNum l).1 then ([], 0, 2)
  else if l.length - (readNum l).2.1 < (readNum l).1 then ([], 0, 10)
  else ((l.drop (readNum l).2.1).take (readNum l).1, (readNum l).2.1 + (readNum l).1, 0)
def tupT (t : List UInt8) (k : Nat) (e : Int) : Value := .tuple #[.string ⟨t.toArray⟩, .int .i64 (k : Int), .int .i64 e]

theorem ReadText_run {R : Caller} (hR : ∀ xs s, R 74 xs s = gReadNum xs s) {s : St} {v : Value} {l : List UInt8} (h : bytesOf v s = some l) (hl : l.length ≤ 150000000000000) {most : Int} (hm1 : -9223372036854775808 ≤ most) (hm2 : most < 9223372036854775808) :
    octet_ReadText R v (.int .i64 most) s = some (tupT (readText l most).1 (readText l most).2.1 (readText l most).2.2, s) := by
  have hk := readNum_k l
  have hn := readNum_lt l
  unfold octet_ReadText
  simp only [octet_ReadNum_call, hR, gReadNum_eq h, n_bind, n_map, getL_0, getL_1, getL_2, getL_3, getL_4, getL_5, getL_6, getL_7, getL_8, getL_9, getL_10, getL_11, getL_12, condV_t, condV_f, guardV_tt, guardV_ff, guardV_tf, guardV_ft, guardV_u, apick_t, apick_f, exV_exit, exV_ret, lookE_same, joinK_eq, seqA_n, seqA_e, seqA_r, e_add, e_sub, e_mul, e_eql, e_neq, e_lss, e_leq, e_gtr, e_geq, e_conv, e_not, e_neg, and_guard, or_guard, tup3]
  simp only [aextract, List.getElem?_cons_zero, List.getElem?_cons_succ, isTup, Bool.false_eq_true, if_false, n_bind, n_map, getL_0, getL_1, getL_2, getL_3, getL_4, getL_5, getL_6, getL_7, getL_8, getL_9, getL_10, getL_11, getL_12, condV_t, condV_f, guardV_tt, guardV_ff, guardV_tf, guardV_ft, guardV_u, apick_t, apick_f, exV_exit, exV_ret, lookE_same, joinK_eq, seqA_n, seqA_e, seqA_r, e_add, e_sub, e_mul, e_eql, e_neq, e_lss, e_leq, e_gtr, e_geq, e_conv, e_not, e_neg, and_guard, or_guard]
  unfold readText
  generalize readNum l = r at *
  obtain ⟨n, k, e⟩ := r
  simp only at hk hn ⊢
  by_cases he : e = 0
  · subst he
    have hk := hk rfl
    have hb0 : ((0 : Int) != 0) = false := rfl
    simp only [hb0, n_bind, n_map, getL_0, getL_1, getL_2, getL_3, getL_4, getL_5, getL_6, getL_7, getL_8, getL_9, getL_10, getL_11, getL_12, condV_t, condV_f, guardV_tt, guardV_ff, guardV_tf, guardV_ft, guardV_u, apick_t, apick_f, exV_exit, exV_ret, lookE_same, joinK_eq, seqA_n, seqA_e, seqA_r, e_add, e_sub, e_mul, e_eql, e_neq, e_lss, e_leq, e_gtr, e_geq, e_conv, e_not, e_neg, and_guard, or_guard, ne_eq, not_true_eq_false, if_false]
    by_cases hmn : most < 0 ∨ most < (n : Int)
    · have hb : (decide (most < 0) || decide ((n : Int) > IntKind.wrap .u64 most)) = true := by
        by_cases h0 : most < 0
        · simp [h0]
        · rw [wrap_u64 (by omega) (by omega)]; simp; omega
      simp only [hb, n_bind, n_map, getL_0, getL_1, getL_2, getL_3, getL_4, getL_5, getL_6, getL_7, getL_8, getL_9, getL_10, getL_11, getL_12, condV_t, condV_f, guardV_tt, guardV_ff, guardV_tf, guardV_ft, guardV_u, apick_t, apick_f, exV_exit, exV_ret, lookE_same, joinK_eq, seqA_n, seqA_e, seqA_r, e_add, e_sub, e_mul, e_eql, e_neq, e_lss, e_leq, e_gtr, e_geq, e_conv, e_not, e_neg, and_guard, or_guard, if_pos hmn]
      rfl
    · have hb : (decide (most < 0) || decide ((n : Int) > IntKind.wrap .u64 most)) = false := by
        rw [wrap_u64 (by omega) (by omega)]; simp; omega
      have hsub : IntKind.wrap .i64 (((l.length : Nat) : Int) - (k : Int)) = ((l.length - k : Nat) : Int) := by rw [wrap_i64 (by omega) (by omega)]; omega
      have hsub2 : IntKind.wrap .u64 ((l.length - k : Nat) : Int) = ((l.length - k : Nat) : Int) := wrap_u64 (by omega) (by omega)
      simp only [hb, n_bind, n_map, getL_0, getL_1, getL_2, getL_3, getL_4, getL_5, getL_6, getL_7, getL_8, getL_9, getL_10, getL_11, getL_12, condV_t, condV_f, guardV_tt, guardV_ff, guardV_tf, guardV_ft, guardV_u, apick_t, apick_f, exV_exit, exV_ret, lookE_same, joinK_eq, seqA_n, seqA_e, seqA_r, e_add, e_sub, e_mul, e_eql, e_neq, e_lss, e_leq, e_gtr, e_geq, e_conv, e_not, e_neg, and_guard, or_guard, if_neg hmn, bytes_len h, hsub, hsub2]
      by_cases hs : l.length - k < n
      · have hb2 : decide ((n : Int) > ((l.length - k : Nat) : Int)) = true := by simp; omega
        simp only [hb2, n_bind, n_map, getL_0, getL_1, getL_2, getL_3, getL_4, getL_5, getL_6, getL_7, getL_8, getL_9, getL_10, getL_11, getL_12, condV_t, condV_f, guardV_tt, guardV_ff, guardV_tf, guardV_ft, guardV_u, apick_t, apick_f, exV_exit, exV_ret, lookE_same, joinK_eq, seqA_n, seqA_e, seqA_r, e_add, e_sub, e_mul, e_eql, e_neq, e_lss, e_leq, e_gtr, e_geq, e_conv, e_not, e_neg, and_guard, or_guard, if_pos hs]
        rfl
      · have hb2 : decide ((n : Int) > ((l.length - k : Nat) : Int)) = false := by simp; omega
        have hw1 : IntKind.wrap .i64 (n : Int) = (n : Int) := wrap_i64 (by omega) (by omega)
        have hw2 : IntKind.wrap .i64 ((k : Int) + (n : Int)) = ((k + n : Nat) : Int) := by rw [wrap_i64 (by omega) (by omega)]; push_cast; rfl
        obtain ⟨u, hu1, hu2⟩ := bytes_slice h (lo := some (.int .i64 (k : Int))) (hi := some (.int .i64 ((k + n : Nat) : Int))) (mx := none) (i := k) (j := k + n) (by simp [abound]) (by simp [abound]; omega) (by omega) (by omega) (.inl rfl)
        simp only [hb2, n_bind, n_map, getL_0, getL_1, getL_2, getL_3, getL_4, getL_5, getL_6, getL_7, getL_8, getL_9, getL_10, getL_11, getL_12, condV_t, condV_f, guardV_tt, guardV_ff, guardV_tf, guardV_ft, guardV_u, apick_t, apick_f, exV_exit, exV_ret, lookE_same, joinK_eq, seqA_n, seqA_e, seqA_r, e_add, e_sub, e_mul, e_eql, e_neq, e_lss, e_leq, e_gtr, e_geq, e_conv, e_not, e_neg, and_guard, or_guard, if_neg hs, hw1, hw2, hu1, bytes_str hu2]
        rw [show k + n - k = n by omega]
        rfl
  · have hb0 : (e != 0) = true := by simpa using he
    simp only [hb0, n_bind, n_map, getL_0, getL_1, getL_2, getL_3, getL_4, getL_5, getL_6, getL_7, getL_8, getL_9, getL_10, getL_11, getL_12, condV_t, condV_f, guardV_tt, guardV_ff, guardV_tf, guardV_ft, guardV_u, apick_t, apick_f, exV_exit, exV_ret, lookE_same, joinK_eq, seqA_n, seqA_e, seqA_r, e_add, e_sub, e_mul, e_eql, e_neq, e_lss, e_leq, e_gtr, e_geq, e_conv, e_not, e_neg, and_guard, or_guard, ne_eq, he, not_false_eq_true, if_true]
    rfl

theorem refReadText_run {R : Caller} (hR : ∀ xs s, R 78 xs s = gReadNum xs s) {s : St} {v : Value} {l : List UInt8} (h : bytesOf v s = some l) (hl : l.length ≤ 150000000000000) {most : Int} (hm1 : -9223372036854775808 ≤ most) (hm2 : most < 9223372036854775808) :
    ref01_ReadText R v (.int .i64 most) s = some (tupT (readText l most).1 (readText l most).2.1 (readText l most).2.2, s) := by
  have hk := readNum_k l
  have hn := readNum_lt l
  unfold ref01_ReadText
  simp only [ref01_ReadNum_call, hR, gReadNum_eq h, n_bind, n_map, getL_0, getL_1, getL_2, getL_3, getL_4, getL_5, getL_6, getL_7, getL_8, getL_9, getL_10, getL_11, getL_12, condV_t, condV_f, guardV_tt, guardV_ff, guardV_tf, guardV_ft, guardV_u, apick_t, apick_f, exV_exit, exV_ret, lookE_same, joinK_eq, seqA_n, seqA_e, seqA_r, e_add, e_sub, e_mul, e_eql, e_neq, e_lss, e_leq, e_gtr, e_geq, e_conv, e_not, e_neg, and_guard, or_guard, tup3]
  simp only [aextract, List.getElem?_cons_zero, List.getElem?_cons_succ, isTup, Bool.false_eq_true, if_false, n_bind, n_map, getL_0, getL_1, getL_2, getL_3, getL_4, getL_5, getL_6, getL_7, getL_8, getL_9, getL_10, getL_11, getL_12, condV_t, condV_f, guardV_tt, guardV_ff, guardV_tf, guardV_ft, guardV_u, apick_t, apick_f, exV_exit, exV_ret, lookE_same, joinK_eq, seqA_n, seqA_e, seqA_r, e_add, e_sub, e_mul, e_eql, e_neq, e_lss, e_leq, e_gtr, e_geq, e_conv, e_not, e_neg, and_guard, or_guard]
  unfold readText
  generalize readNum l = r at *
  obtain ⟨n, k, e⟩ := r
  simp only at hk hn ⊢
  by_cases he : e = 0
  · subst he
    have hk := hk rfl
    have hb0 : ((0 : Int) != 0) = false := rfl
    simp only [hb0, n_bind, n_map, getL_0, getL_1, getL_2, getL_3, getL_4, getL_5, getL_6, getL_7, getL_8, getL_9, getL_10, getL_11, getL_12, condV_t, condV_f, guardV_tt, guardV_ff, guardV_tf, guardV_ft, guardV_u, apick_t, apick_f, exV_exit, exV_ret, lookE_same, joinK_eq, seqA_n, seqA_e, seqA_r, e_add, e_sub, e_mul, e_eql, e_neq, e_lss, e_leq, e_gtr, e_geq, e_conv, e_not, e_neg, and_guard, or_guard, ne_eq, not_true_eq_false, if_false]
    by_cases hmn : most < 0 ∨ most < (n : Int)
    · have hb : (decide (most < 0) || decide ((n : Int) > IntKind.wrap .u64 most)) = true := by
        by_cases h0 : most < 0
        · simp [h0]
        · rw [wrap_u64 (by omega) (by omega)]; simp; omega
      simp only [hb, n_bind, n_map, getL_0, getL_1, getL_2, getL_3, getL_4, getL_5, getL_6, getL_7, getL_8, getL_9, getL_10, getL_11, getL_12, condV_t, condV_f, guardV_tt, guardV_ff, guardV_tf, guardV_ft, guardV_u, apick_t, apick_f, exV_exit, exV_ret, lookE_same, joinK_eq, seqA_n, seqA_e, seqA_r, e_add, e_sub, e_mul, e_eql, e_neq, e_lss, e_leq, e_gtr, e_geq, e_conv, e_not, e_neg, and_guard, or_guard, if_pos hmn]
      rfl
    · have hb : (decide (most < 0) || decide ((n : Int) > IntKind.wrap .u64 most)) = false := by
        rw [wrap_u64 (by omega) (by omega)]; simp; omega
      have hsub : IntKind.wrap .i64 (((l.length : Nat) : Int) - (k : Int)) = ((l.length - k : Nat) : Int) := by rw [wrap_i64 (by omega) (by omega)]; omega
      have hsub2 : IntKind.wrap .u64 ((l.length - k : Nat) : Int) = ((l.length - k : Nat) : Int) := wrap_u64 (by omega) (by omega)
      simp only [hb, n_bind, n_map, getL_0, getL_1, getL_2, getL_3, getL_4, getL_5, getL_6, getL_7, getL_8, getL_9, getL_10, getL_11, getL_12, condV_t, condV_f, guardV_tt, guardV_ff, guardV_tf, guardV_ft, guardV_u, apick_t, apick_f, exV_exit, exV_ret, lookE_same, joinK_eq, seqA_n, seqA_e, seqA_r, e_add, e_sub, e_mul, e_eql, e_neq, e_lss, e_leq, e_gtr, e_geq, e_conv, e_not, e_neg, and_guard, or_guard, if_neg hmn, bytes_len h, hsub, hsub2]
      by_cases hs : l.length - k < n
      · have hb2 : decide ((n : Int) > ((l.length - k : Nat) : Int)) = true := by simp; omega
        simp only [hb2, n_bind, n_map, getL_0, getL_1, getL_2, getL_3, getL_4, getL_5, getL_6, getL_7, getL_8, getL_9, getL_10, getL_11, getL_12, condV_t, condV_f, guardV_tt, guardV_ff, guardV_tf, guardV_ft, guardV_u, apick_t, apick_f, exV_exit, exV_ret, lookE_same, joinK_eq, seqA_n, seqA_e, seqA_r, e_add, e_sub, e_mul, e_eql, e_neq, e_lss, e_leq, e_gtr, e_geq, e_conv, e_not, e_neg, and_guard, or_guard, if_pos hs]
        rfl
      · have hb2 : decide ((n : Int) > ((l.length - k : Nat) : Int)) = false := by simp; omega
        have hw1 : IntKind.wrap .i64 (n : Int) = (n : Int) := wrap_i64 (by omega) (by omega)
        have hw2 : IntKind.wrap .i64 ((k : Int) + (n : Int)) = ((k + n : Nat) : Int) := by rw [wrap_i64 (by omega) (by omega)]; push_cast; rfl
        obtain ⟨u, hu1, hu2⟩ := bytes_slice h (lo := some (.int .i64 (k : Int))) (hi := some (.int .i64 ((k + n : Nat) : Int))) (mx := none) (i := k) (j := k + n) (by simp [abound]) (by simp [abound]; omega) (by omega) (by omega) (.inl rfl)
        simp only [hb2, n_bind, n_map, getL_0, getL_1, getL_2, getL_3, getL_4, getL_5, getL_6, getL_7, getL_8, getL_9, getL_10, getL_11, getL_12, condV_t, condV_f, guardV_tt, guardV_ff, guardV_tf, guardV_ft, guardV_u, apick_t, apick_f, exV_exit, exV_ret, lookE_same, joinK_eq, seqA_n, seqA_e, seqA_r, e_add, e_sub, e_mul, e_eql, e_neq, e_lss, e_leq, e_gtr, e_geq, e_conv, e_not, e_neg, and_guard, or_guard, if_neg hs, hw1, hw2, hu1, bytes_str hu2]
        rw [show k + n - k = n by omega]
        rfl
  · have hb0 : (e != 0) = true := by simpa using he
    simp only [hb0, n_bind, n_map, getL_0, getL_1, getL_2, getL_3, getL_4, getL_5, getL_6, getL_7, getL_8, getL_9, getL_10, getL_11, getL_12, condV_t, condV_f, guardV_tt, guardV_ff, guardV_tf, guardV_ft, guardV_u, apick_t, apick_f, exV_exit, exV_ret, lookE_same, joinK_eq, seqA_n, seqA_e, seqA_r, e_add, e_sub, e_mul, e_eql, e_neq, e_lss, e_leq, e_gtr, e_geq, e_conv, e_not, e_neg, and_guard, or_guard, ne_eq, he, not_false_eq_true, if_true]
    rfl

/-- a text's bytes -/
def textB (t : ByteArray) : List UInt8 := enc t.size ++ t.data.toList
theorem textB_ne {t : ByteArray} : textB t ≠ [] := by unfold textB; simp [enc_ne]
theorem Text_run {R : Caller} (hR : ∀ xs s, R 84 xs s = gNum xs s) {t : ByteArray} (ht : t.size ≤ 140737488300000) (s : St) : ∃ v s', octet_Text R (.string t) s = some (v, s') ∧ Own s.heap.length 1 s' v (bv (textB t)) ∧ Ext s.heap.length s s' := by
  have hO := newBytes_own (N := s.heap.length) (l := enc t.size) (s := s) (Nat.le_refl _) enc_ne
  have hE := newBytes_ext (N := s.heap.length) (l := enc t.size) (s := s) (Nat.le_refl _)
  have hlen := @enc_len t.size
  have hbl : (bytesV t).length = t.size := by simp [bytesV]
  obtain ⟨v, s', h1, h2, h3⟩ := own_append (w := 1) hO (by simp [newBytes, St.push]) (by omega) (by omega) (y := .string t) (m := t.size) rfl (show elemsOf 1 (.string t) _ = some (bytesV t) from rfl) (by rw [hbl]; omega) (by rw [bv_length, hbl]; omega)
  unfold octet_Text
  have hw : IntKind.wrap .u64 ((t.size : Nat) : Int) = ((t.size : Nat) : Int) := wrap_u64 (by omega) (by omega)
  simp only [e_lenS, n_bind, n_map, getL_0, getL_1, getL_2, getL_3, getL_4, getL_5, getL_6, getL_7, getL_8, getL_9, getL_10, getL_11, getL_12, condV_t, condV_f, guardV_tt, guardV_ff, guardV_tf, guardV_ft, guardV_u, apick_t, apick_f, exV_exit, exV_ret, lookE_same, joinK_eq, seqA_n, seqA_e, seqA_r, e_add, e_sub, e_mul, e_eql, e_neq, e_lss, e_leq, e_gtr, e_geq, e_conv, e_not, e_neg, and_guard, or_guard, octet_Num_call]
  rw [hw, hR, gNum_eq (show t.size < 18446744073709551616 by omega)]
  simp only [n_bind, n_map, getL_0, getL_1, getL_2, getL_3, getL_4, getL_5, getL_6, getL_7, getL_8, getL_9, getL_10, getL_11, getL_12, condV_t, condV_f, guardV_tt, guardV_ff, guardV_tf, guardV_ft, guardV_u, apick_t, apick_f, exV_exit, exV_ret, lookE_same, joinK_eq, seqA_n, seqA_e, seqA_r, e_add, e_sub, e_mul, e_eql, e_neq, e_lss, e_leq, e_gtr, e_geq, e_conv, e_not, e_neg, and_guard, or_guard, h1]
  rw [bytesV_eq, ← bv_append] at h2
  refine ⟨v, s', ?_, h2, hE.trans h3⟩
  rcases h2 with ⟨rfl, _⟩ | ⟨b, len, rfl, _⟩ <;> rfl
theorem refText_run {R : Caller} (hR : ∀ xs s, R 68 xs s = gNum xs s) {t : ByteArray} (ht : t.size ≤ 140737488300000) (s : St) : ∃ v s', ref01_Text R (.string t) s = some (v, s') ∧ Own s.heap.length 1 s' v (bv (textB t)) ∧ Ext s.heap.length s s' := by
  have hO := newBytes_own (N := s.heap.length) (l := enc t.size) (s := s) (Nat.le_refl _) enc_ne
  have hE := newBytes_ext (N := s.heap.length) (l := enc t.size) (s := s) (Nat.le_refl _)
  have hlen := @enc_len t.size
  have hbl : (bytesV t).length = t.size := by simp [bytesV]
  obtain ⟨v, s', h1, h2, h3⟩ := own_append (w := 1) hO (by simp [newBytes, St.push]) (by omega) (by omega) (y := .string t) (m := t.size) rfl (show elemsOf 1 (.string t) _ = some (bytesV t) from rfl) (by rw [hbl]; omega) (by rw [bv_length, hbl]; omega)
  unfold ref01_Text
  have hw : IntKind.wrap .u64 ((t.size : Nat) : Int) = ((t.size : Nat) : Int) := wrap_u64 (by omega) (by omega)
  simp only [e_lenS, n_bind, n_map, getL_0, getL_1, getL_2, getL_3, getL_4, getL_5, getL_6, getL_7, getL_8, getL_9, getL_10, getL_11, getL_12, condV_t, condV_f, guardV_tt, guardV_ff, guardV_tf, guardV_ft, guardV_u, apick_t, apick_f, exV_exit, exV_ret, lookE_same, joinK_eq, seqA_n, seqA_e, seqA_r, e_add, e_sub, e_mul, e_eql, e_neq, e_lss, e_leq, e_gtr, e_geq, e_conv, e_not, e_neg, and_guard, or_guard, ref01_Num_call]
  rw [hw, hR, gNum_eq (show t.size < 18446744073709551616 by omega)]
  simp only [n_bind, n_map, getL_0, getL_1, getL_2, getL_3, getL_4, getL_5, getL_6, getL_7, getL_8, getL_9, getL_10, getL_11, getL_12, condV_t, condV_f, guardV_tt, guardV_ff, guardV_tf, guardV_ft, guardV_u, apick_t, apick_f, exV_exit, exV_ret, lookE_same, joinK_eq, seqA_n, seqA_e, seqA_r, e_add, e_sub, e_mul, e_eql, e_neq, e_lss, e_leq, e_gtr, e_geq, e_conv, e_not, e_neg, and_guard, or_guard, h1]
  rw [bytesV_eq, ← bv_append] at h2
  refine ⟨v, s', ?_, h2, hE.trans h3⟩
  rcases h2 with ⟨rfl, _⟩ | ⟨b, len, rfl, _⟩ <;> rfl

end Go.Proofs.Ytamaapapaiopiaa.Ab

/- Numbers and texts as bytes: what is known of the functions of layer 1. -/
namespace Go.Proofs.Ytamaapapaiopiaa.Ab
open Go

def gReadText : Sum := fun xs s => (match xs with | [v, .int .i64 m] => if -9223372036854775808 ≤ m ∧ m < 9223372036854775808 then (bytesOf v s).bind fun l => if l.length ≤ 150000000000000 then some (tupT (readText l m).1 (readText l m).2.1 (readText l m).2.2) else none else none | _ => none).map fun v => (v, s)
theorem gReadText_eq {v : Value} {s : St} {l : List UInt8} {m : Int} (h : bytesOf v s = some l) (hl : l.length ≤ 150000000000000) (h1 : -9223372036854775808 ≤ m) (h2 : m < 9223372036854775808) : gReadText [v, .int .i64 m] s = some (tupT (readText l m).1 (readText l m).2.1 (readText l m).2.2, s) := by
  simp only [gReadText, if_pos (And.intro h1 h2), h, Option.bind_some, if_pos hl, Option.map_some]
theorem readText_sum {lib : Lib} {f : FuncId} (h : ∀ v s l m, bytesOf v s = some l → l.length ≤ 150000000000000 → -9223372036854775808 ≤ m → m < 9223372036854775808 → run Try.prog lib hints f [v, .int .i64 m] s = some (tupT (readText l m).1 (readText l m).2.1 (readText l m).2.2, s)) : SumOk Try.prog lib hints f gReadText :=
  SumOk.plain (G := fun xs s => match xs with | [v, .int .i64 m] => if -9223372036854775808 ≤ m ∧ m < 9223372036854775808 then (bytesOf v s).bind fun l => if l.length ≤ 150000000000000 then some (tupT (readText l m).1 (readText l m).2.1 (readText l m).2.2) else none else none | _ => none) fun xs s v hh => by
    split at hh
    · rename_i v0 m
      split at hh
      · rename_i hm
        simp only [Option.bind_eq_some_iff] at hh
        obtain ⟨l, h1, h2⟩ := hh
        split at h2
        · rename_i hl
          cases h2
          exact ⟨rfl, _, h v0 (frzS s) l m (by rw [bytesOf_frz]; exact h1) hl hm.1 hm.2⟩
        · cases h2
      · cases hh
    · cases hh

def gText : Sum := fun xs s => (match xs with | [.string t] => if t.size ≤ 140737488300000 then some (textB t) else none | _ => none).map fun l => newBytes l s
theorem gText_eq {t : ByteArray} {s : St} (h : t.size ≤ 140737488300000) : gText [.string t] s = some (newBytes (textB t) s) := by
  simp only [gText, if_pos h, Option.map_some]
theorem text_sum {lib : Lib} {f : FuncId} (h : ∀ t s, t.size ≤ 140737488300000 → ∃ v s', run Try.prog lib hints f [.string t] s = some (v, s') ∧ Own s.heap.length 1 s' v (bv (textB t))) : SumOk Try.prog lib hints f gText :=
  SumOk.bytes (G := fun xs _ => match xs with | [.string t] => if t.size ≤ 140737488300000 then some (textB t) else none | _ => none) fun xs s l hh => by
    split at hh
    · rename_i t
      split at hh
      · rename_i ht
        cases hh
        obtain ⟨v, s', h1, h2⟩ := h t (frzS s) ht
        rw [frzS_len] at h2
        exact ⟨textB_ne, v, s', h1, h2⟩
      · cases hh
    · cases hh

theorem refReadNum_sum {lib : Lib} (hl : lib 78 = none) (hR : lib 68 = some gNum) : SumOk Try.prog lib hints 78 gReadNum :=
  SumOk.plain (G := fun xs s => match xs with | [v] => (bytesOf v s).map fun l => tup3 (readNum l).1 (readNum l).2.1 (readNum l).2.2 | _ => none) fun xs s v h => by
    split at h
    · simp only [Option.map_eq_some_iff] at h
      obtain ⟨l, hl2, rfl⟩ := h
      obtain ⟨s', h1⟩ := refReadNum_run (R := run Try.prog lib hints) (fun xs s => known hR) (s := frzS s) (by rw [bytesOf_frz]; exact hl2)
      rw [refRead_eq] at h1
      exact ⟨rfl, _, ref01_ReadNum_of hl h1⟩
    · cases h

theorem ReadNum_known {lib : Lib} (hl : lib 74 = none) : SumOk Try.prog lib hints 74 gReadNum := ReadNum_sum hl
theorem text_known {lib : Lib} (hl : lib 85 = none) (hN : lib 84 = some gNum) : SumOk Try.prog lib hints 85 gText := text_sum fun t s ht => by
  obtain ⟨v, s', h1, h2, _⟩ := Text_run (R := run Try.prog lib hints) (fun xs s => known hN) ht s
  exact ⟨v, s', octet_Text_of hl h1, h2⟩
theorem refText_known {lib : Lib} (hl : lib 86 = none) (hN : lib 68 = some gNum) : SumOk Try.prog lib hints 86 gText := text_sum fun t s ht => by
  obtain ⟨v, s', h1, h2, _⟩ := refText_run (R := run Try.prog lib hints) (fun xs s => known hN) ht s
  exact ⟨v, s', ref01_Text_of hl h1, h2⟩
theorem readText_known {lib : Lib} (hl : lib 75 = none) (hN : lib 74 = some gReadNum) : SumOk Try.prog lib hints 75 gReadText := readText_sum fun v s l m h hl2 h1 h2 => octet_ReadText_of hl (ReadText_run (fun xs s => known hN) h hl2 h1 h2)
theorem refReadText_known {lib : Lib} (hl : lib 79 = none) (hN : lib 78 = some gReadNum) : SumOk Try.prog lib hints 79 gReadText := readText_sum fun v s l m h hl2 h1 h2 => ref01_ReadText_of hl (refReadText_run (fun xs s => known hN) h hl2 h1 h2)
theorem x3_0 {n k : Nat} {e : Int} : aextract 0 (tup3 n k e) = some (.int .u64 n) := rfl
theorem x3_1 {n k : Nat} {e : Int} : aextract 1 (tup3 n k e) = some (.int .i64 k) := rfl
theorem x3_2 {n k : Nat} {e : Int} : aextract 2 (tup3 n k e) = some (.int .i64 e) := rfl
theorem xT_0 {t : List UInt8} {k : Nat} {e : Int} : aextract 0 (tupT t k e) = some (sv t) := rfl
theorem xT_1 {t : List UInt8} {k : Nat} {e : Int} : aextract 1 (tupT t k e) = some (.int .i64 k) := rfl
theorem xT_2 {t : List UInt8} {k : Nat} {e : Int} : aextract 2 (tupT t k e) = some (.int .i64 e) := rfl

theorem bytes_lenV {s : St} {v : Value} {l : List UInt8} (h : bytesOf v s = some l) : lenV v = some l.length := by
  have h2 := bytes_len h (e := 0) (s2 := s)
  unfold bytesOf cellsOf at h
  split at h
  · simp only [Option.bind_some] at h
    cases h
    rfl
  · rw [e_len] at h2
    simp only [lenV]
    simp only [Option.some.injEq, Value.int.injEq, true_and] at h2
    congr 1
    omega
  · cases h
theorem bytes_elems {s : St} {v : Value} {l : List UInt8} (h : bytesOf v s = some l) : elemsOf 1 v s = some (bv l) := by
  unfold bytesOf at h
  simp only [Option.bind_eq_some_iff] at h
  obtain ⟨cs, h1, h2⟩ := h
  rw [elems_of h1, ubs_some h2]
/-- bytes appended to bytes of one's own -/
theorem own_more {N : Nat} {s : St} {x v : Value} {l m : List UInt8} (h : Own N 1 s x (bv l)) (hN : N ≤ s.heap.length) (hv : bytesOf v s = some m) (hb : l.length + m.length ≤ 140737488355328) :
    ∃ v' s', aappend 1 1 x v s = some (v', s') ∧ Own N 1 s' v' (bv (l ++ m)) ∧ Ext N s s' := by
  rw [bv_append]
  exact own_append h hN (by omega) (by omega) (bytes_lenV hv) (bytes_elems hv) (by rw [bv_length]; omega) (by rw [bv_length, bv_length]; omega)
/-- however many they are -/
theorem own_moreW {N : Nat} {s : St} {x v : Value} {l m : List UInt8} (h : Own N 1 s x (bv l)) (hN : N ≤ s.heap.length) (hv : bytesOf v s = some m) (hb : l.length + m.length ≤ 150000000000000) :
    ∃ v' s', aappend 1 1 x v s = some (v', s') ∧ Own N 1 s' v' (bv (l ++ m)) ∧ Ext N s s' := by
  rw [bv_append]
  refine own_appendR h hN (by omega) (by omega) (bytes_lenV hv) (bytes_elems hv) (by rw [bv_length]; omega) fun q hq => .inr ?_
  rw [bv_length, bv_length, Nat.mul_one] at hq
  omega
theorem own_copy {s : St} {v : Value} {m : List UInt8} (hv : bytesOf v s = some m) (hb : m.length ≤ 140737488355328) :
    ∃ v' s', aappend 1 1 (.slice none 0 0) v s = some (v', s') ∧ Own s.heap.length 1 s' v' (bv m) ∧ Ext s.heap.length s s' :=
  own_more (l := []) (Own.nil _ _ _) (Nat.le_refl _) hv (by simpa using hb)
/-- a byte written -/
theorem own_store {N : Nat} {s : St} {v : Value} {l : List UInt8} (h : Own N 1 s v (bv l)) {i : Nat} (hi : i < l.length) (x : UInt8) {k : IntKind} :
    ∃ p s', aindexS 1 v (.int k (i : Int)) = some p ∧ aload false 1 p s = some (.int .u8 ((l[i].toNat : Nat) : Int)) ∧ astore 1 p (.int .u8 ((x.toNat : Nat) : Int)) s = some s' ∧ Own N 1 s' v (bv (l.set i x)) ∧ Ext N s s' := by
  obtain ⟨p, h1, h2⟩ := bytes_at h.bytes hi (k := k)
  rcases h with ⟨_, h3⟩ | ⟨b, len, rfl, h4, h5, h6, h7⟩
  · have : l = [] := bv_inj (m := []) h3
    subst this
    simp at hi
  · rw [bv_length, Nat.mul_one] at h6
    have hp : p = .pointer (some ⟨b, i, none⟩) := by
      have : aindexS 1 (.slice (some ⟨b, 0, none⟩) len len) (.int k (i : Int)) = some (.pointer (some ⟨b, i, none⟩)) := by simp [aindexS]; omega
      rw [this] at h1
      exact (Option.some.inj h1).symm
    subst hp
    have hput : putCells (bv l) i [Value.int .u8 ((x.toNat : Nat) : Int)] = bv (l.set i x) := by
      have e : bv (l.set i x) = (bv l).set i (.int .u8 ((x.toNat : Nat) : Int)) := by simp only [bv, List.map_set]
      rw [e, List.set_eq_take_append_cons_drop, if_pos (by rw [bv_length]; exact hi)]
      simp only [putCells, List.length_cons, List.length_nil, List.append_assoc, List.singleton_append]
    refine ⟨_, s.putB b (.row 1 (bv (l.set i x)) .act), h1, h2, ?_, .inr ⟨b, len, rfl, h4, ?_, by rw [bv_length, List.length_set]; omega, h7⟩, ?_⟩
    · unfold astore
      simp only [cellsV, List.length_cons, List.length_nil, List.all_cons, List.all_nil, isLeaf]
      unfold writeN
      rw [h5]
      simp only [List.length_cons, List.length_nil, bv_length, hput]
      rw [if_pos (by simp), if_pos (by omega)]
    · have hb : b < s.heap.length := (List.getElem?_eq_some_iff.1 h5).1
      simp only [St.putB]
      rw [List.getElem?_set_self hb]
    · refine ⟨by simp [St.putB], fun c hc => ?_⟩
      simp only [St.putB]
      rw [List.getElem?_set_ne (by omega)]
/-- what is said of older bytes stays -/
theorem Ext.old {N : Nat} {s s' : St} (h : Ext N s s') {s0 : St} (h0 : Ext s0.heap.length s0 s) (hN : N = s0.heap.length) {v : Value} {l : List UInt8} (hv : bytesOf v s0 = some l) : bytesOf v s' = some l := by
  subst hN
  exact (h0.trans h).bytes hv

end Go.Proofs.Ytamaapapaiopiaa.Ab

/- Nodes: what is known, level by level; which may be. -/
namespace Go.Proofs.Ytamaapapaiopiaa.Ab
open Go

def gOf : Sum := gP (G1O fun o => rv (o.lo, o.hi))
def gCkO : Sum := gP (G1O fun o => .int .i64 (ckO o))
def gWr : Sum := gP (G1O fun o => .bool (wrt o.kind))
theorem of_eq {o : OpT} {s : St} : gOf [oV o] s = some (rv (o.lo, o.hi), s) := rfl
theorem ckO_eq {o : OpT} {s : St} : gCkO [oV o] s = some (.int .i64 (ckO o), s) := rfl
theorem wr_eq {o : OpT} {s : St} : gWr [oV o] s = some (.bool (wrt o.kind), s) := rfl
def lib0 : List (FuncId × Sum) := []
theorem lib0_ok : LibOk Try.prog (libL lib0) := libOk_nil _
noncomputable def lib1 : List (FuncId × Sum) := (30, gKey) :: lib0
theorem lib1_ok : LibOk Try.prog (libL lib1) := libOk_cons progOk lib0_ok span_CheckKey_ok (sum1K fun k s => ⟨rfl, s, span_CheckKey_of rfl (CheckKey_run k s)⟩)
noncomputable def lib2 : List (FuncId × Sum) := (88, gAll) :: lib1
theorem lib2_ok : LibOk Try.prog (libL lib2) := libOk_cons progOk lib1_ok span_all_ok (sum0 fun s => ⟨rfl, s, span_all_of rfl (all_run s)⟩)
noncomputable def lib3 : List (FuncId × Sum) := (83, gLeast) :: lib2
theorem lib3_ok : LibOk Try.prog (libL lib3) := libOk_cons progOk lib2_ok span_least_ok (sum2KK fun a b s => ⟨rfl, s, span_least_of rfl (least_run a b s)⟩)
noncomputable def lib4 : List (FuncId × Sum) := (82, gChk) :: lib3
theorem lib4_ok : LibOk Try.prog (libL lib4) := libOk_cons progOk lib3_ok span_Check_ok (sum1R fun r s => ⟨rfl, s, span_Check_of rfl (Check_run (fun s => (known (g := gAll) rfl).trans all_eq) r s)⟩)
noncomputable def lib5 : List (FuncId × Sum) := (62, gHas) :: lib4
theorem lib5_ok : LibOk Try.prog (libL lib5) := libOk_cons progOk lib4_ok span_Has_ok (sum2RK fun r k s => ⟨rfl, s, span_Has_of rfl (Has_run (fun r s => (known (g := gChk) rfl).trans chk_eq) (fun k s => (known (g := gKey) rfl).trans key_eq) r k s)⟩)
noncomputable def lib6 : List (FuncId × Sum) := (61, gCov) :: lib5
theorem lib6_ok : LibOk Try.prog (libL lib6) := libOk_cons progOk lib5_ok span_Covers_ok (sum2RR fun a b s => ⟨rfl, s, span_Covers_of rfl (Covers_run (fun r s => (known (g := gChk) rfl).trans chk_eq) (fun a b s => (known (g := gLeast) rfl).trans least_eq) a b s)⟩)
noncomputable def lib7 : List (FuncId × Sum) := (87, gForms) :: lib6
theorem lib7_ok : LibOk Try.prog (libL lib7) := libOk_cons progOk lib6_ok op_forms_ok (sum0 fun s => ⟨rfl, s, op_forms_of rfl (forms_run s)⟩)
noncomputable def lib8 : List (FuncId × Sum) := (80, gFm) :: lib7
theorem lib8_ok : LibOk Try.prog (libL lib8) := libOk_cons progOk lib7_ok op_formOf_ok (sum1I fun k s => ⟨form_plain k, s, op_formOf_of rfl (formOf_run (fun s => (known (g := gForms) rfl).trans forms_eq) k s)⟩)
noncomputable def lib9 : List (FuncId × Sum) := (81, gOf) :: lib8
theorem lib9_ok : LibOk Try.prog (libL lib9) := libOk_cons progOk lib8_ok op_of_ok (sum1O fun o s => ⟨rfl, s, op_of_of rfl (of_run o s)⟩)
noncomputable def lib10 : List (FuncId × Sum) := (58, gCkO) :: lib9
theorem lib10_ok : LibOk Try.prog (libL lib10) := libOk_cons progOk lib9_ok op_CheckOp_ok (sum1O fun o s => ⟨rfl, s, op_CheckOp_of rfl (CheckOp_run (fun k s => (known (g := gFm) rfl).trans fm_eq) (fun o s => (known (g := gOf) rfl).trans of_eq) (fun r s => (known (g := gChk) rfl).trans chk_eq) (fun k s => (known (g := gKey) rfl).trans key_eq) o s)⟩)
noncomputable def lib11 : List (FuncId × Sum) := (59, gWr) :: lib10
theorem lib11_ok : LibOk Try.prog (libL lib11) := libOk_cons progOk lib10_ok op_Writes_ok (sum1O fun o s => ⟨rfl, s, op_Writes_of rfl (Writes_run (fun k s => (known (g := gFm) rfl).trans fm_eq) o s)⟩)
noncomputable def lib12 : List (FuncId × Sum) := (27, gMapE) :: lib11
theorem lib12_ok : LibOk Try.prog (libL lib12) := libOk_cons progOk lib11_ok op_CheckMap_ok (gL_sum (fun _ => rfl) fun v s l h hl => ⟨s, op_CheckMap_of rfl (map_run (fun k s => (known (g := gKey) rfl).trans key_eq) h hl)⟩)
noncomputable def lib13 : List (FuncId × Sum) := (31, gEB) :: lib12
theorem lib13_ok : LibOk Try.prog (libL lib13) := libOk_cons progOk lib12_ok buffer_Check_ok (gL_sum (fun _ => rfl) fun v s l h hl => ⟨s, buffer_Check_of rfl (buffer_Check_run (fun o s => (known (g := gCkO) rfl).trans ckO_eq) (fun o s => (known (g := gWr) rfl).trans wr_eq) h hl)⟩)
noncomputable def lib14 : List (FuncId × Sum) := (69, gKey) :: lib13
theorem lib14_ok : LibOk Try.prog (libL lib14) := libOk_cons progOk lib13_ok ref02_CheckKey_ok (sum1K fun k s => ⟨rfl, s, ref02_CheckKey_of rfl (refCheckKey_run k s)⟩)
noncomputable def lib15 : List (FuncId × Sum) := (72, gChk) :: lib14
theorem lib15_ok : LibOk Try.prog (libL lib15) := libOk_cons progOk lib14_ok ref02_Check_ok (sum1R fun r s => ⟨rfl, s, ref02_Check_of rfl (refCheck_run r s)⟩)
noncomputable def lib16 : List (FuncId × Sum) := (43, gHas) :: lib15
theorem lib16_ok : LibOk Try.prog (libL lib16) := libOk_cons progOk lib15_ok ref02_Has_ok (sum2RK fun r k s => ⟨rfl, s, ref02_Has_of rfl (refHas_run (fun r s => (known (g := gChk) rfl).trans chk_eq) (fun k s => (known (g := gKey) rfl).trans key_eq) r k s)⟩)
noncomputable def lib17 : List (FuncId × Sum) := (73, gBelow) :: lib16
theorem lib17_ok : LibOk Try.prog (libL lib17) := libOk_cons progOk lib16_ok ref02_below_ok (sum2KK fun a b s => ⟨rfl, s, ref02_below_of rfl (below_run a b s)⟩)
noncomputable def lib18 : List (FuncId × Sum) := (42, gCov) :: lib17
theorem lib18_ok : LibOk Try.prog (libL lib18) := libOk_cons progOk lib17_ok ref02_Covers_ok (sum2RR fun a b s => ⟨rfl, s, ref02_Covers_of rfl (refCovers_run (fun r s => (known (g := gChk) rfl).trans chk_eq) (fun a b s => (known (g := gBelow) rfl).trans below_eq) a b s)⟩)
noncomputable def lib19 : List (FuncId × Sum) := (70, gCkO) :: lib18
theorem lib19_ok : LibOk Try.prog (libL lib19) := libOk_cons progOk lib18_ok ref04_CheckOp_ok (sum1O fun o s => ⟨rfl, s, ref04_CheckOp_of rfl (refCheckOp_run (fun r s => (known (g := gChk) rfl).trans chk_eq) (fun k s => (known (g := gKey) rfl).trans key_eq) o s)⟩)
noncomputable def lib20 : List (FuncId × Sum) := (71, gWr) :: lib19
theorem lib20_ok : LibOk Try.prog (libL lib20) := libOk_cons progOk lib19_ok ref04_Writes_ok (sum1O fun o s => ⟨rfl, s, ref04_Writes_of rfl (refWrites_run o s)⟩)
noncomputable def lib21 : List (FuncId × Sum) := (38, gMapE) :: lib20
theorem lib21_ok : LibOk Try.prog (libL lib21) := libOk_cons progOk lib20_ok ref04_CheckMap_ok (gL_sum (fun _ => rfl) fun v s l h hl => ⟨s, ref04_CheckMap_of rfl (refMap_run (fun k s => (known (g := gKey) rfl).trans key_eq) h hl)⟩)
noncomputable def lib22 : List (FuncId × Sum) := (40, gEB) :: lib21
theorem lib22_ok : LibOk Try.prog (libL lib22) := libOk_cons progOk lib21_ok ref12_Check_ok (gL_sum (fun _ => rfl) fun v s l h hl => ⟨s, ref12_Check_of rfl (ref12_Check_run (fun o s => (known (g := gCkO) rfl).trans ckO_eq) (fun o s => (known (g := gWr) rfl).trans wr_eq) h hl)⟩)
noncomputable def lib23 : List (FuncId × Sum) := (84, gNum) :: lib22
theorem lib23_ok : LibOk Try.prog (libL lib23) := libOk_cons progOk lib22_ok octet_Num_ok (Num_sum rfl)
noncomputable def lib24 : List (FuncId × Sum) := (68, gNum) :: lib23
theorem lib24_ok : LibOk Try.prog (libL lib24) := libOk_cons progOk lib23_ok ref01_Num_ok (refNum_sum rfl)
noncomputable def lib25 : List (FuncId × Sum) := (74, gReadNum) :: lib24
theorem lib25_ok : LibOk Try.prog (libL lib25) := libOk_cons progOk lib24_ok octet_ReadNum_ok (ReadNum_sum rfl)
noncomputable def lib26 : List (FuncId × Sum) := (78, gReadNum) :: lib25
theorem lib26_ok : LibOk Try.prog (libL lib26) := libOk_cons progOk lib25_ok ref01_ReadNum_ok (refReadNum_sum rfl rfl)
noncomputable def lib27 : List (FuncId × Sum) := (75, gReadText) :: lib26
theorem lib27_ok : LibOk Try.prog (libL lib27) := libOk_cons progOk lib26_ok octet_ReadText_ok (readText_known rfl rfl)
noncomputable def lib28 : List (FuncId × Sum) := (79, gReadText) :: lib27
theorem lib28_ok : LibOk Try.prog (libL lib28) := libOk_cons progOk lib27_ok ref01_ReadText_ok (refReadText_known rfl rfl)
noncomputable def lib29 : List (FuncId × Sum) := (85, gText) :: lib28
theorem lib29_ok : LibOk Try.prog (libL lib29) := libOk_cons progOk lib28_ok octet_Text_ok (text_known rfl rfl)
noncomputable def lib30 : List (FuncId × Sum) := (86, gText) :: lib29
theorem lib30_ok : LibOk Try.prog (libL lib30) := libOk_cons progOk lib29_ok ref01_Text_ok (refText_known rfl rfl)
noncomputable def lib31 : List (FuncId × Sum) := (7, gTrue) :: lib30
theorem lib31_ok : LibOk Try.prog (libL lib31) := libOk_direct progOk lib30_ok law13_live_ok (fun hl => live_known hl)
noncomputable abbrev libT := lib31
theorem libT_ok : LibOk Try.prog (libL libT) := lib31_ok
theorem k_live {s : St} : (run Try.prog (libL libT) hints) 7 [] s = some (.bool true, s) := (known (g := gTrue) rfl).trans true_eq
theorem k_key (k : BL) (s : St) : (run Try.prog (libL libT) hints) 30 [sv k] s = some (.int .i64 (eK k), s) := (known (g := gKey) rfl).trans key_eq
theorem k_bchk {v : Value} {s : St} {l : List En} (h : listOf enC v s = some l) (hl : l.length < 140737488355328) : (run Try.prog (libL libT) hints) 31 [v] s = some (.int .i64 (eB l), s) := (known (g := gEB) rfl).trans (gL_eq h hl)
theorem k_map {v : Value} {s : St} {m : List Rg} (hm : listOf prC v s = some m) (hl : m.length < 140737488355328) : (run Try.prog (libL libT) hints) 27 [v] s = some (.int .i64 (mapE [] m), s) := (known (g := gMapE) rfl).trans (gL_eq hm hl)

/-! ### The node in memory -/
def nCells (f : Bool) (p k q b : Value) : List Value := [.bool f, p, k, q, b]
def nSt (s0 : St) (f : Bool) (p k q b : Value) : St := s0.push (.row 0 (nCells f p k q b) .act)
section
variable {s0 : St} {f : Bool} {p k q b : Value} {t : St} (hx : Ext (s0.heap.length + 1) (nSt s0 f p k q b) t)
include hx
theorem nd_row : readRow t s0.heap.length = some (nCells f p k q b) := by
  rw [Ext.readRow hx (by omega)]
  unfold Ab.readRow nSt
  rw [push_get]
theorem nd_ldH {i : Nat} {c : Value} (hc : (nCells f p k q b)[i]? = some c) : aload false 1 (.pointer (some ⟨s0.heap.length, i, none⟩)) t = some c := by
  simp [aload, nd_row hx, hc]
theorem nd_all : aload true 5 (.pointer (some ⟨s0.heap.length, 0, none⟩)) (frzS t) = some (ndV f p k q b) := by
  simp only [aload, if_true, readN, readRow_frz, nd_row hx, Option.bind_some]
  rfl
end
theorem ad {N i : Nat} : afieldAddr i (.pointer (some ⟨N, 0, none⟩)) = some (.pointer (some ⟨N, i, none⟩)) := by simp [afieldAddr]
abbrev pN (s0 : St) : Value := .pointer (some ⟨s0.heap.length, 0, none⟩)

/-! ### The loops -/
theorem nb0_loop {s0 : St} {f : Bool} {p k q b : Value} {s : St} (hx : Ext (s0.heap.length + 1) (nSt s0 f p k q b) s) {ps : List BL} (h : listOf strC q s = some ps) (hl : ps.length < 140737488355328) : ∀ (rest : List BL) (i : Nat), ps.drop i = rest → i ≤ ps.length →
    loopL (node_Check.b0 (run Try.prog (libL libT) hints)) [pN s0, q, .int .i64 ((ps.length : Nat) : Int), .int .i64 (i : Int)] s = if okP (prevS ps i) rest = true then some (.exit 0, [pN s0], s) else some (.ret, [.int .i64 130], s) := by
  have hq := nd_ldH hx (i := 3) (c := q) rfl
  intro rest
  induction rest with
  | nil =>
    intro i hi hle
    have h1 : decide ((i : Int) < ((ps.length : Nat) : Int)) = false := by
      have := List.drop_eq_nil_iff.1 hi
      simp; omega
    rw [loopL_eq]
    simp only [node_Check.b0, h1, n_bind, n_map, getL_0, getL_1, getL_2, getL_3, getL_4, getL_5, getL_6, getL_7, getL_8, getL_9, getL_10, getL_11, getL_12, condV_t, condV_f, guardV_tt, guardV_ff, guardV_tf, guardV_ft, guardV_u, apick_t, apick_f, exV_exit, exV_ret, lookE_same, joinK_eq, seqA_n, seqA_e, seqA_r, e_add, e_sub, e_mul, e_eql, e_neq, e_lss, e_leq, e_gtr, e_geq, e_conv, e_not, e_neg, and_guard, or_guard, okP, if_true]
  | cons x rest ih =>
    intro i hi hle
    obtain ⟨hlt, he, hd⟩ := drop_get hi
    have h1 : decide ((i : Int) < ((ps.length : Nat) : Int)) = true := by simp; omega
    obtain ⟨a, h2, h3⟩ := str_at h hlt
    rw [he] at h3
    have hn : prevS ps (i + 1) = some x := by simp only [prevS, List.getElem?_eq_getElem hlt, he]
    have key := ih (i + 1) hd (by omega)
    rw [hn] at key
    rw [loopL_eq, okP_cons]
    rcases Bool.eq_false_or_eq_true (ckK x) with c1 | c1
    · cases i with
      | zero =>
        have c3 : decide (((0 : Nat) : Int) > 0) = false := rfl
        simp only [node_Check.b0, h1, h2, h3, span_CheckKey_call, k_key, eK_n, c1, c3, Bool.not_true, prevS, Bool.true_and, Bool.and_true, Bool.or_self, inc_i64 (show 0 < 140737488355328 by omega), n_bind, n_map, getL_0, getL_1, getL_2, getL_3, getL_4, getL_5, getL_6, getL_7, getL_8, getL_9, getL_10, getL_11, getL_12, condV_t, condV_f, guardV_tt, guardV_ff, guardV_tf, guardV_ft, guardV_u, apick_t, apick_f, exV_exit, exV_ret, lookE_same, joinK_eq, seqA_n, seqA_e, seqA_r, e_add, e_sub, e_mul, e_eql, e_neq, e_lss, e_leq, e_gtr, e_geq, e_conv, e_not, e_neg, and_guard, or_guard]
        exact key
      | succ j =>
        have c3 : decide (((j + 1 : Nat) : Int) > 0) = true := decide_eq_true (by omega)
        have hj : j < ps.length := by omega
        obtain ⟨a2, f1, f2⟩ := str_at h hj
        have hd1 : IntKind.wrap .i64 (((j + 1 : Nat) : Int) - 1) = ((j : Nat) : Int) := by rw [wrap_i64 (by omega) (by omega)]; omega
        have hp : prevS ps (j + 1) = some ps[j] := by simp only [prevS, List.getElem?_eq_getElem hj]
        rw [hp]
        rcases Bool.eq_false_or_eq_true (bl ps[j] x) with c4 | c4
        · simp only [node_Check.b0, h1, h2, h3, span_CheckKey_call, k_key, eK_n, c1, c3, hd1, ad, hq, f1, f2, geq_bl, c4, Bool.not_true, Bool.true_and, Bool.and_true, Bool.and_self, Bool.or_self, Bool.or_false, Bool.and_false, inc_i64 (show j + 1 < 140737488355328 by omega), n_bind, n_map, getL_0, getL_1, getL_2, getL_3, getL_4, getL_5, getL_6, getL_7, getL_8, getL_9, getL_10, getL_11, getL_12, condV_t, condV_f, guardV_tt, guardV_ff, guardV_tf, guardV_ft, guardV_u, apick_t, apick_f, exV_exit, exV_ret, lookE_same, joinK_eq, seqA_n, seqA_e, seqA_r, e_add, e_sub, e_mul, e_eql, e_neq, e_lss, e_leq, e_gtr, e_geq, e_conv, e_not, e_neg, and_guard, or_guard]
          exact key
        · simp only [node_Check.b0, h1, h2, h3, span_CheckKey_call, k_key, eK_n, c1, c3, hd1, ad, hq, f1, f2, geq_bl, c4, Bool.not_true, Bool.not_false, Bool.true_and, Bool.and_true, Bool.and_self, Bool.and_false, Bool.false_and, Bool.or_true, Bool.false_or, Bool.false_eq_true, if_false, n_bind, n_map, getL_0, getL_1, getL_2, getL_3, getL_4, getL_5, getL_6, getL_7, getL_8, getL_9, getL_10, getL_11, getL_12, condV_t, condV_f, guardV_tt, guardV_ff, guardV_tf, guardV_ft, guardV_u, apick_t, apick_f, exV_exit, exV_ret, lookE_same, joinK_eq, seqA_n, seqA_e, seqA_r, e_add, e_sub, e_mul, e_eql, e_neq, e_lss, e_leq, e_gtr, e_geq, e_conv, e_not, e_neg, and_guard, or_guard]
    · simp only [node_Check.b0, h1, h2, h3, span_CheckKey_call, k_key, eK_n, c1, Bool.not_false, Bool.false_and, Bool.true_or, Bool.false_eq_true, if_false, n_bind, n_map, getL_0, getL_1, getL_2, getL_3, getL_4, getL_5, getL_6, getL_7, getL_8, getL_9, getL_10, getL_11, getL_12, condV_t, condV_f, guardV_tt, guardV_ff, guardV_tf, guardV_ft, guardV_u, apick_t, apick_f, exV_exit, exV_ret, lookE_same, joinK_eq, seqA_n, seqA_e, seqA_r, e_add, e_sub, e_mul, e_eql, e_neq, e_lss, e_leq, e_gtr, e_geq, e_conv, e_not, e_neg, and_guard, or_guard]
def enN : NCod En := .ofC enC fun e => (Lit.int .u64 e.1).wf = true
theorem row_plain {l : List En} {s : St} {c : Value} (h : (NCod.list enN 88).rel l s [c]) : listOf enC c s = some l ∧ l.length < 140737488355328 := by
  obtain ⟨v, e, h1⟩ := h
  cases e
  obtain ⟨g1, _, g3⟩ := h1.plain
  exact ⟨g1, by omega⟩
def firstE : List (List En) → Int
  | [] => 0
  | l :: r => if eB l == 0 then firstE r else eB l
theorem nb1_loop {P0 : Value} {b : Value} {s : St} {bs : List (List En)} (h : ListN (.list enN 88) 24 bs s b) : ∀ (rest : List (List En)) (i : Nat), bs.drop i = rest → i ≤ bs.length →
    loopL (node_Check.b1 (run Try.prog (libL libT) hints)) [P0, b, .int .i64 ((bs.length : Nat) : Int), .int .i64 (i : Int)] s = if (firstE rest == 0) = true then some (.exit 2, [P0], s) else some (.ret, [.int .i64 (firstE rest)], s) := by
  have hl : bs.length < 140737488355328 := by
    have h1 : bs.length * 24 ≤ 140737488351232 := h.1
    omega
  intro rest
  induction rest with
  | nil =>
    intro i hi hle
    have h1 : decide ((i : Int) < ((bs.length : Nat) : Int)) = false := by
      have := List.drop_eq_nil_iff.1 hi
      simp; omega
    rw [loopL_eq]
    simp only [node_Check.b1, h1, n_bind, n_map, getL_0, getL_1, getL_2, getL_3, getL_4, getL_5, getL_6, getL_7, getL_8, getL_9, getL_10, getL_11, getL_12, condV_t, condV_f, guardV_tt, guardV_ff, guardV_tf, guardV_ft, guardV_u, apick_t, apick_f, exV_exit, exV_ret, lookE_same, joinK_eq, seqA_n, seqA_e, seqA_r, e_add, e_sub, e_mul, e_eql, e_neq, e_lss, e_leq, e_gtr, e_geq, e_conv, e_not, e_neg, and_guard, or_guard, firstE]
    rfl
  | cons x rest ih =>
    intro i hi hle
    obtain ⟨hlt, he, hd⟩ := drop_get hi
    have h1 : decide ((i : Int) < ((bs.length : Nat) : Int)) = true := by simp; omega
    obtain ⟨a, c, h2, h3, h4⟩ := listN_at rfl h hlt
    rw [he] at h4
    obtain ⟨g1, g2⟩ := row_plain h4
    have key := ih (i + 1) hd (by omega)
    have hne : (eB x != 0) = !(eB x == 0) := rfl
    rw [loopL_eq]
    simp only [firstE]
    rcases Bool.eq_false_or_eq_true (eB x == 0) with c1 | c1
    · simp only [node_Check.b1, h1, h2, h3, buffer_Check_call, k_bchk g1 g2, hne, c1, Bool.not_true, if_true, inc_i64 (show i < 140737488355328 by omega), n_bind, n_map, getL_0, getL_1, getL_2, getL_3, getL_4, getL_5, getL_6, getL_7, getL_8, getL_9, getL_10, getL_11, getL_12, condV_t, condV_f, guardV_tt, guardV_ff, guardV_tf, guardV_ft, guardV_u, apick_t, apick_f, exV_exit, exV_ret, lookE_same, joinK_eq, seqA_n, seqA_e, seqA_r, e_add, e_sub, e_mul, e_eql, e_neq, e_lss, e_leq, e_gtr, e_geq, e_conv, e_not, e_neg, and_guard, or_guard]
      exact key
    · simp only [node_Check.b1, h1, h2, h3, buffer_Check_call, k_bchk g1 g2, hne, c1, Bool.not_false, Bool.false_eq_true, if_false, n_bind, n_map, getL_0, getL_1, getL_2, getL_3, getL_4, getL_5, getL_6, getL_7, getL_8, getL_9, getL_10, getL_11, getL_12, condV_t, condV_f, guardV_tt, guardV_ff, guardV_tf, guardV_ft, guardV_u, apick_t, apick_f, exV_exit, exV_ret, lookE_same, joinK_eq, seqA_n, seqA_e, seqA_r, e_add, e_sub, e_mul, e_eql, e_neq, e_lss, e_leq, e_gtr, e_geq, e_conv, e_not, e_neg, and_guard, or_guard]

end Go.Proofs.Ytamaapapaiopiaa.Ab
