/- The abstract machine against the model: how values and memory correspond. -/
import Derived.Test.YtamaapapaiopiaaBRun
import Derived.Laws.Sem
import Derived.Laws.World
import Derived.Laws.Cells
import Derived.Below
set_option linter.unusedVariables false
set_option linter.unusedSimpArgs false
set_option linter.unusedSectionVars false
namespace Go.Proofs.Ytamaapapaiopiaa.Ab
open Go

/-- where an abstract block lies: its block, the place of its first cell; the cells of an element (0: it doesn't grow), the cells of the block -/
structure Loc where
  blk : Nat
  off : Nat
  n : Nat
  z : Nat
abbrev Emb := Nat → Option Loc

def All2 {α β : Type} (R : α → β → Prop) : List α → List β → Prop
  | [], [] => True
  | a :: l, b :: m => R a b ∧ All2 R l m
  | _, _ => False

section all2
variable {α β : Type} {R S : α → β → Prop}
theorem All2.mono (h : ∀ a b, R a b → S a b) : ∀ {l : List α} {m : List β}, All2 R l m → All2 S l m
  | [], [], _ => trivial
  | _ :: _, _ :: _, ⟨h1, h2⟩ => ⟨h _ _ h1, All2.mono h h2⟩
theorem All2.length : ∀ {l : List α} {m : List β}, All2 R l m → l.length = m.length
  | [], [], _ => rfl
  | _ :: _, _ :: _, ⟨_, h2⟩ => by simp [All2.length h2]
theorem All2.get : ∀ {l : List α} {m : List β}, All2 R l m → ∀ (i : Nat) (a : α), l[i]? = some a → ∃ b, m[i]? = some b ∧ R a b
  | [], [], _, i, a, h => by simp at h
  | x :: l, y :: m, ⟨h1, h2⟩, 0, a, h => by simp at h; exact ⟨y, rfl, h ▸ h1⟩
  | x :: l, y :: m, ⟨h1, h2⟩, i + 1, a, h => by
    obtain ⟨b, hb, hr⟩ := All2.get h2 i a (by simpa using h)
    exact ⟨b, by simpa using hb, hr⟩
theorem All2.append : ∀ {l : List α} {m : List β} {l' : List α} {m' : List β}, All2 R l m → All2 R l' m' → All2 R (l ++ l') (m ++ m')
  | [], [], _, _, _, h => h
  | _ :: _, _ :: _, _, _, ⟨h1, h2⟩, h => ⟨h1, All2.append h2 h⟩
theorem All2.take : ∀ {l : List α} {m : List β}, All2 R l m → ∀ n, All2 R (l.take n) (m.take n)
  | [], [], _, n => by simp [All2]
  | _ :: _, _ :: _, _, 0 => trivial
  | _ :: _, _ :: _, ⟨h1, h2⟩, n + 1 => ⟨h1, All2.take h2 n⟩
theorem All2.drop : ∀ {l : List α} {m : List β}, All2 R l m → ∀ n, All2 R (l.drop n) (m.drop n)
  | [], [], _, n => by simp [All2]
  | _ :: _, _ :: _, h, 0 => h
  | _ :: _, _ :: _, ⟨_, h2⟩, n + 1 => by simpa using All2.drop h2 n
theorem All2.of_get : ∀ {l : List α} {m : List β}, l.length = m.length → (∀ (i : Nat) (a : α) (b : β), l[i]? = some a → m[i]? = some b → R a b) → All2 R l m
  | [], [], _, _ => trivial
  | [], _ :: _, h, _ => by simp at h
  | _ :: _, [], h, _ => by simp at h
  | x :: l, y :: m, h, g => ⟨g 0 x y rfl rfl, All2.of_get (l := l) (m := m) (by simpa using h) fun i a b (ha : l[i]? = some a) (hb : m[i]? = some b) => g (i + 1) a b (by simpa using ha) (by simpa using hb)⟩
end all2

/-- plain values -/
inductive L0 (ι : Emb) : Value → Value → Prop
  | bool (b : Bool) : L0 ι (.bool b) (.bool b)
  | int (k : IntKind) (n : Int) : L0 ι (.int k n) (.int k n)
  | string (s : ByteArray) : L0 ι (.string s) (.string s)
  | pnil : L0 ι (.pointer none) (.pointer none)
  | ptr {b : Nat} {l : Loc} (off : Nat) (h : ι b = some l) : L0 ι (.pointer (some ⟨b, off, none⟩)) (.pointer (some ⟨l.blk, l.off + off, none⟩))
  | snil : L0 ι (.slice none 0 0) (.slice none 0 0)
  | slice {b len cap cap' : Nat} {l : Loc} (off : Nat) (h : ι b = some l) (hl : len ≤ cap) (hc : cap ≤ cap') (hz : off = 0 → l.off + cap' * l.n ≤ l.z) : L0 ι (.slice (some ⟨b, off, none⟩) len cap) (.slice (some ⟨l.blk, l.off + off, none⟩) len cap')
  | slice0 (a a' : Addr) : L0 ι (.slice (some a) 0 0) (.slice (some a') 0 0)
  | mnil : L0 ι (.map none) (.map none)
  | map {b : Nat} {l : Loc} (h : ι b = some l) : L0 ι (.map (some b)) (.map (some l.blk))
  | nilFunc : L0 ι .nilFunc .nilFunc
  | nilIface : L0 ι .nilIface .nilIface
  | func (fn : Fn) : L0 ι (.func fn #[] #[]) (.func fn #[] #[])

/-- with closures -/
inductive L1 (ι : Emb) : Value → Value → Prop
  | l0 {v v' : Value} (h : L0 ι v v') : L1 ι v v'
  | func (fn : Fn) {a a' b b' : Array Value} (ha : All2 (L0 ι) a.toList a'.toList) (hb : All2 (L0 ι) b.toList b'.toList) : L1 ι (.func fn a b) (.func fn a' b')

/-- the value of one cell -/
inductive L2 (ι : Emb) : Value → Value → Prop
  | l1 {v v' : Value} (h : L1 ι v v') : L2 ι v v'
  | iface (t : TypeId) {v v' : Value} (h : L1 ι v v') : L2 ι (.iface t v) (.iface t v')
  | ifaceAgg (t : TypeId) {a a' : Array Value} (h : All2 (L1 ι) a.toList a'.toList) : L2 ι (.iface t (.agg a)) (.iface t (.agg a'))

inductive VA (ι : Emb) : Value → Value → Prop
  | l2 {v v' : Value} (h : L2 ι v v') : VA ι v v'
  | agg {a a' : Array Value} (h : All2 (L2 ι) a.toList a'.toList) : VA ι (.agg a) (.agg a')

inductive VRel (ι : Emb) : Value → Value → Prop
  | va {v v' : Value} (h : VA ι v v') : VRel ι v v'
  | tuple {a a' : Array Value} (h : All2 (VA ι) a.toList a'.toList) : VRel ι (.tuple a) (.tuple a')
  | poison (v' : Value) : VRel ι (.tuple #[.tuple #[]]) v'

def Emb.le (ι κ : Emb) : Prop := ∀ b x, ι b = some x → κ b = some x
theorem Emb.le.refl (ι : Emb) : ι.le ι := fun _ _ h => h
theorem Emb.le.trans {ι κ l : Emb} (h : ι.le κ) (g : κ.le l) : ι.le l := fun b x e => g b x (h b x e)

section mono
variable {ι κ : Emb} (hi : ι.le κ)
include hi
theorem L0.mono {v v' : Value} (h : L0 ι v v') : L0 κ v v' := by
  cases h with
  | bool b => exact .bool b
  | int k n => exact .int k n
  | string s => exact .string s
  | pnil => exact .pnil
  | ptr off h => exact .ptr off (hi _ _ h)
  | snil => exact .snil
  | slice off h hl hc hz => exact .slice off (hi _ _ h) hl hc hz
  | slice0 a a' => exact .slice0 a a'
  | mnil => exact .mnil
  | map h => exact .map (hi _ _ h)
  | nilFunc => exact .nilFunc
  | nilIface => exact .nilIface
  | func fn => exact .func fn
theorem L1.mono {v v' : Value} (h : L1 ι v v') : L1 κ v v' := by
  cases h with
  | l0 h => exact .l0 (h.mono hi)
  | func fn ha hb => exact .func fn (ha.mono fun _ _ => L0.mono hi) (hb.mono fun _ _ => L0.mono hi)
theorem L2.mono {v v' : Value} (h : L2 ι v v') : L2 κ v v' := by
  cases h with
  | l1 h => exact .l1 (h.mono hi)
  | iface t h => exact .iface t (h.mono hi)
  | ifaceAgg t h => exact .ifaceAgg t (h.mono fun _ _ => L1.mono hi)
theorem VA.mono {v v' : Value} (h : VA ι v v') : VA κ v v' := by
  cases h with
  | l2 h => exact .l2 (h.mono hi)
  | agg h => exact .agg (h.mono fun _ _ => L2.mono hi)
theorem VRel.mono {v v' : Value} (h : VRel ι v v') : VRel κ v v' := by
  cases h with
  | va h => exact .va (h.mono hi)
  | tuple h => exact .tuple (h.mono fun _ _ => VA.mono hi)
  | poison v' => exact .poison v'
end mono

/-- the abstract block is one that may be written -/
def ownB : Option Blk → Bool
  | some (.row _ _ .act) => true
  | some (.map _ _) => true
  | _ => false

def entRel (ι : Emb) (x : Value × Value × Nat) (e : MapEntry) : Prop := e.key = x.1 ∧ constOk x.1 = true ∧ VA ι x.2.1 e.val ∧ e.born = x.2.2

/-- no cell of so many is frozen -/
def fzOk (k : Nat) (fz : Nat × Nat) (n : Nat) : Prop := fz.1 = fz.2 ∨ (k = 1 ∧ n ≤ fz.1)
theorem fzOk.no {k : Nat} {fz : Nat × Nat} {n : Nat} (h : fzOk k fz n) (i : Nat) (hi : i < n) : ¬(fz.1 ≤ i ∧ i < fz.2) := by
  unfold fzOk at h
  omega

structure Sim (wb : Nat) (ι : Emb) (H : List Blk) (w : World) : Prop where
  dom : ∀ b x, ι b = some x → b < H.length
  row : ∀ b n cells st, H[b]? = some (.row n cells st) → st ≠ .dead → ∀ l, ι b = some l →
    ∃ cs e fz, w.heap[l.blk]? = some (.cells cs e fz) ∧ (st = .ro → l.blk < wb) ∧ (st = .act → wb ≤ l.blk ∧ l.n = n ∧ l.z = cs.size ∧ fzOk n fz cs.size) ∧
      ∀ (i : Nat) (v : Value), cells[i]? = some v → ∃ v' : Value, cs[l.off + i]? = some v' ∧ L2 ι v v'
  map : ∀ b es clock, H[b]? = some (.map es clock) → ∀ l, ι b = some l →
    wb ≤ l.blk ∧ (l.n = 0 ∧ l.off ≤ l.z) ∧ ∃ es', w.heap[l.blk]? = some (.map es' clock) ∧ All2 (entRel ι) es es'.toList
  excl : ∀ a b, ownB H[a]? = true → ownB H[b]? = true → a ≠ b → ∀ x y, ι a = some x → ι b = some y → x.blk ≠ y.blk
  size : wb ≤ w.heap.size
  loc : ∀ b n cells st, H[b]? = some (.row n cells st) → st ≠ .dead → ∀ l, ι b = some l → l.n = n ∧ l.off ≤ l.z

/-- from one state to a later one -/
structure Step (ι : Emb) (H : List Blk) (w : World) (κ : Emb) (K : List Blk) (v : World) : Prop where
  le : ι.le κ
  old : ∀ b, b < H.length → κ b = ι b
  img : ∀ b x, κ b = some x → H.length ≤ b → w.heap.size ≤ x.blk ∨ ∃ a y, ownB H[a]? = true ∧ ι a = some y ∧ y.blk = x.blk
  keep : ∀ c, c < w.heap.size → (∀ a y, ownB H[a]? = true → ι a = some y → y.blk ≠ c) → v.heap[c]? = w.heap[c]?
  size : w.heap.size ≤ v.heap.size
  os : v.os = w.os
  tape : v.tape = w.tape
  output : v.output = w.output
  len : H.length ≤ K.length
  own : ∀ a, a < H.length → ownB K[a]? = true → ownB H[a]? = true

theorem Step.refl (ι : Emb) (H : List Blk) (w : World) (hd : ∀ b x, ι b = some x → b < H.length) : Step ι H w ι H w where
  le := .refl _
  old _ _ := rfl
  img b x h hb := absurd (hd b x h) (by omega)
  keep _ _ _ := rfl
  size := Nat.le_refl _
  os := rfl
  tape := rfl
  output := rfl
  len := Nat.le_refl _
  own _ _ h := h

theorem Step.trans {ι κ l : Emb} {H K L : List Blk} {w v u : World} (h : Step ι H w κ K v) (g : Step κ K v l L u) : Step ι H w l L u where
  le := h.le.trans g.le
  old b hb := (g.old b (Nat.lt_of_lt_of_le hb h.len)).trans (h.old b hb)
  img b x e hb := by
    by_cases hk : b < K.length
    · rw [g.old b hk] at e
      exact h.img b x e hb
    · rcases g.img b x e (by omega) with h1 | ⟨a, y, ha, hy, he⟩
      · exact .inl (Nat.le_trans h.size h1)
      · by_cases hH : a < H.length
        · rw [h.old a hH] at hy
          exact .inr ⟨a, y, h.own a hH ha, hy, he⟩
        · rcases h.img a y hy (by omega) with h2 | ⟨a', y', ha', hy', he'⟩
          · exact .inl (he ▸ h2)
          · exact .inr ⟨a', y', ha', hy', he'.trans he⟩
  keep c hc hn := by
    rw [g.keep c (Nat.lt_of_lt_of_le hc h.size) ?_, h.keep c hc hn]
    intro a y ha hy he
    by_cases hH : a < H.length
    · rw [h.old a hH] at hy
      exact hn a y (h.own a hH ha) hy he
    · rcases h.img a y hy (by omega) with h2 | ⟨a', y', ha', hy', he'⟩
      · omega
      · exact hn a' y' ha' hy' (he'.trans he)
  size := Nat.le_trans h.size g.size
  os := g.os.trans h.os
  tape := g.tape.trans h.tape
  output := g.output.trans h.output
  len := Nat.le_trans h.len g.len
  own a ha e := h.own a ha (g.own a (Nat.lt_of_lt_of_le ha h.len) e)

end Go.Proofs.Ytamaapapaiopiaa.Ab
