/- Texts of this proof, packed: BView, BRow, Lib0, BLaw, BOrd, BRange. -/
import Derived.Test.YtckpcelchhmjcaaGreatPk2
import Derived.WalkKit
import Derived.Test.YtckpcelchhmjcaaGreatProg
import Derived.KernelRfl
import Derived.Laws.Strings
import Derived.RangeFuncLeaves
import Derived.RangeFuncKeeps
set_option linter.unusedVariables false
set_option linter.unusedSimpArgs false
set_option linter.unusedSectionVars false
/- What is known of a function, told of a heap without what it leaves behind. -/
namespace Go.Proofs.YtckpcelchhmjcaaGreat.Ab
open Go

section
variable (ρ : Nat → Nat) (D : Nat)
/-- the same value, where blocks have other numbers -/
inductive Vw0 : Value → Value → Prop
  | same (v : Value) (h : leafOk v = true) : Vw0 v v
  | ptr (b off : Nat) (hb : b < D) : Vw0 (.pointer (some ⟨b, off, none⟩)) (.pointer (some ⟨ρ b, off, none⟩))
  | slice (b off len cap cap' : Nat) (hb : b < D) (hl : len ≤ cap) (hc : cap ≤ cap') : Vw0 (.slice (some ⟨b, off, none⟩) len cap) (.slice (some ⟨ρ b, off, none⟩) len cap')
  | map (b : Nat) (hb : b < D) : Vw0 (.map (some b)) (.map (some (ρ b)))
inductive Vw1 : Value → Value → Prop
  | l0 {u v : Value} (h : Vw0 ρ D u v) : Vw1 u v
  | func (fn : Fn) {a a' b b' : Array Value} (ha : All2 (Vw0 ρ D) a.toList a'.toList) (hb : All2 (Vw0 ρ D) b.toList b'.toList) : Vw1 (.func fn a b) (.func fn a' b')
inductive Vw2 : Value → Value → Prop
  | l1 {u v : Value} (h : Vw1 ρ D u v) : Vw2 u v
  | iface (t : TypeId) {u v : Value} (h : Vw1 ρ D u v) : Vw2 (.iface t u) (.iface t v)
  | ifaceAgg (t : TypeId) {a a' : Array Value} (h : All2 (Vw1 ρ D) a.toList a'.toList) : Vw2 (.iface t (.agg a)) (.iface t (.agg a'))
inductive VwA : Value → Value → Prop
  | l2 {u v : Value} (h : Vw2 ρ D u v) : VwA u v
  | agg {a a' : Array Value} (h : All2 (Vw2 ρ D) a.toList a'.toList) : VwA (.agg a) (.agg a')
inductive Vw : Value → Value → Prop
  | va {u v : Value} (h : VwA ρ D u v) : Vw u v
  | tuple {a a' : Array Value} (h : All2 (VwA ρ D) a.toList a'.toList) : Vw (.tuple a) (.tuple a')
end

def Emb.via (κ : Emb) (ρ : Nat → Nat) (D : Nat) : Emb := fun b => if b < D then κ (ρ b) else none

section
variable {κ : Emb} {ρ : Nat → Nat} {D : Nat}
theorem Emb.via_lt {b : Nat} (hb : b < D) : κ.via ρ D b = κ (ρ b) := if_pos hb

theorem All2.comp {α β γ : Type} {R : α → β → Prop} {S : β → γ → Prop} {T : α → γ → Prop} (h : ∀ a b c, R a b → S b c → T a c) : ∀ {l : List α} {m : List β} {n : List γ}, All2 R l m → All2 S m n → All2 T l n
  | [], [], [], _, _ => trivial
  | _ :: _, _ :: _, _ :: _, ⟨h1, h2⟩, ⟨g1, g2⟩ => ⟨h _ _ _ h1 g1, All2.comp h h2 g2⟩

theorem All2.nilL {α β : Type} {R S : α → β → Prop} {l : List α} {m : List β} (h : All2 R l m) (e : l = []) : All2 S l m := by
  subst e
  cases m with
  | nil => trivial
  | cons => exact h.elim
theorem All2.nilR {α β γ : Type} {R : α → β → Prop} {S : α → γ → Prop} {l : List α} {m : List β} {n : List γ} (h : All2 R l m) (e : m = []) (e2 : n = [] := by rfl) : All2 S l n := by
  subst e e2
  cases l with
  | nil => trivial
  | cons => exact h.elim

theorem leaf_via {v x : Value} (h : leafOk v = true) (g : L0 κ v x) : L0 (κ.via ρ D) v x := by
  cases g with
  | bool b => exact .bool b
  | int k n => exact .int k n
  | string s => exact .string s
  | pnil => exact .pnil
  | ptr => simp [leafOk] at h
  | snil => exact .snil
  | slice => simp [leafOk] at h
  | slice0 => simp [leafOk] at h
  | mnil => exact .mnil
  | map => simp [leafOk] at h
  | nilFunc => exact .nilFunc
  | nilIface => exact .nilIface
  | func fn => exact .func fn
theorem Vw0.via {u v x : Value} (h : Vw0 ρ D u v) (g : L0 κ v x) : L0 (κ.via ρ D) u x := by
  cases h with
  | same _ h => exact leaf_via h g
  | ptr b off hb => cases g with
    | ptr _ g => exact .ptr off (by rw [Emb.via_lt hb]; exact g)
  | slice b off len cap cap' hb hl hc => cases g with
    | slice _ g gl gc gz => exact .slice off (by rw [Emb.via_lt hb]; exact g) hl (Nat.le_trans hc gc) gz
    | slice0 =>
      obtain rfl := Nat.le_zero.1 hc
      exact .slice0 _ _
  | map b hb => cases g with
    | map g => exact .map (by rw [Emb.via_lt hb]; exact g)
theorem Vw1.via {u v x : Value} (h : Vw1 ρ D u v) (g : L1 κ v x) : L1 (κ.via ρ D) u x := by
  cases h with
  | l0 h => cases g with
    | l0 g => exact .l0 (h.via g)
    | func fn ga gb => cases h with
      | same _ h =>
        simp [leafOk] at h
        obtain ⟨rfl, rfl⟩ := h
        exact .func fn (ga.nilL rfl) (gb.nilL rfl)
  | func fn ha hb => cases g with
    | func _ ga gb => exact .func fn (ha.comp (R := Vw0 ρ D) (S := L0 κ) (T := L0 (κ.via ρ D)) (fun _ _ _ h g => Vw0.via h g) ga) (hb.comp (R := Vw0 ρ D) (S := L0 κ) (T := L0 (κ.via ρ D)) (fun _ _ _ h g => Vw0.via h g) gb)
    | l0 g => cases g with
      | func =>
        exact .func fn (ha.nilR rfl) (hb.nilR rfl)
theorem Vw2.via {u v x : Value} (h : Vw2 ρ D u v) (g : L2 κ v x) : L2 (κ.via ρ D) u x := by
  cases h with
  | l1 h => cases g with
    | l1 g => exact .l1 (h.via g)
    | iface => cases h with
      | l0 h => cases h with
        | same _ h => simp [leafOk] at h
    | ifaceAgg => cases h with
      | l0 h => cases h with
        | same _ h => simp [leafOk] at h
  | iface t h => cases g with
    | iface _ g => exact .iface t (h.via g)
    | ifaceAgg _ g => cases h with
      | l0 h => cases h with
        | same _ h => simp [leafOk] at h
    | l1 g => cases g with
      | l0 g => cases g
  | ifaceAgg t h => cases g with
    | ifaceAgg _ g => exact .ifaceAgg t (h.comp (R := Vw1 ρ D) (S := L1 κ) (T := L1 (κ.via ρ D)) (fun _ _ _ h g => Vw1.via h g) g)
    | iface _ g => cases g with
      | l0 g => cases g
    | l1 g => cases g with
      | l0 g => cases g
theorem VwA.via {u v x : Value} (h : VwA ρ D u v) (g : VA κ v x) : VA (κ.via ρ D) u x := by
  cases h with
  | l2 h => cases g with
    | l2 g => exact .l2 (h.via g)
    | agg => cases h with
      | l1 h => cases h with
        | l0 h => cases h with
          | same _ h => simp [leafOk] at h
  | agg h => cases g with
    | agg g => exact .agg (h.comp (R := Vw2 ρ D) (S := L2 κ) (T := L2 (κ.via ρ D)) (fun _ _ _ h g => Vw2.via h g) g)
    | l2 g => cases g with
      | l1 g => cases g with
        | l0 g => cases g
theorem Vw.via {u v x : Value} (h : Vw ρ D u v) (g : VRel κ v x) : VRel (κ.via ρ D) u x := by
  cases h with
  | va h => cases g with
    | va g => exact .va (h.via g)
    | tuple => cases h with
      | l2 h => cases h with
        | l1 h => cases h with
          | l0 h => cases h with
            | same _ h => simp [leafOk] at h
    | poison => cases h with
      | l2 h => cases h with
        | l1 h => cases h with
          | l0 h => cases h with
            | same _ h => simp [leafOk] at h
  | tuple h => cases g with
    | tuple g => exact .tuple (h.comp (R := VwA ρ D) (S := VA κ) (T := VA (κ.via ρ D)) (fun _ _ _ h g => VwA.via h g) g)
    | poison =>
      revert h
      generalize (Array.toList _) = l
      intro h
      cases l with
      | nil => exact h.elim
      | cons y l =>
        have := h.1
        cases this with
        | l2 h => cases h with
          | l1 h => cases h with
            | l0 h => cases h with
              | same _ h => simp [leafOk] at h
    | va g => cases g with
      | l2 g => cases g with
        | l1 g => cases g with
          | l0 g => cases g

end

/-! ### A run on a heap that may not be written -/
def frzS (s : St) : St := ⟨frzK [] 0 s.heap⟩
theorem frzS_get (s : St) (b : Nat) : (frzS s).heap[b]? = (s.heap[b]?).map frzB := by
  have := frzK_get (K := []) (l := s.heap) (i := 0) (b := b)
  rw [show frzB = viewB .frz from rfl]
  simpa [frzS] using this
theorem frzS_len (s : St) : (frzS s).heap.length = s.heap.length := frzK_length
theorem frzS_own (s : St) (b : Nat) : ownB (frzS s).heap[b]? = false := by
  rw [frzS_get]
  cases s.heap[b]? with
  | none => rfl
  | some x => cases x with
    | row n c st => cases st <;> rfl
    | map => rfl

theorem Sim.frz {wb : Nat} {ι : Emb} {s : St} {w : World} (h : Sim wb ι s.heap w) : Sim w.heap.size ι (frzS s).heap w where
  dom b x hx := by rw [frzS_len]; exact h.dom b x hx
  row b n cells st hb hst l hl := by
    rw [frzS_get] at hb
    cases hx : s.heap[b]? with
    | none => rw [hx] at hb; cases hb
    | some x =>
      rw [hx] at hb
      have key : ∃ st0, x = .row n cells st0 ∧ st0 ≠ .dead ∧ st = .ro := by
        cases x with
        | map => simp [frzB] at hb; exact absurd hb.2.2.symm hst
        | row n' c' st' =>
          cases st' with
          | act => simp [frzB] at hb; obtain ⟨rfl, rfl, rfl⟩ := hb; exact ⟨.act, rfl, by simp, rfl⟩
          | ro => simp [frzB] at hb; obtain ⟨rfl, rfl, rfl⟩ := hb; exact ⟨.ro, rfl, by simp, rfl⟩
          | dead => simp [frzB] at hb; exact absurd hb.2.2.symm hst
      obtain ⟨st0, rfl, h0, rfl⟩ := key
      obtain ⟨cs, e, fz, q1, _, _, q4⟩ := h.row b n cells st0 hx h0 l hl
      exact ⟨cs, e, fz, q1, fun _ => (Array.getElem?_eq_some_iff.1 q1).1, fun hh => (by cases hh), q4⟩
  map b es clock hb := by
    rw [frzS_get] at hb
    cases hx : s.heap[b]? with
    | none => rw [hx] at hb; cases hb
    | some x =>
      rw [hx] at hb
      cases x with
      | row n c st => cases st <;> simp [frzB] at hb
      | map => simp [frzB] at hb
  excl a b ha := by rw [frzS_own] at ha; cases ha
  size := Nat.le_refl _
  loc b n cells st hb hst l hl := by
    rw [frzS_get] at hb
    cases hx : s.heap[b]? with
    | none => rw [hx] at hb; cases hb
    | some x =>
      rw [hx] at hb
      have key : ∃ st0, x = .row n cells st0 ∧ st0 ≠ .dead := by
        cases x with
        | map => simp [frzB] at hb; exact absurd hb.2.2.symm hst
        | row n' c' st' =>
          cases st' with
          | act => simp [frzB] at hb; obtain ⟨rfl, rfl, rfl⟩ := hb; exact ⟨.act, rfl, by simp⟩
          | ro => simp [frzB] at hb; obtain ⟨rfl, rfl, rfl⟩ := hb; exact ⟨.ro, rfl, by simp⟩
          | dead => simp [frzB] at hb; exact absurd hb.2.2.symm hst
      obtain ⟨st0, rfl, h0⟩ := key
      exact h.loc b n cells st0 hx h0 l hl

theorem callV_eq {P : Program} {R : Caller} {f : FuncId} (h : funcOk P f = true) {xs : List Value} {s : St} : callV P R (.func (.func f) #[] #[]) xs s = R f xs s := by
  simp [callV, h]

def renum (N : Nat) (μ : Nat → Nat) (b : Nat) : Nat := if b < N then b else μ (b - N)

/-- behind N blocks these, of those that a run left -/
structure Views (N : Nat) (K : List Blk) (t0 : St) (μ : Nat → Nat) (v v0 : Value) : Prop where
  ge : ∀ k, k < K.length → N ≤ μ k
  inj : ∀ i j, i < K.length → j < K.length → μ i = μ j → i = j
  blk : ∀ (k : Nat) (B : Blk), K[k]? = some B → ∃ n cells cells0, B = .row n cells .act ∧ t0.heap[μ k]? = some (.row n cells0 .act) ∧ ∀ (i : Nat) (c : Value), cells[i]? = some c → ∃ c0 : Value, cells0[i]? = some c0 ∧ Vw2 (renum N μ) (N + K.length) c c0
  val : Vw (renum N μ) (N + K.length) v v0

theorem Views.after {wb : Nat} {ι : Emb} {s t0 : St} {w w' : World} (hs : Sim wb ι s.heap w) {v v0 v' : Value} (h : After w.heap.size ι (frzS s).heap w t0.heap v0 v' w') {K : List Blk} {μ : Nat → Nat} (hv : Views s.heap.length K t0 μ v v0) : After wb ι s.heap w (s.heap ++ K) v v' w' := by
  obtain ⟨κ0, h1, h2, h3⟩ := h
  have hsame : ∀ c, c < w.heap.size → w'.heap[c]? = w.heap[c]? := fun c hc => h2.keep c hc fun a y ha => by rw [frzS_own] at ha; cases ha
  have hold : ∀ b, b < s.heap.length → κ0.via (renum s.heap.length μ) (s.heap.length + K.length) b = ι b := fun b hb => by
    rw [Emb.via_lt (by omega)]
    unfold renum
    rw [if_pos hb, h2.old b (by rw [frzS_len]; exact hb)]
  have hnew : ∀ b l, ¬ b < s.heap.length → κ0.via (renum s.heap.length μ) (s.heap.length + K.length) b = some l → b < s.heap.length + K.length ∧ κ0 (μ (b - s.heap.length)) = some l ∧ s.heap.length ≤ μ (b - s.heap.length) ∧ w.heap.size ≤ l.blk := fun b l hb hl => by
    have hlt : b < s.heap.length + K.length := by
      rcases Nat.lt_or_ge b (s.heap.length + K.length) with hh | hh
      · exact hh
      · unfold Emb.via at hl; rw [if_neg (by omega)] at hl; cases hl
    rw [Emb.via_lt hlt] at hl
    unfold renum at hl
    rw [if_neg hb] at hl
    have hge := hv.ge (b - s.heap.length) (by omega)
    refine ⟨hlt, hl, hge, ?_⟩
    rcases h2.img _ l hl (by rw [frzS_len]; exact hge) with h4 | ⟨a, y, ha, _⟩
    · exact h4
    · rw [frzS_own] at ha; cases ha
  have hle : ι.le (κ0.via (renum s.heap.length μ) (s.heap.length + K.length)) := fun b x hx => by
    rw [hold b (hs.dom b x hx)]; exact hx
  have hs' := hs.later hsame h2.size
  have hblk : ∀ b B, (s.heap ++ K)[b]? = some B → ¬ b < s.heap.length → K[b - s.heap.length]? = some B := fun b B hb hn => by
    rwa [List.getElem?_append_right (by omega)] at hb
  refine ⟨_, ?_, ?_, hv.val.via h3⟩
  · constructor
    · intro b x hx
      rw [List.length_append]
      by_cases hb : b < s.heap.length
      · omega
      · exact (hnew b x hb hx).1
    · intro b n cells st hb hst l hl
      by_cases hlt : b < s.heap.length
      · rw [List.getElem?_append_left hlt] at hb
        rw [hold b hlt] at hl
        obtain ⟨cs, e, fz, q1, q2, q3, q4⟩ := hs'.row b n cells st hb hst l hl
        exact ⟨cs, e, fz, q1, q2, q3, fun i v hi => by
          obtain ⟨v', p1, p2⟩ := q4 i v hi
          exact ⟨v', p1, p2.mono hle⟩⟩
      · obtain ⟨g1, g2, g3, g4⟩ := hnew b l hlt hl
        obtain ⟨n', c', c0, e1, e2, e3⟩ := hv.blk _ _ (hblk b _ hb hlt)
        cases e1
        obtain ⟨cs, e, fz, q1, q2, q3, q4⟩ := h1.row _ _ _ _ e2 (by simp) l g2
        refine ⟨cs, e, fz, q1, fun hh => (by cases hh), fun _ => ⟨Nat.le_trans hs.size g4, (q3 rfl).2⟩, fun i v hi => ?_⟩
        obtain ⟨c1, p1, p2⟩ := e3 i v hi
        obtain ⟨v', p3, p4⟩ := q4 i c1 p1
        exact ⟨v', p3, p2.via p4⟩
    · intro b es clock hb l hl
      by_cases hlt : b < s.heap.length
      · rw [List.getElem?_append_left hlt] at hb
        rw [hold b hlt] at hl
        obtain ⟨q1, q2, es', q3, q4⟩ := hs'.map b es clock hb l hl
        exact ⟨q1, q2, es', q3, q4.mono fun x e he => entRel_mono hle he⟩
      · obtain ⟨n', c', c0, e1, _⟩ := hv.blk _ _ (hblk b _ hb hlt)
        cases e1
    · intro a b ha hb hne x y hx hy
      have own_old : ∀ a, a < s.heap.length → ownB (s.heap ++ K)[a]? = true → ownB s.heap[a]? = true := fun a hlt h => by
        rwa [List.getElem?_append_left hlt] at h
      have own_row : ∀ a, a < s.heap.length + K.length → ¬ a < s.heap.length → ownB t0.heap[μ (a - s.heap.length)]? = true := fun a hlt hn => by
        obtain ⟨n', c', c0, _, e2, _⟩ := hv.blk (a - s.heap.length) K[a - s.heap.length] (List.getElem?_eq_getElem (by omega))
        rw [e2]; rfl
      by_cases hal : a < s.heap.length
      · rw [hold a hal] at hx
        by_cases hbl : b < s.heap.length
        · rw [hold b hbl] at hy
          exact hs.excl a b (own_old a hal ha) (own_old b hbl hb) hne x y hx hy
        · have := (hnew b y hbl hy).2.2.2
          have := hs.own_lt (own_old a hal ha) hx
          omega
      · obtain ⟨g1, g2, g3, g4⟩ := hnew a x hal hx
        by_cases hbl : b < s.heap.length
        · rw [hold b hbl] at hy
          have := hs.own_lt (own_old b hbl hb) hy
          omega
        · obtain ⟨f1, f2, f3, f4⟩ := hnew b y hbl hy
          exact h1.excl _ _ (own_row a g1 hal) (own_row b f1 hbl) (fun e => hne (by have := hv.inj _ _ (by omega) (by omega) e; omega)) x y g2 f2
    · exact Nat.le_trans hs.size h2.size
    · intro b n cells st hb hst l hl
      by_cases hlt : b < s.heap.length
      · rw [List.getElem?_append_left hlt] at hb
        rw [hold b hlt] at hl
        exact hs.loc b n cells st hb hst l hl
      · obtain ⟨g1, g2, g3, g4⟩ := hnew b l hlt hl
        obtain ⟨n', c', c0, e1, e2, e3⟩ := hv.blk _ _ (hblk b _ hb hlt)
        cases e1
        exact h1.loc _ _ _ _ e2 (by simp) l g2
  · constructor
    · exact hle
    · exact hold
    · intro b x hx hb; exact .inl (hnew b x (by omega) hx).2.2.2
    · intro c hc _; exact hsame c hc
    · exact h2.size
    · exact h2.os
    · exact h2.tape
    · exact h2.output
    · simp
    · intro a ha h; rwa [List.getElem?_append_left ha] at h

/-! ### What is known of functions -/
/-- what a run on a heap that may not be written gives, seen so -/
def SumOk (P : Program) (lib : Lib) (hints : Hints) (f : FuncId) (g : List Value → St → Option (Value × St)) : Prop :=
  ∀ args s v t, g args s = some (v, t) → ∃ K v0 t0 μ, t.heap = s.heap ++ K ∧ run P lib hints f args (frzS s) = some (v0, t0) ∧ Views s.heap.length K t0 μ v v0

theorem sum_calls {P : Program} {lib : Lib} {hints : Hints} (hprog : progW P = true) (hlib : LibOk P lib) {f : FuncId} (hok : funcOk P f = true) {g : List Value → St → Option (Value × St)} (hg : SumOk P lib hints f g) {args : List Value} {s t : St} {v : Value} (h : g args s = some (v, t))
    {wb : Nat} {ι : Emb} {w : World} {args' : Array Value} (hs : Sim wb ι s.heap w) (ha : All2 (VRel ι) args args'.toList) : Calls P f args' w fun e w' => ∃ v', e = .returned v' ∧ After wb ι s.heap w t.heap v v' w' := by
  obtain ⟨K, v0, t0, μ, hK, hrun, hv⟩ := hg args s v t h
  refine (run_sound hprog hlib f args (frzS s) v0 t0 hrun hok w.heap.size ι w args' hs.frz ha).mono fun e w' ⟨v', he, hA⟩ => ⟨v', he, ?_⟩
  rw [hK]
  exact hv.after hs hA

theorem lib_add {P : Program} {lib lib' : Lib} {hints : Hints} (hprog : progW P = true) (hlib : LibOk P lib) {f : FuncId} {g : List Value → St → Option (Value × St)} (hok : funcOk P f = true) (hg : SumOk P lib hints f g) (he : ∀ f', lib' f' = if f' = f then some g else lib f') : LibOk P lib' := by
  intro f' g' hf' args s v s' h wb ι w args' hs ha
  rw [he] at hf'
  split at hf'
  · rename_i hff
    cases hf'
    subst hff
    exact sum_calls hprog hlib hok hg h hs ha
  · exact hlib f' g' hf' args s v s' h wb ι w args' hs ha

/-- a value without memory -/
theorem Views.pure {N : Nat} {t0 : St} {v : Value} (h : Vw (renum N fun _ => 0) N v v) : Views N [] t0 (fun _ => 0) v v :=
  ⟨fun k hk => absurd hk (by simp), fun i j hi => absurd hi (by simp), fun k B hk => by simp at hk, h⟩
theorem Vw0.leafs {ρ : Nat → Nat} {D : Nat} : ∀ {l : List Value}, l.all leafOk = true → All2 (Vw2 ρ D) l l
  | [], _ => trivial
  | v :: l, h => by
    simp at h
    exact ⟨.l1 (.l0 (.same v h.1)), Vw0.leafs (by simpa using h.2)⟩
theorem VwA.const {ρ : Nat → Nat} {D : Nat} {v : Value} (h : constOk v = true) : VwA ρ D v v := by
  cases v with
  | agg cs => exact .agg (Vw0.leafs h)
  | _ => exact .l2 (.l1 (.l0 (.same _ h)))
theorem Vw.const {ρ : Nat → Nat} {D : Nat} {v : Value} (h : constOk v = true) : Vw ρ D v v := .va (VwA.const h)
theorem VwA.consts {ρ : Nat → Nat} {D : Nat} : ∀ {l : List Value}, l.all constOk = true → All2 (VwA ρ D) l l
  | [], _ => trivial
  | v :: l, h => by
    simp at h
    exact ⟨VwA.const h.1, VwA.consts (by simpa using h.2)⟩
theorem Vw.tup {ρ : Nat → Nat} {D : Nat} {l : List Value} (h : l.all constOk = true) : Vw ρ D (.tuple l.toArray) (.tuple l.toArray) := .tuple (by simpa using VwA.consts h)

/-- one new row, and a slice of it -/
theorem Views.row {N n i : Nat} {cells cells0 : List Value} {t0 : St} (hi : N ≤ i) (h : t0.heap[i]? = some (.row n cells0 .act)) (hc : ∀ (k : Nat) (c : Value), cells[k]? = some c → cells0[k]? = some c) (hl : cells.all leafOk = true) {v v0 : Value} (hv : Vw (renum N fun _ => i) (N + 1) v v0) :
    Views N [.row n cells .act] t0 (fun _ => i) v v0 := by
  refine ⟨fun k hk => hi, fun a b ha hb _ => by simp at ha hb; omega, fun k B hk => ?_, hv⟩
  cases k with
  | zero =>
    simp at hk
    subst hk
    refine ⟨n, cells, cells0, rfl, h, fun k c hk => ⟨c, hc k c hk, .l1 (.l0 (.same c ?_))⟩⟩
    exact List.all_eq_true.1 hl c (List.mem_of_getElem? hk)
  | succ k => simp at hk
theorem Vw0.row {N i off len cap cap' : Nat} (hl : len ≤ cap) (hc : cap ≤ cap') : Vw0 (renum N fun _ => i) (N + 1) (.slice (some ⟨N, off, none⟩) len cap) (.slice (some ⟨i, off, none⟩) len cap') := by
  have := Vw0.slice (ρ := renum N fun _ => i) (D := N + 1) N off len cap cap' (by omega) hl hc
  unfold renum at this ⊢
  rwa [if_neg (by omega)] at this
theorem Vw.slice {N i off len cap cap' : Nat} (hl : len ≤ cap) (hc : cap ≤ cap') : Vw (renum N fun _ => i) (N + 1) (.slice (some ⟨N, off, none⟩) len cap) (.slice (some ⟨i, off, none⟩) len cap') := .va (.l2 (.l1 (.l0 (Vw0.row hl hc))))

end Go.Proofs.YtckpcelchhmjcaaGreat.Ab

/- From the abstract machine's word on a law to the law's call. -/
namespace Go.Proofs.YtckpcelchhmjcaaGreat.Ab
open Go Go.RowKit

/-- a law's call: its word is true, and what was there stays as it was -/
theorem law_calls {P : Program} {lib : Lib} {hints : Hints} (hprog : progW P = true) (hlib : LibOk P lib) {n : FuncId} {args : List Value} {H : List Blk} {s1 : St} (hrun : run P lib hints n args ⟨H⟩ = some (.bool true, s1)) (hok : funcOk P n = true)
    {ι : Emb} {W : World} (hs : Sim W.heap.size ι H W) (hro : ∀ b : Nat, ownB H[b]? = false) {args' : Array Value} (ha : All2 (VRel ι) args args'.toList) :
    Calls P n args' W fun e W' => e = .returned (.bool true) ∧ Below W.heap.size W W' := by
  refine (run_sound hprog hlib n args ⟨H⟩ _ _ hrun hok _ ι W args' hs ha).mono fun e W' ⟨v', he, κ, h1, h2, h3⟩ => ?_
  refine ⟨by rw [he, h3.inv_bool], ⟨h2.os, h2.tape, h2.output, h2.size, fun k hk => h2.keep k hk fun a y hoa => ?_⟩⟩
  rw [hro a] at hoa
  cases hoa

/-- no arguments in memory -/
theorem sim_nil (W : World) : Sim W.heap.size (fun _ => none) [] W where
  dom _ _ h := by cases h
  row _ _ _ _ h := by simp at h
  map _ _ _ h := by simp at h
  excl _ _ h := by simp [ownB] at h
  size := Nat.le_refl _
  loc _ _ _ _ h := by simp at h

/-- rows that may be read alone -/
def roB : Blk → Bool
  | .row _ _ .ro => true
  | _ => false
theorem roB_own {H : List Blk} (h : H.all roB = true) (b : Nat) : ownB H[b]? = false := by
  cases hb : H[b]? with
  | none => rfl
  | some x =>
    have := List.all_eq_true.1 h x (List.mem_of_getElem? hb)
    cases x with
    | row n c st => cases st <;> first | rfl | cases this
    | map => cases this

/-- a slice argument, as the abstract machine has it -/
def sliceArg (b : Nat) (a : Option Addr) (len : Nat) : Value :=
  match a with
  | none => .slice none 0 0
  | some _ => .slice (some ⟨b, 0, none⟩) len len

/-- a row of an argument's -/
theorem sim_row {W : World} {ι : Emb} {H : List Blk} (h : Sim W.heap.size ι H W) (hro : H.all roB = true) {a : Option Addr} {len cap : Nat} {cells : List Value}
    (hr : (a = none ∧ len = 0 ∧ cap = 0) ∨ ∃ x, a = some x ∧ len ≤ cap ∧ (∀ i, i < cap → ∃ v, W.cell? (x.add i) = some v) ∧ ∀ i v, cells[i]? = some v → ∃ v', W.cell? (x.add i) = some v' ∧ L2 ι v v') :
    ∃ κ, ι.le κ ∧ Sim W.heap.size κ (H ++ [Blk.row 0 cells .ro]) W ∧ (H ++ [Blk.row 0 cells .ro]).all roB = true ∧ VRel κ (sliceArg H.length a len) (.slice a len cap) := by
  have hall : (H ++ [Blk.row 0 cells .ro]).all roB = true := by simp [hro, roB]
  have hnone : ι H.length = none := by
    cases e : ι H.length with
    | none => rfl
    | some x => exact absurd (h.dom _ _ e) (Nat.lt_irrefl _)
  have same : ∀ (κ : Emb), κ = ι → Sim W.heap.size κ (H ++ [Blk.row 0 cells .ro]) W := by
    intro κ e
    subst e
    have hget : ∀ b x l, (H ++ [Blk.row 0 cells .ro])[b]? = some x → κ b = some l → H[b]? = some x := by
      intro b x l hb hl
      rwa [List.getElem?_append_left (h.dom b l hl)] at hb
    exact { dom := fun b x hx => by simp; exact Nat.lt_succ_of_lt (h.dom b x hx)
            row := fun b n c st hb hst l hl => h.row b n c st (hget b _ l hb hl) hst l hl
            map := fun b es clock hb l hl => h.map b es clock (hget b _ l hb hl) l hl
            excl := fun a b ha _ _ => by rw [roB_own hall a] at ha; cases ha
            size := h.size
            loc := fun b n c st hb hst l hl => h.loc b n c st (hget b _ l hb hl) hst l hl }
  rcases hr with ⟨rfl, rfl, rfl⟩ | ⟨x, rfl, hle, hcell, hc⟩
  · exact ⟨ι, .refl _, same ι rfl, hall, .va (.l2 (.l1 (.l0 .snil)))⟩
  · by_cases hcap : cap = 0
    · subst hcap
      obtain rfl : len = 0 := by omega
      exact ⟨ι, .refl _, same ι rfl, hall, .va (.l2 (.l1 (.l0 (.slice0 _ _))))⟩
    · obtain ⟨v0, hv0⟩ := hcell 0 (by omega)
      have hx0 : x.add 0 = x := rfl
      rw [hx0] at hv0
      have hblk : ∃ cs e fz, W.heap[x.block]? = some (.cells cs e fz) ∧ x.spot = none := by
        unfold World.cell? at hv0
        split at hv0
        · rename_i c e fz heq
          split at hv0
          · cases hv0
          · rename_i hsp; exact ⟨c, e, fz, heq, by simpa using hsp⟩
        · cases hv0
      obtain ⟨cs, e, fz, hw, hsp⟩ := hblk
      obtain ⟨xb, xo, xs⟩ := x
      simp only at hsp hw
      subst hsp
      let l0 : Loc := ⟨xb, xo, 0, xo⟩
      let κ : Emb := fun b => if b = H.length then some l0 else ι b
      have hle' : ι.le κ := by
        intro b y hy
        show (if b = H.length then _ else _) = _
        rw [if_neg]
        · exact hy
        · intro e; rw [e, hnone] at hy; cases hy
      have hself : κ H.length = some l0 := if_pos rfl
      have hcs : ∀ i v, W.cell? (Addr.add ⟨xb, xo, none⟩ i) = some v → cs[xo + i]? = some v := by
        intro i v hv
        unfold World.cell? at hv
        have hb : (Addr.add ⟨xb, xo, none⟩ i).block = xb := by unfold Addr.add; split <;> rfl
        have ho : (Addr.add ⟨xb, xo, none⟩ i).off = xo + i := by unfold Addr.add; split <;> simp_all
        have hs2 : (Addr.add ⟨xb, xo, none⟩ i).spot = none := by unfold Addr.add; split <;> rfl
        rw [hb, hw] at hv
        simp only [hs2, ho] at hv
        simpa using hv
      refine ⟨κ, hle', ?_, hall, .va (.l2 (.l1 (.l0 ?_)))⟩
      · have hget : ∀ b y l, (H ++ [Blk.row 0 cells .ro])[b]? = some y → κ b = some l → (b = H.length ∧ y = .row 0 cells .ro ∧ l = l0) ∨ (H[b]? = some y ∧ ι b = some l) := by
          intro b y l hb hl
          by_cases e : b = H.length
          · subst e
            rw [hself] at hl
            cases hl
            rw [List.getElem?_append_right (Nat.le_refl _)] at hb
            simp at hb
            exact .inl ⟨rfl, hb.symm, rfl⟩
          · have hl2 : ι b = some l := by
              have : κ b = ι b := if_neg e
              rw [← this]; exact hl
            rw [List.getElem?_append_left (h.dom b l hl2)] at hb
            exact .inr ⟨hb, hl2⟩
        constructor
        · intro b y hy
          simp
          by_cases e : b = H.length
          · omega
          · have : κ b = ι b := if_neg e
            rw [this] at hy
            exact Nat.lt_succ_of_lt (h.dom b y hy)
        · intro b n c st hb hst l hl
          rcases hget b _ l hb hl with ⟨rfl, he, rfl⟩ | ⟨h1, h2⟩
          · cases he
            refine ⟨cs, e, fz, hw, fun _ => (Array.getElem?_eq_some_iff.1 hw).1, fun hh => (by cases hh), fun i v hv => ?_⟩
            obtain ⟨v', h3, h4⟩ := hc i v hv
            exact ⟨v', hcs i v' h3, h4.mono hle'⟩
          · obtain ⟨cs', e', fz', q1, q2, q3, q4⟩ := h.row b n c st h1 hst l h2
            refine ⟨cs', e', fz', q1, q2, q3, fun i v hv => ?_⟩
            obtain ⟨v', h3, h4⟩ := q4 i v hv
            exact ⟨v', h3, h4.mono hle'⟩
        · intro b es clock hb l hl
          have := List.all_eq_true.1 hall _ (List.mem_of_getElem? hb)
          cases this
        · intro a b ha
          rw [roB_own hall a] at ha
          cases ha
        · exact h.size
        · intro b n c st hb hst l hl
          rcases hget b _ l hb hl with ⟨rfl, he, rfl⟩ | ⟨h1, h2⟩
          · cases he
            exact ⟨rfl, Nat.le_refl _⟩
          · exact h.loc b n c st h1 hst l h2
      · exact .slice 0 hself (Nat.le_refl _) hle (fun _ => by show xo + cap * 0 ≤ xo; simp)

def IsRow (k : IntKind) (w : World) (a : Option Addr) (len cap : Nat) (zs : List Int) : Prop :=
  (a = none ∧ len = 0 ∧ cap = 0 ∧ zs = []) ∨
  ∃ x, a = some x ∧ len ≤ cap ∧ cap ≤ maxLen ∧ zs.length = cap ∧ (∀ i, i < zs.length → w.cell? (x.add i) = some (.int k (zs.getD i 0))) ∧ ∀ n ∈ zs, (Lit.int k n).wf = true

end Go.Proofs.YtckpcelchhmjcaaGreat.Ab

/- The seat's own program: its functions by the abstract machine. -/
namespace Go.Proofs.YtckpcelchhmjcaaGreat.Ab
open Go

def hintL (f : Nat) : List (Nat × Tn) → Tn
  | [] => []
  | (g, t) :: l => cond (Nat.beq f g) t (hintL f l)

end Go.Proofs.YtckpcelchhmjcaaGreat.Ab

/- What the abstract machine's operations come to, at values of a known shape. -/
namespace Go.Proofs.YtckpcelchhmjcaaGreat.Ab
open Go

/-! ### Lists of values -/
theorem getL_0 {a : Value} {l : List Value} : getL (a :: l) 0 = a := Eq.trans rfl (Eq.refl _)
theorem getL_1 {a b : Value} {l : List Value} : getL (a :: b :: l) 1 = b := Eq.trans rfl (Eq.refl _)
theorem getL_2 {a b c : Value} {l : List Value} : getL (a :: b :: c :: l) 2 = c := Eq.trans rfl (Eq.refl _)
theorem getL_3 {a b c d : Value} {l : List Value} : getL (a :: b :: c :: d :: l) 3 = d := Eq.trans rfl (Eq.refl _)
theorem getL_4 {a b c d e : Value} {l : List Value} : getL (a :: b :: c :: d :: e :: l) 4 = e := Eq.trans rfl (Eq.refl _)
theorem getL_5 {a b c d e f : Value} {l : List Value} : getL (a :: b :: c :: d :: e :: f :: l) 5 = f := Eq.trans rfl (Eq.refl _)
theorem getL_6 {a b c d e f g : Value} {l : List Value} : getL (a :: b :: c :: d :: e :: f :: g :: l) 6 = g := Eq.trans rfl (Eq.refl _)
theorem getL_7 {a b c d e f g h : Value} {l : List Value} : getL (a :: b :: c :: d :: e :: f :: g :: h :: l) 7 = h := Eq.trans rfl (Eq.refl _)
theorem getL_8 {a b c d e f g h i : Value} {l : List Value} : getL (a :: b :: c :: d :: e :: f :: g :: h :: i :: l) 8 = i := Eq.trans rfl (Eq.refl _)
theorem getL_9 {a b c d e f g h i j : Value} {l : List Value} : getL (a :: b :: c :: d :: e :: f :: g :: h :: i :: j :: l) 9 = j := Eq.trans rfl (Eq.refl _)
theorem getL_10 {a b c d e f g h i j k : Value} {l : List Value} : getL (a :: b :: c :: d :: e :: f :: g :: h :: i :: j :: k :: l) 10 = k := Eq.trans rfl (Eq.refl _)
theorem getL_11 {a b c d e f g h i j k m : Value} {l : List Value} : getL (a :: b :: c :: d :: e :: f :: g :: h :: i :: j :: k :: m :: l) 11 = m := Eq.trans rfl (Eq.refl _)
theorem getL_12 {a b c d e f g h i j k m n : Value} {l : List Value} : getL (a :: b :: c :: d :: e :: f :: g :: h :: i :: j :: k :: m :: n :: l) 12 = n := Eq.trans rfl (Eq.refl _)

/-- (told by no bare rfl: so the kernel goes step by step) -/
theorem n_bind {α β : Type} {a : α} {f : α → Option β} : (some a).bind f = f a := Eq.trans (Option.bind_some a f) (Eq.refl _)
theorem n_map {α β : Type} {a : α} {f : α → β} : (some a).map f = some (f a) := Eq.trans rfl (Eq.refl _)

/-! ### Control -/
section
variable {β : Type}
theorem condV_t {x y : Option β} : condV (.bool true) x y = x := Eq.trans rfl (Eq.refl _)
theorem condV_f {x y : Option β} : condV (.bool false) x y = y := Eq.trans rfl (Eq.refl _)
theorem guardV_tt {x y : Option β} : guardV (.bool true) true x y = x := Eq.trans rfl (Eq.refl _)
theorem guardV_ff {x y : Option β} : guardV (.bool false) false x y = x := Eq.trans rfl (Eq.refl _)
theorem guardV_tf {x y : Option β} : guardV (.bool true) false x y = y := Eq.trans rfl (Eq.refl _)
theorem guardV_ft {x y : Option β} : guardV (.bool false) true x y = y := Eq.trans rfl (Eq.refl _)
theorem guardV_u {w : Bool} {x y : Option β} : guardV undef w x y = y := Eq.trans rfl (Eq.refl _)
theorem apick_t {a b : Value} : apick (.bool true) a b = some a := Eq.trans rfl (Eq.refl _)
theorem apick_f {a b : Value} : apick (.bool false) a b = some b := Eq.trans rfl (Eq.refl _)
theorem exV_exit {j : Nat} {l : List (Nat × Option β)} {r : Option β} : exV (.exit j) l r = lookE j l := Eq.trans rfl (Eq.refl _)
theorem exV_ret {l : List (Nat × Option β)} {r : Option β} : exV .ret l r = r := Eq.trans rfl (Eq.refl _)
theorem lookE_same {j : Nat} {x : Option β} {l : List (Nat × Option β)} : lookE j ((j, x) :: l) = x := if_pos rfl
theorem joinK_eq {F : List Value → St → Option β} {X : List Value} {s : St} : joinK F X s = F X s := Eq.trans rfl (Eq.refl _)
theorem seqA_n {X : List Value} {s : St} {k : List Value → St → Res} : seqA (some (.normal, X, s)) k = k X s := Eq.trans rfl (Eq.refl _)
theorem seqA_e {j : Nat} {X : List Value} {s : St} {k : List Value → St → Res} : seqA (some (.exit j, X, s)) k = some (.exit j, X, s) := Eq.trans rfl (Eq.refl _)
theorem seqA_r {X : List Value} {s : St} {k : List Value → St → Res} : seqA (some (.ret, X, s)) k = some (.ret, X, s) := Eq.trans rfl (Eq.refl _)
end

/-- '&&' and '||' -/
theorem and_guard {β : Type} {a b : Bool} {s : St} {K : List Value × St → Value → Option β} : ((guardV (.bool a) true (some ([.bool b], s)) (some ([undef], s))).bind fun q => (apick (.bool a) (getL q.1 0) (.bool false)).bind (K q)) = K ([if a = true then .bool b else undef], s) (.bool (a && b)) := by
  cases a <;> rfl
theorem or_guard {β : Type} {a b : Bool} {s : St} {K : List Value × St → Value → Option β} : ((guardV (.bool a) false (some ([.bool b], s)) (some ([undef], s))).bind fun q => (apick (.bool a) (.bool true) (getL q.1 0)).bind (K q)) = K ([if a = true then undef else .bool b], s) (.bool (a || b)) := by
  cases a <;> rfl

/-! ### Numbers -/
section
variable {P : Program} {t : TypeId} {ox oy : Operand} {k : IntKind} {a b : Int}
theorem e_add : abin P .add t ox oy (.int k a) (.int k b) = some (.int k (k.wrap (a + b))) := by simp [abin, intBin]
theorem e_sub : abin P .sub t ox oy (.int k a) (.int k b) = some (.int k (k.wrap (a - b))) := by simp [abin, intBin]
theorem e_mul : abin P .mul t ox oy (.int k a) (.int k b) = some (.int k (k.wrap (a * b))) := by simp [abin, intBin]
theorem e_quo (h : b ≠ 0) : abin P .quo t ox oy (.int k a) (.int k b) = some (.int k (k.wrap (a.tdiv b))) := by simp [abin, intBin, h]
theorem e_rem (h : b ≠ 0) : abin P .rem t ox oy (.int k a) (.int k b) = some (.int k (a.tmod b)) := by simp [abin, intBin, h]
theorem e_eql : abin P .eql t ox oy (.int k a) (.int k b) = some (.bool (a == b)) := by simp [abin, intBin]
theorem e_neq : abin P .neq t ox oy (.int k a) (.int k b) = some (.bool (a != b)) := by simp [abin, intBin]
theorem e_lss : abin P .lss t ox oy (.int k a) (.int k b) = some (.bool (decide (a < b))) := by simp [abin, intBin]
theorem e_leq : abin P .leq t ox oy (.int k a) (.int k b) = some (.bool (decide (a ≤ b))) := by simp [abin, intBin]
theorem e_gtr : abin P .gtr t ox oy (.int k a) (.int k b) = some (.bool (decide (a > b))) := by simp [abin, intBin]
theorem e_geq : abin P .geq t ox oy (.int k a) (.int k b) = some (.bool (decide (a ≥ b))) := by simp [abin, intBin]
theorem e_conv {k2 : IntKind} : convInt k2 (.int k a) = some (.int k2 (k2.wrap a)) := Eq.trans rfl (Eq.refl _)
theorem e_not {c : Bool} : aun .not (.bool c) = some (.bool !c) := Eq.trans rfl (Eq.refl _)
theorem e_neg : aun .neg (.int k a) = some (.int k (k.wrap (0 - a))) := Eq.trans rfl (Eq.refl _)
end

/-! ### Unsigned numbers -/
theorem wrap_u64 {n : Int} (h0 : 0 ≤ n) (h : n < 18446744073709551616) : IntKind.wrap .u64 n = n := by simp [IntKind.wrap, IntKind.signed, IntKind.bits]; omega
theorem wrap_i64 {n : Int} (h0 : -9223372036854775808 ≤ n) (h : n < 9223372036854775808) : IntKind.wrap .i64 n = n := by simp [IntKind.wrap, IntKind.signed, IntKind.bits]; omega
theorem wrapu8 {n : Nat} : IntKind.wrap .u8 (n : Int) = ((n % 256 : Nat) : Int) := by simp [IntKind.wrap, IntKind.signed, IntKind.bits]
theorem wrapu64 {n : Nat} : IntKind.wrap .u64 (n : Int) = ((n % 18446744073709551616 : Nat) : Int) := by simp [IntKind.wrap, IntKind.signed, IntKind.bits]

def ukind : IntKind → Bool
  | .u8 | .u16 | .u32 | .u64 => true
  | _ => false
theorem uwrap {k : IntKind} (hk : ukind k = true) {n : Nat} (h : n < 2 ^ k.bits) : k.wrap (n : Int) = (n : Int) := by
  have h2 : ((n : Int)) < ((2 ^ k.bits : Nat) : Int) := by exact_mod_cast h
  cases k <;> simp [ukind] at hk <;> simp [IntKind.wrap, IntKind.signed, IntKind.bits] at h2 ⊢ <;> omega
theorem ofInt_nat {w n : Nat} : BitVec.ofInt w (n : Int) = BitVec.ofNat w n := by
  apply BitVec.eq_of_toNat_eq
  simp [BitVec.toNat_ofInt]
section
variable {P : Program} {t : TypeId} {ox oy : Operand} {k : IntKind} {a b : Nat}
theorem u_and (hk : ukind k = true) (ha : a < 2 ^ k.bits) (hb : b < 2 ^ k.bits) : abin P .and t ox oy (.int k a) (.int k b) = some (.int k ((a &&& b : Nat) : Int)) := by
  have : (BitVec.ofInt k.bits (a : Int) &&& BitVec.ofInt k.bits (b : Int)).toNat = a &&& b := by
    rw [ofInt_nat, ofInt_nat, BitVec.toNat_and, BitVec.toNat_ofNat, BitVec.toNat_ofNat, Nat.mod_eq_of_lt ha, Nat.mod_eq_of_lt hb]
  simp only [abin, intBin, if_true, this]
  rw [uwrap hk (Nat.and_lt_two_pow _ hb)]
theorem u_or (hk : ukind k = true) (ha : a < 2 ^ k.bits) (hb : b < 2 ^ k.bits) : abin P .or t ox oy (.int k a) (.int k b) = some (.int k ((a ||| b : Nat) : Int)) := by
  have : (BitVec.ofInt k.bits (a : Int) ||| BitVec.ofInt k.bits (b : Int)).toNat = a ||| b := by
    rw [ofInt_nat, ofInt_nat, BitVec.toNat_or, BitVec.toNat_ofNat, BitVec.toNat_ofNat, Nat.mod_eq_of_lt ha, Nat.mod_eq_of_lt hb]
  simp only [abin, intBin, if_true, this]
  rw [uwrap hk (Nat.or_lt_two_pow ha hb)]
theorem u_shr (ha : a < 2 ^ k.bits) {k2 : IntKind} : abin P .shr t ox oy (.int k a) (.int k2 b) = some (.int k ((a / 2 ^ b : Nat) : Int)) := by
  have hb : ¬ ((b : Int) < 0) := by omega
  simp only [abin, intBin, if_neg hb]
  congr 2
  rw [Int.toNat_natCast, Int.fdiv_eq_ediv_of_nonneg _ (by exact_mod_cast Nat.zero_le _)]
  have : (2 : Int) ^ (min b k.bits) = ((2 ^ (min b k.bits) : Nat) : Int) := by push_cast; rfl
  rw [this]
  rw [← Int.natCast_ediv]
  congr 1
  by_cases h : b ≤ k.bits
  · rw [Nat.min_eq_left h]
  · rw [Nat.min_eq_right (by omega), Nat.div_eq_of_lt ha, Nat.div_eq_of_lt]
    exact Nat.lt_of_lt_of_le ha (Nat.pow_le_pow_right (by omega) (by omega))
theorem u_shl (hk : ukind k = true) {k2 : IntKind} : abin P .shl t ox oy (.int k a) (.int k2 b) = some (.int k ((a * 2 ^ b % 2 ^ k.bits : Nat) : Int)) := by
  have hb : ¬ ((b : Int) < 0) := by omega
  simp only [abin, intBin, if_neg hb]
  congr 2
  rw [Int.toNat_natCast]
  have hp : (a : Int) * 2 ^ (min b k.bits) = ((a * 2 ^ (min b k.bits) : Nat) : Int) := by push_cast; rfl
  rw [hp]
  have hw : ∀ n : Nat, k.wrap (n : Int) = ((n % 2 ^ k.bits : Nat) : Int) := fun n => by
    cases k <;> simp [ukind] at hk <;> simp [IntKind.wrap, IntKind.signed, IntKind.bits]
  rw [hw]
  congr 1
  by_cases h : b ≤ k.bits
  · rw [Nat.min_eq_left h]
  · rw [Nat.min_eq_right (by omega)]
    have h1 : a * 2 ^ k.bits % 2 ^ k.bits = 0 := Nat.mul_mod_left _ _
    have h2 : a * 2 ^ b % 2 ^ k.bits = 0 := by
      have : 2 ^ b = 2 ^ (b - k.bits) * 2 ^ k.bits := by rw [← Nat.pow_add]; congr 1; omega
      rw [this, ← Nat.mul_assoc]
      exact Nat.mul_mod_left _ _
    rw [h1, h2]
end

/-! ### Bytes -/
def bv (l : List UInt8) : List Value := l.map fun b => .int .u8 ((b.toNat : Nat) : Int)
theorem bv_length {l : List UInt8} : (bv l).length = l.length := by simp [bv]
theorem bv_get {l : List UInt8} {i : Nat} : (bv l)[i]? = (l[i]?).map fun b => .int .u8 ((b.toNat : Nat) : Int) := by simp [bv]
theorem bv_append {l m : List UInt8} : bv (l ++ m) = bv l ++ bv m := by simp [bv]
theorem bv_take {l : List UInt8} {n : Nat} : bv (l.take n) = (bv l).take n := by simp [bv]
theorem bv_drop {l : List UInt8} {n : Nat} : bv (l.drop n) = (bv l).drop n := by simp [bv]
theorem bv_leaf {l : List UInt8} : (bv l).all leafOk = true := by simp [bv, leafOk]
theorem bytesV_eq {t : ByteArray} : bytesV t = bv t.data.toList := rfl
theorem bv_inj {l m : List UInt8} (h : bv l = bv m) : l = m := by
  induction l generalizing m with
  | nil => cases m with
    | nil => rfl
    | cons => simp [bv] at h
  | cons x l ih => cases m with
    | nil => simp [bv] at h
    | cons y m =>
      simp only [bv, List.map_cons, List.cons.injEq, Value.int.injEq, true_and] at h
      have h1 : x.toNat = y.toNat := by exact_mod_cast h.1
      rw [UInt8.toNat_inj.1 h1, ih (m := m) h.2]

/-- bytes, strictly -/
def ubs : List Value → Option (List UInt8)
  | [] => some []
  | .int .u8 n :: l => if 0 ≤ n ∧ n < 256 then (ubs l).map fun r => UInt8.ofNat n.toNat :: r else none
  | _ => none
theorem ubs_bv : ∀ (l : List UInt8), ubs (bv l) = some l
  | [] => rfl
  | x :: l => by
    have h := x.toNat_lt
    simp only [bv, List.map_cons, ubs]
    rw [if_pos (by omega)]
    have := ubs_bv l
    unfold bv at this
    rw [this]
    simp
theorem ubs_some : ∀ {cs : List Value} {l : List UInt8}, ubs cs = some l → cs = bv l
  | [], l, h => by simp [ubs] at h; subst h; rfl
  | v :: cs, l, h => by
    unfold ubs at h
    split at h
    · rename_i heq; cases heq
    · rename_i n l' heq
      cases heq
      split at h
      · rename_i hn
        simp only [Option.map_eq_some_iff] at h
        obtain ⟨r, hr, rfl⟩ := h
        rw [ubs_some hr]
        simp only [bv, List.map_cons, List.cons.injEq, Value.int.injEq, true_and, and_true]
        have : (UInt8.ofNat n.toNat).toNat = n.toNat := by simp; omega
        rw [this]; omega
      · cases h
    · cases h
theorem unbytes_bv : ∀ (l : List UInt8), unbytes (bv l) = some l
  | [] => rfl
  | x :: l => by
    have h := x.toNat_lt
    simp only [bv, List.map_cons, unbytes]
    have := unbytes_bv l
    unfold bv at this
    rw [this]
    simp

/-! ### Strings -/
def sv (l : List UInt8) : Value := .string ⟨l.toArray⟩
theorem sv_of (t : ByteArray) : Value.string t = sv t.data.toList := by simp [sv]
section
variable {P : Program} {t : TypeId} {ox oy : Operand} {a b : List UInt8}
theorem e_seql : abin P .eql t ox oy (sv a) (sv b) = some (.bool (a == b)) := by simp [abin, strBin, sv]
theorem e_sneq : abin P .neq t ox oy (sv a) (sv b) = some (.bool (!(a == b))) := by simp [abin, strBin, sv]
theorem e_sgeq : abin P .geq t ox oy (sv a) (sv b) = some (.bool (!(Op.bytesLess a b))) := by simp [abin, strBin, sv]
end
theorem e_lenV {s : St} {a : List UInt8} : alenV .string (sv a) s = some (.int .i64 ((a.length : Nat) : Int)) := by simp [alenV, lenFits, alen, sv, ByteArray.size]

/-! ### Slices that are read -/
/-- a slice's cells; n: an element's -/
def cellsOf (n : Nat) (v : Value) (s : St) : Option (List Value) :=
  match v with
  | .slice none 0 0 => some []
  | .slice (some ⟨b, o, none⟩) len cap => if len ≤ cap then readN s b o (len * n) else none
  | _ => none
def bytesOf (v : Value) (s : St) : Option (List UInt8) := (cellsOf 1 v s).bind ubs

theorem readRow_frz {s : St} {b : Nat} : readRow (frzS s) b = readRow s b := by
  unfold readRow
  rw [frzS_get]
  cases s.heap[b]? with
  | none => rfl
  | some x => cases x with
    | row n c st => cases st <;> rfl
    | map => rfl
theorem readN_frz {s : St} {b o n : Nat} : readN (frzS s) b o n = readN s b o n := by unfold readN; rw [readRow_frz]
theorem cellsOf_frz {s : St} {n : Nat} {v : Value} : cellsOf n v (frzS s) = cellsOf n v s := by
  unfold cellsOf
  split
  · rfl
  · rw [readN_frz]
  · rfl
theorem bytesOf_frz {s : St} {v : Value} : bytesOf v (frzS s) = bytesOf v s := by unfold bytesOf; rw [cellsOf_frz]

theorem readN_some {s : St} {b o n : Nat} {cs : List Value} (h : readN s b o n = some cs) : ∃ row, readRow s b = some row ∧ o + n ≤ row.length ∧ cs = (row.drop o).take n := by
  unfold readN at h
  simp only [Option.bind_eq_some_iff] at h
  obtain ⟨row, h1, h2⟩ := h
  split at h2
  · rename_i hle; cases h2; exact ⟨row, h1, hle, rfl⟩
  · cases h2
theorem cellsOf_len {s : St} {n : Nat} {v : Value} {cs : List Value} (h : cellsOf n v s = some cs) : ∃ a len cap, v = .slice a len cap ∧ cs.length = len * n := by
  unfold cellsOf at h
  split at h
  · cases h; exact ⟨_, _, _, rfl, by simp⟩
  · split at h
    case isFalse => cases h
    obtain ⟨row, _, h2, rfl⟩ := readN_some h
    exact ⟨_, _, _, rfl, by simp; omega⟩
  · cases h
theorem e_len {s : St} {a : Option Addr} {len cap : Nat} {e : TypeId} : alenV (.slice e) (.slice a len cap) s = some (.int .i64 len) := rfl
theorem e_lenS {s : St} {t : ByteArray} : alenV .string (.string t) s = some (.int .i64 t.size) := rfl

/-- bytes: how many -/
theorem bytes_len {s : St} {v : Value} {l : List UInt8} (h : bytesOf v s = some l) {e : TypeId} {s2 : St} : alenV (.slice e) v s2 = some (.int .i64 ((l.length : Nat) : Int)) := by
  unfold bytesOf at h
  simp only [Option.bind_eq_some_iff] at h
  obtain ⟨cs, h1, h2⟩ := h
  obtain ⟨a, len, cap, rfl, h3⟩ := cellsOf_len h1
  have := ubs_some h2
  rw [this, bv_length] at h3
  rw [e_len, h3, Nat.mul_one]
theorem cells_at {s : St} {n : Nat} {v : Value} {cs : List Value} (h : cellsOf n v s = some cs) (hn : 0 < n) {i : Nat} (hi : (i + 1) * n ≤ cs.length) {k : IntKind} :
    ∃ p, aindexS n v (.int k (i : Int)) = some p ∧ (∀ c, n = 1 → cs[i]? = some c → aload false 1 p s = some c) ∧ aload true n p s = some (.agg ((cs.drop (i * n)).take n).toArray) := by
  unfold cellsOf at h
  split at h
  · cases h
    have : 0 < (i + 1) * n := Nat.mul_pos (by omega) hn
    simp only [List.length_nil] at hi
    omega
  · rename_i b o len cap
    split at h
    case isFalse => cases h
    obtain ⟨row, h1, h2, rfl⟩ := readN_some h
    have hl : ((row.drop o).take (len * n)).length = len * n := by simp; omega
    rw [hl] at hi
    have hlt : i < len := by
      rcases Nat.lt_or_ge i len with hh | hh
      · exact hh
      · have := Nat.mul_le_mul_right n hh; rw [Nat.add_mul] at hi; omega
    refine ⟨.pointer (some ⟨b, o + i * n, none⟩), ?_, fun c hn1 hc => ?_, ?_⟩
    · simp [aindexS, hlt]
    · subst hn1
      simp only [aload, h1, Option.bind_some, Bool.false_eq_true, if_false]
      rw [List.getElem?_take_of_lt (by omega), List.getElem?_drop] at hc
      simpa using hc
    · simp only [aload, if_true, readN, h1, Option.bind_some]
      have h3 : i * n + n ≤ len * n := by rw [Nat.add_mul] at hi; omega
      rw [if_pos (by omega)]
      simp only [Option.map_some]
      congr 3
      rw [List.drop_take, List.drop_drop, List.take_take]
      congr 1
      omega
  · cases h
/-- a byte -/
theorem bytes_at {s : St} {v : Value} {l : List UInt8} (h : bytesOf v s = some l) {i : Nat} (hi : i < l.length) {k : IntKind} : ∃ p, aindexS 1 v (.int k (i : Int)) = some p ∧ aload false 1 p s = some (.int .u8 ((l[i].toNat : Nat) : Int)) := by
  unfold bytesOf at h
  simp only [Option.bind_eq_some_iff] at h
  obtain ⟨cs, h1, h2⟩ := h
  have := ubs_some h2
  obtain ⟨p, h3, h4, _⟩ := cells_at h1 (by omega) (i := i) (by rw [this, bv_length]; omega) (k := k)
  refine ⟨p, h3, h4 _ rfl ?_⟩
  rw [this, bv_get, List.getElem?_eq_getElem hi]
  rfl
theorem bytes_str {s : St} {v : Value} {l : List UInt8} (h : bytesOf v s = some l) : abytesToStr v s = some (.string ⟨l.toArray⟩) := by
  unfold bytesOf at h
  simp only [Option.bind_eq_some_iff] at h
  obtain ⟨cs, h1, h2⟩ := h
  have := ubs_some h2
  unfold cellsOf at h1
  split at h1
  · cases h1
    have : l = [] := by
      cases l with
      | nil => rfl
      | cons => simp [bv] at this
    subst this
    rfl
  · split at h1
    case isFalse => cases h1
    simp only [abytesToStr]
    rw [Nat.mul_one] at h1
    rw [h1, this]
    simp [unbytes_bv]
  · cases h1
/-- a part of a slice -/
theorem cells_slice {s : St} {n : Nat} {a : Option Addr} {len cap : Nat} {cs : List Value} (h : cellsOf n (.slice a len cap) s = some cs) {lo hi mx : Option Value} {i j : Nat} (hlo : abound 0 lo = some i) (hhi : abound len hi = some j) (hij : i ≤ j) (hj : j ≤ len)
    (hmx : mx = none ∨ (hi.isSome = true ∧ ∀ c, abound c mx = some j)) : ∃ u, asliceV n (.slice a len cap) lo hi mx = some u ∧ cellsOf n u s = some ((cs.drop (i * n)).take ((j - i) * n)) := by
  unfold cellsOf at h
  split at h
  · rename_i heq
    cases heq
    cases h
    obtain rfl : j = 0 := by omega
    obtain rfl : i = 0 := by omega
    refine ⟨.slice none 0 0, ?_, by simp [cellsOf]⟩
    simp only [asliceV, asliceSl, hlo, hhi]
    rcases hmx with rfl | ⟨h1, h2⟩
    · simp [abound, cutRow]
    · simp [h1, h2, cutRow]
  · rename_i b o len2 cap2 heq
    cases heq
    split at h
    case isFalse => cases h
    rename_i hlc
    obtain ⟨row, h1, h2, rfl⟩ := readN_some h
    have key : ∀ m, j ≤ m → m ≤ cap → (cutRow n (some ⟨b, o, none⟩) i (j - i) (m - i)) = some (.slice (some ⟨b, o + i * n, none⟩) (j - i) (m - i)) ∧ cellsOf n (.slice (some ⟨b, o + i * n, none⟩) (j - i) (m - i)) s = some (((List.take (len * n) (List.drop o row)).drop (i * n)).take ((j - i) * n)) := by
      intro m hm1 hm2
      refine ⟨rfl, ?_⟩
      simp only [cellsOf]
      rw [if_pos (by omega)]
      unfold readN
      rw [h1]
      simp only [Option.bind_some]
      have e1 : i * n + (j - i) * n = j * n := by rw [← Nat.add_mul]; congr 1; omega
      have e2 : j * n ≤ len * n := Nat.mul_le_mul_right _ hj
      rw [if_pos (by omega)]
      congr 1
      rw [List.drop_take, List.drop_drop, List.take_take]
      congr 1
      omega
    simp only [asliceV, asliceSl, hlo, hhi]
    rcases hmx with rfl | ⟨h3, h4⟩
    · obtain ⟨k1, k2⟩ := key cap (by omega) (Nat.le_refl _)
      refine ⟨_, ?_, k2⟩
      simp only [Option.isNone_none, Bool.true_or, if_true, abound, Option.bind_some]
      rw [if_pos ⟨hij, by omega, Nat.le_refl _⟩]
      exact k1
    · obtain ⟨k1, k2⟩ := key j (Nat.le_refl _) (by omega)
      refine ⟨_, ?_, k2⟩
      simp only [h3, h4, Bool.or_true, if_true, Option.bind_some]
      rw [if_pos ⟨hij, Nat.le_refl _, by omega⟩]
      exact k1
  · cases h
/-- a part of bytes -/
theorem bytes_slice {s : St} {v : Value} {l : List UInt8} (h : bytesOf v s = some l) {lo hi mx : Option Value} {i j : Nat} (hlo : abound 0 lo = some i) (hhi : abound l.length hi = some j) (hij : i ≤ j) (hj : j ≤ l.length)
    (hmx : mx = none ∨ (hi.isSome = true ∧ ∀ c, abound c mx = some j)) : ∃ u, asliceV 1 v lo hi mx = some u ∧ bytesOf u s = some ((l.drop i).take (j - i)) := by
  unfold bytesOf at h
  simp only [Option.bind_eq_some_iff] at h
  obtain ⟨cs, h1, h2⟩ := h
  have hcs := ubs_some h2
  obtain ⟨a, len, cap, rfl, h3⟩ := cellsOf_len h1
  have hl : len = l.length := by rw [hcs, bv_length, Nat.mul_one] at h3; exact h3.symm
  subst hl
  obtain ⟨u, h4, h5⟩ := cells_slice h1 hlo hhi hij hj hmx
  refine ⟨u, h4, ?_⟩
  unfold bytesOf
  rw [h5, Nat.mul_one, Nat.mul_one, hcs, ← bv_drop, ← bv_take]
  exact ubs_bv _

/-! ### Rows of one's own -/
/-- of the blocks below N nothing has changed -/
def Ext (N : Nat) (s s' : St) : Prop := s.heap.length ≤ s'.heap.length ∧ ∀ b, b < N → s'.heap[b]? = s.heap[b]?
theorem Ext.refl (N : Nat) (s : St) : Ext N s s := ⟨Nat.le_refl _, fun _ _ => rfl⟩
theorem Ext.trans {N : Nat} {s t u : St} (h : Ext N s t) (g : Ext N t u) : Ext N s u := ⟨Nat.le_trans h.1 g.1, fun b hb => (g.2 b hb).trans (h.2 b hb)⟩
theorem Ext.push (N : Nat) {s : St} (hN : N ≤ s.heap.length) (B : Blk) : Ext N s (s.push B) := ⟨by simp [St.push], fun b hb => by
  simp only [St.push]; rw [List.getElem?_append_left (by omega)]⟩
theorem push_get {s : St} {B : Blk} : (s.push B).heap[s.heap.length]? = some B := by simp [St.push]
theorem push_old {s : St} {B : Blk} {b : Nat} (h : b < s.heap.length) : (s.push B).heap[b]? = s.heap[b]? := by
  simp only [St.push]; rw [List.getElem?_append_left h]
theorem push_len {s : St} {B : Blk} : (s.push B).heap.length = s.heap.length + 1 := by simp [St.push]
theorem Ext.readRow {N : Nat} {s s' : St} (h : Ext N s s') {b : Nat} (hb : b < N) : readRow s' b = readRow s b := by unfold Ab.readRow; rw [h.2 b hb]
theorem readRow_lt {s : St} {b : Nat} {cs : List Value} (h : readRow s b = some cs) : b < s.heap.length := by
  unfold readRow at h
  rcases Nat.lt_or_ge b s.heap.length with hh | hh
  · exact hh
  · rw [List.getElem?_eq_none hh] at h; cases h
theorem Ext.cells {s s' : St} (h : Ext s.heap.length s s') {n : Nat} {v : Value} {cs : List Value} (hv : cellsOf n v s = some cs) : cellsOf n v s' = some cs := by
  unfold cellsOf at hv ⊢
  split at hv
  · exact hv
  · split at hv
    case isFalse => cases hv
    rename_i hlc
    rw [if_pos hlc]
    unfold readN at hv ⊢
    cases hr : Ab.readRow s _ with
    | none => rw [hr] at hv; cases hv
    | some row => rw [h.readRow (readRow_lt hr)]; exact hv
  · cases hv
theorem Ext.bytes {s s' : St} (h : Ext s.heap.length s s') {v : Value} {l : List UInt8} (hv : bytesOf v s = some l) : bytesOf v s' = some l := by
  unfold bytesOf at hv ⊢
  simp only [Option.bind_eq_some_iff] at hv ⊢
  obtain ⟨cs, h1, h2⟩ := hv
  exact ⟨cs, h.cells h1, h2⟩
theorem Ext.less {N M : Nat} {s s' : St} (h : Ext N s s') (hM : M ≤ N) : Ext M s s' := ⟨h.1, fun b hb => h.2 b (by omega)⟩

/-- a slice of a row of its own, from block N on; n: an element's cells -/
def Own (N n : Nat) (s : St) (v : Value) (cells : List Value) : Prop :=
  (v = .slice none 0 0 ∧ cells = []) ∨ ∃ b len, v = .slice (some ⟨b, 0, none⟩) len len ∧ N ≤ b ∧ s.heap[b]? = some (.row n cells .act) ∧ cells.length = len * n ∧ 0 < len
theorem Own.nil (N n : Nat) (s : St) : Own N n s (.slice none 0 0) [] := .inl ⟨rfl, rfl⟩
theorem Own.cells {N n : Nat} {s : St} {v : Value} {cells : List Value} (h : Own N n s v cells) : cellsOf n v s = some cells := by
  rcases h with ⟨rfl, rfl⟩ | ⟨b, len, rfl, _, h2, h3, h4⟩
  · rfl
  · simp only [cellsOf, Nat.le_refl, if_true, readN, Ab.readRow, h2, Option.bind_some]
    rw [if_pos (by omega), List.drop_zero, ← h3, List.take_length]
theorem Own.bytes {N : Nat} {s : St} {v : Value} {l : List UInt8} (h : Own N 1 s v (bv l)) : bytesOf v s = some l := by
  unfold bytesOf
  rw [h.cells]
  exact ubs_bv l
theorem elems_of {n : Nat} {y : Value} {s : St} {cs : List Value} (h : cellsOf n y s = some cs) : elemsOf n y s = some cs := by
  unfold cellsOf at h
  split at h
  · exact h
  · split at h
    case isFalse => cases h
    exact h
  · cases h

/-- something is appended to a row of one's own -/
theorem own_appendR {N n w : Nat} {s : St} {x y : Value} {cells new : List Value} (h : Own N n s x cells) (hN : N ≤ s.heap.length) (hw : 0 < w) (hn : 0 < n) {m : Nat} (hm : lenV y = some m) (hnew : elemsOf n y s = some new) (hlen : new.length = m * n) (hb : ∀ q, q * n = cells.length + new.length → roomA q w) :
    ∃ v' s', aappend n w x y s = some (v', s') ∧ Own N n s' v' (cells ++ new) ∧ Ext N s s' := by
  unfold aappend
  rw [if_pos hw, hm, hnew]
  simp only [Option.bind_some]
  rcases h with ⟨rfl, rfl⟩ | ⟨b, len, rfl, h1, h2, h3, h4⟩
  · simp only
    have hb2 : roomA m w := hb m (by simp [hlen])
    rw [if_pos hb2]
    by_cases hm0 : m = 0
    · subst hm0
      have : new = [] := by simpa using hlen
      subst this
      exact ⟨_, _, by rw [if_pos rfl], .inl ⟨rfl, rfl⟩, .refl _ _⟩
    · rw [if_neg hm0]
      refine ⟨_, _, rfl, .inr ⟨s.heap.length, m, rfl, hN, by simpa using push_get, by simpa using hlen, by omega⟩, .push N hN _⟩
  · have hb2 : roomA (len + m) w := hb _ (by rw [Nat.add_mul, h3, hlen])
    simp only
    rw [if_pos hb2]
    by_cases hm0 : m = 0
    · subst hm0
      have : new = [] := by simpa using hlen
      subst this
      refine ⟨_, _, by rw [if_pos (by omega), if_pos rfl], .inr ⟨b, len, rfl, h1, by simpa using h2, by simpa using h3, h4⟩, .refl _ _⟩
    · rw [if_neg (by omega), h2]
      simp only
      rw [if_pos ⟨trivial, trivial, h3.symm⟩]
      have hbl : b < s.heap.length := (List.getElem?_eq_some_iff.1 h2).1
      refine ⟨_, _, rfl, .inr ⟨s.heap.length, len + m, rfl, hN, ?_, by rw [List.length_append, h3, hlen, Nat.add_mul], by omega⟩, ⟨by simp [St.push, St.putB], fun c hc => ?_⟩⟩
      · have : s.heap.length = (s.putB b (.row n cells .dead)).heap.length := by simp [St.putB]
        rw [this]
        exact push_get
      · simp only [St.push, St.putB]
        rw [List.getElem?_append_left (by simp; omega), List.getElem?_set_ne (by omega)]

theorem own_append {N n w : Nat} {s : St} {x y : Value} {cells new : List Value} (h : Own N n s x cells) (hN : N ≤ s.heap.length) (hw : 0 < w) (hn : 0 < n) {m : Nat} (hm : lenV y = some m) (hnew : elemsOf n y s = some new) (hlen : new.length = m * n) (hb : (cells.length + new.length) * w ≤ 140737488355328 * n) :
    ∃ v' s', aappend n w x y s = some (v', s') ∧ Own N n s' v' (cells ++ new) ∧ Ext N s s' :=
  own_appendR h hN hw hn hm hnew hlen fun q hq => .inl (by
    rw [← hq, Nat.mul_right_comm] at hb
    exact Nat.le_of_mul_le_mul_right hb hn)

/-- one more element -/
theorem own_add {N n w : Nat} {s : St} {x : Value} {cells z : List Value} {v : Value} (h : Own N n s x cells) (hN : N ≤ s.heap.length) (hw : 0 < w) (hn : 0 < n) (hn2 : n ≤ 16777216) (hz : z.length = n) (hzl : z.all isLeaf = true) (hv : (cellsV v).length = n) (hvl : (cellsV v).all isLeaf = true)
    (hb : (cells.length + n) * w ≤ 140737488355328 * n) : ∃ r, abuildSl n z 1 [(0, v)] s = some r ∧ ∃ v' s', aappend n w x r.1 r.2 = some (v', s') ∧ Own N n s' v' (cells ++ cellsV v) ∧ Ext N s s' := by
  have h1 : abuildSl n z 1 [(0, v)] s = some (.slice (some ⟨s.heap.length, 0, none⟩) 1 1, s.push (.row n (cellsV v) .act)) := by
    have hrep : repCells z 1 = z := by simp [repCells]
    have hput : putCells z 0 (cellsV v) = cellsV v := by
      simp [putCells, hv, hz]
    unfold abuildSl
    rw [if_pos ⟨by omega, hz, hzl⟩]
    simp only [hrep, afill, placeA, Nat.zero_mul]
    rw [if_pos ⟨hv, by omega, hvl⟩, hput]
    rfl
  refine ⟨_, h1, ?_⟩
  have hE : Ext N s (s.push (.row n (cellsV v) .act)) := .push N hN _
  have hcells : cellsOf n (.slice (some ⟨s.heap.length, 0, none⟩) 1 1) (s.push (.row n (cellsV v) .act)) = some (cellsV v) := by
    simp only [cellsOf, Nat.le_refl, if_true, readN, Ab.readRow, push_get, Option.bind_some]
    rw [if_pos (by omega), List.drop_zero, Nat.one_mul, ← hv, List.take_length]
  have hO : Own N n (s.push (.row n (cellsV v) .act)) x cells := by
    rcases h with h | ⟨b, len, e1, e2, e3, e4, e5⟩
    · exact .inl h
    · exact .inr ⟨b, len, e1, e2, by rw [push_old (List.getElem?_eq_some_iff.1 e3).1]; exact e3, e4, e5⟩
  obtain ⟨v', s', g1, g2, g3⟩ := own_append (w := w) hO (by rw [push_len]; omega) hw hn (y := .slice (some ⟨s.heap.length, 0, none⟩) 1 1) (m := 1) rfl (elems_of hcells) (by omega) (by rw [hv]; exact hb)
  exact ⟨v', s', g1, g2, hE.trans g3⟩

/-! ### Arrays in the frame -/
theorem arr_all {n : Nat} {cs : List Value} (h : cs.length = n) : lload true n lptr (.agg cs.toArray) = some (.agg cs.toArray) := by
  subst h
  unfold lload lptr
  simp
theorem arr_put {n : Nat} {cs ds : List Value} (h : cs.length = n) (g : ds.length = n) (hl : ds.all isLeaf = true) : lstore n lptr (.agg ds.toArray) (.agg cs.toArray) = some (.agg ds.toArray) := by
  subst h
  have h2 : putCells cs 0 ds = ds := by simp [putCells, g]
  have h3 : cellsV (.agg ds.toArray) = ds := by simp [cellsV]
  unfold lstore lptr
  simp only [h3]
  rw [if_pos ⟨g, hl, by simp⟩]
  simp [h2]
/-! ### Functions that are known -/
abbrev Sum := List Value → St → Option (Value × St)
def libL : List (FuncId × Sum) → Lib
  | [], _ => none
  | (g, h) :: l, f => if f = g then some h else libL l f
theorem libOk_nil (P : Program) : LibOk P (libL []) := fun _ _ h => by cases h
theorem libOk_cons {P : Program} {hints : Hints} (hprog : progW P = true) {l : List (FuncId × Sum)} (hl : LibOk P (libL l)) {f : FuncId} {g : Sum} (hok : funcOk P f = true) (hg : SumOk P (libL l) hints f g) : LibOk P (libL ((f, g) :: l)) :=
  lib_add hprog hl hok hg fun _ => rfl
theorem known {P : Program} {lib : Lib} {hints : Hints} {f : FuncId} {g : Sum} (h : lib f = some g) {xs : List Value} {s : St} : run P lib hints f xs s = g xs s := run_lib h

/-! ### Functions whose values are plain, or bytes of their own -/
def newBytes (l : List UInt8) (s : St) : Value × St := (.slice (some ⟨s.heap.length, 0, none⟩) l.length l.length, s.push (.row 1 (bv l) .act))
def plainV : Value → Bool
  | .tuple a => a.toList.all constOk
  | v => constOk v
theorem SumOk.plain {P : Program} {lib : Lib} {hints : Hints} {f : FuncId} {G : List Value → St → Option Value} (h : ∀ args s v, G args s = some v → plainV v = true ∧ ∃ t0, run P lib hints f args (frzS s) = some (v, t0)) :
    SumOk P lib hints f fun args s => (G args s).map fun v => (v, s) := by
  intro args s v t hg
  simp only [Option.map_eq_some_iff] at hg
  obtain ⟨u, hu, e⟩ := hg
  cases e
  obtain ⟨h1, t0, h2⟩ := h args s v hu
  refine ⟨[], v, t0, fun _ => 0, by simp, h2, .pure ?_⟩
  cases v with
  | tuple a =>
    have := Vw.tup (ρ := renum s.heap.length fun _ => 0) (D := s.heap.length) (l := a.toList) h1
    simpa using this
  | _ => exact Vw.const h1
theorem SumOk.bytes {P : Program} {lib : Lib} {hints : Hints} {f : FuncId} {G : List Value → St → Option (List UInt8)} (h : ∀ args s l, G args s = some l → l ≠ [] ∧ ∃ v0 t0, run P lib hints f args (frzS s) = some (v0, t0) ∧ Own s.heap.length 1 t0 v0 (bv l)) :
    SumOk P lib hints f fun args s => (G args s).map fun l => newBytes l s := by
  intro args s v t hg
  simp only [Option.map_eq_some_iff] at hg
  obtain ⟨l, hl, e⟩ := hg
  cases e
  obtain ⟨hne, v0, t0, h2, h3⟩ := h args s l hl
  rcases h3 with ⟨_, h3⟩ | ⟨b, len, rfl, h4, h5, h6, h7⟩
  · exact absurd (bv_inj (m := []) h3) hne
  · rw [bv_length, Nat.mul_one] at h6
    subst h6
    exact ⟨_, _, t0, _, rfl, h2, .row h4 h5 (fun _ _ h => h) bv_leaf (Vw.slice (Nat.le_refl _) (Nat.le_refl _))⟩
theorem quiet_new {l : List UInt8} {s : St} : quietR s (newBytes l (frzS s)) = newBytes l s := by
  have := frzS_len s
  simp [quietR, newBytes, St.push, this]
theorem quiet_new2 {l : List UInt8} {s : St} : quietR s ((newBytes l (frzS s)).1, (newBytes l (frzS s)).2) = newBytes l s := quiet_new
theorem newBytes_bytes {l : List UInt8} {s : St} : bytesOf (newBytes l s).1 (newBytes l s).2 = some l := by
  unfold bytesOf newBytes
  simp only [cellsOf, Nat.le_refl, if_true, readN, Ab.readRow, push_get, Option.bind_some, Nat.mul_one, Nat.zero_add, bv_length]
  rw [List.drop_zero, ← bv_length, List.take_length]
  exact ubs_bv l
theorem newBytes_own {N : Nat} {l : List UInt8} {s : St} (h : N ≤ s.heap.length) (hl : l ≠ []) : Own N 1 (newBytes l s).2 (newBytes l s).1 (bv l) :=
  .inr ⟨s.heap.length, l.length, rfl, h, push_get, by rw [bv_length, Nat.mul_one], List.length_pos_iff.2 hl⟩
theorem newBytes_ext {N : Nat} {l : List UInt8} {s : St} (h : N ≤ s.heap.length) : Ext N s (newBytes l s).2 := .push N h _

end Go.Proofs.YtckpcelchhmjcaaGreat.Ab

/- Strings, in their order. -/
namespace Go.Proofs.YtckpcelchhmjcaaGreat.Ab
open Go

/-- below, as the machine has it -/
abbrev bl (a b : List UInt8) : Bool := Op.bytesLess a b
theorem bl_nil_r (a : List UInt8) : bl a [] = false := by cases a <;> rfl
theorem bl_cons {x y : UInt8} {a b : List UInt8} : bl (x :: a) (y :: b) = true ↔ x.toNat < y.toNat ∨ (x = y ∧ bl a b = true) := by
  show (decide (x < y) || (x == y && Op.bytesLess a b)) = true ↔ _
  simp only [Bool.or_eq_true, decide_eq_true_eq, Bool.and_eq_true, beq_iff_eq, UInt8.lt_iff_toNat_lt]
end Go.Proofs.YtckpcelchhmjcaaGreat.Ab

/- A range over a function, where the function gives its rounds as a list: rounds are run by the abstract machine. -/
namespace Go.Proofs.YtckpcelchhmjcaaGreat.Ab
open Go Go.RowKit

/-! ### Frames without places -/
structure FS (n wb : Nat) (ι : Emb) (T : Fr) (H : List Blk) (tmps : Array Value) (w : World) : Prop where
  sim : Sim wb ι H w
  nm : ∀ x, x < n → VRel ι (T x) (tmps.getD x undef)
def cutF (n : Nat) (T : Fr) : Fr := fun x => if x < n then T x else poisonV
theorem FS.b {n wb : Nat} {ι : Emb} {T : Fr} {H : List Blk} {tmps : Array Value} {w : World} (h : FS n wb ι T H tmps w) : BSim [] n wb ι H w ι (fun _ => none) (cutF n T) H tmps w := by
  refine ⟨h.sim, ⟨fun _ _ h => (by cases h), fun _ _ h => (by cases h), fun _ _ _ h => (by cases h)⟩, .refl _ _ _ h.sim.dom, fun x => ?_⟩
  unfold cutF
  by_cases c : x < n
  · rw [if_pos c]
    unfold NRel
    rw [if_pos c]
    exact h.nm x c
  · rw [if_neg c]; exact .poison
theorem BSim.fs {n wb : Nat} {ι0 ι : Emb} {H0 H : List Blk} {w0 w : World} {lam : Lam} {T : Fr} {tmps : Array Value} (h : BSim [] n wb ι0 H0 w0 ι lam T H tmps w) : FS n wb ι T H tmps w := by
  refine ⟨h.sim, fun x hx => ?_⟩
  have := h.nm x
  unfold NRel at this
  rw [if_pos hx] at this
  exact this
theorem FS.mono {n wb : Nat} {ι κ : Emb} {T T' : Fr} {H K : List Blk} {tmps tmps' : Array Value} {w v : World} (h : FS n wb ι T H tmps w) (g : FS n wb κ T' K tmps' v) (hl : ι.le κ) : FS n wb κ T K tmps v := ⟨g.sim, fun x hx => (h.nm x hx).mono hl⟩

section
variable {P : Program} {call : Caller} {n m wb : Nat}
def sel : List Nat → Code → Code
  | [], c => c
  | 0 :: p, .seq a _ => sel p a
  | 1 :: p, .seq _ b => sel p b
  | 2 :: p, .block _ a => sel p a
  | 2 :: p, .loop a => sel p a
  | 3 :: p, .rangeFunc _ _ a _ => sel p a
  | 4 :: p, .rangeFunc _ _ _ b => sel p b
  | _, _ => .skip
def NoMap (H : List Blk) : Prop := ∀ (b : Nat) es clock, H[b]? ≠ some (.map es clock)
/-- a block that is no cells has turned, and what grew -/
theorem Sim.grown {ι : Emb} {H : List Blk} {w w' : World} {row : Option Nat} (h : Sim wb ι H w) (hm : NoMap H) (hg : w.grownBy w' row) (hr : ∀ r, row = some r → ∃ o : Obj, w.heap[r]? = some o ∧ ∀ cs e fz, o ≠ .cells cs e fz) : Sim wb ι H w' where
  dom := h.dom
  row b n' cells st hb hst l hl := by
    obtain ⟨cs, e, fz, q1, q2, q3, q4⟩ := h.row b n' cells st hb hst l hl
    refine ⟨cs, e, fz, ?_, q2, q3, q4⟩
    rw [hg.block _ (Array.getElem?_eq_some_iff.1 q1).1 fun e1 => ?_]
    · exact q1
    · obtain ⟨o, ho, hn⟩ := hr _ e1.symm
      rw [q1] at ho
      cases ho
      exact hn _ _ _ rfl
  map b es clock hb := absurd hb (hm b es clock)
  excl := h.excl
  size := Nat.le_trans h.size hg.size
  loc := h.loc
theorem FS.grown {ι : Emb} {T : Fr} {H : List Blk} {tmps : Array Value} {w w' : World} {row : Option Nat} (h : FS n wb ι T H tmps w) (hm : NoMap H) (hg : w.grownBy w' row) (hr : ∀ r, row = some r → ∃ o : Obj, w.heap[r]? = some o ∧ ∀ cs e fz, o ≠ .cells cs e fz) : FS n wb ι T H tmps w' := ⟨h.sim.grown hm hg hr, h.nm⟩
theorem Step.grown {ι κ : Emb} {H K : List Blk} {w v v' : World} {row : Option Nat} (h : Step ι H w κ K v) (hg : v.grownBy v' row) (hr : ∀ r, row = some r → w.heap.size ≤ r) : Step ι H w κ K v' where
  le := h.le
  old := h.old
  img := h.img
  keep c hc hn := by
    rw [hg.block c (Nat.lt_of_lt_of_le hc h.size) fun e => ?_]
    · exact h.keep c hc hn
    · have := hr c e.symm; omega
  size := Nat.le_trans h.size hg.size
  os := hg.os.trans h.os
  tape := hg.tape.trans h.tape
  output := hg.output.trans h.output
  len := h.len
  own := h.own

def setP : List (Tmp × Value) → Fr → Fr
  | [], T => T
  | (p, v) :: l, T => setP l (setT T p v)
theorem FS.params {ι : Emb} {H : List Blk} {w : World} : ∀ {l : List (Tmp × Value)} {T : Fr} {tmps : Array Value}, FS n wb ι T H tmps w → tmps.size = n → (∀ x ∈ l, constOk x.2 = true) →
    FS n wb ι (setP l T) H (l.foldl (fun t (x : Tmp × Value) => t.setIfInBounds x.1 x.2) tmps) w ∧ (l.foldl (fun t (x : Tmp × Value) => t.setIfInBounds x.1 x.2) tmps).size = n
  | [], T, tmps, h, hz, _ => ⟨h, hz⟩
  | (p, v) :: l, T, tmps, h, hz, hc => by
    refine FS.params (l := l) (T := setT T p v) (tmps := tmps.setIfInBounds p v) ⟨h.sim, fun x hx => ?_⟩ (by simpa using hz) fun y hy => hc y (List.mem_cons_of_mem _ hy)
    unfold setT
    by_cases e : x = p
    · subst e
      rw [Nat.beq_refl]
      have : (tmps.setIfInBounds x v).getD x undef = v := by simp [Array.getD, hz, hx]
      rw [cond_true, this]
      exact constOk_rel (hc (x, v) (List.mem_cons_self ..))
    · have hb : Nat.beq x p = false := by
        cases hb : Nat.beq x p with
        | false => rfl
        | true => exact absurd (Nat.eq_of_beq_eq_true hb) e
      rw [hb, cond_false]
      have : (tmps.setIfInBounds p v).getD x undef = tmps.getD x undef := by
        simp [Array.getD, hz, hx, Array.getElem_setIfInBounds_ne, Ne.symm e]
      rw [this]
      exact h.nm x hx

end
end Go.Proofs.YtckpcelchhmjcaaGreat.Ab
