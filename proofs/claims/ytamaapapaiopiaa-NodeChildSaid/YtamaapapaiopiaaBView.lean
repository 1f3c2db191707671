/- What is known of a function, told of a heap without what it leaves behind. -/
import Derived.Test.YtamaapapaiopiaaBFun
set_option linter.unusedVariables false
set_option linter.unusedSimpArgs false
set_option linter.unusedSectionVars false
namespace Go.Proofs.Ytamaapapaiopiaa.Ab
open Go

section
variable (ρ : Nat → Nat) (D : Nat)
/-- the same value, where blocks have other numbers -/
inductive Vw0 : Value → Value → Prop
  | same (v : Value) (h : leafOk v = true) : Vw0 v v
  | ptr (b off : Nat) (hb : b < D) : Vw0 (.pointer (some ⟨b, off, none⟩)) (.pointer (some ⟨ρ b, off, none⟩))
  | slice (b off len cap cap' : Nat) (hb : b < D) (hl : len ≤ cap) (hc : cap ≤ cap') : Vw0 (.slice (some ⟨b, off, none⟩) len cap) (.slice (some ⟨ρ b, off, none⟩) len cap')
  | map (b : Nat) (hb : b < D) : Vw0 (.map (some b)) (.map (some (ρ b)))
inductive Vw1 : Value → Value → Prop
  | l0 {u v : Value} (h : Vw0 ρ D u v) : Vw1 u v
  | func (fn : Fn) {a a' b b' : Array Value} (ha : All2 (Vw0 ρ D) a.toList a'.toList) (hb : All2 (Vw0 ρ D) b.toList b'.toList) : Vw1 (.func fn a b) (.func fn a' b')
inductive Vw2 : Value → Value → Prop
  | l1 {u v : Value} (h : Vw1 ρ D u v) : Vw2 u v
  | iface (t : TypeId) {u v : Value} (h : Vw1 ρ D u v) : Vw2 (.iface t u) (.iface t v)
  | ifaceAgg (t : TypeId) {a a' : Array Value} (h : All2 (Vw1 ρ D) a.toList a'.toList) : Vw2 (.iface t (.agg a)) (.iface t (.agg a'))
inductive VwA : Value → Value → Prop
  | l2 {u v : Value} (h : Vw2 ρ D u v) : VwA u v
  | agg {a a' : Array Value} (h : All2 (Vw2 ρ D) a.toList a'.toList) : VwA (.agg a) (.agg a')
inductive Vw : Value → Value → Prop
  | va {u v : Value} (h : VwA ρ D u v) : Vw u v
  | tuple {a a' : Array Value} (h : All2 (VwA ρ D) a.toList a'.toList) : Vw (.tuple a) (.tuple a')
end

def Emb.via (κ : Emb) (ρ : Nat → Nat) (D : Nat) : Emb := fun b => if b < D then κ (ρ b) else none

section
variable {κ : Emb} {ρ : Nat → Nat} {D : Nat}
theorem Emb.via_lt {b : Nat} (hb : b < D) : κ.via ρ D b = κ (ρ b) := if_pos hb

theorem All2.comp {α β γ : Type} {R : α → β → Prop} {S : β → γ → Prop} {T : α → γ → Prop} (h : ∀ a b c, R a b → S b c → T a c) : ∀ {l : List α} {m : List β} {n : List γ}, All2 R l m → All2 S m n → All2 T l n
  | [], [], [], _, _ => trivial
  | _ :: _, _ :: _, _ :: _, ⟨h1, h2⟩, ⟨g1, g2⟩ => ⟨h _ _ _ h1 g1, All2.comp h h2 g2⟩

theorem All2.nilL {α β : Type} {R S : α → β → Prop} {l : List α} {m : List β} (h : All2 R l m) (e : l = []) : All2 S l m := by
  subst e
  cases m with
  | nil => trivial
  | cons => exact h.elim
theorem All2.nilR {α β γ : Type} {R : α → β → Prop} {S : α → γ → Prop} {l : List α} {m : List β} {n : List γ} (h : All2 R l m) (e : m = []) (e2 : n = [] := by rfl) : All2 S l n := by
  subst e e2
  cases l with
  | nil => trivial
  | cons => exact h.elim

theorem leaf_via {v x : Value} (h : leafOk v = true) (g : L0 κ v x) : L0 (κ.via ρ D) v x := by
  cases g with
  | bool b => exact .bool b
  | int k n => exact .int k n
  | string s => exact .string s
  | pnil => exact .pnil
  | ptr => simp [leafOk] at h
  | snil => exact .snil
  | slice => simp [leafOk] at h
  | slice0 => simp [leafOk] at h
  | mnil => exact .mnil
  | map => simp [leafOk] at h
  | nilFunc => exact .nilFunc
  | nilIface => exact .nilIface
  | func fn => exact .func fn
theorem Vw0.via {u v x : Value} (h : Vw0 ρ D u v) (g : L0 κ v x) : L0 (κ.via ρ D) u x := by
  cases h with
  | same _ h => exact leaf_via h g
  | ptr b off hb => cases g with
    | ptr _ g => exact .ptr off (by rw [Emb.via_lt hb]; exact g)
  | slice b off len cap cap' hb hl hc => cases g with
    | slice _ g gl gc gz => exact .slice off (by rw [Emb.via_lt hb]; exact g) hl (Nat.le_trans hc gc) gz
    | slice0 =>
      obtain rfl := Nat.le_zero.1 hc
      exact .slice0 _ _
  | map b hb => cases g with
    | map g => exact .map (by rw [Emb.via_lt hb]; exact g)
theorem Vw1.via {u v x : Value} (h : Vw1 ρ D u v) (g : L1 κ v x) : L1 (κ.via ρ D) u x := by
  cases h with
  | l0 h => cases g with
    | l0 g => exact .l0 (h.via g)
    | func fn ga gb => cases h with
      | same _ h =>
        simp [leafOk] at h
        obtain ⟨rfl, rfl⟩ := h
        exact .func fn (ga.nilL rfl) (gb.nilL rfl)
  | func fn ha hb => cases g with
    | func _ ga gb => exact .func fn (ha.comp (R := Vw0 ρ D) (S := L0 κ) (T := L0 (κ.via ρ D)) (fun _ _ _ h g => Vw0.via h g) ga) (hb.comp (R := Vw0 ρ D) (S := L0 κ) (T := L0 (κ.via ρ D)) (fun _ _ _ h g => Vw0.via h g) gb)
    | l0 g => cases g with
      | func =>
        exact .func fn (ha.nilR rfl) (hb.nilR rfl)
theorem Vw2.via {u v x : Value} (h : Vw2 ρ D u v) (g : L2 κ v x) : L2 (κ.via ρ D) u x := by
  cases h with
  | l1 h => cases g with
    | l1 g => exact .l1 (h.via g)
    | iface => cases h with
      | l0 h => cases h with
        | same _ h => simp [leafOk] at h
    | ifaceAgg => cases h with
      | l0 h => cases h with
        | same _ h => simp [leafOk] at h
  | iface t h => cases g with
    | iface _ g => exact .iface t (h.via g)
    | ifaceAgg _ g => cases h with
      | l0 h => cases h with
        | same _ h => simp [leafOk] at h
    | l1 g => cases g with
      | l0 g => cases g
  | ifaceAgg t h => cases g with
    | ifaceAgg _ g => exact .ifaceAgg t (h.comp (R := Vw1 ρ D) (S := L1 κ) (T := L1 (κ.via ρ D)) (fun _ _ _ h g => Vw1.via h g) g)
    | iface _ g => cases g with
      | l0 g => cases g
    | l1 g => cases g with
      | l0 g => cases g
theorem VwA.via {u v x : Value} (h : VwA ρ D u v) (g : VA κ v x) : VA (κ.via ρ D) u x := by
  cases h with
  | l2 h => cases g with
    | l2 g => exact .l2 (h.via g)
    | agg => cases h with
      | l1 h => cases h with
        | l0 h => cases h with
          | same _ h => simp [leafOk] at h
  | agg h => cases g with
    | agg g => exact .agg (h.comp (R := Vw2 ρ D) (S := L2 κ) (T := L2 (κ.via ρ D)) (fun _ _ _ h g => Vw2.via h g) g)
    | l2 g => cases g with
      | l1 g => cases g with
        | l0 g => cases g
theorem Vw.via {u v x : Value} (h : Vw ρ D u v) (g : VRel κ v x) : VRel (κ.via ρ D) u x := by
  cases h with
  | va h => cases g with
    | va g => exact .va (h.via g)
    | tuple => cases h with
      | l2 h => cases h with
        | l1 h => cases h with
          | l0 h => cases h with
            | same _ h => simp [leafOk] at h
    | poison => cases h with
      | l2 h => cases h with
        | l1 h => cases h with
          | l0 h => cases h with
            | same _ h => simp [leafOk] at h
  | tuple h => cases g with
    | tuple g => exact .tuple (h.comp (R := VwA ρ D) (S := VA κ) (T := VA (κ.via ρ D)) (fun _ _ _ h g => VwA.via h g) g)
    | poison =>
      revert h
      generalize (Array.toList _) = l
      intro h
      cases l with
      | nil => exact h.elim
      | cons y l =>
        have := h.1
        cases this with
        | l2 h => cases h with
          | l1 h => cases h with
            | l0 h => cases h with
              | same _ h => simp [leafOk] at h
    | va g => cases g with
      | l2 g => cases g with
        | l1 g => cases g with
          | l0 g => cases g

end

/-! ### A run on a heap that may not be written -/
def frzS (s : St) : St := ⟨frzK [] 0 s.heap⟩
theorem frzS_get (s : St) (b : Nat) : (frzS s).heap[b]? = (s.heap[b]?).map frzB := by
  have := frzK_get (K := []) (l := s.heap) (i := 0) (b := b)
  rw [show frzB = viewB .frz from rfl]
  simpa [frzS] using this
theorem frzS_len (s : St) : (frzS s).heap.length = s.heap.length := frzK_length
theorem frzS_own (s : St) (b : Nat) : ownB (frzS s).heap[b]? = false := by
  rw [frzS_get]
  cases s.heap[b]? with
  | none => rfl
  | some x => cases x with
    | row n c st => cases st <;> rfl
    | map => rfl

theorem Sim.frz {wb : Nat} {ι : Emb} {s : St} {w : World} (h : Sim wb ι s.heap w) : Sim w.heap.size ι (frzS s).heap w where
  dom b x hx := by rw [frzS_len]; exact h.dom b x hx
  row b n cells st hb hst l hl := by
    rw [frzS_get] at hb
    cases hx : s.heap[b]? with
    | none => rw [hx] at hb; cases hb
    | some x =>
      rw [hx] at hb
      have key : ∃ st0, x = .row n cells st0 ∧ st0 ≠ .dead ∧ st = .ro := by
        cases x with
        | map => simp [frzB] at hb; exact absurd hb.2.2.symm hst
        | row n' c' st' =>
          cases st' with
          | act => simp [frzB] at hb; obtain ⟨rfl, rfl, rfl⟩ := hb; exact ⟨.act, rfl, by simp, rfl⟩
          | ro => simp [frzB] at hb; obtain ⟨rfl, rfl, rfl⟩ := hb; exact ⟨.ro, rfl, by simp, rfl⟩
          | dead => simp [frzB] at hb; exact absurd hb.2.2.symm hst
      obtain ⟨st0, rfl, h0, rfl⟩ := key
      obtain ⟨cs, e, fz, q1, _, _, q4⟩ := h.row b n cells st0 hx h0 l hl
      exact ⟨cs, e, fz, q1, fun _ => (Array.getElem?_eq_some_iff.1 q1).1, fun hh => (by cases hh), q4⟩
  map b es clock hb := by
    rw [frzS_get] at hb
    cases hx : s.heap[b]? with
    | none => rw [hx] at hb; cases hb
    | some x =>
      rw [hx] at hb
      cases x with
      | row n c st => cases st <;> simp [frzB] at hb
      | map => simp [frzB] at hb
  excl a b ha := by rw [frzS_own] at ha; cases ha
  size := Nat.le_refl _
  loc b n cells st hb hst l hl := by
    rw [frzS_get] at hb
    cases hx : s.heap[b]? with
    | none => rw [hx] at hb; cases hb
    | some x =>
      rw [hx] at hb
      have key : ∃ st0, x = .row n cells st0 ∧ st0 ≠ .dead := by
        cases x with
        | map => simp [frzB] at hb; exact absurd hb.2.2.symm hst
        | row n' c' st' =>
          cases st' with
          | act => simp [frzB] at hb; obtain ⟨rfl, rfl, rfl⟩ := hb; exact ⟨.act, rfl, by simp⟩
          | ro => simp [frzB] at hb; obtain ⟨rfl, rfl, rfl⟩ := hb; exact ⟨.ro, rfl, by simp⟩
          | dead => simp [frzB] at hb; exact absurd hb.2.2.symm hst
      obtain ⟨st0, rfl, h0⟩ := key
      exact h.loc b n cells st0 hx h0 l hl

theorem callV_eq {P : Program} {R : Caller} {f : FuncId} (h : funcOk P f = true) {xs : List Value} {s : St} : callV P R (.func (.func f) #[] #[]) xs s = R f xs s := by
  simp [callV, h]

def renum (N : Nat) (μ : Nat → Nat) (b : Nat) : Nat := if b < N then b else μ (b - N)

/-- behind N blocks these, of those that a run left -/
structure Views (N : Nat) (K : List Blk) (t0 : St) (μ : Nat → Nat) (v v0 : Value) : Prop where
  ge : ∀ k, k < K.length → N ≤ μ k
  inj : ∀ i j, i < K.length → j < K.length → μ i = μ j → i = j
  blk : ∀ (k : Nat) (B : Blk), K[k]? = some B → ∃ n cells cells0, B = .row n cells .act ∧ t0.heap[μ k]? = some (.row n cells0 .act) ∧ ∀ (i : Nat) (c : Value), cells[i]? = some c → ∃ c0 : Value, cells0[i]? = some c0 ∧ Vw2 (renum N μ) (N + K.length) c c0
  val : Vw (renum N μ) (N + K.length) v v0

theorem Views.after {wb : Nat} {ι : Emb} {s t0 : St} {w w' : World} (hs : Sim wb ι s.heap w) {v v0 v' : Value} (h : After w.heap.size ι (frzS s).heap w t0.heap v0 v' w') {K : List Blk} {μ : Nat → Nat} (hv : Views s.heap.length K t0 μ v v0) : After wb ι s.heap w (s.heap ++ K) v v' w' := by
  obtain ⟨κ0, h1, h2, h3⟩ := h
  have hsame : ∀ c, c < w.heap.size → w'.heap[c]? = w.heap[c]? := fun c hc => h2.keep c hc fun a y ha => by rw [frzS_own] at ha; cases ha
  have hold : ∀ b, b < s.heap.length → κ0.via (renum s.heap.length μ) (s.heap.length + K.length) b = ι b := fun b hb => by
    rw [Emb.via_lt (by omega)]
    unfold renum
    rw [if_pos hb, h2.old b (by rw [frzS_len]; exact hb)]
  have hnew : ∀ b l, ¬ b < s.heap.length → κ0.via (renum s.heap.length μ) (s.heap.length + K.length) b = some l → b < s.heap.length + K.length ∧ κ0 (μ (b - s.heap.length)) = some l ∧ s.heap.length ≤ μ (b - s.heap.length) ∧ w.heap.size ≤ l.blk := fun b l hb hl => by
    have hlt : b < s.heap.length + K.length := by
      rcases Nat.lt_or_ge b (s.heap.length + K.length) with hh | hh
      · exact hh
      · unfold Emb.via at hl; rw [if_neg (by omega)] at hl; cases hl
    rw [Emb.via_lt hlt] at hl
    unfold renum at hl
    rw [if_neg hb] at hl
    have hge := hv.ge (b - s.heap.length) (by omega)
    refine ⟨hlt, hl, hge, ?_⟩
    rcases h2.img _ l hl (by rw [frzS_len]; exact hge) with h4 | ⟨a, y, ha, _⟩
    · exact h4
    · rw [frzS_own] at ha; cases ha
  have hle : ι.le (κ0.via (renum s.heap.length μ) (s.heap.length + K.length)) := fun b x hx => by
    rw [hold b (hs.dom b x hx)]; exact hx
  have hs' := hs.later hsame h2.size
  have hblk : ∀ b B, (s.heap ++ K)[b]? = some B → ¬ b < s.heap.length → K[b - s.heap.length]? = some B := fun b B hb hn => by
    rwa [List.getElem?_append_right (by omega)] at hb
  refine ⟨_, ?_, ?_, hv.val.via h3⟩
  · constructor
    · intro b x hx
      rw [List.length_append]
      by_cases hb : b < s.heap.length
      · omega
      · exact (hnew b x hb hx).1
    · intro b n cells st hb hst l hl
      by_cases hlt : b < s.heap.length
      · rw [List.getElem?_append_left hlt] at hb
        rw [hold b hlt] at hl
        obtain ⟨cs, e, fz, q1, q2, q3, q4⟩ := hs'.row b n cells st hb hst l hl
        exact ⟨cs, e, fz, q1, q2, q3, fun i v hi => by
          obtain ⟨v', p1, p2⟩ := q4 i v hi
          exact ⟨v', p1, p2.mono hle⟩⟩
      · obtain ⟨g1, g2, g3, g4⟩ := hnew b l hlt hl
        obtain ⟨n', c', c0, e1, e2, e3⟩ := hv.blk _ _ (hblk b _ hb hlt)
        cases e1
        obtain ⟨cs, e, fz, q1, q2, q3, q4⟩ := h1.row _ _ _ _ e2 (by simp) l g2
        refine ⟨cs, e, fz, q1, fun hh => (by cases hh), fun _ => ⟨Nat.le_trans hs.size g4, (q3 rfl).2⟩, fun i v hi => ?_⟩
        obtain ⟨c1, p1, p2⟩ := e3 i v hi
        obtain ⟨v', p3, p4⟩ := q4 i c1 p1
        exact ⟨v', p3, p2.via p4⟩
    · intro b es clock hb l hl
      by_cases hlt : b < s.heap.length
      · rw [List.getElem?_append_left hlt] at hb
        rw [hold b hlt] at hl
        obtain ⟨q1, q2, es', q3, q4⟩ := hs'.map b es clock hb l hl
        exact ⟨q1, q2, es', q3, q4.mono fun x e he => entRel_mono hle he⟩
      · obtain ⟨n', c', c0, e1, _⟩ := hv.blk _ _ (hblk b _ hb hlt)
        cases e1
    · intro a b ha hb hne x y hx hy
      have own_old : ∀ a, a < s.heap.length → ownB (s.heap ++ K)[a]? = true → ownB s.heap[a]? = true := fun a hlt h => by
        rwa [List.getElem?_append_left hlt] at h
      have own_row : ∀ a, a < s.heap.length + K.length → ¬ a < s.heap.length → ownB t0.heap[μ (a - s.heap.length)]? = true := fun a hlt hn => by
        obtain ⟨n', c', c0, _, e2, _⟩ := hv.blk (a - s.heap.length) K[a - s.heap.length] (List.getElem?_eq_getElem (by omega))
        rw [e2]; rfl
      by_cases hal : a < s.heap.length
      · rw [hold a hal] at hx
        by_cases hbl : b < s.heap.length
        · rw [hold b hbl] at hy
          exact hs.excl a b (own_old a hal ha) (own_old b hbl hb) hne x y hx hy
        · have := (hnew b y hbl hy).2.2.2
          have := hs.own_lt (own_old a hal ha) hx
          omega
      · obtain ⟨g1, g2, g3, g4⟩ := hnew a x hal hx
        by_cases hbl : b < s.heap.length
        · rw [hold b hbl] at hy
          have := hs.own_lt (own_old b hbl hb) hy
          omega
        · obtain ⟨f1, f2, f3, f4⟩ := hnew b y hbl hy
          exact h1.excl _ _ (own_row a g1 hal) (own_row b f1 hbl) (fun e => hne (by have := hv.inj _ _ (by omega) (by omega) e; omega)) x y g2 f2
    · exact Nat.le_trans hs.size h2.size
    · intro b n cells st hb hst l hl
      by_cases hlt : b < s.heap.length
      · rw [List.getElem?_append_left hlt] at hb
        rw [hold b hlt] at hl
        exact hs.loc b n cells st hb hst l hl
      · obtain ⟨g1, g2, g3, g4⟩ := hnew b l hlt hl
        obtain ⟨n', c', c0, e1, e2, e3⟩ := hv.blk _ _ (hblk b _ hb hlt)
        cases e1
        exact h1.loc _ _ _ _ e2 (by simp) l g2
  · constructor
    · exact hle
    · exact hold
    · intro b x hx hb; exact .inl (hnew b x (by omega) hx).2.2.2
    · intro c hc _; exact hsame c hc
    · exact h2.size
    · exact h2.os
    · exact h2.tape
    · exact h2.output
    · simp
    · intro a ha h; rwa [List.getElem?_append_left ha] at h

/-! ### What is known of functions -/
/-- what a run on a heap that may not be written gives, seen so -/
def SumOk (P : Program) (lib : Lib) (hints : Hints) (f : FuncId) (g : List Value → St → Option (Value × St)) : Prop :=
  ∀ args s v t, g args s = some (v, t) → ∃ K v0 t0 μ, t.heap = s.heap ++ K ∧ run P lib hints f args (frzS s) = some (v0, t0) ∧ Views s.heap.length K t0 μ v v0

theorem sum_calls {P : Program} {lib : Lib} {hints : Hints} (hprog : progW P = true) (hlib : LibOk P lib) {f : FuncId} (hok : funcOk P f = true) {g : List Value → St → Option (Value × St)} (hg : SumOk P lib hints f g) {args : List Value} {s t : St} {v : Value} (h : g args s = some (v, t))
    {wb : Nat} {ι : Emb} {w : World} {args' : Array Value} (hs : Sim wb ι s.heap w) (ha : All2 (VRel ι) args args'.toList) : Calls P f args' w fun e w' => ∃ v', e = .returned v' ∧ After wb ι s.heap w t.heap v v' w' := by
  obtain ⟨K, v0, t0, μ, hK, hrun, hv⟩ := hg args s v t h
  refine (run_sound hprog hlib f args (frzS s) v0 t0 hrun hok w.heap.size ι w args' hs.frz ha).mono fun e w' ⟨v', he, hA⟩ => ⟨v', he, ?_⟩
  rw [hK]
  exact hv.after hs hA

theorem lib_add {P : Program} {lib lib' : Lib} {hints : Hints} (hprog : progW P = true) (hlib : LibOk P lib) {f : FuncId} {g : List Value → St → Option (Value × St)} (hok : funcOk P f = true) (hg : SumOk P lib hints f g) (he : ∀ f', lib' f' = if f' = f then some g else lib f') : LibOk P lib' := by
  intro f' g' hf' args s v s' h wb ι w args' hs ha
  rw [he] at hf'
  split at hf'
  · rename_i hff
    cases hf'
    subst hff
    exact sum_calls hprog hlib hok hg h hs ha
  · exact hlib f' g' hf' args s v s' h wb ι w args' hs ha

/-- a value without memory -/
theorem Views.pure {N : Nat} {t0 : St} {v : Value} (h : Vw (renum N fun _ => 0) N v v) : Views N [] t0 (fun _ => 0) v v :=
  ⟨fun k hk => absurd hk (by simp), fun i j hi => absurd hi (by simp), fun k B hk => by simp at hk, h⟩
theorem Vw0.leafs {ρ : Nat → Nat} {D : Nat} : ∀ {l : List Value}, l.all leafOk = true → All2 (Vw2 ρ D) l l
  | [], _ => trivial
  | v :: l, h => by
    simp at h
    exact ⟨.l1 (.l0 (.same v h.1)), Vw0.leafs (by simpa using h.2)⟩
theorem VwA.const {ρ : Nat → Nat} {D : Nat} {v : Value} (h : constOk v = true) : VwA ρ D v v := by
  cases v with
  | agg cs => exact .agg (Vw0.leafs h)
  | _ => exact .l2 (.l1 (.l0 (.same _ h)))
theorem Vw.const {ρ : Nat → Nat} {D : Nat} {v : Value} (h : constOk v = true) : Vw ρ D v v := .va (VwA.const h)
theorem VwA.consts {ρ : Nat → Nat} {D : Nat} : ∀ {l : List Value}, l.all constOk = true → All2 (VwA ρ D) l l
  | [], _ => trivial
  | v :: l, h => by
    simp at h
    exact ⟨VwA.const h.1, VwA.consts (by simpa using h.2)⟩
theorem Vw.tup {ρ : Nat → Nat} {D : Nat} {l : List Value} (h : l.all constOk = true) : Vw ρ D (.tuple l.toArray) (.tuple l.toArray) := .tuple (by simpa using VwA.consts h)

/-- one new row, and a slice of it -/
theorem Views.row {N n i : Nat} {cells cells0 : List Value} {t0 : St} (hi : N ≤ i) (h : t0.heap[i]? = some (.row n cells0 .act)) (hc : ∀ (k : Nat) (c : Value), cells[k]? = some c → cells0[k]? = some c) (hl : cells.all leafOk = true) {v v0 : Value} (hv : Vw (renum N fun _ => i) (N + 1) v v0) :
    Views N [.row n cells .act] t0 (fun _ => i) v v0 := by
  refine ⟨fun k hk => hi, fun a b ha hb _ => by simp at ha hb; omega, fun k B hk => ?_, hv⟩
  cases k with
  | zero =>
    simp at hk
    subst hk
    refine ⟨n, cells, cells0, rfl, h, fun k c hk => ⟨c, hc k c hk, .l1 (.l0 (.same c ?_))⟩⟩
    exact List.all_eq_true.1 hl c (List.mem_of_getElem? hk)
  | succ k => simp at hk
theorem Vw0.row {N i off len cap cap' : Nat} (hl : len ≤ cap) (hc : cap ≤ cap') : Vw0 (renum N fun _ => i) (N + 1) (.slice (some ⟨N, off, none⟩) len cap) (.slice (some ⟨i, off, none⟩) len cap') := by
  have := Vw0.slice (ρ := renum N fun _ => i) (D := N + 1) N off len cap cap' (by omega) hl hc
  unfold renum at this ⊢
  rwa [if_neg (by omega)] at this
theorem Vw.slice {N i off len cap cap' : Nat} (hl : len ≤ cap) (hc : cap ≤ cap') : Vw (renum N fun _ => i) (N + 1) (.slice (some ⟨N, off, none⟩) len cap) (.slice (some ⟨i, off, none⟩) len cap') := .va (.l2 (.l1 (.l0 (Vw0.row hl hc))))

end Go.Proofs.Ytamaapapaiopiaa.Ab
