/- From the abstract machine's word on a law to the law's call. -/
import Derived.Test.YtamaapapaiopiaaBView
import Derived.WalkKit
set_option linter.unusedVariables false
set_option linter.unusedSimpArgs false
set_option linter.unusedSectionVars false
namespace Go.Proofs.Ytamaapapaiopiaa.Ab
open Go Go.RowKit

/-- a law's call: its word is true, and what was there stays as it was -/
theorem law_calls {P : Program} {lib : Lib} {hints : Hints} (hprog : progW P = true) (hlib : LibOk P lib) {n : FuncId} {args : List Value} {H : List Blk} {s1 : St} (hrun : run P lib hints n args ⟨H⟩ = some (.bool true, s1)) (hok : funcOk P n = true)
    {ι : Emb} {W : World} (hs : Sim W.heap.size ι H W) (hro : ∀ b : Nat, ownB H[b]? = false) {args' : Array Value} (ha : All2 (VRel ι) args args'.toList) :
    Calls P n args' W fun e W' => e = .returned (.bool true) ∧ Below W.heap.size W W' := by
  refine (run_sound hprog hlib n args ⟨H⟩ _ _ hrun hok _ ι W args' hs ha).mono fun e W' ⟨v', he, κ, h1, h2, h3⟩ => ?_
  refine ⟨by rw [he, h3.inv_bool], ⟨h2.os, h2.tape, h2.output, h2.size, fun k hk => h2.keep k hk fun a y hoa => ?_⟩⟩
  rw [hro a] at hoa
  cases hoa

/-- no arguments in memory -/
theorem sim_nil (W : World) : Sim W.heap.size (fun _ => none) [] W where
  dom _ _ h := by cases h
  row _ _ _ _ h := by simp at h
  map _ _ _ h := by simp at h
  excl _ _ h := by simp [ownB] at h
  size := Nat.le_refl _
  loc _ _ _ _ h := by simp at h

/-- rows that may be read alone -/
def roB : Blk → Bool
  | .row _ _ .ro => true
  | _ => false
theorem roB_own {H : List Blk} (h : H.all roB = true) (b : Nat) : ownB H[b]? = false := by
  cases hb : H[b]? with
  | none => rfl
  | some x =>
    have := List.all_eq_true.1 h x (List.mem_of_getElem? hb)
    cases x with
    | row n c st => cases st <;> first | rfl | cases this
    | map => cases this

/-- a slice argument, as the abstract machine has it -/
def sliceArg (b : Nat) (a : Option Addr) (len : Nat) : Value :=
  match a with
  | none => .slice none 0 0
  | some _ => .slice (some ⟨b, 0, none⟩) len len

/-- a row of an argument's -/
theorem sim_row {W : World} {ι : Emb} {H : List Blk} (h : Sim W.heap.size ι H W) (hro : H.all roB = true) {a : Option Addr} {len cap : Nat} {cells : List Value}
    (hr : (a = none ∧ len = 0 ∧ cap = 0) ∨ ∃ x, a = some x ∧ len ≤ cap ∧ (∀ i, i < cap → ∃ v, W.cell? (x.add i) = some v) ∧ ∀ i v, cells[i]? = some v → ∃ v', W.cell? (x.add i) = some v' ∧ L2 ι v v') :
    ∃ κ, ι.le κ ∧ Sim W.heap.size κ (H ++ [Blk.row 0 cells .ro]) W ∧ (H ++ [Blk.row 0 cells .ro]).all roB = true ∧ VRel κ (sliceArg H.length a len) (.slice a len cap) := by
  have hall : (H ++ [Blk.row 0 cells .ro]).all roB = true := by simp [hro, roB]
  have hnone : ι H.length = none := by
    cases e : ι H.length with
    | none => rfl
    | some x => exact absurd (h.dom _ _ e) (Nat.lt_irrefl _)
  have same : ∀ (κ : Emb), κ = ι → Sim W.heap.size κ (H ++ [Blk.row 0 cells .ro]) W := by
    intro κ e
    subst e
    have hget : ∀ b x l, (H ++ [Blk.row 0 cells .ro])[b]? = some x → κ b = some l → H[b]? = some x := by
      intro b x l hb hl
      rwa [List.getElem?_append_left (h.dom b l hl)] at hb
    exact { dom := fun b x hx => by simp; exact Nat.lt_succ_of_lt (h.dom b x hx)
            row := fun b n c st hb hst l hl => h.row b n c st (hget b _ l hb hl) hst l hl
            map := fun b es clock hb l hl => h.map b es clock (hget b _ l hb hl) l hl
            excl := fun a b ha _ _ => by rw [roB_own hall a] at ha; cases ha
            size := h.size
            loc := fun b n c st hb hst l hl => h.loc b n c st (hget b _ l hb hl) hst l hl }
  rcases hr with ⟨rfl, rfl, rfl⟩ | ⟨x, rfl, hle, hcell, hc⟩
  · exact ⟨ι, .refl _, same ι rfl, hall, .va (.l2 (.l1 (.l0 .snil)))⟩
  · by_cases hcap : cap = 0
    · subst hcap
      obtain rfl : len = 0 := by omega
      exact ⟨ι, .refl _, same ι rfl, hall, .va (.l2 (.l1 (.l0 (.slice0 _ _))))⟩
    · obtain ⟨v0, hv0⟩ := hcell 0 (by omega)
      have hx0 : x.add 0 = x := rfl
      rw [hx0] at hv0
      have hblk : ∃ cs e fz, W.heap[x.block]? = some (.cells cs e fz) ∧ x.spot = none := by
        unfold World.cell? at hv0
        split at hv0
        · rename_i c e fz heq
          split at hv0
          · cases hv0
          · rename_i hsp; exact ⟨c, e, fz, heq, by simpa using hsp⟩
        · cases hv0
      obtain ⟨cs, e, fz, hw, hsp⟩ := hblk
      obtain ⟨xb, xo, xs⟩ := x
      simp only at hsp hw
      subst hsp
      let l0 : Loc := ⟨xb, xo, 0, xo⟩
      let κ : Emb := fun b => if b = H.length then some l0 else ι b
      have hle' : ι.le κ := by
        intro b y hy
        show (if b = H.length then _ else _) = _
        rw [if_neg]
        · exact hy
        · intro e; rw [e, hnone] at hy; cases hy
      have hself : κ H.length = some l0 := if_pos rfl
      have hcs : ∀ i v, W.cell? (Addr.add ⟨xb, xo, none⟩ i) = some v → cs[xo + i]? = some v := by
        intro i v hv
        unfold World.cell? at hv
        have hb : (Addr.add ⟨xb, xo, none⟩ i).block = xb := by unfold Addr.add; split <;> rfl
        have ho : (Addr.add ⟨xb, xo, none⟩ i).off = xo + i := by unfold Addr.add; split <;> simp_all
        have hs2 : (Addr.add ⟨xb, xo, none⟩ i).spot = none := by unfold Addr.add; split <;> rfl
        rw [hb, hw] at hv
        simp only [hs2, ho] at hv
        simpa using hv
      refine ⟨κ, hle', ?_, hall, .va (.l2 (.l1 (.l0 ?_)))⟩
      · have hget : ∀ b y l, (H ++ [Blk.row 0 cells .ro])[b]? = some y → κ b = some l → (b = H.length ∧ y = .row 0 cells .ro ∧ l = l0) ∨ (H[b]? = some y ∧ ι b = some l) := by
          intro b y l hb hl
          by_cases e : b = H.length
          · subst e
            rw [hself] at hl
            cases hl
            rw [List.getElem?_append_right (Nat.le_refl _)] at hb
            simp at hb
            exact .inl ⟨rfl, hb.symm, rfl⟩
          · have hl2 : ι b = some l := by
              have : κ b = ι b := if_neg e
              rw [← this]; exact hl
            rw [List.getElem?_append_left (h.dom b l hl2)] at hb
            exact .inr ⟨hb, hl2⟩
        constructor
        · intro b y hy
          simp
          by_cases e : b = H.length
          · omega
          · have : κ b = ι b := if_neg e
            rw [this] at hy
            exact Nat.lt_succ_of_lt (h.dom b y hy)
        · intro b n c st hb hst l hl
          rcases hget b _ l hb hl with ⟨rfl, he, rfl⟩ | ⟨h1, h2⟩
          · cases he
            refine ⟨cs, e, fz, hw, fun _ => (Array.getElem?_eq_some_iff.1 hw).1, fun hh => (by cases hh), fun i v hv => ?_⟩
            obtain ⟨v', h3, h4⟩ := hc i v hv
            exact ⟨v', hcs i v' h3, h4.mono hle'⟩
          · obtain ⟨cs', e', fz', q1, q2, q3, q4⟩ := h.row b n c st h1 hst l h2
            refine ⟨cs', e', fz', q1, q2, q3, fun i v hv => ?_⟩
            obtain ⟨v', h3, h4⟩ := q4 i v hv
            exact ⟨v', h3, h4.mono hle'⟩
        · intro b es clock hb l hl
          have := List.all_eq_true.1 hall _ (List.mem_of_getElem? hb)
          cases this
        · intro a b ha
          rw [roB_own hall a] at ha
          cases ha
        · exact h.size
        · intro b n c st hb hst l hl
          rcases hget b _ l hb hl with ⟨rfl, he, rfl⟩ | ⟨h1, h2⟩
          · cases he
            exact ⟨rfl, Nat.le_refl _⟩
          · exact h.loc b n c st h1 hst l h2
      · exact .slice 0 hself (Nat.le_refl _) hle (fun _ => by show xo + cap * 0 ≤ xo; simp)

/-- whole numbers, as cells -/
def ints (k : IntKind) (zs : List Int) : List Value := zs.map (.int k)

def IsRow (k : IntKind) (w : World) (a : Option Addr) (len cap : Nat) (zs : List Int) : Prop :=
  (a = none ∧ len = 0 ∧ cap = 0 ∧ zs = []) ∨
  ∃ x, a = some x ∧ len ≤ cap ∧ cap ≤ maxLen ∧ zs.length = cap ∧ (∀ i, i < zs.length → w.cell? (x.add i) = some (.int k (zs.getD i 0))) ∧ ∀ n ∈ zs, (Lit.int k n).wf = true

theorem sim_ints {W : World} {ι : Emb} {H : List Blk} (h : Sim W.heap.size ι H W) (hro : H.all roB = true) {k : IntKind} {a : Option Addr} {len cap : Nat} {zs : List Int} (hr : IsRow k W a len cap zs) :
    ∃ l : List Int, l.length = len ∧ (∀ n ∈ l, (Lit.int k n).wf = true) ∧ (a = none → l = []) ∧
    ∃ κ, ι.le κ ∧ Sim W.heap.size κ (H ++ [Blk.row 0 (ints k l) .ro]) W ∧ (H ++ [Blk.row 0 (ints k l) .ro]).all roB = true ∧ VRel κ (sliceArg H.length a len) (.slice a len cap) := by
  rcases hr with ⟨rfl, rfl, rfl, rfl⟩ | ⟨x, rfl, h1, h2, h3, h4, h5⟩
  · exact ⟨[], rfl, fun n hn => by simp at hn, fun _ => rfl, sim_row h hro (cells := ints k []) (.inl ⟨rfl, rfl, rfl⟩)⟩
  · refine ⟨zs.take len, by simp; omega, fun n hn => h5 n (List.mem_of_mem_take hn), fun e => (by cases e), sim_row h hro (cells := ints k (zs.take len)) (.inr ⟨x, rfl, h1, fun i hi => ⟨_, h4 i (by omega)⟩, fun i v hv => ?_⟩)⟩
    unfold ints at hv
    rw [List.getElem?_map, List.getElem?_take] at hv
    split at hv
    · rename_i hil
      have hlt : i < zs.length := by omega
      rw [List.getElem?_eq_getElem hlt] at hv
      simp at hv
      refine ⟨.int k (zs.getD i 0), h4 i hlt, ?_⟩
      have : zs.getD i 0 = zs[i] := by simp [hlt]
      rw [this, ← hv]
      exact .l1 (.l0 (.int k _))
    · cases hv

end Go.Proofs.Ytamaapapaiopiaa.Ab
