/- A law's arguments in memory, as the abstract machine has them: bytes. -/
import Derived.Test.YtamaapapaiopiaaBRow
import Derived.Test.YtamaapapaiopiaaBLaw
set_option linter.unusedVariables false
set_option linter.unusedSimpArgs false
set_option linter.unusedSectionVars false
namespace Go.Proofs.Ytamaapapaiopiaa.Ab
open Go

theorem bytes_of_ints : ∀ {l : List Int}, (∀ n ∈ l, (Lit.int .u8 n).wf = true) → ∃ u : List UInt8, ints .u8 l = bv u ∧ u.length = l.length
  | [], _ => ⟨[], rfl, rfl⟩
  | n :: l, h => by
    obtain ⟨u, h1, h2⟩ := bytes_of_ints (l := l) fun m hm => h m (List.mem_cons_of_mem _ hm)
    have hw := h n (List.mem_cons_self ..)
    simp only [Lit.wf, Bool.and_eq_true, decide_eq_true_eq] at hw
    have hlo : (0 : Int) ≤ n := hw.1
    have hhi : n ≤ 255 := hw.2
    obtain ⟨m, rfl⟩ := Int.eq_ofNat_of_zero_le hlo
    refine ⟨UInt8.ofNat m :: u, ?_, by simp [h2]⟩
    have e : (UInt8.ofNat m).toNat = m := by
      rw [UInt8.toNat_ofNat']
      exact Nat.mod_eq_of_lt (by omega)
    have h1' : List.map (Value.int IntKind.u8) l = bv u := h1
    show Value.int IntKind.u8 (m : Int) :: List.map (Value.int IntKind.u8) l = Value.int .u8 (((UInt8.ofNat m).toNat : Nat) : Int) :: bv u
    rw [h1', e]

theorem arg_bytes {H : List Blk} {a : Option Addr} {len : Nat} {u : List UInt8} (hl : u.length = len) (hn : a = none → u = []) : bytesOf (sliceArg H.length a len) ⟨H ++ [Blk.row 0 (bv u) .ro]⟩ = some u := by
  cases a with
  | none => rw [hn rfl]; rfl
  | some x =>
    subst hl
    unfold bytesOf sliceArg
    simp only [cellsOf, Nat.le_refl, if_true, readN, Ab.readRow, List.getElem?_append_right (Nat.le_refl _), Nat.sub_self, List.getElem?_cons_zero, Option.bind_some, Nat.mul_one, Nat.zero_add, bv_length]
    rw [List.drop_zero, ← bv_length, List.take_length]
    exact ubs_bv u

theorem sim_bytes {W : World} {ι : Emb} {H : List Blk} (h : Sim W.heap.size ι H W) (hro : H.all roB = true) {a : Option Addr} {len cap : Nat} {zs : List Int} (hr : IsRow .u8 W a len cap zs) :
    ∃ (u : List UInt8) (B : Blk), u.length = len ∧ bytesOf (sliceArg H.length a len) ⟨H ++ [B]⟩ = some u ∧
    ∃ κ, ι.le κ ∧ Sim W.heap.size κ (H ++ [B]) W ∧ (H ++ [B]).all roB = true ∧ VRel κ (sliceArg H.length a len) (.slice a len cap) := by
  obtain ⟨l, h1, h2, h3, h4⟩ := sim_ints h hro hr
  obtain ⟨u, h5, h6⟩ := bytes_of_ints h2
  rw [h5] at h4
  refine ⟨u, _, h6.trans h1, arg_bytes (h6.trans h1) (fun e => ?_), h4⟩
  have := h3 e
  rw [this] at h6
  exact List.eq_nil_of_length_eq_zero h6

/-- the bytes of an argument, behind later ones -/
theorem bytes_more {H : List Blk} {B : Blk} {v : Value} {u : List UInt8} (h : bytesOf v ⟨H⟩ = some u) : bytesOf v ⟨H ++ [B]⟩ = some u :=
  Ext.bytes (s := ⟨H⟩) (s' := ⟨H ++ [B]⟩) ⟨by simp, fun b hb => by simp only; rw [List.getElem?_append_left hb]⟩ h

end Go.Proofs.Ytamaapapaiopiaa.Ab
