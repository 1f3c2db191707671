/- A law's argument that is a pair of strings. -/
import Derived.Test.YtmnmpackcjakdaaBRow
import Derived.OpenShut
import Derived.ShutString
import Derived.ChangeOld
set_option linter.unusedVariables false
set_option linter.unusedSimpArgs false
set_option linter.unusedSectionVars false
namespace Go.Proofs.Ytmnmpackcjakdaa.Ab
open Go Go.ChangeShapes Go.WideShapes
open Go.ChangeMaps (open_string shut_string)

theorem open_pair {H : Type} {enc : TypeId × Value → H} {P : Program} {w : World} {base : Nat} {sp : Nat → Bool} {held : Bool} {r : Reach} {b0 : Nat} {t : TypeId} {f0 f1 : Field} {v : Value} {d : DataW H} {ps : List MemPlace} (ht : P.underlying t = some (.struct #[f0, f1])) (o0 : f0.offset = 0) (o1 : f1.offset = 1) (h0 : P.underlying f0.type = some .string) (h1 : P.underlying f1.type = some .string) (c0 : P.cellsOf f0.type = 1) (c1 : P.cellsOf f1.type = 1) (c : P.cellsOf t = 2)
    (hval : Value.okWide P w r b0 t v) (hd : DataW.Trod enc P w base sp held t v d ps) :
    ∃ a b : ByteArray, v = .agg #[.string a, .string b] ∧ d = .agg [.lit (.string a.data.toList), .lit (.string b.data.toList)] ∧ ps = [] ∧ a.size ≤ maxLen ∧ b.size ≤ maxLen := by
  obtain ⟨cs, rfl, hcs⟩ := okWide_struct ht hval
  obtain ⟨fuel, hf⟩ := hd
  obtain ⟨y0, y1, n, hx, hl, hy0, hy1⟩ := trod_struct2 ht hf
  rw [o0, c0] at hy0
  rw [o1, c1] at hy1
  obtain ⟨a, ha, hya, hsa⟩ := DataW.trod_string h0 hy0
  obtain ⟨b, hb, hyb, hsb⟩ := DataW.trod_string h1 hy1
  subst hya hyb
  rw [c] at hcs
  obtain ⟨l⟩ := cs
  match l, hcs with
  | [x, y], _ =>
    simp [Value.cells] at ha hb
    subst ha hb
    simp only [List.append_nil, Prod.mk.injEq] at hx
    exact ⟨a, b, rfl, hx.1, hx.2, hsa, hsb⟩
theorem shut_pair {H : Type} {enc : TypeId × Value → H} {P : Program} {w : World} {base : Nat} {sp : Nat → Bool} {held : Bool} {t : TypeId} {f0 f1 : Field} (ht : P.underlying t = some (.struct #[f0, f1])) (o0 : f0.offset = 0) (o1 : f1.offset = 1) (h0 : P.underlying f0.type = some .string) (h1 : P.underlying f1.type = some .string) (c0 : P.cellsOf f0.type = 1) (c1 : P.cellsOf f1.type = 1) (c : P.cellsOf t = 2)
    {a b : ByteArray} (ha : a.size ≤ maxLen) (hb : b.size ≤ maxLen) : DataW.Trod enc P w base sp held t (.agg #[.string a, .string b]) (.agg [.lit (.string a.data.toList), .lit (.string b.data.toList)]) [] := by
  refine ⟨2, ?_⟩
  have := trod_struct2_mk (enc := enc) (w := w) (base := base) (spare := sp) (held := held) (n := 1) (cs := [.string a, .string b]) (y0 := (.lit (.string a.data.toList), [])) (y1 := (.lit (.string b.data.toList), [])) ht (by simp [c]) (by rw [o0, c0]; simp [DataW.trod, h0, ha]) (by rw [o1, c1]; simp [DataW.trod, h1, hb])
  simpa [Value.cells] using this

end Go.Proofs.Ytmnmpackcjakdaa.Ab
