/- A law's argument: a node. -/
import Derived.Test.YtamaapapaiopiaaBNest
import Derived.Test.YtamaapapaiopiaaEnArg
set_option linter.unusedVariables false
set_option linter.unusedSimpArgs false
set_option linter.unusedSectionVars false
namespace Go.Proofs.Ytamaapapaiopiaa.Ab
open Go Go.ChangeShapes Go.WideShapes
set_option maxRecDepth 100000

theorem opens_pr : Opens Try.prog (.ofC prC fun _ => True) 45 := fun Hn enc W n cs y hy hw => by
  obtain ⟨a, rfl⟩ := el_pair hy
  exact opens_leaf ⟨a, rfl, trivial⟩
theorem opens_en : Opens Try.prog (.ofC enC fun e => (Lit.int .u64 e.1).wf = true) 66 := fun Hn enc W n cs y hy hw => by
  obtain ⟨a, rfl⟩ := el_en hy
  refine opens_leaf ⟨a, rfl, ?_⟩
  obtain ⟨xs, m, _, rfl, hl, hlen, hf⟩ := DataW.trod_struct Try.underlying66 hy
  match xs, hlen with
  | [y0, y1], _ =>
    have t0 : DataW.trod enc Try.prog W 0 (fun _ => true) true m 62 (((enC.enc a).drop 0).take (Try.prog.cellsOf 62)) = some y0 := hf 0 _ rfl
    rw [cl_u64] at t0
    obtain ⟨k, e0, _, h⟩ := DataW.trod_int Try.underlying62 t0
    have : Value.int .u64 a.1 = .int .u64 k := (List.cons.inj e0).1
    rw [int_inj this]
    exact h
structure Nd where
  leaf : Bool
  pairs : List Rg
  kids : List Int
  pivots : List BL
  bufs : List (List En)
def nodeC : NCod Nd := NCod.map (.pair (.ofC blnC fun _ => True) (.pair (.list (.ofC prC fun _ => True) 32) (.pair (.list (.ofC (intC .i64) fun i => (Lit.int .i64 i).wf = true) 8) (.pair (.list (.ofC strgC fun k => k.length ≤ reachBytes) 16) (.pair (.list (.list (.ofC enC fun e => (Lit.int .u64 e.1).wf = true) 88) 24) .unit))))) fun n => (n.leaf, n.pairs, n.kids, n.pivots, n.bufs, ())
theorem opens_node : Opens Try.prog nodeC 29 := fun Hn enc W n cs y hy hw =>
  opens_map (g := fun p => ⟨p.1, p.2.1, p.2.2.1, p.2.2.2.1, p.2.2.2.2.1⟩) (fun a => rfl) (opens_struct (C := .pair (.ofC blnC fun _ => True) (.pair (.list (.ofC prC fun _ => True) 32) (.pair (.list (.ofC (intC .i64) fun i => (Lit.int .i64 i).wf = true) 8) (.pair (.list (.ofC strgC fun k => k.length ≤ reachBytes) 16) (.pair (.list (.list (.ofC enC fun e => (Lit.int .u64 e.1).wf = true) 88) 24) .unit))))) Try.underlying29 (by kernel_rfl)
    (opensF_cons rfl (by kernel_rfl) (opens_bool Try.underlying4) (opensF_cons rfl (by kernel_rfl) (opens_list Try.underlying24 (by kernel_rfl) (by decide) (by kernel_rfl) opens_pr) (opensF_cons rfl (by kernel_rfl) (opens_list Try.underlying25 (by kernel_rfl) (by decide) (by kernel_rfl) (opens_int Try.underlying3)) (opensF_cons rfl (by kernel_rfl) (opens_list Try.underlying26 (by kernel_rfl) (by decide) (by kernel_rfl) (opens_string Try.underlying9))
      (opensF_cons rfl (by kernel_rfl) (opens_list Try.underlying27 (by kernel_rfl) (by decide) (by kernel_rfl) (opens_list Try.underlying47 (by kernel_rfl) (by decide) (by kernel_rfl) opens_en)) opensF_nil))))) Hn enc W n cs y hy hw)
theorem node_inv {a : Nd} {s : St} {v : Value} (h : NArg nodeC a s v) : ∃ p k q b, v = .agg #[.bool a.leaf, p, k, q, b] ∧ ListN (.ofC prC fun _ => True) 32 a.pairs s p ∧ ListN (.ofC (intC .i64) fun i => (Lit.int .i64 i).wf = true) 8 a.kids s k ∧ ListN (.ofC strgC fun k => k.length ≤ reachBytes) 16 a.pivots s q ∧ ListN (.list (.ofC enC fun e => (Lit.int .u64 e.1).wf = true) 88) 24 a.bufs s b := by
  obtain ⟨cs, rfl, c0, d0, rfl, ⟨rfl, _⟩, c1, d1, rfl, ⟨p, rfl, h1⟩, c2, d2, rfl, ⟨k, rfl, h2⟩, c3, d3, rfl, ⟨q, rfl, h3⟩, c4, d4, rfl, ⟨b, rfl, h4⟩, rfl⟩ := h
  exact ⟨p, k, q, b, rfl, h1, h2, h3, h4⟩

end Go.Proofs.Ytamaapapaiopiaa.Ab
