/- Texts of this proof, packed: JuVal, JuMap, JuLib, JuSame, OpFct, JuSee, JuSee2, JuSee3, JuRun, JuPl, JuPl2, JuPl3, OpPure2, JuPl4, JuPl5, JuOwn, JuLawA, JuLawB, JuLawC, JuRef, JuRef2, OpSoft, JuLawF, BArg, BSized. -/
import Derived.Test.YtccindbiodofmaaPk5
import Derived.SizedLaws
import Derived.ChangeSlices
set_option linter.unusedVariables false
set_option linter.unusedSimpArgs false
set_option linter.unusedSectionVars false
/- What is seen: how it lies in memory; a law's arguments. -/
namespace Go.Proofs.Ytccindbiodofmaa.Ab
open Go Go.ChangeShapes Go.WideShapes
set_option maxRecDepth 100000

abbrev wfN (k : IntKind) : NCod Int := .ofC (intC k) fun i => (Lit.int k i).wf = true
abbrev stN : NCod BL := .ofC strgC fun k => k.length ≤ reachBytes
def rsN : NCod Rs := .map (.pair (.ofC blnC fun _ => True) (.pair stN (.pair (.list (.ofC prC fun _ => True) 32) .unit))) fun r => (r.1, r.2.1, r.2.2, ())
structure Sn where
  kind : Int
  client : Int
  req : Int
  code : Int
  ops : List OpT
  res : List Rs
def snN : NCod Sn := .map (.pair (wfN .i64) (.pair (wfN .i64) (.pair (wfN .u64) (.pair (wfN .i64) (.pair (.list (.ofC opC fun _ => True) 80) (.pair (.list rsN 48) .unit)))))) fun s => (s.kind, s.client, s.req, s.code, s.ops, s.res, ())
theorem opens_prR : Opens Try.prog (.ofC prC fun _ => True) 32 := fun Hn enc W n cs y hy hw => by
  obtain ⟨a, rfl⟩ := el_pair hy
  exact opens_leaf ⟨a, rfl, trivial⟩
theorem opens_opR : Opens Try.prog (.ofC opC fun _ => True) 53 := fun Hn enc W n cs y hy hw => by
  obtain ⟨a, rfl⟩ := el_op hy
  exact opens_leaf ⟨a, rfl, trivial⟩
theorem Opens.map {α β : Type} {P : Program} {A : NCod α} {f : β → α} {t : TypeId} (g : α → β) (hfg : ∀ a, f (g a) = a) (h : Opens P A t) : Opens P (A.map f) t := fun Hn enc W n cs y hy hw => opens_map (g := g) hfg (h Hn enc W n cs y hy hw)
theorem opens_rs : Opens Try.prog rsN 82 :=
  Opens.map (fun p => (p.1, p.2.1, p.2.2.1)) (fun _ => rfl) (opens_struct Try.underlying82 (by kernel_rfl) (opensF_cons rfl (by kernel_rfl) (opens_bool Try.underlying4) (opensF_cons rfl (by kernel_rfl) (opens_string Try.underlying9) (opensF_cons rfl (by kernel_rfl) (opens_list Try.underlying27 (by kernel_rfl) (by decide) (by kernel_rfl) opens_prR) opensF_nil))))
theorem opens_sn : Opens Try.prog snN 39 :=
  Opens.map (fun p => ⟨p.1, p.2.1, p.2.2.1, p.2.2.2.1, p.2.2.2.2.1, p.2.2.2.2.2.1⟩) (fun _ => rfl)
    (opens_struct Try.underlying39 (by kernel_rfl)
      (opensF_cons rfl (by kernel_rfl) (opens_int Try.underlying3) (opensF_cons rfl (by kernel_rfl) (opens_int Try.underlying3) (opensF_cons rfl (by kernel_rfl) (opens_int Try.underlying35) (opensF_cons rfl (by kernel_rfl) (opens_int Try.underlying3)
        (opensF_cons rfl (by kernel_rfl) (opens_list Try.underlying36 (by kernel_rfl) (by decide) (by kernel_rfl) opens_opR) (opensF_cons rfl (by kernel_rfl) (opens_list Try.underlying37 (by kernel_rfl) (by decide) (by kernel_rfl) opens_rs) opensF_nil)))))))
theorem opens_sns : Opens Try.prog (.list snN 80) 22 := opens_list Try.underlying22 (by kernel_rfl) (by decide) (by kernel_rfl) opens_sn

/-! ### One that is seen, in memory -/
def snV (x : Sn) (o r : Value) : Value := .agg #[.int .i64 x.kind, .int .i64 x.client, .int .u64 x.req, .int .i64 x.code, o, r]
def snCells (x : Sn) (o r : Value) : List Value := [.int .i64 x.kind, .int .i64 x.client, .int .u64 x.req, .int .i64 x.code, o, r]
def SnRel (s : St) (x : Sn) (c : List Value) : Prop := ∃ o r, c = snCells x o r ∧ listOf opC o s = some x.ops ∧ RdyL s r x.res ∧ x.ops.length < 140737488355328
/-- a list of them, anywhere -/
def SnL (s : St) (v : Value) (l : List Sn) : Prop := ∃ css, cellsOf 6 v s = some css.flatten ∧ All2 (SnRel s) l css
theorem rs_inv {r : Rs} {s : St} {cs : List Value} (h : rsN.rel r s cs) : ∃ l, cs = [.bool r.1, sv r.2.1, l] ∧ ListN (.ofC prC fun _ => True) 32 r.2.2 s l ∧ r.2.1.length ≤ reachBytes := by
  obtain ⟨c, d, rfl, ⟨rfl, _⟩, c2, d2, rfl, ⟨rfl, h2⟩, c3, d3, rfl, ⟨v, rfl, h3⟩, rfl⟩ := h
  exact ⟨v, rfl, h3, h2⟩
theorem rs_rdy {s : St} : ∀ {l : List Rs} {css : List (List Value)}, All2 (fun a c => rsN.rel a s c) l css → ∃ q : List (Rs × Value), q.map (·.1) = l ∧ css.flatten = encR q ∧ ∀ x ∈ q, listOf prC x.2 s = some x.1.2.2
  | [], [], _ => ⟨[], rfl, rfl, fun x hx => by cases hx⟩
  | a :: l, c :: css, ⟨h1, h2⟩ => by
    obtain ⟨q, e1, e2, e3⟩ := rs_rdy h2
    obtain ⟨p, rfl, g1, _⟩ := rs_inv h1
    refine ⟨(a, p) :: q, by rw [List.map_cons, e1], ?_, fun x hx => ?_⟩
    · rw [List.flatten_cons, e2]; rfl
    · rcases List.mem_cons.1 hx with rfl | hx
      · exact g1.plain.1
      · exact e3 x hx
  | [], _ :: _, h => h.elim
  | _ :: _, [], h => h.elim
theorem cells_row {s : St} {b n k : Nat} {cells : List Value} {st : Stat} {len : Nat} (hb : s.heap[b]? = some (.row k cells st)) (hst : st ≠ .dead) (hl : cells.length = len * n) : cellsOf n (.slice (some ⟨b, 0, none⟩) len len) s = some cells := by
  have hr : readRow s b = some cells := by
    unfold Ab.readRow
    rw [hb]
    cases st with
    | dead => exact absurd rfl hst
    | act => rfl
    | ro => rfl
  simp only [cellsOf, Nat.le_refl, if_true, readN, hr, Option.bind_some, Nat.zero_add]
  rw [if_pos (by rw [hl]; exact Nat.le_refl _), List.drop_zero, ← hl, List.take_length]
theorem rs_list {B : Nat} {s : St} {v : Value} {l : List Rs} (h : ListN rsN B l s v) : RdyL s v l := by
  rcases h.2 with ⟨rfl, rfl⟩ | ⟨b, css, st, k, rfl, h2, h3, h4⟩
  · exact ⟨[], rfl, rfl, fun x hx => by cases hx⟩
  · obtain ⟨q, e1, e2, e3⟩ := rs_rdy h4
    refine ⟨q, e1, ?_, e3⟩
    rw [e2] at h2
    exact cells_row h2 h3 (by rw [encR_len, ← e1, List.length_map])
theorem sn_inv {x : Sn} {s : St} {cs : List Value} (h : snN.rel x s cs) : SnRel s x cs ∧ (Lit.int .u64 x.req).wf = true := by
  obtain ⟨_, _, rfl, ⟨rfl, h1⟩, _, _, rfl, ⟨rfl, h2⟩, _, _, rfl, ⟨rfl, h3⟩, _, _, rfl, ⟨rfl, h4⟩, _, _, rfl, ⟨v, rfl, h5⟩, _, _, rfl, ⟨w, rfl, h6⟩, rfl⟩ := h
  have h7 : x.ops.length * 80 ≤ 140737488351232 := h5.1
  exact ⟨⟨v, w, rfl, h5.plain.1, rs_list h6, by omega⟩, h3⟩
theorem sn_list {s : St} {v : Value} {l : List Sn} (h : ListN snN 80 l s v) : SnL s v l ∧ (∀ x ∈ l, (Lit.int .u64 x.req).wf = true) ∧ l.length ≤ 1759218604391 := by
  have hl : l.length ≤ 1759218604391 := by
    have h1 : l.length * 80 ≤ 140737488351232 := h.1
    omega
  have key : ∀ {l : List Sn} {css : List (List Value)}, All2 (fun a c => snN.rel a s c) l css → All2 (SnRel s) l css ∧ (∀ x ∈ l, (Lit.int .u64 x.req).wf = true) ∧ css.flatten.length = l.length * 6 := by
    intro l
    induction l with
    | nil => intro css h; cases css with
      | nil => exact ⟨trivial, fun x hx => (by cases hx), rfl⟩
      | cons => exact h.elim
    | cons a l ih => intro css h; cases css with
      | nil => exact h.elim
      | cons c css =>
        obtain ⟨h1, h2⟩ := h
        obtain ⟨i1, i2, i3⟩ := ih h2
        obtain ⟨g1, g2⟩ := sn_inv h1
        refine ⟨⟨g1, i1⟩, fun x hx => ?_, ?_⟩
        · rcases List.mem_cons.1 hx with rfl | hx
          · exact g2
          · exact i2 x hx
        · obtain ⟨o, r, rfl, _⟩ := g1
          rw [List.flatten_cons, List.length_append, i3, List.length_cons]
          show 6 + _ = _
          omega
  rcases h.2 with ⟨rfl, rfl⟩ | ⟨b, css, st, k, rfl, h2, h3, h4⟩
  · exact ⟨⟨[], rfl, trivial⟩, fun x hx => (by cases hx), hl⟩
  · obtain ⟨g1, g2, g3⟩ := key h4
    exact ⟨⟨css, cells_row h2 h3 g3, g1⟩, g2, hl⟩
theorem SnRel.ext {s t : St} {x : Sn} {c : List Value} (h : SnRel s x c) (hx : Ext s.heap.length s t) : SnRel t x c := by
  obtain ⟨o, r, rfl, h1, h2, h3⟩ := h
  exact ⟨o, r, rfl, list_ext hx h1, h2.ext hx, h3⟩
theorem SnL.ext {s t : St} {v : Value} {l : List Sn} (h : SnL s v l) (hx : Ext s.heap.length s t) : SnL t v l := by
  obtain ⟨css, h1, h2⟩ := h
  exact ⟨css, hx.cells h1, h2.mono fun a c h => h.ext hx⟩
theorem sn_flat {s : St} : ∀ {l : List Sn} {css : List (List Value)}, All2 (SnRel s) l css → css.flatten.length = l.length * 6 ∧ ∀ (i : Nat) (hi : i < l.length), ∃ o r, (css.flatten.drop (i * 6)).take 6 = snCells l[i] o r ∧ listOf opC o s = some l[i].ops ∧ RdyL s r l[i].res ∧ l[i].ops.length < 140737488355328
  | [], [], _ => ⟨rfl, fun i hi => by simp at hi⟩
  | a :: l, c :: css, ⟨h1, h2⟩ => by
    obtain ⟨g1, g2⟩ := sn_flat h2
    obtain ⟨o, r, rfl, h3, h4⟩ := h1
    refine ⟨by rw [List.flatten_cons, List.length_append, g1, List.length_cons]; show 6 + _ = _; omega, fun i hi => ?_⟩
    cases i with
    | zero => exact ⟨o, r, rfl, h3, h4⟩
    | succ i =>
      obtain ⟨o', r', e1, e2⟩ := g2 i (by simpa using hi)
      refine ⟨o', r', ?_, e2⟩
      rw [List.flatten_cons, Nat.add_mul, Nat.one_mul, Nat.add_comm, ← List.drop_drop]
      exact e1
  | [], _ :: _, h => h.elim
  | _ :: _, [], h => h.elim
theorem SnL.len {s s2 : St} {v : Value} {l : List Sn} (h : SnL s v l) {e : TypeId} : alenV (.slice e) v s2 = some (.int .i64 ((l.length : Nat) : Int)) := by
  obtain ⟨css, h1, h2⟩ := h
  obtain ⟨g1, _⟩ := sn_flat h2
  obtain ⟨a, len, cap, rfl, h3⟩ := cellsOf_len h1
  rw [g1] at h3
  have : len = l.length := by omega
  subst this
  rfl
theorem SnL.at {s : St} {v : Value} {l : List Sn} (h : SnL s v l) {i : Nat} (hi : i < l.length) : ∃ p o r, aindexS 6 v (.int .i64 (i : Int)) = some p ∧ aload true 6 p s = some (snV l[i] o r) ∧ aload true 6 p (frzS s) = some (snV l[i] o r) ∧ listOf opC o s = some l[i].ops ∧ RdyL s r l[i].res ∧ l[i].ops.length < 140737488355328 := by
  obtain ⟨css, h1, h2⟩ := h
  obtain ⟨g1, g2⟩ := sn_flat h2
  obtain ⟨o, r, e1, e2, e3⟩ := g2 i hi
  obtain ⟨q, i0, _, j0⟩ := cells_at h1 (by decide) (i := i) (by rw [g1]; exact Nat.mul_le_mul_right _ hi) (k := .i64)
  obtain ⟨q', i0', _, j0'⟩ := cells_at (s := frzS s) (by rw [cellsOf_frz]; exact h1) (by decide) (i := i) (by rw [g1]; exact Nat.mul_le_mul_right _ hi) (k := .i64)
  rw [i0] at i0'
  cases i0'
  rw [e1] at j0 j0'
  exact ⟨q, o, r, i0, j0, j0', e2, e3⟩
theorem rdy_leaf {s : St} {v : Value} {l : List Rs} (h : RdyL s v l) : isLeaf v = true := by
  obtain ⟨q, _, h, _⟩ := h
  obtain ⟨a, len, cap, rfl, _⟩ := cellsOf_len h
  rfl
theorem ops_leaf {s : St} {v : Value} {l : List OpT} (h : listOf opC v s = some l) : isLeaf v = true := by
  obtain ⟨a, cap, rfl⟩ := list_shape h
  rfl

end Go.Proofs.Ytccindbiodofmaa.Ab

/- What is known of requests: three maps and a map of pairs, in memory. -/
namespace Go.Proofs.Ytccindbiodofmaa.Ab
open Go
set_option maxRecDepth 100000

abbrev Rq := Int × Int
def rqV (r : Rq) : Value := .agg #[.int .i64 r.1, .int .u64 r.2]
def lookR {A : Type} (r : Rq) : List (Rq × A) → Option A
  | [] => none
  | p :: l => if p.1 = r then some p.2 else lookR r l

theorem rq_fits (b : Bool) (r : Rq) : keyFits Try.prog b 77 (rqV r) = true := by
  cases b <;> kernel_rfl
theorem rq_eq (a b : Rq) : pureRun Try.prog (Op.equal 77 (rqV a) (rqV b)) = some (a.1 == b.1 && a.2 == b.2) := by
  have hp : ∀ c d : Int, pureRun Try.prog (part 3 #[.int .i64 c, .int .u64 d] 0) = some (.int .i64 c) ∧ pureRun Try.prog (part 35 #[.int .i64 c, .int .u64 d] 1) = some (.int .u64 d) := fun c d => by
    refine ⟨?_, ?_⟩ <;> kernel_rfl
  have h := pr_struct (P := Try.prog) (t := 77) (d := 9999) (xs := #[.int .i64 a.1, .int .u64 a.2]) (ys := #[.int .i64 b.1, .int .u64 b.2]) Try.underlying77 (by kernel_rfl) (es := [a.1 == b.1, a.2 == b.2])
    ⟨by decide, ⟨_, _, (hp _ _).1, (hp _ _).1, in_int Try.underlying3⟩, ⟨by decide, ⟨_, _, (hp _ _).2, (hp _ _).2, in_int Try.underlying35⟩, trivial⟩⟩
  have e : ([a.1 == b.1, a.2 == b.2] : List Bool).all id = (a.1 == b.1 && a.2 == b.2) := by simp
  rw [e] at h
  exact h
theorem rq_same (a b : Rq) : (a.1 == b.1 && a.2 == b.2) = decide (a = b) := by
  obtain ⟨x, y⟩ := a
  obtain ⟨z, w⟩ := b
  by_cases h1 : x = z <;> by_cases h2 : y = w <;> simp [h1, h2]

section
variable {A : Type} {Rl : Value → A → Prop}
/-- the entries are these -/
def Ents (Rl : Value → A → Prop) (es : List (Value × Value × Nat)) (l : List (Rq × A)) : Prop := All2 (fun e p => e.1 = rqV p.1 ∧ Rl e.2.1 p.2) es l
theorem ask_rq {r : Rq} : ∀ {es : List (Value × Value × Nat)} {l : List (Rq × A)} (i : Nat), Ents Rl es l → match lookR r l with
    | some a => ∃ j e, idxAsk Try.prog 77 (rqV r) (es.map (·.1)) i = some (some (i + j)) ∧ es[j]? = some e ∧ Rl e.2.1 a
    | none => idxAsk Try.prog 77 (rqV r) (es.map (·.1)) i = some none
  | [], [], i, _ => rfl
  | e :: es, p :: l, i, ⟨⟨h1, h2⟩, h3⟩ => by
    have ih := ask_rq (r := r) (i + 1) h3
    have he : idxAsk Try.prog 77 (rqV r) ((e :: es).map (·.1)) i = (if decide (r = p.1) = true then some (some i) else idxAsk Try.prog 77 (rqV r) (es.map (·.1)) (i + 1)) := by
      show (pureRun Try.prog (Op.equal _ (rqV r) e.1)).bind _ = _
      rw [h1, rq_eq, rq_same]
      rfl
    by_cases hr : p.1 = r
    · have hl : lookR r (p :: l) = some p.2 := by unfold lookR; rw [if_pos hr]
      rw [hl]
      refine ⟨0, e, ?_, rfl, h2⟩
      rw [he, if_pos (by simp [hr])]
      rfl
    · have hl : lookR r (p :: l) = lookR r l := by rw [lookR, if_neg hr]
      rw [hl]
      have hc : ¬ decide (r = p.1) = true := by simpa using fun h => hr h.symm
      rw [if_neg hc] at he
      cases hq : lookR r l with
      | none => rw [hq] at ih; exact he.trans ih
      | some a =>
        rw [hq] at ih
        obtain ⟨j, e', g1, g2, g3⟩ := ih
        exact ⟨j + 1, e', by rw [he, g1, show i + 1 + j = i + (j + 1) by omega], by simpa using g2, g3⟩
  | [], _ :: _, _, h => h.elim
  | _ :: _, [], _, h => h.elim
theorem key_rq {r : Rq} {es : List (Value × Value × Nat)} {l : List (Rq × A)} (h : Ents Rl es l) : match lookR r l with
    | some a => ∃ j e, idxKey Try.prog 77 (rqV r) (es.map (·.1)) = some (some j) ∧ es[j]? = some e ∧ Rl e.2.1 a
    | none => idxKey Try.prog 77 (rqV r) (es.map (·.1)) = some none := by
  have h0 := ask_rq (r := r) 0 h
  have hi : idxKey Try.prog 77 (rqV r) (es.map (·.1)) = idxAsk Try.prog 77 (rqV r) (es.map (·.1)) 0 := by
    unfold idxKey
    rw [Try.underlying77]
    cases es with
    | nil => rfl
    | cons e es =>
      cases l with
      | nil => exact h.elim
      | cons p l =>
        obtain ⟨⟨h1, _⟩, _⟩ := h
        have : ∀ d : TypeDesc, (∃ fs, d = .struct fs) → idxNow d (rqV r) ((e :: es).map (·.1)) 0 = none := fun d ⟨fs, hd⟩ => by
          subst hd
          simp only [List.map_cons, idxNow, h1, rqV, Instr.sameNow]
        simp only [Option.bind_some]
        rw [this _ ⟨_, rfl⟩]
  rw [hi]
  cases hq : lookR r l with
  | none => rw [hq] at h0; exact h0
  | some a =>
    rw [hq] at h0
    obtain ⟨j, e, g1, g2, g3⟩ := h0
    exact ⟨j, e, by rw [g1, Nat.zero_add], g2, g3⟩
/-- a request is looked up -/
theorem look_rq {r : Rq} {es : List (Value × Value × Nat)} {l : List (Rq × A)} (h : Ents Rl es l) (z : Value) : match lookR r l with
    | some a => ∃ v, (∀ ok, alookupE Try.prog 77 z es (rqV r) ok = some (cond ok (.tuple #[v, .bool true]) v)) ∧ Rl v a
    | none => ∀ ok, alookupE Try.prog 77 z es (rqV r) ok = some (cond ok (.tuple #[z, .bool false]) z) := by
  have h0 := key_rq (r := r) h
  have hf : ∀ b, keyFits Try.prog b 77 (rqV r) = true := fun b => rq_fits b r
  cases hq : lookR r l with
  | none =>
    rw [hq] at h0
    intro ok
    unfold alookupE
    rw [if_pos (hf _), h0]
    rfl
  | some a =>
    rw [hq] at h0
    obtain ⟨j, e, g1, g2, g3⟩ := h0
    refine ⟨e.2.1, fun ok => ?_, g3⟩
    unfold alookupE
    rw [if_pos (hf _), g1]
    simp only [Option.bind_some, foundV, g2]
theorem Ents.add {es : List (Value × Value × Nat)} {l : List (Rq × A)} (h : Ents Rl es l) {v : Value} {a : A} {r : Rq} {k : Nat} (ha : Rl v a) : Ents Rl (es ++ [(rqV r, v, k)]) (l ++ [(r, a)]) := by
  induction es generalizing l with
  | nil => cases l with
    | nil => exact ⟨⟨rfl, ha⟩, trivial⟩
    | cons => exact h.elim
  | cons e es ih => cases l with
    | nil => exact h.elim
    | cons p l => exact ⟨h.1, ih h.2⟩
end
theorem born_last {es : List (Value × Value × Nat)} {k : Nat} (h : ∀ e ∈ es, e.2.2 < k) (a b : Value) : (es ++ [(a, b, k)]).findIdx? (fun e => (e.2.2 : Int) == (k : Int)) = some es.length := by
  induction es with
  | nil => simp [List.findIdx?_cons]
  | cons e es ih =>
    have h1 := h e (by simp)
    have h2 : ((e.2.2 : Int) == (k : Int)) = false := by simp; omega
    rw [List.cons_append, List.findIdx?_cons, h2]
    simp only [Bool.false_eq_true, if_false]
    rw [ih fun e he => h e (by simp [he])]
    rfl

/-! ### The three maps and the pairs -/
structure Kn where
  ops : List (Rq × List OpT)
  res : List (Rq × List Rs)
  told : List (Rq × Unit)
  m : List Rg
def Kn.nil : Kn := ⟨[], [], [], []⟩
/-- nothing above has changed -/
def Hi (M : Nat) (s t : St) : Prop := s.heap.length ≤ t.heap.length ∧ ∀ b, M ≤ b → b < s.heap.length → t.heap[b]? = s.heap[b]?
theorem Hi.own {α : Type} {C : Cod α} {M : Nat} {s t : St} (h : Hi M s t) {v : Value} {l : List α} (ho : OwnC C M s v l) : OwnC C M t v l := by
  rcases ho with ho | ⟨b, cap, rest, e, h1, h2, h3⟩
  · exact .inl ho
  · exact .inr ⟨b, cap, rest, e, h1, by rw [h.2 b h1 (List.getElem?_eq_some_iff.1 h2).1]; exact h2, h3⟩
theorem Hi.own0 {M n : Nat} {s t : St} (h : Hi M s t) {v : Value} {l : List Value} (ho : Own M n s v l) : Own M n t v l := by
  rcases ho with ho | ⟨b, len, e, h1, h2, h3⟩
  · exact .inl ho
  · exact .inr ⟨b, len, e, h1, by rw [h.2 b h1 (List.getElem?_eq_some_iff.1 h2).1]; exact h2, h3⟩
theorem Hi.rdy {M : Nat} {s t : St} (h : Hi M s t) {v : Value} {l : List Rs} (ho : Rdy M s v l) : Rdy M t v l := by
  obtain ⟨q, h1, h2, h3⟩ := ho
  exact ⟨q, h1, h.own0 h2, fun x hx => h.own (h3 x hx)⟩
theorem Hi.trans {M : Nat} {s t u : St} (h : Hi M s t) (g : Hi M t u) : Hi M s u := ⟨Nat.le_trans h.1 g.1, fun b h1 h2 => (g.2 b h1 (Nat.lt_of_lt_of_le h2 h.1)).trans (h.2 b h1 h2)⟩
theorem Hi.refl (M : Nat) (s : St) : Hi M s s := ⟨Nat.le_refl _, fun _ _ _ => rfl⟩
theorem Hi.ext {M : Nat} {s t : St} (h : Ext s.heap.length s t) : Hi M s t := ⟨h.1, fun b _ hb => h.2 b hb⟩
theorem Hi.put {M b : Nat} {s : St} {B : Blk} (hb : b < M) : Hi M s (s.putB b B) := ⟨by simp [St.putB], fun c hc _ => by
  simp only [St.putB]
  rw [List.getElem?_set_ne (by omega)]⟩
theorem Rdy.mono {N M : Nat} {s : St} {v : Value} {l : List Rs} (h : Rdy N s v l) (hM : M ≤ N) : Rdy M s v l := by
  obtain ⟨q, h1, h2, h3⟩ := h
  refine ⟨q, h1, ?_, fun x hx => (h3 x hx).mono hM⟩
  rcases h2 with h2 | ⟨b, len, e, g1, g2⟩
  · exact .inl h2
  · exact .inr ⟨b, len, e, by omega, g2⟩
def kCells (N : Nat) (mv : Value) : List Value := [.map (some N), .map (some (N + 1)), .map (some (N + 2)), mv]
structure KS (s0 t : St) (K : Kn) (ea eb ec : List (Value × Value × Nat)) (ca cb cc : Nat) (mv : Value) : Prop where
  ext : Ext s0.heap.length s0 t
  a : t.heap[s0.heap.length]? = some (.map ea ca)
  b : t.heap[s0.heap.length + 1]? = some (.map eb cb)
  c : t.heap[s0.heap.length + 2]? = some (.map ec cc)
  k : t.heap[s0.heap.length + 3]? = some (.row 0 (kCells s0.heap.length mv) .act)
  m : OwnC prC (s0.heap.length + 4) t mv K.m
  ra : Ents (fun v l => listOf opC v s0 = some l) ea K.ops
  rb : Ents (fun v l => Rdy (s0.heap.length + 4) t v l) eb K.res
  rc : Ents (fun v _ => v = .bool true) ec K.told
  bb : ∀ e ∈ eb, e.2.2 < cb
def KSt (s0 t : St) (K : Kn) : Prop := ∃ ea eb ec ca cb cc mv, KS s0 t K ea eb ec ca cb cc mv

end Go.Proofs.Ytccindbiodofmaa.Ab

/- What is seen: what is known of the functions below. -/
namespace Go.Proofs.Ytccindbiodofmaa.Ab
open Go

noncomputable def libT : List (FuncId × Sum) := (8, gLive) :: libS
theorem libT_ok : LibOk Try.prog (libL libT) := libOk_direct progOk libS_ok law23_live_ok fun hl => live_known hl
theorem k_live {s : St} : (run Try.prog (libL libT) hints) 8 [] s = some (.bool true, s) := (known (g := gLive) rfl).trans live_eq
theorem opH {R : Caller} (hR : R = (run Try.prog (libL libT) hints)) : OpH R := by
  subst hR
  exact ⟨fun x y s r h => op_get_of rfl h, fun x y s r h => op_put_of rfl h, fun x y s r h => op_del_of rfl h, fun x y s r h => op_scan_of rfl h, fun x y s r h => op_clear_of rfl h, fun xs s => known (g := gAt) rfl, fun xs s => known (g := gIns) rfl, fun o s => (known (g := gOf) rfl).trans of_eq, fun xs s => known (g := gEnds) rfl, fun a b c s r h => slices_Delete_api_Pair_api_Pair_of rfl h, fun a s r h => slices_Clone_api_Pair_api_Pair_of rfl h, fun xs s => known (g := gMapE) rfl, fun xs s => known (g := gAllE) rfl, fun s => (known (g := gForms) rfl).trans forms_eq⟩
theorem refA {R : Caller} (hR : R = (run Try.prog (libL libT) hints)) : RefA R := by
  subst hR
  exact ⟨⟨fun k v s m h hl => ref04_Find_of rfl (find_run k h hl), fun x y s r h => ref04_put_of rfl h, fun x y s r h => ref04_without_of rfl h, fun x y z s r h => ref04_Within_of rfl h, fun k s => (known (g := gPt) rfl).trans pt_eq, fun r k s => (known (g := gHas) rfl).trans has_eq⟩, fun x y s r h => ref04_Do_of rfl h, fun xs s => known (g := gMapE) rfl, fun xs s => known (g := gAllE) rfl⟩
theorem t_apply {v w : Value} {s : St} {m : List Rg} {l : List OpT} (hm : listOf prC v s = some m) (h : listOf opC w s = some l) (hml : m.length + l.length ≤ 6200000000000) (hl : l.length ≤ 1759218604391) :
    if apE m l = 0 then ∃ a r t, (run Try.prog (libL libT) hints) 35 [v, w] s = some (.tuple #[a, r, .int .i64 0], t) ∧ OwnC prC s.heap.length t a (apM m l) ∧ Rdy s.heap.length t r (apR m l) ∧ Ext s.heap.length s t
    else (run Try.prog (libL libT) hints) 35 [v, w] s = some (.tuple #[.slice none 0 0, .slice none 0 0, .int .i64 (apE m l)], s) := k_apply (opH rfl) rfl hm h hml hl
theorem k_chkO {v : Value} {s : St} {l : List OpT} (h : listOf opC v s = some l) (hl : l.length < 140737488355328) : (run Try.prog (libL libT) hints) 40 [v] s = some (.int .i64 (chkE l), s) := (known (g := gChkE) rfl).trans (chkE_eq h hl)
end Go.Proofs.Ytccindbiodofmaa.Ab

/- Results: whether two lists of them are the same, as the code asks it. -/
namespace Go.Proofs.Ytccindbiodofmaa.Ab
open Go

theorem eqP_loop {R : Caller} {v w : Value} {s : St} {a b : List Rg} (ha : listOf prC v s = some a) (hb : listOf prC w s = some b) (hab : a.length = b.length) (hl : a.length < 140737488355328) : ∀ (ra rb : List Rg) (i : Nat), a.drop i = ra → b.drop i = rb → i ≤ a.length →
    loopL (slices_Equal_api_Pair_api_Pair.b0 R) [v, w, .int .i64 ((a.length : Nat) : Int), .int .i64 (i : Int)] s = some (if ra = rb then (.exit 0, [], s) else (.ret, [.bool false], s)) := by
  intro ra
  induction ra with
  | nil =>
    intro rb i h1 h2 hle
    have hge := List.drop_eq_nil_iff.1 h1
    have hrb : rb = [] := by rw [← h2]; exact List.drop_eq_nil_of_le (by omega)
    have hd : decide ((i : Int) < ((a.length : Nat) : Int)) = false := by simp; omega
    rw [hrb, if_pos rfl, loopL_eq]
    simp only [slices_Equal_api_Pair_api_Pair.b0, hd, n_bind, n_map, getL_0, getL_1, getL_2, getL_3, getL_4, getL_5, getL_6, getL_7, getL_8, getL_9, getL_10, getL_11, getL_12, condV_t, condV_f, guardV_tt, guardV_ff, guardV_tf, guardV_ft, guardV_u, apick_t, apick_f, exV_exit, exV_ret, lookE_same, joinK_eq, seqA_n, seqA_e, seqA_r, e_add, e_sub, e_mul, e_eql, e_neq, e_lss, e_leq, e_gtr, e_geq, e_conv, e_not, e_neg, and_guard, or_guard]
  | cons p ra ih =>
    intro rb i h1 h2 hle
    obtain ⟨hlt, he, hd⟩ := drop_get h1
    have hdc : decide ((i : Int) < ((a.length : Nat) : Int)) = true := by simp; omega
    cases rb with
    | nil =>
      have := List.drop_eq_nil_iff.1 h2
      omega
    | cons q rb =>
      obtain ⟨hlt2, he2, hd2⟩ := drop_get h2
      obtain ⟨x, a1, a2⟩ := list_at (s := frzS s) (by rw [list_frz]; exact ha) hlt (k := .i64) (n := 2) rfl
      obtain ⟨y, b1, b2⟩ := list_at (s := frzS s) (by rw [list_frz]; exact hb) hlt2 (k := .i64) (n := 2) rfl
      rw [pr_enc, he] at a2
      rw [pr_enc, he2] at b2
      have key := ih rb (i + 1) hd hd2 (by omega)
      rw [loopL_eq]
      simp only [slices_Equal_api_Pair_api_Pair.b0, hdc, a1, a2, b1, b2, pr_neq, n_bind, n_map, getL_0, getL_1, getL_2, getL_3, getL_4, getL_5, getL_6, getL_7, getL_8, getL_9, getL_10, getL_11, getL_12, condV_t, condV_f, guardV_tt, guardV_ff, guardV_tf, guardV_ft, guardV_u, apick_t, apick_f, exV_exit, exV_ret, lookE_same, joinK_eq, seqA_n, seqA_e, seqA_r, e_add, e_sub, e_mul, e_eql, e_neq, e_lss, e_leq, e_gtr, e_geq, e_conv, e_not, e_neg, and_guard, or_guard]
      by_cases e : p = q
      · subst e
        have e1 : (!(p.1 == p.1 && p.2 == p.2)) = false := by simp
        simp only [e1, inc_i64 (show i < 140737488355328 by omega), n_bind, n_map, getL_0, getL_1, getL_2, getL_3, getL_4, getL_5, getL_6, getL_7, getL_8, getL_9, getL_10, getL_11, getL_12, condV_t, condV_f, guardV_tt, guardV_ff, guardV_tf, guardV_ft, guardV_u, apick_t, apick_f, exV_exit, exV_ret, lookE_same, joinK_eq, seqA_n, seqA_e, seqA_r, e_add, e_sub, e_mul, e_eql, e_neq, e_lss, e_leq, e_gtr, e_geq, e_conv, e_not, e_neg, and_guard, or_guard]
        rw [key]
        simp
      · have e1 : (!(p.1 == q.1 && p.2 == q.2)) = true := by
          simp only [Bool.not_eq_true', Bool.and_eq_false_iff, beq_eq_false_iff_ne]
          by_cases c : p.1 = q.1
          · exact .inr fun d => e (Prod.ext c d)
          · exact .inl c
        simp only [e1, n_bind, n_map, getL_0, getL_1, getL_2, getL_3, getL_4, getL_5, getL_6, getL_7, getL_8, getL_9, getL_10, getL_11, getL_12, condV_t, condV_f, guardV_tt, guardV_ff, guardV_tf, guardV_ft, guardV_u, apick_t, apick_f, exV_exit, exV_ret, lookE_same, joinK_eq, seqA_n, seqA_e, seqA_r, e_add, e_sub, e_mul, e_eql, e_neq, e_lss, e_leq, e_gtr, e_geq, e_conv, e_not, e_neg, and_guard, or_guard]
        rw [if_neg fun c => e (List.cons.inj c).1]
theorem eqP_run {R : Caller} {v w : Value} {s : St} {a b : List Rg} (ha : listOf prC v s = some a) (hb : listOf prC w s = some b) (hl : a.length < 140737488355328) : slices_Equal_api_Pair_api_Pair R v w s = some (.bool (decide (a = b)), s) := by
  unfold slices_Equal_api_Pair_api_Pair
  simp only [list_len ha, list_len hb, n_bind, n_map, getL_0, getL_1, getL_2, getL_3, getL_4, getL_5, getL_6, getL_7, getL_8, getL_9, getL_10, getL_11, getL_12, condV_t, condV_f, guardV_tt, guardV_ff, guardV_tf, guardV_ft, guardV_u, apick_t, apick_f, exV_exit, exV_ret, lookE_same, joinK_eq, seqA_n, seqA_e, seqA_r, e_add, e_sub, e_mul, e_eql, e_neq, e_lss, e_leq, e_gtr, e_geq, e_conv, e_not, e_neg, and_guard, or_guard]
  by_cases e : a.length = b.length
  · have h1 := eqP_loop (R := R) ha hb e hl a b 0 rfl rfl (Nat.zero_le _)
    rw [show ((0 : Nat) : Int) = 0 from rfl] at h1
    have e1 : (((a.length : Nat) : Int) != ((b.length : Nat) : Int)) = false := by simp [e]
    simp only [e1, h1, n_bind, n_map, getL_0, getL_1, getL_2, getL_3, getL_4, getL_5, getL_6, getL_7, getL_8, getL_9, getL_10, getL_11, getL_12, condV_t, condV_f, guardV_tt, guardV_ff, guardV_tf, guardV_ft, guardV_u, apick_t, apick_f, exV_exit, exV_ret, lookE_same, joinK_eq, seqA_n, seqA_e, seqA_r, e_add, e_sub, e_mul, e_eql, e_neq, e_lss, e_leq, e_gtr, e_geq, e_conv, e_not, e_neg, and_guard, or_guard]
    by_cases c : a = b
    · rw [if_pos c]
      simp only [c, n_bind, n_map, getL_0, getL_1, getL_2, getL_3, getL_4, getL_5, getL_6, getL_7, getL_8, getL_9, getL_10, getL_11, getL_12, condV_t, condV_f, guardV_tt, guardV_ff, guardV_tf, guardV_ft, guardV_u, apick_t, apick_f, exV_exit, exV_ret, lookE_same, joinK_eq, seqA_n, seqA_e, seqA_r, e_add, e_sub, e_mul, e_eql, e_neq, e_lss, e_leq, e_gtr, e_geq, e_conv, e_not, e_neg, and_guard, or_guard, retV]
      rfl
    · rw [if_neg c]
      simp only [c, n_bind, n_map, getL_0, getL_1, getL_2, getL_3, getL_4, getL_5, getL_6, getL_7, getL_8, getL_9, getL_10, getL_11, getL_12, condV_t, condV_f, guardV_tt, guardV_ff, guardV_tf, guardV_ft, guardV_u, apick_t, apick_f, exV_exit, exV_ret, lookE_same, joinK_eq, seqA_n, seqA_e, seqA_r, e_add, e_sub, e_mul, e_eql, e_neq, e_lss, e_leq, e_gtr, e_geq, e_conv, e_not, e_neg, and_guard, or_guard, retV]
      rfl
  · have e1 : (((a.length : Nat) : Int) != ((b.length : Nat) : Int)) = true := by simp; omega
    have e2 : ¬ a = b := fun h => e (by rw [h])
    simp only [e1, e2, n_bind, n_map, getL_0, getL_1, getL_2, getL_3, getL_4, getL_5, getL_6, getL_7, getL_8, getL_9, getL_10, getL_11, getL_12, condV_t, condV_f, guardV_tt, guardV_ff, guardV_tf, guardV_ft, guardV_u, apick_t, apick_f, exV_exit, exV_ret, lookE_same, joinK_eq, seqA_n, seqA_e, seqA_r, e_add, e_sub, e_mul, e_eql, e_neq, e_lss, e_leq, e_gtr, e_geq, e_conv, e_not, e_neg, and_guard, or_guard, retV]
    rfl
theorem rsV_st (x : Rs) (p : Value) (h : isLeaf p = true) : lstore 3 lptr (tellV x.1 x.2.1 p) (.agg #[(.bool false), (.string ⟨#[]⟩), (.slice none 0 0)]) = some (tellV x.1 x.2.1 p) := by
  have h2 : ([.bool x.1, sv x.2.1, p] : List Value).all isLeaf = true := by
    simp only [List.all_cons, h, List.all_nil, Bool.and_true]
    rfl
  unfold lstore lptr
  simp only
  rw [if_pos ⟨rfl, h2, Nat.le_of_ble_eq_true rfl⟩]
  rfl
theorem rsV_box (x : Rs) (p : Value) (h : isLeaf p = true) : lbox (tellV x.1 x.2.1 p) = some (tellV x.1 x.2.1 p) := by
  have h2 : ([.bool x.1, sv x.2.1, p] : List Value).all isLeaf = true := by
    simp only [List.all_cons, h, List.all_nil, Bool.and_true]
    rfl
  unfold lbox
  rw [show cellsV (tellV x.1 x.2.1 p) = [.bool x.1, sv x.2.1, p] from rfl, if_pos h2]
  rfl
theorem rsV_all (x : Rs) (p : Value) : lload true 3 lptr (tellV x.1 x.2.1 p) = some (tellV x.1 x.2.1 p) := rfl
theorem rsV_0 (x : Rs) (p : Value) : lload false 1 lptr (tellV x.1 x.2.1 p) = some (.bool x.1) := rfl
theorem rsV_1 (x : Rs) (p : Value) : lload false 1 (.pointer (some ⟨0, 1, none⟩)) (tellV x.1 x.2.1 p) = some (sv x.2.1) := rfl
theorem rsV_2 (x : Rs) (p : Value) : lload false 1 (.pointer (some ⟨0, 2, none⟩)) (tellV x.1 x.2.1 p) = some p := rfl
theorem k_eqP {v w : Value} {s : St} {a b : List Rg} (ha : listOf prC v s = some a) (hb : listOf prC w s = some b) (hl : a.length < 140737488355328) : (run Try.prog (libL libT) hints) 47 [v, w] s = some (.bool (decide (a = b)), s) := slices_Equal_api_Pair_api_Pair_of rfl (eqP_run ha hb hl)
theorem same1_run {x y : Rs} {p q : Value} {s : St} (hp : listOf prC p s = some x.2.2) (hq : listOf prC q s = some y.2.2) (hl : x.2.2.length < 140737488355328) : (run Try.prog (libL libT) hints) 46 [tellV x.1 x.2.1 p, tellV y.1 y.2.1 q] s = some (.bool (decide (x = y)), s) := by
  refine judge_same_1_of rfl ?_
  obtain ⟨a, cap, rfl⟩ := list_shape hp
  obtain ⟨a2, cap2, rfl⟩ := list_shape hq
  have h0 := k_eqP hp hq hl
  obtain ⟨x1, x2, x3⟩ := x
  obtain ⟨y1, y2, y3⟩ := y
  have e := rsV_box (x1, x2, x3) (.slice a x3.length cap) rfl
  have e' := rsV_box (y1, y2, y3) (.slice a2 y3.length cap2) rfl
  have e0 := rsV_0 (x1, x2, x3) (.slice a x3.length cap)
  have f0 := rsV_0 (y1, y2, y3) (.slice a2 y3.length cap2)
  have e1 := rsV_1 (x1, x2, x3) (.slice a x3.length cap)
  have f1 := rsV_1 (y1, y2, y3) (.slice a2 y3.length cap2)
  have e2 := rsV_2 (x1, x2, x3) (.slice a x3.length cap)
  have f2 := rsV_2 (y1, y2, y3) (.slice a2 y3.length cap2)
  simp only at h0 e e' e0 f0 e1 f1 e2 f2 ⊢
  unfold judge_same_1
  have hd : ∀ A B C : Bool, (A = decide (x1 = y1)) → (B = decide (x2 = y2)) → (C = decide (x3 = y3)) → decide ((x1, x2, x3) = (y1, y2, y3)) = (A && B && C) := fun A B C hA hB hC => by
    subst hA hB hC
    by_cases c1 : x1 = y1 <;> by_cases c2 : x2 = y2 <;> by_cases c3 : x3 = y3 <;> simp [c1, c2, c3]
  have hb1 : (x1 == y1) = decide (x1 = y1) := by cases x1 <;> cases y1 <;> rfl
  have hb2 : (x2 == y2) = decide (x2 = y2) := by by_cases c : x2 = y2 <;> simp [c]
  rw [hd _ _ _ rfl rfl rfl, ← hb1, ← hb2]
  cases c1 : (x1 == y1)
  · simp only [e, e', e0, f0, e1, f1, e2, f2, eq_bool, e_seql, c1, slices_Equal_api_Pair_api_Pair_call, h0, n_bind, n_map, getL_0, getL_1, getL_2, getL_3, getL_4, getL_5, getL_6, getL_7, getL_8, getL_9, getL_10, getL_11, getL_12, condV_t, condV_f, guardV_tt, guardV_ff, guardV_tf, guardV_ft, guardV_u, apick_t, apick_f, exV_exit, exV_ret, lookE_same, joinK_eq, seqA_n, seqA_e, seqA_r, e_add, e_sub, e_mul, e_eql, e_neq, e_lss, e_leq, e_gtr, e_geq, e_conv, e_not, e_neg, and_guard, or_guard, retV]
    rfl
  · cases c2 : (x2 == y2)
    · simp only [e, e', e0, f0, e1, f1, e2, f2, eq_bool, e_seql, c1, c2, slices_Equal_api_Pair_api_Pair_call, h0, n_bind, n_map, getL_0, getL_1, getL_2, getL_3, getL_4, getL_5, getL_6, getL_7, getL_8, getL_9, getL_10, getL_11, getL_12, condV_t, condV_f, guardV_tt, guardV_ff, guardV_tf, guardV_ft, guardV_u, apick_t, apick_f, exV_exit, exV_ret, lookE_same, joinK_eq, seqA_n, seqA_e, seqA_r, e_add, e_sub, e_mul, e_eql, e_neq, e_lss, e_leq, e_gtr, e_geq, e_conv, e_not, e_neg, and_guard, or_guard, retV]
      rfl
    · simp only [e, e', e0, f0, e1, f1, e2, f2, eq_bool, e_seql, c1, c2, slices_Equal_api_Pair_api_Pair_call, h0, n_bind, n_map, getL_0, getL_1, getL_2, getL_3, getL_4, getL_5, getL_6, getL_7, getL_8, getL_9, getL_10, getL_11, getL_12, condV_t, condV_f, guardV_tt, guardV_ff, guardV_tf, guardV_ft, guardV_u, apick_t, apick_f, exV_exit, exV_ret, lookE_same, joinK_eq, seqA_n, seqA_e, seqA_r, e_add, e_sub, e_mul, e_eql, e_neq, e_lss, e_leq, e_gtr, e_geq, e_conv, e_not, e_neg, and_guard, or_guard, retV]
      rfl
/-! ### Lists of results -/
theorem rs_at {s : St} {v : Value} {q : List (Rs × Value)} (h : cellsOf 3 v s = some (encR q)) {i : Nat} (hi : i < q.length) : ∃ p, aindexS 3 v (.int .i64 (i : Int)) = some p ∧ aload true 3 p s = some (tellV q[i].1.1 q[i].1.2.1 q[i].2) := by
  obtain ⟨p, i0, _, j0⟩ := cells_at h (by decide) (i := i) (by rw [encR_len]; exact Nat.mul_le_mul_right _ hi) (k := .i64)
  refine ⟨p, i0, ?_⟩
  rw [j0]
  obtain ⟨x0, x1, x2⟩ := encR_get q i hi
  have hlen : i * 3 + 3 ≤ (encR q).length := by rw [encR_len]; omega
  have : ((encR q).drop (i * 3)).take 3 = [.bool q[i].1.1, sv q[i].1.2.1, q[i].2] := by
    apply List.ext_getElem?
    intro k
    match k with
    | 0 => rw [List.getElem?_take_of_lt (by omega), List.getElem?_drop]; exact x0
    | 1 => rw [List.getElem?_take_of_lt (by omega), List.getElem?_drop]; exact x1
    | 2 => rw [List.getElem?_take_of_lt (by omega), List.getElem?_drop]; exact x2
    | k + 3 => rw [List.getElem?_eq_none (by simp; omega)]; rfl
  rw [this]
  rfl
theorem eqR_loop {v w : Value} {s : St} {a b : List (Rs × Value)} (ha : cellsOf 3 v s = some (encR a)) (hb : cellsOf 3 w s = some (encR b)) (ga : ∀ x ∈ a, listOf prC x.2 s = some x.1.2.2 ∧ x.1.2.2.length < 140737488355328) (gb : ∀ x ∈ b, listOf prC x.2 s = some x.1.2.2) (hab : a.length = b.length) (hl : a.length < 140737488355328) : ∀ (ra rb : List (Rs × Value)) (i : Nat), a.drop i = ra → b.drop i = rb → i ≤ a.length →
    loopL (slices_EqualFunc_api_Result_api_Result_api_Result_api_Result.b0 (run Try.prog (libL libT) hints)) [w, .func (.func 46) #[] #[], v, .int .i64 ((a.length : Nat) : Int), .int .i64 (i : Int)] s = some (if ra.map (·.1) = rb.map (·.1) then (.exit 0, [], s) else (.ret, [.bool false], s)) := by
  intro ra
  induction ra with
  | nil =>
    intro rb i h1 h2 hle
    have hge := List.drop_eq_nil_iff.1 h1
    have hrb : rb = [] := by rw [← h2]; exact List.drop_eq_nil_of_le (by omega)
    have hd : decide ((i : Int) < ((a.length : Nat) : Int)) = false := by simp; omega
    rw [hrb, if_pos rfl, loopL_eq]
    simp only [slices_EqualFunc_api_Result_api_Result_api_Result_api_Result.b0, hd, n_bind, n_map, getL_0, getL_1, getL_2, getL_3, getL_4, getL_5, getL_6, getL_7, getL_8, getL_9, getL_10, getL_11, getL_12, condV_t, condV_f, guardV_tt, guardV_ff, guardV_tf, guardV_ft, guardV_u, apick_t, apick_f, exV_exit, exV_ret, lookE_same, joinK_eq, seqA_n, seqA_e, seqA_r, e_add, e_sub, e_mul, e_eql, e_neq, e_lss, e_leq, e_gtr, e_geq, e_conv, e_not, e_neg, and_guard, or_guard]
  | cons p ra ih =>
    intro rb i h1 h2 hle
    obtain ⟨hlt, he, hd⟩ := drop_get h1
    have hdc : decide ((i : Int) < ((a.length : Nat) : Int)) = true := by simp; omega
    cases rb with
    | nil =>
      have := List.drop_eq_nil_iff.1 h2
      omega
    | cons q rb =>
      obtain ⟨hlt2, he2, hd2⟩ := drop_get h2
      obtain ⟨x, a1, a2⟩ := rs_at ha hlt
      obtain ⟨y, b1, b2⟩ := rs_at hb hlt2
      rw [he] at a2
      rw [he2] at b2
      have gp := ga p (he ▸ List.getElem_mem hlt)
      have gq := gb q (he2 ▸ List.getElem_mem hlt2)
      obtain ⟨pa, pc, hpl⟩ := list_shape gp.1
      obtain ⟨qa, qc, hql⟩ := list_shape gq
      have lp : isLeaf p.2 = true := by rw [hpl]; rfl
      have lq : isLeaf q.2 = true := by rw [hql]; rfl
      have key := ih rb (i + 1) hd hd2 (by omega)
      have hsm := same1_run gp.1 gq gp.2
      rw [loopL_eq]
      simp only [slices_EqualFunc_api_Result_api_Result_api_Result_api_Result.b0, hdc, a1, a2, b1, b2, rsV_st _ _ lp, rsV_st _ _ lq, rsV_all, judge_same_1_call, hsm, n_bind, n_map, getL_0, getL_1, getL_2, getL_3, getL_4, getL_5, getL_6, getL_7, getL_8, getL_9, getL_10, getL_11, getL_12, condV_t, condV_f, guardV_tt, guardV_ff, guardV_tf, guardV_ft, guardV_u, apick_t, apick_f, exV_exit, exV_ret, lookE_same, joinK_eq, seqA_n, seqA_e, seqA_r, e_add, e_sub, e_mul, e_eql, e_neq, e_lss, e_leq, e_gtr, e_geq, e_conv, e_not, e_neg, and_guard, or_guard]
      by_cases e : p.1 = q.1
      · simp only [e, decide_true, Bool.not_true, inc_i64 (show i < 140737488355328 by omega), n_bind, n_map, getL_0, getL_1, getL_2, getL_3, getL_4, getL_5, getL_6, getL_7, getL_8, getL_9, getL_10, getL_11, getL_12, condV_t, condV_f, guardV_tt, guardV_ff, guardV_tf, guardV_ft, guardV_u, apick_t, apick_f, exV_exit, exV_ret, lookE_same, joinK_eq, seqA_n, seqA_e, seqA_r, e_add, e_sub, e_mul, e_eql, e_neq, e_lss, e_leq, e_gtr, e_geq, e_conv, e_not, e_neg, and_guard, or_guard]
        rw [key]
        simp only [List.map_cons, e, List.cons.injEq, true_and]
      · simp only [e, decide_false, Bool.not_false, n_bind, n_map, getL_0, getL_1, getL_2, getL_3, getL_4, getL_5, getL_6, getL_7, getL_8, getL_9, getL_10, getL_11, getL_12, condV_t, condV_f, guardV_tt, guardV_ff, guardV_tf, guardV_ft, guardV_u, apick_t, apick_f, exV_exit, exV_ret, lookE_same, joinK_eq, seqA_n, seqA_e, seqA_r, e_add, e_sub, e_mul, e_eql, e_neq, e_lss, e_leq, e_gtr, e_geq, e_conv, e_not, e_neg, and_guard, or_guard]
        have hc : ¬ (p :: ra).map (·.1) = (q :: rb).map (·.1) := fun c => e (by rw [List.map_cons, List.map_cons] at c; exact (List.cons.inj c).1)
        rw [if_neg hc]
theorem k_sameJ {v w : Value} {s : St} {a b : List Rs} (ha : RdyL s v a) (hb : RdyL s w b) (hl : a.length < 140737488355328) (hll : ∀ x ∈ a, x.2.2.length < 140737488355328) : (run Try.prog (libL libT) hints) 36 [v, w] s = some (.bool (decide (a = b)), s) := by
  refine judge_same_of rfl ?_
  obtain ⟨q, rfl, a2, a3⟩ := ha
  obtain ⟨r, rfl, b2, b3⟩ := hb
  rw [List.length_map] at hl
  have hE : (run Try.prog (libL libT) hints) 45 [v, w, .func (.func 46) #[] #[]] s = some (.bool (decide (q.map (·.1) = r.map (·.1))), s) := by
    refine slices_EqualFunc_api_Result_api_Result_api_Result_api_Result_of rfl ?_
    unfold slices_EqualFunc_api_Result_api_Result_api_Result_api_Result
    simp only [cells_alen a2, cells_alen b2, n_bind, n_map, getL_0, getL_1, getL_2, getL_3, getL_4, getL_5, getL_6, getL_7, getL_8, getL_9, getL_10, getL_11, getL_12, condV_t, condV_f, guardV_tt, guardV_ff, guardV_tf, guardV_ft, guardV_u, apick_t, apick_f, exV_exit, exV_ret, lookE_same, joinK_eq, seqA_n, seqA_e, seqA_r, e_add, e_sub, e_mul, e_eql, e_neq, e_lss, e_leq, e_gtr, e_geq, e_conv, e_not, e_neg, and_guard, or_guard]
    by_cases e : q.length = r.length
    · have h1 := eqR_loop a2 b2 (fun x hx => ⟨a3 x hx, hll x.1 (List.mem_map_of_mem hx)⟩) b3 e hl q r 0 rfl rfl (Nat.zero_le _)
      rw [show ((0 : Nat) : Int) = 0 from rfl] at h1
      have e1 : (((q.length : Nat) : Int) != ((r.length : Nat) : Int)) = false := by simp [e]
      simp only [e1, h1, n_bind, n_map, getL_0, getL_1, getL_2, getL_3, getL_4, getL_5, getL_6, getL_7, getL_8, getL_9, getL_10, getL_11, getL_12, condV_t, condV_f, guardV_tt, guardV_ff, guardV_tf, guardV_ft, guardV_u, apick_t, apick_f, exV_exit, exV_ret, lookE_same, joinK_eq, seqA_n, seqA_e, seqA_r, e_add, e_sub, e_mul, e_eql, e_neq, e_lss, e_leq, e_gtr, e_geq, e_conv, e_not, e_neg, and_guard, or_guard]
      by_cases c : q.map (·.1) = r.map (·.1)
      · rw [if_pos c]
        simp only [c, n_bind, n_map, getL_0, getL_1, getL_2, getL_3, getL_4, getL_5, getL_6, getL_7, getL_8, getL_9, getL_10, getL_11, getL_12, condV_t, condV_f, guardV_tt, guardV_ff, guardV_tf, guardV_ft, guardV_u, apick_t, apick_f, exV_exit, exV_ret, lookE_same, joinK_eq, seqA_n, seqA_e, seqA_r, e_add, e_sub, e_mul, e_eql, e_neq, e_lss, e_leq, e_gtr, e_geq, e_conv, e_not, e_neg, and_guard, or_guard, retV]
        rfl
      · rw [if_neg c]
        simp only [c, n_bind, n_map, getL_0, getL_1, getL_2, getL_3, getL_4, getL_5, getL_6, getL_7, getL_8, getL_9, getL_10, getL_11, getL_12, condV_t, condV_f, guardV_tt, guardV_ff, guardV_tf, guardV_ft, guardV_u, apick_t, apick_f, exV_exit, exV_ret, lookE_same, joinK_eq, seqA_n, seqA_e, seqA_r, e_add, e_sub, e_mul, e_eql, e_neq, e_lss, e_leq, e_gtr, e_geq, e_conv, e_not, e_neg, and_guard, or_guard, retV]
        rfl
    · have e1 : (((q.length : Nat) : Int) != ((r.length : Nat) : Int)) = true := by simp; omega
      have e2 : ¬ q.map (·.1) = r.map (·.1) := fun h => e (by have := congrArg List.length h; simpa using this)
      simp only [e1, e2, n_bind, n_map, getL_0, getL_1, getL_2, getL_3, getL_4, getL_5, getL_6, getL_7, getL_8, getL_9, getL_10, getL_11, getL_12, condV_t, condV_f, guardV_tt, guardV_ff, guardV_tf, guardV_ft, guardV_u, apick_t, apick_f, exV_exit, exV_ret, lookE_same, joinK_eq, seqA_n, seqA_e, seqA_r, e_add, e_sub, e_mul, e_eql, e_neq, e_lss, e_leq, e_gtr, e_geq, e_conv, e_not, e_neg, and_guard, or_guard, retV]
      rfl
  unfold judge_same
  simp only [slices_EqualFunc_api_Result_api_Result_api_Result_api_Result_call, hE, n_bind, n_map, getL_0, getL_1, getL_2, getL_3, getL_4, getL_5, getL_6, getL_7, getL_8, getL_9, getL_10, getL_11, getL_12, condV_t, condV_f, guardV_tt, guardV_ff, guardV_tf, guardV_ft, guardV_u, apick_t, apick_f, exV_exit, exV_ret, lookE_same, joinK_eq, seqA_n, seqA_e, seqA_r, e_add, e_sub, e_mul, e_eql, e_neq, e_lss, e_leq, e_gtr, e_geq, e_conv, e_not, e_neg, and_guard, or_guard, retV]
  rfl
end Go.Proofs.Ytccindbiodofmaa.Ab

/- Operations on a map: facts that the laws ask for. -/
namespace Go.Proofs.Ytccindbiodofmaa.Ab
open Go

theorem apE_join {m : List Rg} {l : List OpT} (h1 : Val m) (h2 : allE l = 0) : apE m l = 0 := by
  unfold apE
  rw [if_pos (val_mapE.2 h1)]
  exact h2
theorem y3_0 {a r : Value} {e : Int} (h : isTup a = false) : aextract 0 (.tuple #[a, r, .int .i64 e]) = some a := by simp [aextract, h]
theorem y3_1 {a r : Value} {e : Int} (h : isTup r = false) : aextract 1 (.tuple #[a, r, .int .i64 e]) = some r := by simp [aextract, h]
theorem y3_2 {a r : Value} {e : Int} : aextract 2 (.tuple #[a, r, .int .i64 e]) = some (.int .i64 e) := Eq.trans rfl (Eq.refl _)
theorem OwnC.istup {α : Type} {C : Cod α} {N : Nat} {s : St} {v : Value} {l : List α} (h : OwnC C N s v l) : isTup v = false := by
  rcases h with ⟨rfl, _⟩ | ⟨b, cap, rest, rfl, _⟩ <;> rfl
theorem Own.istup {N n : Nat} {s : St} {v : Value} {cs : List Value} (h : Own N n s v cs) : isTup v = false := by
  rcases h with ⟨rfl, _⟩ | ⟨b, len, rfl, _⟩ <;> rfl
theorem Rdy.istup {N : Nat} {s : St} {v : Value} {l : List Rs} (h : Rdy N s v l) : isTup v = false := by
  obtain ⟨q, _, h, _⟩ := h
  exact h.istup
theorem Rdy.alen {N : Nat} {s s2 : St} {v : Value} {l : List Rs} (h : Rdy N s v l) {e : TypeId} : alenV (.slice e) v s2 = some (.int .i64 ((l.length : Nat) : Int)) := by
  obtain ⟨q, hq, h, _⟩ := h
  rw [cells_alen h.cells, ← hq, List.length_map]
theorem ne0 {e : Int} (h : ¬ e = 0) : (e != 0) = true := by simpa using h
theorem doR_len {m : List Rg} {o : OpT} : (doR m o).2.2.length ≤ m.length := by
  unfold doR
  split
  · simp
  · split
    · simp only [List.length_take]
      have : (cIn m (o.lo, o.hi)).length ≤ m.length := List.length_filter_le _ _
      omega
    · simp
theorem apR_len2 : ∀ {l : List OpT} {m : List Rg}, ∀ x ∈ apR m l, x.2.2.length ≤ m.length + l.length
  | [], _, x, hx => by cases hx
  | o :: l, m, x, hx => by
    rcases List.mem_cons.1 hx with rfl | hx
    · have := doR_len (m := m) (o := o)
      simp only [List.length_cons]
      omega
    · have h1 := apR_len2 (l := l) x hx
      have h2 := len_do (m := m) (o := o)
      simp only [List.length_cons]
      omega
end Go.Proofs.Ytccindbiodofmaa.Ab

/- One that is seen: what is said of it, and what is known then. -/
namespace Go.Proofs.Ytccindbiodofmaa.Ab
open Go
set_option maxRecDepth 100000

/-! ### In plain Lean -/
def goodS (x : Sn) : Bool := (decide (x.client ≥ 1) && decide (x.client ≤ 4)) && (if x.kind == 1 then chkE x.ops == 0 else if x.kind == 3 then x.code == 1 || x.code == 2 else x.kind == 2)
def twiceP (k : Int) (a d t : Bool) : Bool := if k == 1 then a else if k == 2 then d else if k == 3 then t else false
def formB (x : Sn) (d : List Rs) : Bool := if x.code == 1 then !decide (d = x.res) else decide (0 < x.res.length)
def seeP (K : Kn) (x : Sn) : Int × Kn :=
  if goodS x = false then (1, K) else
  if twiceP x.kind (lookR (x.client, x.req) K.ops).isSome (lookR (x.client, x.req) K.res).isSome (lookR (x.client, x.req) K.told).isSome = true then (6, K) else
  if x.kind = 1 then (0, { K with ops := K.ops ++ [((x.client, x.req), x.ops)] }) else
  match lookR (x.client, x.req) K.ops with
  | none => (5, K)
  | some l =>
    if x.kind = 2 then
      if (lookR (x.client, x.req) K.told).isSome = true then (4, K) else (0, { K with m := apM K.m l, res := K.res ++ [((x.client, x.req), apR K.m l)] })
    else
      if ((x.code == 1) != (lookR (x.client, x.req) K.res).isSome) = true then (4, K) else
      if formB x ((lookR (x.client, x.req) K.res).getD []) = true then (11, K) else (0, { K with told := K.told ++ [((x.client, x.req), ())] })

/-! ### The cells of one that is seen -/
theorem sn_box {x : Sn} {o r : Value} (ho : isLeaf o = true) (hr : isLeaf r = true) : lbox (snV x o r) = some (snV x o r) := by
  have h2 : ([.int .i64 x.kind, .int .i64 x.client, .int .u64 x.req, .int .i64 x.code, o, r] : List Value).all isLeaf = true := by
    simp only [List.all_cons, ho, hr, List.all_nil, Bool.and_true]
    rfl
  unfold lbox
  rw [show cellsV (snV x o r) = [.int .i64 x.kind, .int .i64 x.client, .int .u64 x.req, .int .i64 x.code, o, r] from rfl, if_pos h2]
  rfl
theorem sn_all (x : Sn) (o r : Value) : lload true 6 lptr (snV x o r) = some (snV x o r) := rfl
theorem sn_0 (x : Sn) (o r : Value) : lload false 1 lptr (snV x o r) = some (.int .i64 x.kind) := rfl
theorem sn_1 (x : Sn) (o r : Value) : lload false 1 (.pointer (some ⟨0, 1, none⟩)) (snV x o r) = some (.int .i64 x.client) := rfl
theorem sn_2 (x : Sn) (o r : Value) : lload false 1 (.pointer (some ⟨0, 2, none⟩)) (snV x o r) = some (.int .u64 x.req) := rfl
theorem sn_3 (x : Sn) (o r : Value) : lload false 1 (.pointer (some ⟨0, 3, none⟩)) (snV x o r) = some (.int .i64 x.code) := rfl
theorem sn_4 (x : Sn) (o r : Value) : lload false 1 (.pointer (some ⟨0, 4, none⟩)) (snV x o r) = some o := rfl
theorem sn_5 (x : Sn) (o r : Value) : lload false 1 (.pointer (some ⟨0, 5, none⟩)) (snV x o r) = some r := rfl
theorem rq_build (c q : Int) : abuild Try.prog 77 [(0, .int .i64 c), (1, .int .u64 q)] = some (rqV (c, q)) := by kernel_rfl
theorem rq_st (r : Rq) : lstore 2 lptr (rqV r) (.agg #[(.int .i64 0), (.int .u64 0)]) = some (rqV r) := rfl
theorem rq_all (r : Rq) : lload true 2 lptr (rqV r) = some (rqV r) := rfl

theorem ckS_run {x : Sn} {o r : Value} {s : St} (ho : listOf opC o s = some x.ops) (hl : x.ops.length < 140737488355328) (hr : isLeaf r = true) : (run Try.prog (libL libT) hints) 34 [snV x o r] s = some (.int .i64 (if goodS x = true then 0 else 1), s) := by
  refine judge_check_of rfl ?_
  have hb := sn_box (x := x) (ops_leaf ho) hr
  have hc := k_chkO ho hl
  unfold judge_check goodS
  cases c1 : decide (x.client ≥ 1)
  · cases k1 : (x.kind == 1)
    · cases k3 : (x.kind == 3)
      · cases k2 : (x.kind == 2)
        · simp only [hb, sn_0, sn_1, sn_3, sn_4, c1, k1, k2, k3, judge_check.j0, n_bind, n_map, getL_0, getL_1, getL_2, getL_3, getL_4, getL_5, getL_6, getL_7, getL_8, getL_9, getL_10, getL_11, getL_12, condV_t, condV_f, guardV_tt, guardV_ff, guardV_tf, guardV_ft, guardV_u, apick_t, apick_f, exV_exit, exV_ret, lookE_same, joinK_eq, seqA_n, seqA_e, seqA_r, e_add, e_sub, e_mul, e_eql, e_neq, e_lss, e_leq, e_gtr, e_geq, e_conv, e_not, e_neg, and_guard, or_guard, retV]
          rfl
        · simp only [hb, sn_0, sn_1, sn_3, sn_4, c1, k1, k2, k3, judge_check.j0, n_bind, n_map, getL_0, getL_1, getL_2, getL_3, getL_4, getL_5, getL_6, getL_7, getL_8, getL_9, getL_10, getL_11, getL_12, condV_t, condV_f, guardV_tt, guardV_ff, guardV_tf, guardV_ft, guardV_u, apick_t, apick_f, exV_exit, exV_ret, lookE_same, joinK_eq, seqA_n, seqA_e, seqA_r, e_add, e_sub, e_mul, e_eql, e_neq, e_lss, e_leq, e_gtr, e_geq, e_conv, e_not, e_neg, and_guard, or_guard, retV]
          rfl
      · cases d1 : (x.code == 1) <;> cases d2 : (x.code == 2)
        all_goals
          simp only [hb, sn_0, sn_1, sn_3, sn_4, c1, k1, k3, d1, d2, judge_check.j0, n_bind, n_map, getL_0, getL_1, getL_2, getL_3, getL_4, getL_5, getL_6, getL_7, getL_8, getL_9, getL_10, getL_11, getL_12, condV_t, condV_f, guardV_tt, guardV_ff, guardV_tf, guardV_ft, guardV_u, apick_t, apick_f, exV_exit, exV_ret, lookE_same, joinK_eq, seqA_n, seqA_e, seqA_r, e_add, e_sub, e_mul, e_eql, e_neq, e_lss, e_leq, e_gtr, e_geq, e_conv, e_not, e_neg, and_guard, or_guard, retV]
          rfl
    · simp only [hb, sn_0, sn_1, sn_3, sn_4, c1, k1, judge_check.j0, n_bind, n_map, getL_0, getL_1, getL_2, getL_3, getL_4, getL_5, getL_6, getL_7, getL_8, getL_9, getL_10, getL_11, getL_12, condV_t, condV_f, guardV_tt, guardV_ff, guardV_tf, guardV_ft, guardV_u, apick_t, apick_f, exV_exit, exV_ret, lookE_same, joinK_eq, seqA_n, seqA_e, seqA_r, e_add, e_sub, e_mul, e_eql, e_neq, e_lss, e_leq, e_gtr, e_geq, e_conv, e_not, e_neg, and_guard, or_guard, retV]
      rfl
  · cases c2 : decide (x.client ≤ 4)
    · cases k1 : (x.kind == 1)
      · cases k3 : (x.kind == 3)
        · cases k2 : (x.kind == 2)
          · simp only [hb, sn_0, sn_1, sn_3, sn_4, c1, c2, k1, k2, k3, judge_check.j0, n_bind, n_map, getL_0, getL_1, getL_2, getL_3, getL_4, getL_5, getL_6, getL_7, getL_8, getL_9, getL_10, getL_11, getL_12, condV_t, condV_f, guardV_tt, guardV_ff, guardV_tf, guardV_ft, guardV_u, apick_t, apick_f, exV_exit, exV_ret, lookE_same, joinK_eq, seqA_n, seqA_e, seqA_r, e_add, e_sub, e_mul, e_eql, e_neq, e_lss, e_leq, e_gtr, e_geq, e_conv, e_not, e_neg, and_guard, or_guard, retV]
            rfl
          · simp only [hb, sn_0, sn_1, sn_3, sn_4, c1, c2, k1, k2, k3, judge_check.j0, n_bind, n_map, getL_0, getL_1, getL_2, getL_3, getL_4, getL_5, getL_6, getL_7, getL_8, getL_9, getL_10, getL_11, getL_12, condV_t, condV_f, guardV_tt, guardV_ff, guardV_tf, guardV_ft, guardV_u, apick_t, apick_f, exV_exit, exV_ret, lookE_same, joinK_eq, seqA_n, seqA_e, seqA_r, e_add, e_sub, e_mul, e_eql, e_neq, e_lss, e_leq, e_gtr, e_geq, e_conv, e_not, e_neg, and_guard, or_guard, retV]
            rfl
        · cases d1 : (x.code == 1) <;> cases d2 : (x.code == 2)
          all_goals
            simp only [hb, sn_0, sn_1, sn_3, sn_4, c1, c2, k1, k3, d1, d2, judge_check.j0, n_bind, n_map, getL_0, getL_1, getL_2, getL_3, getL_4, getL_5, getL_6, getL_7, getL_8, getL_9, getL_10, getL_11, getL_12, condV_t, condV_f, guardV_tt, guardV_ff, guardV_tf, guardV_ft, guardV_u, apick_t, apick_f, exV_exit, exV_ret, lookE_same, joinK_eq, seqA_n, seqA_e, seqA_r, e_add, e_sub, e_mul, e_eql, e_neq, e_lss, e_leq, e_gtr, e_geq, e_conv, e_not, e_neg, and_guard, or_guard, retV]
            rfl
      · simp only [hb, sn_0, sn_1, sn_3, sn_4, c1, c2, k1, judge_check.j0, n_bind, n_map, getL_0, getL_1, getL_2, getL_3, getL_4, getL_5, getL_6, getL_7, getL_8, getL_9, getL_10, getL_11, getL_12, condV_t, condV_f, guardV_tt, guardV_ff, guardV_tf, guardV_ft, guardV_u, apick_t, apick_f, exV_exit, exV_ret, lookE_same, joinK_eq, seqA_n, seqA_e, seqA_r, e_add, e_sub, e_mul, e_eql, e_neq, e_lss, e_leq, e_gtr, e_geq, e_conv, e_not, e_neg, and_guard, or_guard, retV]
        rfl
    · cases k1 : (x.kind == 1)
      · cases k3 : (x.kind == 3)
        · cases k2 : (x.kind == 2)
          · simp only [hb, sn_0, sn_1, sn_3, sn_4, c1, c2, k1, k2, k3, judge_check.j0, n_bind, n_map, getL_0, getL_1, getL_2, getL_3, getL_4, getL_5, getL_6, getL_7, getL_8, getL_9, getL_10, getL_11, getL_12, condV_t, condV_f, guardV_tt, guardV_ff, guardV_tf, guardV_ft, guardV_u, apick_t, apick_f, exV_exit, exV_ret, lookE_same, joinK_eq, seqA_n, seqA_e, seqA_r, e_add, e_sub, e_mul, e_eql, e_neq, e_lss, e_leq, e_gtr, e_geq, e_conv, e_not, e_neg, and_guard, or_guard, retV]
            rfl
          · simp only [hb, sn_0, sn_1, sn_3, sn_4, c1, c2, k1, k2, k3, judge_check.j0, n_bind, n_map, getL_0, getL_1, getL_2, getL_3, getL_4, getL_5, getL_6, getL_7, getL_8, getL_9, getL_10, getL_11, getL_12, condV_t, condV_f, guardV_tt, guardV_ff, guardV_tf, guardV_ft, guardV_u, apick_t, apick_f, exV_exit, exV_ret, lookE_same, joinK_eq, seqA_n, seqA_e, seqA_r, e_add, e_sub, e_mul, e_eql, e_neq, e_lss, e_leq, e_gtr, e_geq, e_conv, e_not, e_neg, and_guard, or_guard, retV]
            rfl
        · cases d1 : (x.code == 1) <;> cases d2 : (x.code == 2)
          all_goals
            simp only [hb, sn_0, sn_1, sn_3, sn_4, c1, c2, k1, k3, d1, d2, judge_check.j0, n_bind, n_map, getL_0, getL_1, getL_2, getL_3, getL_4, getL_5, getL_6, getL_7, getL_8, getL_9, getL_10, getL_11, getL_12, condV_t, condV_f, guardV_tt, guardV_ff, guardV_tf, guardV_ft, guardV_u, apick_t, apick_f, exV_exit, exV_ret, lookE_same, joinK_eq, seqA_n, seqA_e, seqA_r, e_add, e_sub, e_mul, e_eql, e_neq, e_lss, e_leq, e_gtr, e_geq, e_conv, e_not, e_neg, and_guard, or_guard, retV]
            rfl
      · cases k4 : (chkE x.ops == 0)
        · simp only [hb, sn_0, sn_1, sn_3, sn_4, c1, c2, k1, k4, op_Check_call, hc, judge_check.j0, n_bind, n_map, getL_0, getL_1, getL_2, getL_3, getL_4, getL_5, getL_6, getL_7, getL_8, getL_9, getL_10, getL_11, getL_12, condV_t, condV_f, guardV_tt, guardV_ff, guardV_tf, guardV_ft, guardV_u, apick_t, apick_f, exV_exit, exV_ret, lookE_same, joinK_eq, seqA_n, seqA_e, seqA_r, e_add, e_sub, e_mul, e_eql, e_neq, e_lss, e_leq, e_gtr, e_geq, e_conv, e_not, e_neg, and_guard, or_guard, retV]
          rfl
        · simp only [hb, sn_0, sn_1, sn_3, sn_4, c1, c2, k1, k4, op_Check_call, hc, judge_check.j0, n_bind, n_map, getL_0, getL_1, getL_2, getL_3, getL_4, getL_5, getL_6, getL_7, getL_8, getL_9, getL_10, getL_11, getL_12, condV_t, condV_f, guardV_tt, guardV_ff, guardV_tf, guardV_ft, guardV_u, apick_t, apick_f, exV_exit, exV_ret, lookE_same, joinK_eq, seqA_n, seqA_e, seqA_r, e_add, e_sub, e_mul, e_eql, e_neq, e_lss, e_leq, e_gtr, e_geq, e_conv, e_not, e_neg, and_guard, or_guard, retV]
          rfl

end Go.Proofs.Ytccindbiodofmaa.Ab

/- One that is seen: the three maps are asked, and written. -/
namespace Go.Proofs.Ytccindbiodofmaa.Ab
open Go
set_option maxRecDepth 100000

theorem lookR_mem {A : Type} {r : Rq} {a : A} : ∀ {l : List (Rq × A)}, lookR r l = some a → (r, a) ∈ l
  | [], h => by cases h
  | p :: l, h => by
    unfold lookR at h
    split at h
    · rename_i hp
      cases h
      subst hp
      exact List.mem_cons_self
    · exact List.mem_cons_of_mem _ (lookR_mem h)
theorem lookR_some {A : Type} {r : Rq} : ∀ {l : List (Rq × A)}, (lookR r l).isSome = true ↔ r ∈ l.map (·.1)
  | [] => by simp [lookR]
  | p :: l => by
    unfold lookR
    split
    · rename_i hp; simp [hp]
    · rename_i hp
      rw [lookR_some, List.map_cons, List.mem_cons]
      exact ⟨.inr, fun h => h.resolve_left fun e => hp e.symm⟩
theorem nodup_len {A : Type} [DecidableEq A] : ∀ {l m : List A}, l.Nodup → (∀ x ∈ l, x ∈ m) → l.length ≤ m.length
  | [], m, _, _ => Nat.zero_le _
  | a :: l, m, h, hs => by
    obtain ⟨h1, h2⟩ := List.nodup_cons.1 h
    have ha := hs a (by simp)
    have := nodup_len (l := l) (m := m.erase a) h2 fun x hx => (List.mem_erase_of_ne (a := x) (b := a) (by rintro rfl; exact h1 hx)).2 (hs x (by simp [hx]))
    rw [List.length_erase_of_mem ha] at this
    have hp : 0 < m.length := List.length_pos_of_mem ha
    simp only [List.length_cons]
    omega
/-- what stands fast of what is known -/
structure KOk (K : Kn) (i : Nat) : Prop where
  val : Val K.m
  ops : ∀ p ∈ K.ops, allE p.2 = 0 ∧ p.2.length ≤ 4
  res : ∀ p ∈ K.res, p.2.length ≤ 4 ∧ ∀ y ∈ p.2, y.2.2.length ≤ 6200000000000
  nd : (K.res.map (·.1)).Nodup
  sub : ∀ p ∈ K.res, p.1 ∈ K.ops.map (·.1)
  len : K.m.length ≤ 4 * K.res.length
  cnt : K.ops.length + K.res.length ≤ i
theorem KOk.room {K : Kn} {i : Nat} (h : KOk K i) (hi : i ≤ 1759218604391) : K.m.length + 4 ≤ 6200000000000 := by
  have := nodup_len h.nd (m := K.ops.map (·.1)) fun x hx => by
    obtain ⟨p, hp, rfl⟩ := List.mem_map.1 hx
    exact h.sub p hp
  simp only [List.length_map] at this
  have h1 := h.len
  have h2 := h.cnt
  omega
theorem KOk.nil : KOk Kn.nil 0 := ⟨val_mapE.1 rfl, fun p h => (by cases h), fun p h => (by cases h), List.nodup_nil, fun p h => (by cases h), Nat.le_refl _, Nat.le_refl _⟩
theorem chkE_ok {l : List OpT} (h : (chkE l == 0) = true) : allE l = 0 ∧ l.length ≤ 4 := by
  unfold chkE at h
  split at h
  · simp at h
  · rename_i c
    exact ⟨by simpa using h, by omega⟩
theorem good_ops {x : Sn} (h : goodS x = true) (hk : x.kind = 1) : allE x.ops = 0 ∧ x.ops.length ≤ 4 := by
  unfold goodS at h
  have : (x.kind == 1) = true := by simp [hk]
  rw [this, if_pos rfl, Bool.and_eq_true] at h
  exact chkE_ok h.2
theorem KOk.see {K : Kn} {i : Nat} (h : KOk K i) (hi : i ≤ 1759218604391) (x : Sn) : KOk (seeP K x).2 (i + 1) := by
  have up : KOk K (i + 1) := ⟨h.val, h.ops, h.res, h.nd, h.sub, h.len, Nat.le_succ_of_le h.cnt⟩
  unfold seeP
  split
  · exact up
  rename_i hg
  have hg : goodS x = true := by simpa using hg
  split
  · exact up
  rename_i ht
  split
  · rename_i hk
    obtain ⟨a1, a2⟩ := good_ops hg hk
    refine ⟨h.val, fun p hp => ?_, h.res, h.nd, fun p hp => ?_, h.len, by have := h.cnt; simp only [List.length_append, List.length_singleton]; omega⟩
    · rcases List.mem_append.1 hp with hp | hp
      · exact h.ops p hp
      · simp only [List.mem_singleton] at hp
        subst hp
        exact ⟨a1, a2⟩
    · rw [List.map_append]
      exact List.mem_append_left _ (h.sub p hp)
  · rename_i hk
    cases ha : lookR (x.client, x.req) K.ops with
    | none => exact up
    | some l =>
      have hm := lookR_mem ha
      obtain ⟨a1, a2⟩ := h.ops _ hm
      simp only at a1 a2 ⊢
      split
      · rename_i hk2
        split
        · exact up
        · have hd : ¬ (lookR (x.client, x.req) K.res).isSome = true := by
            unfold twiceP at ht
            have k1 : (x.kind == 1) = false := by simpa using hk
            have k2 : (x.kind == 2) = true := by simpa using hk2
            rw [k1, k2] at ht
            simpa using ht
          have hd2 : (x.client, x.req) ∉ K.res.map (·.1) := fun hc => hd (lookR_some.2 hc)
          refine ⟨val_ap h.val a1, h.ops, fun p hp => ?_, ?_, fun p hp => ?_, ?_, ?_⟩
          · rcases List.mem_append.1 hp with hp | hp
            · exact h.res p hp
            · simp only [List.mem_singleton] at hp
              subst hp
              refine ⟨by rw [apR_len]; exact a2, fun y hy => ?_⟩
              have := apR_len2 y hy
              have := h.room hi
              omega
          · rw [List.map_append, List.nodup_append]
            refine ⟨h.nd, by simp, fun a ha b hb => ?_⟩
            simp only [List.map_cons, List.map_nil, List.mem_singleton] at hb
            subst hb
            exact fun e => hd2 (e ▸ ha)
          · rcases List.mem_append.1 hp with hp | hp
            · exact h.sub p hp
            · simp only [List.mem_singleton] at hp
              subst hp
              exact List.mem_map_of_mem (f := Prod.fst) hm
          · have h1 := len_ap (l := l) (m := K.m)
            have h2 := h.len
            simp only [List.length_append, List.length_singleton]
            omega
          · have := h.cnt
            simp only [List.length_append, List.length_singleton]
            omega
      · split
        · exact up
        · split
          · exact up
          · exact ⟨h.val, h.ops, h.res, h.nd, h.sub, h.len, Nat.le_succ_of_le h.cnt⟩

/-! ### In memory -/
theorem kn_ld {t : St} {b : Nat} {cells : List Value} (h : t.heap[b]? = some (.row 0 cells .act)) {i : Nat} {c : Value} (hc : cells[i]? = some c) : aload false 1 (.pointer (some ⟨b, i, none⟩)) t = some c := by
  have : readRow t b = some cells := by
    unfold Ab.readRow
    rw [h]
  simp [aload, this, hc]
theorem kn_ad {N i : Nat} : afieldAddr i (.pointer (some ⟨N, 0, none⟩)) = some (.pointer (some ⟨N, i, none⟩)) := by simp [afieldAddr]
theorem kn_nil {N : Nat} : anilCheck (.pointer (some ⟨N, 0, none⟩)) = some (.pointer (some ⟨N, 0, none⟩)) := rfl
theorem mp_look {t : St} {b : Nat} {es : List (Value × Value × Nat)} {c : Nat} (h : t.heap[b]? = some (.map es c)) {z k : Value} {ok : Bool} {ky : TypeId} : alookup Try.prog ky z (.map (some b)) k ok t = alookupE Try.prog ky z es k ok := by
  simp only [alookup, h]
theorem put_ne {s : St} {b c : Nat} {B : Blk} (h : c ≠ b) : (s.putB b B).heap[c]? = s.heap[c]? := by
  simp only [St.putB]
  rw [List.getElem?_set_ne (Ne.symm h)]
theorem put_len {s : St} {b : Nat} {B : Blk} : (s.putB b B).heap.length = s.heap.length := by simp [St.putB]
theorem Ext.put {N b : Nat} {s t : St} {B : Blk} (h : Ext N s t) (hb : N ≤ b) : Ext N s (t.putB b B) := ⟨by rw [put_len]; exact h.1, fun c hc => by rw [put_ne (by omega)]; exact h.2 c hc⟩
theorem mp_new {A : Type} {Rl : Value → A → Prop} {t : St} {b : Nat} {es : List (Value × Value × Nat)} {c : Nat} {l : List (Rq × A)} {r : Rq} (h : t.heap[b]? = some (.map es c)) (he : Ents Rl es l) (hl : lookR r l = none) {v : Value} (hv : isTup v = false) : amapUpdate Try.prog 77 (.map (some b)) (rqV r) v t = some (t.putB b (.map (es ++ [(rqV r, v, c)]) (c + 1))) := by
  have h0 := key_rq (r := r) he
  rw [hl] at h0
  unfold amapUpdate
  rw [hv]
  simp only [Bool.false_eq_true, if_false, h]
  rw [if_pos (rq_fits _ _), h0]
  rfl
theorem mp_ent {A : Type} {Rl : Value → A → Prop} {t : St} {b : Nat} {es : List (Value × Value × Nat)} {c : Nat} {l : List (Rq × A)} {r : Rq} (h : t.heap[b]? = some (.map es c)) (he : Ents Rl es l) (hl : lookR r l = none) {z : Value} : amapEntry Try.prog 77 z (.map (some b)) (rqV r) t = some (.tuple #[z, goInt c], t.putB b (.map (es ++ [(rqV r, z, c)]) (c + 1))) := by
  have h0 := key_rq (r := r) he
  rw [hl] at h0
  unfold amapEntry
  simp only [h]
  rw [if_pos (rq_fits _ _), h0]
  rfl
theorem modify_last {A : Type} {f : A → A} {e : A} : ∀ {l : List A}, (l ++ [e]).modify l.length f = l ++ [f e]
  | [] => rfl
  | a :: l => by
    rw [List.cons_append, List.length_cons, List.modify_succ_cons, modify_last]
    rfl
theorem mp_fill {t : St} {b : Nat} {es : List (Value × Value × Nat)} {c d : Nat} {k z v : Value} (h : t.heap[b]? = some (.map (es ++ [(k, z, c)]) d)) (hc : ∀ e ∈ es, e.2.2 < c) (hv : isTup v = false) : aentryStore (.map (some b)) (goInt c) v t = some (t.putB b (.map (es ++ [(k, v, c)]) d)) := by
  unfold aentryStore
  rw [hv]
  simp only [Bool.false_eq_true, if_false, goInt, h]
  rw [born_last hc]
  simp only [modify_last]
theorem kn_st {t : St} {b : Nat} {N : Nat} {mv v : Value} (h : t.heap[b]? = some (.row 0 (kCells N mv) .act)) (hv : isLeaf v = true) (hc : (cellsV v).length = 1) (hcs : cellsV v = [v]) : astore 1 (.pointer (some ⟨b, 3, none⟩)) v t = some (t.putB b (.row 0 (kCells N v) .act)) := by
  unfold astore
  simp only [h, hcs, List.length_singleton]
  simp [kCells, putCells, hv, writeN, h]

/-! ### What is known, later -/
theorem KS.later {s0 t u : St} {K : Kn} {ea eb ec : List (Value × Value × Nat)} {ca cb cc : Nat} {mv : Value} (h : KS s0 t K ea eb ec ca cb cc mv) (hx : Ext t.heap.length t u) : KS s0 u K ea eb ec ca cb cc mv := by
  have lt : ∀ {b : Nat} {B : Blk}, t.heap[b]? = some B → u.heap[b]? = some B := fun {b B} hb => by rw [hx.2 b (List.getElem?_eq_some_iff.1 hb).1]; exact hb
  exact ⟨h.ext.trans (hx.less h.ext.1), lt h.a, lt h.b, lt h.c, lt h.k, (Hi.ext hx).own h.m, h.ra, h.rb.mono fun e p q => ⟨q.1, (Hi.ext hx).rdy q.2⟩, h.rc, h.bb⟩
theorem KS.addOps {s0 t : St} {K : Kn} {ea eb ec : List (Value × Value × Nat)} {ca cb cc : Nat} {mv : Value} (h : KS s0 t K ea eb ec ca cb cc mv) {r : Rq} {o : Value} {l : List OpT} (ho : listOf opC o s0 = some l) : KSt s0 (t.putB s0.heap.length (.map (ea ++ [(rqV r, o, ca)]) (ca + 1))) { K with ops := K.ops ++ [(r, l)] } := by
  have hlt := (List.getElem?_eq_some_iff.1 h.a).1
  have hi : Hi (s0.heap.length + 4) t (t.putB s0.heap.length (.map (ea ++ [(rqV r, o, ca)]) (ca + 1))) := Hi.put (by omega)
  exact ⟨_, eb, ec, ca + 1, cb, cc, mv, h.ext.put (Nat.le_refl _), putB_get hlt, by rw [put_ne (by omega)]; exact h.b, by rw [put_ne (by omega)]; exact h.c, by rw [put_ne (by omega)]; exact h.k, hi.own h.m, h.ra.add ho, h.rb.mono fun e p q => ⟨q.1, hi.rdy q.2⟩, h.rc, h.bb⟩
theorem KS.addTold {s0 t : St} {K : Kn} {ea eb ec : List (Value × Value × Nat)} {ca cb cc : Nat} {mv : Value} (h : KS s0 t K ea eb ec ca cb cc mv) {r : Rq} : KSt s0 (t.putB (s0.heap.length + 2) (.map (ec ++ [(rqV r, .bool true, cc)]) (cc + 1))) { K with told := K.told ++ [(r, ())] } := by
  have hlt := (List.getElem?_eq_some_iff.1 h.c).1
  have hi : Hi (s0.heap.length + 4) t (t.putB (s0.heap.length + 2) (.map (ec ++ [(rqV r, .bool true, cc)]) (cc + 1))) := Hi.put (by omega)
  exact ⟨ea, eb, _, ca, cb, cc + 1, mv, h.ext.put (by omega), by rw [put_ne (by omega)]; exact h.a, by rw [put_ne (by omega)]; exact h.b, putB_get hlt, by rw [put_ne (by omega)]; exact h.k, hi.own h.m, h.ra, h.rb.mono fun e p q => ⟨q.1, hi.rdy q.2⟩, h.rc.add rfl, h.bb⟩
theorem KS.addRes {s0 t : St} {K : Kn} {ea eb ec : List (Value × Value × Nat)} {ca cb cc : Nat} {mv : Value} (h : KS s0 t K ea eb ec ca cb cc mv) {r : Rq} {a v : Value} {m : List Rg} {l : List Rs} (ha : OwnC prC (s0.heap.length + 4) t a m) (hr : Rdy (s0.heap.length + 4) t v l) (hl : lookR r K.res = none) :
    ∃ t2 t3 t4 : St, astore 1 (.pointer (some ⟨s0.heap.length + 3, 3, none⟩)) a t = some t2 ∧ t.heap.length ≤ t2.heap.length ∧ amapEntry Try.prog 77 (.slice none 0 0) (.map (some (s0.heap.length + 1))) (rqV r) t2 = some (.tuple #[.slice none 0 0, goInt cb], t3) ∧ t2.heap.length ≤ t3.heap.length ∧ aentryStore (.map (some (s0.heap.length + 1))) (goInt cb) v t3 = some t4 ∧ t3.heap.length ≤ t4.heap.length ∧ KSt s0 t4 { K with m := m, res := K.res ++ [(r, l)] } := by
  have hla : isLeaf a = true ∧ cellsV a = [a] := by rcases ha with ⟨rfl, _⟩ | ⟨b, cap, rest, rfl, _⟩ <;> exact ⟨rfl, rfl⟩
  have hk := (List.getElem?_eq_some_iff.1 h.k).1
  have hb := (List.getElem?_eq_some_iff.1 h.b).1
  have s1 := kn_st h.k hla.1 (by rw [hla.2]; rfl) hla.2
  have b2 : (t.putB (s0.heap.length + 3) (.row 0 (kCells s0.heap.length a) .act)).heap[s0.heap.length + 1]? = some (.map eb cb) := by rw [put_ne (by omega)]; exact h.b
  have s2 := mp_ent (z := .slice none 0 0) b2 h.rb hl
  have b3 : ((t.putB (s0.heap.length + 3) (.row 0 (kCells s0.heap.length a) .act)).putB (s0.heap.length + 1) (.map (eb ++ [(rqV r, .slice none 0 0, cb)]) (cb + 1))).heap[s0.heap.length + 1]? = some (.map (eb ++ [(rqV r, .slice none 0 0, cb)]) (cb + 1)) := putB_get (by rw [put_len]; exact hb)
  have s3 := mp_fill b3 h.bb hr.istup
  have i1 : Hi (s0.heap.length + 4) t (t.putB (s0.heap.length + 3) (.row 0 (kCells s0.heap.length a) .act)) := Hi.put (by omega)
  have i2 : Hi (s0.heap.length + 4) t ((t.putB (s0.heap.length + 3) (.row 0 (kCells s0.heap.length a) .act)).putB (s0.heap.length + 1) (.map (eb ++ [(rqV r, .slice none 0 0, cb)]) (cb + 1))) := i1.trans (Hi.put (by omega))
  have i3 : Hi (s0.heap.length + 4) t (((t.putB (s0.heap.length + 3) (.row 0 (kCells s0.heap.length a) .act)).putB (s0.heap.length + 1) (.map (eb ++ [(rqV r, .slice none 0 0, cb)]) (cb + 1))).putB (s0.heap.length + 1) (.map (eb ++ [(rqV r, v, cb)]) (cb + 1))) := i2.trans (Hi.put (by omega))
  refine ⟨_, _, _, s1, Nat.le_of_eq (by simp only [put_len]), s2, Nat.le_of_eq (by simp only [put_len]), s3, Nat.le_of_eq (by simp only [put_len]), ea, eb ++ [(rqV r, v, cb)], ec, ca, cb + 1, cc, a, ?_⟩
  refine ⟨((h.ext.put (by omega)).put (by omega)).put (by omega), by rw [put_ne (by omega), put_ne (by omega), put_ne (by omega)]; exact h.a, putB_get (by rw [put_len, put_len]; exact hb), by rw [put_ne (by omega), put_ne (by omega), put_ne (by omega)]; exact h.c, by rw [put_ne (by omega), put_ne (by omega)]; exact putB_get hk, i3.own ha, h.ra, ?_, h.rc, fun e he => ?_⟩
  · exact Ents.add (h.rb.mono fun e p q => ⟨q.1, i3.rdy q.2⟩) (i3.rdy hr)
  · rcases List.mem_append.1 he with he | he
    · have := h.bb e he; omega
    · simp only [List.mem_singleton] at he
      subst he
      exact Nat.lt_succ_self _

end Go.Proofs.Ytccindbiodofmaa.Ab

/- One that is seen: the walk. -/
namespace Go.Proofs.Ytccindbiodofmaa.Ab
open Go
set_option maxRecDepth 100000

theorem lp_0 : afieldAddr 0 lptr = some lptr := rfl
theorem lp_3 : afieldAddr 3 lptr = some (.pointer (some ⟨0, 3, none⟩)) := rfl
theorem lp_5 : afieldAddr 5 lptr = some (.pointer (some ⟨0, 5, none⟩)) := rfl
theorem kn_ad0 {N : Nat} : afieldAddr 0 (.pointer (some ⟨N, 0, none⟩)) = some (.pointer (some ⟨N, 0, none⟩)) := kn_ad
theorem ex0 {v : Value} (b : Value) (h : isTup v = false) : aextract 0 (.tuple #[v, b]) = some v := by simp [aextract, h]
theorem ex1 {v : Value} {b : Bool} : aextract 1 (.tuple #[v, .bool b]) = some (.bool b) := Eq.trans rfl (Eq.refl _)
theorem lit_see {a b c : Bool} {k : Int} : litF .i64 (.bool false) [(1, .bool a), (2, .bool b), (3, .bool c)] (.int .i64 k) = some (.bool (twiceP k a b c)) := by
  have hc : ([(1, .bool a), (2, .bool b), (3, .bool c)] : List (Int × Value)).all (fun e => constOk e.2) = true := rfl
  unfold litF
  rw [if_pos hc]
  simp only [if_true, litG, twiceP, beq_iff_eq]
  split
  · rfl
  · split
    · rfl
    · split <;> rfl
theorem rdy_tup {s : St} {v : Value} {l : List Rs} (h : RdyL s v l) : isTup v = false := by
  obtain ⟨q, _, h, _⟩ := h
  obtain ⟨a, len, cap, rfl, _⟩ := cellsOf_len h
  rfl
theorem ops_tup {s : St} {v : Value} {l : List OpT} (h : listOf opC v s = some l) : isTup v = false := by
  obtain ⟨a, cap, rfl⟩ := list_shape h
  rfl
/-- what the three maps say of a request -/
theorem asks {s0 t : St} {K : Kn} {ea eb ec : List (Value × Value × Nat)} {ca cb cc : Nat} {mv : Value} (h : KS s0 t K ea eb ec ca cb cc mv) (r : Rq) :
    (∃ v, isTup v = false ∧ (∀ ok, alookupE Try.prog 77 (.slice none 0 0) ea (rqV r) ok = some (cond ok (.tuple #[v, .bool (lookR r K.ops).isSome]) v)) ∧ ∀ l, lookR r K.ops = some l → listOf opC v s0 = some l) ∧
    (∃ v, isTup v = false ∧ (∀ ok, alookupE Try.prog 77 (.slice none 0 0) eb (rqV r) ok = some (cond ok (.tuple #[v, .bool (lookR r K.res).isSome]) v)) ∧ RdyL t v ((lookR r K.res).getD [])) ∧
    (∀ ok, alookupE Try.prog 77 (.bool false) ec (rqV r) ok = some (cond ok (.tuple #[.bool (lookR r K.told).isSome, .bool (lookR r K.told).isSome]) (.bool (lookR r K.told).isSome))) := by
  refine ⟨?_, ?_, ?_⟩
  · have := look_rq (r := r) h.ra (.slice none 0 0)
    cases e : lookR r K.ops with
    | none => rw [e] at this; exact ⟨_, rfl, this, fun l hl => (by cases hl)⟩
    | some l =>
      rw [e] at this
      obtain ⟨v, h1, h2⟩ := this
      exact ⟨v, ops_tup h2, h1, fun l' hl => (by cases hl; exact h2)⟩
  · have := look_rq (r := r) h.rb (.slice none 0 0)
    cases e : lookR r K.res with
    | none => rw [e] at this; exact ⟨_, rfl, this, [], rfl, rfl, fun x hx => (by cases hx)⟩
    | some l =>
      rw [e] at this
      obtain ⟨v, h1, h2⟩ := this
      exact ⟨v, h2.istup, h1, h2.toL⟩
  · have := look_rq (r := r) h.rc (.bool false)
    cases e : lookR r K.told with
    | none => rw [e] at this; exact this
    | some l =>
      rw [e] at this
      obtain ⟨v, h1, rfl⟩ := this
      exact h1
theorem none_of {A : Type} {x : Option A} (h : x.isSome = false) : x = none := by cases x with
  | none => rfl
  | some a => cases h

theorem see_run {s0 t : St} {K : Kn} {ea eb ec : List (Value × Value × Nat)} {ca cb cc : Nat} {mv : Value} (h : KS s0 t K ea eb ec ca cb cc mv) {i : Nat} (hk : KOk K i) (hi : i ≤ 1759218604391) {x : Sn} {o r : Value} (ho : listOf opC o s0 = some x.ops) (hol : x.ops.length < 140737488355328) (hr : RdyL s0 r x.res) :
    ∃ t', (run Try.prog (libL libT) hints) 28 [.pointer (some ⟨s0.heap.length + 3, 0, none⟩), snV x o r] t = some (.int .i64 (seeP K x).1, t') ∧ KSt s0 t' (seeP K x).2 := by
  have hot := list_ext h.ext ho
  have hrt := hr.ext h.ext
  have hck := ckS_run (s := t) hot hol (rdy_leaf hrt)
  have hbx := sn_box (x := x) (ops_leaf ho) (rdy_leaf hr)
  have hN0 : aload false 1 (.pointer (some ⟨s0.heap.length + 3, 0, none⟩)) t = some (.map (some s0.heap.length)) := kn_ld h.k rfl
  have hN1 : aload false 1 (.pointer (some ⟨s0.heap.length + 3, 1, none⟩)) t = some (.map (some (s0.heap.length + 1))) := kn_ld h.k rfl
  have hN2 : aload false 1 (.pointer (some ⟨s0.heap.length + 3, 2, none⟩)) t = some (.map (some (s0.heap.length + 2))) := kn_ld h.k rfl
  have hN3 : aload false 1 (.pointer (some ⟨s0.heap.length + 3, 3, none⟩)) t = some mv := kn_ld h.k rfl
  obtain ⟨⟨vo, hvo, ho1, ho2⟩, ⟨vr, hvr, hr1, hr2⟩, ht1⟩ := asks h (x.client, x.req)
  have stay : KSt s0 t K := ⟨_, _, _, _, _, _, _, h⟩
  have z0 : ((0 : Int) != 0) = false := rfl
  have z1 : ((1 : Int) != 0) = true := rfl
  cases hg : goodS x with
  | false =>
    have e : seeP K x = (1, K) := by unfold seeP; rw [if_pos hg]
    rw [e]
    refine ⟨t, judge_known_see_of rfl ?_, stay⟩
    unfold judge_known_see
    simp only [hg, Bool.false_eq_true, if_false, z1, hN0, hN1, hN2, kn_ad, kn_nil, kn_ad0, lp_0, lp_3, lp_5, judge_check_call, hck, hbx, sn_all, sn_0, sn_1, sn_2, sn_3, sn_4, sn_5, rq_build, rq_st, rq_all, mp_look h.a, mp_look h.b, mp_look h.c, ho1, hr1, ht1, cond_true, cond_false, ex0 _ hvo, ex0 _ hvr, ex1, own_id, lit_see, judge_known_see.j0, judge_known_see.j1, n_bind, n_map, getL_0, getL_1, getL_2, getL_3, getL_4, getL_5, getL_6, getL_7, getL_8, getL_9, getL_10, getL_11, getL_12, condV_t, condV_f, guardV_tt, guardV_ff, guardV_tf, guardV_ft, guardV_u, apick_t, apick_f, exV_exit, exV_ret, lookE_same, joinK_eq, seqA_n, seqA_e, seqA_r, e_add, e_sub, e_mul, e_eql, e_neq, e_lss, e_leq, e_gtr, e_geq, e_conv, e_not, e_neg, and_guard, or_guard, retV]
    rfl
  | true =>
  have hgn : ¬ goodS x = false := by rw [hg]; simp
  simp only [hg, if_true] at hck
  cases ht : twiceP x.kind (lookR (x.client, x.req) K.ops).isSome (lookR (x.client, x.req) K.res).isSome (lookR (x.client, x.req) K.told).isSome with
  | true =>
    have e : seeP K x = (6, K) := by unfold seeP; rw [if_neg hgn, if_pos ht]
    rw [e]
    refine ⟨t, judge_known_see_of rfl ?_, stay⟩
    unfold judge_known_see
    simp only [z0, ht, hN0, hN1, hN2, kn_ad, kn_nil, kn_ad0, lp_0, lp_3, lp_5, judge_check_call, hck, hbx, sn_all, sn_0, sn_1, sn_2, sn_3, sn_4, sn_5, rq_build, rq_st, rq_all, mp_look h.a, mp_look h.b, mp_look h.c, ho1, hr1, ht1, cond_true, cond_false, ex0 _ hvo, ex0 _ hvr, ex1, own_id, lit_see, judge_known_see.j0, judge_known_see.j1, n_bind, n_map, getL_0, getL_1, getL_2, getL_3, getL_4, getL_5, getL_6, getL_7, getL_8, getL_9, getL_10, getL_11, getL_12, condV_t, condV_f, guardV_tt, guardV_ff, guardV_tf, guardV_ft, guardV_u, apick_t, apick_f, exV_exit, exV_ret, lookE_same, joinK_eq, seqA_n, seqA_e, seqA_r, e_add, e_sub, e_mul, e_eql, e_neq, e_lss, e_leq, e_gtr, e_geq, e_conv, e_not, e_neg, and_guard, or_guard, retV]
    rfl
  | false =>
  have htn : ¬ twiceP x.kind (lookR (x.client, x.req) K.ops).isSome (lookR (x.client, x.req) K.res).isSome (lookR (x.client, x.req) K.told).isSome = true := by rw [ht]; simp
  cases hk1 : (x.kind == 1) with
  | true =>
    have hk1' : x.kind = 1 := by simpa using hk1
    have hno : lookR (x.client, x.req) K.ops = none := none_of (by unfold twiceP at ht; rw [hk1] at ht; simpa using ht)
    have e : seeP K x = (0, { K with ops := K.ops ++ [((x.client, x.req), x.ops)] }) := by unfold seeP; rw [if_neg hgn, if_neg htn, if_pos hk1']
    rw [e]
    refine ⟨_, judge_known_see_of rfl ?_, h.addOps (r := (x.client, x.req)) ho⟩
    have hup := mp_new h.a h.ra hno (ops_tup ho)
    unfold judge_known_see
    simp only [z0, ht, hk1, hup, own_ok (Nat.le_of_eq put_len.symm), hN0, hN1, hN2, kn_ad, kn_nil, kn_ad0, lp_0, lp_3, lp_5, judge_check_call, hck, hbx, sn_all, sn_0, sn_1, sn_2, sn_3, sn_4, sn_5, rq_build, rq_st, rq_all, mp_look h.a, mp_look h.b, mp_look h.c, ho1, hr1, ht1, cond_true, cond_false, ex0 _ hvo, ex0 _ hvr, ex1, own_id, lit_see, judge_known_see.j0, judge_known_see.j1, n_bind, n_map, getL_0, getL_1, getL_2, getL_3, getL_4, getL_5, getL_6, getL_7, getL_8, getL_9, getL_10, getL_11, getL_12, condV_t, condV_f, guardV_tt, guardV_ff, guardV_tf, guardV_ft, guardV_u, apick_t, apick_f, exV_exit, exV_ret, lookE_same, joinK_eq, seqA_n, seqA_e, seqA_r, e_add, e_sub, e_mul, e_eql, e_neq, e_lss, e_leq, e_gtr, e_geq, e_conv, e_not, e_neg, and_guard, or_guard, retV]
    rfl
  | false =>
  have hk1n : ¬ x.kind = 1 := by simpa using hk1
  cases hlo : lookR (x.client, x.req) K.ops with
  | none =>
    have e : seeP K x = (5, K) := by unfold seeP; rw [if_neg hgn, if_neg htn, if_neg hk1n, hlo]
    rw [e]
    refine ⟨t, judge_known_see_of rfl ?_, stay⟩
    have hs : (lookR (x.client, x.req) K.ops).isSome = false := by rw [hlo]; rfl
    rw [hs] at ho1 ht
    unfold judge_known_see
    simp only [z0, ht, hk1, Bool.not_false, hN0, hN1, hN2, kn_ad, kn_nil, kn_ad0, lp_0, lp_3, lp_5, judge_check_call, hck, hbx, sn_all, sn_0, sn_1, sn_2, sn_3, sn_4, sn_5, rq_build, rq_st, rq_all, mp_look h.a, mp_look h.b, mp_look h.c, ho1, hr1, ht1, cond_true, cond_false, ex0 _ hvo, ex0 _ hvr, ex1, own_id, lit_see, judge_known_see.j0, judge_known_see.j1, n_bind, n_map, getL_0, getL_1, getL_2, getL_3, getL_4, getL_5, getL_6, getL_7, getL_8, getL_9, getL_10, getL_11, getL_12, condV_t, condV_f, guardV_tt, guardV_ff, guardV_tf, guardV_ft, guardV_u, apick_t, apick_f, exV_exit, exV_ret, lookE_same, joinK_eq, seqA_n, seqA_e, seqA_r, e_add, e_sub, e_mul, e_eql, e_neq, e_lss, e_leq, e_gtr, e_geq, e_conv, e_not, e_neg, and_guard, or_guard, retV]
    rfl
  | some l =>
  have hs : (lookR (x.client, x.req) K.ops).isSome = true := by rw [hlo]; rfl
  rw [hs] at ho1 ht
  have e0 : seeP K x = (if x.kind = 2 then
      if (lookR (x.client, x.req) K.told).isSome = true then (4, K) else (0, { K with m := apM K.m l, res := K.res ++ [((x.client, x.req), apR K.m l)] })
    else
      if ((x.code == 1) != (lookR (x.client, x.req) K.res).isSome) = true then (4, K) else
      if formB x ((lookR (x.client, x.req) K.res).getD []) = true then (11, K) else (0, { K with told := K.told ++ [((x.client, x.req), ())] })) := by unfold seeP; rw [if_neg hgn, if_neg htn, if_neg hk1n, hlo]
  rw [e0]
  cases hk2 : (x.kind == 2) with
  | true =>
    have hk2' : x.kind = 2 := by simpa using hk2
    rw [if_pos hk2']
    cases hto : (lookR (x.client, x.req) K.told).isSome with
    | true =>
      rw [if_pos rfl]
      rw [hto] at ht1 ht
      refine ⟨t, judge_known_see_of rfl ?_, stay⟩
      unfold judge_known_see
      simp only [z0, ht, hk1, hk2, Bool.not_true, hN0, hN1, hN2, kn_ad, kn_nil, kn_ad0, lp_0, lp_3, lp_5, judge_check_call, hck, hbx, sn_all, sn_0, sn_1, sn_2, sn_3, sn_4, sn_5, rq_build, rq_st, rq_all, mp_look h.a, mp_look h.b, mp_look h.c, ho1, hr1, ht1, cond_true, cond_false, ex0 _ hvo, ex0 _ hvr, ex1, own_id, lit_see, judge_known_see.j0, judge_known_see.j1, n_bind, n_map, getL_0, getL_1, getL_2, getL_3, getL_4, getL_5, getL_6, getL_7, getL_8, getL_9, getL_10, getL_11, getL_12, condV_t, condV_f, guardV_tt, guardV_ff, guardV_tf, guardV_ft, guardV_u, apick_t, apick_f, exV_exit, exV_ret, lookE_same, joinK_eq, seqA_n, seqA_e, seqA_r, e_add, e_sub, e_mul, e_eql, e_neq, e_lss, e_leq, e_gtr, e_geq, e_conv, e_not, e_neg, and_guard, or_guard, retV]
      rfl
    | false =>
      rw [if_neg (by simp)]
      rw [hto] at ht1 ht
      have hnr : lookR (x.client, x.req) K.res = none := none_of (by unfold twiceP at ht; rw [hk1, hk2] at ht; simpa using ht)
      have hm := lookR_mem hlo
      obtain ⟨a1, a2⟩ := hk.ops _ hm
      simp only at a1 a2
      have hroom := hk.room hi
      have hap := t_apply h.m.list (list_ext h.ext (ho2 l hlo)) (by omega) (by omega)
      rw [if_pos (apE_join hk.val a1)] at hap
      obtain ⟨a, rr, t1, g1, g2, g3, g4⟩ := hap
      have hl4 : s0.heap.length + 4 ≤ t.heap.length := by have := (List.getElem?_eq_some_iff.1 h.k).1; omega
      have h1 := h.later g4
      obtain ⟨t2, t3, t4, q1, q2, q3, q4, q5, q6, q7⟩ := h1.addRes (r := (x.client, x.req)) (g2.mono hl4) (g3.mono hl4) hnr
      have hN1' : aload false 1 (.pointer (some ⟨s0.heap.length + 3, 1, none⟩)) t1 = some (.map (some (s0.heap.length + 1))) := kn_ld h1.k rfl
      have hk3 : (x.kind == 3) = false := by rw [hk2']; rfl
      have ea2 : aextract 1 (.tuple #[.slice none 0 0, goInt cb]) = some (goInt cb) := rfl
      refine ⟨t4, judge_known_see_of rfl ?_, q7⟩
      unfold judge_known_see
      simp only [z0, ht, hk1, hk2, hk3, Bool.not_true, hN3, op_Apply_call, g1, y3_0 g2.istup, y3_1 g3.istup, y3_2, hN1', q1, own_ok q2, q3, own_ok q4, ea2, q5, own_ok q6, hN0, hN1, hN2, kn_ad, kn_nil, kn_ad0, lp_0, lp_3, lp_5, judge_check_call, hck, hbx, sn_all, sn_0, sn_1, sn_2, sn_3, sn_4, sn_5, rq_build, rq_st, rq_all, mp_look h.a, mp_look h.b, mp_look h.c, ho1, hr1, ht1, cond_true, cond_false, ex0 _ hvo, ex0 _ hvr, ex1, own_id, lit_see, judge_known_see.j0, judge_known_see.j1, n_bind, n_map, getL_0, getL_1, getL_2, getL_3, getL_4, getL_5, getL_6, getL_7, getL_8, getL_9, getL_10, getL_11, getL_12, condV_t, condV_f, guardV_tt, guardV_ff, guardV_tf, guardV_ft, guardV_u, apick_t, apick_f, exV_exit, exV_ret, lookE_same, joinK_eq, seqA_n, seqA_e, seqA_r, e_add, e_sub, e_mul, e_eql, e_neq, e_lss, e_leq, e_gtr, e_geq, e_conv, e_not, e_neg, and_guard, or_guard, retV]
      rfl
  | false =>
    have hk2n : ¬ x.kind = 2 := by simpa using hk2
    rw [if_neg hk2n]
    have hk3 : (x.kind == 3) = true ∧ ((x.code == 1) = true ∨ ((x.code == 1) = false ∧ (x.code == 2) = true)) := by
      unfold goodS at hg
      rw [hk1, hk2] at hg
      cases c3 : (x.kind == 3) with
      | false => rw [c3] at hg; simp at hg
      | true =>
        rw [c3] at hg
        simp only [Bool.false_eq_true, if_false, if_true, Bool.and_eq_true, Bool.or_eq_true] at hg
        refine ⟨rfl, ?_⟩
        cases c1 : (x.code == 1) with
        | true => exact .inl rfl
        | false =>
          rw [c1] at hg
          exact .inr ⟨rfl, hg.2.resolve_left (by simp)⟩
    obtain ⟨hk3, hcd⟩ := hk3
    have ne_b : ∀ (o1 o2 : Operand) (a b : Bool), abin Try.prog .neq 4 o1 o2 (.bool a) (.bool b) = some (.bool (a != b)) := ne_bool
    cases hto : ((x.code == 1) != (lookR (x.client, x.req) K.res).isSome) with
    | true =>
      rw [if_pos rfl]
      refine ⟨t, judge_known_see_of rfl ?_, stay⟩
      unfold judge_known_see
      simp only [z0, ht, hk1, hk2, hk3, ne_b, hto, Bool.not_true, hN0, hN1, hN2, kn_ad, kn_nil, kn_ad0, lp_0, lp_3, lp_5, judge_check_call, hck, hbx, sn_all, sn_0, sn_1, sn_2, sn_3, sn_4, sn_5, rq_build, rq_st, rq_all, mp_look h.a, mp_look h.b, mp_look h.c, ho1, hr1, ht1, cond_true, cond_false, ex0 _ hvo, ex0 _ hvr, ex1, own_id, lit_see, judge_known_see.j0, judge_known_see.j1, n_bind, n_map, getL_0, getL_1, getL_2, getL_3, getL_4, getL_5, getL_6, getL_7, getL_8, getL_9, getL_10, getL_11, getL_12, condV_t, condV_f, guardV_tt, guardV_ff, guardV_tf, guardV_ft, guardV_u, apick_t, apick_f, exV_exit, exV_ret, lookE_same, joinK_eq, seqA_n, seqA_e, seqA_r, e_add, e_sub, e_mul, e_eql, e_neq, e_lss, e_leq, e_gtr, e_geq, e_conv, e_not, e_neg, and_guard, or_guard, retV]
      rfl
    | false =>
      rw [if_neg (by simp)]
      have hrl : ((lookR (x.client, x.req) K.res).getD []).length < 140737488355328 ∧ ∀ y ∈ (lookR (x.client, x.req) K.res).getD [], y.2.2.length < 140737488355328 := by
        cases e : lookR (x.client, x.req) K.res with
        | none => exact ⟨by simp, fun y hy => (by cases hy)⟩
        | some q =>
          obtain ⟨b1, b2⟩ := hk.res _ (lookR_mem e)
          simp only [Option.getD_some]
          exact ⟨by simp only at b1; omega, fun y hy => by have := b2 y hy; omega⟩
      have hsm := k_sameJ hr2 hrt hrl.1 hrl.2
      have hlen : alenV (.slice 82) r t = some (.int .i64 ((x.res.length : Nat) : Int)) := by
        obtain ⟨q, hq, hc, _⟩ := hrt
        rw [cells_alen hc, ← hq, List.length_map]
      have hgt : decide (((x.res.length : Nat) : Int) > 0) = decide (0 < x.res.length) := by
        by_cases c : 0 < x.res.length
        · rw [decide_eq_true c, decide_eq_true (by omega)]
        · rw [decide_eq_false c, decide_eq_false (by omega)]
      cases hf : formB x ((lookR (x.client, x.req) K.res).getD []) with
      | true =>
        rw [if_pos rfl]
        refine ⟨t, judge_known_see_of rfl ?_, stay⟩
        rcases hcd with c1 | ⟨c1, c2⟩
        · unfold formB at hf
          rw [c1, if_pos rfl] at hf
          rw [c1] at hto
          unfold judge_known_see
          simp only [z0, ht, hk1, hk2, hk3, c1, ne_b, hto, judge_same_call, hsm, hf, Bool.not_true, hN0, hN1, hN2, kn_ad, kn_nil, kn_ad0, lp_0, lp_3, lp_5, judge_check_call, hck, hbx, sn_all, sn_0, sn_1, sn_2, sn_3, sn_4, sn_5, rq_build, rq_st, rq_all, mp_look h.a, mp_look h.b, mp_look h.c, ho1, hr1, ht1, cond_true, cond_false, ex0 _ hvo, ex0 _ hvr, ex1, own_id, lit_see, judge_known_see.j0, judge_known_see.j1, n_bind, n_map, getL_0, getL_1, getL_2, getL_3, getL_4, getL_5, getL_6, getL_7, getL_8, getL_9, getL_10, getL_11, getL_12, condV_t, condV_f, guardV_tt, guardV_ff, guardV_tf, guardV_ft, guardV_u, apick_t, apick_f, exV_exit, exV_ret, lookE_same, joinK_eq, seqA_n, seqA_e, seqA_r, e_add, e_sub, e_mul, e_eql, e_neq, e_lss, e_leq, e_gtr, e_geq, e_conv, e_not, e_neg, and_guard, or_guard, retV]
          rfl
        · unfold formB at hf
          rw [c1, if_neg (by simp)] at hf
          rw [c1] at hto
          unfold judge_known_see
          simp only [z0, ht, hk1, hk2, hk3, c1, c2, ne_b, hto, hlen, hgt, hf, Bool.not_true, hN0, hN1, hN2, kn_ad, kn_nil, kn_ad0, lp_0, lp_3, lp_5, judge_check_call, hck, hbx, sn_all, sn_0, sn_1, sn_2, sn_3, sn_4, sn_5, rq_build, rq_st, rq_all, mp_look h.a, mp_look h.b, mp_look h.c, ho1, hr1, ht1, cond_true, cond_false, ex0 _ hvo, ex0 _ hvr, ex1, own_id, lit_see, judge_known_see.j0, judge_known_see.j1, n_bind, n_map, getL_0, getL_1, getL_2, getL_3, getL_4, getL_5, getL_6, getL_7, getL_8, getL_9, getL_10, getL_11, getL_12, condV_t, condV_f, guardV_tt, guardV_ff, guardV_tf, guardV_ft, guardV_u, apick_t, apick_f, exV_exit, exV_ret, lookE_same, joinK_eq, seqA_n, seqA_e, seqA_r, e_add, e_sub, e_mul, e_eql, e_neq, e_lss, e_leq, e_gtr, e_geq, e_conv, e_not, e_neg, and_guard, or_guard, retV]
          rfl
      | false =>
        rw [if_neg (by simp)]
        have hnt : lookR (x.client, x.req) K.told = none := none_of (by unfold twiceP at ht; rw [hk1, hk2, hk3] at ht; simpa using ht)
        have hup := mp_new h.c h.rc hnt (v := .bool true) rfl
        refine ⟨_, judge_known_see_of rfl ?_, h.addTold (r := (x.client, x.req))⟩
        rcases hcd with c1 | ⟨c1, c2⟩
        · unfold formB at hf
          rw [c1, if_pos rfl] at hf
          rw [c1] at hto
          have c2 : (x.code == 2) = false := by
            have : x.code = 1 := by simpa using c1
            rw [this]
            rfl
          unfold judge_known_see
          simp only [z0, ht, hk1, hk2, hk3, c1, c2, ne_b, hto, judge_same_call, hsm, hf, hup, own_ok (Nat.le_of_eq put_len.symm), Bool.not_true, hN0, hN1, hN2, kn_ad, kn_nil, kn_ad0, lp_0, lp_3, lp_5, judge_check_call, hck, hbx, sn_all, sn_0, sn_1, sn_2, sn_3, sn_4, sn_5, rq_build, rq_st, rq_all, mp_look h.a, mp_look h.b, mp_look h.c, ho1, hr1, ht1, cond_true, cond_false, ex0 _ hvo, ex0 _ hvr, ex1, own_id, lit_see, judge_known_see.j0, judge_known_see.j1, n_bind, n_map, getL_0, getL_1, getL_2, getL_3, getL_4, getL_5, getL_6, getL_7, getL_8, getL_9, getL_10, getL_11, getL_12, condV_t, condV_f, guardV_tt, guardV_ff, guardV_tf, guardV_ft, guardV_u, apick_t, apick_f, exV_exit, exV_ret, lookE_same, joinK_eq, seqA_n, seqA_e, seqA_r, e_add, e_sub, e_mul, e_eql, e_neq, e_lss, e_leq, e_gtr, e_geq, e_conv, e_not, e_neg, and_guard, or_guard, retV]
          rfl
        · unfold formB at hf
          rw [c1, if_neg (by simp)] at hf
          rw [c1] at hto
          unfold judge_known_see
          simp only [z0, ht, hk1, hk2, hk3, c1, c2, ne_b, hto, hlen, hgt, hf, hup, own_ok (Nat.le_of_eq put_len.symm), Bool.not_true, hN0, hN1, hN2, kn_ad, kn_nil, kn_ad0, lp_0, lp_3, lp_5, judge_check_call, hck, hbx, sn_all, sn_0, sn_1, sn_2, sn_3, sn_4, sn_5, rq_build, rq_st, rq_all, mp_look h.a, mp_look h.b, mp_look h.c, ho1, hr1, ht1, cond_true, cond_false, ex0 _ hvo, ex0 _ hvr, ex1, own_id, lit_see, judge_known_see.j0, judge_known_see.j1, n_bind, n_map, getL_0, getL_1, getL_2, getL_3, getL_4, getL_5, getL_6, getL_7, getL_8, getL_9, getL_10, getL_11, getL_12, condV_t, condV_f, guardV_tt, guardV_ff, guardV_tf, guardV_ft, guardV_u, apick_t, apick_f, exV_exit, exV_ret, lookE_same, joinK_eq, seqA_n, seqA_e, seqA_r, e_add, e_sub, e_mul, e_eql, e_neq, e_lss, e_leq, e_gtr, e_geq, e_conv, e_not, e_neg, and_guard, or_guard, retV]
          rfl

end Go.Proofs.Ytccindbiodofmaa.Ab

/- All that are seen, one after another; Judge and Replay. -/
namespace Go.Proofs.Ytccindbiodofmaa.Ab
open Go
set_option maxRecDepth 100000

def judgeP : List Sn → Nat → Kn → Int × Int × Kn
  | [], _, K => (-1, 0, K)
  | x :: l, i, K => if (seeP K x).1 = 0 then judgeP l (i + 1) (seeP K x).2 else ((i : Int), (seeP K x).1, (seeP K x).2)
abbrev pK (s : St) : Value := .pointer (some ⟨s.heap.length + 3, 0, none⟩)
def fresh4 (s : St) : St := (((s.push (.map [] 0)).push (.map [] 0)).push (.map [] 0)).push (.row 0 (kCells s.heap.length (.slice none 0 0)) .act)
theorem fresh_ks (s : St) : KS s (fresh4 s) Kn.nil [] [] [] 0 0 0 (.slice none 0 0) := by
  have e0 : (fresh4 s).heap = s.heap ++ [.map [] 0, .map [] 0, .map [] 0, .row 0 (kCells s.heap.length (.slice none 0 0)) .act] := by
    simp [fresh4, St.push]
  refine ⟨⟨by rw [e0]; simp, fun b hb => by rw [e0, List.getElem?_append_left hb]⟩, ?_, ?_, ?_, ?_, .inl ⟨rfl, rfl⟩, trivial, trivial, trivial, fun e he => (by cases he)⟩
  · rw [e0, List.getElem?_append_right (Nat.le_refl _), Nat.sub_self]; rfl
  · rw [e0, List.getElem?_append_right (by omega), show s.heap.length + 1 - s.heap.length = 1 by omega]; rfl
  · rw [e0, List.getElem?_append_right (by omega), show s.heap.length + 2 - s.heap.length = 2 by omega]; rfl
  · rw [e0, List.getElem?_append_right (by omega), show s.heap.length + 3 - s.heap.length = 3 by omega]; rfl
theorem none_run (s : St) : (run Try.prog (libL libT) hints) 18 [] s = some (pK s, fresh4 s) := by
  refine judge_none_of rfl ?_
  have hb : ∀ a b c : Nat, abuild Try.prog 61 [(0, .map (some a)), (1, .map (some b)), (2, .map (some c))] = some (.agg #[.map (some a), .map (some b), .map (some c), .slice none 0 0]) := fun a b c => by kernel_rfl
  have l1 : ∀ B : Blk, (s.push B).heap.length = s.heap.length + 1 := fun B => by simp [St.push]
  have l2 : ∀ B C : Blk, ((s.push B).push C).heap.length = s.heap.length + 2 := fun B C => by simp [St.push]
  have l3 : ∀ B C D : Blk, (((s.push B).push C).push D).heap.length = s.heap.length + 3 := fun B C D => by simp [St.push]
  have ha : ∀ a b c : Nat, (cellsV (.agg #[.map (some a), .map (some b), .map (some c), .slice none 0 0])).all isLeaf = true := fun a b c => rfl
  unfold judge_none
  simp only [amakeMap, l1, l2, hb, anew, ha, if_true, l3, n_bind, n_map, getL_0, getL_1, getL_2, getL_3, getL_4, getL_5, getL_6, getL_7, getL_8, getL_9, getL_10, getL_11, getL_12, condV_t, condV_f, guardV_tt, guardV_ff, guardV_tf, guardV_ft, guardV_u, apick_t, apick_f, exV_exit, exV_ret, lookE_same, joinK_eq, seqA_n, seqA_e, seqA_r, e_add, e_sub, e_mul, e_eql, e_neq, e_lss, e_leq, e_gtr, e_geq, e_conv, e_not, e_neg, and_guard, or_guard, retV]
  rfl
theorem begin_run {s0 t : St} {K : Kn} (h : KSt s0 t K) : ∃ t', (run Try.prog (libL libT) hints) 27 [pK s0] t = some (.tuple #[], t') ∧ KSt s0 t' Kn.nil := by
  obtain ⟨ea, eb, ec, ca, cb, cc, mv, h⟩ := h
  have hlt := (List.getElem?_eq_some_iff.1 h.k).1
  have a0 : aload false 1 (.pointer (some ⟨s0.heap.length + 3, 0, none⟩)) t = some (.map (some s0.heap.length)) := kn_ld h.k rfl
  have c0 : aclearM (.map (some s0.heap.length)) t = some (t.putB s0.heap.length (.map [] ca)) := by simp only [aclearM, h.a]
  generalize ht1 : t.putB s0.heap.length (.map [] ca) = t1 at c0
  have n1 : ∀ b, b ≠ s0.heap.length → t1.heap[b]? = t.heap[b]? := fun b hb => by rw [← ht1]; exact put_ne hb
  have a1 : aload false 1 (.pointer (some ⟨s0.heap.length + 3, 1, none⟩)) t1 = some (.map (some (s0.heap.length + 1))) := kn_ld (by rw [n1 _ (by omega)]; exact h.k) rfl
  have c1 : aclearM (.map (some (s0.heap.length + 1))) t1 = some (t1.putB (s0.heap.length + 1) (.map [] cb)) := by simp only [aclearM, n1 (s0.heap.length + 1) (by omega), h.b]
  generalize ht2 : t1.putB (s0.heap.length + 1) (.map [] cb) = t2 at c1
  have n2 : ∀ b, b ≠ s0.heap.length + 1 → t2.heap[b]? = t1.heap[b]? := fun b hb => by rw [← ht2]; exact put_ne hb
  have a2 : aload false 1 (.pointer (some ⟨s0.heap.length + 3, 2, none⟩)) t2 = some (.map (some (s0.heap.length + 2))) := kn_ld (by rw [n2 _ (by omega), n1 _ (by omega)]; exact h.k) rfl
  have c2 : aclearM (.map (some (s0.heap.length + 2))) t2 = some (t2.putB (s0.heap.length + 2) (.map [] cc)) := by simp only [aclearM, n2 (s0.heap.length + 2) (by omega), n1 (s0.heap.length + 2) (by omega), h.c]
  generalize ht3 : t2.putB (s0.heap.length + 2) (.map [] cc) = t3 at c2
  have n3 : ∀ b, b ≠ s0.heap.length + 2 → t3.heap[b]? = t2.heap[b]? := fun b hb => by rw [← ht3]; exact put_ne hb
  have g1 : t1.heap.length = t.heap.length := by rw [← ht1]; exact put_len
  have g2 : t2.heap.length = t.heap.length := by rw [← ht2, put_len]; exact g1
  have g3 : t3.heap.length = t.heap.length := by rw [← ht3, put_len]; exact g2
  have c3 : astore 1 (.pointer (some ⟨s0.heap.length + 3, 3, none⟩)) (.slice none 0 0) t3 = some (t3.putB (s0.heap.length + 3) (.row 0 (kCells s0.heap.length (.slice none 0 0)) .act)) := kn_st (mv := mv) (by rw [n3 _ (by omega), n2 _ (by omega), n1 _ (by omega)]; exact h.k) rfl rfl rfl
  refine ⟨t3.putB (s0.heap.length + 3) (.row 0 (kCells s0.heap.length (.slice none 0 0)) .act), judge_known_begin_of rfl ?_, [], [], [], ca, cb, cc, .slice none 0 0, ?_⟩
  · unfold judge_known_begin pK
    simp only [kn_nil, kn_ad0, kn_ad, a0, c0, a1, c1, a2, c2, c3, n_bind, n_map, getL_0, getL_1, getL_2, getL_3, getL_4, getL_5, getL_6, getL_7, getL_8, getL_9, getL_10, getL_11, getL_12, condV_t, condV_f, guardV_tt, guardV_ff, guardV_tf, guardV_ft, guardV_u, apick_t, apick_f, exV_exit, exV_ret, lookE_same, joinK_eq, seqA_n, seqA_e, seqA_r, e_add, e_sub, e_mul, e_eql, e_neq, e_lss, e_leq, e_gtr, e_geq, e_conv, e_not, e_neg, and_guard, or_guard, retV]
    rfl
  · refine ⟨?_, ?_, ?_, ?_, ?_, .inl ⟨rfl, rfl⟩, trivial, trivial, trivial, fun e he => (by cases he)⟩
    · refine Ext.put ?_ (by omega)
      rw [← ht3, ← ht2, ← ht1]
      exact ((h.ext.put (Nat.le_refl _)).put (by omega)).put (by omega)
    · rw [put_ne (by omega), n3 _ (by omega), n2 _ (by omega), ← ht1]; exact putB_get (by omega)
    · rw [put_ne (by omega), n3 _ (by omega), ← ht2]; exact putB_get (by omega)
    · rw [put_ne (by omega), ← ht3]; exact putB_get (by omega)
    · exact putB_get (by omega)
theorem judge_loop {s0 : St} {v : Value} {l : List Sn} (hv : SnL s0 v l) (hl : l.length ≤ 1759218604391) : ∀ (rest : List Sn) (i : Nat) (t : St) (K : Kn), l.drop i = rest → i ≤ l.length → KSt s0 t K → KOk K i →
    ∃ t', loopL (judge_known_judge.b0 (run Try.prog (libL libT) hints)) [pK s0, v, .int .i64 ((l.length : Nat) : Int), .int .i64 (i : Int)] t = (if (judgeP rest i K).2.1 = 0 then some (.exit 0, [], t') else some (.ret, [.int .i64 (judgeP rest i K).1, .int .i64 (judgeP rest i K).2.1], t')) ∧ KSt s0 t' (judgeP rest i K).2.2 := by
  intro rest
  induction rest with
  | nil =>
    intro i t K hi hle hs hk
    have hge := List.drop_eq_nil_iff.1 hi
    have h1 : decide ((i : Int) < ((l.length : Nat) : Int)) = false := by simp; omega
    refine ⟨t, ?_, hs⟩
    rw [loopL_eq]
    simp only [judge_known_judge.b0, h1, judgeP, if_true, n_bind, n_map, getL_0, getL_1, getL_2, getL_3, getL_4, getL_5, getL_6, getL_7, getL_8, getL_9, getL_10, getL_11, getL_12, condV_t, condV_f, guardV_tt, guardV_ff, guardV_tf, guardV_ft, guardV_u, apick_t, apick_f, exV_exit, exV_ret, lookE_same, joinK_eq, seqA_n, seqA_e, seqA_r, e_add, e_sub, e_mul, e_eql, e_neq, e_lss, e_leq, e_gtr, e_geq, e_conv, e_not, e_neg, and_guard, or_guard]
  | cons x rest ih =>
    intro i t K hi hle hs hk
    obtain ⟨hlt, he, hd⟩ := drop_get hi
    have h1 : decide ((i : Int) < ((l.length : Nat) : Int)) = true := by simp; omega
    obtain ⟨ea, eb, ec, ca, cb, cc, mv, hs⟩ := hs
    obtain ⟨p, o, r, a1, a2, _, a3, a4, a5⟩ := (hv.ext hs.ext).at hlt
    obtain ⟨_, _, _, b1, b2, _, b3, b4, b5⟩ := hv.at hlt
    rw [a1] at b1
    cases b1
    have hsame := hs.ext
    -- the same cells, before and now
    have heq : aload true 6 p t = aload true 6 p s0 := by
      obtain ⟨css, h3, h4⟩ := hv
      obtain ⟨q, i0, _, j0⟩ := cells_at h3 (by decide) (i := i) (by rw [(sn_flat h4).1]; exact Nat.mul_le_mul_right _ hlt) (k := .i64)
      obtain ⟨q', i0', _, j0'⟩ := cells_at (hs.ext.cells h3) (by decide) (i := i) (by rw [(sn_flat h4).1]; exact Nat.mul_le_mul_right _ hlt) (k := .i64)
      rw [a1] at i0 i0'
      cases i0
      cases i0'
      rw [j0, j0']
    rw [heq, b2, he] at a2
    rw [he] at b3 b4 b5
    cases a2
    obtain ⟨t1, g1, g2⟩ := see_run hs hk (by omega) b3 b5 b4
    have hk1 := hk.see (by omega) x
    have ha : aload true 6 p t = some (snV x o r) := by rw [heq, b2, he]
    by_cases c : (seeP K x).1 = 0
    · have e : judgeP (x :: rest) i K = judgeP rest (i + 1) (seeP K x).2 := by rw [judgeP, if_pos c]
      rw [e]
      obtain ⟨t2, k1, k2⟩ := ih (i + 1) t1 _ hd (by omega) g2 hk1
      refine ⟨t2, ?_, k2⟩
      have z0 : ((0 : Int) != 0) = false := rfl
      rw [loopL_eq]
      simp only [judge_known_judge.b0, h1, a1, ha, judge_known_see_call, g1, c, z0, inc_i64 (show i < 140737488355328 by omega), n_bind, n_map, getL_0, getL_1, getL_2, getL_3, getL_4, getL_5, getL_6, getL_7, getL_8, getL_9, getL_10, getL_11, getL_12, condV_t, condV_f, guardV_tt, guardV_ff, guardV_tf, guardV_ft, guardV_u, apick_t, apick_f, exV_exit, exV_ret, lookE_same, joinK_eq, seqA_n, seqA_e, seqA_r, e_add, e_sub, e_mul, e_eql, e_neq, e_lss, e_leq, e_gtr, e_geq, e_conv, e_not, e_neg, and_guard, or_guard]
      exact k1
    · have e : judgeP (x :: rest) i K = ((i : Int), (seeP K x).1, (seeP K x).2) := by rw [judgeP, if_neg c]
      rw [e]
      refine ⟨t1, ?_, g2⟩
      rw [if_neg c, loopL_eq]
      simp only [judge_known_judge.b0, h1, a1, ha, judge_known_see_call, g1, ne0 c, n_bind, n_map, getL_0, getL_1, getL_2, getL_3, getL_4, getL_5, getL_6, getL_7, getL_8, getL_9, getL_10, getL_11, getL_12, condV_t, condV_f, guardV_tt, guardV_ff, guardV_tf, guardV_ft, guardV_u, apick_t, apick_f, exV_exit, exV_ret, lookE_same, joinK_eq, seqA_n, seqA_e, seqA_r, e_add, e_sub, e_mul, e_eql, e_neq, e_lss, e_leq, e_gtr, e_geq, e_conv, e_not, e_neg, and_guard, or_guard]
theorem all_run2 {s0 t : St} {v : Value} {l : List Sn} {K : Kn} (hv : SnL s0 v l) (hl : l.length ≤ 1759218604391) (hs : KSt s0 t K) : ∃ t', (run Try.prog (libL libT) hints) 19 [pK s0, v] t = some (.tuple #[.int .i64 (judgeP l 0 Kn.nil).1, .int .i64 (judgeP l 0 Kn.nil).2.1], t') ∧ KSt s0 t' (judgeP l 0 Kn.nil).2.2 := by
  obtain ⟨t1, g1, g2⟩ := begin_run hs
  obtain ⟨t2, k1, k2⟩ := judge_loop hv hl l 0 t1 _ rfl (Nat.zero_le _) g2 KOk.nil
  rw [show ((0 : Nat) : Int) = 0 from rfl] at k1
  refine ⟨t2, judge_known_judge_of rfl ?_, k2⟩
  have hlen : ∀ e s2, alenV (.slice e) v s2 = some (.int .i64 ((l.length : Nat) : Int)) := fun e s2 => hv.len
  have hm1 : ∀ (l : List Sn) (i : Nat) (K : Kn), (judgeP l i K).2.1 = 0 → (judgeP l i K).1 = -1 := by
    intro l
    induction l with
    | nil => intro i K h; rfl
    | cons x l ih =>
      intro i K h
      unfold judgeP at h ⊢
      split at h
      · rename_i c; rw [if_pos c]; exact ih _ _ h
      · rename_i c; exact absurd h c
  by_cases c : (judgeP l 0 Kn.nil).2.1 = 0
  · rw [if_pos c] at k1
    rw [hm1 _ _ _ c, c]
    unfold judge_known_judge
    simp only [judge_known_begin_call, g1, hlen, k1, n_bind, n_map, getL_0, getL_1, getL_2, getL_3, getL_4, getL_5, getL_6, getL_7, getL_8, getL_9, getL_10, getL_11, getL_12, condV_t, condV_f, guardV_tt, guardV_ff, guardV_tf, guardV_ft, guardV_u, apick_t, apick_f, exV_exit, exV_ret, lookE_same, joinK_eq, seqA_n, seqA_e, seqA_r, e_add, e_sub, e_mul, e_eql, e_neq, e_lss, e_leq, e_gtr, e_geq, e_conv, e_not, e_neg, and_guard, or_guard, retV]
    rfl
  · rw [if_neg c] at k1
    unfold judge_known_judge
    simp only [judge_known_begin_call, g1, hlen, k1, n_bind, n_map, getL_0, getL_1, getL_2, getL_3, getL_4, getL_5, getL_6, getL_7, getL_8, getL_9, getL_10, getL_11, getL_12, condV_t, condV_f, guardV_tt, guardV_ff, guardV_tf, guardV_ft, guardV_u, apick_t, apick_f, exV_exit, exV_ret, lookE_same, joinK_eq, seqA_n, seqA_e, seqA_r, e_add, e_sub, e_mul, e_eql, e_neq, e_lss, e_leq, e_gtr, e_geq, e_conv, e_not, e_neg, and_guard, or_guard, retV]
    rfl
/-- what Judge says -/
def judP (l : List Sn) : Int × Int := ((judgeP l 0 Kn.nil).1, (judgeP l 0 Kn.nil).2.1)
def mapP (l : List Sn) : List Rg := (judgeP l 0 Kn.nil).2.2.m
theorem Judge_run {s : St} {v : Value} {l : List Sn} (hv : SnL s v l) (hl : l.length ≤ 1759218604391) : ∃ t, (run Try.prog (libL libT) hints) 9 [v] s = some (.tuple #[.int .i64 (judP l).1, .int .i64 (judP l).2], t) ∧ Ext s.heap.length s t := by
  obtain ⟨t1, g1, g2⟩ := all_run2 hv hl ⟨_, _, _, _, _, _, _, fresh_ks s⟩
  obtain ⟨_, _, _, _, _, _, _, g2⟩ := g2
  refine ⟨t1, judge_Judge_of rfl ?_, g2.ext⟩
  have x0 : ∀ a b : Int, aextract 0 (.tuple #[.int .i64 a, .int .i64 b]) = some (.int .i64 a) := fun a b => rfl
  have x1 : ∀ a b : Int, aextract 1 (.tuple #[.int .i64 a, .int .i64 b]) = some (.int .i64 b) := fun a b => rfl
  unfold judge_Judge
  simp only [judge_none_call, none_run, judge_known_judge_call, g1, x0, x1, n_bind, n_map, getL_0, getL_1, getL_2, getL_3, getL_4, getL_5, getL_6, getL_7, getL_8, getL_9, getL_10, getL_11, getL_12, condV_t, condV_f, guardV_tt, guardV_ff, guardV_tf, guardV_ft, guardV_u, apick_t, apick_f, exV_exit, exV_ret, lookE_same, joinK_eq, seqA_n, seqA_e, seqA_r, e_add, e_sub, e_mul, e_eql, e_neq, e_lss, e_leq, e_gtr, e_geq, e_conv, e_not, e_neg, and_guard, or_guard, retV]
  rfl
theorem Replay_run {s : St} {v : Value} {l : List Sn} (hv : SnL s v l) (hl : l.length ≤ 1759218604391) : ∃ m t, (run Try.prog (libL libT) hints) 11 [v] s = some (.tuple #[m, .int .i64 (judP l).2], t) ∧ Ext s.heap.length s t ∧ OwnC prC s.heap.length t m (if (judP l).2 = 0 then mapP l else []) := by
  obtain ⟨t1, g1, g2⟩ := all_run2 hv hl ⟨_, _, _, _, _, _, _, fresh_ks s⟩
  obtain ⟨_, _, _, _, _, _, mv, g2⟩ := g2
  have x0 : ∀ a b : Int, aextract 0 (.tuple #[.int .i64 a, .int .i64 b]) = some (.int .i64 a) := fun a b => rfl
  have x1 : ∀ a b : Int, aextract 1 (.tuple #[.int .i64 a, .int .i64 b]) = some (.int .i64 b) := fun a b => rfl
  by_cases c : (judgeP l 0 Kn.nil).2.1 = 0
  · have hm : aload false 1 (.pointer (some ⟨s.heap.length + 3, 3, none⟩)) t1 = some mv := kn_ld g2.k rfl
    have z0 : ((0 : Int) != 0) = false := rfl
    refine ⟨mv, t1, judge_Replay_of rfl ?_, g2.ext, ?_⟩
    · unfold judge_Replay judP
      simp only [judge_none_call, none_run, judge_known_judge_call, g1, x0, x1, c, z0, kn_nil, kn_ad, hm, n_bind, n_map, getL_0, getL_1, getL_2, getL_3, getL_4, getL_5, getL_6, getL_7, getL_8, getL_9, getL_10, getL_11, getL_12, condV_t, condV_f, guardV_tt, guardV_ff, guardV_tf, guardV_ft, guardV_u, apick_t, apick_f, exV_exit, exV_ret, lookE_same, joinK_eq, seqA_n, seqA_e, seqA_r, e_add, e_sub, e_mul, e_eql, e_neq, e_lss, e_leq, e_gtr, e_geq, e_conv, e_not, e_neg, and_guard, or_guard, retV, List.all_cons, g2.m.notup]
      rfl
    · rw [if_pos (show (judP l).2 = 0 from c)]
      exact g2.m.mono (by omega)
  · refine ⟨.slice none 0 0, t1, judge_Replay_of rfl ?_, g2.ext, ?_⟩
    · unfold judge_Replay judP
      simp only [judge_none_call, none_run, judge_known_judge_call, g1, x0, x1, ne0 c, n_bind, n_map, getL_0, getL_1, getL_2, getL_3, getL_4, getL_5, getL_6, getL_7, getL_8, getL_9, getL_10, getL_11, getL_12, condV_t, condV_f, guardV_tt, guardV_ff, guardV_tf, guardV_ft, guardV_u, apick_t, apick_f, exV_exit, exV_ret, lookE_same, joinK_eq, seqA_n, seqA_e, seqA_r, e_add, e_sub, e_mul, e_eql, e_neq, e_lss, e_leq, e_gtr, e_geq, e_conv, e_not, e_neg, and_guard, or_guard, retV]
      rfl
    · rw [if_neg (show ¬ (judP l).2 = 0 from c)]
      exact .inl ⟨rfl, rfl⟩

end Go.Proofs.Ytccindbiodofmaa.Ab

/- What is said of lists that are seen: beginnings. -/
namespace Go.Proofs.Ytccindbiodofmaa.Ab
open Go

theorem jp_ok : ∀ (l : List Sn) (i : Nat) (K : Kn), (judgeP l i K).2.1 = 0 → (judgeP l i K).1 = -1
  | [], i, K, h => rfl
  | x :: l, i, K, h => by
    unfold judgeP at h ⊢
    split at h
    · rename_i c; rw [if_pos c]; exact jp_ok _ _ _ h
    · rename_i c; exact absurd h c
theorem jp_take : ∀ (l : List Sn) (i c : Nat) (K : Kn), c ≤ l.length → ((judgeP l i K).2.1 = 0 ∨ ((i + c : Nat) : Int) ≤ (judgeP l i K).1) → (judgeP (l.take c) i K).2.1 = 0
  | [], i, c, K, hc, h => by
    have : c = 0 := by simpa using hc
    subst this
    rfl
  | x :: l, i, 0, K, hc, h => rfl
  | x :: l, i, c + 1, K, hc, h => by
    rw [List.take_succ_cons]
    unfold judgeP at h ⊢
    by_cases q : (seeP K x).1 = 0
    · rw [if_pos q] at h ⊢
      refine jp_take l (i + 1) c _ (by simpa using hc) ?_
      rcases h with h | h
      · exact .inl h
      · exact .inr (by omega)
    · rw [if_neg q] at h
      rcases h with h | h
      · exact absurd h q
      · simp only at h; omega
theorem jd_ok {l : List Sn} (h : (judP l).2 = 0) : (judP l).1 = -1 := jp_ok l 0 _ h
theorem jd_take {l : List Sn} {c : Nat} (hc : c ≤ l.length) (h : (judP l).2 = 0 ∨ (c : Int) ≤ (judP l).1) : judP (l.take c) = (-1, 0) := by
  have := jp_take l 0 c Kn.nil hc (by rw [Nat.zero_add]; exact h)
  exact Prod.ext (jp_ok _ _ _ this) this
/-! ### A beginning, in memory -/
theorem sn_take {s : St} : ∀ {l : List Sn} {css : List (List Value)} (c : Nat), All2 (SnRel s) l css → css.flatten.take (c * 6) = (css.take c).flatten ∧ All2 (SnRel s) (l.take c) (css.take c)
  | [], [], c, _ => by simp [All2]
  | a :: l, d :: css, 0, h => by simp [All2]
  | a :: l, d :: css, c + 1, ⟨h1, h2⟩ => by
    obtain ⟨g1, g2⟩ := sn_take c h2
    obtain ⟨o, r, rfl, _⟩ := id h1
    refine ⟨?_, h1, g2⟩
    rw [List.take_succ_cons, List.flatten_cons, List.flatten_cons, ← g1, Nat.add_mul, Nat.one_mul, Nat.add_comm, show 6 + c * 6 = (snCells a o r).length + c * 6 from rfl, List.take_length_add_append]
  | [], _ :: _, _, h => h.elim
  | _ :: _, [], _, h => h.elim
theorem SnL.take {s : St} {v : Value} {l : List Sn} (h : SnL s v l) {c : Nat} (hc : c ≤ l.length) : ∃ u, asliceV 6 v none (some (.int .i64 (c : Int))) none = some u ∧ SnL s u (l.take c) := by
  obtain ⟨css, h1, h2⟩ := h
  obtain ⟨a, len, cap, rfl, h3⟩ := cellsOf_len h1
  rw [(sn_flat h2).1] at h3
  have hl : len = l.length := by omega
  obtain ⟨u, e1, e2⟩ := cells_slice h1 (lo := none) (hi := some (.int .i64 (c : Int))) (mx := none) (i := 0) (j := c) rfl (by simp [abound]) (Nat.zero_le _) (by omega) (.inl rfl)
  obtain ⟨g1, g2⟩ := sn_take c h2
  refine ⟨u, e1, css.take c, ?_, g2⟩
  rw [e2, Nat.zero_mul, List.drop_zero, Nat.sub_zero, g1]

end Go.Proofs.Ytccindbiodofmaa.Ab

/- What is said of what is newly asked. -/
namespace Go.Proofs.Ytccindbiodofmaa.Ab
open Go

theorem jp_app : ∀ (l m : List Sn) (i : Nat) (K : Kn), (judgeP l i K).2.1 = 0 → judgeP (l ++ m) i K = judgeP m (i + l.length) (judgeP l i K).2.2
  | [], m, i, K, _ => by simp [judgeP]
  | x :: l, m, i, K, h => by
    rw [List.cons_append]
    unfold judgeP at h ⊢
    split at h
    · rename_i c
      rw [if_pos c, jp_app l m (i + 1) _ h, List.length_cons, show i + 1 + l.length = i + (l.length + 1) by omega]
      conv => rhs; rw [judgeP.eq_def]
      conv => lhs; rw [judgeP.eq_def]
      simp only [if_pos c]
    · rename_i c; exact absurd h c
theorem look_app {A : Type} {r q : Rq} {a : A} : ∀ {l : List (Rq × A)}, lookR r (l ++ [(q, a)]) = (lookR r l).or (if q = r then some a else none)
  | [] => by
    show (if q = r then some a else none) = _
    rfl
  | p :: l => by
    rw [List.cons_append, lookR, lookR]
    split
    · rfl
    · exact look_app
theorem look_ne {A : Type} {r q : Rq} {a : A} {l : List (Rq × A)} (h : q ≠ r) : lookR r (l ++ [(q, a)]) = lookR r l := by
  rw [look_app, if_neg h, Option.or_none]
end Go.Proofs.Ytccindbiodofmaa.Ab

/- What was asked alone may be taken out. -/
namespace Go.Proofs.Ytccindbiodofmaa.Ab
open Go

abbrev rqOf (x : Sn) : Rq := (x.client, x.req)
structure Less (P : Rq → Bool) (K K' : Kn) : Prop where
  ops : K'.ops = K.ops.filter fun p => !P p.1
  res : K'.res = K.res
  told : K'.told = K.told
  m : K'.m = K.m
theorem jp_kok : ∀ (l : List Sn) (i : Nat) (K : Kn), KOk K i → i + l.length ≤ 1759218604391 → KOk (judgeP l i K).2.2 (i + l.length)
  | [], i, K, h, _ => h
  | x :: l, i, K, h, hl => by
    rw [List.length_cons] at hl ⊢
    have h1 := h.see (by omega) x
    unfold judgeP
    split
    · have := jp_kok l (i + 1) _ h1 (by omega)
      rw [show i + (l.length + 1) = i + 1 + l.length by omega]
      exact this
    · exact ⟨h1.val, h1.ops, h1.res, h1.nd, h1.sub, h1.len, Nat.le_trans h1.cnt (by omega)⟩
end Go.Proofs.Ytccindbiodofmaa.Ab

/- What the laws say of operations on a map: plain. -/
namespace Go.Proofs.Ytccindbiodofmaa.Ab
open Go

/-! ### What is found -/
/-! ### One operation, key by key -/
/-- they do not touch each other -/
def apart (a b : OpT) : Prop := ∀ x, (hasR (spR a) x && hasR (spR b) x) = false
/-! ### One after another -/
end Go.Proofs.Ytccindbiodofmaa.Ab

/- Two that are decided side by side. -/
namespace Go.Proofs.Ytccindbiodofmaa.Ab
open Go

/-! ### Lists of operations that do not touch each other -/
/-! ### The same is known -/
structure KSim (K K' : Kn) : Prop where
  ops : K'.ops = K.ops
  told : K'.told = K.told
  m : K'.m = K.m
  res : ∀ r, lookR r K'.res = lookR r K.res
/-! ### What was asked -/
theorem see_keeps {K : Kn} {x : Sn} {r : Rq} {o : List OpT} (h : lookR r K.ops = some o) : lookR r (seeP K x).2.ops = some o := by
  unfold seeP
  split
  · exact h
  · split
    · exact h
    · split
      · show lookR r (K.ops ++ _) = _
        rw [look_app, h]
        rfl
      · split
        · exact h
        · split
          · split <;> exact h
          · split
            · exact h
            · split <;> exact h
theorem judge_keeps {r : Rq} {o : List OpT} : ∀ {l : List Sn} {i : Nat} {K : Kn}, lookR r K.ops = some o → lookR r (judgeP l i K).2.2.ops = some o
  | [], i, K, h => h
  | x :: l, i, K, h => by
    unfold judgeP
    split
    · exact judge_keeps (see_keeps h)
    · exact see_keeps h
theorem dec_see {K : Kn} {x : Sn} (hk : x.kind = 2) (h : (seeP K x).1 = 0) : goodS x = true ∧ lookR (rqOf x) K.res = none ∧ lookR (rqOf x) K.told = none ∧ ∃ l, lookR (rqOf x) K.ops = some l ∧ (seeP K x).2 = { K with m := apM K.m l, res := K.res ++ [(rqOf x, apR K.m l)] } := by
  have k1 : ¬ x.kind = 1 := by rw [hk]; decide
  unfold seeP at h ⊢
  split at h
  · cases h
  rename_i c1
  split at h
  · cases h
  rename_i c2
  have hn : lookR (rqOf x) K.res = none := none_of (by
    unfold twiceP at c2
    rw [hk] at c2
    simpa using c2)
  rw [if_neg c1, if_neg c2, if_neg k1]
  cases hl : lookR (x.client, x.req) K.ops with
  | none => rw [hl] at h; cases h
  | some l =>
    rw [hl] at h
    simp only [if_pos hk]
    simp only at h
    split at h
    · cases h
    · rename_i c3
      rw [if_neg c3]
      exact ⟨by simpa using c1, hn, none_of (by simpa using c3), l, rfl, rfl⟩
end Go.Proofs.Ytccindbiodofmaa.Ab

/- What is seen, as the document says it: the first of a kind ahead of a place. -/
namespace Go.Proofs.Ytccindbiodofmaa.Ab
open Go

/-- the place of the first one of a kind of a request -/
def befF (k : Int) (r : Rq) : List Sn → Option Nat
  | [] => none
  | y :: t => if y.kind = k ∧ rqOf y = r then some 0 else (befF k r t).map (· + 1)
theorem bef_lt {k : Int} {r : Rq} : ∀ {l : List Sn} {j : Nat}, befF k r l = some j → j < l.length
  | [], j, h => by cases h
  | y :: t, j, h => by
    unfold befF at h
    split at h
    · cases h; simp
    · cases hq : befF k r t with
      | none => rw [hq] at h; cases h
      | some q =>
        rw [hq] at h
        cases h
        have := bef_lt hq
        simp only [List.length_cons]
        omega
/-- what the last one that was decided told -/
def runR : List Sn → Kn → List Rs → List Rs
  | [], _, r => r
  | x :: l, K, r => runR l (seeP K x).2 (if x.kind = 2 then apR K.m ((lookR (rqOf x) K.ops).getD []) else r)
/-- one that may be: what is known of a request behind it -/
theorem see_okA {K : Kn} {x : Sn} {r : Rq} (h : (seeP K x).1 = 0) : lookR r (seeP K x).2.ops = (if x.kind = 1 ∧ rqOf x = r then some x.ops else lookR r K.ops) ∧ (x.kind = 1 ∧ rqOf x = r → lookR r K.ops = none) := by
  by_cases c : x.kind = 1 ∧ rqOf x = r
  · rw [if_pos c]
    obtain ⟨c3, c4⟩ := c
    subst c4
    unfold seeP at h ⊢
    split at h
    · cases h
    rename_i c1
    rw [if_neg c1]
    split at h
    · cases h
    rename_i c2
    rw [if_neg c2, if_pos c3]
    have hn : lookR (rqOf x) K.ops = none := none_of (by
      unfold twiceP at c2
      rw [c3] at c2
      simpa using c2)
    refine ⟨?_, fun _ => hn⟩
    show lookR (rqOf x) (K.ops ++ [(rqOf x, x.ops)]) = _
    rw [look_app, hn, if_pos rfl]
    rfl
  · rw [if_neg c]
    refine ⟨?_, fun q => absurd q c⟩
    unfold seeP
    split
    · rfl
    split
    · rfl
    split
    · rename_i c3
      exact look_ne fun e => c ⟨c3, e⟩
    split
    · rfl
    split
    · split <;> rfl
    · split
      · rfl
      · split <;> rfl
theorem see_okB {K : Kn} {x : Sn} {r : Rq} (h : (seeP K x).1 = 0) : lookR r (seeP K x).2.res = (if x.kind = 2 ∧ rqOf x = r then some (apR K.m ((lookR r K.ops).getD [])) else lookR r K.res) := by
  by_cases c : x.kind = 2 ∧ rqOf x = r
  · rw [if_pos c]
    obtain ⟨c3, c4⟩ := c
    subst c4
    obtain ⟨_, b2, _, l, b4, b5⟩ := dec_see c3 h
    rw [b5, b4]
    show lookR (rqOf x) (K.res ++ _) = _
    rw [look_app, b2, if_pos rfl]
    rfl
  · rw [if_neg c]
    unfold seeP
    split
    · rfl
    split
    · rfl
    split
    · rfl
    split
    · rfl
    split
    · rename_i c3
      split
      · rfl
      · exact look_ne fun e => c ⟨c3, e⟩
    · split
      · rfl
      · split <;> rfl
theorem see_okC {K : Kn} {x : Sn} {r : Rq} (h : (seeP K x).1 = 0) : lookR r (seeP K x).2.told = (if x.kind = 3 ∧ rqOf x = r then some () else lookR r K.told) := by
  have hu : ∀ q : Option Unit, q = some () ∨ q = none := fun q => by cases q with
    | none => exact .inr rfl
    | some a => exact .inl rfl
  by_cases c1 : x.kind = 1
  · have c : ¬ (x.kind = 3 ∧ rqOf x = r) := fun q => by rw [c1] at q; exact absurd q.1 (by decide)
    rw [if_neg c]
    unfold seeP
    split
    · rfl
    split
    · rfl
    rfl
  by_cases c2 : x.kind = 2
  · have c : ¬ (x.kind = 3 ∧ rqOf x = r) := fun q => by rw [c2] at q; exact absurd q.1 (by decide)
    obtain ⟨_, _, _, l, _, b5⟩ := dec_see c2 h
    rw [if_neg c, b5]
  unfold seeP at h ⊢
  split at h
  · cases h
  rename_i g1
  rw [if_neg g1]
  have c3 : x.kind = 3 := by
    have g2 : goodS x = true := by simpa using g1
    unfold goodS at g2
    have e1 : (x.kind == 1) = false := by simpa using c1
    have e2 : (x.kind == 2) = false := by simpa using c2
    rw [e1, e2] at g2
    by_cases c3 : x.kind = 3
    · exact c3
    · have e3 : (x.kind == 3) = false := by simpa using c3
      rw [e3] at g2
      simp at g2
  split at h
  · cases h
  rename_i g3
  rw [if_neg g3, if_neg c1]
  cases hl : lookR (x.client, x.req) K.ops with
  | none =>
    rw [hl] at h
    exact absurd h (show ¬ (5 : Int) = 0 by decide)
  | some l =>
    simp only [if_neg c2]
    rw [hl] at h
    simp only at h
    split at h
    · cases h
    rename_i g4
    rw [if_neg g4]
    split at h
    · cases h
    rename_i g5
    rw [if_neg g5]
    show lookR r (K.told ++ [((x.client, x.req), ())]) = _
    rw [look_app]
    by_cases c4 : rqOf x = r
    · rw [if_pos (c := (x.client, x.req) = r) c4, if_pos (c := x.kind = 3 ∧ rqOf x = r) ⟨c3, c4⟩]
      rcases hu (lookR r K.told) with e | e <;> rw [e] <;> rfl
    · rw [if_neg (c := (x.client, x.req) = r) c4, if_neg (c := x.kind = 3 ∧ rqOf x = r) (fun q => c4 q.2), Option.or_none]
theorem bef_ops {r : Rq} : ∀ {m : List Sn} {i : Nat} {K : Kn}, (judgeP m i K).2.1 = 0 → match befF 1 r m with
    | none => lookR r (judgeP m i K).2.2.ops = lookR r K.ops
    | some j => ∃ h : j < m.length, lookR r (judgeP m i K).2.2.ops = some m[j].ops
  | [], i, K, _ => rfl
  | x :: m, i, K, h => by
    unfold judgeP at h
    split at h
    case isFalse c => exact absurd h c
    rename_i c
    have e : judgeP (x :: m) i K = judgeP m (i + 1) (seeP K x).2 := by rw [judgeP, if_pos c]
    rw [e, befF]
    obtain ⟨a1, a2⟩ := see_okA (r := r) c
    by_cases q : x.kind = 1 ∧ rqOf x = r
    · rw [if_pos q]
      rw [if_pos q] at a1
      exact ⟨by simp, judge_keeps a1⟩
    · rw [if_neg q]
      rw [if_neg q] at a1
      have ih := bef_ops (r := r) h
      cases hb : befF 1 r m with
      | none => rw [hb] at ih; exact ih.trans a1
      | some j =>
        rw [hb] at ih
        obtain ⟨g1, g2⟩ := ih
        exact ⟨by simp only [List.length_cons]; omega, g2⟩
theorem keepsB {r : Rq} {o : List Rs} : ∀ {l : List Sn} {i : Nat} {K : Kn}, (judgeP l i K).2.1 = 0 → lookR r K.res = some o → lookR r (judgeP l i K).2.2.res = some o
  | [], i, K, _, h => h
  | x :: l, i, K, h0, h => by
    unfold judgeP at h0
    split at h0
    case isFalse c => exact absurd h0 c
    rename_i c
    have e : judgeP (x :: l) i K = judgeP l (i + 1) (seeP K x).2 := by rw [judgeP, if_pos c]
    rw [e]
    refine keepsB h0 ?_
    rw [see_okB c, if_neg]
    · exact h
    · rintro ⟨q1, q2⟩
      obtain ⟨_, b2, _⟩ := dec_see q1 c
      rw [q2, h] at b2
      cases b2
theorem keepsC {r : Rq} : ∀ {l : List Sn} {i : Nat} {K : Kn}, (judgeP l i K).2.1 = 0 → lookR r K.told = some () → lookR r (judgeP l i K).2.2.told = some ()
  | [], i, K, _, h => h
  | x :: l, i, K, h0, h => by
    unfold judgeP at h0
    split at h0
    case isFalse c => exact absurd h0 c
    rename_i c
    have e : judgeP (x :: l) i K = judgeP l (i + 1) (seeP K x).2 := by rw [judgeP, if_pos c]
    rw [e]
    refine keepsC h0 ?_
    rw [see_okC c]
    split
    · rfl
    · exact h
theorem bef_res {r : Rq} : ∀ {m : List Sn} {i : Nat} {K : Kn}, (judgeP m i K).2.1 = 0 → match befF 2 r m with
    | none => lookR r (judgeP m i K).2.2.res = lookR r K.res
    | some d => ∀ r0, lookR r (judgeP m i K).2.2.res = some (runR (m.take (d + 1)) K r0)
  | [], i, K, _ => rfl
  | x :: m, i, K, h => by
    unfold judgeP at h
    split at h
    case isFalse c => exact absurd h c
    rename_i c
    have e : judgeP (x :: m) i K = judgeP m (i + 1) (seeP K x).2 := by rw [judgeP, if_pos c]
    rw [e, befF]
    have a1 := see_okB (r := r) c
    by_cases q : x.kind = 2 ∧ rqOf x = r
    · rw [if_pos q]
      rw [if_pos q] at a1
      intro r0
      rw [keepsB h a1]
      obtain ⟨q1, q2⟩ := q
      rw [List.take_succ_cons, List.take_zero, runR, runR, if_pos q1, q2]
    · rw [if_neg q]
      rw [if_neg q] at a1
      have ih := bef_res (r := r) h
      cases hb : befF 2 r m with
      | none => rw [hb] at ih; exact ih.trans a1
      | some d =>
        rw [hb] at ih
        intro r0
        rw [ih (if x.kind = 2 then apR K.m ((lookR (rqOf x) K.ops).getD []) else r0)]
        rw [List.take_succ_cons, runR]
theorem bef_told {r : Rq} : ∀ {m : List Sn} {i : Nat} {K : Kn}, (judgeP m i K).2.1 = 0 → match befF 3 r m with
    | none => lookR r (judgeP m i K).2.2.told = lookR r K.told
    | some _ => lookR r (judgeP m i K).2.2.told = some ()
  | [], i, K, _ => rfl
  | x :: m, i, K, h => by
    unfold judgeP at h
    split at h
    case isFalse c => exact absurd h c
    rename_i c
    have e : judgeP (x :: m) i K = judgeP m (i + 1) (seeP K x).2 := by rw [judgeP, if_pos c]
    rw [e, befF]
    have a1 := see_okC (r := r) c
    by_cases q : x.kind = 3 ∧ rqOf x = r
    · rw [if_pos q]
      rw [if_pos q] at a1
      exact keepsC h a1
    · rw [if_neg q]
      rw [if_neg q] at a1
      have ih := bef_told (r := r) h
      cases hb : befF 3 r m with
      | none => rw [hb] at ih; exact ih.trans a1
      | some d => rw [hb] at ih; exact ih
/-- what a beginning knows -/
theorem known_at {m : List Sn} (r : Rq) (h : (judgeP m 0 Kn.nil).2.1 = 0) :
    ((befF 1 r m).isSome = (lookR r (judgeP m 0 Kn.nil).2.2.ops).isSome ∧ ∀ j, befF 1 r m = some j → ∃ hj : j < m.length, lookR r (judgeP m 0 Kn.nil).2.2.ops = some m[j].ops) ∧
    ((befF 2 r m).isSome = (lookR r (judgeP m 0 Kn.nil).2.2.res).isSome ∧ ∀ d, befF 2 r m = some d → lookR r (judgeP m 0 Kn.nil).2.2.res = some (runR (m.take (d + 1)) Kn.nil [])) ∧
    (befF 3 r m).isSome = (lookR r (judgeP m 0 Kn.nil).2.2.told).isSome := by
  refine ⟨?_, ?_, ?_⟩
  · have := bef_ops (r := r) h
    cases hb : befF 1 r m with
    | none => rw [hb] at this; exact ⟨by rw [this]; rfl, fun j hj => (by cases hj)⟩
    | some j =>
      rw [hb] at this
      obtain ⟨g1, g2⟩ := this
      exact ⟨by rw [g2]; rfl, fun j' hj => by cases hj; exact ⟨g1, g2⟩⟩
  · have := bef_res (r := r) h
    cases hb : befF 2 r m with
    | none => rw [hb] at this; exact ⟨by rw [this]; rfl, fun j hj => (by cases hj)⟩
    | some d =>
      rw [hb] at this
      exact ⟨by rw [this []]; rfl, fun d' hd => by cases hd; exact this []⟩
  · have := bef_told (r := r) h
    cases hb : befF 3 r m with
    | none => rw [hb] at this; rw [this]; rfl
    | some j => rw [hb] at this; rw [this]; rfl

end Go.Proofs.Ytccindbiodofmaa.Ab

/- Lists of one's own of what is seen. -/
namespace Go.Proofs.Ytccindbiodofmaa.Ab
open Go
set_option maxRecDepth 100000

theorem all2_app {α β : Type} {R : α → β → Prop} : ∀ {a c : List α} {b d : List β}, All2 R a b → All2 R c d → All2 R (a ++ c) (b ++ d)
  | [], _, [], _, _, h => h
  | _ :: _, _, _ :: _, _, ⟨h1, h2⟩, h => ⟨h1, all2_app h2 h⟩
  | [], _, _ :: _, _, h, _ => h.elim
  | _ :: _, _, [], _, h, _ => h.elim
/-- a row of one's own; what they hold lies below -/
def SnOwn (s0 s : St) (v : Value) (l : List Sn) : Prop := Ext s0.heap.length s0 s ∧ ∃ css, Own s0.heap.length 6 s v css.flatten ∧ All2 (SnRel s0) l css
theorem SnOwn.list {s0 s : St} {v : Value} {l : List Sn} (h : SnOwn s0 s v l) : SnL s v l := by
  obtain ⟨hx, css, h1, h2⟩ := h
  exact ⟨css, h1.cells, h2.mono fun a c h => h.ext hx⟩
theorem SnOwn.nil {s0 s : St} (h : Ext s0.heap.length s0 s) : SnOwn s0 s (.slice none 0 0) [] := ⟨h, [], Own.nil _ _ _, trivial⟩
theorem SnOwn.ext {s0 s t : St} {v : Value} {l : List Sn} (h : SnOwn s0 s v l) (hx : Ext s.heap.length s t) : SnOwn s0 t v l := by
  obtain ⟨h0, css, h1, h2⟩ := h
  exact ⟨h0.trans (hx.less h0.1), css, h1.keep (hx.keep (B := none)) fun c hc e => (by cases e), h2⟩
theorem SnOwn.notup {s0 s : St} {v : Value} {l : List Sn} (h : SnOwn s0 s v l) : noTup v = true := by
  obtain ⟨_, css, h1, _⟩ := h
  exact h1.notup
/-- the cells of a list, to be appended -/
theorem sn_elems {s0 s : St} {v : Value} {css : List (List Value)} {l : List Sn} (h1 : cellsOf 6 v s = some css.flatten) (h2 : All2 (SnRel s0) l css) : lenV v = some l.length ∧ elemsOf 6 v s = some css.flatten ∧ css.flatten.length = l.length * 6 := by
  obtain ⟨g1, _⟩ := sn_flat h2
  obtain ⟨a, len, cap, rfl, h3⟩ := cellsOf_len h1
  rw [g1] at h3
  have : len = l.length := by omega
  subst this
  exact ⟨rfl, elems_of h1, g1⟩
theorem SnOwn.more {s0 s : St} {x y : Value} {l m : List Sn} (h : SnOwn s0 s x l) {css : List (List Value)} (h1 : cellsOf 6 y s = some css.flatten) (h2 : All2 (SnRel s0) m css) (hb : l.length + m.length ≤ 1000) : ∃ v t, aappend 6 80 x y s = some (v, t) ∧ SnOwn s0 t v (l ++ m) := by
  obtain ⟨h0, ds, g1, g2⟩ := h
  obtain ⟨e1, e2, e3⟩ := sn_elems h1 h2
  have e4 := (sn_flat g2).1
  obtain ⟨v, t, k1, k2, k3⟩ := own_append (w := 80) g1 h0.1 (by decide) (by decide) e1 e2 e3 (by rw [e3, e4]; omega)
  exact ⟨v, t, k1, h0.trans k3, ds ++ css, by rw [List.flatten_append]; exact k2, all2_app g2 h2⟩
abbrev zSn : List Value := [(.int .i64 0), (.int .i64 0), (.int .u64 0), (.int .i64 0), (.slice none 0 0), (.slice none 0 0)]
theorem sn_leafs {x : Sn} {o r : Value} (ho : isLeaf o = true) (hr : isLeaf r = true) : (cellsV (snV x o r)).all isLeaf = true := by
  rw [show cellsV (snV x o r) = [.int .i64 x.kind, .int .i64 x.client, .int .u64 x.req, .int .i64 x.code, o, r] from rfl]
  simp only [List.all_cons, ho, hr, List.all_nil, Bool.and_true]
  rfl
theorem SnOwn.add {s0 s : St} {v : Value} {l : List Sn} (h : SnOwn s0 s v l) {x : Sn} {o r : Value} (hr : SnRel s0 x (snCells x o r)) (hb : l.length ≤ 1000) : ∃ q, abuildSl 6 zSn 1 [(0, snV x o r)] s = some q ∧ ∃ v' t, aappend 6 80 v q.1 q.2 = some (v', t) ∧ SnOwn s0 t v' (l ++ [x]) := by
  obtain ⟨h0, ds, g1, g2⟩ := h
  have e4 := (sn_flat g2).1
  obtain ⟨o', r', e, q1, q2, q3⟩ := id hr
  cases e
  obtain ⟨q, a1, v', t, a2, a3, a4⟩ := own_add (w := 80) (z := zSn) (v := snV x o r) g1 h0.1 (by decide) (by decide) (by decide) rfl rfl rfl (sn_leafs (ops_leaf q1) (rdy_leaf q2)) (by rw [e4]; omega)
  refine ⟨q, a1, v', t, a2, h0.trans a4, ds ++ [snCells x o r], ?_, all2_app g2 ⟨hr, trivial⟩⟩
  rw [List.flatten_append]
  show Own _ _ _ _ (ds.flatten ++ (snCells x o r ++ []))
  rw [List.append_nil]
  exact a3
theorem SnOwn.len {s0 s s2 : St} {v : Value} {l : List Sn} (h : SnOwn s0 s v l) {e : TypeId} : alenV (.slice e) v s2 = some (.int .i64 ((l.length : Nat) : Int)) := h.list.len
/-- the last one's code is written -/
theorem SnOwn.code {s0 s : St} {v : Value} {l : List Sn} {x : Sn} (h : SnOwn s0 s v (l ++ [x])) (c : Int) (hlen : l.length < 1000) : ∃ p q t, aindexS 6 v (.int .i64 ((l.length : Nat) : Int)) = some p ∧ afieldAddr 3 p = some q ∧ astore 1 q (.int .i64 c) s = some t ∧ SnOwn s0 t v (l ++ [{ x with code := c }]) := by
  obtain ⟨h0, css, g1, g2⟩ := h
  have key : ∀ {l : List Sn} {css : List (List Value)}, All2 (SnRel s0) (l ++ [x]) css → ∃ ds o r, css = ds ++ [snCells x o r] ∧ All2 (SnRel s0) l ds ∧ SnRel s0 x (snCells x o r) := by
    intro l
    induction l with
    | nil => intro css h; cases css with
      | nil => exact h.elim
      | cons d css => cases css with
        | nil =>
          obtain ⟨h1, _⟩ := h
          obtain ⟨o, r, rfl, q⟩ := id h1
          exact ⟨[], o, r, rfl, trivial, h1⟩
        | cons => exact h.2.elim
    | cons a l ih => intro css h; cases css with
      | nil => exact h.elim
      | cons d css =>
        obtain ⟨ds, o, r, e, k1, k2⟩ := ih h.2
        exact ⟨d :: ds, o, r, by rw [e]; rfl, ⟨h.1, k1⟩, k2⟩
  obtain ⟨ds, o, r, rfl, k1, k2⟩ := key g2
  have e4 := (sn_flat k1).1
  have hfl : (ds ++ [snCells x o r]).flatten = ds.flatten ++ snCells x o r := by rw [List.flatten_append]; show _ ++ (_ ++ []) = _; rw [List.append_nil]
  rw [hfl] at g1
  rcases g1 with ⟨_, e⟩ | ⟨b, len, rfl, n1, n2, n3, n4⟩
  · exact absurd e (by simp [snCells])
  · have hl : len = l.length + 1 := by
      rw [List.length_append, e4] at n3
      have : (snCells x o r).length = 6 := rfl
      omega
    subst hl
    have hput : putCells (ds.flatten ++ snCells x o r) (l.length * 6 + 3) [.int .i64 c] = ds.flatten ++ snCells { x with code := c } o r := by
      rw [← e4]
      generalize ds.flatten = A
      unfold putCells
      rw [List.take_length_add_append, Nat.add_assoc, List.drop_length_add_append]
      simp [snCells]
    have hx : Ext s0.heap.length s0 (s.putB b (.row 6 (ds.flatten ++ snCells { x with code := c } o r) .act)) := h0.put n1
    refine ⟨.pointer (some ⟨b, l.length * 6, none⟩), .pointer (some ⟨b, l.length * 6 + 3, none⟩), s.putB b (.row 6 (ds.flatten ++ snCells { x with code := c } o r) .act), by simp [aindexS]; omega, by simp [afieldAddr], ?_, hx, ds ++ [snCells { x with code := c } o r], ?_, all2_app k1 ⟨?_, trivial⟩⟩
    · unfold astore
      have hc : cellsV (.int .i64 c) = [.int .i64 c] := rfl
      simp only [hc, writeN, n2, hput]
      have hle : l.length * 6 + 3 + [(Value.int .i64 c)].length ≤ (ds.flatten ++ snCells x o r).length := by rw [n3]; simp; omega
      rw [if_pos hle]
      rfl
    · rw [List.flatten_append]
      show Own _ _ _ _ (_ ++ (_ ++ []))
      rw [List.append_nil]
      exact .inr ⟨b, l.length + 1, rfl, n1, putB_get (List.getElem?_eq_some_iff.1 n2).1, by rw [List.length_append, e4]; show _ + 6 = _; omega, by omega⟩
    · obtain ⟨o', r', e, q⟩ := k2
      cases e
      exact ⟨_, _, rfl, q⟩

end Go.Proofs.Ytccindbiodofmaa.Ab

/- The laws of what is seen: JudgeBegins. -/
namespace Go.Proofs.Ytccindbiodofmaa.Ab
open Go
set_option maxRecDepth 100000

theorem y2i_0 (a b : Int) : aextract 0 (.tuple #[.int .i64 a, .int .i64 b]) = some (.int .i64 a) := rfl
theorem y2i_1 (a b : Int) : aextract 1 (.tuple #[.int .i64 a, .int .i64 b]) = some (.int .i64 b) := rfl

end Go.Proofs.Ytccindbiodofmaa.Ab

/- The laws of what is seen: JudgeMore. -/
namespace Go.Proofs.Ytccindbiodofmaa.Ab
open Go
set_option maxRecDepth 100000

theorem sn_st {x : Sn} {o r : Value} (ho : isLeaf o = true) (hr : isLeaf r = true) : lstore 6 lptr (snV x o r) (.agg #[(.int .i64 0), (.int .i64 0), (.int .u64 0), (.int .i64 0), (.slice none 0 0), (.slice none 0 0)]) = some (snV x o r) := by
  have h2 : ([.int .i64 x.kind, .int .i64 x.client, .int .u64 x.req, .int .i64 x.code, o, r] : List Value).all isLeaf = true := by
    simp only [List.all_cons, ho, hr, List.all_nil, Bool.and_true]
    rfl
  unfold lstore lptr
  simp only
  rw [if_pos ⟨rfl, h2, Nat.le_of_ble_eq_true rfl⟩]
  rfl
end Go.Proofs.Ytccindbiodofmaa.Ab

/- The laws of what is seen: JudgeForgets. -/
namespace Go.Proofs.Ytccindbiodofmaa.Ab
open Go
set_option maxRecDepth 100000

/-- an element, loaded later -/
theorem SnL.at2 {s t : St} {v : Value} {l : List Sn} (h : SnL s v l) (hx : Ext s.heap.length s t) {i : Nat} (hi : i < l.length) : ∃ p o r, aindexS 6 v (.int .i64 (i : Int)) = some p ∧ aload true 6 p t = some (snV l[i] o r) ∧ aload true 6 p (frzS t) = some (snV l[i] o r) ∧ SnRel s l[i] (snCells l[i] o r) := by
  obtain ⟨css, h1, h2⟩ := h
  obtain ⟨g1, g2⟩ := sn_flat h2
  obtain ⟨o, r, e1, e2, e3, e4⟩ := g2 i hi
  have h1' := hx.cells h1
  obtain ⟨q, i0, _, j0⟩ := cells_at h1' (by decide) (i := i) (by rw [g1]; exact Nat.mul_le_mul_right _ hi) (k := .i64)
  obtain ⟨q', i0', _, j0'⟩ := cells_at (s := frzS t) (by rw [cellsOf_frz]; exact h1') (by decide) (i := i) (by rw [g1]; exact Nat.mul_le_mul_right _ hi) (k := .i64)
  rw [i0] at i0'
  cases i0'
  rw [e1] at j0 j0'
  exact ⟨q, o, r, i0, j0, j0', o, r, rfl, e2, e3, e4⟩
theorem y2m_0 {a : Value} {b : Int} (h : isTup a = false) : aextract 0 (.tuple #[a, .int .i64 b]) = some a := by simp [aextract, h]
theorem y2m_1 {a : Value} {b : Int} : aextract 1 (.tuple #[a, .int .i64 b]) = some (.int .i64 b) := Eq.trans rfl (Eq.refl _)
end Go.Proofs.Ytccindbiodofmaa.Ab

/- What is seen, as the document says it: the walks of before, replay. -/
namespace Go.Proofs.Ytccindbiodofmaa.Ab
open Go
set_option maxRecDepth 100000

theorem SnL.fld {s : St} {v : Value} {l : List Sn} (h : SnL s v l) {i : Nat} (hi : i < l.length) : ∃ p q0 q1 q2 q4 o, aindexS 6 v (.int .i64 (i : Int)) = some p ∧ afieldAddr 0 p = some q0 ∧ aload false 1 q0 s = some (.int .i64 l[i].kind) ∧ afieldAddr 1 p = some q1 ∧ aload false 1 q1 (frzS s) = some (.int .i64 l[i].client) ∧ afieldAddr 2 p = some q2 ∧ aload false 1 q2 (frzS s) = some (.int .u64 l[i].req) ∧ afieldAddr 4 p = some q4 ∧ aload false 1 q4 s = some o ∧ listOf opC o s = some l[i].ops ∧ l[i].ops.length < 140737488355328 := by
  obtain ⟨css, h1, h2⟩ := h
  obtain ⟨g1, g2⟩ := sn_flat h2
  obtain ⟨o, r, e1, e2, _, e4⟩ := g2 i hi
  have hle : i * 6 + 6 ≤ css.flatten.length := by rw [g1]; omega
  have hc : ∀ j, j < 6 → css.flatten[i * 6 + j]? = (snCells l[i] o r)[j]? := fun j hj => by
    rw [← e1, List.getElem?_take_of_lt hj, List.getElem?_drop]
  have h1f : cellsOf 6 v (frzS s) = some css.flatten := by rw [cellsOf_frz]; exact h1
  obtain ⟨p, a0, q0, b0, c0⟩ := cells_field h1 (j := 0) (by decide) hle (hc 0 (by decide)) (k := .i64)
  obtain ⟨p', a1, q1, b1, c1⟩ := cells_field h1f (j := 1) (by decide) hle (hc 1 (by decide)) (k := .i64)
  obtain ⟨p'', a2, q2, b2, c2⟩ := cells_field h1f (j := 2) (by decide) hle (hc 2 (by decide)) (k := .i64)
  obtain ⟨p4, a4, q4, b4, c4⟩ := cells_field h1 (j := 4) (by decide) hle (hc 4 (by decide)) (k := .i64)
  rw [a0] at a1 a2 a4
  cases a1; cases a2; cases a4
  exact ⟨p, q0, q1, q2, q4, o, a0, b0, c0, b1, c1, b2, c2, b4, c4, e2, e4⟩
def befI : Option Nat → Int
  | some i => (i : Int)
  | none => -1
theorem bf_loop {v : Value} {s : St} {l : List Sn} (h : SnL s v l) {n : Nat} (hn : n < l.length) (hl : l.length < 140737488355328) {k : Int} : ∀ (rest : List Sn) (i : Nat), (l.take n).drop i = rest → i ≤ n →
    loopL (ref23_before.b0 (run Try.prog (libL libT) hints)) [v, .int .i64 (n : Int), .int .i64 k, .int .i64 (i : Int)] s = some (match befF k (rqOf l[n]) rest with | some j => (.ret, [.int .i64 ((i + j : Nat) : Int)], s) | none => (.exit 0, [], s)) := by
  intro rest
  have hlen : (l.take n).length = n := by rw [List.length_take]; omega
  obtain ⟨p', _, y1, y2, _, _, d0, _, _, d3, d4, d5, d6, _⟩ := h.fld hn
  induction rest with
  | nil =>
    intro i hi hle
    have hge := List.drop_eq_nil_iff.1 hi
    have h1 : decide ((i : Int) < (n : Int)) = false := by simp; omega
    rw [loopL_eq]
    simp only [ref23_before.b0, h1, befF, n_bind, n_map, getL_0, getL_1, getL_2, getL_3, getL_4, getL_5, getL_6, getL_7, getL_8, getL_9, getL_10, getL_11, getL_12, condV_t, condV_f, guardV_tt, guardV_ff, guardV_tf, guardV_ft, guardV_u, apick_t, apick_f, exV_exit, exV_ret, lookE_same, joinK_eq, seqA_n, seqA_e, seqA_r, e_add, e_sub, e_mul, e_eql, e_neq, e_lss, e_leq, e_gtr, e_geq, e_conv, e_not, e_neg, and_guard, or_guard]
  | cons x rest ih =>
    intro i hi hle
    obtain ⟨hlt, he, hd⟩ := drop_get hi
    have hlt2 : i < n := by omega
    have h1 : decide ((i : Int) < (n : Int)) = true := by simp; omega
    have hx : l[i]'(by omega) = x := by rw [← he, List.getElem_take]
    obtain ⟨p, q0, q1, q2, _, _, a0, a1, a2, a3, a4, a5, a6, _⟩ := h.fld (i := i) (by omega)
    rw [hx] at a2 a4 a6
    have key := ih (i + 1) hd (by omega)
    have hinc := inc_i64 (show i < 140737488355328 by omega)
    rw [loopL_eq, befF]
    have hfin : ∀ c : ¬ (x.kind = k ∧ rqOf x = rqOf l[n]), (some (match befF k (rqOf l[n]) rest with | some j => (Ex.ret, [Value.int .i64 ((i + 1 + j : Nat) : Int)], s) | none => (Ex.exit 0, [], s)) : Res) = some (match (if x.kind = k ∧ rqOf x = rqOf l[n] then some 0 else (befF k (rqOf l[n]) rest).map (· + 1)) with | some j => (.ret, [.int .i64 ((i + j : Nat) : Int)], s) | none => (.exit 0, [], s)) := fun c => by
      rw [if_neg c]
      cases befF k (rqOf l[n]) rest with
      | none => rfl
      | some j => simp only [Option.map_some]; rw [show i + 1 + j = i + (j + 1) by omega]
    cases c0 : (x.kind == k) with
    | false =>
      have c : ¬ (x.kind = k ∧ rqOf x = rqOf l[n]) := fun q => by rw [q.1] at c0; simp at c0
      rw [← hfin c]
      simp only [ref23_before.b0, h1, a0, a1, a2, own_id, c0, hinc, n_bind, n_map, getL_0, getL_1, getL_2, getL_3, getL_4, getL_5, getL_6, getL_7, getL_8, getL_9, getL_10, getL_11, getL_12, condV_t, condV_f, guardV_tt, guardV_ff, guardV_tf, guardV_ft, guardV_u, apick_t, apick_f, exV_exit, exV_ret, lookE_same, joinK_eq, seqA_n, seqA_e, seqA_r, e_add, e_sub, e_mul, e_eql, e_neq, e_lss, e_leq, e_gtr, e_geq, e_conv, e_not, e_neg, and_guard, or_guard]
      exact key
    | true =>
      cases c1 : (x.client == l[n].client) with
      | false =>
        have c : ¬ (x.kind = k ∧ rqOf x = rqOf l[n]) := fun q => by
          have := congrArg Prod.fst q.2
          simp only at this
          rw [this] at c1
          simp at c1
        rw [← hfin c]
        simp only [ref23_before.b0, h1, a0, a1, a2, a3, a4, d0, d3, d4, own_id, c0, c1, hinc, n_bind, n_map, getL_0, getL_1, getL_2, getL_3, getL_4, getL_5, getL_6, getL_7, getL_8, getL_9, getL_10, getL_11, getL_12, condV_t, condV_f, guardV_tt, guardV_ff, guardV_tf, guardV_ft, guardV_u, apick_t, apick_f, exV_exit, exV_ret, lookE_same, joinK_eq, seqA_n, seqA_e, seqA_r, e_add, e_sub, e_mul, e_eql, e_neq, e_lss, e_leq, e_gtr, e_geq, e_conv, e_not, e_neg, and_guard, or_guard]
        exact key
      | true =>
        cases c2 : (x.req == l[n].req) with
        | false =>
          have c : ¬ (x.kind = k ∧ rqOf x = rqOf l[n]) := fun q => by
            have := congrArg Prod.snd q.2
            simp only at this
            rw [this] at c2
            simp at c2
          rw [← hfin c]
          simp only [ref23_before.b0, h1, a0, a1, a2, a3, a4, a5, a6, d0, d3, d4, d5, d6, own_id, c0, c1, c2, hinc, n_bind, n_map, getL_0, getL_1, getL_2, getL_3, getL_4, getL_5, getL_6, getL_7, getL_8, getL_9, getL_10, getL_11, getL_12, condV_t, condV_f, guardV_tt, guardV_ff, guardV_tf, guardV_ft, guardV_u, apick_t, apick_f, exV_exit, exV_ret, lookE_same, joinK_eq, seqA_n, seqA_e, seqA_r, e_add, e_sub, e_mul, e_eql, e_neq, e_lss, e_leq, e_gtr, e_geq, e_conv, e_not, e_neg, and_guard, or_guard]
          exact key
        | true =>
          have c : x.kind = k ∧ rqOf x = rqOf l[n] := ⟨by simpa using c0, Prod.ext (by simpa using c1) (by simpa using c2)⟩
          rw [if_pos c]
          simp only [ref23_before.b0, h1, a0, a1, a2, a3, a4, a5, a6, d0, d3, d4, d5, d6, own_id, c0, c1, c2, hinc, n_bind, n_map, getL_0, getL_1, getL_2, getL_3, getL_4, getL_5, getL_6, getL_7, getL_8, getL_9, getL_10, getL_11, getL_12, condV_t, condV_f, guardV_tt, guardV_ff, guardV_tf, guardV_ft, guardV_u, apick_t, apick_f, exV_exit, exV_ret, lookE_same, joinK_eq, seqA_n, seqA_e, seqA_r, e_add, e_sub, e_mul, e_eql, e_neq, e_lss, e_leq, e_gtr, e_geq, e_conv, e_not, e_neg, and_guard, or_guard]
          rfl
theorem k_before {v : Value} {s : St} {l : List Sn} (h : SnL s v l) {n : Nat} (hn : n < l.length) (hl : l.length < 140737488355328) (k : Int) : (run Try.prog (libL libT) hints) 29 [v, .int .i64 (n : Int), .int .i64 k] s = some (.int .i64 (befI (befF k (rqOf l[n]) (l.take n))), s) := by
  refine ref23_before_of rfl ?_
  have hloop := bf_loop h hn hl (k := k) (l.take n) 0 rfl (Nat.zero_le _)
  rw [show ((0 : Nat) : Int) = 0 from rfl] at hloop
  unfold ref23_before
  cases hb : befF k (rqOf l[n]) (l.take n) with
  | none =>
    rw [hb] at hloop
    simp only [hloop, n_bind, n_map, getL_0, getL_1, getL_2, getL_3, getL_4, getL_5, getL_6, getL_7, getL_8, getL_9, getL_10, getL_11, getL_12, condV_t, condV_f, guardV_tt, guardV_ff, guardV_tf, guardV_ft, guardV_u, apick_t, apick_f, exV_exit, exV_ret, lookE_same, joinK_eq, seqA_n, seqA_e, seqA_r, e_add, e_sub, e_mul, e_eql, e_neq, e_lss, e_leq, e_gtr, e_geq, e_conv, e_not, e_neg, and_guard, or_guard, retV]
    rfl
  | some j =>
    rw [hb] at hloop
    simp only [hloop, n_bind, n_map, getL_0, getL_1, getL_2, getL_3, getL_4, getL_5, getL_6, getL_7, getL_8, getL_9, getL_10, getL_11, getL_12, condV_t, condV_f, guardV_tt, guardV_ff, guardV_tf, guardV_ft, guardV_u, apick_t, apick_f, exV_exit, exV_ret, lookE_same, joinK_eq, seqA_n, seqA_e, seqA_r, e_add, e_sub, e_mul, e_eql, e_neq, e_lss, e_leq, e_gtr, e_geq, e_conv, e_not, e_neg, and_guard, or_guard, retV, Nat.zero_add]
    rfl

/-! ### The beginnings, one after another -/
theorem take_step {l : List Sn} {i : Nat} (hi : i < l.length) {K : Kn} (h : judgeP (l.take i) 0 Kn.nil = (-1, 0, K)) : judgeP (l.take (i + 1)) 0 Kn.nil = (if (seeP K l[i]).1 = 0 then (-1, 0, (seeP K l[i]).2) else ((i : Int), (seeP K l[i]).1, (seeP K l[i]).2)) := by
  have e : l.take (i + 1) = l.take i ++ [l[i]] := by rw [List.take_add_one, List.getElem?_eq_getElem hi]; rfl
  rw [e, jp_app _ _ _ _ (by rw [h]), h]
  have hlen : 0 + (l.take i).length = i := by rw [List.length_take]; omega
  rw [hlen, judgeP]
  rfl
theorem see_m {K : Kn} {x : Sn} (h : ¬ x.kind = 2) : (seeP K x).2.m = K.m := by
  unfold seeP
  split
  · rfl
  split
  · rfl
  split
  · rfl
  split
  · rfl
  split
  · rfl
  · split <;> rfl
theorem rp_loop {v : Value} {s : St} {l : List Sn} (h : SnL s v l) (hl : l.length ≤ 100) (hok : (judgeP l 0 Kn.nil).2.1 = 0) : ∀ (rest : List Sn) (i : Nat) (t : St) (mv rv : Value) (K : Kn) (r : List Rs), l.drop i = rest → i ≤ l.length → Ext s.heap.length s t → judgeP (l.take i) 0 Kn.nil = (-1, 0, K) → listOf prC mv t = some K.m → RdyL t rv r →
    ∃ mv' rv' t', loopL (ref23_replay.b0 (run Try.prog (libL libT) hints)) [v, mv, rv, v, .int .i64 ((l.length : Nat) : Int), .int .i64 (i : Int)] t = some (.exit 0, [mv', rv'], t') ∧ Ext s.heap.length s t' ∧ listOf prC mv' t' = some (judgeP l 0 Kn.nil).2.2.m ∧ RdyL t' rv' (runR rest K r) := by
  intro rest
  induction rest with
  | nil =>
    intro i t mv rv K r hi hle hx hK hm hr
    have hge := List.drop_eq_nil_iff.1 hi
    have h1 : decide ((i : Int) < ((l.length : Nat) : Int)) = false := by simp; omega
    rw [List.take_of_length_le hge] at hK
    refine ⟨mv, rv, t, ?_, hx, by rw [hK]; exact hm, hr⟩
    rw [loopL_eq]
    simp only [ref23_replay.b0, h1, n_bind, n_map, getL_0, getL_1, getL_2, getL_3, getL_4, getL_5, getL_6, getL_7, getL_8, getL_9, getL_10, getL_11, getL_12, condV_t, condV_f, guardV_tt, guardV_ff, guardV_tf, guardV_ft, guardV_u, apick_t, apick_f, exV_exit, exV_ret, lookE_same, joinK_eq, seqA_n, seqA_e, seqA_r, e_add, e_sub, e_mul, e_eql, e_neq, e_lss, e_leq, e_gtr, e_geq, e_conv, e_not, e_neg, and_guard, or_guard]
  | cons x rest ih =>
    intro i t mv rv K r hi hle hx hK hm hr
    obtain ⟨hlt, he, hd⟩ := drop_get hi
    have h1 : decide ((i : Int) < ((l.length : Nat) : Int)) = true := by simp; omega
    obtain ⟨p, o, r', a1, a2, _, a3⟩ := h.at2 hx hlt
    rw [he] at a2 a3
    obtain ⟨_, _, e, a4, a5, _⟩ := id a3
    cases e
    have hinc := inc_i64 (show i < 140737488355328 by omega)
    have hst := take_step hlt hK
    rw [he] at hst
    have hs0 : (seeP K x).1 = 0 := by
      have h0 := jd_take (l := l) (c := i + 1) (by omega) (.inl hok)
      have h0 : (judgeP (l.take (i + 1)) 0 Kn.nil).2.1 = 0 := congrArg Prod.snd h0
      rw [hst] at h0
      by_cases c : (seeP K x).1 = 0
      · exact c
      · rw [if_neg c] at h0; exact h0
    rw [if_pos hs0] at hst
    cases ck : (x.kind != 2) with
    | true =>
      have ck' : ¬ x.kind = 2 := by simpa using ck
      obtain ⟨mv', rv', t', k1, k2⟩ := ih (i + 1) t mv rv (seeP K x).2 r hd (by omega) hx hst (by rw [see_m ck']; exact hm) hr
      refine ⟨mv', rv', t', ?_, by rw [runR, if_neg ck']; exact k2⟩
      rw [loopL_eq]
      simp only [ref23_replay.b0, ref23_replay.j0, h1, a1, a2, sn_st (ops_leaf a4) (rdy_leaf a5), sn_0, ck, hinc, n_bind, n_map, getL_0, getL_1, getL_2, getL_3, getL_4, getL_5, getL_6, getL_7, getL_8, getL_9, getL_10, getL_11, getL_12, condV_t, condV_f, guardV_tt, guardV_ff, guardV_tf, guardV_ft, guardV_u, apick_t, apick_f, exV_exit, exV_ret, lookE_same, joinK_eq, seqA_n, seqA_e, seqA_r, e_add, e_sub, e_mul, e_eql, e_neq, e_lss, e_leq, e_gtr, e_geq, e_conv, e_not, e_neg, and_guard, or_guard]
      exact k1
    | false =>
      have ck' : x.kind = 2 := by simpa using ck
      obtain ⟨_, _, _, lx, b4, b5⟩ := dec_see ck' hs0
      have hK0 : (judgeP (l.take i) 0 Kn.nil).2.1 = 0 := by rw [hK]
      obtain ⟨⟨f1, f2⟩, _⟩ := known_at (rqOf x) hK0
      rw [hK] at f1 f2
      simp only at f1 f2
      rw [b4] at f1 f2
      obtain ⟨j, hj⟩ := Option.isSome_iff_exists.1 (f1.trans rfl)
      obtain ⟨hjl, hjo⟩ := f2 j hj
      rw [List.length_take] at hjl
      have hjo : (l[j]'(by omega)).ops = lx := by
        have := Option.some.inj hjo
        rw [List.getElem_take] at this
        exact this.symm
      have hbef := k_before (h.ext hx) hlt (by omega) 1
      rw [he, hj] at hbef
      have hbef : (run Try.prog (libL libT) hints) 29 [v, .int .i64 (i : Int), .int .i64 1] t = some (.int .i64 (j : Int), t) := hbef
      obtain ⟨pj, _, _, _, q4, oj, c0, _, _, _, _, _, _, c7, c8, c9, _⟩ := (h.ext hx).fld (i := j) (by omega)
      rw [hjo] at c9
      have hkk := jp_kok (l.take i) 0 Kn.nil KOk.nil (by rw [List.length_take]; omega)
      rw [hK] at hkk
      have hkk : KOk K (0 + (l.take i).length) := hkk
      obtain ⟨v1, v2⟩ := hkk.ops _ (lookR_mem b4)
      simp only at v1 v2
      have hroom := hkk.len
      have hcnt := hkk.cnt
      rw [List.length_take] at hcnt
      have hap := k_ref (L := libT) (refA rfl) rfl hm c9 (by omega) (by omega)
      rw [if_pos (apE_join hkk.val v1)] at hap
      obtain ⟨a, rr, t1, g1, g2, g3, g4⟩ := hap
      obtain ⟨mv', rv', t', k1, k2⟩ := ih (i + 1) t1 a rr (seeP K x).2 (apR K.m lx) hd (by omega) (hx.trans (g4.less hx.1)) hst (by rw [b5]; exact own_list (C := prC) g2) g3.toL
      refine ⟨mv', rv', t', ?_, by rw [runR, if_pos ck', b4]; exact k2⟩
      rw [loopL_eq]
      simp only [ref23_replay.b0, ref23_replay.j0, h1, a1, a2, sn_st (ops_leaf a4) (rdy_leaf a5), sn_0, ck, ref23_before_call, hbef, c0, c7, c8, ref04_Apply_call, g1, y3_0 (Own.istup g2), y3_1 g3.istup, y3_2, hinc, n_bind, n_map, getL_0, getL_1, getL_2, getL_3, getL_4, getL_5, getL_6, getL_7, getL_8, getL_9, getL_10, getL_11, getL_12, condV_t, condV_f, guardV_tt, guardV_ff, guardV_tf, guardV_ft, guardV_u, apick_t, apick_f, exV_exit, exV_ret, lookE_same, joinK_eq, seqA_n, seqA_e, seqA_r, e_add, e_sub, e_mul, e_eql, e_neq, e_lss, e_leq, e_gtr, e_geq, e_conv, e_not, e_neg, and_guard, or_guard]
      exact k1
theorem k_replay {v : Value} {s : St} {l : List Sn} (h : SnL s v l) (hl : l.length ≤ 100) (hok : (judgeP l 0 Kn.nil).2.1 = 0) : ∃ mv rv t, (run Try.prog (libL libT) hints) 21 [v] s = some (.tuple #[mv, rv], t) ∧ Ext s.heap.length s t ∧ listOf prC mv t = some (judgeP l 0 Kn.nil).2.2.m ∧ RdyL t rv (runR l Kn.nil []) := by
  obtain ⟨mv, rv, t, k1, k2, k3, k4⟩ := rp_loop h hl hok l 0 s (.slice none 0 0) (.slice none 0 0) Kn.nil [] rfl (Nat.zero_le _) (.refl _ _) rfl (list_nil s) ⟨[], rfl, rfl, fun x hx => (by cases hx)⟩
  rw [show ((0 : Nat) : Int) = 0 from rfl] at k1
  have hlen : ∀ e s2, alenV (.slice e) v s2 = some (.int .i64 ((l.length : Nat) : Int)) := fun e s2 => h.len
  refine ⟨mv, rv, t, ref23_replay_of rfl ?_, k2, k3, k4⟩
  obtain ⟨a, cap, rfl⟩ := list_shape k3
  have hrv : noTup rv = true := by
    obtain ⟨q, _, hq, _⟩ := k4
    obtain ⟨_, _, _, rfl, _⟩ := cellsOf_len hq
    rfl
  unfold ref23_replay
  simp only [hlen, k1, n_bind, n_map, getL_0, getL_1, getL_2, getL_3, getL_4, getL_5, getL_6, getL_7, getL_8, getL_9, getL_10, getL_11, getL_12, condV_t, condV_f, guardV_tt, guardV_ff, guardV_tf, guardV_ft, guardV_u, apick_t, apick_f, exV_exit, exV_ret, lookE_same, joinK_eq, seqA_n, seqA_e, seqA_r, e_add, e_sub, e_mul, e_eql, e_neq, e_lss, e_leq, e_gtr, e_geq, e_conv, e_not, e_neg, and_guard, or_guard, retV, List.all_cons, hrv]
  rfl

end Go.Proofs.Ytccindbiodofmaa.Ab

/- What is seen, as the document says it: the walks of wrong, Judge, Replay. -/
namespace Go.Proofs.Ytccindbiodofmaa.Ab
open Go
set_option maxRecDepth 100000

theorem bi_ge (a : Option Nat) : decide (befI a ≥ 0) = a.isSome := by
  cases a with
  | none => rfl
  | some j => simp [befI]
theorem bi_lt (a : Option Nat) : decide (befI a < 0) = !a.isSome := by
  cases a with
  | none => rfl
  | some j =>
    show decide ((j : Int) < 0) = false
    exact decide_eq_false (by omega)
section
variable {v : Value} {s : St} {x : Sn} {o r : Value}
/-- the latter half -/
theorem wr_run {a d t : Option Nat} {K : Kn} (h1 : a.isSome = (lookR (rqOf x) K.ops).isSome) (h2 : d.isSome = (lookR (rqOf x) K.res).isSome) (h3 : t.isSome = (lookR (rqOf x) K.told).isSome) (hr : RdyL s r x.res)
    (hres : ∀ j, d = some j → ∃ u mv rv s', asliceV 6 v none (some (.int .i64 ((j + 1 : Nat) : Int))) none = some u ∧ (run Try.prog (libL libT) hints) 21 [u] s = some (.tuple #[mv, rv], s') ∧ isTup mv = false ∧ isTup rv = false ∧ Ext s.heap.length s s' ∧ (run Try.prog (libL libT) hints) 30 [rv, r] s' = some (.bool (decide ((lookR (rqOf x) K.res).getD [] = x.res)), s') ∧ j < 100) :
    ∃ s', ref23_wrong.j1 (run Try.prog (libL libT) hints) [v, lptr, .int .i64 (befI a), .int .i64 (befI d), .int .i64 (befI t), .bool (goodS x), .bool (twiceP x.kind a.isSome d.isSome t.isSome), snV x o r] s = some (.int .i64 (seeP K x).1, s') ∧ Ext s.heap.length s s' := by
  have h1' : (lookR (x.client, x.req) K.ops).isSome = a.isSome := h1.symm
  have h2' : (lookR (x.client, x.req) K.res).isSome = d.isSome := h2.symm
  have h3' : (lookR (x.client, x.req) K.told).isSome = t.isSome := h3.symm
  cases hg : goodS x with
  | false =>
    have e : seeP K x = (1, K) := by unfold seeP; rw [if_pos hg]
    refine ⟨s, ?_, .refl _ _⟩
    rw [e]
    simp only [ref23_wrong.j1, n_bind, n_map, getL_0, getL_1, getL_2, getL_3, getL_4, getL_5, getL_6, getL_7, getL_8, getL_9, getL_10, getL_11, getL_12, condV_t, condV_f, guardV_tt, guardV_ff, guardV_tf, guardV_ft, guardV_u, apick_t, apick_f, exV_exit, exV_ret, lookE_same, joinK_eq, seqA_n, seqA_e, seqA_r, e_add, e_sub, e_mul, e_eql, e_neq, e_lss, e_leq, e_gtr, e_geq, e_conv, e_not, e_neg, and_guard, or_guard, Bool.not_false, retV]
    rfl
  | true =>
  have hgn : ¬ goodS x = false := by rw [hg]; simp
  cases ht : twiceP x.kind a.isSome d.isSome t.isSome with
  | true =>
    have e : seeP K x = (6, K) := by unfold seeP; rw [if_neg hgn, h1', h2', h3', if_pos ht]
    refine ⟨s, ?_, .refl _ _⟩
    rw [e]
    simp only [ref23_wrong.j1, n_bind, n_map, getL_0, getL_1, getL_2, getL_3, getL_4, getL_5, getL_6, getL_7, getL_8, getL_9, getL_10, getL_11, getL_12, condV_t, condV_f, guardV_tt, guardV_ff, guardV_tf, guardV_ft, guardV_u, apick_t, apick_f, exV_exit, exV_ret, lookE_same, joinK_eq, seqA_n, seqA_e, seqA_r, e_add, e_sub, e_mul, e_eql, e_neq, e_lss, e_leq, e_gtr, e_geq, e_conv, e_not, e_neg, and_guard, or_guard, Bool.not_true, retV]
    rfl
  | false =>
  have htn : ¬ twiceP x.kind a.isSome d.isSome t.isSome = true := by rw [ht]; simp
  cases hk1 : (x.kind == 1) with
  | true =>
    have hk1' : x.kind = 1 := by simpa using hk1
    have e : (seeP K x).1 = 0 := by unfold seeP; rw [if_neg hgn, h1', h2', h3', if_neg htn, if_pos hk1']
    refine ⟨s, ?_, .refl _ _⟩
    rw [e]
    simp only [ref23_wrong.j1, lp_0, sn_0, hk1, n_bind, n_map, getL_0, getL_1, getL_2, getL_3, getL_4, getL_5, getL_6, getL_7, getL_8, getL_9, getL_10, getL_11, getL_12, condV_t, condV_f, guardV_tt, guardV_ff, guardV_tf, guardV_ft, guardV_u, apick_t, apick_f, exV_exit, exV_ret, lookE_same, joinK_eq, seqA_n, seqA_e, seqA_r, e_add, e_sub, e_mul, e_eql, e_neq, e_lss, e_leq, e_gtr, e_geq, e_conv, e_not, e_neg, and_guard, or_guard, Bool.not_true, retV]
    rfl
  | false =>
  have hk1n : ¬ x.kind = 1 := by simpa using hk1
  cases hlo : lookR (x.client, x.req) K.ops with
  | none =>
    have e : (seeP K x).1 = 5 := by unfold seeP; rw [if_neg hgn, h1', h2', h3', if_neg htn, if_neg hk1n, hlo]
    have ha : a.isSome = false := by rw [← h1', hlo]; rfl
    have hb := bi_lt a
    rw [ha] at hb
    refine ⟨s, ?_, .refl _ _⟩
    rw [e]
    simp only [ref23_wrong.j1, lp_0, sn_0, hk1, hb, n_bind, n_map, getL_0, getL_1, getL_2, getL_3, getL_4, getL_5, getL_6, getL_7, getL_8, getL_9, getL_10, getL_11, getL_12, condV_t, condV_f, guardV_tt, guardV_ff, guardV_tf, guardV_ft, guardV_u, apick_t, apick_f, exV_exit, exV_ret, lookE_same, joinK_eq, seqA_n, seqA_e, seqA_r, e_add, e_sub, e_mul, e_eql, e_neq, e_lss, e_leq, e_gtr, e_geq, e_conv, e_not, e_neg, and_guard, or_guard, Bool.not_true, Bool.not_false, retV]
    rfl
  | some l =>
  have ha : a.isSome = true := by rw [← h1', hlo]; rfl
  have hb := bi_lt a
  rw [ha] at hb
  have e0 : (seeP K x).1 = (if x.kind = 2 then
      if t.isSome = true then (4, K) else (0, { K with m := apM K.m l, res := K.res ++ [((x.client, x.req), apR K.m l)] })
    else
      if ((x.code == 1) != d.isSome) = true then (4, K) else
      if formB x ((lookR (x.client, x.req) K.res).getD []) = true then (11, K) else (0, { K with told := K.told ++ [((x.client, x.req), ())] }) : Int × Kn).1 := by unfold seeP; rw [if_neg hgn, h1', h2', h3', if_neg htn, if_neg hk1n, hlo]
  rw [e0]
  have hbt := bi_ge t
  have hbd := bi_ge d
  cases hk2 : (x.kind == 2) with
  | true =>
    have hk2' : x.kind = 2 := by simpa using hk2
    rw [if_pos hk2']
    cases hto : t.isSome with
    | true =>
      rw [hto] at hbt
      refine ⟨s, ?_, .refl _ _⟩
      simp only [ref23_wrong.j1, lp_0, sn_0, hk1, hk2, hb, hbt, n_bind, n_map, getL_0, getL_1, getL_2, getL_3, getL_4, getL_5, getL_6, getL_7, getL_8, getL_9, getL_10, getL_11, getL_12, condV_t, condV_f, guardV_tt, guardV_ff, guardV_tf, guardV_ft, guardV_u, apick_t, apick_f, exV_exit, exV_ret, lookE_same, joinK_eq, seqA_n, seqA_e, seqA_r, e_add, e_sub, e_mul, e_eql, e_neq, e_lss, e_leq, e_gtr, e_geq, e_conv, e_not, e_neg, and_guard, or_guard, Bool.not_true, retV, if_true]
      rfl
    | false =>
      rw [hto] at hbt
      refine ⟨s, ?_, .refl _ _⟩
      simp only [ref23_wrong.j1, lp_0, sn_0, hk1, hk2, hb, hbt, n_bind, n_map, getL_0, getL_1, getL_2, getL_3, getL_4, getL_5, getL_6, getL_7, getL_8, getL_9, getL_10, getL_11, getL_12, condV_t, condV_f, guardV_tt, guardV_ff, guardV_tf, guardV_ft, guardV_u, apick_t, apick_f, exV_exit, exV_ret, lookE_same, joinK_eq, seqA_n, seqA_e, seqA_r, e_add, e_sub, e_mul, e_eql, e_neq, e_lss, e_leq, e_gtr, e_geq, e_conv, e_not, e_neg, and_guard, or_guard, Bool.not_true, retV, Bool.false_eq_true, if_false]
      rfl
  | false =>
    have hk2n : ¬ x.kind = 2 := by simpa using hk2
    rw [if_neg hk2n]
    have hcd : (x.code == 1) = true ∨ ((x.code == 1) = false ∧ (x.code == 2) = true) := by
      unfold goodS at hg
      rw [hk1, hk2] at hg
      cases c3 : (x.kind == 3) with
      | false => rw [c3] at hg; simp at hg
      | true =>
        rw [c3] at hg
        simp only [Bool.false_eq_true, if_false, if_true, Bool.and_eq_true, Bool.or_eq_true] at hg
        cases c1 : (x.code == 1) with
        | true => exact .inl rfl
        | false =>
          rw [c1] at hg
          exact .inr ⟨rfl, hg.2.resolve_left (by simp)⟩
    cases hto : ((x.code == 1) != d.isSome) with
    | true =>
      refine ⟨s, ?_, .refl _ _⟩
      simp only [ref23_wrong.j1, lp_0, lp_3, sn_0, sn_3, hk1, hk2, hb, hbd, ne_bool, hto, n_bind, n_map, getL_0, getL_1, getL_2, getL_3, getL_4, getL_5, getL_6, getL_7, getL_8, getL_9, getL_10, getL_11, getL_12, condV_t, condV_f, guardV_tt, guardV_ff, guardV_tf, guardV_ft, guardV_u, apick_t, apick_f, exV_exit, exV_ret, lookE_same, joinK_eq, seqA_n, seqA_e, seqA_r, e_add, e_sub, e_mul, e_eql, e_neq, e_lss, e_leq, e_gtr, e_geq, e_conv, e_not, e_neg, and_guard, or_guard, Bool.not_true, retV, if_true]
      rfl
    | false =>
      have hlen : alenV (.slice 82) r s = some (.int .i64 ((x.res.length : Nat) : Int)) := by
        obtain ⟨q, hq, hc, _⟩ := hr
        rw [cells_alen hc, ← hq, List.length_map]
      have hgt : decide (((x.res.length : Nat) : Int) > 0) = decide (0 < x.res.length) := by
        by_cases c : 0 < x.res.length
        · rw [decide_eq_true c, decide_eq_true (by omega)]
        · rw [decide_eq_false c, decide_eq_false (by omega)]
      rcases hcd with c1 | ⟨c1, c2⟩
      · have c2 : (x.code == 2) = false := by
          have : x.code = 1 := by simpa using c1
          rw [this]
          rfl
        have hd : d.isSome = true := by rw [c1] at hto; simpa using hto
        obtain ⟨j, hj⟩ := Option.isSome_iff_exists.1 hd
        obtain ⟨u, mv, rv, s', g1, g2, g3, g4, g5, g6, g7⟩ := hres j hj
        have hinc : IntKind.wrap .i64 (befI d + 1) = ((j + 1 : Nat) : Int) := by
          rw [hj]
          exact inc_i64 (by omega)
        have y0 : aextract 0 (.tuple #[mv, rv]) = some mv := by simp [aextract, g3]
        have y1 : aextract 1 (.tuple #[mv, rv]) = some rv := by simp [aextract, g4]
        have hf : formB x ((lookR (x.client, x.req) K.res).getD []) = !decide ((lookR (rqOf x) K.res).getD [] = x.res) := by
          unfold formB
          rw [c1, if_pos rfl]
        rw [hf]
        rw [c1] at hto
        refine ⟨s', ?_, g5⟩
        cases hsame : decide ((lookR (rqOf x) K.res).getD [] = x.res) with
        | true =>
          rw [hsame] at g6
          simp only [ref23_wrong.j1, ref23_wrong.j0, lp_0, lp_3, lp_5, sn_0, sn_3, sn_5, hk1, hk2, hb, hbd, ne_bool, c1, c2, hto, hinc, g1, ref23_replay_call, g2, y0, y1, ref04_SameResults_call, g6, n_bind, n_map, getL_0, getL_1, getL_2, getL_3, getL_4, getL_5, getL_6, getL_7, getL_8, getL_9, getL_10, getL_11, getL_12, condV_t, condV_f, guardV_tt, guardV_ff, guardV_tf, guardV_ft, guardV_u, apick_t, apick_f, exV_exit, exV_ret, lookE_same, joinK_eq, seqA_n, seqA_e, seqA_r, e_add, e_sub, e_mul, e_eql, e_neq, e_lss, e_leq, e_gtr, e_geq, e_conv, e_not, e_neg, and_guard, or_guard, Bool.not_true, retV, Bool.false_eq_true, if_false]
          rfl
        | false =>
          rw [hsame] at g6
          simp only [ref23_wrong.j1, ref23_wrong.j0, lp_0, lp_3, lp_5, sn_0, sn_3, sn_5, hk1, hk2, hb, hbd, ne_bool, c1, c2, hto, hinc, g1, ref23_replay_call, g2, y0, y1, ref04_SameResults_call, g6, n_bind, n_map, getL_0, getL_1, getL_2, getL_3, getL_4, getL_5, getL_6, getL_7, getL_8, getL_9, getL_10, getL_11, getL_12, condV_t, condV_f, guardV_tt, guardV_ff, guardV_tf, guardV_ft, guardV_u, apick_t, apick_f, exV_exit, exV_ret, lookE_same, joinK_eq, seqA_n, seqA_e, seqA_r, e_add, e_sub, e_mul, e_eql, e_neq, e_lss, e_leq, e_gtr, e_geq, e_conv, e_not, e_neg, and_guard, or_guard, Bool.not_true, Bool.not_false, retV, Bool.false_eq_true, if_false, if_true]
          rfl
      · have hf : formB x ((lookR (x.client, x.req) K.res).getD []) = decide (0 < x.res.length) := by
          unfold formB
          rw [c1, if_neg (by simp)]
        rw [hf]
        rw [c1] at hto
        refine ⟨s, ?_, .refl _ _⟩
        cases hn : decide (0 < x.res.length) with
        | true =>
          rw [hn] at hgt
          simp only [ref23_wrong.j1, ref23_wrong.j0, lp_0, lp_3, lp_5, sn_0, sn_3, sn_5, hk1, hk2, hb, hbd, ne_bool, c1, c2, hto, hlen, hgt, n_bind, n_map, getL_0, getL_1, getL_2, getL_3, getL_4, getL_5, getL_6, getL_7, getL_8, getL_9, getL_10, getL_11, getL_12, condV_t, condV_f, guardV_tt, guardV_ff, guardV_tf, guardV_ft, guardV_u, apick_t, apick_f, exV_exit, exV_ret, lookE_same, joinK_eq, seqA_n, seqA_e, seqA_r, e_add, e_sub, e_mul, e_eql, e_neq, e_lss, e_leq, e_gtr, e_geq, e_conv, e_not, e_neg, and_guard, or_guard, Bool.not_true, retV, Bool.false_eq_true, if_false, if_true]
          rfl
        | false =>
          rw [hn] at hgt
          simp only [ref23_wrong.j1, ref23_wrong.j0, lp_0, lp_3, lp_5, sn_0, sn_3, sn_5, hk1, hk2, hb, hbd, ne_bool, c1, c2, hto, hlen, hgt, n_bind, n_map, getL_0, getL_1, getL_2, getL_3, getL_4, getL_5, getL_6, getL_7, getL_8, getL_9, getL_10, getL_11, getL_12, condV_t, condV_f, guardV_tt, guardV_ff, guardV_tf, guardV_ft, guardV_u, apick_t, apick_f, exV_exit, exV_ret, lookE_same, joinK_eq, seqA_n, seqA_e, seqA_r, e_add, e_sub, e_mul, e_eql, e_neq, e_lss, e_leq, e_gtr, e_geq, e_conv, e_not, e_neg, and_guard, or_guard, Bool.not_true, retV, Bool.false_eq_true, if_false]
          rfl
end
theorem k_wrong {v : Value} {s : St} {l : List Sn} (h : SnL s v l) (hl : l.length ≤ 100) {n : Nat} (hn : n < l.length) {K : Kn} (hK : judgeP (l.take n) 0 Kn.nil = (-1, 0, K)) : ∃ s', (run Try.prog (libL libT) hints) 20 [v, .int .i64 (n : Int)] s = some (.int .i64 (seeP K l[n]).1, s') ∧ Ext s.heap.length s s' := by
  obtain ⟨p, o, r, a1, a2, _, a3⟩ := h.at2 (.refl _ _) hn
  obtain ⟨_, _, e, a4, a5, a6⟩ := id a3
  cases e
  have b1 := k_before h hn (by omega) 1
  have b2 := k_before h hn (by omega) 2
  have b3 := k_before h hn (by omega) 3
  have hK0 : (judgeP (l.take n) 0 Kn.nil).2.1 = 0 := by rw [hK]
  obtain ⟨⟨f1, _⟩, ⟨f2, f3⟩, f4⟩ := known_at (rqOf l[n]) hK0
  have hkk := jp_kok (l.take n) 0 Kn.nil KOk.nil (by rw [List.length_take]; omega)
  rw [hK] at f1 f2 f3 f4 hkk
  simp only at f1 f2 f3 f4
  have hkk : KOk K (0 + (l.take n).length) := hkk
  have hres : ∀ j, befF 2 (rqOf l[n]) (l.take n) = some j → ∃ u mv rv s', asliceV 6 v none (some (.int .i64 ((j + 1 : Nat) : Int))) none = some u ∧ (run Try.prog (libL libT) hints) 21 [u] s = some (.tuple #[mv, rv], s') ∧ isTup mv = false ∧ isTup rv = false ∧ Ext s.heap.length s s' ∧ (run Try.prog (libL libT) hints) 30 [rv, r] s' = some (.bool (decide ((lookR (rqOf l[n]) K.res).getD [] = l[n].res)), s') ∧ j < 100 := fun j hj => by
    have hjl := bef_lt hj
    rw [List.length_take] at hjl
    obtain ⟨u, g1, g2⟩ := h.take (c := j + 1) (by omega)
    have hok : (judgeP (l.take (j + 1)) 0 Kn.nil).2.1 = 0 := by
      have e : l.take (j + 1) = (l.take n).take (j + 1) := by rw [List.take_take, Nat.min_eq_left (by omega)]
      rw [e]
      have := jd_take (l := l.take n) (c := j + 1) (by rw [List.length_take]; omega) (.inl hK0)
      exact congrArg Prod.snd this
    obtain ⟨mv, rv, s', k1, k2, k3, k4⟩ := k_replay g2 (by rw [List.length_take]; omega) hok
    have f5 := f3 j hj
    rw [List.take_take, Nat.min_eq_left (show j + 1 ≤ n by omega)] at f5
    obtain ⟨w1, w2⟩ := hkk.res _ (lookR_mem f5)
    simp only at w1 w2
    have hsr := k_sameR (L := libT) rfl rfl k4 (a5.ext k2) (by omega) (fun y hy => by have := w2 y hy; omega)
    obtain ⟨_, _, hmv⟩ := list_shape k3
    refine ⟨u, mv, rv, s', g1, k1, by rw [hmv]; rfl, rdy_tup k4, k2, ?_, by omega⟩
    rw [f5]
    exact hsr
  obtain ⟨s', k1, k2⟩ := wr_run (v := v) (o := o) (r := r) f1 f2 f4 a5 hres
  refine ⟨s', ref23_wrong_of rfl ?_, k2⟩
  generalize l[n] = x at *
  have hck : (run Try.prog (libL libT) hints) 14 [o] s = some (.int .i64 (chkE x.ops), s) := (known (g := gChkE) rfl).trans (chkE_eq a4 a6)
  have w1 := bi_ge (befF 1 (rqOf x) (l.take n))
  have w2 := bi_ge (befF 2 (rqOf x) (l.take n))
  have w3 := bi_ge (befF 3 (rqOf x) (l.take n))
  rw [← k1]
  unfold ref23_wrong goodS twiceP
  cases hk1 : (x.kind == 1) with
  | true =>
    cases c1 : decide (x.client ≥ 1) <;> cases c2 : decide (x.client ≤ 4)
    all_goals simp only [a1, a2, sn_st (ops_leaf a4) (rdy_leaf a5), ref23_before_call, b1, b2, b3, sn_0, sn_1, sn_4, c1, c2, hk1, ref04_Check_call, hck, w1, Bool.false_and, Bool.true_and, Bool.and_false, Bool.false_eq_true, if_true, if_false, n_bind, n_map, getL_0, getL_1, getL_2, getL_3, getL_4, getL_5, getL_6, getL_7, getL_8, getL_9, getL_10, getL_11, getL_12, condV_t, condV_f, guardV_tt, guardV_ff, guardV_tf, guardV_ft, guardV_u, apick_t, apick_f, exV_exit, exV_ret, lookE_same, joinK_eq, seqA_n, seqA_e, seqA_r, e_add, e_sub, e_mul, e_eql, e_neq, e_lss, e_leq, e_gtr, e_geq, e_conv, e_not, e_neg, and_guard, or_guard]
  | false =>
    cases hk2 : (x.kind == 2) with
    | true =>
      have hk3 : (x.kind == 3) = false := by
        have : x.kind = 2 := by simpa using hk2
        rw [this]; rfl
      cases c1 : decide (x.client ≥ 1) <;> cases c2 : decide (x.client ≤ 4)
      all_goals simp only [a1, a2, sn_st (ops_leaf a4) (rdy_leaf a5), ref23_before_call, b1, b2, b3, sn_0, sn_1, sn_4, c1, c2, hk1, hk2, hk3, w2, Bool.false_and, Bool.true_and, Bool.and_false, Bool.and_true, Bool.false_eq_true, if_true, if_false, n_bind, n_map, getL_0, getL_1, getL_2, getL_3, getL_4, getL_5, getL_6, getL_7, getL_8, getL_9, getL_10, getL_11, getL_12, condV_t, condV_f, guardV_tt, guardV_ff, guardV_tf, guardV_ft, guardV_u, apick_t, apick_f, exV_exit, exV_ret, lookE_same, joinK_eq, seqA_n, seqA_e, seqA_r, e_add, e_sub, e_mul, e_eql, e_neq, e_lss, e_leq, e_gtr, e_geq, e_conv, e_not, e_neg, and_guard, or_guard]
    | false =>
      cases hk3 : (x.kind == 3) with
      | true =>
        cases c1 : decide (x.client ≥ 1) <;> cases c2 : decide (x.client ≤ 4) <;> cases d1 : (x.code == 1)
        all_goals simp only [a1, a2, sn_st (ops_leaf a4) (rdy_leaf a5), ref23_before_call, b1, b2, b3, sn_0, sn_1, sn_3, sn_4, c1, c2, d1, hk1, hk2, hk3, w3, Bool.false_and, Bool.true_and, Bool.and_false, Bool.and_true, Bool.true_or, Bool.false_or, Bool.false_eq_true, if_true, if_false, n_bind, n_map, getL_0, getL_1, getL_2, getL_3, getL_4, getL_5, getL_6, getL_7, getL_8, getL_9, getL_10, getL_11, getL_12, condV_t, condV_f, guardV_tt, guardV_ff, guardV_tf, guardV_ft, guardV_u, apick_t, apick_f, exV_exit, exV_ret, lookE_same, joinK_eq, seqA_n, seqA_e, seqA_r, e_add, e_sub, e_mul, e_eql, e_neq, e_lss, e_leq, e_gtr, e_geq, e_conv, e_not, e_neg, and_guard, or_guard]
      | false =>
        cases c1 : decide (x.client ≥ 1) <;> cases c2 : decide (x.client ≤ 4)
        all_goals simp only [a1, a2, sn_st (ops_leaf a4) (rdy_leaf a5), ref23_before_call, b1, b2, b3, sn_0, sn_1, sn_3, sn_4, c1, c2, hk1, hk2, hk3, Bool.false_and, Bool.true_and, Bool.and_false, Bool.and_true, Bool.false_eq_true, if_true, if_false, n_bind, n_map, getL_0, getL_1, getL_2, getL_3, getL_4, getL_5, getL_6, getL_7, getL_8, getL_9, getL_10, getL_11, getL_12, condV_t, condV_f, guardV_tt, guardV_ff, guardV_tf, guardV_ft, guardV_u, apick_t, apick_f, exV_exit, exV_ret, lookE_same, joinK_eq, seqA_n, seqA_e, seqA_r, e_add, e_sub, e_mul, e_eql, e_neq, e_lss, e_leq, e_gtr, e_geq, e_conv, e_not, e_neg, and_guard, or_guard]
theorem rj_loop {v : Value} {s : St} {l : List Sn} (h : SnL s v l) (hl : l.length ≤ 100) : ∀ (rest : List Sn) (i : Nat) (t : St) (K : Kn), l.drop i = rest → i ≤ l.length → Ext s.heap.length s t → judgeP (l.take i) 0 Kn.nil = (-1, 0, K) →
    ∃ t', loopL (ref23_Judge.b0 (run Try.prog (libL libT) hints)) [v, .int .i64 ((l.length : Nat) : Int), .int .i64 (i : Int)] t = (if (judP l).2 = 0 then some (.exit 0, [], t') else some (.ret, [.int .i64 (judP l).1, .int .i64 (judP l).2], t')) ∧ Ext s.heap.length s t' := by
  intro rest
  induction rest with
  | nil =>
    intro i t K hi hle hx hK
    have hge := List.drop_eq_nil_iff.1 hi
    have h1 : decide ((i : Int) < ((l.length : Nat) : Int)) = false := by simp; omega
    rw [List.take_of_length_le hge] at hK
    refine ⟨t, ?_, hx⟩
    have : (judP l).2 = 0 := by unfold judP; rw [hK]
    rw [if_pos this, loopL_eq]
    simp only [ref23_Judge.b0, h1, n_bind, n_map, getL_0, getL_1, getL_2, getL_3, getL_4, getL_5, getL_6, getL_7, getL_8, getL_9, getL_10, getL_11, getL_12, condV_t, condV_f, guardV_tt, guardV_ff, guardV_tf, guardV_ft, guardV_u, apick_t, apick_f, exV_exit, exV_ret, lookE_same, joinK_eq, seqA_n, seqA_e, seqA_r, e_add, e_sub, e_mul, e_eql, e_neq, e_lss, e_leq, e_gtr, e_geq, e_conv, e_not, e_neg, and_guard, or_guard]
  | cons x rest ih =>
    intro i t K hi hle hx hK
    obtain ⟨hlt, he, hd⟩ := drop_get hi
    have h1 : decide ((i : Int) < ((l.length : Nat) : Int)) = true := by simp; omega
    have hinc := inc_i64 (show i < 140737488355328 by omega)
    obtain ⟨t1, g1, g2⟩ := k_wrong (h.ext hx) hl hlt hK
    have hst := take_step hlt hK
    rw [he] at g1 hst
    by_cases c : (seeP K x).1 = 0
    · rw [if_pos c] at hst
      obtain ⟨t2, k1, k2⟩ := ih (i + 1) t1 _ hd (by omega) (hx.trans (g2.less hx.1)) hst
      refine ⟨t2, ?_, k2⟩
      have z0 : ((0 : Int) != 0) = false := rfl
      rw [← k1, loopL_eq]
      simp only [ref23_Judge.b0, h1, ref23_wrong_call, g1, c, z0, hinc, n_bind, n_map, getL_0, getL_1, getL_2, getL_3, getL_4, getL_5, getL_6, getL_7, getL_8, getL_9, getL_10, getL_11, getL_12, condV_t, condV_f, guardV_tt, guardV_ff, guardV_tf, guardV_ft, guardV_u, apick_t, apick_f, exV_exit, exV_ret, lookE_same, joinK_eq, seqA_n, seqA_e, seqA_r, e_add, e_sub, e_mul, e_eql, e_neq, e_lss, e_leq, e_gtr, e_geq, e_conv, e_not, e_neg, and_guard, or_guard]
    · rw [if_neg c] at hst
      have hj : judP l = ((i : Int), (seeP K x).1) := by
        have e : l = l.take i ++ x :: rest := by rw [← hi, List.take_append_drop]
        have hlen : 0 + (l.take i).length = i := by rw [List.length_take]; omega
        have := jp_app (l.take i) (x :: rest) 0 Kn.nil (by rw [hK])
        rw [← e, hK, hlen, judgeP, if_neg c] at this
        unfold judP
        rw [this]
      refine ⟨t1, ?_, hx.trans (g2.less hx.1)⟩
      rw [hj, if_neg c, loopL_eq]
      simp only [ref23_Judge.b0, h1, ref23_wrong_call, g1, ne0 c, n_bind, n_map, getL_0, getL_1, getL_2, getL_3, getL_4, getL_5, getL_6, getL_7, getL_8, getL_9, getL_10, getL_11, getL_12, condV_t, condV_f, guardV_tt, guardV_ff, guardV_tf, guardV_ft, guardV_u, apick_t, apick_f, exV_exit, exV_ret, lookE_same, joinK_eq, seqA_n, seqA_e, seqA_r, e_add, e_sub, e_mul, e_eql, e_neq, e_lss, e_leq, e_gtr, e_geq, e_conv, e_not, e_neg, and_guard, or_guard]
theorem k_rJudge {v : Value} {s : St} {l : List Sn} (h : SnL s v l) (hl : l.length ≤ 100) : ∃ t, (run Try.prog (libL libT) hints) 10 [v] s = some (.tuple #[.int .i64 (judP l).1, .int .i64 (judP l).2], t) ∧ Ext s.heap.length s t := by
  obtain ⟨t, k1, k2⟩ := rj_loop h hl l 0 s Kn.nil rfl (Nat.zero_le _) (.refl _ _) rfl
  rw [show ((0 : Nat) : Int) = 0 from rfl] at k1
  have hlen : ∀ e s2, alenV (.slice e) v s2 = some (.int .i64 ((l.length : Nat) : Int)) := fun e s2 => h.len
  refine ⟨t, ref23_Judge_of rfl ?_, k2⟩
  by_cases c : (judP l).2 = 0
  · rw [if_pos c] at k1
    rw [jd_ok c, c]
    unfold ref23_Judge
    simp only [hlen, k1, n_bind, n_map, getL_0, getL_1, getL_2, getL_3, getL_4, getL_5, getL_6, getL_7, getL_8, getL_9, getL_10, getL_11, getL_12, condV_t, condV_f, guardV_tt, guardV_ff, guardV_tf, guardV_ft, guardV_u, apick_t, apick_f, exV_exit, exV_ret, lookE_same, joinK_eq, seqA_n, seqA_e, seqA_r, e_add, e_sub, e_mul, e_eql, e_neq, e_lss, e_leq, e_gtr, e_geq, e_conv, e_not, e_neg, and_guard, or_guard, retV]
    rfl
  · rw [if_neg c] at k1
    unfold ref23_Judge
    simp only [hlen, k1, n_bind, n_map, getL_0, getL_1, getL_2, getL_3, getL_4, getL_5, getL_6, getL_7, getL_8, getL_9, getL_10, getL_11, getL_12, condV_t, condV_f, guardV_tt, guardV_ff, guardV_tf, guardV_ft, guardV_u, apick_t, apick_f, exV_exit, exV_ret, lookE_same, joinK_eq, seqA_n, seqA_e, seqA_r, e_add, e_sub, e_mul, e_eql, e_neq, e_lss, e_leq, e_gtr, e_geq, e_conv, e_not, e_neg, and_guard, or_guard, retV]
    rfl
theorem k_rReplay {v : Value} {s : St} {l : List Sn} (h : SnL s v l) (hl : l.length ≤ 100) : ∃ m t, (run Try.prog (libL libT) hints) 12 [v] s = some (.tuple #[m, .int .i64 (judP l).2], t) ∧ Ext s.heap.length s t ∧ listOf prC m t = some (if (judP l).2 = 0 then mapP l else []) := by
  obtain ⟨t, k1, k2⟩ := k_rJudge h hl
  by_cases c : (judP l).2 = 0
  · obtain ⟨mv, rv, t2, g1, g2, g3, g4⟩ := k_replay (h.ext k2) hl c
    obtain ⟨_, _, hmv⟩ := list_shape g3
    have tm : isTup mv = false := by rw [hmv]; rfl
    have nm : noTup mv = true := by rw [hmv]; rfl
    have y0 : aextract 0 (.tuple #[mv, rv]) = some mv := by simp [aextract, tm]
    have y1 : aextract 1 (.tuple #[mv, rv]) = some rv := by simp [aextract, rdy_tup g4]
    have z0 : ((0 : Int) != 0) = false := rfl
    refine ⟨mv, t2, ref23_Replay_of rfl ?_, k2.trans (g2.less k2.1), by rw [if_pos c]; exact g3⟩
    rw [c] at k1 ⊢
    unfold ref23_Replay
    simp only [ref23_Judge_call, k1, y2i_0, y2i_1, z0, ref23_replay_call, g1, y0, y1, n_bind, n_map, getL_0, getL_1, getL_2, getL_3, getL_4, getL_5, getL_6, getL_7, getL_8, getL_9, getL_10, getL_11, getL_12, condV_t, condV_f, guardV_tt, guardV_ff, guardV_tf, guardV_ft, guardV_u, apick_t, apick_f, exV_exit, exV_ret, lookE_same, joinK_eq, seqA_n, seqA_e, seqA_r, e_add, e_sub, e_mul, e_eql, e_neq, e_lss, e_leq, e_gtr, e_geq, e_conv, e_not, e_neg, and_guard, or_guard, retV, List.all_cons, nm]
    rfl
  · refine ⟨.slice none 0 0, t, ref23_Replay_of rfl ?_, k2, by rw [if_neg c]; exact list_nil t⟩
    unfold ref23_Replay
    simp only [ref23_Judge_call, k1, y2i_0, y2i_1, ne0 c, n_bind, n_map, getL_0, getL_1, getL_2, getL_3, getL_4, getL_5, getL_6, getL_7, getL_8, getL_9, getL_10, getL_11, getL_12, condV_t, condV_f, guardV_tt, guardV_ff, guardV_tf, guardV_ft, guardV_u, apick_t, apick_f, exV_exit, exV_ret, lookE_same, joinK_eq, seqA_n, seqA_e, seqA_r, e_add, e_sub, e_mul, e_eql, e_neq, e_lss, e_leq, e_gtr, e_geq, e_conv, e_not, e_neg, and_guard, or_guard, retV]
    rfl

end Go.Proofs.Ytccindbiodofmaa.Ab

/- Rows of pairs that a law overwrites. -/
namespace Go.Proofs.Ytccindbiodofmaa.Ab
open Go

/-! ### What may be written into -/
def Soft (N : Nat) (s : St) (v : Value) (n : Nat) : Prop := (v = .slice none 0 0 ∧ n = 0) ∨ ∃ b cap cells, v = .slice (some ⟨b, 0, none⟩) n cap ∧ N ≤ b ∧ s.heap[b]? = some (.row 2 cells .act) ∧ n * 2 ≤ cells.length
structure SoftStep (N : Nat) (s t : St) : Prop where
  ext : Ext N s t
  soft : ∀ v n, Soft N s v n → Soft N t v n
  own : ∀ v cs, Own N 3 s v cs → Own N 3 t v cs
theorem SoftStep.refl (N : Nat) (s : St) : SoftStep N s s := ⟨.refl _ _, fun _ _ h => h, fun _ _ h => h⟩
theorem SoftStep.trans {N : Nat} {s t u : St} (h : SoftStep N s t) (g : SoftStep N t u) : SoftStep N s u := ⟨h.ext.trans g.ext, fun v n x => g.soft v n (h.soft v n x), fun v cs x => g.own v cs (h.own v cs x)⟩
theorem OwnC.soft {N : Nat} {s : St} {v : Value} {l : List Rg} (h : OwnC prC N s v l) : Soft N s v l.length := by
  rcases h with ⟨rfl, rfl⟩ | ⟨b, cap, rest, rfl, h1, h2, h3, _⟩
  · exact .inl ⟨rfl, rfl⟩
  · exact .inr ⟨b, cap, _, rfl, h1, h2, by rw [List.length_append, encL_len]; exact Nat.le_add_right _ _⟩
theorem soft_set {N : Nat} {s : St} {v : Value} {n : Nat} (h : Soft N s v n) {k j : Nat} (hk : k < n) (hj : j < 2) (x : BL) : ∃ p q t, aindexS 2 v (.int .i64 (k : Int)) = some p ∧ afieldAddr j p = some q ∧ astore 1 q (sv x) s = some t ∧ SoftStep N s t := by
  rcases h with ⟨_, h⟩ | ⟨b, cap, cells, rfl, h1, h2, h3⟩
  · omega
  have hb : b < s.heap.length := (List.getElem?_eq_some_iff.1 h2).1
  have hlen : (putCells cells (k * 2 + j) [sv x]).length = cells.length := by
    unfold putCells
    simp
    omega
  refine ⟨.pointer (some ⟨b, 0 + k * 2, none⟩), .pointer (some ⟨b, 0 + k * 2 + j, none⟩), s.putB b (.row 2 (putCells cells (0 + k * 2 + j) [sv x]) .act), by simp [aindexS, hk], rfl, ?_, ?_⟩
  · unfold astore writeN
    have hx : cellsV (sv x) = [sv x] := rfl
    simp only [hx, List.length_singleton, List.all_cons, List.all_nil, h2]
    rw [if_pos ⟨trivial, rfl⟩, if_pos (by omega)]
  · rw [Nat.zero_add]
    have hne : ∀ c, c ≠ b → (s.putB b (.row 2 (putCells cells (k * 2 + j) [sv x]) .act)).heap[c]? = s.heap[c]? := fun c hc => by
      simp only [St.putB]
      rw [List.getElem?_set_ne (Ne.symm hc)]
    refine ⟨⟨by simp [St.putB], fun c hc => hne c (by omega)⟩, fun v' n' hs => ?_, fun v' cs hs => ?_⟩
    · rcases hs with hs | ⟨b', cap', cells', e, g1, g2, g3⟩
      · exact .inl hs
      · by_cases c : b' = b
        · subst c
          rw [h2] at g2
          cases g2
          exact .inr ⟨b', cap', _, e, g1, putB_get hb, by rw [hlen]; exact g3⟩
        · exact .inr ⟨b', cap', cells', e, g1, by rw [hne b' c]; exact g2, g3⟩
    · rcases hs with hs | ⟨b', len, e, g1, g2, g3⟩
      · exact .inl hs
      · by_cases c : b' = b
        · subst c
          rw [h2] at g2
          cases g2
        · exact .inr ⟨b', len, e, g1, by rw [hne b' c]; exact g2, g3⟩
theorem zz : (Value.string ⟨#[122, 122]⟩) = sv [122, 122] := rfl

end Go.Proofs.Ytccindbiodofmaa.Ab

/- The laws of what is seen: JudgeTells. -/
namespace Go.Proofs.Ytccindbiodofmaa.Ab
open Go
set_option maxRecDepth 100000

theorem tl_b1 {N : Nat} {v a ri : Value} {n : Nat} (hn : n < 140737488355328) : ∀ (d i : Nat) (s : St), i + d = n → Soft N s a n →
    ∃ t, loopL (law23_JudgeTells.b1 (run Try.prog (libL libT) hints)) [v, .bool true, a, ri, .int .i64 (n : Int), .int .i64 (i : Int)] s = some (.exit 2, [v, .bool true, ri], t) ∧ SoftStep N s t := by
  intro d
  induction d with
  | zero =>
    intro i s hi hs
    have h1 : decide ((i : Int) < (n : Int)) = false := by simp; omega
    refine ⟨s, ?_, .refl _ _⟩
    rw [loopL_eq]
    simp only [law23_JudgeTells.b1, h1, n_bind, n_map, getL_0, getL_1, getL_2, getL_3, getL_4, getL_5, getL_6, getL_7, getL_8, getL_9, getL_10, getL_11, getL_12, condV_t, condV_f, guardV_tt, guardV_ff, guardV_tf, guardV_ft, guardV_u, apick_t, apick_f, exV_exit, exV_ret, lookE_same, joinK_eq, seqA_n, seqA_e, seqA_r, e_add, e_sub, e_mul, e_eql, e_neq, e_lss, e_leq, e_gtr, e_geq, e_conv, e_not, e_neg, and_guard, or_guard]
  | succ d ih =>
    intro i s hi hs
    have h1 : decide ((i : Int) < (n : Int)) = true := by simp; omega
    obtain ⟨p, q, t, g1, g2, g3, g4⟩ := soft_set hs (k := i) (by omega) (j := 0) (by decide) [122, 122]
    obtain ⟨u, k1, k2⟩ := ih (i + 1) t (by omega) (g4.soft _ _ hs)
    refine ⟨u, ?_, g4.trans k2⟩
    rw [← k1, loopL_eq]
    simp only [law23_JudgeTells.b1, h1, zz, g1, g2, g3, inc_i64 (show i < 140737488355328 by omega), n_bind, n_map, getL_0, getL_1, getL_2, getL_3, getL_4, getL_5, getL_6, getL_7, getL_8, getL_9, getL_10, getL_11, getL_12, condV_t, condV_f, guardV_tt, guardV_ff, guardV_tf, guardV_ft, guardV_u, apick_t, apick_f, exV_exit, exV_ret, lookE_same, joinK_eq, seqA_n, seqA_e, seqA_r, e_add, e_sub, e_mul, e_eql, e_neq, e_lss, e_leq, e_gtr, e_geq, e_conv, e_not, e_neg, and_guard, or_guard]
theorem tl_round {v : Value} {s : St} {l : List Sn} (h : SnL s v l) (hl : l.length ≤ 100) {t : St} (hx : Ext s.heap.length s t) {r : Int} (hr : decide (r < 2) = true) (hr0 : 0 ≤ r) :
    ∃ t', law23_JudgeTells.b0 (run Try.prog (libL libT) hints) [v, .bool true, .int .i64 r] t = some (.normal, [v, .bool true, .int .i64 (r + 1)], t') ∧ Ext s.heap.length s t' := by
  have hr2 : r < 2 := of_decide_eq_true hr
  have hw : IntKind.wrap .i64 (r + 1) = r + 1 := wrap_i64 (by omega) (by omega)
  obtain ⟨t1, a1, a2⟩ := Judge_run (h.ext hx) (by omega)
  have x1 := hx.trans (a2.less hx.1)
  obtain ⟨t2, b1, b2⟩ := k_rJudge (h.ext x1) hl
  have x2 := x1.trans (b2.less x1.1)
  obtain ⟨m, t3, c1, c2, c3⟩ := Replay_run (h.ext x2) (by omega)
  have x3 := x2.trans (c2.less x2.1)
  obtain ⟨n, t4, d1, d2, d3⟩ := k_rReplay (h.ext x3) hl
  have x4 := x3.trans (d2.less x3.1)
  have hm : isTup m = false := OwnC.istup c3
  obtain ⟨_, _, hn⟩ := list_shape d3
  have hn : isTup n = false := by rw [hn]; rfl
  have hlen : (if (judP l).2 = 0 then mapP l else []).length < 140737488355328 := by
    have hk : KOk (judgeP l 0 Kn.nil).2.2 (0 + l.length) := jp_kok l 0 Kn.nil KOk.nil (by omega)
    have := hk.room (by omega)
    split
    · show (judgeP l 0 Kn.nil).2.2.m.length < _
      omega
    · decide
  have hsm := k_same (L := libT) rfl (list_ext d2 c3.list) d3 hlen
  have hso : Soft s.heap.length t4 m (if (judP l).2 = 0 then mapP l else []).length := (((Hi.ext d2).own c3).mono x2.1).soft
  obtain ⟨t5, e1, e2⟩ := tl_b1 (v := v) (ri := .int .i64 r) hlen _ 0 t4 (Nat.zero_add _) hso
  rw [show ((0 : Nat) : Int) = 0 from rfl] at e1
  have w1 : ((judP l).1 != (judP l).1) = false := by simp
  have w2 : ((judP l).2 != (judP l).2) = false := by simp
  have hal : ∀ e s2, alenV (.slice e) m s2 = some (.int .i64 (((if (judP l).2 = 0 then mapP l else []).length : Nat) : Int)) := fun e s2 => list_len c3.list
  refine ⟨t5, ?_, x4.trans e2.ext⟩
  simp only [law23_JudgeTells.b0, hr, judge_Judge_call, a1, y2i_0, y2i_1, ref23_Judge_call, b1, judge_Replay_call, c1, y2m_0 hm, y2m_1, ref23_Replay_call, d1, y2m_0 hn, w1, w2, ref04_SameMap_call, hsm, decide_true, Bool.not_true, hal, e1, hw, n_bind, n_map, getL_0, getL_1, getL_2, getL_3, getL_4, getL_5, getL_6, getL_7, getL_8, getL_9, getL_10, getL_11, getL_12, condV_t, condV_f, guardV_tt, guardV_ff, guardV_tf, guardV_ft, guardV_u, apick_t, apick_f, exV_exit, exV_ret, lookE_same, joinK_eq, seqA_n, seqA_e, seqA_r, e_add, e_sub, e_mul, e_eql, e_neq, e_lss, e_leq, e_gtr, e_geq, e_conv, e_not, e_neg, and_guard, or_guard]
theorem JudgeTells_law (s : St) (v : Value) (l : List Sn) (h : ListN snN 80 l s v) : ∃ s', (run Try.prog (libL libT) hints) 3 [v] s = some (.bool true, s') := by
  obtain ⟨hv, hwf, hl⟩ := sn_list h
  have hlen : ∀ e s2, alenV (.slice e) v s2 = some (.int .i64 ((l.length : Nat) : Int)) := fun e s2 => hv.len
  by_cases hbig : 100 < l.length
  · have h1 : decide (((l.length : Nat) : Int) > 100) = true := by simp; omega
    refine ⟨s, law23_JudgeTells_of rfl ?_⟩
    unfold law23_JudgeTells
    simp only [law23_live_call, k_live, hlen, h1, n_bind, n_map, getL_0, getL_1, getL_2, getL_3, getL_4, getL_5, getL_6, getL_7, getL_8, getL_9, getL_10, getL_11, getL_12, condV_t, condV_f, guardV_tt, guardV_ff, guardV_tf, guardV_ft, guardV_u, apick_t, apick_f, exV_exit, exV_ret, lookE_same, joinK_eq, seqA_n, seqA_e, seqA_r, e_add, e_sub, e_mul, e_eql, e_neq, e_lss, e_leq, e_gtr, e_geq, e_conv, e_not, e_neg, and_guard, or_guard, retV]
    rfl
  have h1 : decide (((l.length : Nat) : Int) > 100) = false := by simp; omega
  obtain ⟨t1, a1, a2⟩ := tl_round hv (by omega) (.refl _ _) (r := 0) rfl (by decide)
  obtain ⟨t2, b1, b2⟩ := tl_round hv (by omega) a2 (r := 0 + 1) rfl (by decide)
  have hend : law23_JudgeTells.b0 (run Try.prog (libL libT) hints) [v, .bool true, .int .i64 (0 + 1 + 1)] t2 = some (.exit 0, [.bool true], t2) := by
    have z : decide ((0 + 1 + 1 : Int) < 2) = false := rfl
    simp only [law23_JudgeTells.b0, z, n_bind, n_map, getL_0, getL_1, getL_2, getL_3, getL_4, getL_5, getL_6, getL_7, getL_8, getL_9, getL_10, getL_11, getL_12, condV_t, condV_f, guardV_tt, guardV_ff, guardV_tf, guardV_ft, guardV_u, apick_t, apick_f, exV_exit, exV_ret, lookE_same, joinK_eq, seqA_n, seqA_e, seqA_r, e_add, e_sub, e_mul, e_eql, e_neq, e_lss, e_leq, e_gtr, e_geq, e_conv, e_not, e_neg, and_guard, or_guard]
  refine ⟨t2, law23_JudgeTells_of rfl ?_⟩
  unfold law23_JudgeTells
  have hloop : loopL (law23_JudgeTells.b0 (run Try.prog (libL libT) hints)) [v, .bool true, .int .i64 0] s = some (.exit 0, [.bool true], t2) := by
    rw [loopL_eq, a1]
    simp only [seqA_n]
    rw [loopL_eq, b1]
    simp only [seqA_n]
    rw [loopL_eq, hend]
    simp only [seqA_e]
  simp only [law23_live_call, k_live, hlen, h1, hloop, n_bind, n_map, getL_0, getL_1, getL_2, getL_3, getL_4, getL_5, getL_6, getL_7, getL_8, getL_9, getL_10, getL_11, getL_12, condV_t, condV_f, guardV_tt, guardV_ff, guardV_tf, guardV_ft, guardV_u, apick_t, apick_f, exV_exit, exV_ret, lookE_same, joinK_eq, seqA_n, seqA_e, seqA_r, e_add, e_sub, e_mul, e_eql, e_neq, e_lss, e_leq, e_gtr, e_geq, e_conv, e_not, e_neg, and_guard, or_guard, retV]
  rfl

end Go.Proofs.Ytccindbiodofmaa.Ab

/- A law's arguments in memory, as the abstract machine has them: bytes. -/
namespace Go.Proofs.Ytccindbiodofmaa.Ab
open Go

end Go.Proofs.Ytccindbiodofmaa.Ab

/- A row's slice of whole numbers is no longer than its weight allows. (Began as the words that print.sh lays for rows over slices.) -/
namespace Go.Proofs.Ytccindbiodofmaa.Ab
open Go Go.ChangeShapes Go.WideShapes
end Go.Proofs.Ytccindbiodofmaa.Ab
