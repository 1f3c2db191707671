/- A law's arguments that hold others: slices in slices, structs of slices. How each thing lies in cells, and in what these point to; that an argument is such a thing. -/
import Derived.Test.YtamaapapaiopiaaBArgL
set_option linter.unusedVariables false
set_option linter.unusedSimpArgs false
set_option linter.unusedSectionVars false
namespace Go.Proofs.Ytamaapapaiopiaa.Ab
open Go Go.ChangeShapes Go.WideShapes

structure NCod (α : Type) where
  n : Nat
  rel : α → St → List Value → Prop
  len : ∀ {a s cs}, rel a s cs → cs.length = n
  ext : ∀ {a s t cs}, rel a s cs → Ext s.heap.length s t → rel a t cs

def ListN {α : Type} (C : NCod α) (B : Nat) (l : List α) (s : St) (v : Value) : Prop :=
  l.length * B ≤ reachBytes ∧ ((v = .slice none 0 0 ∧ l = []) ∨ ∃ (b : Nat) (css : List (List Value)) (st : Stat), v = .slice (some ⟨b, 0, none⟩) l.length l.length ∧ s.heap[b]? = some (.row 0 css.flatten st) ∧ st ≠ .dead ∧ All2 (fun a c => C.rel a s c) l css)

namespace NCod
def ofC {α : Type} (C : Cod α) (Pr : α → Prop) : NCod α where
  n := C.n
  rel a s cs := cs = C.enc a ∧ Pr a
  len h := by rw [h.1]; exact C.len _
  ext h _ := h
def list {α : Type} (C : NCod α) (B : Nat) : NCod (List α) where
  n := 1
  rel l s cs := ∃ v, cs = [v] ∧ ListN C B l s v
  len h := by obtain ⟨v, rfl, _⟩ := h; rfl
  ext h hx := by
    obtain ⟨v, rfl, h1, h2⟩ := h
    refine ⟨v, rfl, h1, ?_⟩
    rcases h2 with h2 | ⟨b, css, st, g1, g2, g3, g4⟩
    · exact .inl h2
    · exact .inr ⟨b, css, st, g1, by rw [hx.2 b (List.getElem?_eq_some_iff.1 g2).1]; exact g2, g3, g4.mono fun a c h => C.ext h hx⟩
def unit : NCod Unit where
  n := 0
  rel _ _ cs := cs = []
  len h := by rw [h]; rfl
  ext h _ := h
def pair {α β : Type} (A : NCod α) (B : NCod β) : NCod (α × β) where
  n := A.n + B.n
  rel p s cs := ∃ c d, cs = c ++ d ∧ A.rel p.1 s c ∧ B.rel p.2 s d
  len h := by obtain ⟨c, d, rfl, h1, h2⟩ := h; rw [List.length_append, A.len h1, B.len h2]
  ext h hx := by obtain ⟨c, d, rfl, h1, h2⟩ := h; exact ⟨c, d, rfl, A.ext h1 hx, B.ext h2 hx⟩
def map {α β : Type} (A : NCod α) (f : β → α) : NCod β where
  n := A.n
  rel b s cs := A.rel (f b) s cs
  len h := A.len h
  ext h hx := A.ext h hx
end NCod

/-! ### Arguments are opened -/
def OpensAt {α : Type} (W : World) (C : NCod α) (cs : List Value) : Prop := ∀ (ι : Emb) (H : List Blk), Sim W.heap.size ι H W → H.all roB = true →
  ∃ (a : α) (K : List Blk) (κ : Emb) (cs' : List Value), ι.le κ ∧ Sim W.heap.size κ (H ++ K) W ∧ (H ++ K).all roB = true ∧ All2 (L2 κ) cs' cs ∧ C.rel a ⟨H ++ K⟩ cs'
def Opens {α : Type} (P : Program) (C : NCod α) (t : TypeId) : Prop := ∀ (Hn : Type) (enc : TypeId × Value → Hn) (W : World) (n : Nat) (cs : List Value) (y : DataW Hn × List MemPlace), DataW.trod enc P W 0 (fun _ => true) true n t cs = some y → (∀ k ∈ y.1.weights P t, k ≤ reachBytes) → OpensAt W C cs

theorem opens_leaf {α : Type} {W : World} {C : Cod α} {Pr : α → Prop} {cs : List Value} (h : ∃ a, cs = C.enc a ∧ Pr a) : OpensAt W (.ofC C Pr) cs := by
  obtain ⟨a, rfl, hp⟩ := h
  intro ι H hs hro
  exact ⟨a, [], ι, C.enc a, .refl _, by rw [List.append_nil]; exact hs, by rw [List.append_nil]; exact hro, leafOks_rel (C.leaf a), rfl, hp⟩
theorem opens_map {α β : Type} {W : World} {A : NCod α} {f : β → α} {g : α → β} (hfg : ∀ a, f (g a) = a) {cs : List Value} (h : OpensAt W A cs) : OpensAt W (A.map f) cs := by
  intro ι H hs hro
  obtain ⟨a, K, κ, cs', h1, h2, h3, h4, h5⟩ := h ι H hs hro
  exact ⟨g a, K, κ, cs', h1, h2, h3, h4, by show A.rel (f (g a)) _ _; rw [hfg]; exact h5⟩
theorem opens_unit {W : World} : OpensAt W .unit [] := by
  intro ι H hs hro
  exact ⟨(), [], ι, [], .refl _, by rw [List.append_nil]; exact hs, by rw [List.append_nil]; exact hro, trivial, rfl⟩
theorem ext_app (H K : List Blk) : Ext H.length ⟨H⟩ ⟨H ++ K⟩ := ⟨by simp, fun b hb => by simp only; rw [List.getElem?_append_left hb]⟩
theorem opens_pair {α β : Type} {W : World} {A : NCod α} {B : NCod β} {c d : List Value} (h : OpensAt W A c) (g : OpensAt W B d) : OpensAt W (A.pair B) (c ++ d) := by
  intro ι H hs hro
  obtain ⟨a, K, κ, c', h1, h2, h3, h4, h5⟩ := h ι H hs hro
  obtain ⟨b, K2, κ2, d', g1, g2, g3, g4, g5⟩ := g κ (H ++ K) h2 h3
  refine ⟨(a, b), K ++ K2, κ2, c' ++ d', h1.trans g1, by rw [← List.append_assoc]; exact g2, by rw [← List.append_assoc]; exact g3, (h4.mono fun _ _ h => h.mono g1).append g4, c', d', rfl, ?_, by rw [← List.append_assoc]; exact g5⟩
  rw [← List.append_assoc]
  exact A.ext h5 (ext_app _ _)
/-- so many things, one behind another -/
theorem opens_many {α : Type} {W : World} {C : NCod α} : ∀ (ls : List (List Value)), (∀ c ∈ ls, OpensAt W C c) → ∀ (ι : Emb) (H : List Blk), Sim W.heap.size ι H W → H.all roB = true →
    ∃ (l : List α) (K : List Blk) (κ : Emb) (css : List (List Value)), ι.le κ ∧ Sim W.heap.size κ (H ++ K) W ∧ (H ++ K).all roB = true ∧ All2 (L2 κ) css.flatten ls.flatten ∧ All2 (fun a c => C.rel a ⟨H ++ K⟩ c) l css ∧ l.length = ls.length
  | [], _, ι, H, hs, hro => ⟨[], [], ι, [], .refl _, by rw [List.append_nil]; exact hs, by rw [List.append_nil]; exact hro, trivial, trivial, rfl⟩
  | c :: ls, h, ι, H, hs, hro => by
    obtain ⟨a, K, κ, c', h1, h2, h3, h4, h5⟩ := h c (List.mem_cons_self ..) ι H hs hro
    obtain ⟨l, K2, κ2, css, g1, g2, g3, g4, g5, g6⟩ := opens_many ls (fun x hx => h x (List.mem_cons_of_mem _ hx)) κ (H ++ K) h2 h3
    refine ⟨a :: l, K ++ K2, κ2, c' :: css, h1.trans g1, by rw [← List.append_assoc]; exact g2, by rw [← List.append_assoc]; exact g3, ?_, ⟨?_, ?_⟩, by simp [g6]⟩
    · rw [List.flatten_cons, List.flatten_cons]
      exact (h4.mono fun _ _ h => h.mono g1).append g4
    · rw [← List.append_assoc]
      exact C.ext h5 (ext_app _ _)
    · rw [← List.append_assoc]
      exact g5
theorem weights_all {Hn : Type} {P : Program} {e : TypeId} : ∀ {l : List (DataW Hn)} {d : DataW Hn}, d ∈ l → ∀ k ∈ d.weights P e, k ∈ DataW.weightsAll P e l
  | x :: l, d, h, k, hk => by
    simp only [DataW.weightsAll, List.mem_append]
    rcases List.mem_cons.1 h with rfl | h
    · exact .inl hk
    · exact .inr (weights_all h k hk)
theorem opens_list {α : Type} {P : Program} {C : NCod α} {t e : TypeId} {B : Nat} (hu : P.underlying t = some (.slice e)) (hc : P.cellsOf e = C.n) (hpos : 0 < C.n) (hB : P.bytesOf e = B) (h : Opens P C e) : Opens P (C.list B) t := by
  intro Hn enc W n cs y hy hw ι H hs hro
  rcases DataW.trod_slice hu hy with ⟨rfl, rfl⟩ | ⟨x, len, cap, elems, rest, m, _, rfl, rfl, _, hle, hm, hlen, he, hsp, _⟩
  · exact ⟨[], [], ι, [.slice none 0 0], .refl _, by rw [List.append_nil]; exact hs, by rw [List.append_nil]; exact hro, ⟨.l1 (.l0 .snil), trivial⟩, _, rfl, by simp, .inl ⟨rfl, rfl⟩⟩
  · obtain ⟨hr1, hr2⟩ := hsp rfl
    have hwt : (elems.length + rest.length) * B ≤ reachBytes := by
      have := hw ((elems.length + rest.length) * P.bytesOf e) (by simp [DataW.weights, hu])
      rwa [hB] at this
    have hwe : ∀ z ∈ elems, ∀ k ∈ z.1.weights P e, k ≤ reachBytes := fun z hz k hk => hw k (by
      simp only [DataW.weights, hu, List.mem_cons, List.mem_append]
      exact .inr (.inl (weights_all (List.mem_map_of_mem (f := (·.1)) hz) k hk)))
    have each : ∀ i, i < len → ∃ c z, W.cells? 0 (x.add (i * C.n)) C.n = some c ∧ OpensAt W C c := fun i hi => by
      have h1 := he i hi
      rw [List.getElem?_eq_getElem (by omega), hc, Option.bind_eq_some_iff] at h1
      obtain ⟨c, h2, h3⟩ := h1
      exact ⟨c, c, h2, h Hn enc W m c _ h3 (hwe _ (List.getElem_mem _))⟩
    obtain ⟨ls, hl1, hl2⟩ := choose_list (α := List Value) (p := fun i c => W.cells? 0 (x.add (i * C.n)) C.n = some c ∧ OpensAt W C c) len fun i hi => by
      obtain ⟨c, _, h1, h2⟩ := each i hi
      exact ⟨c, h1, h2⟩
    obtain ⟨l, K, κ, css, k1, k2, k3, k4, k5, k6⟩ := opens_many ls (fun c hc2 => by
      obtain ⟨i, hi, rfl⟩ := List.getElem_of_mem hc2
      exact (hl2 i hi).2) ι H hs hro
    have hcell : ∀ i, i < cap → ∃ v, W.cell? (x.add i) = some v := fun i hi => by
      have hq : i / C.n < cap := Nat.lt_of_le_of_lt (Nat.div_le_self _ _) hi
      have hj : i % C.n < C.n := Nat.mod_lt _ hpos
      have hsplit : i = i / C.n * C.n + i % C.n := by
        have := Nat.div_add_mod i C.n
        rw [Nat.mul_comm] at this
        exact this.symm
      have key : ∃ c, W.cells? 0 (x.add (i / C.n * C.n)) C.n = some c := by
        by_cases c : i / C.n < len
        · exact ⟨_, (hl2 _ (by omega)).1⟩
        · have := hr2 (i / C.n - len) (by omega)
          rw [show len + (i / C.n - len) = i / C.n by omega, List.getElem?_eq_getElem (by omega), hc, Option.bind_eq_some_iff] at this
          obtain ⟨c, h2, _⟩ := this
          exact ⟨c, h2⟩
      obtain ⟨c, hcc⟩ := key
      obtain ⟨_, h5, h6⟩ := World.cells?_some hcc
      have h7 := h6 _ hj
      rw [add_add, ← hsplit] at h7
      rw [h7]
      exact ⟨_, List.getElem?_eq_getElem (by omega)⟩
    have hflat : ∀ (ls : List (List Value)) (o : Nat), (∀ (i : Nat) (hi : i < ls.length), W.cells? 0 (x.add ((o + i) * C.n)) C.n = some ls[i]) → ∀ i v, ls.flatten[i]? = some v → W.cell? (x.add (o * C.n + i)) = some v := by
      intro ls
      induction ls with
      | nil => intro o _ i v hv; simp at hv
      | cons c ls ih =>
        intro o ho i v hv
        obtain ⟨_, h5, h6⟩ := World.cells?_some (ho 0 (by simp))
        rw [List.flatten_cons] at hv
        by_cases c1 : i < c.length
        · rw [List.getElem?_append_left c1] at hv
          have := h6 i (by simp at h5; omega)
          rw [add_add, Nat.add_zero] at this
          rw [this]
          exact hv
        · rw [List.getElem?_append_right (by omega)] at hv
          have := ih (o + 1) (fun i hi => by
            have := ho (i + 1) (by simp; omega)
            rw [show o + 1 + i = o + (i + 1) by omega]
            simpa using this) _ v hv
          simp only [List.getElem_cons_zero] at h5
          rw [h5, Nat.add_mul, Nat.one_mul] at this
          rwa [show o * C.n + C.n + (i - C.n) = o * C.n + i by omega] at this
    have hfl := hflat ls 0 (fun i hi => by rw [Nat.zero_add]; exact (hl2 i hi).1)
    obtain ⟨κ2, r1, r2, r3, r4⟩ := sim_row k2 k3 (cells := css.flatten) (.inr ⟨x, rfl, hle, hcell, fun i v hv => by
      obtain ⟨v', g1, g2⟩ := k4.get i v hv
      refine ⟨v', ?_, g2⟩
      have := hfl i v' g1
      rwa [Nat.zero_mul, Nat.zero_add] at this⟩)
    have hll : l.length = len := by rw [k6, hl1]
    refine ⟨l, K ++ [.row 0 css.flatten .ro], κ2, [sliceArg (H ++ K).length (some x) len], k1.trans r1, by rw [← List.append_assoc]; exact r2, by rw [← List.append_assoc]; exact r3, ⟨?_, trivial⟩, _, rfl, ?_, .inr ⟨(H ++ K).length, css, .ro, ?_, ?_, by simp, ?_⟩⟩
    · cases r4 with
      | va r4 => cases r4 with
        | l2 r4 => exact r4
    · rw [hll]
      exact Nat.le_trans (Nat.mul_le_mul_right _ (by omega)) hwt
    · rw [hll]; rfl
    · rw [← List.append_assoc]
      simp
    · rw [← List.append_assoc]
      exact All2.mono (R := fun a c => C.rel a ⟨H ++ K⟩ c) (fun a c h => C.ext (s := ⟨H ++ K⟩) h (ext_app (H ++ K) _)) k5
/-- the parts of a struct: each at its place -/
def OpensF {α : Type} (P : Program) (C : NCod α) (fs : List Field) (off : Nat) : Prop := ∀ (Hn : Type) (enc : TypeId × Value → Hn) (W : World) (n : Nat) (cs : List Value) (xs : List (DataW Hn × List MemPlace)), cs.length = off + C.n → xs.length = fs.length →
  (∀ (i : Nat) (f : Field), fs[i]? = some f → DataW.trod enc P W 0 (fun _ => true) true n f.type ((cs.drop f.offset).take (P.cellsOf f.type)) = xs[i]?) → (∀ k ∈ DataW.weightsEach P (fs.map (·.type)) (xs.map (·.1)), k ≤ reachBytes) → OpensAt W C (cs.drop off)
theorem opensF_nil {P : Program} {off : Nat} : OpensF P .unit [] off := by
  intro Hn enc W n cs xs hl _ _ _
  have : cs.drop off = [] := List.drop_eq_nil_of_le (by rw [hl]; exact Nat.le_refl _)
  rw [this]
  exact opens_unit
theorem opensF_cons {α β : Type} {P : Program} {A : NCod α} {B : NCod β} {f : Field} {fs : List Field} {off : Nat} (ho : f.offset = off) (hn : P.cellsOf f.type = A.n) (h : Opens P A f.type) (g : OpensF P B fs (off + A.n)) : OpensF P (A.pair B) (f :: fs) off := by
  intro Hn enc W n cs xs hl hx hf hw
  cases xs with
  | nil => simp at hx
  | cons x xs =>
    have h0 := hf 0 f rfl
    rw [ho, hn] at h0
    have hA := h Hn enc W n _ x h0 fun k hk => hw k (by simp only [List.map_cons, DataW.weightsEach, List.mem_append]; exact .inl hk)
    have hl2 : (A.pair B).n = A.n + B.n := rfl
    have hB := g Hn enc W n cs xs (by rw [hl, hl2]; omega) (by simpa using hx) (fun i f' hi => by have := hf (i + 1) f' (by simpa using hi); simpa using this) fun k hk => hw k (by simp only [List.map_cons, DataW.weightsEach, List.mem_append]; exact .inr hk)
    have hsp : cs.drop off = (cs.drop off).take A.n ++ cs.drop (off + A.n) := by rw [← List.drop_drop, List.take_append_drop]
    rw [hsp]
    exact opens_pair hA hB
theorem opens_struct {α : Type} {P : Program} {C : NCod α} {t : TypeId} {fs : Array Field} (hu : P.underlying t = some (.struct fs)) (hn : P.cellsOf t = C.n) (h : OpensF P C fs.toList 0) : Opens P C t := by
  intro Hn enc W n cs y hy hw
  obtain ⟨xs, m, _, rfl, hl, hlen, hf⟩ := DataW.trod_struct hu hy
  have := h Hn enc W m cs xs (by rw [hl, hn, Nat.zero_add]) (by simpa using hlen) (fun i f hi => hf i f (by simpa using hi)) fun k hk => hw k (by simp only [DataW.weights, hu]; exact hk)
  rwa [List.drop_zero] at this

/-! ### Leaves -/
def intC (k : IntKind) : Cod Int where
  n := 1
  enc i := [.int k i]
  pos := by decide
  len _ := rfl
  inj a b h := by simpa using h
  leaf _ := rfl
def blnC : Cod Bool where
  n := 1
  enc b := [.bool b]
  pos := by decide
  len _ := rfl
  inj a b h := by simpa using h
  leaf _ := rfl
def strgC : Cod (List UInt8) where
  n := 1
  enc k := [sv k]
  pos := by decide
  len _ := rfl
  inj a b h := by
    simp only [sv, List.cons.injEq, Value.string.injEq, ByteArray.mk.injEq, and_true] at h
    have := congrArg Array.toList h
    simpa using this
  leaf _ := rfl
theorem opens_int {P : Program} {t : TypeId} {k : IntKind} (hu : P.underlying t = some (.int k)) : Opens P (.ofC (intC k) fun i => (Lit.int k i).wf = true) t := by
  intro Hn enc W n cs y hy hw
  obtain ⟨i, rfl, _, h⟩ := DataW.trod_int hu hy
  exact opens_leaf ⟨i, rfl, h⟩
theorem opens_bool {P : Program} {t : TypeId} (hu : P.underlying t = some .bool) : Opens P (.ofC blnC fun _ => True) t := by
  intro Hn enc W n cs y hy hw
  obtain ⟨i, rfl, _⟩ := DataW.trod_bool hu hy
  exact opens_leaf ⟨i, rfl, trivial⟩
theorem opens_string {P : Program} {t : TypeId} (hu : P.underlying t = some .string) : Opens P (.ofC strgC fun k => k.length ≤ reachBytes) t := by
  intro Hn enc W n cs y hy hw
  obtain ⟨i, rfl, hyy, _⟩ := DataW.trod_string hu hy
  subst hyy
  refine opens_leaf ⟨i.data.toList, ?_, hw _ (by simp [DataW.weights])⟩
  show _ = [sv _]
  rw [← sv_of]

/-! ### A law's argument -/
/-- a struct -/
def NArg {α : Type} (C : NCod α) (a : α) (s : St) (v : Value) : Prop := ∃ cs, v = .agg cs.toArray ∧ C.rel a s cs
theorem NArg.ext {α : Type} {C : NCod α} {a : α} {s t : St} {v : Value} (h : NArg C a s v) (hx : Ext s.heap.length s t) : NArg C a t v := by
  obtain ⟨cs, rfl, h1⟩ := h
  exact ⟨cs, rfl, C.ext h1 hx⟩
theorem ListN.ext {α : Type} {C : NCod α} {B : Nat} {l : List α} {s t : St} {v : Value} (h : ListN C B l s v) (hx : Ext s.heap.length s t) : ListN C B l t v := by
  obtain ⟨v', e, h1⟩ := (C.list B).ext (s := s) (t := t) (cs := [v]) ⟨v, rfl, h⟩ hx
  cases e
  exact h1
theorem nest_w {Hn : Type} {P : Program} {ts : List TypeId} {ds : List (DataW Hn)} (h : (DataW.weightsEach P ts ds).all (· ≤ reachBytes) = true) {j : Nat} {t : TypeId} {d : DataW Hn} (ht : ts[j]? = some t) (hd : ds[j]? = some d) : ∀ k ∈ d.weights P t, k ≤ reachBytes := fun k hk => by
  have := List.all_eq_true.1 h _ (DataW.weights_mem_each ht hd k hk)
  simpa using this
theorem open_nest {α : Type} {Hn : Type} {enc : TypeId × Value → Hn} {P : Program} {W : World} {C : NCod α} {t : TypeId} (hO : Opens P C t) {v : Value} {d : DataW Hn} {ps : List MemPlace} (h : DataW.Trod enc P W 0 (fun _ => true) true t v d ps) (hw : ∀ k ∈ d.weights P t, k ≤ reachBytes) : OpensAt W C v.cells.toList := by
  obtain ⟨fuel, hf⟩ := h
  exact hO Hn enc W fuel _ _ hf hw
theorem sim_nest {α : Type} {W : World} {C : NCod α} {cs : Array Value} (hO : OpensAt W C cs.toList) {ι : Emb} {H : List Blk} (h : Sim W.heap.size ι H W) (hro : H.all roB = true) :
    ∃ (a : α) (K : List Blk) (v : Value), NArg C a ⟨H ++ K⟩ v ∧ ∃ κ, ι.le κ ∧ Sim W.heap.size κ (H ++ K) W ∧ (H ++ K).all roB = true ∧ VRel κ v (.agg cs) := by
  obtain ⟨a, K, κ, cs', h1, h2, h3, h4, h5⟩ := hO ι H h hro
  exact ⟨a, K, _, ⟨cs', rfl, h5⟩, κ, h1, h2, h3, .va (.agg (by simpa using h4))⟩
theorem sim_nestL {α : Type} {W : World} {C : NCod α} {B : Nat} {v0 : Value} (hO : OpensAt W (C.list B) [v0]) {ι : Emb} {H : List Blk} (h : Sim W.heap.size ι H W) (hro : H.all roB = true) :
    ∃ (l : List α) (K : List Blk) (v : Value), ListN C B l ⟨H ++ K⟩ v ∧ ∃ κ, ι.le κ ∧ Sim W.heap.size κ (H ++ K) W ∧ (H ++ K).all roB = true ∧ VRel κ v v0 := by
  obtain ⟨l, K, κ, cs', h1, h2, h3, h4, v, rfl, h5⟩ := hO ι H h hro
  exact ⟨l, K, v, h5, κ, h1, h2, h3, .va (.l2 h4.1)⟩
/-- a list of plain things, as elsewhere -/
theorem ListN.plain {α : Type} {C : Cod α} {Pr : α → Prop} {B : Nat} {l : List α} {s : St} {v : Value} (h : ListN (.ofC C Pr) B l s v) : listOf C v s = some l ∧ (∀ a ∈ l, Pr a) ∧ l.length * B ≤ 140737488351232 := by
  obtain ⟨h1, h2⟩ := h
  rcases h2 with ⟨rfl, rfl⟩ | ⟨b, css, st, rfl, g2, g3, g4⟩
  · exact ⟨list_nil s, fun a ha => (by cases ha), h1⟩
  · have key : ∀ {l : List α} {css : List (List Value)}, All2 (fun a c => (NCod.ofC C Pr).rel a s c) l css → css.flatten = encL C l ∧ ∀ a ∈ l, Pr a := by
      intro l
      induction l with
      | nil => intro css h; cases css with
        | nil => exact ⟨rfl, fun a ha => by cases ha⟩
        | cons => exact h.elim
      | cons a l ih => intro css h; cases css with
        | nil => exact h.elim
        | cons c css =>
          obtain ⟨⟨e, hp⟩, h2⟩ := h
          obtain ⟨i1, i2⟩ := ih h2
          refine ⟨by rw [List.flatten_cons, i1, encL_cons, e], fun x hx => ?_⟩
          rcases List.mem_cons.1 hx with rfl | hx
          · exact hp
          · exact i2 x hx
    obtain ⟨k1, k2⟩ := key g4
    refine ⟨(listOf_iff C).2 ?_, k2, h1⟩
    have hr : readRow s b = some (encL C l) := by
      unfold Ab.readRow
      rw [g2, k1]
      cases st with
      | dead => exact absurd rfl g3
      | act => rfl
      | ro => rfl
    simp only [cellsOf, Nat.le_refl, if_true, readN, hr, Option.bind_some, Nat.zero_add]
    rw [if_pos (by rw [encL_len]; exact Nat.le_refl _), List.drop_zero, ← encL_len C, List.take_length]

end Go.Proofs.Ytamaapapaiopiaa.Ab
