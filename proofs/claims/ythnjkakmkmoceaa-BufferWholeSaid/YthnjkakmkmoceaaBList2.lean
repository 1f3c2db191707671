/- Lists of one's own that are written into, shortened, made longer. -/
import Derived.Test.YthnjkakmkmoceaaBList
import Derived.Test.YthnjkakmkmoceaaBIns
set_option linter.unusedVariables false
set_option linter.unusedSimpArgs false
set_option linter.unusedSectionVars false
namespace Go.Proofs.Ythnjkakmkmoceaa.Ab
open Go

def blkOf : Value → Option Nat
  | .slice (some a) _ _ => some a.block
  | _ => none
/-- nothing has changed but in one block -/
def Keep (B : Option Nat) (s t : St) : Prop := s.heap.length ≤ t.heap.length ∧ ∀ c, c < s.heap.length → B ≠ some c → t.heap[c]? = s.heap[c]?
def Fresh (s : St) (v v' : Value) : Prop := blkOf v' = blkOf v ∨ ∀ c, blkOf v' = some c → s.heap.length ≤ c
theorem Keep.refl (B : Option Nat) (s : St) : Keep B s s := ⟨Nat.le_refl _, fun _ _ _ => rfl⟩
theorem Keep.ext {N : Nat} {v : Value} {s t : St} (h : Keep (blkOf v) s t) (hN : N ≤ s.heap.length) (hb : ∀ c, blkOf v = some c → N ≤ c) : Ext N s t :=
  ⟨h.1, fun c hc => h.2 c (by omega) fun e => by have := hb c e; omega⟩
theorem Ext.keep {B : Option Nat} {s t : St} (h : Ext s.heap.length s t) : Keep B s t := ⟨h.1, fun c hc _ => h.2 c hc⟩
theorem putB_get {s : St} {b : Nat} {B : Blk} (h : b < s.heap.length) : (s.putB b B).heap[b]? = some B := by
  simp only [St.putB]
  rw [List.getElem?_set_self h]
theorem putB_same {s : St} {b : Nat} {B : Blk} (h : s.heap[b]? = some B) : s.putB b B = s := by
  obtain ⟨hlt, e⟩ := List.getElem?_eq_some_iff.1 h
  cases s
  simp only [St.putB, St.mk.injEq] at *
  rw [← e, List.set_getElem_self]
theorem putB_keep {s : St} {b : Nat} {B : Blk} : Keep (some b) s (s.putB b B) := ⟨by simp [St.putB], fun c _ hc => by
  simp only [St.putB]
  rw [List.getElem?_set_ne (fun e => hc (by rw [e]))]⟩
theorem Keep.trans {B : Option Nat} {s t u : St} (h : Keep B s t) (g : Keep B t u) : Keep B s u := ⟨Nat.le_trans h.1 g.1, fun c hc hB => (g.2 c (Nat.lt_of_lt_of_le hc h.1) hB).trans (h.2 c hc hB)⟩
/-- a list that lies elsewhere -/
theorem Keep.list {α : Type} {C : Cod α} {B : Option Nat} {s t : St} (h : Keep B s t) {v : Value} {l : List α} (hv : listOf C v s = some l) (hb : ∀ c, blkOf v = some c → B ≠ some c) : listOf C v t = some l := by
  refine (listOf_iff C).2 ?_
  have hc := (listOf_iff C).1 hv
  unfold cellsOf at hc ⊢
  split at hc
  · exact hc
  · rename_i b o len cap
    split at hc
    case isFalse => cases hc
    rename_i hlc
    rw [if_pos hlc]
    unfold readN at hc ⊢
    cases hr : Ab.readRow s b with
    | none => rw [hr] at hc; cases hc
    | some row =>
      have hlt := readRow_lt hr
      have : Ab.readRow t b = Ab.readRow s b := by
        unfold Ab.readRow
        rw [h.2 b hlt (hb b rfl)]
      rw [this]; exact hc
  · cases hc

section
variable {α : Type} {C : Cod α}
theorem OwnC.blk {N : Nat} {s : St} {v : Value} {l : List α} (h : OwnC C N s v l) : ∀ c, blkOf v = some c → N ≤ c ∧ c < s.heap.length := by
  intro c hc
  rcases h with ⟨rfl, _⟩ | ⟨b, cap, rest, rfl, h1, h2, _⟩
  · cases hc
  · cases hc
    exact ⟨h1, (List.getElem?_eq_some_iff.1 h2).1⟩
theorem OwnC.mono {N M : Nat} {s : St} {v : Value} {l : List α} (h : OwnC C N s v l) (hM : M ≤ N) : OwnC C M s v l := by
  rcases h with h | ⟨b, cap, rest, e, h1, h2⟩
  · exact .inl h
  · exact .inr ⟨b, cap, rest, e, by omega, h2⟩
theorem OwnC.keep {N : Nat} {B : Option Nat} {s t : St} {v : Value} {l : List α} (h : OwnC C N s v l) (k : Keep B s t) (hb : ∀ c, blkOf v = some c → B ≠ some c) : OwnC C N t v l := by
  rcases h with h | ⟨b, cap, rest, rfl, h1, h2, h3⟩
  · exact .inl h
  · exact .inr ⟨b, cap, rest, rfl, h1, by rw [k.2 b (List.getElem?_eq_some_iff.1 h2).1 (hb b rfl)]; exact h2, h3⟩
theorem OwnC.notup {N : Nat} {s : St} {v : Value} {l : List α} (h : OwnC C N s v l) : noTup v = true := by
  rcases h with ⟨rfl, _⟩ | ⟨b, cap, rest, rfl, _⟩ <;> rfl

theorem room_mono {q p w : Nat} (h : q ≤ p) (hr : roomA p w) : roomA q w := by
  rcases hr with g | g
  · exact .inl (Nat.le_trans (Nat.mul_le_mul_right _ h) g)
  · exact .inr (Nat.le_trans (Nat.mul_le_mul_right _ (by omega)) g)
theorem rep_all {z : List Value} (h : z.all leafOk = true) : ∀ n, (repCells z n).all leafOk = true
  | 0 => rfl
  | n + 1 => by rw [repCells, List.all_append, h, rep_all h n]; rfl
theorem rep_len (z : List Value) : ∀ n, (repCells z n).length = n * z.length
  | 0 => by simp [repCells]
  | n + 1 => by rw [repCells, List.length_append, rep_len z n, Nat.add_mul]; omega

/-- some are taken out -/
theorem ownC_del {N w : Nat} {s : St} {v : Value} {l : List α} (h : OwnC C N s v l) {i j : Nat} (hij : i < j) (hj : j ≤ l.length) (hw : 0 < w) (hb : roomA l.length w) {z : List Value} (hz : z.length = C.n) (hzl : z.all leafOk = true) {n : Nat} (hn : n = C.n) :
    ∃ v4 v5 v6 v8 s2 t, asliceV n v none (some (.int .i64 (i : Int))) none = some v4 ∧ asliceV n v (some (.int .i64 (j : Int))) none none = some v5 ∧ aappend n w v4 v5 s = some (v6, s2) ∧ s.heap.length ≤ s2.heap.length ∧
      (∀ e, alenV (.slice e) v6 s2 = some (.int .i64 ((i + (l.length - j) : Nat) : Int))) ∧ asliceV n v6 (some (.int .i64 ((i + (l.length - j) : Nat) : Int))) (some (.int .i64 ((l.length : Nat) : Int))) none = some v8 ∧ aclear n z v8 s2 = some t ∧
      OwnC C N t v6 (l.take i ++ l.drop j) ∧ Keep (blkOf v) s t ∧ blkOf v6 = blkOf v := by
  subst hn
  rcases h with ⟨_, rfl⟩ | ⟨b, cap, rest, rfl, h1, h2, h3, h4⟩
  · simp at hj; omega
  have hle : l.length ≤ cap := OwnC.cap_le (N := N) (s := s) (b := b) (len := l.length) h3
  have hpos := C.pos
  have m1 : i * C.n ≤ l.length * C.n := Nat.mul_le_mul_right _ (by omega)
  have m2 : j * C.n ≤ l.length * C.n := Nat.mul_le_mul_right _ hj
  have m3 : (i + (l.length - j)) * C.n = i * C.n + (l.length * C.n - j * C.n) := by rw [Nat.add_mul, Nat.sub_mul]
  have m4 : i * C.n + C.n ≤ j * C.n := by rw [← Nat.succ_mul]; exact Nat.mul_le_mul_right _ hij
  have m5 : (l.length - j) * C.n = l.length * C.n - j * C.n := Nat.sub_mul _ _ _
  have m6 : (j - i) * C.n = j * C.n - i * C.n := Nat.sub_mul _ _ _
  have hll : (encL C l).length = l.length * C.n := encL_len C l
  have hbl : b < s.heap.length := (List.getElem?_eq_some_iff.1 h2).1
  -- the parts
  have e4 : asliceV C.n (.slice (some ⟨b, 0, none⟩) l.length cap) none (some (.int .i64 (i : Int))) none = some (.slice (some ⟨b, 0, none⟩) i cap) := by
    simp only [asliceV, asliceSl, abound, Int.toNat_natCast, Option.isNone_none, Bool.true_or, if_true, Option.bind_some]
    rw [if_pos (by omega)]
    simp only [Option.bind_some]
    rw [if_pos (by omega)]
    simp [cutRow]
  have e5 : asliceV C.n (.slice (some ⟨b, 0, none⟩) l.length cap) (some (.int .i64 (j : Int))) none none = some (.slice (some ⟨b, j * C.n, none⟩) (l.length - j) (cap - j)) := by
    simp only [asliceV, asliceSl, abound, Int.toNat_natCast, Option.isNone_none, Bool.true_or, if_true, Option.bind_some]
    rw [if_pos (by omega)]
    simp only [Option.bind_some]
    rw [if_pos (by omega)]
    simp [cutRow]
  have hread : elemsOf C.n (.slice (some ⟨b, j * C.n, none⟩) (l.length - j) (cap - j)) s = some (encL C (l.drop j)) := by
    show readN s b (j * C.n) ((l.length - j) * C.n) = _
    unfold readN Ab.readRow
    rw [h2]
    simp only [Option.bind_some]
    rw [if_pos (by rw [List.length_append]; omega)]
    congr 1
    rw [List.drop_append_of_le_length (by omega), encL_drop, List.take_append_of_le_length (by rw [encL_len, List.length_drop]; omega), List.take_of_length_le (by rw [encL_len, List.length_drop]; omega)]
  have hdl : (encL C (l.drop j)).length = (l.length - j) * C.n := by rw [encL_len, List.length_drop]
  -- in its place
  have hput : ∃ r2 : List Value, (encL C (l.take i) ++ encL C (l.drop j) ++ r2).length = cap * C.n ∧ r2.all leafOk = true ∧ (j - i) * C.n ≤ r2.length ∧ aappend C.n w (.slice (some ⟨b, 0, none⟩) i cap) (.slice (some ⟨b, j * C.n, none⟩) (l.length - j) (cap - j)) s = some (.slice (some ⟨b, 0, none⟩) (i + (l.length - j)) cap, s.putB b (.row C.n (encL C (l.take i) ++ encL C (l.drop j) ++ r2) .act)) := by
    refine ⟨(encL C l ++ rest).drop (i * C.n + (l.length - j) * C.n), ?_, ?_, ?_, ?_⟩
    · rw [← encL_append, List.length_append, encL_len, List.length_append, List.length_take, List.length_drop, List.length_drop, h3, show min i l.length = i by omega, m3]
      rw [List.length_append] at h3
      omega
    · rw [List.all_eq_true]
      intro x hx
      have := List.mem_of_mem_drop hx
      rcases List.mem_append.1 this with g | g
      · exact List.all_eq_true.1 (encL_leaf C l) x g
      · exact List.all_eq_true.1 h4 x g
    · rw [List.length_drop, h3]
      rw [List.length_append] at h3
      omega
    · unfold aappend
      rw [if_pos hw]
      simp only [lenV, Option.bind_some, hread]
      have hroom : roomA (i + (l.length - j)) w := room_mono (by omega) hb
      rw [if_pos hroom, if_pos (by omega)]
      have hrow : encL C l ++ rest = encL C (l.take i) ++ (encL C l ++ rest).drop (i * C.n) := by
        conv => lhs; rw [← List.take_append_drop (i * C.n) (encL C l ++ rest)]
        rw [List.take_append_of_le_length (by omega), encL_take]
      by_cases hm : l.length - j = 0
      · rw [if_pos hm, hm]
        have hd : l.drop j = [] := List.drop_eq_nil_of_le (by omega)
        rw [hd, encL_nil, List.append_nil, Nat.zero_mul, Nat.add_zero, Nat.add_zero, ← hrow]
        rw [putB_same h2]
      · rw [if_neg hm]
        unfold writeN
        rw [h2]
        simp only [Nat.zero_add]
        rw [if_pos (by rw [hdl, List.length_append]; omega)]
        simp only [Option.map_some]
        congr 3
        unfold putCells
        rw [List.take_append_of_le_length (by omega), encL_take, hdl]
  obtain ⟨r2, g1, g2, g3, g4⟩ := hput
  have e8 : asliceV C.n (.slice (some ⟨b, 0, none⟩) (i + (l.length - j)) cap) (some (.int .i64 ((i + (l.length - j) : Nat) : Int))) (some (.int .i64 ((l.length : Nat) : Int))) none = some (.slice (some ⟨b, (i + (l.length - j)) * C.n, none⟩) (j - i) (cap - (i + (l.length - j)))) := by
    simp only [asliceV, asliceSl, abound, Int.toNat_natCast, Option.isNone_none, Bool.true_or, if_true, Option.bind_some]
    rw [if_pos (by omega), if_pos (by omega)]
    simp only [Option.bind_some]
    rw [if_pos (by omega)]
    simp only [cutRow, Nat.zero_add]
    rw [show l.length - (i + (l.length - j)) = j - i by omega]
  have hb2 : (s.putB b (.row C.n (encL C (l.take i) ++ encL C (l.drop j) ++ r2) .act)).heap[b]? = some (.row C.n (encL C (l.take i) ++ encL C (l.drop j) ++ r2) .act) := putB_get hbl
  have htl : (encL C (l.take i) ++ encL C (l.drop j)).length = (i + (l.length - j)) * C.n := by
    rw [← encL_append, encL_len, List.length_append, List.length_take, List.length_drop, show min i l.length = i by omega]
  have hclr : aclear C.n z (.slice (some ⟨b, (i + (l.length - j)) * C.n, none⟩) (j - i) (cap - (i + (l.length - j)))) (s.putB b (.row C.n (encL C (l.take i) ++ encL C (l.drop j) ++ r2) .act)) = some ((s.putB b (.row C.n (encL C (l.take i) ++ encL C (l.drop j) ++ r2) .act)).putB b (.row C.n (encL C (l.take i) ++ encL C (l.drop j) ++ (repCells z (j - i) ++ r2.drop ((j - i) * C.n))) .act)) := by
    obtain ⟨q, hq⟩ : ∃ q, j - i = q + 1 := ⟨j - i - 1, by omega⟩
    unfold aclear
    rw [hq]
    simp only
    rw [if_pos ⟨hz, leaf_isLeaf hzl⟩]
    unfold writeN
    rw [hb2]
    simp only
    have hrl : (repCells z (q + 1)).length = (j - i) * C.n := by rw [rep_len, hz, hq]
    rw [if_pos (by rw [hrl, List.length_append, htl]; omega)]
    congr 3
    unfold putCells
    rw [hrl, ← htl, List.take_left, ← List.drop_drop, List.drop_left, List.append_assoc, hq]
  refine ⟨_, _, _, _, _, _, e4, e5, g4, by simp [St.putB], fun e => rfl, e8, hclr, .inr ⟨b, cap, repCells z (j - i) ++ r2.drop ((j - i) * C.n), ?_, h1, ?_, ?_, ?_⟩, putB_keep.trans putB_keep, rfl⟩
  · rw [List.length_append, List.length_take, List.length_drop, show min i l.length = i by omega]
  · rw [encL_append]
    exact putB_get (by simpa [St.putB] using hbl)
  · have g5 := g1
    simp only [encL_append, List.length_append, rep_len, hz, List.length_drop] at g5 ⊢
    omega
  · rw [List.all_append, rep_all hzl, List.all_eq_true.2 fun x hx => List.all_eq_true.1 g2 x (List.mem_of_mem_drop hx)]
    rfl

/-- a part of one is written -/
theorem ownC_set {N : Nat} {s : St} {v : Value} {l : List α} (h : OwnC C N s v l) {i k : Nat} (hi : i < l.length) {a : α} {x : Value} (hk : k < C.n) (hx : cellsV x = [x]) (hxl : leafOk x = true) (ha : C.enc a = (C.enc l[i]).set k x) {kd : IntKind} {n : Nat} (hn : n = C.n) :
    ∃ p q t, aindexS n v (.int kd (i : Int)) = some p ∧ afieldAddr k p = some q ∧ astore 1 q x s = some t ∧ OwnC C N t v (l.set i a) ∧ Keep (blkOf v) s t := by
  subst hn
  rcases h with ⟨_, rfl⟩ | ⟨b, cap, rest, rfl, h1, h2, h3, h4⟩
  · simp at hi
  have hbl : b < s.heap.length := (List.getElem?_eq_some_iff.1 h2).1
  have hxi : isLeaf x = true := by
    have := leaf_isLeaf (l := [x]) (by simp [hxl])
    simpa using this
  have m1 : i * C.n + C.n ≤ l.length * C.n := by rw [← Nat.succ_mul]; exact Nat.mul_le_mul_right _ hi
  have hll : (encL C l).length = l.length * C.n := encL_len C l
  have hset : ∀ (l : List α) (i : Nat) (hi : i < l.length), C.enc a = (C.enc l[i]).set k x → (encL C l).set (i * C.n + k) x = encL C (l.set i a) := by
    intro l
    induction l with
    | nil => intro i hi; simp at hi
    | cons y l ih =>
      intro i hi ha
      cases i with
      | zero =>
        rw [encL_cons, Nat.zero_mul, Nat.zero_add, List.set_append_left _ _ (by rw [C.len]; exact hk), List.set_cons_zero, encL_cons]
        simp only [List.getElem_cons_zero] at ha
        rw [ha]
      | succ i =>
        rw [encL_cons, List.set_append_right _ _ (by rw [C.len, Nat.add_mul]; omega), C.len, List.set_cons_succ, encL_cons]
        rw [show (i + 1) * C.n + k - C.n = i * C.n + k by rw [Nat.add_mul]; omega]
        rw [ih i (by simpa using hi) (by simpa using ha)]
  have hput : putCells (encL C l ++ rest) (i * C.n + k) [x] = encL C (l.set i a) ++ rest := by
    have e1 : putCells (encL C l ++ rest) (i * C.n + k) [x] = (encL C l ++ rest).set (i * C.n + k) x := by
      unfold putCells
      rw [List.set_eq_take_append_cons_drop, if_pos (by rw [List.length_append]; omega)]
      simp
    rw [e1, List.set_append_left _ _ (by omega), hset l i hi ha]
  refine ⟨.pointer (some ⟨b, i * C.n, none⟩), .pointer (some ⟨b, i * C.n + k, none⟩), s.putB b (.row C.n (encL C (l.set i a) ++ rest) .act), by simp [aindexS, hi], rfl, ?_, .inr ⟨b, cap, rest, by rw [List.length_set], h1, putB_get hbl, ?_, h4⟩, putB_keep⟩
  · unfold astore writeN
    simp only [hx, List.length_singleton, List.all_cons, hxi, List.all_nil, Bool.and_self, true_and, if_true, h2]
    rw [if_pos (by rw [List.length_append]; omega), hput]
  · rw [← h3, List.length_append, List.length_append, encL_len, encL_len, List.length_set]

/-- one more at the end -/
theorem ownC_push {N w : Nat} {s : St} {v y : Value} {l : List α} {a : α} (h : OwnC C N s v l) (hN : N ≤ s.heap.length) (hw : 0 < w) (hy : listOf C y s = some [a]) (hb : roomA (l.length + 1) w) {n : Nat} (hn : n = C.n) :
    ∃ v' t, aappend n w v y s = some (v', t) ∧ OwnC C N t v' (l ++ [a]) ∧ Keep (blkOf v) s t ∧ Fresh s v v' ∧ (∀ c, blkOf v' = some c → N ≤ c) := by
  subst hn
  have hpos := C.pos
  have hel : encL C [a] = C.enc a := by simp [encL]
  unfold aappend
  rw [if_pos hw, list_lenV hy, list_elems hy]
  simp only [Option.bind_some, List.length_cons, List.length_nil, Nat.zero_add, hel]
  rcases h with ⟨rfl, rfl⟩ | ⟨b, cap, rest, rfl, h1, h2, h3, h4⟩
  · simp only
    rw [if_pos (by simpa using hb), if_neg (by omega)]
    refine ⟨_, _, rfl, .inr ⟨s.heap.length, 1, [], rfl, hN, ?_, ?_, rfl⟩, (Ext.push _ (Nat.le_refl _) _).keep, .inr fun c hc => ?_, fun c hc => ?_⟩
    · rw [List.append_nil, List.nil_append, hel]; exact push_get
    · rw [List.append_nil, List.nil_append, hel, C.len, Nat.one_mul]
    · cases hc; exact Nat.le_refl _
    · cases hc; exact hN
  · have hle : l.length ≤ cap := OwnC.cap_le (N := N) (s := s) (b := b) (len := l.length) h3
    have hll : (encL C l).length = l.length * C.n := encL_len C l
    have hbl : b < s.heap.length := (List.getElem?_eq_some_iff.1 h2).1
    simp only
    rw [if_pos hb]
    by_cases hc : l.length + 1 ≤ cap
    · have hc2 : (l.length + 1) * C.n ≤ cap * C.n := Nat.mul_le_mul_right _ hc
      rw [Nat.add_mul] at hc2
      have h3' := h3
      rw [List.length_append] at h3'
      rw [if_pos hc, if_neg (by omega)]
      refine ⟨.slice (some ⟨b, 0, none⟩) (l.length + 1) cap, s.putB b (.row C.n (encL C (l ++ [a]) ++ rest.drop C.n) .act), ?_, .inr ⟨b, cap, rest.drop C.n, by simp, h1, putB_get hbl, ?_, ?_⟩, putB_keep, .inl rfl, fun c hc => by cases hc; exact h1⟩
      · unfold writeN
        rw [h2]
        simp only [Nat.zero_add]
        rw [if_pos (by rw [C.len, List.length_append]; omega)]
        simp only [Option.map_some]
        congr 3
        unfold putCells
        rw [← hll, List.take_left, C.len, ← List.drop_drop, List.drop_left, encL_append, hel]
      · rw [encL_append, List.length_append, List.length_append, List.length_drop, hel, C.len]
        omega
      · rw [List.all_eq_true]
        intro x hx
        exact List.all_eq_true.1 h4 x (List.mem_of_mem_drop hx)
    · have hcap : l.length = cap := by omega
      have h3' := h3
      rw [List.length_append, hll, ← hcap] at h3'
      have hr : rest = [] := List.eq_nil_of_length_eq_zero (by omega)
      subst hr
      rw [List.append_nil] at h2
      rw [if_neg hc, h2]
      simp only
      rw [if_pos ⟨trivial, trivial, hll.symm⟩]
      have hlen2 : s.heap.length = (s.putB b (.row C.n (encL C l) .dead)).heap.length := by simp [St.putB]
      refine ⟨_, _, rfl, .inr ⟨s.heap.length, l.length + 1, [], by simp, hN, ?_, ?_, rfl⟩, ?_, .inr fun c hc => ?_, fun c hc => ?_⟩
      · rw [List.append_nil, encL_append, hel, hlen2]
        exact push_get
      · rw [List.append_nil, encL_len]; simp
      · exact putB_keep.trans (Ext.push _ (Nat.le_refl _) _).keep
      · cases hc; exact Nat.le_refl _
      · cases hc; exact hN
end

end Go.Proofs.Ythnjkakmkmoceaa.Ab
