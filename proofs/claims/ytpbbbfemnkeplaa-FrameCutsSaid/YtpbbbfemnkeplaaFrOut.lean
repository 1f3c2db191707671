/- Functions that hand back bytes of their own, and an error's number. -/
import Derived.Test.YtpbbbfemnkeplaaFxBase
import Derived.Test.YtpbbbfemnkeplaaFxEnc
set_option linter.unusedVariables false
set_option linter.unusedSimpArgs false
set_option linter.unusedSectionVars false
namespace Go.Proofs.Ytpbbbfemnkeplaa.Ab
open Go

def pkE (v : Value) : Value := .tuple #[v, .int .i64 0]
/-- a plain value, or new bytes -/
def outS (k : Value → Value) (s : St) : Value ⊕ List UInt8 → Value × St
  | .inl v => (v, s)
  | .inr l => (k (newBytes l s).1, (newBytes l s).2)
theorem SumOk.out {k : Value → Value} (hk : k = id ∨ k = pkE) {P : Program} {lib : Lib} {hints : Hints} {f : FuncId} {G : List Value → St → Option (Value ⊕ List UInt8)}
    (h1 : ∀ args s v, G args s = some (.inl v) → plainV v = true ∧ ∃ t0, run P lib hints f args (frzS s) = some (v, t0))
    (h2 : ∀ args s l, G args s = some (.inr l) → ∃ b t0, run P lib hints f args (frzS s) = some (k (.slice (some ⟨b, 0, none⟩) l.length l.length), t0) ∧ s.heap.length ≤ b ∧ t0.heap[b]? = some (.row 1 (bv l) .act)) :
    SumOk P lib hints f fun args s => (G args s).map (outS k s) := by
  intro args s v t hg
  simp only [Option.map_eq_some_iff] at hg
  obtain ⟨r, hr, e⟩ := hg
  cases r with
  | inl u =>
    cases e
    obtain ⟨g1, t0, g2⟩ := h1 args s v hr
    refine ⟨[], v, t0, fun _ => 0, by simp, g2, .pure ?_⟩
    cases v with
    | tuple a =>
      have := Vw.tup (ρ := renum s.heap.length fun _ => 0) (D := s.heap.length) (l := a.toList) g1
      simpa using this
    | _ => exact Vw.const g1
  | inr l =>
    cases e
    obtain ⟨b, t0, g1, g2, g3⟩ := h2 args s l hr
    have hv := Vw0.row (N := s.heap.length) (i := b) (off := 0) (Nat.le_refl l.length) (Nat.le_refl l.length)
    refine ⟨_, _, t0, _, rfl, g1, .row g2 g3 (fun _ _ h => h) bv_leaf ?_⟩
    rcases hk with rfl | rfl
    · exact .va (.l2 (.l1 (.l0 hv)))
    · refine .tuple (a := #[(.slice (some ⟨s.heap.length, 0, none⟩) l.length l.length), .int .i64 0]) (a' := #[(.slice (some ⟨b, 0, none⟩) l.length l.length), .int .i64 0]) ⟨.l2 (.l1 (.l0 hv)), .l2 (.l1 (.l0 (.same _ rfl))), trivial⟩

theorem Own.row {N : Nat} {s : St} {v : Value} {l : List UInt8} (h : Own N 1 s v (bv l)) (hl : l ≠ []) : ∃ b, v = .slice (some ⟨b, 0, none⟩) l.length l.length ∧ N ≤ b ∧ s.heap[b]? = some (.row 1 (bv l) .act) := by
  rcases h with ⟨_, h3⟩ | ⟨b, len, rfl, h4, h5, h6, h7⟩
  · exact absurd (bv_inj (m := []) h3) hl
  · rw [bv_length, Nat.mul_one] at h6
    subst h6
    exact ⟨b, rfl, h4, h5⟩
theorem row_own {N : Nat} {s : St} {l : List UInt8} {b : Nat} (hN : N ≤ b) (h : s.heap[b]? = some (.row 1 (bv l) .act)) (hl : l ≠ []) : Own N 1 s (.slice (some ⟨b, 0, none⟩) l.length l.length) (bv l) :=
  .inr ⟨b, l.length, rfl, hN, h, by rw [bv_length, Nat.mul_one], List.length_pos_iff.2 hl⟩

theorem keep_ext {s t : St} (h : ∀ c, c < s.heap.length → t.heap[c]? = s.heap[c]?) : Ext s.heap.length s t := ⟨by
  by_cases e : s.heap.length = 0
  · omega
  · have h2 := h (s.heap.length - 1) (by omega)
    have h3 : s.heap[s.heap.length - 1]? = some s.heap[s.heap.length - 1] := List.getElem?_eq_getElem (by omega)
    rw [h3] at h2
    have := (List.getElem?_eq_some_iff.1 h2).1
    omega, h⟩

/-! ### Slices laid together -/
def partsOf (s : St) : List Value → Option (List (List UInt8))
  | [] => some []
  | v :: l => (bytesOf v s).bind fun b => (partsOf s l).map fun r => b :: r
theorem partsOf_len {s : St} : ∀ {vs : List Value} {ls : List (List UInt8)}, partsOf s vs = some ls → ls.length = vs.length
  | [], _, h => by cases h; rfl
  | v :: vs, ls, h => by
    simp only [partsOf, Option.bind_eq_some_iff, Option.map_eq_some_iff] at h
    obtain ⟨b, _, r, hr, rfl⟩ := h
    simp [partsOf_len hr]
theorem partsOf_get {s : St} : ∀ {vs : List Value} {ls : List (List UInt8)} {i : Nat}, partsOf s vs = some ls → (hi : i < vs.length) → ∃ l, ls[i]? = some l ∧ bytesOf vs[i] s = some l
  | [], _, i, _, hi => by simp at hi
  | v :: vs, ls, i, h, hi => by
    simp only [partsOf, Option.bind_eq_some_iff, Option.map_eq_some_iff] at h
    obtain ⟨b, hb, r, hr, rfl⟩ := h
    cases i with
    | zero => exact ⟨b, rfl, hb⟩
    | succ i =>
      obtain ⟨l, h1, h2⟩ := partsOf_get hr (i := i) (by simpa using hi)
      exact ⟨l, by simpa using h1, by simpa using h2⟩
theorem partsOf_ext {s s' : St} (h : ∀ v l, bytesOf v s = some l → bytesOf v s' = some l) : ∀ {vs : List Value} {ls : List (List UInt8)}, partsOf s vs = some ls → partsOf s' vs = some ls
  | [], _, h2 => h2
  | v :: vs, ls, h2 => by
    simp only [partsOf, Option.bind_eq_some_iff, Option.map_eq_some_iff] at h2 ⊢
    obtain ⟨b, hb, r, hr, rfl⟩ := h2
    exact ⟨b, h _ _ hb, r, partsOf_ext h hr, rfl⟩
def gConcat : Sum := fun xs s => (match xs with
  | [x] => (cellsOf 1 x s).bind fun vs => (partsOf s vs).bind fun ls => if ls.flatten ≠ [] ∧ ls.flatten.length ≤ 140737488355328 ∧ ls.length ≤ 1000000 then some (Sum.inr ls.flatten) else none
  | _ => (none : Option (Value ⊕ List UInt8))).map (outS id s)
theorem gConcat_eq {x : Value} {s : St} {vs : List Value} {ls : List (List UInt8)} (h : cellsOf 1 x s = some vs) (h2 : partsOf s vs = some ls) (h3 : ls.flatten ≠ []) (h4 : ls.flatten.length ≤ 140737488355328) (h5 : ls.length ≤ 1000000) : gConcat [x] s = some (newBytes ls.flatten s) := by
  simp only [gConcat, h, h2, Option.bind_some]
  rw [if_pos ⟨h3, h4, h5⟩]
  rfl

theorem Concat_size {R : Caller} {x : Value} {s : St} {vs : List Value} {ls : List (List UInt8)} (hx : cellsOf 1 x s = some vs) (hp : partsOf s vs = some ls) (hb : ls.flatten.length ≤ 140737488355328) (hn : ls.length ≤ 1000000) : ∀ (d i : Nat), i + d = vs.length →
    loopL (slices_Concat_byte_byte.b0 R) [x, .int .i64 (((ls.take i).flatten.length : Nat) : Int), x, .int .i64 ((vs.length : Nat) : Int), .int .i64 (i : Int)] s = some (.exit 0, [x, .int .i64 ((ls.flatten.length : Nat) : Int)], s) := by
  intro d
  have hl := partsOf_len hp
  induction d with
  | zero =>
    intro i hi
    have h1 : decide ((i : Int) < ((vs.length : Nat) : Int)) = false := by simp; omega
    rw [loopL_eq, List.take_of_length_le (by omega)]
    simp only [slices_Concat_byte_byte.b0, h1, Option.bind_some, Option.map_some, getL_0, getL_1, getL_2, getL_3, getL_4, getL_5, getL_6, getL_7, getL_8, getL_9, getL_10, getL_11, getL_12, condV_t, condV_f, guardV_tt, guardV_ff, guardV_tf, guardV_ft, guardV_u, apick_t, apick_f, exV_exit, exV_ret, lookE_same, joinK_eq, seqA_n, seqA_e, seqA_r, e_add, e_sub, e_mul, e_eql, e_neq, e_lss, e_leq, e_gtr, e_geq, e_conv, e_not, e_neg, and_guard, or_guard]
  | succ d IH =>
    intro i hi
    have h1 : decide ((i : Int) < ((vs.length : Nat) : Int)) = true := by simp; omega
    obtain ⟨p, h2, h3, _⟩ := cells_at hx (by omega) (i := i) (by omega) (k := .i64)
    have hi2 : i < vs.length := by omega
    obtain ⟨l, h4, h5⟩ := partsOf_get hp hi2
    have h6 := h3 vs[i] rfl (by simp [hi2])
    have h7 : ls.take (i + 1) = ls.take i ++ [l] := by rw [List.take_add_one, h4]; rfl
    have h8 : (ls.take (i + 1)).flatten.length = (ls.take i).flatten.length + l.length := by rw [h7]; simp
    have h9 : (ls.take (i + 1)).flatten.length ≤ ls.flatten.length := by
      conv => rhs; rw [← List.take_append_drop (i + 1) ls, List.flatten_append, List.length_append]
      omega
    have hw : IntKind.wrap .i64 ((((ls.take i).flatten.length : Nat) : Int) + ((l.length : Nat) : Int)) = (((ls.take (i + 1)).flatten.length : Nat) : Int) := by rw [wrap_i64 (by omega) (by omega)]; omega
    have hw2 : IntKind.wrap .i64 ((i : Int) + 1) = ((i + 1 : Nat) : Int) := by rw [wrap_i64 (by omega) (by omega)]; omega
    have hneg : decide ((((ls.take (i + 1)).flatten.length : Nat) : Int) < 0) = false := by simp
    rw [loopL_eq]
    simp only [slices_Concat_byte_byte.b0, slices_Concat_byte_byte.j0, h1, h2, h6, bytes_len h5, hw, hw2, hneg, Option.bind_some, Option.map_some, getL_0, getL_1, getL_2, getL_3, getL_4, getL_5, getL_6, getL_7, getL_8, getL_9, getL_10, getL_11, getL_12, condV_t, condV_f, guardV_tt, guardV_ff, guardV_tf, guardV_ft, guardV_u, apick_t, apick_f, exV_exit, exV_ret, lookE_same, joinK_eq, seqA_n, seqA_e, seqA_r, e_add, e_sub, e_mul, e_eql, e_neq, e_lss, e_leq, e_gtr, e_geq, e_conv, e_not, e_neg, and_guard, or_guard]
    exact IH (i + 1) (by omega)

/-- bytes into the room ahead of them -/
theorem room_more {s : St} {b len cap : Nat} {row : List UInt8} {v : Value} {m : List UInt8} (h : s.heap[b]? = some (.row 1 (bv row) .act)) (hv : bytesOf v s = some m) (hr : row.length = cap) (hl : len + m.length ≤ cap) (hb : cap ≤ 140737488355328) :
    ∃ s', aappend 1 1 (.slice (some ⟨b, 0, none⟩) len cap) v s = some (.slice (some ⟨b, 0, none⟩) (len + m.length) cap, s') ∧ s'.heap[b]? = some (.row 1 (bv (row.take len ++ m ++ row.drop (len + m.length))) .act) ∧ s'.heap.length = s.heap.length ∧ ∀ c, c ≠ b → s'.heap[c]? = s.heap[c]? := by
  unfold aappend
  rw [if_pos (by omega), bytes_lenV hv, bytes_elems hv]
  simp only [Option.bind_some]
  have hroom : roomA (len + m.length) 1 := .inl (by omega)
  rw [if_pos hroom, if_pos hl]
  by_cases hm : m.length = 0
  · have : m = [] := List.eq_nil_of_length_eq_zero hm
    subst this
    refine ⟨s, by simp, ?_, rfl, fun c _ => rfl⟩
    rw [h]
    simp
  · rw [if_neg hm]
    have hbl : b < s.heap.length := (List.getElem?_eq_some_iff.1 h).1
    refine ⟨s.putB b (.row 1 (putCells (bv row) (0 + len * 1) (bv m)) .act), ?_, ?_, by simp [St.putB], fun c hc => ?_⟩
    · unfold writeN
      rw [h]
      simp only [bv_length]
      rw [if_pos (by omega)]
      rfl
    · simp only [St.putB]
      rw [List.getElem?_set_self hbl]
      congr 2
      unfold putCells
      rw [bv_append, bv_append, bv_take, bv_drop, bv_length]
      simp
    · simp only [St.putB]
      rw [List.getElem?_set_ne (by omega)]

theorem Concat_fill {R : Caller} {x : Value} {N : Nat} {vs : List Value} {ls : List (List UInt8)} (hb : ls.flatten.length ≤ 140737488355328) (hn : ls.length ≤ 1000000) {b : Nat} (hN : N ≤ b) : ∀ (d i : Nat) (s : St) (rest : List UInt8), i + d = vs.length → cellsOf 1 x s = some vs → partsOf s vs = some ls →
    (∀ v l, bytesOf v s = some l → ∀ t : St, (∀ c, c ≠ b → t.heap[c]? = s.heap[c]?) → v ∈ vs ∨ v = x → bytesOf v t = some l) → (∀ t : St, (∀ c, c ≠ b → t.heap[c]? = s.heap[c]?) → cellsOf 1 x t = some vs) →
    s.heap[b]? = some (.row 1 (bv ((ls.take i).flatten ++ rest)) .act) → ((ls.take i).flatten ++ rest).length = ls.flatten.length →
    ∃ s', loopL (slices_Concat_byte_byte.b1 R) [.slice (some ⟨b, 0, none⟩) (ls.take i).flatten.length ls.flatten.length, x, .int .i64 ((vs.length : Nat) : Int), .int .i64 (i : Int)] s = some (.exit 2, [.slice (some ⟨b, 0, none⟩) ls.flatten.length ls.flatten.length], s') ∧ s'.heap[b]? = some (.row 1 (bv ls.flatten) .act) := by
  intro d
  induction d with
  | zero =>
    intro i s rest hi hx hp _ _ hrow hlen
    have hl := partsOf_len hp
    have h1 : decide ((i : Int) < ((vs.length : Nat) : Int)) = false := by simp; omega
    have ht : ls.take i = ls := List.take_of_length_le (by omega)
    rw [ht] at hrow hlen ⊢
    refine ⟨s, ?_, ?_⟩
    · rw [loopL_eq]
      simp only [slices_Concat_byte_byte.b1, h1, Option.bind_some, Option.map_some, getL_0, getL_1, getL_2, getL_3, getL_4, getL_5, getL_6, getL_7, getL_8, getL_9, getL_10, getL_11, getL_12, condV_t, condV_f, guardV_tt, guardV_ff, guardV_tf, guardV_ft, guardV_u, apick_t, apick_f, exV_exit, exV_ret, lookE_same, joinK_eq, seqA_n, seqA_e, seqA_r, e_add, e_sub, e_mul, e_eql, e_neq, e_lss, e_leq, e_gtr, e_geq, e_conv, e_not, e_neg, and_guard, or_guard]
    · have : rest = [] := by
        rw [List.length_append] at hlen
        exact List.eq_nil_of_length_eq_zero (by omega)
      rw [hrow, this, List.append_nil]
  | succ d IH =>
    intro i s rest hi hx hp hold hold2 hrow hlen
    have hl := partsOf_len hp
    have h1 : decide ((i : Int) < ((vs.length : Nat) : Int)) = true := by simp; omega
    obtain ⟨p, h2, h3, _⟩ := cells_at hx (by omega) (i := i) (by omega) (k := .i64)
    have hi2 : i < vs.length := by omega
    obtain ⟨l, h4, h5⟩ := partsOf_get hp hi2
    have h6 := h3 vs[i] rfl (by simp [hi2])
    have h7 : ls.take (i + 1) = ls.take i ++ [l] := by rw [List.take_add_one, h4]; rfl
    have h8 : (ls.take (i + 1)).flatten = (ls.take i).flatten ++ l := by rw [h7]; simp
    have h9 : (ls.take (i + 1)).flatten.length ≤ ls.flatten.length := by
      conv => rhs; rw [← List.take_append_drop (i + 1) ls, List.flatten_append, List.length_append]
      omega
    have hw2 : IntKind.wrap .i64 ((i : Int) + 1) = ((i + 1 : Nat) : Int) := by rw [wrap_i64 (by omega) (by omega)]; omega
    have h10 : (ls.take i).flatten.length + l.length = (ls.take (i + 1)).flatten.length := by rw [h8, List.length_append]
    obtain ⟨s2, g1, g2, g3, g4⟩ := room_more hrow h5 hlen (len := (ls.take i).flatten.length) (by omega) hb
    have hold' : ∀ v l, bytesOf v s2 = some l → ∀ t : St, (∀ c, c ≠ b → t.heap[c]? = s2.heap[c]?) → v ∈ vs ∨ v = x → bytesOf v t = some l := by
      intro v l' hv t ht hm
      have e1 : ∀ c, c ≠ b → t.heap[c]? = s.heap[c]? := fun c hc => (ht c hc).trans (g4 c hc)
      rcases hm with hm | hm
      · obtain ⟨j, hj, rfl⟩ := List.getElem_of_mem hm
        obtain ⟨l2, k1, k2⟩ := partsOf_get hp hj
        have k3 := hold _ _ k2 s2 g4 (.inl hm)
        rw [k3] at hv
        cases hv
        exact hold _ _ k2 t e1 (.inl hm)
      · subst hm
        have k4 := hold2 s2 g4
        have k5 := hold2 t e1
        unfold bytesOf at hv ⊢
        rw [k4] at hv
        rw [k5]
        exact hv
    have hp2 : partsOf s2 vs = some ls := by
      have : ∀ (ws : List Value) (ms : List (List UInt8)), (∀ v ∈ ws, v ∈ vs) → partsOf s ws = some ms → partsOf s2 ws = some ms := by
        intro ws
        induction ws with
        | nil => intro ms _ h; exact h
        | cons w ws ih =>
          intro ms hw h
          simp only [partsOf, Option.bind_eq_some_iff, Option.map_eq_some_iff] at h ⊢
          obtain ⟨q, hq, r, hr, rfl⟩ := h
          exact ⟨q, hold _ _ hq s2 g4 (.inl (hw _ (List.mem_cons_self ..))), r, ih _ (fun v hv => hw _ (List.mem_cons_of_mem _ hv)) hr, rfl⟩
      exact this vs ls (fun _ h => h) hp
    have hr2 : (bv ((ls.take i).flatten ++ rest |>.take (ls.take i).flatten.length) ++ bv l ++ bv (((ls.take i).flatten ++ rest).drop ((ls.take i).flatten.length + l.length))) = bv ((ls.take (i + 1)).flatten ++ rest.drop l.length) := by
      rw [← bv_append, ← bv_append, h8, List.take_left, ← List.drop_drop, List.drop_left]
    rw [bv_append, bv_append, hr2] at g2
    obtain ⟨s3, q1, q2⟩ := IH (i + 1) s2 (rest.drop l.length) (by omega) (hold2 s2 g4) hp2 hold' (fun t ht => hold2 t fun c hc => (ht c hc).trans (g4 c hc)) g2 (by
      rw [List.length_append] at hlen ⊢
      rw [List.length_drop]
      omega)
    refine ⟨s3, ?_, q2⟩
    rw [loopL_eq]
    simp only [slices_Concat_byte_byte.b1, h1, h2, h6, g1, h10, hw2, Option.bind_some, Option.map_some, getL_0, getL_1, getL_2, getL_3, getL_4, getL_5, getL_6, getL_7, getL_8, getL_9, getL_10, getL_11, getL_12, condV_t, condV_f, guardV_tt, guardV_ff, guardV_tf, guardV_ft, guardV_u, apick_t, apick_f, exV_exit, exV_ret, lookE_same, joinK_eq, seqA_n, seqA_e, seqA_r, e_add, e_sub, e_mul, e_eql, e_neq, e_lss, e_leq, e_gtr, e_geq, e_conv, e_not, e_neg, and_guard, or_guard]
    exact q1

theorem Grow_run {R : Caller} {n : Nat} (h0 : 0 < n) (h1 : n ≤ 140737488355328) (s : St) : slices_Grow_byte_byte R (.slice none 0 0) (.int .i64 (n : Int)) s = some (.slice (some ⟨s.heap.length, 0, none⟩) 0 n, s.push (.row 1 (bv (List.replicate n 0)) .act)) := by
  have e1 : decide ((n : Int) < 0) = false := by simp
  have e2 : IntKind.wrap .i64 (0 - 0) = 0 := by decide
  have e3 : IntKind.wrap .i64 ((n : Int) - 0) = (n : Int) := by rw [wrap_i64 (by omega) (by omega)]; omega
  have e4 : decide ((n : Int) > 0) = true := by simp; omega
  have e5 : acap (.slice none 0 0) = some (.int .i64 0) := rfl
  have e6 : asliceV 1 (.slice none 0 0) none (some (.int .i64 0)) none = some (.slice none 0 0) := rfl
  have hrep : repCells [Value.int .u8 0] n = bv (List.replicate n 0) := by
    clear h0 h1 e1 e3 e4
    induction n with
    | zero => rfl
    | succ n ih => rw [repCells, ih]; rfl
  have e7 : aappendZ 1 1 [(.int .u8 0)] (.slice none 0 0) (.int .i64 (n : Int)) s = some (.slice (some ⟨s.heap.length, 0, none⟩) n n, s.push (.row 1 (bv (List.replicate n 0)) .act)) := by
    unfold aappendZ
    simp only [Int.toNat_natCast, Nat.mul_one]
    rw [if_pos ⟨by omega, h1, by omega, by omega, rfl, rfl⟩, hrep]
  have e8 : asliceV 1 (.slice (some ⟨s.heap.length, 0, none⟩) n n) none (some (.int .i64 0)) none = some (.slice (some ⟨s.heap.length, 0, none⟩) 0 n) := by
    simp [asliceV, asliceSl, abound, cutRow]
  have e9 : ∀ s2, alenV (.slice 5) (.slice none 0 0) s2 = some (.int .i64 0) := fun _ => rfl
  unfold slices_Grow_byte_byte
  simp only [slices_Grow_byte_byte.j0, slices_Grow_byte_byte.j1, e1, e2, e3, e4, e5, e6, e7, e8, e9, Option.bind_some, Option.map_some, getL_0, getL_1, getL_2, getL_3, getL_4, getL_5, getL_6, getL_7, getL_8, getL_9, getL_10, getL_11, getL_12, condV_t, condV_f, guardV_tt, guardV_ff, guardV_tf, guardV_ft, guardV_u, apick_t, apick_f, exV_exit, exV_ret, lookE_same, joinK_eq, seqA_n, seqA_e, seqA_r, e_add, e_sub, e_mul, e_eql, e_neq, e_lss, e_leq, e_gtr, e_geq, e_conv, e_not, e_neg, and_guard, or_guard, retV]
  rfl

def gGrow : Sum := fun xs s => match xs with
  | [.slice none 0 0, .int .i64 n] => if 0 < n ∧ n ≤ 140737488355328 then some (.slice (some ⟨s.heap.length, 0, none⟩) 0 n.toNat, s.push (.row 1 (bv (List.replicate n.toNat 0)) .act)) else none
  | _ => none
theorem gGrow_eq {n : Nat} (h0 : 0 < n) (h1 : n ≤ 140737488355328) (s : St) : gGrow [.slice none 0 0, .int .i64 (n : Int)] s = some (.slice (some ⟨s.heap.length, 0, none⟩) 0 n, s.push (.row 1 (bv (List.replicate n 0)) .act)) := by
  unfold gGrow
  simp only [Int.toNat_natCast]
  rw [if_pos (by omega)]
theorem grow_sum {lib : Lib} (hl : lib 24 = none) : SumOk Try.prog lib hints 24 gGrow := by
  intro args s v t hg
  unfold gGrow at hg
  split at hg
  · rename_i n
    split at hg
    case isFalse => cases hg
    rename_i hc
    cases hg
    obtain ⟨m, rfl⟩ := Int.eq_ofNat_of_zero_le (show 0 ≤ n by omega)
    have h := Grow_run (R := run Try.prog lib hints) (n := m) (by omega) (by omega) (frzS s)
    simp only [Int.toNat_natCast]
    refine ⟨_, _, _, _, rfl, slices_Grow_byte_byte_of hl h, .row (N := s.heap.length) (i := (frzS s).heap.length) (by rw [frzS_len]; omega) push_get (fun _ _ h => h) bv_leaf (.va (.l2 (.l1 (.l0 (Vw0.row (Nat.zero_le _) (Nat.le_refl _))))))⟩
  · cases hg

theorem concat_sum {lib : Lib} (hl : lib 12 = none) (hG : lib 24 = some gGrow) : SumOk Try.prog lib hints 12 gConcat := by
  refine SumOk.out (.inl rfl) (fun args s v h => ?_) (fun args s l h => ?_)
  · split at h
    · simp only [Option.bind_eq_some_iff] at h
      obtain ⟨vs, _, ls, _, h⟩ := h
      split at h <;> cases h
    · cases h
  · split at h
    · rename_i x
      simp only [Option.bind_eq_some_iff] at h
      obtain ⟨vs, hx, ls, hp, h⟩ := h
      split at h
      case isFalse => cases h
      rename_i hc
      obtain ⟨hne, hb, hn⟩ := hc
      cases h
      have hx2 : cellsOf 1 x (frzS s) = some vs := by rw [cellsOf_frz]; exact hx
      have hp2 : partsOf (frzS s) vs = some ls := partsOf_ext (fun v l h => by rw [bytesOf_frz]; exact h) hp
      have hpos : 0 < ls.flatten.length := List.length_pos_iff.2 hne
      have h1 := Concat_size (R := run Try.prog lib hints) hx2 hp2 hb hn vs.length 0 (by omega)
      have e0 : (((ls.take 0).flatten.length : Nat) : Int) = 0 := rfl
      have e00 : ((0 : Nat) : Int) = 0 := rfl
      rw [e0, e00] at h1
      have hlen : ∀ s2, alenV (.slice 22) x s2 = some (.int .i64 ((vs.length : Nat) : Int)) := fun s2 => by
        obtain ⟨a, len, cap, rfl, e⟩ := cellsOf_len hx
        rw [Nat.mul_one] at e
        rw [e]; rfl
      have hext : Ext (frzS s).heap.length (frzS s) ((frzS s).push (.row 1 (bv (List.replicate ls.flatten.length 0)) .act)) := .push _ (Nat.le_refl _) _
      have hkeep : ∀ t : St, (∀ c, c ≠ (frzS s).heap.length → t.heap[c]? = ((frzS s).push (.row 1 (bv (List.replicate ls.flatten.length 0)) .act)).heap[c]?) → Ext (frzS s).heap.length (frzS s) t := fun t ht =>
        keep_ext fun c hc => by rw [ht c (by omega), push_old hc]
      have hins : ∀ v l, bytesOf v (frzS s) = some l → ∀ t : St, (∀ c, c ≠ (frzS s).heap.length → t.heap[c]? = ((frzS s).push (.row 1 (bv (List.replicate ls.flatten.length 0)) .act)).heap[c]?) → bytesOf v t = some l :=
        fun v l hv t ht => (hkeep t ht).bytes hv
      have hcel : ∀ t : St, (∀ c, c ≠ (frzS s).heap.length → t.heap[c]? = ((frzS s).push (.row 1 (bv (List.replicate ls.flatten.length 0)) .act)).heap[c]?) → cellsOf 1 x t = some vs :=
        fun t ht => (hkeep t ht).cells hx2
      obtain ⟨s3, q1, q2⟩ := Concat_fill (R := run Try.prog lib hints) (x := x) (N := s.heap.length) hb hn (b := (frzS s).heap.length) (by rw [frzS_len]; omega) vs.length 0 ((frzS s).push (.row 1 (bv (List.replicate ls.flatten.length 0)) .act)) (List.replicate ls.flatten.length 0) (by omega) (hext.cells hx2) (partsOf_ext (fun v l h => hext.bytes h) hp2)
        (fun v l hv t ht hm => by
          have hold : ∃ l', bytesOf v (frzS s) = some l' := by
            rcases hm with hm | hm
            · obtain ⟨j, hj, rfl⟩ := List.getElem_of_mem hm
              obtain ⟨l2, _, k2⟩ := partsOf_get hp2 hj
              exact ⟨l2, k2⟩
            · subst hm
              have := hcel _ (fun c _ => rfl)
              unfold bytesOf at hv ⊢
              rw [this] at hv
              rw [hx2]
              exact ⟨l, hv⟩
          obtain ⟨l', hl'⟩ := hold
          have k1 := hins v l' hl' _ (fun c _ => rfl)
          rw [k1] at hv
          cases hv
          exact hins v _ hl' t ht)
        hcel push_get (by simp)
      have e1 : ((ls.take 0).flatten.length) = 0 := rfl
      rw [e1, e00] at q1
      refine ⟨(frzS s).heap.length, s3, ?_, by rw [frzS_len]; omega, q2⟩
      refine slices_Concat_byte_byte_of hl ?_
      unfold slices_Concat_byte_byte
      simp only [hlen, h1, slices_Grow_byte_byte_call, known (P := Try.prog) (hints := hints) hG, gGrow_eq hpos hb, Option.bind_some, Option.map_some, getL_0, getL_1, getL_2, getL_3, getL_4, getL_5, getL_6, getL_7, getL_8, getL_9, getL_10, getL_11, getL_12, condV_t, condV_f, guardV_tt, guardV_ff, guardV_tf, guardV_ft, guardV_u, apick_t, apick_f, exV_exit, exV_ret, lookE_same, joinK_eq, seqA_n, seqA_e, seqA_r, e_add, e_sub, e_mul, e_eql, e_neq, e_lss, e_leq, e_gtr, e_geq, e_conv, e_not, e_neg, and_guard, or_guard]
      simp only [q1, lookE_same, Option.bind_some, Option.map_some, getL_0, getL_1, getL_2, getL_3, getL_4, getL_5, getL_6, getL_7, getL_8, getL_9, getL_10, getL_11, getL_12, condV_t, condV_f, guardV_tt, guardV_ff, guardV_tf, guardV_ft, guardV_u, apick_t, apick_f, exV_exit, exV_ret, lookE_same, joinK_eq, seqA_n, seqA_e, seqA_r, e_add, e_sub, e_mul, e_eql, e_neq, e_lss, e_leq, e_gtr, e_geq, e_conv, e_not, e_neg, and_guard, or_guard, retV]
      rfl
    · cases h

end Go.Proofs.Ytpbbbfemnkeplaa.Ab
