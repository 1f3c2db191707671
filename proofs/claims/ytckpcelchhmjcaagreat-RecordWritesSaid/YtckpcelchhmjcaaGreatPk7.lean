/- Texts of this proof, packed: RcRef, RcRef2, RcRef3, RcRef4, RcRef5, RcLawW, BArg, BSized. -/
import Derived.Test.YtckpcelchhmjcaaGreatPk6
import Derived.SizedLaws
import Derived.ChangeSlices
set_option linter.unusedVariables false
set_option linter.unusedSimpArgs false
set_option linter.unusedSectionVars false
/- The document's writer: bytes are appended, one after another. -/
namespace Go.Proofs.YtckpcelchhmjcaaGreat.Ab
open Go

/-- what has been appended to: the same bytes and new ones, in a block of one's own; nothing else has changed -/
def App (N : Nat) (s : St) (x : Value) (m : List UInt8) (r : Value × St) : Prop :=
  Own N 1 r.2 r.1 (bv m) ∧ Keep (blkOf x) s r.2 ∧ Fresh s x r.1
theorem App.len {N : Nat} {s : St} {x : Value} {m : List UInt8} {r : Value × St} (h : App N s x m r) : s.heap.length ≤ r.2.heap.length := h.2.1.1
theorem App.start {N : Nat} {s : St} {x : Value} {l : List UInt8} (h : Own N 1 s x (bv l)) : App N s x l (x, s) := ⟨h, .refl _ _, .inl rfl⟩
theorem App.trans {N : Nat} {s : St} {x : Value} {m m2 : List UInt8} {r r2 : Value × St} (h : App N s x m r) (g : App N r.2 r.1 m2 r2) : App N s x m2 r2 := by
  refine ⟨g.1, ⟨Nat.le_trans h.2.1.1 g.2.1.1, fun c hc hB => ?_⟩, ?_⟩
  · rw [g.2.1.2 c (Nat.lt_of_lt_of_le hc h.2.1.1) fun e => ?_, h.2.1.2 c hc hB]
    rcases h.2.2 with h3 | h3
    · exact hB (by rw [← h3]; exact e)
    · exact absurd (h3 c e) (by omega)
  · rcases g.2.2 with g3 | g3
    · rcases h.2.2 with h3 | h3
      · exact .inl (g3.trans h3)
      · exact .inr fun c hc => h3 c (by rw [← g3]; exact hc)
    · exact .inr fun c hc => Nat.le_trans h.2.1.1 (g3 c hc)
theorem App.ext {N : Nat} {s : St} {x : Value} {l m : List UInt8} {r : Value × St} (h : App N s x m r) (ho : Own N 1 s x (bv l)) (hN : N ≤ s.heap.length) : Ext N s r.2 := h.2.1.ext hN fun c hc => (ho.blk c hc).1
theorem App.list {α : Type} {C : Cod α} {N : Nat} {s : St} {x v : Value} {m : List UInt8} {l : List α} {r : Value × St} (h : App N s x m r) (hv : listOf C v s = some l) (hne : ∀ c, blkOf v = some c → blkOf x ≠ some c) : listOf C v r.2 = some l := h.2.1.list hv hne
theorem App.push {N : Nat} {s : St} {x : Value} {m : List UInt8} {r : Value × St} {B : Blk} (h : App N (s.push B) x m r) : App N s x m r := by
  refine ⟨h.1, ⟨by have := h.2.1.1; rw [push_len] at this; omega, fun c hc hB => ?_⟩, ?_⟩
  · rw [h.2.1.2 c (by rw [push_len]; omega) hB]
    simp only [St.push]
    rw [List.getElem?_append_left hc]
  · rcases h.2.2 with h3 | h3
    · exact .inl h3
    · exact .inr fun c hc => by have := h3 c hc; rw [push_len] at this; omega
/-- some bytes that lie elsewhere are appended -/
theorem app_bytes {N : Nat} {s : St} {x v : Value} {l m : List UInt8} (h : Own N 1 s x (bv l)) (hN : N ≤ s.heap.length) (hv : bytesOf v s = some m) (hb : l.length + m.length ≤ 140737488355328) : ∃ r, aappend 1 1 x v s = some r ∧ App N s x (l ++ m) r := by
  obtain ⟨v', s', h1, h2, _⟩ := own_more h hN hv hb
  obtain ⟨k1, k2⟩ := aappend_keep h1
  exact ⟨(v', s'), h1, h2, k1, k2⟩
theorem app_new {N : Nat} {s : St} {x : Value} {l m : List UInt8} (h : Own N 1 s x (bv l)) (hN : N ≤ s.heap.length) (hb : l.length + m.length ≤ 140737488355328) : ∃ r, aappend 1 1 x (newBytes m s).1 (newBytes m s).2 = some r ∧ App N s x (l ++ m) r := by
  have h1 : Own N 1 (newBytes m s).2 x (bv l) := own_pushW h
  obtain ⟨r, g1, g2⟩ := app_bytes h1 (Nat.le_trans hN (newBytes_ext (N := s.heap.length) (Nat.le_refl _)).1) newBytes_bytes hb
  exact ⟨r, g1, g2.push⟩
theorem ret_own {N : Nat} {r : Value × St} {m : List UInt8} (h : Own N 1 r.2 r.1 (bv m)) : retV [r.1] r.2 = some (r.1, r.2) := ret1 h.notup


theorem own_len {s : St} {r : Value × St} (h : s.heap.length ≤ r.2.heap.length) : ownR s (r.1, r.2) = some (r.1, r.2) := by unfold ownR; rw [if_pos h]
theorem own_app {N : Nat} {s : St} {x : Value} {m : BL} {r : Value × St} (h : App N s x m r) : ownR s (r.1, r.2) = some (r.1, r.2) := by unfold ownR; rw [if_pos h.len]
/-- the same in a region whose order is drawn -/
theorem app_drawn {N : Nat} {s : St} {x w : Value} {l m : List UInt8} {f : St → Option (Value × St)} (ho : Own N 1 s x (bv l)) (hN : N ≤ s.heap.length) (hw : ∀ b ∈ blkV w, b < N) (hf : ∀ s', Own N 1 s' x (bv l) → N ≤ s'.heap.length → (∀ b ∈ blkV w, s'.heap[b]? = s.heap[b]?) → ∃ r, f s' = some r ∧ App N s' x m r) :
    ∃ r, ((f (⟨onlyL (blksV [x, w]) 0 s.heap⟩ : St)).bind fun r => some (r.1, r.2)).bind (appR (blksV [x, w]) [] s) = some r ∧ App N s x m r := by
  have hB : ∀ b, (blksV [x, w]).contains b = true ↔ (blkOf x = some b ∨ b ∈ blkV w) := fun b => by
    rw [show blksV [x, w] = blkV x ++ (blkV w ++ []) from rfl, List.append_nil, List.contains_iff_mem, List.mem_append]
    rcases ho with ⟨rfl, _⟩ | ⟨c, len, rfl, _⟩
    · simp [blkV, blkOf]
    · simp only [blkV, blkOf, List.mem_cons, List.not_mem_nil, or_false, Option.some.injEq]
      constructor
      · rintro (h | h)
        · exact .inl h.symm
        · exact .inr h
      · rintro (h | h)
        · exact .inl h.symm
        · exact .inr h
  generalize blksV [x, w] = B at *
  have hxN : ∀ b, blkOf x = some b → N ≤ b := fun b hb => (ho.blk b hb).1
  have ho1 : Own N 1 (⟨onlyL B 0 s.heap⟩ : St) x (bv l) := by
    rcases ho with h | ⟨c, len, rfl, h1, h2, h3, h4⟩
    · exact .inl h
    · refine .inr ⟨c, len, rfl, h1, ?_, h3, h4⟩
      have hc : B.contains c = true := (hB c).2 (.inl rfl)
      simp only
      rw [onlyL_get, Nat.zero_add, if_pos hc, h2]
      rfl
  have hw1 : ∀ b ∈ blkV w, (⟨onlyL B 0 s.heap⟩ : St).heap[b]? = s.heap[b]? := fun b hb => by
    have hc : B.contains b = true := (hB b).2 (.inr hb)
    simp only
    rw [onlyL_get, Nat.zero_add, if_pos hc]
    cases s.heap[b]? with
    | none => rfl
    | some X => cases X <;> rfl
  obtain ⟨r, g1, g2, g3, g4⟩ := hf _ ho1 (by simp only; rw [onlyL_length]; exact hN) hw1
  have hlen : s.heap.length ≤ r.2.heap.length := by
    have := g3.1
    simp only at this
    rwa [onlyL_length] at this
  simp only [g1, Option.bind_some]
  have hc : (B.all (fun b => !([] : List Nat).contains b) && Nat.ble s.heap.length r.2.heap.length && apartL [] s.heap.length r.2.heap.length) = true := by
    simp only [Bool.and_eq_true, List.all_eq_true, Nat.ble_eq, apartL, List.all_nil, and_true]
    exact ⟨fun b _ => rfl, hlen⟩
  have g4' : blkOf r.1 = blkOf x ∨ ∀ c, blkOf r.1 = some c → s.heap.length ≤ c := by
    rcases g4 with h | h
    · exact .inl h
    · exact .inr fun c hc => by have := h c hc; simp only at this; rwa [onlyL_length] at this
  refine ⟨(r.1, ⟨mergeB B r.2.heap 0 s.heap ++ r.2.heap.drop s.heap.length⟩), by unfold appR; rw [if_pos hc], ?_, ⟨by simp [mergeB_length], fun c hc hne => ?_⟩, g4'⟩
  · rcases g2 with h | ⟨c, len, e, h1, h2, h3, h4⟩
    · exact .inl h
    · refine .inr ⟨c, len, e, h1, ?_, h3, h4⟩
      simp only
      by_cases hcs : c < s.heap.length
      · rw [List.getElem?_append_left (by rw [mergeB_length]; exact hcs), mergeB_get, Nat.zero_add, List.getElem?_eq_getElem hcs, Option.map_some]
        have : B.contains c = true := (hB c).2 (.inl (by
          have hb : blkOf r.1 = some c := by rw [e]; rfl
          rcases g4' with h | h
          · rw [← h]; exact hb
          · exact absurd (h c hb) (by omega)))
        rw [if_pos this, h2, Option.getD_some]
      · rw [List.getElem?_append_right (by rw [mergeB_length]; omega), mergeB_length, List.getElem?_drop, show s.heap.length + (c - s.heap.length) = c by omega]
        exact h2
  · simp only
    rw [List.getElem?_append_left (by rw [mergeB_length]; exact hc), mergeB_get, Nat.zero_add, List.getElem?_eq_getElem hc, Option.map_some]
    by_cases hb : B.contains c = true
    · rw [if_pos hb]
      rcases (hB c).1 hb with h | h
      · exact absurd h hne
      · have h1 := hw1 c h
        have h2 := g3.2 c (by simp only; rw [onlyL_length]; exact hc) hne
        rw [h2, h1, List.getElem?_eq_getElem hc, Option.getD_some]
    · rw [if_neg hb]
/-- a list of plain things, where its block is as it was -/
theorem listN_blk {α : Type} {C : Cod α} {Pr : α → Prop} {B : Nat} {l : List α} {s t : St} {v : Value} (h : ListN (.ofC C Pr) B l s v) (hb : ∀ b ∈ blkV v, t.heap[b]? = s.heap[b]?) : ListN (.ofC C Pr) B l t v := by
  refine ⟨h.1, ?_⟩
  rcases h.2 with ⟨rfl, rfl⟩ | ⟨b, css, st, k, rfl, h2, h3, h4⟩
  · exact .inl ⟨rfl, rfl⟩
  · exact .inr ⟨b, css, st, k, rfl, by rw [hb b (by simp [blkV])]; exact h2, h3, h4⟩
theorem listN_below {α : Type} {C : NCod α} {B : Nat} {l : List α} {s : St} {v : Value} (h : ListN C B l s v) : ∀ b ∈ blkV v, b < s.heap.length := by
  rcases h.2 with ⟨rfl, rfl⟩ | ⟨b, css, st, k, rfl, h2, h3, h4⟩
  · intro b hb; cases hb
  · intro c hc
    simp only [blkV, List.mem_cons, List.not_mem_nil, or_false] at hc
    rw [hc]
    exact (List.getElem?_eq_some_iff.1 h2).1
theorem look_apart {α : Type} {K : List Nat} {s : St} {v : α} : apartR K s (v, (⟨frzK K 0 s.heap⟩ : St)) = some (v, s) := by
  unfold apartR
  have : apartL K s.heap.length (⟨frzK K 0 s.heap⟩ : St).heap.length = true := by
    simp only [apartL, List.all_eq_true, Bool.or_eq_true, decide_eq_true_eq, frzK_length]
    intro x _
    omega
  rw [if_pos this]
  unfold quietR
  simp only
  rw [List.drop_eq_nil_of_le (by rw [frzK_length]; exact Nat.le_refl _), List.append_nil]
theorem build1_apart {K : List Nat} {s : St} {n : Int} (hK : ∀ b ∈ K, b < s.heap.length) : ((abuildSl 1 [(.int .u64 0)] 1 [(0, .int .u64 n)] (⟨frzK K 0 s.heap⟩ : St)).bind fun r => some (r.1, r.2)).bind (apartR K s) = some (.slice (some ⟨s.heap.length, 0, none⟩) 1 1, s.push (.row 1 ([n].map fun a => .int .u64 a) .act)) := by
  have h1 : abuildSl 1 [(.int .u64 0)] 1 [(0, .int .u64 n)] (⟨frzK K 0 s.heap⟩ : St) = some (.slice (some ⟨(⟨frzK K 0 s.heap⟩ : St).heap.length, 0, none⟩) 1 1, (⟨frzK K 0 s.heap⟩ : St).push (.row 1 [.int .u64 n] .act)) := rfl
  rw [h1]
  simp only [Option.bind_some]
  unfold apartR
  have hl : (⟨frzK K 0 s.heap⟩ : St).heap.length = s.heap.length := frzK_length
  have : apartL K s.heap.length ((⟨frzK K 0 s.heap⟩ : St).push (.row 1 [.int .u64 n] .act)).heap.length = true := by
    simp only [apartL, List.all_eq_true, Bool.or_eq_true, decide_eq_true_eq]
    intro x hx
    exact .inl (hK x hx)
  rw [if_pos this]
  unfold quietR St.push
  simp only [frzK_length]
  rw [List.drop_append_of_le_length (by rw [frzK_length]; exact Nat.le_refl _), List.drop_eq_nil_of_le (by rw [frzK_length]; exact Nat.le_refl _)]
  rfl

/-! ### Elements that are looked at meanwhile -/
def ElsA {α : Type} (N : Nat) (s1 : St) (x : Value) (n : Nat) (ag : Bool) (v : Value) (l : List α) (Rel : α → List Value → Prop) : Prop :=
  (∀ ty t, alenV (.slice ty) v t = some (.int .i64 ((l.length : Nat) : Int))) ∧ ∀ (i : Nat) (hi : i < l.length), ∃ p u cs, aindexS n v (.int .i64 (i : Int)) = some p ∧ Shape ag u cs ∧ Rel l[i] cs ∧ ∀ m r, App N s1 x m r → aload ag n p r.2 = some u
theorem elsA_arg {α : Type} {C : NCod α} {B N n : Nat} {ag : Bool} {s0 s1 : St} {x v : Value} {l : List α} {m0 : BL} (h : ListN C B l s0 v) (hlo : s0.heap.length = N) (hx : Ext N s0 s1) (ho : Own N 1 s1 x (bv m0)) (hn : n = C.n) (hag : ag = true ∨ n = 1) : ElsA N s1 x n ag v l fun a cs => C.rel a s0 cs := by
  refine ⟨fun ty t => listN_lenR h ty t, fun i hi => ?_⟩
  obtain ⟨p, u, cs, h1, h2, _, h3, h4⟩ := listN_get h hi hn hag
  subst hlo
  exact ⟨p, u, cs, h1, h3, h4, fun m r hr => ext_loadW (hx.trans (hr.ext ho hx.1)) h2⟩
theorem aload_blk {ag : Bool} {n b o : Nat} {s t : St} {u : Value} (h : t.heap[b]? = s.heap[b]?) (g : aload ag n (.pointer (some ⟨b, o, none⟩)) s = some u) : aload ag n (.pointer (some ⟨b, o, none⟩)) t = some u := by
  have hr : readRow t b = readRow s b := by unfold Ab.readRow; rw [h]
  simp only [aload, readN] at g ⊢
  rw [hr]
  exact g
theorem elsA_cur {α : Type} {C : NCod α} {B N n : Nat} {s1 : St} {x v : Value} {l : List α} {m0 : BL} (h : ListN C B l s1 v) (hb : ∀ b ∈ blkV v, b < N) (hN : N ≤ s1.heap.length) (ho : Own N 1 s1 x (bv m0)) (hn : n = C.n) : ElsA N s1 x n true v l fun a cs => C.rel a s1 cs := by
  refine ⟨fun ty t => listN_lenR h ty t, fun i hi => ?_⟩
  subst hn
  obtain ⟨b, cells, c, rfl, h1, h2, h3, h4⟩ := listN_row h hi
  obtain ⟨p, u, cs, g1, g2, _, g3, g4⟩ := listN_get h hi rfl (ag := true) (.inl rfl)
  have hp : p = .pointer (some ⟨b, i * C.n, none⟩) := by
    have : aindexS C.n (.slice (some ⟨b, 0, none⟩) l.length l.length) (.int .i64 (i : Int)) = some (.pointer (some ⟨b, i * C.n, none⟩)) := by simp [aindexS]; omega
    rw [this] at g1
    exact (Option.some.inj g1).symm
  subst hp
  exact ⟨_, u, cs, g1, g3, g4, fun m r hr => aload_blk ((hr.ext ho hN).2 b (hb b (by simp [blkV]))) g2⟩
theorem elsA_tmp {N : Nat} {s : St} {x : Value} {l0 : BL} {ls : List Int} (ho : Own N 1 s x (bv l0)) : ElsA N (s.push (.row 1 (ls.map fun n => Value.int .u64 n) .act)) x 1 false (.slice (some ⟨s.heap.length, 0, none⟩) ls.length ls.length) ls fun n cs => cs = [.int .u64 n] := by
  refine ⟨fun ty t => rfl, fun i hi => ⟨.pointer (some ⟨s.heap.length, i, none⟩), .int .u64 ls[i], [.int .u64 ls[i]], by simp [aindexS]; omega, rfl, rfl, fun m r h => ?_⟩⟩
  have hb : r.2.heap[s.heap.length]? = some (.row 1 (ls.map fun n => Value.int .u64 n) .act) := by
    rw [h.2.1.2 s.heap.length (by rw [push_len]; omega) fun e => by have := (ho.blk _ e).2; omega]
    exact push_get
  simp only [aload, Bool.false_eq_true, if_false]
  unfold Ab.readRow
  rw [hb]
  simp only [Option.bind_some, List.getElem?_map, List.getElem?_eq_getElem hi, Option.map_some]

/-! ### Numbers, texts -/
theorem kn_refnum {n : Nat} (hn : n < 18446744073709551616) {s : St} : (run Tryz.prog (libL libT) hints) 95 [.int .u64 (n : Int)] s = some (newBytes (enc n) s) := (known (g := gNum) rfl).trans (gNum_eq hn)
theorem kn_refnum' {n : Int} (hn : inN64 n) {s : St} : (run Tryz.prog (libL libT) hints) 95 [.int .u64 n] s = some (newBytes (eN n) s) := by
  have := kn_refnum (n := n.toNat) (s := s) (by have := hn.1; have := hn.2; omega)
  rwa [Int.toNat_of_nonneg hn.1] at this
theorem kn_reftext {k : BL} (hk : k.length ≤ 140737488300000) {s : St} : (run Tryz.prog (libL libT) hints) 96 [sv k] s = some (newBytes (tB k) s) := (known (g := gText) rfl).trans (gText_eq (t := ⟨k.toArray⟩) (s := s) hk)
theorem tB_le {k : BL} : k.length ≤ (tB k).length := by unfold tB; rw [List.length_append]; omega
theorem rtext_app {N : Nat} {s : St} {x : Value} {l k : BL} (ho : Own N 1 s x (bv l)) (hN : N ≤ s.heap.length) (hb : l.length + (tB k).length ≤ 140737488300000) : ∃ r, (run Tryz.prog (libL libT) hints) 29 [x, sv k] s = some r ∧ App N s x (l ++ tB k) r := by
  obtain ⟨r, g1, g2⟩ := app_new (m := tB k) ho hN (by omega)
  refine ⟨r, ref18_Text_of rfl ?_, g2⟩
  have := @tB_le k
  unfold ref18_Text
  simp only [ref01_Text_call, kn_reftext (show k.length ≤ 140737488300000 by omega), g1, ret_own g2.1, n_bind, n_map, getL_0, getL_1, getL_2, getL_3, getL_4, getL_5, getL_6, getL_7, getL_8, getL_9, getL_10, getL_11, getL_12, condV_t, condV_f, guardV_tt, guardV_ff, guardV_tf, guardV_ft, guardV_u, apick_t, apick_f, exV_exit, exV_ret, lookE_same, joinK_eq, seqA_n, seqA_e, seqA_r, e_add, e_sub, e_mul, e_eql, e_neq, e_lss, e_leq, e_gtr, e_geq, e_conv, e_not, e_neg, and_guard, or_guard]
theorem rflag_app {N : Nat} {s : St} {x : Value} {l : BL} (b : Bool) (ho : Own N 1 s x (bv l)) (hN : N ≤ s.heap.length) (hb : l.length + 1 ≤ 140737488300000) : ∃ r, (run Tryz.prog (libL libT) hints) 102 [x, .bool b] s = some r ∧ App N s x (l ++ [if b = true then 1 else 0]) r := by
  cases b with
  | true =>
    obtain ⟨r, g1, g2⟩ := app_new (m := [1]) ho hN (by simp only [List.length_singleton]; omega)
    have hn : abuildSl 1 [(.int .u8 0)] 1 [(0, (.int .u8 1))] s = some (newBytes [1] s) := rfl
    refine ⟨r, ref18_flag_of rfl ?_, g2⟩
    unfold ref18_flag
    simp only [hn, g1, ret_own g2.1, n_bind, n_map, getL_0, getL_1, getL_2, getL_3, getL_4, getL_5, getL_6, getL_7, getL_8, getL_9, getL_10, getL_11, getL_12, condV_t, condV_f, guardV_tt, guardV_ff, guardV_tf, guardV_ft, guardV_u, apick_t, apick_f, exV_exit, exV_ret, lookE_same, joinK_eq, seqA_n, seqA_e, seqA_r, e_add, e_sub, e_mul, e_eql, e_neq, e_lss, e_leq, e_gtr, e_geq, e_conv, e_not, e_neg, and_guard, or_guard]
  | false =>
    obtain ⟨r, g1, g2⟩ := app_new (m := [0]) ho hN (by simp only [List.length_singleton]; omega)
    have hn : abuildSl 1 [(.int .u8 0)] 1 [(0, (.int .u8 0))] s = some (newBytes [0] s) := rfl
    refine ⟨r, ref18_flag_of rfl ?_, g2⟩
    unfold ref18_flag
    simp only [hn, g1, ret_own g2.1, n_bind, n_map, getL_0, getL_1, getL_2, getL_3, getL_4, getL_5, getL_6, getL_7, getL_8, getL_9, getL_10, getL_11, getL_12, condV_t, condV_f, guardV_tt, guardV_ff, guardV_tf, guardV_ft, guardV_u, apick_t, apick_f, exV_exit, exV_ret, lookE_same, joinK_eq, seqA_n, seqA_e, seqA_r, e_add, e_sub, e_mul, e_eql, e_neq, e_lss, e_leq, e_gtr, e_geq, e_conv, e_not, e_neg, and_guard, or_guard]
theorem rnum_loop {N : Nat} {s1 : St} {x v : Value} {ls : List Int} {m0 : BL} (hL : ElsA N s1 x 1 false v ls fun n cs => ∃ w : Prop, cs = [.int .u64 n]) (hn : ∀ n ∈ ls, inN64 n) (hl : ls.length < 140737488355328) : ∀ (rest : List Int) (i : Nat) (y : Value) (t : St) (m : BL), ls.drop i = rest → i ≤ ls.length → App N s1 x m (y, t) → N ≤ t.heap.length → m.length + (rest.flatMap eN).length ≤ 140737488300000 →
    ∃ r, loopL (ref19_num.b0 (run Tryz.prog (libL libT) hints)) [y, v, .int .i64 ((ls.length : Nat) : Int), .int .i64 (i : Int)] t = some (.exit 0, [r.1], r.2) ∧ App N t y (m ++ rest.flatMap eN) r := by
  intro rest
  induction rest with
  | nil =>
    intro i y t m hi hle hA hN hb
    have h1 : decide ((i : Int) < ((ls.length : Nat) : Int)) = false := by
      have := List.drop_eq_nil_iff.1 hi
      simp; omega
    refine ⟨(y, t), ?_, by rw [List.flatMap_nil, List.append_nil]; exact .start hA.1⟩
    rw [loopL_eq]
    simp only [ref19_num.b0, h1, n_bind, n_map, getL_0, getL_1, getL_2, getL_3, getL_4, getL_5, getL_6, getL_7, getL_8, getL_9, getL_10, getL_11, getL_12, condV_t, condV_f, guardV_tt, guardV_ff, guardV_tf, guardV_ft, guardV_u, apick_t, apick_f, exV_exit, exV_ret, lookE_same, joinK_eq, seqA_n, seqA_e, seqA_r, e_add, e_sub, e_mul, e_eql, e_neq, e_lss, e_leq, e_gtr, e_geq, e_conv, e_not, e_neg, and_guard, or_guard]
  | cons a rest ih =>
    intro i y t m hi hle hA hN hb
    obtain ⟨hlt, he, hd⟩ := drop_nx hi
    have h1 : decide ((i : Int) < ((ls.length : Nat) : Int)) = true := by simp; omega
    obtain ⟨p, u, cs, h2, h4, ⟨_, h5⟩, h3⟩ := hL.2 i hlt
    have h3 := h3 m (y, t) hA
    have h4 : cs = [u] := h4
    rw [h4, he] at h5
    obtain rfl : u = .int .u64 a := (List.cons.inj h5).1
    rw [fm_consW, List.length_append] at hb
    have ha := hn a (he ▸ List.getElem_mem hlt)
    obtain ⟨r, g1, g2⟩ := app_new (m := eN a) hA.1 hN (by omega)
    obtain ⟨r2, f1, f2⟩ := ih (i + 1) r.1 r.2 (m ++ eN a) hd (by omega) (hA.trans g2) (Nat.le_trans hN g2.len) (by rw [List.length_append]; omega)
    refine ⟨r2, ?_, by rw [fm_consW, ← List.append_assoc]; exact g2.trans f2⟩
    rw [loopL_eq]
    simp only [ref19_num.b0, h1, h2, h3, ref01_Num_call, kn_refnum' ha, g1, inc_i64 (show i < 140737488355328 by omega), n_bind, n_map, getL_0, getL_1, getL_2, getL_3, getL_4, getL_5, getL_6, getL_7, getL_8, getL_9, getL_10, getL_11, getL_12, condV_t, condV_f, guardV_tt, guardV_ff, guardV_tf, guardV_ft, guardV_u, apick_t, apick_f, exV_exit, exV_ret, lookE_same, joinK_eq, seqA_n, seqA_e, seqA_r, e_add, e_sub, e_mul, e_eql, e_neq, e_lss, e_leq, e_gtr, e_geq, e_conv, e_not, e_neg, and_guard, or_guard]
    exact f1
theorem rnum_run {N : Nat} {s1 : St} {x v : Value} {ls : List Int} {m : BL} (ho : Own N 1 s1 x (bv m)) (hN : N ≤ s1.heap.length) (hL : ElsA N s1 x 1 false v ls fun n cs => ∃ w : Prop, cs = [.int .u64 n]) (hn : ∀ n ∈ ls, inN64 n) (hl : ls.length < 140737488355328) (hb : m.length + (ls.flatMap eN).length ≤ 140737488300000) :
    ∃ r, (run Tryz.prog (libL libT) hints) 27 [x, v] s1 = some r ∧ App N s1 x (m ++ ls.flatMap eN) r := by
  obtain ⟨r, g1, g2⟩ := rnum_loop (m0 := m) hL hn hl ls 0 x s1 m rfl (Nat.zero_le _) (.start ho) hN hb
  have g1 : loopL (ref19_num.b0 (run Tryz.prog (libL libT) hints)) [x, v, .int .i64 ((ls.length : Nat) : Int), .int .i64 0] s1 = some (.exit 0, [r.1], r.2) := g1
  refine ⟨r, ref19_num_of rfl ?_, g2⟩
  unfold ref19_num
  simp only [hL.1, g1, ret_own g2.1, n_bind, n_map, getL_0, getL_1, getL_2, getL_3, getL_4, getL_5, getL_6, getL_7, getL_8, getL_9, getL_10, getL_11, getL_12, condV_t, condV_f, guardV_tt, guardV_ff, guardV_tf, guardV_ft, guardV_u, apick_t, apick_f, exV_exit, exV_ret, lookE_same, joinK_eq, seqA_n, seqA_e, seqA_r, e_add, e_sub, e_mul, e_eql, e_neq, e_lss, e_leq, e_gtr, e_geq, e_conv, e_not, e_neg, and_guard, or_guard]
/-- numbers of one's own -/
theorem rnum_tmp {N : Nat} {s : St} {x : Value} {ls : List Int} {m : BL} (ho : Own N 1 s x (bv m)) (hN : N ≤ s.heap.length) (hn : ∀ n ∈ ls, inN64 n) (hl : ls.length < 1000) (hb : m.length + (ls.flatMap eN).length ≤ 140737488300000) :
    ∃ r, (run Tryz.prog (libL libT) hints) 27 [x, .slice (some ⟨s.heap.length, 0, none⟩) ls.length ls.length] (s.push (.row 1 (ls.map fun n => Value.int .u64 n) .act)) = some r ∧ App N s x (m ++ ls.flatMap eN) r ∧ (s.push (.row 1 (ls.map fun n => Value.int .u64 n) .act)).heap.length ≤ r.2.heap.length := by
  have hE := elsA_tmp (ls := ls) ho
  obtain ⟨r, g1, g2⟩ := rnum_run (N := N) (s1 := s.push (.row 1 (ls.map fun n => Value.int .u64 n) .act)) (own_pushW ho) (by rw [push_len]; omega) ⟨hE.1, fun i hi => by
    obtain ⟨p, u, cs, h1, h2, h3, h4⟩ := hE.2 i hi
    exact ⟨p, u, cs, h1, h2, ⟨True, h3⟩, h4⟩⟩ hn (by omega) hb
  exact ⟨r, g1, g2.push, g2.len⟩
theorem rnum_arg {N : Nat} {s0 s : St} {x v : Value} {ls : List Int} {m : BL} (ho : Own N 1 s x (bv m)) (hlo : s0.heap.length = N) (hx : Ext N s0 s) (hv : ListN (wfN .u64) 8 ls s0 v) (hb : m.length + (ls.flatMap eN).length ≤ 140737488300000) :
    ∃ r, (run Tryz.prog (libL libT) hints) 27 [x, v] s = some r ∧ App N s x (m ++ ls.flatMap eN) r := by
  have hN : N ≤ s.heap.length := by have := hx.1; omega
  have hE := elsA_arg (n := 1) (ag := false) hv hlo hx ho rfl (.inr rfl)
  exact rnum_run ho hN ⟨hE.1, fun i hi => by
    obtain ⟨p, u, cs, h1, h2, h3, h4⟩ := hE.2 i hi
    exact ⟨p, u, cs, h1, h2, ⟨True, h3.1⟩, h4⟩⟩ (lst_u hv) (listN_short hv (by decide)) hb

end Go.Proofs.YtckpcelchhmjcaaGreat.Ab

/- The document's writer: owners, results. -/
namespace Go.Proofs.YtckpcelchhmjcaaGreat.Ab
open Go

theorem st_owR (a : Ow) : lstore 2 lptr (owV a) (.agg #[(.string ⟨#[]⟩), (.int .i64 0)]) = some (owV a) := rfl
theorem build1 (n : Int) (s : St) : abuildSl 1 [(.int .u64 0)] 1 [(0, .int .u64 n)] s = some (.slice (some ⟨s.heap.length, 0, none⟩) 1 1, s.push (.row 1 ([n].map fun a => Value.int .u64 a) .act)) := rfl
theorem one_n {n : Int} (h : inN64 n) : ∀ k ∈ [n], inN64 k := fun k hk => by
  simp only [List.mem_cons, List.not_mem_nil, or_false] at hk
  rw [hk]; exact h
/-- one number -/
theorem rnum_one {N : Nat} {s : St} {x : Value} {n : Int} {m : BL} (ho : Own N 1 s x (bv m)) (hN : N ≤ s.heap.length) (hn : inN64 n) (hb : m.length + (eN n).length ≤ 140737488300000) :
    ∃ r, (run Tryz.prog (libL libT) hints) 27 [x, .slice (some ⟨s.heap.length, 0, none⟩) 1 1] (s.push (.row 1 ([n].map fun a => Value.int .u64 a) .act)) = some r ∧ App N s x (m ++ eN n) r ∧ (s.push (.row 1 ([n].map fun a => Value.int .u64 a) .act)).heap.length ≤ r.2.heap.length := by
  have := rnum_tmp (ls := [n]) ho hN (one_n hn) (by simp) (by simpa using hb)
  simp only [List.flatMap_cons, List.flatMap_nil, List.append_nil] at this
  exact this
theorem blks_lt {N : Nat} {s : St} {x w : Value} {l : BL} (ho : Own N 1 s x (bv l)) (hN : N ≤ s.heap.length) (hw : ∀ b ∈ blkV w, b < N) {t : St} (ht : s.heap.length ≤ t.heap.length) : ∀ b ∈ blksV [x, w] ++ [], b < t.heap.length := by
  intro b hb
  rw [List.append_nil, show blksV [x, w] = blkV x ++ (blkV w ++ []) from rfl, List.append_nil, List.mem_append] at hb
  rcases hb with hb | hb
  · rcases ho with ⟨rfl, _⟩ | ⟨c, len, rfl, h1, h2, _⟩
    · cases hb
    · simp only [blkV, List.mem_cons, List.not_mem_nil, or_false] at hb
      have := (List.getElem?_eq_some_iff.1 h2).1
      omega
  · have := hw b hb
    omega
theorem rown_loop {N : Nat} {s1 : St} {x v : Value} {l : List Ow} {m0 : BL} (hL : ElsA N s1 x 2 true v l fun a cs => cs = owC.enc a) (hn : ∀ o ∈ l, inN63 o.2) (hl : l.length < 140737488355328) : ∀ (rest : List Ow) (i : Nat) (y : Value) (t : St) (m : BL), l.drop i = rest → i ≤ l.length → App N s1 x m (y, t) → N ≤ t.heap.length → m.length + (rest.flatMap eOw).length ≤ 140737488300000 →
    ∃ r, loopL (ref19_owners.b0 (run Tryz.prog (libL libT) hints)) [y, v, .int .i64 ((l.length : Nat) : Int), .int .i64 (i : Int)] t = some (.exit 0, [r.1], r.2) ∧ App N t y (m ++ rest.flatMap eOw) r := by
  intro rest
  induction rest with
  | nil =>
    intro i y t m hi hle hA hN hb
    have h1 : decide ((i : Int) < ((l.length : Nat) : Int)) = false := by
      have := List.drop_eq_nil_iff.1 hi
      simp; omega
    refine ⟨(y, t), ?_, by rw [List.flatMap_nil, List.append_nil]; exact .start hA.1⟩
    rw [loopL_eq]
    simp only [ref19_owners.b0, h1, n_bind, n_map, getL_0, getL_1, getL_2, getL_3, getL_4, getL_5, getL_6, getL_7, getL_8, getL_9, getL_10, getL_11, getL_12, condV_t, condV_f, guardV_tt, guardV_ff, guardV_tf, guardV_ft, guardV_u, apick_t, apick_f, exV_exit, exV_ret, lookE_same, joinK_eq, seqA_n, seqA_e, seqA_r, e_add, e_sub, e_mul, e_eql, e_neq, e_lss, e_leq, e_gtr, e_geq, e_conv, e_not, e_neg, and_guard, or_guard]
  | cons a rest ih =>
    intro i y t m hi hle hA hN hb
    obtain ⟨hlt, he, hd⟩ := drop_nx hi
    have h1 : decide ((i : Int) < ((l.length : Nat) : Int)) = true := by simp; omega
    obtain ⟨p, u, cs, h2, h4, h5, h3⟩ := hL.2 i hlt
    have h3 := h3 m (y, t) hA
    have h4 : u = .agg cs.toArray := h4
    rw [he] at h5
    rw [h4, h5] at h3
    have h3 : aload true 2 p t = some (owV a) := h3
    rw [fm_consW, List.length_append] at hb
    rw [show eOw a = tB a.1 ++ eN a.2 from rfl, List.length_append] at hb
    have ha := hn a (he ▸ List.getElem_mem hlt)
    have hy : Own N 1 t y (bv m) := hA.1
    have hw : ∀ b ∈ blkV (sv a.1), b < N := fun b hb => by cases hb
    -- the dry run
    obtain ⟨q, d1, d2⟩ := rtext_app (k := a.1) hy hN (by omega)
    obtain ⟨q2, d3, d4, _⟩ := rnum_one (n := a.2) d2.1 (Nat.le_trans hN d2.len) (in64 ha) (by rw [List.length_append]; omega)
    -- the run
    obtain ⟨r, g1, g2⟩ := app_drawn (f := fun s' => (run Tryz.prog (libL libT) hints) 29 [y, sv a.1] s') hy hN hw fun s' h1 h2 _ => rtext_app h1 h2 (by omega)
    have hN1 := Nat.le_trans hN g2.len
    have hb1 := build1_apart (n := a.2) (blks_lt hy hN hw g2.len)
    obtain ⟨r2, g3, g4, g5⟩ := rnum_one (n := a.2) g2.1 hN1 (in64 ha) (by rw [List.length_append]; omega)
    have hA2 := g2.trans g4
    obtain ⟨r3, f1, f2⟩ := ih (i + 1) r2.1 r2.2 (m ++ tB a.1 ++ eN a.2) hd (by omega) (hA.trans hA2) (Nat.le_trans hN hA2.len) (by rw [List.length_append, List.length_append]; omega)
    refine ⟨r3, ?_, by
      have := hA2.trans f2
      rw [fm_consW, show eOw a = tB a.1 ++ eN a.2 from rfl]
      simpa only [List.append_assoc] using this⟩
    have l0 : lload false 1 lptr (owV a) = some (sv a.1) := rfl
    have l1 : lload false 1 (.pointer (some ⟨0, 1, none⟩)) (owV a) = some (.int .i64 a.2) := rfl
    rw [loopL_eq]
    simp only [ref19_owners.b0, h1, h2, h3, st_owR, l0, l1, ref18_Text_call, d1, wrap_pos ha, build1 a.2 q.2, ref19_num_call, d3, g1, hb1, g3, own_len g5, inc_i64 (show i < 140737488355328 by omega), n_bind, n_map, getL_0, getL_1, getL_2, getL_3, getL_4, getL_5, getL_6, getL_7, getL_8, getL_9, getL_10, getL_11, getL_12, condV_t, condV_f, guardV_tt, guardV_ff, guardV_tf, guardV_ft, guardV_u, apick_t, apick_f, exV_exit, exV_ret, lookE_same, joinK_eq, seqA_n, seqA_e, seqA_r, e_add, e_sub, e_mul, e_eql, e_neq, e_lss, e_leq, e_gtr, e_geq, e_conv, e_not, e_neg, and_guard, or_guard]
    exact f1
theorem len_n {l : Nat} (h : l < 140737488355328) : inN63 ((l : Nat) : Int) := ⟨by omega, by omega⟩
theorem rown_run {N : Nat} {s : St} {x v : Value} {l : List Ow} {m : BL} (ho : Own N 1 s x (bv m)) (hN : N ≤ s.heap.length) (hv : ListN (.ofC owC fun _ => True) 24 l s v) (hw : ∀ b ∈ blkV v, b < N) (hn : ∀ o ∈ l, inN63 o.2) (hb : m.length + (eList eOw l).length ≤ 140737488300000) :
    ∃ r, (run Tryz.prog (libL libT) hints) 28 [x, v] s = some r ∧ App N s x (m ++ eList eOw l) r := by
  have hl := listN_short hv (by decide)
  unfold eList at hb ⊢
  rw [List.length_append] at hb
  obtain ⟨r, g1, g2, g3⟩ := rnum_one (n := ((l.length : Nat) : Int)) ho hN (in64 (len_n hl)) (by rw [eN_nat]; omega)
  rw [eN_nat] at g2
  have hN1 := Nat.le_trans hN g2.len
  have hv2 : ListN (.ofC owC fun _ => True) 24 l r.2 v := listN_blk hv fun b hb => (g2.ext ho hN).2 b (hw b hb)
  have hE := elsA_cur (n := 2) hv2 hw hN1 g2.1 rfl
  obtain ⟨r2, f1, f2⟩ := rown_loop (m0 := m) ⟨hE.1, fun i hi => by
    obtain ⟨p, u, cs, h1, h2, h3, h4⟩ := hE.2 i hi
    exact ⟨p, u, cs, h1, h2, h3.1, h4⟩⟩ hn hl l 0 r.1 r.2 (m ++ enc l.length) rfl (Nat.zero_le _) (.start g2.1) hN1 (by rw [List.length_append]; omega)
  have f1 : loopL (ref19_owners.b0 (run Tryz.prog (libL libT) hints)) [r.1, v, .int .i64 ((l.length : Nat) : Int), .int .i64 0] r.2 = some (.exit 0, [r2.1], r2.2) := f1
  refine ⟨r2, ref19_owners_of rfl ?_, by
    have := g2.trans f2
    simpa only [List.append_assoc] using this⟩
  unfold ref19_owners
  simp only [listN_lenR hv, wrap_pos (len_n hl), build1, ref19_num_call, g1, f1, ret_own f2.1, n_bind, n_map, getL_0, getL_1, getL_2, getL_3, getL_4, getL_5, getL_6, getL_7, getL_8, getL_9, getL_10, getL_11, getL_12, condV_t, condV_f, guardV_tt, guardV_ff, guardV_tf, guardV_ft, guardV_u, apick_t, apick_f, exV_exit, exV_ret, lookE_same, joinK_eq, seqA_n, seqA_e, seqA_r, e_add, e_sub, e_mul, e_eql, e_neq, e_lss, e_leq, e_gtr, e_geq, e_conv, e_not, e_neg, and_guard, or_guard]

/-! ### Results -/
theorem st_prR (a : Rg) : lstore 2 lptr (rv a) (.agg #[(.string ⟨#[]⟩), (.string ⟨#[]⟩)]) = some (rv a) := rfl
theorem rpr_loop {N : Nat} {s1 : St} {x v a1 a2 a3 : Value} {l : List Rg} (hL : ElsA N s1 x 2 true v l fun a cs => cs = prC.enc a) (hl : l.length < 140737488355328) : ∀ (rest : List Rg) (i : Nat) (y : Value) (t : St) (m : BL), l.drop i = rest → i ≤ l.length → App N s1 x m (y, t) → N ≤ t.heap.length → m.length + (rest.flatMap ePr).length ≤ 140737488300000 →
    ∃ r, loopL (ref18_Res.b1 (run Tryz.prog (libL libT) hints)) [y, a1, a2, a3, v, .int .i64 ((l.length : Nat) : Int), .int .i64 (i : Int)] t = some (.exit 2, [r.1, a1, a2, a3], r.2) ∧ App N t y (m ++ rest.flatMap ePr) r := by
  intro rest
  induction rest with
  | nil =>
    intro i y t m hi hle hA hN hb
    have h1 : decide ((i : Int) < ((l.length : Nat) : Int)) = false := by
      have := List.drop_eq_nil_iff.1 hi
      simp; omega
    refine ⟨(y, t), ?_, by rw [List.flatMap_nil, List.append_nil]; exact .start hA.1⟩
    rw [loopL_eq]
    simp only [ref18_Res.b1, h1, n_bind, n_map, getL_0, getL_1, getL_2, getL_3, getL_4, getL_5, getL_6, getL_7, getL_8, getL_9, getL_10, getL_11, getL_12, condV_t, condV_f, guardV_tt, guardV_ff, guardV_tf, guardV_ft, guardV_u, apick_t, apick_f, exV_exit, exV_ret, lookE_same, joinK_eq, seqA_n, seqA_e, seqA_r, e_add, e_sub, e_mul, e_eql, e_neq, e_lss, e_leq, e_gtr, e_geq, e_conv, e_not, e_neg, and_guard, or_guard]
  | cons a rest ih =>
    intro i y t m hi hle hA hN hb
    obtain ⟨hlt, he, hd⟩ := drop_nx hi
    have h1 : decide ((i : Int) < ((l.length : Nat) : Int)) = true := by simp; omega
    obtain ⟨p, u, cs, h2, h4, h5, h3⟩ := hL.2 i hlt
    have h3 := h3 m (y, t) hA
    have h4 : u = .agg cs.toArray := h4
    rw [he] at h5
    rw [h4, h5] at h3
    have h3 : aload true 2 p t = some (rv a) := h3
    rw [fm_consW, List.length_append] at hb
    rw [show ePr a = tB a.1 ++ tB a.2 from rfl, List.length_append] at hb
    obtain ⟨r, g1, g2⟩ := rtext_app (k := a.1) hA.1 hN (by omega)
    obtain ⟨r2, g3, g4⟩ := rtext_app (k := a.2) g2.1 (Nat.le_trans hN g2.len) (by rw [List.length_append]; omega)
    have hA2 := g2.trans g4
    obtain ⟨r3, f1, f2⟩ := ih (i + 1) r2.1 r2.2 (m ++ tB a.1 ++ tB a.2) hd (by omega) (hA.trans hA2) (Nat.le_trans hN hA2.len) (by rw [List.length_append, List.length_append]; omega)
    refine ⟨r3, ?_, by
      have := hA2.trans f2
      rw [fm_consW, show ePr a = tB a.1 ++ tB a.2 from rfl]
      simpa only [List.append_assoc] using this⟩
    have l0 : lload false 1 lptr (rv a) = some (sv a.1) := rfl
    have l1 : lload false 1 (.pointer (some ⟨0, 1, none⟩)) (rv a) = some (sv a.2) := rfl
    rw [loopL_eq]
    simp only [ref18_Res.b1, h1, h2, h3, st_prR, l0, l1, ref18_Text_call, g1, own_app g2, g3, own_app g4, inc_i64 (show i < 140737488355328 by omega), n_bind, n_map, getL_0, getL_1, getL_2, getL_3, getL_4, getL_5, getL_6, getL_7, getL_8, getL_9, getL_10, getL_11, getL_12, condV_t, condV_f, guardV_tt, guardV_ff, guardV_tf, guardV_ft, guardV_u, apick_t, apick_f, exV_exit, exV_ret, lookE_same, joinK_eq, seqA_n, seqA_e, seqA_r, e_add, e_sub, e_mul, e_eql, e_neq, e_lss, e_leq, e_gtr, e_geq, e_conv, e_not, e_neg, and_guard, or_guard]
    exact f1
theorem rres_loop {N : Nat} {s0 s1 : St} {x v : Value} {l : List Rs} {m0 : BL} (hs0 : s0.heap.length = N) (hx0 : Ext N s0 s1) (ho : Own N 1 s1 x (bv m0)) (hL : ElsA N s1 x 3 true v l fun a cs => rsN.rel a s0 cs) (hl : l.length < 140737488355328) : ∀ (rest : List Rs) (i : Nat) (y : Value) (t : St) (m : BL), l.drop i = rest → i ≤ l.length → App N s1 x m (y, t) → N ≤ t.heap.length → m.length + (rest.flatMap eRs).length ≤ 140737488300000 →
    ∃ r, loopL (ref18_Res.b0 (run Tryz.prog (libL libT) hints)) [y, v, .int .i64 ((l.length : Nat) : Int), .int .i64 (i : Int)] t = some (.exit 0, [r.1], r.2) ∧ App N t y (m ++ rest.flatMap eRs) r := by
  intro rest
  induction rest with
  | nil =>
    intro i y t m hi hle hA hN hb
    have h1 : decide ((i : Int) < ((l.length : Nat) : Int)) = false := by
      have := List.drop_eq_nil_iff.1 hi
      simp; omega
    refine ⟨(y, t), ?_, by rw [List.flatMap_nil, List.append_nil]; exact .start hA.1⟩
    rw [loopL_eq]
    simp only [ref18_Res.b0, h1, n_bind, n_map, getL_0, getL_1, getL_2, getL_3, getL_4, getL_5, getL_6, getL_7, getL_8, getL_9, getL_10, getL_11, getL_12, condV_t, condV_f, guardV_tt, guardV_ff, guardV_tf, guardV_ft, guardV_u, apick_t, apick_f, exV_exit, exV_ret, lookE_same, joinK_eq, seqA_n, seqA_e, seqA_r, e_add, e_sub, e_mul, e_eql, e_neq, e_lss, e_leq, e_gtr, e_geq, e_conv, e_not, e_neg, and_guard, or_guard]
  | cons a rest ih =>
    intro i y t m hi hle hA hN hb
    obtain ⟨hlt, he, hd⟩ := drop_nx hi
    have h1 : decide ((i : Int) < ((l.length : Nat) : Int)) = true := by simp; omega
    obtain ⟨p, u, cs, h2, h4, h5, h3⟩ := hL.2 i hlt
    have h3 := h3 m (y, t) hA
    have h4 : u = .agg cs.toArray := h4
    rw [he] at h5
    obtain ⟨z, hcs, hz, hzl⟩ := rs_inv h5
    subst hcs
    rw [h4] at h3
    rw [fm_consW, List.length_append] at hb
    rw [show eRs a = [if a.1 = true then 1 else 0] ++ tB a.2.1 ++ (enc a.2.2.length ++ a.2.2.flatMap ePr) from rfl] at hb
    simp only [List.length_append, List.length_singleton] at hb
    have hl2 := listN_short hz (by decide)
    obtain ⟨r, g1, g2⟩ := rflag_app a.1 hA.1 hN (by omega)
    obtain ⟨r2, g3, g4⟩ := rtext_app (k := a.2.1) g2.1 (Nat.le_trans hN g2.len) (by simp only [List.length_append, List.length_singleton]; omega)
    have hA2 := g2.trans g4
    obtain ⟨r3, g5, g6⟩ := app_new (m := eN ((a.2.2.length : Nat) : Int)) g4.1 (Nat.le_trans hN hA2.len) (by rw [eN_nat]; simp only [List.length_append, List.length_singleton]; omega)
    have hA3 := hA2.trans g6
    have hE := elsA_arg (N := N) (n := 2) (ag := true) (x := r3.1) hz hs0 (hx0.trans ((hA.trans hA3).ext ho (by have := hx0.1; omega))) g6.1 rfl (.inl rfl)
    obtain ⟨r4, g7, g8⟩ := rpr_loop (a1 := v) (a2 := .int .i64 ((l.length : Nat) : Int)) (a3 := .int .i64 (i : Int)) ⟨hE.1, fun i hi => by
      obtain ⟨p, u, cs, h1, h2, h3, h4⟩ := hE.2 i hi
      exact ⟨p, u, cs, h1, h2, h3.1, h4⟩⟩ hl2 a.2.2 0 r3.1 r3.2 _ rfl (Nat.zero_le _) (.start g6.1) (Nat.le_trans hN hA3.len) (by rw [eN_nat]; simp only [List.length_append, List.length_singleton]; omega)
    have g7 : loopL (ref18_Res.b1 (run Tryz.prog (libL libT) hints)) [r3.1, v, .int .i64 ((l.length : Nat) : Int), .int .i64 (i : Int), z, .int .i64 ((a.2.2.length : Nat) : Int), .int .i64 0] r3.2 = some (.exit 2, [r4.1, v, .int .i64 ((l.length : Nat) : Int), .int .i64 (i : Int)], r4.2) := g7
    have hA4 := hA3.trans g8
    obtain ⟨r5, f1, f2⟩ := ih (i + 1) r4.1 r4.2 _ hd (by omega) (hA.trans hA4) (Nat.le_trans hN hA4.len) (by rw [eN_nat]; simp only [List.length_append, List.length_singleton]; omega)
    refine ⟨r5, ?_, by
      have := hA4.trans f2
      rw [fm_consW, show eRs a = [if a.1 = true then 1 else 0] ++ tB a.2.1 ++ (enc a.2.2.length ++ a.2.2.flatMap ePr) from rfl]
      rw [eN_nat] at this
      simpa only [List.append_assoc] using this⟩
    have st : lstore 3 lptr (.agg [.bool a.1, sv a.2.1, z].toArray) (.agg #[(.bool false), (.string ⟨#[]⟩), (.slice none 0 0)]) = some (.agg [.bool a.1, sv a.2.1, z].toArray) := arr_put (cs := [(.bool false), (.string ⟨#[]⟩), (.slice none 0 0)]) rfl rfl (by simp only [List.all_cons, listN_leafR hz, List.all_nil]; rfl)
    have l0 : lload false 1 lptr (.agg [.bool a.1, sv a.2.1, z].toArray) = some (.bool a.1) := rfl
    have l1 : lload false 1 (.pointer (some ⟨0, 1, none⟩)) (.agg [.bool a.1, sv a.2.1, z].toArray) = some (sv a.2.1) := rfl
    have l2 : lload false 1 (.pointer (some ⟨0, 2, none⟩)) (.agg [.bool a.1, sv a.2.1, z].toArray) = some z := rfl
    rw [loopL_eq]
    simp only [ref18_Res.b0, h1, h2, h3, st, l0, l1, l2, ref18_flag_call, g1, own_app g2, ref18_Text_call, g3, own_app g4, listN_lenR hz, wrap_pos (len_n hl2), ref01_Num_call, kn_refnum' (in64 (len_n hl2)), g5, g7, inc_i64 (show i < 140737488355328 by omega), n_bind, n_map, getL_0, getL_1, getL_2, getL_3, getL_4, getL_5, getL_6, getL_7, getL_8, getL_9, getL_10, getL_11, getL_12, condV_t, condV_f, guardV_tt, guardV_ff, guardV_tf, guardV_ft, guardV_u, apick_t, apick_f, exV_exit, exV_ret, lookE_same, joinK_eq, seqA_n, seqA_e, seqA_r, e_add, e_sub, e_mul, e_eql, e_neq, e_lss, e_leq, e_gtr, e_geq, e_conv, e_not, e_neg, and_guard, or_guard]
    exact f1
theorem rres_run {N : Nat} {s0 s : St} {x v : Value} {l : List Rs} {m : BL} (ho : Own N 1 s x (bv m)) (hlo : s0.heap.length = N) (hx : Ext N s0 s) (hv : ListN rsN 48 l s0 v) (hb : m.length + (eList eRs l).length ≤ 140737488300000) :
    ∃ r, (run Tryz.prog (libL libT) hints) 34 [x, v] s = some r ∧ App N s x (m ++ eList eRs l) r := by
  have hN : N ≤ s.heap.length := by have := hx.1; omega
  have hl := listN_short hv (by decide)
  unfold eList at hb ⊢
  rw [List.length_append] at hb
  obtain ⟨r, g1, g2⟩ := app_new (m := eN ((l.length : Nat) : Int)) ho hN (by rw [eN_nat]; omega)
  have hx1 : Ext N s0 r.2 := hx.trans (g2.ext ho hN)
  have hE := elsA_arg (N := N) (n := 3) (ag := true) (x := r.1) hv hlo hx1 g2.1 rfl (.inl rfl)
  obtain ⟨r2, f1, f2⟩ := rres_loop hlo hx1 g2.1 hE hl l 0 r.1 r.2 _ rfl (Nat.zero_le _) (.start g2.1) (Nat.le_trans hN g2.len) (by rw [eN_nat, List.length_append]; omega)
  have f1 : loopL (ref18_Res.b0 (run Tryz.prog (libL libT) hints)) [r.1, v, .int .i64 ((l.length : Nat) : Int), .int .i64 0] r.2 = some (.exit 0, [r2.1], r2.2) := f1
  refine ⟨r2, ref18_Res_of rfl ?_, by
    have := g2.trans f2
    rw [eN_nat] at this
    simpa only [List.append_assoc] using this⟩
  unfold ref18_Res
  simp only [listN_lenR hv, wrap_pos (len_n hl), ref01_Num_call, kn_refnum' (in64 (len_n hl)), g1, f1, ret_own f2.1, n_bind, n_map, getL_0, getL_1, getL_2, getL_3, getL_4, getL_5, getL_6, getL_7, getL_8, getL_9, getL_10, getL_11, getL_12, condV_t, condV_f, guardV_tt, guardV_ff, guardV_tf, guardV_ft, guardV_u, apick_t, apick_f, exV_exit, exV_ret, lookE_same, joinK_eq, seqA_n, seqA_e, seqA_r, e_add, e_sub, e_mul, e_eql, e_neq, e_lss, e_leq, e_gtr, e_geq, e_conv, e_not, e_neg, and_guard, or_guard]

end Go.Proofs.YtckpcelchhmjcaaGreat.Ab

/- The document's writer: a shard's state. -/
namespace Go.Proofs.YtckpcelchhmjcaaGreat.Ab
open Go

theorem rop_loop {N : Nat} {s1 : St} {x v T0 T2 T3 T4 U : Value} {l : List OpT} (hL : ElsA N s1 x 6 true v l fun a cs => cs = opC.enc a) (hn : ∀ o ∈ l, okOp o) (hl : l.length < 140737488355328) : ∀ (rest : List OpT) (i : Nat) (y : Value) (t : St) (m : BL), l.drop i = rest → i ≤ l.length → App N s1 x m (y, t) → N ≤ t.heap.length → m.length + (rest.flatMap eOp).length ≤ 140737488300000 →
    ∃ r, loopL (ref19_EncodeShard.b1 (run Tryz.prog (libL libT) hints)) [T0, y, T2, T3, T4, v, .int .i64 ((l.length : Nat) : Int), .int .i64 (i : Int), U] t = some (.exit 2, [T0, r.1, T2, T3, T4, U], r.2) ∧ App N t y (m ++ rest.flatMap eOp) r := by
  intro rest
  induction rest with
  | nil =>
    intro i y t m hi hle hA hN hb
    have h1 : decide ((i : Int) < ((l.length : Nat) : Int)) = false := by
      have := List.drop_eq_nil_iff.1 hi
      simp; omega
    refine ⟨(y, t), ?_, by rw [List.flatMap_nil, List.append_nil]; exact .start hA.1⟩
    rw [loopL_eq]
    simp only [ref19_EncodeShard.b1, h1, n_bind, n_map, getL_0, getL_1, getL_2, getL_3, getL_4, getL_5, getL_6, getL_7, getL_8, getL_9, getL_10, getL_11, getL_12, condV_t, condV_f, guardV_tt, guardV_ff, guardV_tf, guardV_ft, guardV_u, apick_t, apick_f, exV_exit, exV_ret, lookE_same, joinK_eq, seqA_n, seqA_e, seqA_r, e_add, e_sub, e_mul, e_eql, e_neq, e_lss, e_leq, e_gtr, e_geq, e_conv, e_not, e_neg, and_guard, or_guard]
  | cons a rest ih =>
    intro i y t m hi hle hA hN hb
    obtain ⟨hlt, he, hd⟩ := drop_nx hi
    have h1 : decide ((i : Int) < ((l.length : Nat) : Int)) = true := by simp; omega
    obtain ⟨p, u, cs, h2, h4, h5, h3⟩ := hL.2 i hlt
    have h3 := h3 m (y, t) hA
    have h4 : u = .agg cs.toArray := h4
    rw [he] at h5
    rw [h4, h5] at h3
    have h3 : aload true 6 p t = some (oV a) := h3
    have ha := hn a (he ▸ List.getElem_mem hlt)
    rw [fm_consW, List.length_append, show eOp a = eN a.kind ++ tB a.key ++ tB a.val ++ tB a.lo ++ tB a.hi ++ eN a.most from rfl] at hb
    simp only [List.length_append] at hb
    obtain ⟨r1, g1, k1, k1'⟩ := rnum_one (n := a.kind) hA.1 hN (in64 ha.1) (by omega)
    have n1 := Nat.le_trans hN k1.len
    obtain ⟨r2, g2, k2⟩ := rtext_app (k := a.key) k1.1 n1 (by simp only [List.length_append]; omega)
    have n2 := Nat.le_trans n1 k2.len
    obtain ⟨r3, g3, k3⟩ := rtext_app (k := a.val) k2.1 n2 (by simp only [List.length_append]; omega)
    have n3 := Nat.le_trans n2 k3.len
    obtain ⟨r4, g4, k4⟩ := rtext_app (k := a.lo) k3.1 n3 (by simp only [List.length_append]; omega)
    have n4 := Nat.le_trans n3 k4.len
    obtain ⟨r5, g5, k5⟩ := rtext_app (k := a.hi) k4.1 n4 (by simp only [List.length_append]; omega)
    have n5 := Nat.le_trans n4 k5.len
    obtain ⟨r6, g6, k6, k6'⟩ := rnum_one (n := a.most) k5.1 n5 (in64 ha.2) (by simp only [List.length_append]; omega)
    have hA2 := k1.trans (k2.trans (k3.trans (k4.trans (k5.trans k6))))
    obtain ⟨r7, f1, f2⟩ := ih (i + 1) r6.1 r6.2 _ hd (by omega) (hA.trans hA2) (Nat.le_trans hN hA2.len) (by simp only [List.length_append]; omega)
    refine ⟨r7, ?_, by
      have := hA2.trans f2
      rw [fm_consW, show eOp a = eN a.kind ++ tB a.key ++ tB a.val ++ tB a.lo ++ tB a.hi ++ eN a.most from rfl]
      simpa only [List.append_assoc] using this⟩
    have st : lstore 6 lptr (oV a) (.agg #[(.int .i64 0), (.string ⟨#[]⟩), (.string ⟨#[]⟩), (.string ⟨#[]⟩), (.string ⟨#[]⟩), (.int .i64 0)]) = some (oV a) := rfl
    have l0 : lload false 1 lptr (oV a) = some (.int .i64 a.kind) := rfl
    have l1 : lload false 1 (.pointer (some ⟨0, 1, none⟩)) (oV a) = some (sv a.key) := rfl
    have l2 : lload false 1 (.pointer (some ⟨0, 2, none⟩)) (oV a) = some (sv a.val) := rfl
    have l3 : lload false 1 (.pointer (some ⟨0, 3, none⟩)) (oV a) = some (sv a.lo) := rfl
    have l4 : lload false 1 (.pointer (some ⟨0, 4, none⟩)) (oV a) = some (sv a.hi) := rfl
    have l5 : lload false 1 (.pointer (some ⟨0, 5, none⟩)) (oV a) = some (.int .i64 a.most) := rfl
    rw [loopL_eq]
    simp only [ref19_EncodeShard.b1, h1, h2, h3, st, l0, l1, l2, l3, l4, l5, wrap_pos ha.1, wrap_pos ha.2, build1, ref19_num_call, ref18_Text_call, g1, g2, own_app k2, g3, own_app k3, g4, own_app k4, g5, own_app k5, g6, inc_i64 (show i < 140737488355328 by omega), n_bind, n_map, getL_0, getL_1, getL_2, getL_3, getL_4, getL_5, getL_6, getL_7, getL_8, getL_9, getL_10, getL_11, getL_12, condV_t, condV_f, guardV_tt, guardV_ff, guardV_tf, guardV_ft, guardV_u, apick_t, apick_f, exV_exit, exV_ret, lookE_same, joinK_eq, seqA_n, seqA_e, seqA_r, e_add, e_sub, e_mul, e_eql, e_neq, e_lss, e_leq, e_gtr, e_geq, e_conv, e_not, e_neg, and_guard, or_guard]
    exact f1
theorem rho_loop {N : Nat} {s0 s1 : St} {x v T0 U : Value} {l : List Ho} {m0 : BL} (hs0 : s0.heap.length = N) (hx0 : Ext N s0 s1) (ho : Own N 1 s1 x (bv m0)) (hL : ElsA N s1 x 2 true v l fun a cs => hoN.rel a s0 cs) (hn : ∀ h ∈ l, ∀ o ∈ h.2, okOp o) (hl : l.length < 140737488355328) : ∀ (rest : List Ho) (i : Nat) (y : Value) (t : St) (m : BL), l.drop i = rest → i ≤ l.length → App N s1 x m (y, t) → N ≤ t.heap.length → m.length + (rest.flatMap eHo).length ≤ 140737488300000 →
    ∃ r, loopL (ref19_EncodeShard.b0 (run Tryz.prog (libL libT) hints)) [T0, y, v, .int .i64 ((l.length : Nat) : Int), .int .i64 (i : Int), U] t = some (.exit 0, [T0, r.1, U], r.2) ∧ App N t y (m ++ rest.flatMap eHo) r := by
  intro rest
  induction rest with
  | nil =>
    intro i y t m hi hle hA hN hb
    have h1 : decide ((i : Int) < ((l.length : Nat) : Int)) = false := by
      have := List.drop_eq_nil_iff.1 hi
      simp; omega
    refine ⟨(y, t), ?_, by rw [List.flatMap_nil, List.append_nil]; exact .start hA.1⟩
    rw [loopL_eq]
    simp only [ref19_EncodeShard.b0, h1, n_bind, n_map, getL_0, getL_1, getL_2, getL_3, getL_4, getL_5, getL_6, getL_7, getL_8, getL_9, getL_10, getL_11, getL_12, condV_t, condV_f, guardV_tt, guardV_ff, guardV_tf, guardV_ft, guardV_u, apick_t, apick_f, exV_exit, exV_ret, lookE_same, joinK_eq, seqA_n, seqA_e, seqA_r, e_add, e_sub, e_mul, e_eql, e_neq, e_lss, e_leq, e_gtr, e_geq, e_conv, e_not, e_neg, and_guard, or_guard]
  | cons a rest ih =>
    intro i y t m hi hle hA hN hb
    obtain ⟨hlt, he, hd⟩ := drop_nx hi
    have h1 : decide ((i : Int) < ((l.length : Nat) : Int)) = true := by simp; omega
    obtain ⟨p, u, cs, h2, h4, h5, h3⟩ := hL.2 i hlt
    have h3 := h3 m (y, t) hA
    have h4 : u = .agg cs.toArray := h4
    rw [he] at h5
    obtain ⟨z, hcs, hwf, hz⟩ := ho_inv h5
    subst hcs
    rw [h4] at h3
    have hm := List.getElem_mem hlt
    rw [he] at hm
    rw [fm_consW, List.length_append, show eHo a = eN a.1 ++ (enc a.2.length ++ a.2.flatMap eOp) from rfl] at hb
    simp only [List.length_append] at hb
    have hl2 := listN_short hz (by decide)
    have hns : ∀ n ∈ [a.1, ((a.2.length : Nat) : Int)], inN64 n := fun n hn => by
      simp only [List.mem_cons, List.not_mem_nil, or_false] at hn
      rcases hn with rfl | rfl
      · exact wf_64 hwf
      · exact in64 (len_n hl2)
    obtain ⟨r, g1, g2, _⟩ := rnum_tmp (ls := [a.1, ((a.2.length : Nat) : Int)]) hA.1 hN hns (by simp) (by simp only [List.flatMap_cons, List.flatMap_nil, List.append_nil, List.length_append, eN_nat]; omega)
    simp only [List.flatMap_cons, List.flatMap_nil, List.append_nil, eN_nat] at g2
    have g1 : (run Tryz.prog (libL libT) hints) 27 [y, .slice (some ⟨t.heap.length, 0, none⟩) 2 2] (t.push (.row 1 ([a.1, ((a.2.length : Nat) : Int)].map fun n => Value.int .u64 n) .act)) = some r := g1
    have hE := elsA_arg (N := N) (n := 6) (ag := true) (x := r.1) hz hs0 (hx0.trans ((hA.trans g2).ext ho (by have := hx0.1; omega))) g2.1 rfl (.inl rfl)
    obtain ⟨r4, g7, g8⟩ := rop_loop (T0 := T0) (T2 := v) (T3 := .int .i64 ((l.length : Nat) : Int)) (T4 := .int .i64 (i : Int)) (U := U) ⟨hE.1, fun i hi => by
      obtain ⟨p, u, cs, h1, h2, h3, h4⟩ := hE.2 i hi
      exact ⟨p, u, cs, h1, h2, h3.1, h4⟩⟩ (hn a hm) hl2 a.2 0 r.1 r.2 _ rfl (Nat.zero_le _) (.start g2.1) (Nat.le_trans hN g2.len) (by simp only [List.length_append]; omega)
    have g7 : loopL (ref19_EncodeShard.b1 (run Tryz.prog (libL libT) hints)) [T0, r.1, v, .int .i64 ((l.length : Nat) : Int), .int .i64 (i : Int), z, .int .i64 ((a.2.length : Nat) : Int), .int .i64 0, U] r.2 = some (.exit 2, [T0, r4.1, v, .int .i64 ((l.length : Nat) : Int), .int .i64 (i : Int), U], r4.2) := g7
    have hA4 := g2.trans g8
    obtain ⟨r5, f1, f2⟩ := ih (i + 1) r4.1 r4.2 _ hd (by omega) (hA.trans hA4) (Nat.le_trans hN hA4.len) (by simp only [List.length_append]; omega)
    refine ⟨r5, ?_, by
      have := hA4.trans f2
      rw [fm_consW, show eHo a = eN a.1 ++ (enc a.2.length ++ a.2.flatMap eOp) from rfl]
      simpa only [List.append_assoc] using this⟩
    have st : lstore 2 lptr (.agg [.int .u64 a.1, z].toArray) (.agg #[(.int .u64 0), (.slice none 0 0)]) = some (.agg [.int .u64 a.1, z].toArray) := arr_put (cs := [(.int .u64 0), (.slice none 0 0)]) rfl rfl (by simp only [List.all_cons, listN_leafR hz, List.all_nil]; rfl)
    have l0 : lload false 1 lptr (.agg [.int .u64 a.1, z].toArray) = some (.int .u64 a.1) := rfl
    have l1 : lload false 1 (.pointer (some ⟨0, 1, none⟩)) (.agg [.int .u64 a.1, z].toArray) = some z := rfl
    have b2 : abuildSl 1 [(.int .u64 0)] 2 [(0, .int .u64 a.1), (1, .int .u64 ((a.2.length : Nat) : Int))] t = some (.slice (some ⟨t.heap.length, 0, none⟩) 2 2, t.push (.row 1 ([a.1, ((a.2.length : Nat) : Int)].map fun n => Value.int .u64 n) .act)) := rfl
    rw [loopL_eq]
    simp only [ref19_EncodeShard.b0, h1, h2, h3, st, l0, l1, listN_lenR hz, wrap_pos (len_n hl2), b2, ref19_num_call, g1, g7, inc_i64 (show i < 140737488355328 by omega), n_bind, n_map, getL_0, getL_1, getL_2, getL_3, getL_4, getL_5, getL_6, getL_7, getL_8, getL_9, getL_10, getL_11, getL_12, condV_t, condV_f, guardV_tt, guardV_ff, guardV_tf, guardV_ft, guardV_u, apick_t, apick_f, exV_exit, exV_ret, lookE_same, joinK_eq, seqA_n, seqA_e, seqA_r, e_add, e_sub, e_mul, e_eql, e_neq, e_lss, e_leq, e_gtr, e_geq, e_conv, e_not, e_neg, and_guard, or_guard]
    exact f1

end Go.Proofs.YtckpcelchhmjcaaGreat.Ab

/- The document's writer: the whole of a shard's state. -/
namespace Go.Proofs.YtckpcelchhmjcaaGreat.Ab
open Go

/-- a step of the writer: it goes on from N's bytes -/
structure Got (N : Nat) (s0 : St) (m : BL) (r : Value × St) : Prop where
  own : Own N 1 r.2 r.1 (bv m)
  ext : Ext N s0 r.2
theorem Got.len {N : Nat} {s0 : St} {m : BL} {r : Value × St} (h : Got N s0 m r) (hN : s0.heap.length = N) : N ≤ r.2.heap.length := by have := h.ext.1; omega
theorem Got.next {N : Nat} {s0 : St} {m m2 : BL} {r r2 : Value × St} (h : Got N s0 m r) (hN : s0.heap.length = N) (g : App N r.2 r.1 m2 r2) : Got N s0 m2 r2 := ⟨g.1, h.ext.trans (g.ext h.own (h.len hN))⟩
theorem refEncS {d : Sd} {s : St} {v : Value} (h : NArg sdN d s v) (hck : (run Tryz.prog (libL libT) hints) 12 [v] s = some (.int .i64 (eSd d), s)) (hb : eSd d = 0 → (encSd d).length ≤ 9000) : ∃ x t, (run Tryz.prog (libL libT) hints) 8 [v] s = some (.tuple #[x, .int .i64 (eSd d)], t) ∧ Own s.heap.length 1 t x (bv (if eSd d = 0 then encSd d else [])) ∧ Ext s.heap.length s t := by
  obtain ⟨cs, rfl, hr⟩ := h
  obtain ⟨ow, he, fi, rfl, hs⟩ := sd_inv hr
  have hbx := lbox_cs (sd_leaf hs)
  have hal : lload true 17 lptr (.agg (sdCells d ow he fi).toArray) = some (.agg (sdCells d ow he fi).toArray) := arr_all rfl
  have i0 : lload false 1 lptr (.agg (sdCells d ow he fi).toArray) = some (.int .i64 d.id) := rfl
  have i1 : lload false 1 (.pointer (some ⟨0, 1, none⟩)) (.agg (sdCells d ow he fi).toArray) = some (.int .u64 d.boot) := rfl
  have i2 : lload false 1 (.pointer (some ⟨0, 2, none⟩)) (.agg (sdCells d ow he fi).toArray) = some (.int .u64 d.ver) := rfl
  have i3 : lload false 1 (.pointer (some ⟨0, 3, none⟩)) (.agg (sdCells d ow he fi).toArray) = some (.int .u64 d.epoch) := rfl
  have i4 : lload false 1 (.pointer (some ⟨0, 4, none⟩)) (.agg (sdCells d ow he fi).toArray) = some (.int .u64 d.move) := rfl
  have i5 : lload false 1 (.pointer (some ⟨0, 5, none⟩)) (.agg (sdCells d ow he fi).toArray) = some ow := rfl
  have i6 : lload false 1 (.pointer (some ⟨0, 6, none⟩)) (.agg (sdCells d ow he fi).toArray) = some he := rfl
  have i7 : lload false 1 (.pointer (some ⟨0, 7, none⟩)) (.agg (sdCells d ow he fi).toArray) = some fi := rfl
  have i8 : lload false 1 (.pointer (some ⟨0, 8, none⟩)) (.agg (sdCells d ow he fi).toArray) = some (.int .u64 d.low) := rfl
  have i9 : lload false 1 (.pointer (some ⟨0, 9, none⟩)) (.agg (sdCells d ow he fi).toArray) = some (.int .u64 d.frozen) := rfl
  have i10 : lload false 1 (.pointer (some ⟨0, 10, none⟩)) (.agg (sdCells d ow he fi).toArray) = some (sv d.cold.1) := rfl
  have i11 : lload false 1 (.pointer (some ⟨0, 11, none⟩)) (.agg (sdCells d ow he fi).toArray) = some (sv d.cold.2) := rfl
  have i12 : lload false 1 (.pointer (some ⟨0, 12, none⟩)) (.agg (sdCells d ow he fi).toArray) = some (.int .u64 d.im) := rfl
  have i13 : lload false 1 (.pointer (some ⟨0, 13, none⟩)) (.agg (sdCells d ow he fi).toArray) = some (.int .u64 d.ia) := rfl
  have i14 : lload false 1 (.pointer (some ⟨0, 14, none⟩)) (.agg (sdCells d ow he fi).toArray) = some (.int .u64 d.inx) := rfl
  have i15 : lload false 1 (.pointer (some ⟨0, 15, none⟩)) (.agg (sdCells d ow he fi).toArray) = some (sv d.ir.1) := rfl
  have i16 : lload false 1 (.pointer (some ⟨0, 16, none⟩)) (.agg (sdCells d ow he fi).toArray) = some (sv d.ir.2) := rfl
  have a7 : afieldAddr 7 lptr = some (.pointer (some ⟨0, 7, none⟩)) := rfl
  have a8 : afieldAddr 8 lptr = some (.pointer (some ⟨0, 8, none⟩)) := rfl
  have a9 : afieldAddr 9 lptr = some (.pointer (some ⟨0, 9, none⟩)) := rfl
  have a10 : afieldAddr 10 lptr = some (.pointer (some ⟨0, 10, none⟩)) := rfl
  have a12 : afieldAddr 12 lptr = some (.pointer (some ⟨0, 12, none⟩)) := rfl
  have b10 : afieldAddr 0 (.pointer (some ⟨0, 10, none⟩)) = some (.pointer (some ⟨0, 10, none⟩)) := rfl
  have b11 : afieldAddr 1 (.pointer (some ⟨0, 10, none⟩)) = some (.pointer (some ⟨0, 11, none⟩)) := rfl
  have b12 : afieldAddr 0 (.pointer (some ⟨0, 12, none⟩)) = some (.pointer (some ⟨0, 12, none⟩)) := rfl
  have b13 : afieldAddr 1 (.pointer (some ⟨0, 12, none⟩)) = some (.pointer (some ⟨0, 13, none⟩)) := rfl
  have b14 : afieldAddr 2 (.pointer (some ⟨0, 12, none⟩)) = some (.pointer (some ⟨0, 14, none⟩)) := rfl
  have b15 : afieldAddr 3 (.pointer (some ⟨0, 12, none⟩)) = some (.pointer (some ⟨0, 15, none⟩)) := rfl
  have c15 : afieldAddr 0 (.pointer (some ⟨0, 15, none⟩)) = some (.pointer (some ⟨0, 15, none⟩)) := rfl
  have c16 : afieldAddr 1 (.pointer (some ⟨0, 15, none⟩)) = some (.pointer (some ⟨0, 16, none⟩)) := rfl
  generalize hu : (Value.agg (sdCells d ow he fi).toArray) = u at *
  have z0 : ((0 : Int) != 0) = false := rfl
  by_cases hz : eSd d = 0
  · have hb := hb hz
    have hok := eSd_ok hz
    rw [hz] at hck ⊢
    rw [if_pos rfl]
    unfold encSd at hb
    simp only [List.length_append, List.length_singleton] at hb
    generalize hN : s.heap.length = N at *
    have lH := listN_short hs.he (by decide)
    have lF := listN_short hs.fi (by decide)
    -- the first byte, the first numbers
    have e1 : abuildSl 1 [(.int .u8 0)] 1 [(0, (.int .u8 83))] s = some (newBytes [83] s) := rfl
    have G0 : Got N s [83] (newBytes [83] s) := ⟨newBytes_own (by omega) (by simp), newBytes_ext (by omega)⟩
    generalize newBytes [83] s = r0 at *
    have n5 : abuildSl 1 [(.int .u64 0)] 5 [(0, .int .u64 d.id), (1, .int .u64 d.boot), (2, .int .u64 d.ver), (3, .int .u64 d.epoch), (4, .int .u64 d.move)] r0.2 = some (.slice (some ⟨r0.2.heap.length, 0, none⟩) 5 5, r0.2.push (.row 1 ([d.id, d.boot, d.ver, d.epoch, d.move].map fun a => .int .u64 a) .act)) := rfl
    obtain ⟨r1, g1, k1, _⟩ := rnum_tmp (ls := [d.id, d.boot, d.ver, d.epoch, d.move]) G0.own (G0.len hN) (by
      have q1 := wf_64 hs.wboot
      have q2 := wf_64 hs.wver
      have q3 := wf_64 hs.wepoch
      have q4 := wf_64 hs.wmove
      intro n hn
      simp only [List.mem_cons, List.not_mem_nil, or_false] at hn
      rcases hn with rfl | rfl | rfl | rfl | rfl
      · exact in64 hok.id
      · exact q1
      · exact q2
      · exact q3
      · exact q4) (by simp) (by rw [List.length_singleton]; omega)
    have g1 : (run Tryz.prog (libL libT) hints) 27 [r0.1, .slice (some ⟨r0.2.heap.length, 0, none⟩) 5 5] (r0.2.push (.row 1 ([d.id, d.boot, d.ver, d.epoch, d.move].map fun a => .int .u64 a) .act)) = some r1 := g1
    have G1 := G0.next hN k1
    have hw : ∀ b ∈ blkV ow, b < N := fun b hb => by have := listN_below hs.ow b hb; omega
    have ow1 : ListN (.ofC owC fun _ => True) 24 d.owners r1.2 ow := listN_blk hs.ow fun b hb => G1.ext.2 b (hw b hb)
    -- the dry run
    obtain ⟨q1, d1, D1⟩ := rown_run G1.own (G1.len hN) ow1 hw hok.ow (by simp only [List.length_append, List.length_singleton]; omega)
    obtain ⟨q2, d2, _⟩ := rnum_one (n := ((d.held.length : Nat) : Int)) D1.1 (Nat.le_trans (G1.len hN) D1.len) (in64 (len_n lH)) (by
      rw [eN_nat]; simp only [List.length_append, List.length_singleton, eList] at hb ⊢; omega)
    -- the run
    obtain ⟨r2, g2, k2⟩ := app_drawn (f := fun s' => (run Tryz.prog (libL libT) hints) 28 [r1.1, ow] s') G1.own (G1.len hN) hw fun s' h1 h2 h3 => rown_run h1 h2 (listN_blk ow1 h3) hw hok.ow (by simp only [List.length_append, List.length_singleton]; omega)
    have G2 := G1.next hN k2
    have hba := build1_apart (n := ((d.held.length : Nat) : Int)) (blks_lt G1.own (G1.len hN) hw k2.len)
    obtain ⟨r3, g3, k3, l3⟩ := rnum_one (n := ((d.held.length : Nat) : Int)) G2.own (G2.len hN) (in64 (len_n lH)) (by
      rw [eN_nat]; simp only [List.length_append, List.length_singleton, eList] at hb ⊢; omega)
    have G3 := G2.next hN k3
    have hE := elsA_arg (N := N) (n := 2) (ag := true) (x := r3.1) hs.he hN G3.ext G3.own rfl (.inl rfl)
    obtain ⟨r4, g4, k4⟩ := rho_loop (T0 := lptr) (U := u) hN G3.ext G3.own hE hok.ops lH d.held 0 r3.1 r3.2 _ rfl (Nat.zero_le _) (.start G3.own) (G3.len hN) (by
      rw [eN_nat]; simp only [List.length_append, List.length_singleton, eList] at hb ⊢; omega)
    have g4 : loopL (ref19_EncodeShard.b0 (run Tryz.prog (libL libT) hints)) [lptr, r3.1, he, .int .i64 ((d.held.length : Nat) : Int), .int .i64 0, u] r3.2 = some (.exit 0, [lptr, r4.1, u], r4.2) := g4
    have G4 := G3.next hN k4
    obtain ⟨r5, g5, k5, _⟩ := rnum_one (n := ((d.fin.length : Nat) : Int)) G4.own (G4.len hN) (in64 (len_n lF)) (by
      rw [eN_nat, eN_nat]; simp only [List.length_append, List.length_singleton, eList] at hb ⊢; omega)
    have G5 := G4.next hN k5
    obtain ⟨r6, g6, k6⟩ := rnum_arg G5.own hN G5.ext hs.fi (by
      rw [eN_nat, eN_nat]; simp only [List.length_append, List.length_singleton, eList] at hb ⊢; omega)
    have G6 := G5.next hN k6
    have n2 : abuildSl 1 [(.int .u64 0)] 2 [(0, .int .u64 d.low), (1, .int .u64 d.frozen)] r6.2 = some (.slice (some ⟨r6.2.heap.length, 0, none⟩) 2 2, r6.2.push (.row 1 ([d.low, d.frozen].map fun a => .int .u64 a) .act)) := rfl
    obtain ⟨r7, g7, k7, _⟩ := rnum_tmp (ls := [d.low, d.frozen]) G6.own (G6.len hN) (by
      have q1 := wf_64 hs.wlow
      have q2 := wf_64 hs.wfrozen
      intro n hn
      simp only [List.mem_cons, List.not_mem_nil, or_false] at hn
      rcases hn with rfl | rfl
      · exact q1
      · exact q2) (by simp) (by
      rw [eN_nat, eN_nat]; simp only [List.length_append, List.length_singleton, eList] at hb ⊢; omega)
    have g7 : (run Tryz.prog (libL libT) hints) 27 [r6.1, .slice (some ⟨r6.2.heap.length, 0, none⟩) 2 2] (r6.2.push (.row 1 ([d.low, d.frozen].map fun a => .int .u64 a) .act)) = some r7 := g7
    have G7 := G6.next hN k7
    obtain ⟨r8, g8, k8⟩ := rtext_app (k := d.cold.1) G7.own (G7.len hN) (by
      rw [eN_nat, eN_nat]; simp only [List.length_append, List.length_singleton, eList, ePr] at hb ⊢; omega)
    have G8 := G7.next hN k8
    obtain ⟨r9, g9, k9⟩ := rtext_app (k := d.cold.2) G8.own (G8.len hN) (by
      rw [eN_nat, eN_nat]; simp only [List.length_append, List.length_singleton, eList, ePr] at hb ⊢; omega)
    have G9 := G8.next hN k9
    have n3 : abuildSl 1 [(.int .u64 0)] 3 [(0, .int .u64 d.im), (1, .int .u64 d.ia), (2, .int .u64 d.inx)] r9.2 = some (.slice (some ⟨r9.2.heap.length, 0, none⟩) 3 3, r9.2.push (.row 1 ([d.im, d.ia, d.inx].map fun a => .int .u64 a) .act)) := rfl
    obtain ⟨ra, ga, ka, _⟩ := rnum_tmp (ls := [d.im, d.ia, d.inx]) G9.own (G9.len hN) (by
      have q1 := wf_64 hs.wim
      have q2 := wf_64 hs.wia
      have q3 := wf_64 hs.winx
      intro n hn
      simp only [List.mem_cons, List.not_mem_nil, or_false] at hn
      rcases hn with rfl | rfl | rfl
      · exact q1
      · exact q2
      · exact q3) (by simp) (by
      rw [eN_nat, eN_nat]; simp only [List.length_append, List.length_singleton, eList, ePr] at hb ⊢; omega)
    have ga : (run Tryz.prog (libL libT) hints) 27 [r9.1, .slice (some ⟨r9.2.heap.length, 0, none⟩) 3 3] (r9.2.push (.row 1 ([d.im, d.ia, d.inx].map fun a => .int .u64 a) .act)) = some ra := ga
    have Ga := G9.next hN ka
    obtain ⟨rb, gb, kb⟩ := rtext_app (k := d.ir.1) Ga.own (Ga.len hN) (by
      rw [eN_nat, eN_nat]; simp only [List.length_append, List.length_singleton, eList, ePr] at hb ⊢; omega)
    have Gb := Ga.next hN kb
    obtain ⟨rc, gc, kc⟩ := rtext_app (k := d.ir.2) Gb.own (Gb.len hN) (by
      rw [eN_nat, eN_nat]; simp only [List.length_append, List.length_singleton, eList, ePr] at hb ⊢; omega)
    have Gc := Gb.next hN kc
    refine ⟨rc.1, rc.2, ref19_EncodeShard_of rfl ?_, by
      have := Gc.own
      rw [eN_nat, eN_nat] at this
      unfold encSd eList ePr
      unfold eList at this
      simpa only [List.append_assoc] using this, Gc.ext⟩
    have wH := wrap_pos (len_n lH)
    have wF := wrap_pos (len_n lF)
    have la := listN_lenR hs.he
    have lb := listN_lenR hs.fi
    have rt : retV [rc.1, .int .i64 0] rc.2 = some (.tuple #[rc.1, .int .i64 0], rc.2) := ret_e Gc.own.notup
    have bd := build1 ((d.held.length : Nat) : Int) q1.2
    have bf := build1 ((d.fin.length : Nat) : Int) r4.2
    unfold ref19_EncodeShard
    simp only [hbx, hal, ref19_CheckShard_call, hck, z0, e1, i0, wrap_pos hok.id, i1, i2, i3, i4, n5, ref19_num_call, g1, i5, ref19_owners_call, d1, i6, la, wH, bd, d2, g2, look_apart, hba, g3, own_len l3, g4, a7, i7, lb, wF, bf, g5, g6, a8, i8, a9, i9, n2, g7, a10, b10, i10, ref18_Text_call, g8, own_app k8, b11, i11, g9, own_app k9, a12, b12, i12, b13, i13, b14, i14, n3, ga, b15, c15, i15, gb, own_app kb, c16, i16, gc, own_app kc, rt, n_bind, n_map, getL_0, getL_1, getL_2, getL_3, getL_4, getL_5, getL_6, getL_7, getL_8, getL_9, getL_10, getL_11, getL_12, condV_t, condV_f, guardV_tt, guardV_ff, guardV_tf, guardV_ft, guardV_u, apick_t, apick_f, exV_exit, exV_ret, lookE_same, joinK_eq, seqA_n, seqA_e, seqA_r, e_add, e_sub, e_mul, e_eql, e_neq, e_lss, e_leq, e_gtr, e_geq, e_conv, e_not, e_neg, and_guard, or_guard]
  · have n1 : (eSd d != 0) = true := by simp [hz]
    rw [if_neg hz]
    refine ⟨.slice none 0 0, s, ref19_EncodeShard_of rfl ?_, .nil _ _ _, .refl _ _⟩
    unfold ref19_EncodeShard
    simp only [hbx, hal, ref19_CheckShard_call, hck, n1, ret_e (a := .slice none 0 0) rfl, n_bind, n_map, getL_0, getL_1, getL_2, getL_3, getL_4, getL_5, getL_6, getL_7, getL_8, getL_9, getL_10, getL_11, getL_12, condV_t, condV_f, guardV_tt, guardV_ff, guardV_tf, guardV_ft, guardV_u, apick_t, apick_f, exV_exit, exV_ret, lookE_same, joinK_eq, seqA_n, seqA_e, seqA_r, e_add, e_sub, e_mul, e_eql, e_neq, e_lss, e_leq, e_gtr, e_geq, e_conv, e_not, e_neg, and_guard, or_guard]

end Go.Proofs.YtckpcelchhmjcaaGreat.Ab

/- The document's writer: the coordinator's state. -/
namespace Go.Proofs.YtckpcelchhmjcaaGreat.Ab
open Go

theorem rsh_loop {N : Nat} {s1 : St} {x v T0 T2 T3 T4 U : Value} {l : List Int} (hL : ElsA N s1 x 1 false v l fun a cs => ∃ w : Prop, cs = [.int .i64 a]) (hn : ∀ n ∈ l, inN63 n) (hl : l.length < 140737488355328) : ∀ (rest : List Int) (i : Nat) (y : Value) (t : St) (m : BL), l.drop i = rest → i ≤ l.length → App N s1 x m (y, t) → N ≤ t.heap.length → m.length + (rest.flatMap eN).length ≤ 140737488300000 →
    ∃ r, loopL (ref19_EncodeCoord.b1 (run Tryz.prog (libL libT) hints)) [T0, y, T2, T3, T4, v, .int .i64 ((l.length : Nat) : Int), .int .i64 (i : Int), U] t = some (.exit 2, [T0, r.1, T2, T3, T4, U], r.2) ∧ App N t y (m ++ rest.flatMap eN) r := by
  intro rest
  induction rest with
  | nil =>
    intro i y t m hi hle hA hN hb
    have h1 : decide ((i : Int) < ((l.length : Nat) : Int)) = false := by
      have := List.drop_eq_nil_iff.1 hi
      simp; omega
    refine ⟨(y, t), ?_, by rw [List.flatMap_nil, List.append_nil]; exact .start hA.1⟩
    rw [loopL_eq]
    simp only [ref19_EncodeCoord.b1, h1, n_bind, n_map, getL_0, getL_1, getL_2, getL_3, getL_4, getL_5, getL_6, getL_7, getL_8, getL_9, getL_10, getL_11, getL_12, condV_t, condV_f, guardV_tt, guardV_ff, guardV_tf, guardV_ft, guardV_u, apick_t, apick_f, exV_exit, exV_ret, lookE_same, joinK_eq, seqA_n, seqA_e, seqA_r, e_add, e_sub, e_mul, e_eql, e_neq, e_lss, e_leq, e_gtr, e_geq, e_conv, e_not, e_neg, and_guard, or_guard]
  | cons a rest ih =>
    intro i y t m hi hle hA hN hb
    obtain ⟨hlt, he, hd⟩ := drop_nx hi
    have h1 : decide ((i : Int) < ((l.length : Nat) : Int)) = true := by simp; omega
    obtain ⟨p, u, cs, h2, h4, ⟨_, h5⟩, h3⟩ := hL.2 i hlt
    have h3 := h3 m (y, t) hA
    have h4 : cs = [u] := h4
    rw [h4, he] at h5
    obtain rfl : u = .int .i64 a := (List.cons.inj h5).1
    have ha := hn a (he ▸ List.getElem_mem hlt)
    rw [fm_consW, List.length_append] at hb
    obtain ⟨r1, g1, k1, k1'⟩ := rnum_one (n := a) hA.1 hN (in64 ha) (by omega)
    obtain ⟨r7, f1, f2⟩ := ih (i + 1) r1.1 r1.2 _ hd (by omega) (hA.trans k1) (Nat.le_trans hN k1.len) (by simp only [List.length_append]; omega)
    refine ⟨r7, ?_, by
      have := k1.trans f2
      rw [fm_consW]
      simpa only [List.append_assoc] using this⟩
    rw [loopL_eq]
    simp only [ref19_EncodeCoord.b1, h1, h2, h3, wrap_pos ha, build1, ref19_num_call, g1, inc_i64 (show i < 140737488355328 by omega), n_bind, n_map, getL_0, getL_1, getL_2, getL_3, getL_4, getL_5, getL_6, getL_7, getL_8, getL_9, getL_10, getL_11, getL_12, condV_t, condV_f, guardV_tt, guardV_ff, guardV_tf, guardV_ft, guardV_u, apick_t, apick_f, exV_exit, exV_ret, lookE_same, joinK_eq, seqA_n, seqA_e, seqA_r, e_add, e_sub, e_mul, e_eql, e_neq, e_lss, e_leq, e_gtr, e_geq, e_conv, e_not, e_neg, and_guard, or_guard]
    exact f1
theorem rde_loop {N : Nat} {s0 s1 : St} {x v T0 U : Value} {l : List De} {m0 : BL} (hs0 : s0.heap.length = N) (hx0 : Ext N s0 s1) (ho : Own N 1 s1 x (bv m0)) (hL : ElsA N s1 x 5 true v l fun a cs => deN.rel a s0 cs) (hn : ∀ d ∈ l, inN63 d.2.1 ∧ ∀ n ∈ d.2.2.2.2, inN63 n) (hl : l.length < 140737488355328) : ∀ (rest : List De) (i : Nat) (y : Value) (t : St) (m : BL), l.drop i = rest → i ≤ l.length → App N s1 x m (y, t) → N ≤ t.heap.length → m.length + (rest.flatMap eDe).length ≤ 140737488300000 →
    ∃ r, loopL (ref19_EncodeCoord.b0 (run Tryz.prog (libL libT) hints)) [T0, y, v, .int .i64 ((l.length : Nat) : Int), .int .i64 (i : Int), U] t = some (.exit 0, [T0, r.1, U], r.2) ∧ App N t y (m ++ rest.flatMap eDe) r := by
  intro rest
  induction rest with
  | nil =>
    intro i y t m hi hle hA hN hb
    have h1 : decide ((i : Int) < ((l.length : Nat) : Int)) = false := by
      have := List.drop_eq_nil_iff.1 hi
      simp; omega
    refine ⟨(y, t), ?_, by rw [List.flatMap_nil, List.append_nil]; exact .start hA.1⟩
    rw [loopL_eq]
    simp only [ref19_EncodeCoord.b0, h1, n_bind, n_map, getL_0, getL_1, getL_2, getL_3, getL_4, getL_5, getL_6, getL_7, getL_8, getL_9, getL_10, getL_11, getL_12, condV_t, condV_f, guardV_tt, guardV_ff, guardV_tf, guardV_ft, guardV_u, apick_t, apick_f, exV_exit, exV_ret, lookE_same, joinK_eq, seqA_n, seqA_e, seqA_r, e_add, e_sub, e_mul, e_eql, e_neq, e_lss, e_leq, e_gtr, e_geq, e_conv, e_not, e_neg, and_guard, or_guard]
  | cons a rest ih =>
    intro i y t m hi hle hA hN hb
    obtain ⟨hlt, he, hd⟩ := drop_nx hi
    have h1 : decide ((i : Int) < ((l.length : Nat) : Int)) = true := by simp; omega
    obtain ⟨p, u, cs, h2, h4, h5, h3⟩ := hL.2 i hlt
    have h3 := h3 m (y, t) hA
    have h4 : u = .agg cs.toArray := h4
    rw [he] at h5
    obtain ⟨z, hcs, hz, w1, w2, w3, w4⟩ := de_inv h5
    subst hcs
    rw [h4] at h3
    have hm := List.getElem_mem hlt
    rw [he] at hm
    have ha := hn a hm
    have eq : eDe a = eN a.1 ++ eN a.2.1 ++ eN a.2.2.1 ++ eN a.2.2.2.1 ++ (enc a.2.2.2.2.length ++ a.2.2.2.2.flatMap eN) := rfl
    rw [fm_consW, List.length_append, eq] at hb
    simp only [List.length_append] at hb
    have hl2 := listN_short hz (by decide)
    have hns : ∀ n ∈ [a.1, a.2.1, a.2.2.1, a.2.2.2.1, ((a.2.2.2.2.length : Nat) : Int)], inN64 n := fun n hn => by
      have q1 := wf_64 w1
      have q3 := wf_64 w3
      have q4 := wf_64 w4
      simp only [List.mem_cons, List.not_mem_nil, or_false] at hn
      rcases hn with rfl | rfl | rfl | rfl | rfl
      · exact q1
      · exact in64 ha.1
      · exact q3
      · exact q4
      · exact in64 (len_n hl2)
    obtain ⟨r, g1, g2, _⟩ := rnum_tmp (ls := [a.1, a.2.1, a.2.2.1, a.2.2.2.1, ((a.2.2.2.2.length : Nat) : Int)]) hA.1 hN hns (by simp) (by simp only [List.flatMap_cons, List.flatMap_nil, List.append_nil, List.length_append, eN_nat]; omega)
    simp only [List.flatMap_cons, List.flatMap_nil, List.append_nil, eN_nat] at g2
    have g1 : (run Tryz.prog (libL libT) hints) 27 [y, .slice (some ⟨t.heap.length, 0, none⟩) 5 5] (t.push (.row 1 ([a.1, a.2.1, a.2.2.1, a.2.2.2.1, ((a.2.2.2.2.length : Nat) : Int)].map fun n => Value.int .u64 n) .act)) = some r := g1
    have hE := elsA_arg (N := N) (n := 1) (ag := false) (x := r.1) hz hs0 (hx0.trans ((hA.trans g2).ext ho (by have := hx0.1; omega))) g2.1 rfl (.inr rfl)
    obtain ⟨r4, g7, g8⟩ := rsh_loop (T0 := T0) (T2 := v) (T3 := .int .i64 ((l.length : Nat) : Int)) (T4 := .int .i64 (i : Int)) (U := U) ⟨hE.1, fun i hi => by
      obtain ⟨p, u, cs, h1, h2, h3, h4⟩ := hE.2 i hi
      exact ⟨p, u, cs, h1, h2, ⟨True, h3.1⟩, h4⟩⟩ ha.2 hl2 a.2.2.2.2 0 r.1 r.2 _ rfl (Nat.zero_le _) (.start g2.1) (Nat.le_trans hN g2.len) (by simp only [List.length_append]; omega)
    have g7 : loopL (ref19_EncodeCoord.b1 (run Tryz.prog (libL libT) hints)) [T0, r.1, v, .int .i64 ((l.length : Nat) : Int), .int .i64 (i : Int), z, .int .i64 ((a.2.2.2.2.length : Nat) : Int), .int .i64 0, U] r.2 = some (.exit 2, [T0, r4.1, v, .int .i64 ((l.length : Nat) : Int), .int .i64 (i : Int), U], r4.2) := g7
    have hA4 := g2.trans g8
    obtain ⟨r5, f1, f2⟩ := ih (i + 1) r4.1 r4.2 _ hd (by omega) (hA.trans hA4) (Nat.le_trans hN hA4.len) (by simp only [List.length_append]; omega)
    refine ⟨r5, ?_, by
      have := hA4.trans f2
      rw [fm_consW, eq]
      simpa only [List.append_assoc] using this⟩
    have st : lstore 5 lptr (.agg [.int .u64 a.1, .int .i64 a.2.1, .int .u64 a.2.2.1, .int .u64 a.2.2.2.1, z].toArray) (.agg #[(.int .u64 0), (.int .i64 0), (.int .u64 0), (.int .u64 0), (.slice none 0 0)]) = some (.agg [.int .u64 a.1, .int .i64 a.2.1, .int .u64 a.2.2.1, .int .u64 a.2.2.2.1, z].toArray) := arr_put (cs := [(.int .u64 0), (.int .i64 0), (.int .u64 0), (.int .u64 0), (.slice none 0 0)]) rfl rfl (by simp only [List.all_cons, listN_leafR hz, List.all_nil]; rfl)
    have l0 : lload false 1 lptr (.agg [.int .u64 a.1, .int .i64 a.2.1, .int .u64 a.2.2.1, .int .u64 a.2.2.2.1, z].toArray) = some (.int .u64 a.1) := rfl
    have l1 : lload false 1 (.pointer (some ⟨0, 1, none⟩)) (.agg [.int .u64 a.1, .int .i64 a.2.1, .int .u64 a.2.2.1, .int .u64 a.2.2.2.1, z].toArray) = some (.int .i64 a.2.1) := rfl
    have l2 : lload false 1 (.pointer (some ⟨0, 2, none⟩)) (.agg [.int .u64 a.1, .int .i64 a.2.1, .int .u64 a.2.2.1, .int .u64 a.2.2.2.1, z].toArray) = some (.int .u64 a.2.2.1) := rfl
    have l3 : lload false 1 (.pointer (some ⟨0, 3, none⟩)) (.agg [.int .u64 a.1, .int .i64 a.2.1, .int .u64 a.2.2.1, .int .u64 a.2.2.2.1, z].toArray) = some (.int .u64 a.2.2.2.1) := rfl
    have l4 : lload false 1 (.pointer (some ⟨0, 4, none⟩)) (.agg [.int .u64 a.1, .int .i64 a.2.1, .int .u64 a.2.2.1, .int .u64 a.2.2.2.1, z].toArray) = some z := rfl
    have b5 : abuildSl 1 [(.int .u64 0)] 5 [(0, .int .u64 a.1), (1, .int .u64 a.2.1), (2, .int .u64 a.2.2.1), (3, .int .u64 a.2.2.2.1), (4, .int .u64 ((a.2.2.2.2.length : Nat) : Int))] t = some (.slice (some ⟨t.heap.length, 0, none⟩) 5 5, t.push (.row 1 ([a.1, a.2.1, a.2.2.1, a.2.2.2.1, ((a.2.2.2.2.length : Nat) : Int)].map fun n => Value.int .u64 n) .act)) := rfl
    rw [loopL_eq]
    simp only [ref19_EncodeCoord.b0, h1, h2, h3, st, l0, l1, l2, l3, l4, wrap_pos ha.1, listN_lenR hz, wrap_pos (len_n hl2), b5, ref19_num_call, g1, g7, inc_i64 (show i < 140737488355328 by omega), n_bind, n_map, getL_0, getL_1, getL_2, getL_3, getL_4, getL_5, getL_6, getL_7, getL_8, getL_9, getL_10, getL_11, getL_12, condV_t, condV_f, guardV_tt, guardV_ff, guardV_tf, guardV_ft, guardV_u, apick_t, apick_f, exV_exit, exV_ret, lookE_same, joinK_eq, seqA_n, seqA_e, seqA_r, e_add, e_sub, e_mul, e_eql, e_neq, e_lss, e_leq, e_gtr, e_geq, e_conv, e_not, e_neg, and_guard, or_guard]
    exact f1
theorem rla_loop {N : Nat} {s0 s1 : St} {x v : Value} {l : List La} {m0 : BL} (hs0 : s0.heap.length = N) (hx0 : Ext N s0 s1) (ho : Own N 1 s1 x (bv m0)) (hL : ElsA N s1 x 4 true v l fun a cs => laN.rel a s0 cs) (hn : ∀ a ∈ l, inN63 a.1) (hl : l.length < 140737488355328) : ∀ (rest : List La) (i : Nat) (y : Value) (t : St) (m : BL), l.drop i = rest → i ≤ l.length → App N s1 x m (y, t) → N ≤ t.heap.length → m.length + (rest.flatMap eLa).length ≤ 140737488300000 →
    ∃ r, loopL (ref19_EncodeCoord.b2 (run Tryz.prog (libL libT) hints)) [y, v, .int .i64 ((l.length : Nat) : Int), .int .i64 (i : Int)] t = some (.exit 4, [r.1], r.2) ∧ App N t y (m ++ rest.flatMap eLa) r := by
  intro rest
  induction rest with
  | nil =>
    intro i y t m hi hle hA hN hb
    have h1 : decide ((i : Int) < ((l.length : Nat) : Int)) = false := by
      have := List.drop_eq_nil_iff.1 hi
      simp; omega
    refine ⟨(y, t), ?_, by rw [List.flatMap_nil, List.append_nil]; exact .start hA.1⟩
    rw [loopL_eq]
    simp only [ref19_EncodeCoord.b2, h1, n_bind, n_map, getL_0, getL_1, getL_2, getL_3, getL_4, getL_5, getL_6, getL_7, getL_8, getL_9, getL_10, getL_11, getL_12, condV_t, condV_f, guardV_tt, guardV_ff, guardV_tf, guardV_ft, guardV_u, apick_t, apick_f, exV_exit, exV_ret, lookE_same, joinK_eq, seqA_n, seqA_e, seqA_r, e_add, e_sub, e_mul, e_eql, e_neq, e_lss, e_leq, e_gtr, e_geq, e_conv, e_not, e_neg, and_guard, or_guard]
  | cons a rest ih =>
    intro i y t m hi hle hA hN hb
    obtain ⟨hlt, he, hd⟩ := drop_nx hi
    have h1 : decide ((i : Int) < ((l.length : Nat) : Int)) = true := by simp; omega
    obtain ⟨p, u, cs, h2, h4, h5, h3⟩ := hL.2 i hlt
    have h3 := h3 m (y, t) hA
    have h4 : u = .agg cs.toArray := h4
    rw [he] at h5
    obtain ⟨z, hcs, hz, w1, w2, w3⟩ := la_inv h5
    subst hcs
    rw [h4] at h3
    have hm := List.getElem_mem hlt
    rw [he] at hm
    have ha := hn a hm
    have eq : eLa a = eN a.1 ++ eN a.2.1 ++ eN a.2.2.1 ++ eList eRs a.2.2.2 := rfl
    rw [fm_consW, List.length_append, eq] at hb
    simp only [List.length_append] at hb
    have hns : ∀ n ∈ [a.1, a.2.1, a.2.2.1], inN64 n := fun n hn => by
      have q2 := wf_64 w2
      have q3 := wf_64 w3
      simp only [List.mem_cons, List.not_mem_nil, or_false] at hn
      rcases hn with rfl | rfl | rfl
      · exact in64 ha
      · exact q2
      · exact q3
    obtain ⟨r, g1, g2, l2'⟩ := rnum_tmp (ls := [a.1, a.2.1, a.2.2.1]) hA.1 hN hns (by simp) (by simp only [List.flatMap_cons, List.flatMap_nil, List.append_nil, List.length_append]; omega)
    simp only [List.flatMap_cons, List.flatMap_nil, List.append_nil] at g2
    have g1 : (run Tryz.prog (libL libT) hints) 27 [y, .slice (some ⟨t.heap.length, 0, none⟩) 3 3] (t.push (.row 1 ([a.1, a.2.1, a.2.2.1].map fun n => Value.int .u64 n) .act)) = some r := g1
    obtain ⟨r4, g7, g8⟩ := rres_run g2.1 hs0 (hx0.trans ((hA.trans g2).ext ho (by have := hx0.1; omega))) hz (by simp only [List.length_append]; omega)
    have hA4 := g2.trans g8
    obtain ⟨r5, f1, f2⟩ := ih (i + 1) r4.1 r4.2 _ hd (by omega) (hA.trans hA4) (Nat.le_trans hN hA4.len) (by simp only [List.length_append]; omega)
    refine ⟨r5, ?_, by
      have := hA4.trans f2
      rw [fm_consW, eq]
      simpa only [List.append_assoc] using this⟩
    have st : lstore 4 lptr (.agg [.int .i64 a.1, .int .u64 a.2.1, .int .u64 a.2.2.1, z].toArray) (.agg #[(.int .i64 0), (.int .u64 0), (.int .u64 0), (.slice none 0 0)]) = some (.agg [.int .i64 a.1, .int .u64 a.2.1, .int .u64 a.2.2.1, z].toArray) := arr_put (cs := [(.int .i64 0), (.int .u64 0), (.int .u64 0), (.slice none 0 0)]) rfl rfl (by simp only [List.all_cons, listN_leafR hz, List.all_nil]; rfl)
    have l0 : lload false 1 lptr (.agg [.int .i64 a.1, .int .u64 a.2.1, .int .u64 a.2.2.1, z].toArray) = some (.int .i64 a.1) := rfl
    have l1 : lload false 1 (.pointer (some ⟨0, 1, none⟩)) (.agg [.int .i64 a.1, .int .u64 a.2.1, .int .u64 a.2.2.1, z].toArray) = some (.int .u64 a.2.1) := rfl
    have l2 : lload false 1 (.pointer (some ⟨0, 2, none⟩)) (.agg [.int .i64 a.1, .int .u64 a.2.1, .int .u64 a.2.2.1, z].toArray) = some (.int .u64 a.2.2.1) := rfl
    have l3 : lload false 1 (.pointer (some ⟨0, 3, none⟩)) (.agg [.int .i64 a.1, .int .u64 a.2.1, .int .u64 a.2.2.1, z].toArray) = some z := rfl
    have b3 : abuildSl 1 [(.int .u64 0)] 3 [(0, .int .u64 a.1), (1, .int .u64 a.2.1), (2, .int .u64 a.2.2.1)] t = some (.slice (some ⟨t.heap.length, 0, none⟩) 3 3, t.push (.row 1 ([a.1, a.2.1, a.2.2.1].map fun n => Value.int .u64 n) .act)) := rfl
    have ob : ∀ w : Value, ownR t (w, t.push (.row 1 ([a.1, a.2.1, a.2.2.1].map fun n => Value.int .u64 n) .act)) = some (w, t.push (.row 1 ([a.1, a.2.1, a.2.2.1].map fun n => Value.int .u64 n) .act)) := fun w => own_len (r := (w, t.push (.row 1 ([a.1, a.2.1, a.2.2.1].map fun n => Value.int .u64 n) .act))) (by simp only; rw [push_len]; omega)
    rw [loopL_eq]
    simp only [ref19_EncodeCoord.b2, h1, h2, h3, st, l0, l1, l2, l3, wrap_pos ha, b3, ob, ref19_num_call, g1, own_len l2', ref18_Res_call, g7, own_app g8, inc_i64 (show i < 140737488355328 by omega), n_bind, n_map, getL_0, getL_1, getL_2, getL_3, getL_4, getL_5, getL_6, getL_7, getL_8, getL_9, getL_10, getL_11, getL_12, condV_t, condV_f, guardV_tt, guardV_ff, guardV_tf, guardV_ft, guardV_u, apick_t, apick_f, exV_exit, exV_ret, lookE_same, joinK_eq, seqA_n, seqA_e, seqA_r, e_add, e_sub, e_mul, e_eql, e_neq, e_lss, e_leq, e_gtr, e_geq, e_conv, e_not, e_neg, and_guard, or_guard]
    exact f1
theorem refEncC {d : Cd} {s : St} {v : Value} (h : NArg cdN d s v) (hck : (run Tryz.prog (libL libT) hints) 14 [v] s = some (.int .i64 (eCd d), s)) (hb : eCd d = 0 → (encCd d).length ≤ 9000) : ∃ x t, (run Tryz.prog (libL libT) hints) 10 [v] s = some (.tuple #[x, .int .i64 (eCd d)], t) ∧ Own s.heap.length 1 t x (bv (if eCd d = 0 then encCd d else [])) ∧ Ext s.heap.length s t := by
  obtain ⟨cs, rfl, hr⟩ := h
  obtain ⟨ow, de, la, rfl, hs⟩ := cd_inv hr
  have hbx := lbox_cs (cd_leaf hs)
  have hal : lload true 7 lptr (.agg (cdCells d ow de la).toArray) = some (.agg (cdCells d ow de la).toArray) := arr_all rfl
  have i0 : lload false 1 lptr (.agg (cdCells d ow de la).toArray) = some (.int .i64 d.shards) := rfl
  have i1 : lload false 1 (.pointer (some ⟨0, 1, none⟩)) (.agg (cdCells d ow de la).toArray) = some (.int .u64 d.boot) := rfl
  have i2 : lload false 1 (.pointer (some ⟨0, 2, none⟩)) (.agg (cdCells d ow de la).toArray) = some (.int .u64 d.ver) := rfl
  have i3 : lload false 1 (.pointer (some ⟨0, 3, none⟩)) (.agg (cdCells d ow de la).toArray) = some (.int .u64 d.epoch) := rfl
  have i4 : lload false 1 (.pointer (some ⟨0, 4, none⟩)) (.agg (cdCells d ow de la).toArray) = some ow := rfl
  have i5 : lload false 1 (.pointer (some ⟨0, 5, none⟩)) (.agg (cdCells d ow de la).toArray) = some de := rfl
  have i6 : lload false 1 (.pointer (some ⟨0, 6, none⟩)) (.agg (cdCells d ow de la).toArray) = some la := rfl
  have a6 : afieldAddr 6 lptr = some (.pointer (some ⟨0, 6, none⟩)) := rfl
  generalize hu : (Value.agg (cdCells d ow de la).toArray) = u at *
  have z0 : ((0 : Int) != 0) = false := rfl
  by_cases hz : eCd d = 0
  · have hb := hb hz
    have hok := eCd_ok hz
    rw [hz] at hck ⊢
    rw [if_pos rfl]
    unfold encCd at hb
    simp only [List.length_append, List.length_singleton] at hb
    generalize hN : s.heap.length = N at *
    have lD := listN_short hs.de (by decide)
    have lL := listN_short hs.la (by decide)
    have e1 : abuildSl 1 [(.int .u8 0)] 1 [(0, (.int .u8 67))] s = some (newBytes [67] s) := rfl
    have G0 : Got N s [67] (newBytes [67] s) := ⟨newBytes_own (by omega) (by simp), newBytes_ext (by omega)⟩
    generalize newBytes [67] s = r0 at *
    have n4 : abuildSl 1 [(.int .u64 0)] 4 [(0, .int .u64 d.shards), (1, .int .u64 d.boot), (2, .int .u64 d.ver), (3, .int .u64 d.epoch)] r0.2 = some (.slice (some ⟨r0.2.heap.length, 0, none⟩) 4 4, r0.2.push (.row 1 ([d.shards, d.boot, d.ver, d.epoch].map fun a => .int .u64 a) .act)) := rfl
    obtain ⟨r1, g1, k1, _⟩ := rnum_tmp (ls := [d.shards, d.boot, d.ver, d.epoch]) G0.own (G0.len hN) (by
      have q1 := wf_64 hs.wboot
      have q2 := wf_64 hs.wver
      have q3 := wf_64 hs.wepoch
      intro n hn
      simp only [List.mem_cons, List.not_mem_nil, or_false] at hn
      rcases hn with rfl | rfl | rfl | rfl
      · exact in64 hok.sh
      · exact q1
      · exact q2
      · exact q3) (by simp) (by rw [List.length_singleton]; omega)
    have g1 : (run Tryz.prog (libL libT) hints) 27 [r0.1, .slice (some ⟨r0.2.heap.length, 0, none⟩) 4 4] (r0.2.push (.row 1 ([d.shards, d.boot, d.ver, d.epoch].map fun a => .int .u64 a) .act)) = some r1 := g1
    have G1 := G0.next hN k1
    have hw : ∀ b ∈ blkV ow, b < N := fun b hb => by have := listN_below hs.ow b hb; omega
    have ow1 : ListN (.ofC owC fun _ => True) 24 d.owners r1.2 ow := listN_blk hs.ow fun b hb => G1.ext.2 b (hw b hb)
    obtain ⟨q1, d1, D1⟩ := rown_run G1.own (G1.len hN) ow1 hw hok.ow (by simp only [List.length_append, List.length_singleton]; omega)
    obtain ⟨q2, d2, _⟩ := rnum_one (n := ((d.decided.length : Nat) : Int)) D1.1 (Nat.le_trans (G1.len hN) D1.len) (in64 (len_n lD)) (by
      rw [eN_nat]; simp only [List.length_append, List.length_singleton, eList] at hb ⊢; omega)
    obtain ⟨r2, g2, k2⟩ := app_drawn (f := fun s' => (run Tryz.prog (libL libT) hints) 28 [r1.1, ow] s') G1.own (G1.len hN) hw fun s' h1 h2 h3 => rown_run h1 h2 (listN_blk ow1 h3) hw hok.ow (by simp only [List.length_append, List.length_singleton]; omega)
    have G2 := G1.next hN k2
    have hba := build1_apart (n := ((d.decided.length : Nat) : Int)) (blks_lt G1.own (G1.len hN) hw k2.len)
    obtain ⟨r3, g3, k3, l3⟩ := rnum_one (n := ((d.decided.length : Nat) : Int)) G2.own (G2.len hN) (in64 (len_n lD)) (by
      rw [eN_nat]; simp only [List.length_append, List.length_singleton, eList] at hb ⊢; omega)
    have G3 := G2.next hN k3
    have hE := elsA_arg (N := N) (n := 5) (ag := true) (x := r3.1) hs.de hN G3.ext G3.own rfl (.inl rfl)
    obtain ⟨r4, g4, k4⟩ := rde_loop (T0 := lptr) (U := u) hN G3.ext G3.own hE hok.de lD d.decided 0 r3.1 r3.2 _ rfl (Nat.zero_le _) (.start G3.own) (G3.len hN) (by
      rw [eN_nat]; simp only [List.length_append, List.length_singleton, eList] at hb ⊢; omega)
    have g4 : loopL (ref19_EncodeCoord.b0 (run Tryz.prog (libL libT) hints)) [lptr, r3.1, de, .int .i64 ((d.decided.length : Nat) : Int), .int .i64 0, u] r3.2 = some (.exit 0, [lptr, r4.1, u], r4.2) := g4
    have G4 := G3.next hN k4
    obtain ⟨r5, g5, k5, _⟩ := rnum_one (n := ((d.last.length : Nat) : Int)) G4.own (G4.len hN) (in64 (len_n lL)) (by
      rw [eN_nat, eN_nat]; simp only [List.length_append, List.length_singleton, eList] at hb ⊢; omega)
    have G5 := G4.next hN k5
    have hE2 := elsA_arg (N := N) (n := 4) (ag := true) (x := r5.1) hs.la hN G5.ext G5.own rfl (.inl rfl)
    obtain ⟨r6, g6, k6⟩ := rla_loop hN G5.ext G5.own hE2 hok.la lL d.last 0 r5.1 r5.2 _ rfl (Nat.zero_le _) (.start G5.own) (G5.len hN) (by
      rw [eN_nat, eN_nat]; simp only [List.length_append, List.length_singleton, eList] at hb ⊢; omega)
    have g6 : loopL (ref19_EncodeCoord.b2 (run Tryz.prog (libL libT) hints)) [r5.1, la, .int .i64 ((d.last.length : Nat) : Int), .int .i64 0] r5.2 = some (.exit 4, [r6.1], r6.2) := g6
    have Gc := G5.next hN k6
    refine ⟨r6.1, r6.2, ref19_EncodeCoord_of rfl ?_, by
      have := Gc.own
      rw [eN_nat, eN_nat] at this
      unfold encCd eList
      unfold eList at this
      simpa only [List.append_assoc] using this, Gc.ext⟩
    have wH := wrap_pos (len_n lD)
    have wF := wrap_pos (len_n lL)
    have la1 := listN_lenR hs.de
    have lb := listN_lenR hs.la
    have rt : retV [r6.1, .int .i64 0] r6.2 = some (.tuple #[r6.1, .int .i64 0], r6.2) := ret_e Gc.own.notup
    have bd := build1 ((d.decided.length : Nat) : Int) q1.2
    have bf := build1 ((d.last.length : Nat) : Int) r4.2
    unfold ref19_EncodeCoord
    simp only [hbx, hal, ref19_CheckCoord_call, hck, z0, e1, i0, wrap_pos hok.sh, i1, i2, i3, i4, n4, ref19_num_call, g1, i5, ref19_owners_call, d1, i6, la1, wH, bd, d2, g2, look_apart, hba, g3, own_len l3, g4, a6, lb, wF, bf, g5, g6, rt, n_bind, n_map, getL_0, getL_1, getL_2, getL_3, getL_4, getL_5, getL_6, getL_7, getL_8, getL_9, getL_10, getL_11, getL_12, condV_t, condV_f, guardV_tt, guardV_ff, guardV_tf, guardV_ft, guardV_u, apick_t, apick_f, exV_exit, exV_ret, lookE_same, joinK_eq, seqA_n, seqA_e, seqA_r, e_add, e_sub, e_mul, e_eql, e_neq, e_lss, e_leq, e_gtr, e_geq, e_conv, e_not, e_neg, and_guard, or_guard]
  · have n1 : (eCd d != 0) = true := by simp [hz]
    rw [if_neg hz]
    refine ⟨.slice none 0 0, s, ref19_EncodeCoord_of rfl ?_, .nil _ _ _, .refl _ _⟩
    unfold ref19_EncodeCoord
    simp only [hbx, hal, ref19_CheckCoord_call, hck, n1, ret_e (a := .slice none 0 0) rfl, n_bind, n_map, getL_0, getL_1, getL_2, getL_3, getL_4, getL_5, getL_6, getL_7, getL_8, getL_9, getL_10, getL_11, getL_12, condV_t, condV_f, guardV_tt, guardV_ff, guardV_tf, guardV_ft, guardV_u, apick_t, apick_f, exV_exit, exV_ret, lookE_same, joinK_eq, seqA_n, seqA_e, seqA_r, e_add, e_sub, e_mul, e_eql, e_neq, e_lss, e_leq, e_gtr, e_geq, e_conv, e_not, e_neg, and_guard, or_guard]

end Go.Proofs.YtckpcelchhmjcaaGreat.Ab

/- Which states may be, and their bytes. -/
namespace Go.Proofs.YtckpcelchhmjcaaGreat.Ab
open Go

theorem lenS {d : Sd} {s : St} {v : Value} (h : NArg sdN d s v) (hz : eSd d = 0) : (encSd d).length ≤ 8001 := by
  have := bodySd_len (eSd_b hz (sd_w h))
  rw [encSd_body]
  simp only [List.length_append, List.length_singleton]
  omega
theorem lenC {d : Cd} (hz : eCd d = 0) : (encCd d).length ≤ 8001 := by
  have := bodyCd_len (eCd_b hz)
  rw [encCd_body]
  simp only [List.length_append, List.length_singleton]
  omega
theorem Own.aft {N n : Nat} {s t : St} {v : Value} {cs : List Value} (h : Own N n s v cs) (hx : Ext s.heap.length s t) : Own N n t v cs := by
  rcases h with h | ⟨b, len, h1, h2, h3, h4⟩
  · exact .inl h
  · exact .inr ⟨b, len, h1, h2, by rw [hx.2 b (List.getElem?_eq_some_iff.1 h3).1]; exact h3, h4⟩
theorem w2_0 {a : Value} {n : Int} (h : noTup a = true) : aextract 0 (.tuple #[a, .int .i64 n]) = some a := by cases a <;> first | rfl | (cases h; done)
theorem w2_1 {a : Value} {n : Int} : aextract 1 (.tuple #[a, .int .i64 n]) = some (.int .i64 n) := rfl
theorem u8_up (c : UInt8) : IntKind.wrap .u8 (((c.toNat : Nat) : Int) + 1) = (((c + 1).toNat : Nat) : Int) := by
  rw [show ((c.toNat : Nat) : Int) + 1 = ((c.toNat + 1 : Nat) : Int) by omega, wrapu8, UInt8.toNat_add]
  rfl
theorem astore_ne {n b0 o b : Nat} {v : Value} {s s2 : St} (h : astore n (.pointer (some ⟨b0, o, none⟩)) v s = some s2) (hb : b ≠ b0) : s2.heap[b]? = s.heap[b]? := by
  unfold astore at h
  simp only at h
  split at h
  · unfold writeN at h
    split at h
    · split at h
      · cases h
        exact putB_ne hb
      · cases h
    · cases h
  · cases h
theorem wr_b1 {N : Nat} {c a0 a1 a2 a4 a5 a8 a9 : Value} {L : Nat} (hL : L ≤ 140737488355328) : ∀ (d i : Nat) (m : List UInt8) (s : St), i + d = L → m.length = L → N ≤ s.heap.length → Own N 1 s c (bv m) →
    ∃ s', loopL (law19_RecordWrites.b1 (run Tryz.prog (libL libT) hints)) [a0, a1, a2, c, a4, a5, .int .i64 (L : Int), .int .i64 (i : Int), a8, a9] s = some (.exit 2, [a0, a1, a2, a4, a5, a8, a9], s') ∧ Ext N s s' ∧ ∀ b, blkOf c ≠ some b → b < s.heap.length → s'.heap[b]? = s.heap[b]? := by
  intro d
  induction d with
  | zero =>
    intro i m s hi hm hN ho
    refine ⟨s, ?_, .refl _ _, fun _ _ _ => rfl⟩
    rw [loopL_eq]
    have h1 : decide ((i : Int) < (L : Int)) = false := by simp; omega
    simp only [law19_RecordWrites.b1, h1, n_bind, n_map, getL_0, getL_1, getL_2, getL_3, getL_4, getL_5, getL_6, getL_7, getL_8, getL_9, getL_10, getL_11, getL_12, condV_t, condV_f, guardV_tt, guardV_ff, guardV_tf, guardV_ft, guardV_u, apick_t, apick_f, exV_exit, exV_ret, lookE_same, joinK_eq, seqA_n, seqA_e, seqA_r, e_add, e_sub, e_mul, e_eql, e_neq, e_lss, e_leq, e_gtr, e_geq, e_conv, e_not, e_neg, and_guard, or_guard]
  | succ d IH =>
    intro i m s hi hm hN ho
    have hil : i < m.length := by omega
    have h1 : decide ((i : Int) < (L : Int)) = true := by simp; omega
    obtain ⟨p, s2, p1, p2, p3, o2, x2⟩ := own_store ho hil (m[i] + 1) (k := .i64)
    obtain ⟨s', q1, q2, q3⟩ := IH (i + 1) _ s2 (by omega) (by simpa using hm) (Nat.le_trans hN x2.1) o2
    have hk : ∀ b, blkOf c ≠ some b → b < s.heap.length → s2.heap[b]? = s.heap[b]? := fun b hb hlt => by
      rcases ho with ⟨rfl, h0⟩ | ⟨b0, len, rfl, g1, g2, g3, g4⟩
      · have : m = [] := bv_inj (m := []) h0
        subst this
        simp at hil
      · have hp : p = .pointer (some ⟨b0, i, none⟩) := by
          rw [bv_length, Nat.mul_one] at g3
          have : aindexS 1 (.slice (some ⟨b0, 0, none⟩) len len) (.int .i64 (i : Int)) = some (.pointer (some ⟨b0, i, none⟩)) := by simp [aindexS]; omega
          rw [this] at p1
          exact (Option.some.inj p1).symm
        subst hp
        exact astore_ne p3 fun e => hb (by rw [e]; rfl)
    refine ⟨s', ?_, x2.trans q2, fun b hb hlt => (q3 b hb (Nat.lt_of_lt_of_le hlt x2.1)).trans (hk b hb hlt)⟩
    rw [loopL_eq]
    simp only [law19_RecordWrites.b1, h1, p1, p2, u8_up, p3, inc_i64 (show i < 140737488355328 by omega), n_bind, n_map, getL_0, getL_1, getL_2, getL_3, getL_4, getL_5, getL_6, getL_7, getL_8, getL_9, getL_10, getL_11, getL_12, condV_t, condV_f, guardV_tt, guardV_ff, guardV_tf, guardV_ft, guardV_u, apick_t, apick_f, exV_exit, exV_ret, lookE_same, joinK_eq, seqA_n, seqA_e, seqA_r, e_add, e_sub, e_mul, e_eql, e_neq, e_lss, e_leq, e_gtr, e_geq, e_conv, e_not, e_neg, and_guard, or_guard]
    exact q1
theorem wr_b2 {N : Nat} {c a0 a1 a2 a4 a7 a8 : Value} {L : Nat} (hL : L ≤ 140737488355328) : ∀ (d i : Nat) (m : List UInt8) (s : St), i + d = L → m.length = L → N ≤ s.heap.length → Own N 1 s c (bv m) →
    ∃ s', loopL (law19_RecordWrites.b2 (run Tryz.prog (libL libT) hints)) [a0, a1, a2, c, a4, .int .i64 (L : Int), .int .i64 (i : Int), a7, a8] s = some (.exit 4, [a0, a1, a2, a4, a7, a8], s') ∧ Ext N s s' := by
  intro d
  induction d with
  | zero =>
    intro i m s hi hm hN ho
    refine ⟨s, ?_, .refl _ _⟩
    rw [loopL_eq]
    have h1 : decide ((i : Int) < (L : Int)) = false := by simp; omega
    simp only [law19_RecordWrites.b2, h1, n_bind, n_map, getL_0, getL_1, getL_2, getL_3, getL_4, getL_5, getL_6, getL_7, getL_8, getL_9, getL_10, getL_11, getL_12, condV_t, condV_f, guardV_tt, guardV_ff, guardV_tf, guardV_ft, guardV_u, apick_t, apick_f, exV_exit, exV_ret, lookE_same, joinK_eq, seqA_n, seqA_e, seqA_r, e_add, e_sub, e_mul, e_eql, e_neq, e_lss, e_leq, e_gtr, e_geq, e_conv, e_not, e_neg, and_guard, or_guard]
  | succ d IH =>
    intro i m s hi hm hN ho
    have hil : i < m.length := by omega
    have h1 : decide ((i : Int) < (L : Int)) = true := by simp; omega
    obtain ⟨p, s2, p1, p2, p3, o2, x2⟩ := own_store ho hil (m[i] + 1) (k := .i64)
    obtain ⟨s', q1, q2⟩ := IH (i + 1) _ s2 (by omega) (by simpa using hm) (Nat.le_trans hN x2.1) o2
    refine ⟨s', ?_, x2.trans q2⟩
    rw [loopL_eq]
    simp only [law19_RecordWrites.b2, h1, p1, p2, u8_up, p3, inc_i64 (show i < 140737488355328 by omega), n_bind, n_map, getL_0, getL_1, getL_2, getL_3, getL_4, getL_5, getL_6, getL_7, getL_8, getL_9, getL_10, getL_11, getL_12, condV_t, condV_f, guardV_tt, guardV_ff, guardV_tf, guardV_ft, guardV_u, apick_t, apick_f, exV_exit, exV_ret, lookE_same, joinK_eq, seqA_n, seqA_e, seqA_r, e_add, e_sub, e_mul, e_eql, e_neq, e_lss, e_leq, e_gtr, e_geq, e_conv, e_not, e_neg, and_guard, or_guard]
    exact q1
theorem neq_same (o1 o2 : Operand) (b : BL) : abin Tryz.prog .neq 9 o1 o2 (.string ⟨b.toArray⟩) (.string ⟨b.toArray⟩) = some (.bool false) := by
  have := e_sneq (P := Tryz.prog) (t := 9) (ox := o1) (oy := o2) (a := b) (b := b)
  rw [show (!(b == b)) = false by simp] at this
  exact this
theorem writes_loopR {d : Sd} {c : Cd} {v w : Value} : ∀ (m i : Nat) (s : St), i + m = 2 → NArg sdN d s v → NArg cdN c s w →
    ∃ t, loopL (law19_RecordWrites.b0 (run Tryz.prog (libL libT) hints)) [lptr, lptr, .bool true, .int .i64 (i : Int), v, w] s = some (.exit 0, [.bool true], t) := by
  intro m
  induction m with
  | zero =>
    intro i s hi h g
    have d1 : decide ((i : Int) < 2) = false := by simp; omega
    refine ⟨s, ?_⟩
    rw [loopL_eq]
    simp only [law19_RecordWrites.b0, d1, n_bind, n_map, getL_0, getL_1, getL_2, getL_3, getL_4, getL_5, getL_6, getL_7, getL_8, getL_9, getL_10, getL_11, getL_12, condV_t, condV_f, guardV_tt, guardV_ff, guardV_tf, guardV_ft, guardV_u, apick_t, apick_f, exV_exit, exV_ret, lookE_same, joinK_eq, seqA_n, seqA_e, seqA_r, e_add, e_sub, e_mul, e_eql, e_neq, e_lss, e_leq, e_gtr, e_geq, e_conv, e_not, e_neg, and_guard, or_guard]
  | succ m ih =>
    intro i s hi h g
    have d1 : decide ((i : Int) < 2) = true := by simp; omega
    have l0 : lload true 17 lptr v = some v := by
      obtain ⟨cs, rfl, hr⟩ := h
      exact arr_all (sdN.len hr)
    have l1 : lload true 7 lptr w = some w := by
      obtain ⟨cs, rfl, hr⟩ := g
      exact arr_all (cdN.len hr)
    have bS : eSd d = 0 → (encSd d).length ≤ 140737488300000 := fun hz => by have := lenS h hz; omega
    have bC : eCd c = 0 → (encCd c).length ≤ 140737488300000 := fun hz => by have := lenC (d := c) hz; omega
    obtain ⟨x, s1, e1, o1, x1⟩ := EncodeShard_run h bS
    have h1 := h.ext x1
    obtain ⟨x', s2, e2, o2, x2⟩ := refEncS h1 (refCkS h1) fun hz => by have := lenS h hz; omega
    have X2 := x1.trans (x2.less x1.1)
    have g2 := g.ext X2
    obtain ⟨y, s3, e3, o3, x3⟩ := EncodeCoord_run g2 bC
    have X3 := X2.trans (x3.less X2.1)
    have g3 := g.ext X3
    obtain ⟨y', s4, e4, o4, x4⟩ := refEncC g3 (refCkC g3) fun hz => by have := lenC (d := c) hz; omega
    have X4 := X3.trans (x4.less X3.1)
    have h4 := h.ext X4
    obtain ⟨s5, e5, x5⟩ := CheckShard_run h4
    have X5 := X4.trans (x5.less X4.1)
    have h5 := h.ext X5
    have e6 := refCkS h5
    have g5 := g.ext X5
    obtain ⟨s6, e7, x6⟩ := CheckCoord_run g5
    have X6 := X5.trans (x6.less X5.1)
    have g6 := g.ext X6
    have e8 := refCkC g6
    generalize hmS : (if eSd d = 0 then encSd d else []) = mS at *
    generalize hmC : (if eCd c = 0 then encCd c else []) = mC at *
    have lS : mS.length ≤ 9000 := by
      rw [← hmS]
      split
      · have := lenS h (by assumption); omega
      · simp
    have lC : mC.length ≤ 9000 := by
      rw [← hmC]
      split
      · have := lenC (d := c) (by assumption); omega
      · simp
    have E14 : Ext s1.heap.length s1 s4 := x2.trans ((x3.less x2.1).trans (x4.less (Nat.le_trans x2.1 x3.1)))
    have p1 : Own s.heap.length 1 s4 x (bv mS) := o1.aft E14
    have p2 : Own s1.heap.length 1 s4 x' (bv mS) := o2.aft (x3.trans (x4.less x3.1))
    have p3 : Own s2.heap.length 1 s4 y (bv mC) := o3.aft x4
    have t1 : abytesToStr x (frzS s4) = some (.string ⟨mS.toArray⟩) := bytes_str (by rw [bytesOf_frz]; exact p1.bytes)
    have t2 : abytesToStr x' (frzS s4) = some (.string ⟨mS.toArray⟩) := bytes_str (by rw [bytesOf_frz]; exact p2.bytes)
    have t3 : abytesToStr y (frzS s4) = some (.string ⟨mC.toArray⟩) := bytes_str (by rw [bytesOf_frz]; exact p3.bytes)
    have t4 : abytesToStr y' (frzS s4) = some (.string ⟨mC.toArray⟩) := bytes_str (by rw [bytesOf_frz]; exact o4.bytes)
    have w5 : ∀ u : Value, ownR s4 (u, s5) = some (u, s5) := fun u => own_len (r := (u, s5)) x5.1
    have w5' : ∀ u : Value, ownR s5 (u, s5) = some (u, s5) := fun u => own_len (r := (u, s5)) (Nat.le_refl _)
    have w6 : ∀ u : Value, ownR s5 (u, s6) = some (u, s6) := fun u => own_len (r := (u, s6)) x6.1
    have w6' : ∀ u : Value, ownR s6 (u, s6) = some (u, s6) := fun u => own_len (r := (u, s6)) (Nat.le_refl _)
    have E46 : Ext s4.heap.length s4 s6 := x5.trans (x6.less x5.1)
    have p6 : Own s.heap.length 1 s6 x (bv mS) := p1.aft E46
    have q6 : Own s2.heap.length 1 s6 y (bv mC) := p3.aft E46
    obtain ⟨s7, j1, x7, k7⟩ := wr_b1 (a0 := lptr) (a1 := lptr) (a2 := .bool true) (a4 := y) (a5 := .int .i64 (i : Int)) (a8 := v) (a9 := w) (L := mS.length) (by omega) mS.length 0 mS s6 (by omega) rfl X6.1 p6
    have j1 : loopL (law19_RecordWrites.b1 (run Tryz.prog (libL libT) hints)) [lptr, lptr, .bool true, x, y, .int .i64 (i : Int), .int .i64 ((mS.length : Nat) : Int), .int .i64 0, v, w] s6 = some (.exit 2, [lptr, lptr, .bool true, y, .int .i64 (i : Int), v, w], s7) := j1
    -- the coordinator's bytes lie apart
    have hap : ∀ b, blkOf y = some b → blkOf x ≠ some b := fun b hy hx => by
      have h1 := (o3.blk b hy).1
      have h2 := (o1.blk b hx).2
      have := x2.1
      omega
    have q7 : Own s.heap.length 1 s7 y (bv mC) := by
      rcases q6 with h0 | ⟨b, len, rfl, z1, z2, z3, z4⟩
      · exact .inl h0
      · have := X2.1
        exact .inr ⟨b, len, rfl, by omega, by rw [k7 b (hap b rfl) (List.getElem?_eq_some_iff.1 z2).1]; exact z2, z3, z4⟩
    have X7 := X6.trans x7
    obtain ⟨s8, j2, x8⟩ := wr_b2 (a0 := lptr) (a1 := lptr) (a2 := .bool true) (a4 := .int .i64 (i : Int)) (a7 := v) (a8 := w) (L := mC.length) (by omega) mC.length 0 mC s7 (by omega) rfl X7.1 q7
    have j2 : loopL (law19_RecordWrites.b2 (run Tryz.prog (libL libT) hints)) [lptr, lptr, .bool true, y, .int .i64 (i : Int), .int .i64 ((mC.length : Nat) : Int), .int .i64 0, v, w] s7 = some (.exit 4, [lptr, lptr, .bool true, .int .i64 (i : Int), v, w], s8) := j2
    have X8 := X7.trans x8
    obtain ⟨t, z⟩ := ih (i + 1) s8 (by omega) (h.ext X8) (g.ext X8)
    have hl1 : ∀ ty t, alenV (.slice ty) x t = some (.int .i64 ((mS.length : Nat) : Int)) := fun ty t => bytes_len p6.bytes
    have hl2 : ∀ ty t, alenV (.slice ty) y t = some (.int .i64 ((mC.length : Nat) : Int)) := fun ty t => bytes_len q7.bytes
    refine ⟨t, ?_⟩
    rw [loopL_eq]
    simp only [law19_RecordWrites.b0, d1, l0, l1, record_EncodeShard_call, e1, ref19_EncodeShard_call, e2, record_EncodeCoord_call, e3, ref19_EncodeCoord_call, e4, w2_0 o1.notup, w2_0 o2.notup, w2_0 o3.notup, w2_0 o4.notup, w2_1, t1, t2, t3, t4, neq_same, bne_self_eq_false, record_CheckShard_call, e5, w5, ref19_CheckShard_call, e6, w5', record_CheckCoord_call, e7, w6, ref19_CheckCoord_call, e8, w6', hl1, hl2, j1, j2, inc_i64 (show i < 140737488355328 by omega), n_bind, n_map, getL_0, getL_1, getL_2, getL_3, getL_4, getL_5, getL_6, getL_7, getL_8, getL_9, getL_10, getL_11, getL_12, condV_t, condV_f, guardV_tt, guardV_ff, guardV_tf, guardV_ft, guardV_u, apick_t, apick_f, exV_exit, exV_ret, lookE_same, joinK_eq, seqA_n, seqA_e, seqA_r, e_add, e_sub, e_mul, e_eql, e_neq, e_lss, e_leq, e_gtr, e_geq, e_conv, e_not, e_neg, and_guard, or_guard]
    exact z
theorem RecordWrites_law (s : St) (d : Sd) (v : Value) (h : NArg sdN d s v) (c : Cd) (w : Value) (g : NArg cdN c s w) : ∃ s', (run Tryz.prog (libL libT) hints) 3 [v, w] s = some (.bool true, s') := by
  have hb0 : lbox v = some v := by
    obtain ⟨cs, rfl, hr⟩ := h
    obtain ⟨ow, he, fi, rfl, hs⟩ := sd_inv hr
    exact lbox_cs (sd_leaf hs)
  have hb1 : lbox w = some w := by
    obtain ⟨cs, rfl, hr⟩ := g
    obtain ⟨ow, he, fi, rfl, hs⟩ := cd_inv hr
    exact lbox_cs (cd_leaf hs)
  obtain ⟨t, z⟩ := writes_loopR 2 0 s rfl h g
  have z : loopL (law19_RecordWrites.b0 (run Tryz.prog (libL libT) hints)) [lptr, lptr, .bool true, .int .i64 0, v, w] s = some (.exit 0, [.bool true], t) := z
  have hr : ∀ s, retV [.bool true] s = some (.bool true, s) := fun s => ret1 rfl
  refine ⟨t, law19_RecordWrites_of rfl ?_⟩
  unfold law19_RecordWrites
  simp only [hb0, hb1, law19_live_call, k_live, z, hr, n_bind, n_map, getL_0, getL_1, getL_2, getL_3, getL_4, getL_5, getL_6, getL_7, getL_8, getL_9, getL_10, getL_11, getL_12, condV_t, condV_f, guardV_tt, guardV_ff, guardV_tf, guardV_ft, guardV_u, apick_t, apick_f, exV_exit, exV_ret, lookE_same, joinK_eq, seqA_n, seqA_e, seqA_r, e_add, e_sub, e_mul, e_eql, e_neq, e_lss, e_leq, e_gtr, e_geq, e_conv, e_not, e_neg, and_guard, or_guard]

end Go.Proofs.YtckpcelchhmjcaaGreat.Ab

/- A law's arguments in memory, as the abstract machine has them: bytes. -/
namespace Go.Proofs.YtckpcelchhmjcaaGreat.Ab
open Go

end Go.Proofs.YtckpcelchhmjcaaGreat.Ab

/- A row's slice of whole numbers is no longer than its weight allows. (Began as the words that print.sh lays for rows over slices.) -/
namespace Go.Proofs.YtckpcelchhmjcaaGreat.Ab
open Go Go.ChangeShapes Go.WideShapes
end Go.Proofs.YtckpcelchhmjcaaGreat.Ab
