/- Numbers and bytes: what is of use in each layer. -/
import Derived.Test.YtpbbbfemnkeplaaFxRead
import Derived.Test.YtpbbbfemnkeplaaFxCrc
import Derived.Test.YtpbbbfemnkeplaaFxSum
set_option linter.unusedVariables false
set_option linter.unusedSimpArgs false
set_option linter.unusedSectionVars false
namespace Go.Proofs.Ytpbbbfemnkeplaa.Ab
open Go

theorem progOk : progW Try.prog = true := by kernel_rfl

def gBytes1 (G : List UInt8 → Option Value) : Sum := fun xs s => (match xs with | [v] => (bytesOf v s).bind fun l => if l.length ≤ 140737488355328 then G l else none | _ => none).map fun v => (v, s)
theorem gBytes1_eq {G : List UInt8 → Option Value} {v : Value} {s : St} {l : List UInt8} (h : bytesOf v s = some l) (hl : l.length ≤ 140737488355328) : gBytes1 G [v] s = (G l).map fun v => (v, s) := by
  simp only [gBytes1, h, Option.bind_some, if_pos hl]
theorem bytes1_sum {lib : Lib} {f : FuncId} {G : List UInt8 → Option Value} (h : ∀ v s l r, bytesOf v s = some l → l.length ≤ 140737488355328 → G l = some r → plainV r = true ∧ ∃ t0, run Try.prog lib hints f [v] s = some (r, t0)) : SumOk Try.prog lib hints f (gBytes1 G) :=
  SumOk.plain (G := fun xs s => match xs with | [v] => (bytesOf v s).bind fun l => if l.length ≤ 140737488355328 then G l else none | _ => none) fun xs s v hh => by
    split at hh
    · rename_i v0
      simp only [Option.bind_eq_some_iff] at hh
      obtain ⟨l, h1, h2⟩ := hh
      split at h2
      · rename_i hl
        exact h v0 (frzS s) l v (by rw [bytesOf_frz]; exact h1) hl h2
      · cases h2
    · cases hh

def gFixed : Sum := fun xs s => (match xs with | [.int .u32 a] => if 0 ≤ a ∧ a < 4294967296 then some (fixV a.toNat) else none | _ => none).map fun v => (v, s)
theorem gFixed_eq {n : Nat} {s : St} (h : n < 4294967296) : gFixed [.int .u32 (n : Int)] s = some (fixV n, s) := by
  simp only [gFixed]
  rw [if_pos (by omega)]
  rfl
theorem fixed_sum {lib : Lib} {f : FuncId} (h : ∀ n s, n < 4294967296 → run Try.prog lib hints f [.int .u32 ((n : Nat) : Int)] s = some (fixV n, s)) : SumOk Try.prog lib hints f gFixed :=
  SumOk.plain (G := fun xs _ => match xs with | [.int .u32 a] => if 0 ≤ a ∧ a < 4294967296 then some (fixV a.toNat) else none | _ => none) fun xs s v hh => by
    split at hh
    · rename_i a
      split at hh
      · rename_i ha
        cases hh
        obtain ⟨n, rfl⟩ := Int.eq_ofNat_of_zero_le ha.1
        exact ⟨rfl, _, h n (frzS s) (by omega)⟩
      · cases hh
    · cases hh

def gConst (v : Value) : Sum := fun xs s => (match xs with | [] => some v | _ => none).map fun v => (v, s)
theorem gConst_eq {v : Value} {s : St} : gConst v [] s = some (v, s) := rfl
theorem const_sum {lib : Lib} {f : FuncId} {v : Value} (hv : plainV v = true) (h : ∀ s, ∃ t, run Try.prog lib hints f [] s = some (v, t)) : SumOk Try.prog lib hints f (gConst v) :=
  SumOk.plain (G := fun xs _ => match xs with | [] => some v | _ => none) fun xs s r hh => by
    split at hh
    · cases hh
      exact ⟨hv, h (frzS s)⟩
    · cases hh

theorem tabV_plain : plainV tabV = true := by
  show (tabC 256).toArray.toList.all leafOk = true
  simp [tabC, tabL, List.all_eq_true, leafOk]

def gSum : Sum := gBytes1 fun l => some (.int .u32 ((sumV l : Nat) : Int))
def gReadFixed : Sum := gBytes1 fun l => some (tupF (readFix l).1 (readFix l).2)
theorem refReadNum_sum {lib : Lib} (hl : lib 23 = none) (hR : lib 16 = some gNum) : SumOk Try.prog lib hints 23 gReadNum :=
  SumOk.plain (G := fun xs s => match xs with | [v] => (bytesOf v s).map fun l => tup3 (readNum l).1 (readNum l).2.1 (readNum l).2.2 | _ => none) fun xs s v h => by
    split at h
    · simp only [Option.map_eq_some_iff] at h
      obtain ⟨l, hl2, rfl⟩ := h
      obtain ⟨s', h1⟩ := refReadNum_run (R := run Try.prog lib hints) (fun xs s => known hR) (s := frzS s) (by rw [bytesOf_frz]; exact hl2)
      rw [refRead_eq] at h1
      exact ⟨rfl, _, ref01_ReadNum_of hl h1⟩
    · cases h
theorem wf_u64 {a : Int} (h : (Lit.int .u64 a).wf = true) : ∃ n : Nat, a = (n : Int) ∧ n < 18446744073709551616 := by
  simp only [Lit.wf, Bool.and_eq_true, decide_eq_true_eq] at h
  have h1 : (0 : Int) ≤ a := h.1
  have h2 : a ≤ 18446744073709551615 := h.2
  exact ⟨a.toNat, by omega, by omega⟩
theorem wf_u32 {a : Int} (h : (Lit.int .u32 a).wf = true) : ∃ n : Nat, a = (n : Int) ∧ n < 4294967296 := by
  simp only [Lit.wf, Bool.and_eq_true, decide_eq_true_eq] at h
  have h1 : (0 : Int) ≤ a := h.1
  have h2 : a ≤ 4294967295 := h.2
  exact ⟨a.toNat, by omega, by omega⟩
theorem wf_u8 {a : Int} (h : (Lit.int .u8 a).wf = true) : ∃ n : Nat, a = (n : Int) ∧ n < 256 := by
  simp only [Lit.wf, Bool.and_eq_true, decide_eq_true_eq] at h
  have h1 : (0 : Int) ≤ a := h.1
  have h2 : a ≤ 255 := h.2
  exact ⟨a.toNat, by omega, by omega⟩
theorem wf_i64 {a : Int} (h : (Lit.int .i64 a).wf = true) : -9223372036854775808 ≤ a ∧ a < 9223372036854775808 := by
  simp only [Lit.wf, Bool.and_eq_true, decide_eq_true_eq] at h
  have h1 : (-9223372036854775808 : Int) ≤ a := h.1
  have h2 : a ≤ 9223372036854775807 := h.2
  omega

theorem x3_0 {n k : Nat} {e : Int} : aextract 0 (tup3 n k e) = some (.int .u64 n) := rfl
theorem x3_1 {n k : Nat} {e : Int} : aextract 1 (tup3 n k e) = some (.int .i64 k) := rfl
theorem x3_2 {n k : Nat} {e : Int} : aextract 2 (tup3 n k e) = some (.int .i64 e) := rfl
theorem xF_0 {n : Nat} {e : Int} : aextract 0 (tupF n e) = some (.int .u32 n) := rfl
theorem xF_1 {n : Nat} {e : Int} : aextract 1 (tupF n e) = some (.int .i64 e) := rfl
theorem same_int {P : Program} {t : TypeId} {o1 o2 : Operand} {k : IntKind} {a : Int} : abin P .eql t o1 o2 (.int k a) (.int k a) = some (.bool true) := by rw [e_eql, beq_self_eq_true]
theorem same_sv {P : Program} {t : TypeId} {o1 o2 : Operand} {a : List UInt8} : abin P .eql t o1 o2 (sv a) (sv a) = some (.bool true) := by rw [e_seql, beq_self_eq_true]


theorem new_str {l : List UInt8} {s : St} : abytesToStr (newBytes l s).1 (newBytes l s).2 = some (sv l) := bytes_str newBytes_bytes
theorem new_strF {l : List UInt8} {s : St} : abytesToStr (newBytes l s).1 (frzS (newBytes l s).2) = some (sv l) := bytes_str (by rw [bytesOf_frz]; exact newBytes_bytes)

theorem own_new {l : List UInt8} {s : St} : ownR s ((newBytes l s).1, (newBytes l s).2) = some (newBytes l s) := by
  unfold ownR
  rw [if_pos (by simp [newBytes, St.push])]

theorem bytes_lenV {s : St} {v : Value} {l : List UInt8} (h : bytesOf v s = some l) : lenV v = some l.length := by
  have h2 := bytes_len h (e := 0) (s2 := s)
  unfold bytesOf cellsOf at h
  split at h
  · simp only [Option.bind_some] at h
    cases h
    rfl
  · rw [e_len] at h2
    simp only [lenV]
    simp only [Option.some.injEq, Value.int.injEq, true_and] at h2
    congr 1
    omega
  · cases h
theorem bytes_elems {s : St} {v : Value} {l : List UInt8} (h : bytesOf v s = some l) : elemsOf 1 v s = some (bv l) := by
  unfold bytesOf at h
  simp only [Option.bind_eq_some_iff] at h
  obtain ⟨cs, h1, h2⟩ := h
  rw [elems_of h1, ubs_some h2]
/-- bytes appended to bytes of one's own -/
theorem own_more {N : Nat} {s : St} {x v : Value} {l m : List UInt8} (h : Own N 1 s x (bv l)) (hN : N ≤ s.heap.length) (hv : bytesOf v s = some m) (hb : l.length + m.length ≤ 140737488355328) :
    ∃ v' s', aappend 1 1 x v s = some (v', s') ∧ Own N 1 s' v' (bv (l ++ m)) ∧ Ext N s s' := by
  rw [bv_append]
  exact own_append h hN (by omega) (by omega) (bytes_lenV hv) (bytes_elems hv) (by rw [bv_length]; omega) (by rw [bv_length, bv_length]; omega)
/-- however many they are -/
theorem own_moreW {N : Nat} {s : St} {x v : Value} {l m : List UInt8} (h : Own N 1 s x (bv l)) (hN : N ≤ s.heap.length) (hv : bytesOf v s = some m) (hb : l.length + m.length ≤ 150000000000000) :
    ∃ v' s', aappend 1 1 x v s = some (v', s') ∧ Own N 1 s' v' (bv (l ++ m)) ∧ Ext N s s' := by
  rw [bv_append]
  refine own_appendR h hN (by omega) (by omega) (bytes_lenV hv) (bytes_elems hv) (by rw [bv_length]; omega) fun q hq => .inr ?_
  rw [bv_length, bv_length, Nat.mul_one] at hq
  omega
theorem own_copy {s : St} {v : Value} {m : List UInt8} (hv : bytesOf v s = some m) (hb : m.length ≤ 140737488355328) :
    ∃ v' s', aappend 1 1 (.slice none 0 0) v s = some (v', s') ∧ Own s.heap.length 1 s' v' (bv m) ∧ Ext s.heap.length s s' :=
  own_more (l := []) (Own.nil _ _ _) (Nat.le_refl _) hv (by simpa using hb)
/-- a byte written -/
theorem own_store {N : Nat} {s : St} {v : Value} {l : List UInt8} (h : Own N 1 s v (bv l)) {i : Nat} (hi : i < l.length) (x : UInt8) {k : IntKind} :
    ∃ p s', aindexS 1 v (.int k (i : Int)) = some p ∧ aload false 1 p s = some (.int .u8 ((l[i].toNat : Nat) : Int)) ∧ astore 1 p (.int .u8 ((x.toNat : Nat) : Int)) s = some s' ∧ Own N 1 s' v (bv (l.set i x)) ∧ Ext N s s' := by
  obtain ⟨p, h1, h2⟩ := bytes_at h.bytes hi (k := k)
  rcases h with ⟨_, h3⟩ | ⟨b, len, rfl, h4, h5, h6, h7⟩
  · have : l = [] := bv_inj (m := []) h3
    subst this
    simp at hi
  · rw [bv_length, Nat.mul_one] at h6
    have hp : p = .pointer (some ⟨b, i, none⟩) := by
      have : aindexS 1 (.slice (some ⟨b, 0, none⟩) len len) (.int k (i : Int)) = some (.pointer (some ⟨b, i, none⟩)) := by simp [aindexS]; omega
      rw [this] at h1
      exact (Option.some.inj h1).symm
    subst hp
    have hput : putCells (bv l) i [Value.int .u8 ((x.toNat : Nat) : Int)] = bv (l.set i x) := by
      have e : bv (l.set i x) = (bv l).set i (.int .u8 ((x.toNat : Nat) : Int)) := by simp only [bv, List.map_set]
      rw [e, List.set_eq_take_append_cons_drop, if_pos (by rw [bv_length]; exact hi)]
      simp only [putCells, List.length_cons, List.length_nil, List.append_assoc, List.singleton_append]
    refine ⟨_, s.putB b (.row 1 (bv (l.set i x)) .act), h1, h2, ?_, .inr ⟨b, len, rfl, h4, ?_, by rw [bv_length, List.length_set]; omega, h7⟩, ?_⟩
    · unfold astore
      simp only [cellsV, List.length_cons, List.length_nil, List.all_cons, List.all_nil, isLeaf]
      unfold writeN
      rw [h5]
      simp only [List.length_cons, List.length_nil, bv_length, hput]
      rw [if_pos (by simp), if_pos (by omega)]
    · have hb : b < s.heap.length := (List.getElem?_eq_some_iff.1 h5).1
      simp only [St.putB]
      rw [List.getElem?_set_self hb]
    · refine ⟨by simp [St.putB], fun c hc => ?_⟩
      simp only [St.putB]
      rw [List.getElem?_set_ne (by omega)]
/-- what is said of older bytes stays -/
theorem Ext.old {N : Nat} {s s' : St} (h : Ext N s s') {s0 : St} (h0 : Ext s0.heap.length s0 s) (hN : N = s0.heap.length) {v : Value} {l : List UInt8} (hv : bytesOf v s0 = some l) : bytesOf v s' = some l := by
  subst hN
  exact (h0.trans h).bytes hv
theorem place {a : Int} {n : Nat} (hn : 0 < n) (hn2 : n ≤ 1000000) : ∃ i : Nat, i < n ∧ (IntKind.wrap .i64 (a.tmod (n : Int) + (n : Int))).tmod (n : Int) = (i : Int) := by
  have h1 := Int.tmod_lt_of_pos a (show (0 : Int) < (n : Int) by omega)
  have h2 := Int.lt_tmod_of_pos a (show (0 : Int) < (n : Int) by omega)
  rw [wrap_i64 (by omega) (by omega)]
  generalize a.tmod (n : Int) = r at *
  refine ⟨((r + n) % n).toNat, ?_, ?_⟩
  · have := Int.emod_lt_of_pos (r + n) (show (0 : Int) < (n : Int) by omega)
    have := Int.emod_nonneg (r + n) (show (n : Int) ≠ 0 by omega)
    omega
  · rw [Int.tmod_eq_emod_of_nonneg (by omega)]
    have := Int.emod_nonneg (r + n) (show (n : Int) ≠ 0 by omega)
    omega
theorem u8_xor {a : UInt8} {x : Nat} (hx : x < 256) : ((a ^^^ UInt8.ofNat x).toNat : Nat) = a.toNat ^^^ x := by
  rw [UInt8.toNat_xor, ofNat_toNat hx]
theorem sums_ne {a b : Nat} (h : a ≠ b) : (((a : Nat) : Int) != ((b : Nat) : Int)) = true := by
  rw [bne_iff_ne]
  omega
theorem sums_eq {a b : Nat} (h : a = b) : (((a : Nat) : Int) != ((b : Nat) : Int)) = false := by
  subst h
  simp

theorem xor_bit {a k : Nat} (h : a < 2 ^ k) : a ^^^ 2 ^ k = a + 2 ^ k := by
  have h1 := Nat.two_pow_add_eq_or_of_lt (i := k) h 1
  have h2 : 2 ^ k * 1 ||| a = 2 ^ k * 1 ^^^ a := by
    apply Nat.eq_of_testBit_eq
    intro i
    rw [Nat.testBit_or, Nat.testBit_xor, Nat.testBit_two_pow_mul]
    by_cases hi : k ≤ i
    · have : a.testBit i = false := Nat.testBit_lt_two_pow (Nat.lt_of_lt_of_le h (Nat.pow_le_pow_right (by omega) hi))
      simp [this]
    · simp [hi]
  rw [Nat.mul_one] at h1 h2
  rw [Nat.xor_comm, ← h2, ← h1, Nat.add_comm]
theorem own_same {α : Type} {s : St} {a : α} : ownR s (a, s) = some (a, s) := by unfold ownR; rw [if_pos (Nat.le_refl _)]

end Go.Proofs.Ytpbbbfemnkeplaa.Ab
