/- Datagrams: what the functions do. -/
import Derived.Test.YtpbbbfemnkeplaaFrOut
set_option linter.unusedVariables false
set_option linter.unusedSimpArgs false
set_option linter.unusedSectionVars false
namespace Go.Proofs.Ytpbbbfemnkeplaa.Ab
open Go

/-! ### What they say -/
def sealB (l : List UInt8) : List UInt8 := 83 :: (enc l.length ++ l)
def sealL (l : List UInt8) : List UInt8 := sealB l ++ fixB (sumV (sealB l))
def openL (l : List UInt8) : List UInt8 × Int :=
  if 4103 < l.length then ([], 2) else if l.length < 6 then ([], 10)
  else if leN 0 (l.drop (l.length - 4)) ≠ sumV (l.take (l.length - 4)) then ([], 50)
  else if (l.take (l.length - 4)).getD 0 0 ≠ 83 ∨ (readNum ((l.take (l.length - 4)).drop 1)).2.2 ≠ 0 ∨ 4096 < (readNum ((l.take (l.length - 4)).drop 1)).1 ∨ l.length - 4 ≠ 1 + (readNum ((l.take (l.length - 4)).drop 1)).2.1 + (readNum ((l.take (l.length - 4)).drop 1)).1 then ([], 11)
  else ((l.take (l.length - 4)).drop (1 + (readNum ((l.take (l.length - 4)).drop 1)).2.1), 0)
theorem sealL_ne {l : List UInt8} : sealL l ≠ [] := by simp [sealL, sealB]
theorem fixB_len {n : Nat} : (fixB n).length = 4 := rfl

def nilE (e : Int) : Value := .tuple #[.slice none 0 0, .int .i64 e]
def gClone : Sum := fun xs s => (match xs with
  | [.slice none 0 0] => some (Sum.inl (Value.slice none 0 0))
  | [.slice (some a) len cap] => (bytesOf (.slice (some a) len cap) s).bind fun l => if l.length ≤ 140737488355328 then some (Sum.inr l) else none
  | _ => (none : Option (Value ⊕ List UInt8))).map (outS id s)
theorem gClone_eq {a : Addr} {len cap : Nat} {s : St} {l : List UInt8} (h : bytesOf (.slice (some a) len cap) s = some l) (hl : l.length ≤ 140737488355328) : gClone [.slice (some a) len cap] s = some (newBytes l s) := by
  simp only [gClone, h, Option.bind_some, if_pos hl]
  rfl
def gSeal : Sum := fun xs s => (match xs with
  | [v] => (bytesOf v s).bind fun l => if l.length ≤ 140737488355328 then (if 4096 < l.length then some (Sum.inl (nilE 2)) else some (Sum.inr (sealL l))) else none
  | _ => (none : Option (Value ⊕ List UInt8))).map (outS pkE s)
theorem gSeal_eq {v : Value} {s : St} {l : List UInt8} (h : bytesOf v s = some l) (hl : l.length ≤ 4096) : gSeal [v] s = some (pkE (newBytes (sealL l) s).1, (newBytes (sealL l) s).2) := by
  simp only [gSeal, h, Option.bind_some]
  rw [if_pos (by omega), if_neg (by omega)]
  rfl
theorem gSeal_long {v : Value} {s : St} {l : List UInt8} (h : bytesOf v s = some l) (h1 : 4096 < l.length) (hl : l.length ≤ 140737488355328) : gSeal [v] s = some (nilE 2, s) := by
  simp only [gSeal, h, Option.bind_some]
  rw [if_pos (by omega), if_pos (by omega)]
  rfl
def gOpen : Sum := fun xs s => (match xs with
  | [v] => (bytesOf v s).bind fun l => if l.length ≤ 140737488355328 then (if (openL l).2 = 0 then some (Sum.inr (openL l).1) else some (Sum.inl (nilE (openL l).2))) else none
  | _ => (none : Option (Value ⊕ List UInt8))).map (outS pkE s)
theorem gOpen_ok {v : Value} {s : St} {l : List UInt8} (h : bytesOf v s = some l) (hl : l.length ≤ 140737488355328) (h0 : (openL l).2 = 0) : gOpen [v] s = some (pkE (newBytes (openL l).1 s).1, (newBytes (openL l).1 s).2) := by
  simp only [gOpen, h, Option.bind_some]
  rw [if_pos hl, if_pos h0]
  rfl
theorem gOpen_no {v : Value} {s : St} {l : List UInt8} (h : bytesOf v s = some l) (hl : l.length ≤ 140737488355328) (h0 : (openL l).2 ≠ 0) : gOpen [v] s = some (nilE (openL l).2, s) := by
  simp only [gOpen, h, Option.bind_some]
  rw [if_pos hl, if_neg h0]
  rfl

/-! ### Clone -/
theorem nil_eq {t e : TypeId} (ht : Try.prog.underlying t = some (.slice e)) {o1 o2 : Operand} {a : Addr} {len cap : Nat} : abin Try.prog .eql t o1 o2 (.slice (some a) len cap) (.slice none 0 0) = some (.bool false) := by
  unfold abin
  rw [ht]
  rfl
theorem nil_eq2 {t e : TypeId} (ht : Try.prog.underlying t = some (.slice e)) {o1 o2 : Operand} : abin Try.prog .eql t o1 o2 (.slice none 0 0) (.slice none 0 0) = some (.bool true) := by
  unfold abin
  rw [ht]
  rfl
theorem Clone_run {R : Caller} {a : Addr} {len cap : Nat} {s : St} {l : List UInt8} (h : bytesOf (.slice (some a) len cap) s = some l) (hl : l.length ≤ 140737488355328) :
    ∃ b t, slices_Clone_byte_byte R (.slice (some a) len cap) s = some (.slice (some ⟨b, 0, none⟩) l.length l.length, t) ∧ s.heap.length ≤ b ∧ t.heap[b]? = some (.row 1 (bv l) .act) := by
  have e1 : abuildSl 1 [(.int .u8 0)] 0 [] s = some (.slice (some ⟨s.heap.length, 0, none⟩) 0 0, s.push (.row 1 [] .act)) := rfl
  have h2 : bytesOf (.slice (some a) len cap) (s.push (.row 1 [] .act)) = some l := (Ext.push _ (Nat.le_refl _) _).bytes h
  unfold slices_Clone_byte_byte
  simp only [nil_eq Try.underlying22, e1, Option.bind_some, Option.map_some, getL_0, getL_1, getL_2, getL_3, getL_4, getL_5, getL_6, getL_7, getL_8, getL_9, getL_10, getL_11, getL_12, condV_t, condV_f, guardV_tt, guardV_ff, guardV_tf, guardV_ft, guardV_u, apick_t, apick_f, exV_exit, exV_ret, lookE_same, joinK_eq, seqA_n, seqA_e, seqA_r, e_add, e_sub, e_mul, e_eql, e_neq, e_lss, e_leq, e_gtr, e_geq, e_conv, e_not, e_neg, and_guard, or_guard]
  unfold aappend
  rw [if_pos (by omega), bytes_lenV h2, bytes_elems h2]
  simp only [Option.bind_some]
  rw [if_pos (.inl (by omega))]
  by_cases hm : l.length = 0
  · have : l = [] := List.eq_nil_of_length_eq_zero hm
    subst this
    refine ⟨s.heap.length, s.push (.row 1 [] .act), ?_, Nat.le_refl _, push_get⟩
    rfl
  · rw [if_neg (by omega), push_get]
    simp only
    rw [if_pos ⟨trivial, trivial, rfl⟩]
    refine ⟨(s.push (.row 1 [] .act)).heap.length, ((s.push (.row 1 [] .act)).putB s.heap.length (.row 1 [] .dead)).push (.row 1 (bv l) .act), ?_, by rw [push_len]; omega, ?_⟩
    · simp only [Option.bind_some, retV, Nat.zero_add, List.nil_append]
      rfl
    · have : (s.push (.row 1 [] .act)).heap.length = ((s.push (.row 1 [] .act)).putB s.heap.length (.row 1 [] .dead)).heap.length := by simp [St.putB]
      rw [this]
      exact push_get
theorem clone_sum {lib : Lib} (hl : lib 21 = none) : SumOk Try.prog lib hints 21 gClone := by
  refine SumOk.out (.inl rfl) (fun args s v h => ?_) (fun args s l h => ?_)
  · split at h
    · cases h
      refine ⟨rfl, frzS s, slices_Clone_byte_byte_of hl ?_⟩
      unfold slices_Clone_byte_byte
      simp only [nil_eq2 Try.underlying22, Option.bind_some, Option.map_some, getL_0, getL_1, getL_2, getL_3, getL_4, getL_5, getL_6, getL_7, getL_8, getL_9, getL_10, getL_11, getL_12, condV_t, condV_f, guardV_tt, guardV_ff, guardV_tf, guardV_ft, guardV_u, apick_t, apick_f, exV_exit, exV_ret, lookE_same, joinK_eq, seqA_n, seqA_e, seqA_r, e_add, e_sub, e_mul, e_eql, e_neq, e_lss, e_leq, e_gtr, e_geq, e_conv, e_not, e_neg, and_guard, or_guard, retV]
      rfl
    · simp only [Option.bind_eq_some_iff] at h
      obtain ⟨l, _, h⟩ := h
      split at h <;> cases h
    · cases h
  · split at h
    · cases h
    · simp only [Option.bind_eq_some_iff] at h
      obtain ⟨l', h1, h⟩ := h
      split at h
      case isFalse => cases h
      rename_i hle
      cases h
      obtain ⟨b, t, g1, g2, g3⟩ := Clone_run (R := run Try.prog lib hints) (s := frzS s) (by rw [bytesOf_frz]; exact h1) hle
      rw [frzS_len] at g2
      exact ⟨b, t, slices_Clone_byte_byte_of hl g1, g2, g3⟩
    · cases h

/-! ### Sealing -/
theorem slice_leaf {v : Value} {s : St} {l : List UInt8} (h : bytesOf v s = some l) : isLeaf v = true ∧ cellsV v = [v] := by
  unfold bytesOf cellsOf at h
  split at h
  · exact ⟨rfl, rfl⟩
  · exact ⟨rfl, rfl⟩
  · cases h
theorem build3 {s : St} {a b c : Value} (ha : isLeaf a = true ∧ cellsV a = [a]) (hb : isLeaf b = true ∧ cellsV b = [b]) (hc : isLeaf c = true ∧ cellsV c = [c]) : abuildSl 1 [(.slice none 0 0)] 3 [(0, a), (1, b), (2, c)] s = some (.slice (some ⟨s.heap.length, 0, none⟩) 3 3, s.push (.row 1 [a, b, c] .act)) := by
  unfold abuildSl
  rw [if_pos ⟨by decide, rfl, rfl⟩]
  simp [afill, placeA, repCells, putCells, ha.1, ha.2, hb.1, hb.2, hc.1, hc.2]
theorem build2 {s : St} {a b : Value} (ha : isLeaf a = true ∧ cellsV a = [a]) (hb : isLeaf b = true ∧ cellsV b = [b]) : abuildSl 1 [(.slice none 0 0)] 2 [(0, a), (1, b)] s = some (.slice (some ⟨s.heap.length, 0, none⟩) 2 2, s.push (.row 1 [a, b] .act)) := by
  unfold abuildSl
  rw [if_pos ⟨by decide, rfl, rfl⟩]
  simp [afill, placeA, repCells, putCells, ha.1, ha.2, hb.1, hb.2]
theorem cells_new {s : St} {cs : List Value} : cellsOf 1 (.slice (some ⟨s.heap.length, 0, none⟩) cs.length cs.length) (s.push (.row 1 cs .act)) = some cs := by
  simp only [cellsOf, Nat.le_refl, if_true, readN, Ab.readRow, push_get, Option.bind_some, Nat.mul_one, Nat.zero_add]
  rw [List.drop_zero, List.take_length]
theorem fix_slice {s : St} {n : Nat} : ∃ t, (anew [(.int .u8 0), (.int .u8 0), (.int .u8 0), (.int .u8 0)] s).bind (fun r => (astore 4 r.1 (fixV n) r.2).bind fun t => (asliceArr 4 1 r.1 none none none t).map fun v => (v, t)) = some (.slice (some ⟨s.heap.length, 0, none⟩) 4 4, t) ∧ bytesOf (.slice (some ⟨s.heap.length, 0, none⟩) 4 4) t = some (fixB n) ∧ Ext s.heap.length s t := by
  refine ⟨(s.push (.row 0 [(.int .u8 0), (.int .u8 0), (.int .u8 0), (.int .u8 0)] .act)).putB s.heap.length (.row 0 (bv (fixB n)) .act), ?_, ?_, ?_⟩
  · have h1 : anew [(.int .u8 0), (.int .u8 0), (.int .u8 0), (.int .u8 0)] s = some (.pointer (some ⟨s.heap.length, 0, none⟩), s.push (.row 0 [(.int .u8 0), (.int .u8 0), (.int .u8 0), (.int .u8 0)] .act)) := rfl
    have h2 : astore 4 (.pointer (some ⟨s.heap.length, 0, none⟩)) (fixV n) (s.push (.row 0 [(.int .u8 0), (.int .u8 0), (.int .u8 0), (.int .u8 0)] .act)) = some ((s.push (.row 0 [(.int .u8 0), (.int .u8 0), (.int .u8 0), (.int .u8 0)] .act)).putB s.heap.length (.row 0 (bv (fixB n)) .act)) := by
      rw [fixV_eq]
      unfold astore writeN
      simp only [push_get]
      rfl
    rw [h1]
    simp only [Option.bind_some]
    rw [h2]
    simp only [Option.bind_some]
    have h3 : ((s.push (.row 0 [(.int .u8 0), (.int .u8 0), (.int .u8 0), (.int .u8 0)] .act)).putB s.heap.length (.row 0 (bv (fixB n)) .act)).heap[s.heap.length]? = some (.row 0 (bv (fixB n)) .act) := by
      simp [St.putB, St.push]
    unfold asliceArr
    simp only [h3]
    rfl
  · have h3 : ((s.push (.row 0 [(.int .u8 0), (.int .u8 0), (.int .u8 0), (.int .u8 0)] .act)).putB s.heap.length (.row 0 (bv (fixB n)) .act)).heap[s.heap.length]? = some (.row 0 (bv (fixB n)) .act) := by
      simp [St.putB, St.push]
    have h4 : Ab.readRow ((s.push (.row 0 [(.int .u8 0), (.int .u8 0), (.int .u8 0), (.int .u8 0)] .act)).putB s.heap.length (.row 0 (bv (fixB n)) .act)) s.heap.length = some (bv (fixB n)) := by
      unfold Ab.readRow
      rw [h3]
    unfold bytesOf cellsOf
    simp only [Nat.le_refl, if_true]
    unfold readN
    rw [h4, Option.bind_some, if_pos (by rw [bv_length, fixB_len]; decide), List.drop_zero, List.take_of_length_le (by rw [bv_length, fixB_len]; decide), Option.bind_some]
    exact ubs_bv (fixB n)
  · refine keep_ext fun c hc => ?_
    simp only [St.putB]
    rw [List.getElem?_set_ne (by omega), push_old hc]
theorem sumT_lt : ∀ (l : List UInt8) {r : Nat}, r < 4294967296 → sumT r l < 4294967296
  | [], _, h => h
  | c :: l, r, h => by
    rw [sumT_eq, sumR, ← sumT_eq]
    refine sumT_lt l (stpN_lt ?_)
    exact Nat.xor_lt_two_pow (n := 32) h (Nat.lt_trans c.toNat_lt (by decide))
theorem sumV_lt (l : List UInt8) : sumV l < 4294967296 := by
  unfold sumV
  exact Nat.xor_lt_two_pow (n := 32) (sumT_lt l (by decide)) (by decide)
theorem Seal_run {R : Caller} (hN : ∀ xs s, R 13 xs s = gNum xs s) (hC : ∀ xs s, R 12 xs s = gConcat xs s) (hS : ∀ xs s, R 15 xs s = gSum xs s) (hF : ∀ xs s, R 14 xs s = gFixed xs s) {v : Value} {s : St} {l : List UInt8} (h : bytesOf v s = some l) (hl : l.length ≤ 4096) :
    ∃ b t, frame_Seal R v s = some (pkE (.slice (some ⟨b, 0, none⟩) (sealL l).length (sealL l).length), t) ∧ s.heap.length ≤ b ∧ t.heap[b]? = some (.row 1 (bv (sealL l)) .act) := by
  have e1 : decide (((l.length : Nat) : Int) > 4096) = false := by simp; omega
  have e2 : abuildSl 1 [(.int .u8 0)] 1 [(0, (.int .u8 83))] s = some (newBytes [83] s) := rfl
  have e3 : IntKind.wrap .u64 ((l.length : Nat) : Int) = ((l.length : Nat) : Int) := wrap_u64 (by omega) (by omega)
  have hb1 : bytesOf (newBytes [83] s).1 (newBytes [83] s).2 = some [83] := newBytes_bytes
  have x1 : Ext s.heap.length s (newBytes [83] s).2 := newBytes_ext (Nat.le_refl _)
  have x2 : Ext (newBytes [83] s).2.heap.length (newBytes [83] s).2 (newBytes (enc l.length) (newBytes [83] s).2).2 := newBytes_ext (Nat.le_refl _)
  generalize hs1 : newBytes [83] s = r1 at e2 hb1 x1 x2
  have hb2 : bytesOf (newBytes (enc l.length) r1.2).1 (newBytes (enc l.length) r1.2).2 = some (enc l.length) := newBytes_bytes
  have e5 : gNum [.int .u64 ((l.length : Nat) : Int)] r1.2 = some (newBytes (enc l.length) r1.2) := gNum_eq (by omega)
  generalize newBytes (enc l.length) r1.2 = r2 at e5 hb2 x2
  have y1 := x2.bytes hb1
  have y2 := x2.bytes (x1.bytes h)
  have e6 := build3 (s := r2.2) (slice_leaf hb1) (slice_leaf hb2) (slice_leaf h)
  have x3 : Ext r2.2.heap.length r2.2 (r2.2.push (.row 1 [r1.1, r2.1, v] .act)) := .push _ (Nat.le_refl _) _
  have hc3 : cellsOf 1 (.slice (some ⟨r2.2.heap.length, 0, none⟩) 3 3) (r2.2.push (.row 1 [r1.1, r2.1, v] .act)) = some [r1.1, r2.1, v] := cells_new (s := r2.2) (cs := [r1.1, r2.1, v])
  have hp3 : partsOf (r2.2.push (.row 1 [r1.1, r2.1, v] .act)) [r1.1, r2.1, v] = some [[83], enc l.length, l] := by
    simp only [partsOf, x3.bytes y1, x3.bytes hb2, x3.bytes y2, Option.bind_some, Option.map_some]
  have hfl : [[83], enc l.length, l].flatten = sealB l := by simp [sealB]
  have hlen : (sealB l).length ≤ 5000 := by simp [sealB]; have := @enc_len l.length; omega
  have e7 := gConcat_eq hc3 hp3 (by rw [hfl]; simp [sealB]) (by rw [hfl]; omega) (by simp)
  rw [hfl] at e7
  generalize r2.2.push (.row 1 [r1.1, r2.1, v] .act) = s3 at e6 x3 e7
  have hb4 : bytesOf (newBytes (sealB l) s3).1 (newBytes (sealB l) s3).2 = some (sealB l) := newBytes_bytes
  have x4 : Ext s3.heap.length s3 (newBytes (sealB l) s3).2 := newBytes_ext (Nat.le_refl _)
  generalize newBytes (sealB l) s3 = r4 at e7 hb4 x4
  have e8 : gSum [r4.1] r4.2 = some (.int .u32 ((sumV (sealB l) : Nat) : Int), r4.2) := by
    unfold gSum; rw [gBytes1_eq hb4 (by omega), Option.map_some]
  have hsum : sumV (sealB l) < 4294967296 := sumV_lt _
  have e9 : gFixed [.int .u32 ((sumV (sealB l) : Nat) : Int)] r4.2 = some (fixV (sumV (sealB l)), r4.2) := gFixed_eq hsum
  obtain ⟨t5, e10, hb5, x5⟩ := fix_slice (s := r4.2) (n := sumV (sealB l))
  have y4 := x5.bytes hb4
  have e11 := build2 (s := t5) (slice_leaf hb4) (slice_leaf hb5)
  have x6 : Ext t5.heap.length t5 (t5.push (.row 1 [r4.1, .slice (some ⟨r4.2.heap.length, 0, none⟩) 4 4] .act)) := .push _ (Nat.le_refl _) _
  have hc6 : cellsOf 1 (.slice (some ⟨t5.heap.length, 0, none⟩) 2 2) (t5.push (.row 1 [r4.1, .slice (some ⟨r4.2.heap.length, 0, none⟩) 4 4] .act)) = some [r4.1, .slice (some ⟨r4.2.heap.length, 0, none⟩) 4 4] := cells_new (s := t5) (cs := [r4.1, .slice (some ⟨r4.2.heap.length, 0, none⟩) 4 4])
  have hp6 : partsOf (t5.push (.row 1 [r4.1, .slice (some ⟨r4.2.heap.length, 0, none⟩) 4 4] .act)) [r4.1, .slice (some ⟨r4.2.heap.length, 0, none⟩) 4 4] = some [sealB l, fixB (sumV (sealB l))] := by
    simp only [partsOf, x6.bytes y4, x6.bytes hb5, Option.bind_some, Option.map_some]
  have hfl6 : [sealB l, fixB (sumV (sealB l))].flatten = sealL l := by simp [sealL]
  have hlen6 : (sealL l).length ≤ 6000 := by simp [sealL, fixB_len]; omega
  have e12 := gConcat_eq hc6 hp6 (by rw [hfl6]; exact sealL_ne) (by rw [hfl6]; omega) (by simp)
  rw [hfl6] at e12
  have hle : s.heap.length ≤ (t5.push (.row 1 [r4.1, .slice (some ⟨r4.2.heap.length, 0, none⟩) 4 4] .act)).heap.length := by
    have := x1.1; have := x2.1; have := x3.1; have := x4.1; have := x5.1; have := x6.1
    omega
  generalize t5.push (.row 1 [r4.1, .slice (some ⟨r4.2.heap.length, 0, none⟩) 4 4] .act) = s6 at e11 e12 hle
  generalize sealL l = L at e12 hlen6 hfl6 ⊢
  refine ⟨s6.heap.length, (newBytes L s6).2, ?_, hle, push_get⟩
  simp only [Option.bind_eq_some_iff, Option.map_eq_some_iff, Prod.mk.injEq] at e10
  obtain ⟨q, h10, t, h11, w, h12, rfl, rfl⟩ := e10
  have e3' : convInt .u64 (.int .i64 ((l.length : Nat) : Int)) = some (.int .u64 ((l.length : Nat) : Int)) := by rw [e_conv, e3]
  clear hp6 hfl6 hc6 hp3 hfl hc3 hb5 hlen6 hb4 hlen hsum hb2 hb1 x1 x2 x3 x4 x5 x6 y1 y2 y4 hs1
  generalize fixV (sumV (sealB l)) = F at e9 h11
  generalize sumV (sealB l) = S at e8 e9
  unfold frame_Seal
  simp only [bytes_len h, e1, e2, e3', Option.bind_some, condV_f, e_gtr]
  simp only [octet_Num_call, hN, e5, Option.bind_some]
  simp only [e6, Option.bind_some]
  simp only [slices_Concat_byte_byte_call, hC, e7, Option.bind_some]
  simp only [octet_Sum_call, hS, e8, Option.bind_some]
  simp only [octet_Fixed_call, hF, e9, Option.bind_some]
  simp only [h10, Option.bind_some]
  simp only [h11, Option.bind_some]
  simp only [h12, Option.bind_some]
  simp only [e11, Option.bind_some]
  simp only [slices_Concat_byte_byte_call, hC, e12, Option.bind_some]
  rfl
theorem seal_sum {lib : Lib} (hl : lib 8 = none) (hN : lib 13 = some gNum) (hC : lib 12 = some gConcat) (hS : lib 15 = some gSum) (hF : lib 14 = some gFixed) : SumOk Try.prog lib hints 8 gSeal := by
  refine SumOk.out (.inr rfl) (fun args s v h => ?_) (fun args s l h => ?_)
  · split at h
    · rename_i v0
      simp only [Option.bind_eq_some_iff] at h
      obtain ⟨l, h1, h⟩ := h
      split at h
      case isFalse => cases h
      rename_i hle
      split at h
      case isFalse => cases h
      rename_i hlong
      cases h
      refine ⟨rfl, frzS s, frame_Seal_of hl ?_⟩
      have h2 : bytesOf v0 (frzS s) = some l := by rw [bytesOf_frz]; exact h1
      have e1 : decide (((l.length : Nat) : Int) > 4096) = true := by simp; omega
      unfold frame_Seal
      simp only [bytes_len h2, e1, Option.bind_some, Option.map_some, getL_0, getL_1, getL_2, getL_3, getL_4, getL_5, getL_6, getL_7, getL_8, getL_9, getL_10, getL_11, getL_12, condV_t, condV_f, guardV_tt, guardV_ff, guardV_tf, guardV_ft, guardV_u, apick_t, apick_f, exV_exit, exV_ret, lookE_same, joinK_eq, seqA_n, seqA_e, seqA_r, e_add, e_sub, e_mul, e_eql, e_neq, e_lss, e_leq, e_gtr, e_geq, e_conv, e_not, e_neg, and_guard, or_guard, retV]
      rfl
    · cases h
  · split at h
    · rename_i v0
      simp only [Option.bind_eq_some_iff] at h
      obtain ⟨l', h1, h⟩ := h
      split at h
      case isFalse => cases h
      split at h
      case isTrue => cases h
      cases h
      obtain ⟨b, t, g1, g2, g3⟩ := Seal_run (R := run Try.prog lib hints) (fun xs s => known hN) (fun xs s => known hC) (fun xs s => known hS) (fun xs s => known hF) (s := frzS s) (v := v0) (l := l') (by rw [bytesOf_frz]; exact h1) (by omega)
      rw [frzS_len] at g2
      exact ⟨b, t, frame_Seal_of hl g1, g2, g3⟩
    · cases h

end Go.Proofs.Ytpbbbfemnkeplaa.Ab
