/- What the abstract machine's operations come to, at values of a known shape. -/
import Derived.Test.YtamaapapaiopiaaBView
import Derived.Laws.Strings
set_option linter.unusedVariables false
set_option linter.unusedSimpArgs false
set_option linter.unusedSectionVars false
namespace Go.Proofs.Ytamaapapaiopiaa.Ab
open Go

/-! ### Lists of values -/
theorem getL_0 {a : Value} {l : List Value} : getL (a :: l) 0 = a := Eq.trans rfl (Eq.refl _)
theorem getL_1 {a b : Value} {l : List Value} : getL (a :: b :: l) 1 = b := Eq.trans rfl (Eq.refl _)
theorem getL_2 {a b c : Value} {l : List Value} : getL (a :: b :: c :: l) 2 = c := Eq.trans rfl (Eq.refl _)
theorem getL_3 {a b c d : Value} {l : List Value} : getL (a :: b :: c :: d :: l) 3 = d := Eq.trans rfl (Eq.refl _)
theorem getL_4 {a b c d e : Value} {l : List Value} : getL (a :: b :: c :: d :: e :: l) 4 = e := Eq.trans rfl (Eq.refl _)
theorem getL_5 {a b c d e f : Value} {l : List Value} : getL (a :: b :: c :: d :: e :: f :: l) 5 = f := Eq.trans rfl (Eq.refl _)
theorem getL_6 {a b c d e f g : Value} {l : List Value} : getL (a :: b :: c :: d :: e :: f :: g :: l) 6 = g := Eq.trans rfl (Eq.refl _)
theorem getL_7 {a b c d e f g h : Value} {l : List Value} : getL (a :: b :: c :: d :: e :: f :: g :: h :: l) 7 = h := Eq.trans rfl (Eq.refl _)
theorem getL_8 {a b c d e f g h i : Value} {l : List Value} : getL (a :: b :: c :: d :: e :: f :: g :: h :: i :: l) 8 = i := Eq.trans rfl (Eq.refl _)
theorem getL_9 {a b c d e f g h i j : Value} {l : List Value} : getL (a :: b :: c :: d :: e :: f :: g :: h :: i :: j :: l) 9 = j := Eq.trans rfl (Eq.refl _)
theorem getL_10 {a b c d e f g h i j k : Value} {l : List Value} : getL (a :: b :: c :: d :: e :: f :: g :: h :: i :: j :: k :: l) 10 = k := Eq.trans rfl (Eq.refl _)
theorem getL_11 {a b c d e f g h i j k m : Value} {l : List Value} : getL (a :: b :: c :: d :: e :: f :: g :: h :: i :: j :: k :: m :: l) 11 = m := Eq.trans rfl (Eq.refl _)
theorem getL_12 {a b c d e f g h i j k m n : Value} {l : List Value} : getL (a :: b :: c :: d :: e :: f :: g :: h :: i :: j :: k :: m :: n :: l) 12 = n := Eq.trans rfl (Eq.refl _)

/-- (told by no bare rfl: so the kernel goes step by step) -/
theorem n_bind {α β : Type} {a : α} {f : α → Option β} : (some a).bind f = f a := Eq.trans (Option.bind_some a f) (Eq.refl _)
theorem n_map {α β : Type} {a : α} {f : α → β} : (some a).map f = some (f a) := Eq.trans rfl (Eq.refl _)

/-! ### Control -/
section
variable {β : Type}
theorem condV_t {x y : Option β} : condV (.bool true) x y = x := Eq.trans rfl (Eq.refl _)
theorem condV_f {x y : Option β} : condV (.bool false) x y = y := Eq.trans rfl (Eq.refl _)
theorem condV_b {b : Bool} {x y : Option β} : condV (.bool b) x y = if b = true then x else y := rfl
theorem guardV_tt {x y : Option β} : guardV (.bool true) true x y = x := Eq.trans rfl (Eq.refl _)
theorem guardV_ff {x y : Option β} : guardV (.bool false) false x y = x := Eq.trans rfl (Eq.refl _)
theorem guardV_tf {x y : Option β} : guardV (.bool true) false x y = y := Eq.trans rfl (Eq.refl _)
theorem guardV_ft {x y : Option β} : guardV (.bool false) true x y = y := Eq.trans rfl (Eq.refl _)
theorem guardV_u {w : Bool} {x y : Option β} : guardV undef w x y = y := Eq.trans rfl (Eq.refl _)
theorem apick_t {a b : Value} : apick (.bool true) a b = some a := Eq.trans rfl (Eq.refl _)
theorem apick_f {a b : Value} : apick (.bool false) a b = some b := Eq.trans rfl (Eq.refl _)
theorem exV_exit {j : Nat} {l : List (Nat × Option β)} {r : Option β} : exV (.exit j) l r = lookE j l := Eq.trans rfl (Eq.refl _)
theorem exV_ret {l : List (Nat × Option β)} {r : Option β} : exV .ret l r = r := Eq.trans rfl (Eq.refl _)
theorem lookE_same {j : Nat} {x : Option β} {l : List (Nat × Option β)} : lookE j ((j, x) :: l) = x := if_pos rfl
theorem lookE_next {j i : Nat} {x : Option β} {l : List (Nat × Option β)} (h : j ≠ i) : lookE j ((i, x) :: l) = lookE j l := if_neg h
theorem joinK_eq {F : List Value → St → Option β} {X : List Value} {s : St} : joinK F X s = F X s := Eq.trans rfl (Eq.refl _)
theorem seqA_n {X : List Value} {s : St} {k : List Value → St → Res} : seqA (some (.normal, X, s)) k = k X s := Eq.trans rfl (Eq.refl _)
theorem seqA_e {j : Nat} {X : List Value} {s : St} {k : List Value → St → Res} : seqA (some (.exit j, X, s)) k = some (.exit j, X, s) := Eq.trans rfl (Eq.refl _)
theorem seqA_r {X : List Value} {s : St} {k : List Value → St → Res} : seqA (some (.ret, X, s)) k = some (.ret, X, s) := Eq.trans rfl (Eq.refl _)
end

/-- '&&' and '||' -/
theorem and_guard {β : Type} {a b : Bool} {s : St} {K : List Value × St → Value → Option β} : ((guardV (.bool a) true (some ([.bool b], s)) (some ([undef], s))).bind fun q => (apick (.bool a) (getL q.1 0) (.bool false)).bind (K q)) = K ([if a = true then .bool b else undef], s) (.bool (a && b)) := by
  cases a <;> rfl
theorem or_guard {β : Type} {a b : Bool} {s : St} {K : List Value × St → Value → Option β} : ((guardV (.bool a) false (some ([.bool b], s)) (some ([undef], s))).bind fun q => (apick (.bool a) (.bool true) (getL q.1 0)).bind (K q)) = K ([if a = true then undef else .bool b], s) (.bool (a || b)) := by
  cases a <;> rfl

/-! ### Numbers -/
section
variable {P : Program} {t : TypeId} {ox oy : Operand} {k : IntKind} {a b : Int}
theorem e_add : abin P .add t ox oy (.int k a) (.int k b) = some (.int k (k.wrap (a + b))) := by simp [abin, intBin]
theorem e_sub : abin P .sub t ox oy (.int k a) (.int k b) = some (.int k (k.wrap (a - b))) := by simp [abin, intBin]
theorem e_mul : abin P .mul t ox oy (.int k a) (.int k b) = some (.int k (k.wrap (a * b))) := by simp [abin, intBin]
theorem e_quo (h : b ≠ 0) : abin P .quo t ox oy (.int k a) (.int k b) = some (.int k (k.wrap (a.tdiv b))) := by simp [abin, intBin, h]
theorem e_rem (h : b ≠ 0) : abin P .rem t ox oy (.int k a) (.int k b) = some (.int k (a.tmod b)) := by simp [abin, intBin, h]
theorem e_eql : abin P .eql t ox oy (.int k a) (.int k b) = some (.bool (a == b)) := by simp [abin, intBin]
theorem e_neq : abin P .neq t ox oy (.int k a) (.int k b) = some (.bool (a != b)) := by simp [abin, intBin]
theorem e_lss : abin P .lss t ox oy (.int k a) (.int k b) = some (.bool (decide (a < b))) := by simp [abin, intBin]
theorem e_leq : abin P .leq t ox oy (.int k a) (.int k b) = some (.bool (decide (a ≤ b))) := by simp [abin, intBin]
theorem e_gtr : abin P .gtr t ox oy (.int k a) (.int k b) = some (.bool (decide (a > b))) := by simp [abin, intBin]
theorem e_geq : abin P .geq t ox oy (.int k a) (.int k b) = some (.bool (decide (a ≥ b))) := by simp [abin, intBin]
theorem e_conv {k2 : IntKind} : convInt k2 (.int k a) = some (.int k2 (k2.wrap a)) := Eq.trans rfl (Eq.refl _)
theorem e_not {c : Bool} : aun .not (.bool c) = some (.bool !c) := Eq.trans rfl (Eq.refl _)
theorem e_neg : aun .neg (.int k a) = some (.int k (k.wrap (0 - a))) := Eq.trans rfl (Eq.refl _)
end

/-! ### Unsigned numbers -/
theorem wrap_u8 {n : Int} (h0 : 0 ≤ n) (h : n < 256) : IntKind.wrap .u8 n = n := by simp [IntKind.wrap, IntKind.signed, IntKind.bits]; omega
theorem wrap_u32 {n : Int} (h0 : 0 ≤ n) (h : n < 4294967296) : IntKind.wrap .u32 n = n := by simp [IntKind.wrap, IntKind.signed, IntKind.bits]; omega
theorem wrap_u64 {n : Int} (h0 : 0 ≤ n) (h : n < 18446744073709551616) : IntKind.wrap .u64 n = n := by simp [IntKind.wrap, IntKind.signed, IntKind.bits]; omega
theorem wrap_i64 {n : Int} (h0 : -9223372036854775808 ≤ n) (h : n < 9223372036854775808) : IntKind.wrap .i64 n = n := by simp [IntKind.wrap, IntKind.signed, IntKind.bits]; omega
theorem wrapu8 {n : Nat} : IntKind.wrap .u8 (n : Int) = ((n % 256 : Nat) : Int) := by simp [IntKind.wrap, IntKind.signed, IntKind.bits]
theorem wrapu32 {n : Nat} : IntKind.wrap .u32 (n : Int) = ((n % 4294967296 : Nat) : Int) := by simp [IntKind.wrap, IntKind.signed, IntKind.bits]
theorem wrapu64 {n : Nat} : IntKind.wrap .u64 (n : Int) = ((n % 18446744073709551616 : Nat) : Int) := by simp [IntKind.wrap, IntKind.signed, IntKind.bits]

def ukind : IntKind → Bool
  | .u8 | .u16 | .u32 | .u64 => true
  | _ => false
theorem uwrap {k : IntKind} (hk : ukind k = true) {n : Nat} (h : n < 2 ^ k.bits) : k.wrap (n : Int) = (n : Int) := by
  have h2 : ((n : Int)) < ((2 ^ k.bits : Nat) : Int) := by exact_mod_cast h
  cases k <;> simp [ukind] at hk <;> simp [IntKind.wrap, IntKind.signed, IntKind.bits] at h2 ⊢ <;> omega
theorem ofInt_nat {w n : Nat} : BitVec.ofInt w (n : Int) = BitVec.ofNat w n := by
  apply BitVec.eq_of_toNat_eq
  simp [BitVec.toNat_ofInt]
section
variable {P : Program} {t : TypeId} {ox oy : Operand} {k : IntKind} {a b : Nat}
theorem u_and (hk : ukind k = true) (ha : a < 2 ^ k.bits) (hb : b < 2 ^ k.bits) : abin P .and t ox oy (.int k a) (.int k b) = some (.int k ((a &&& b : Nat) : Int)) := by
  have : (BitVec.ofInt k.bits (a : Int) &&& BitVec.ofInt k.bits (b : Int)).toNat = a &&& b := by
    rw [ofInt_nat, ofInt_nat, BitVec.toNat_and, BitVec.toNat_ofNat, BitVec.toNat_ofNat, Nat.mod_eq_of_lt ha, Nat.mod_eq_of_lt hb]
  simp only [abin, intBin, if_true, this]
  rw [uwrap hk (Nat.and_lt_two_pow _ hb)]
theorem u_or (hk : ukind k = true) (ha : a < 2 ^ k.bits) (hb : b < 2 ^ k.bits) : abin P .or t ox oy (.int k a) (.int k b) = some (.int k ((a ||| b : Nat) : Int)) := by
  have : (BitVec.ofInt k.bits (a : Int) ||| BitVec.ofInt k.bits (b : Int)).toNat = a ||| b := by
    rw [ofInt_nat, ofInt_nat, BitVec.toNat_or, BitVec.toNat_ofNat, BitVec.toNat_ofNat, Nat.mod_eq_of_lt ha, Nat.mod_eq_of_lt hb]
  simp only [abin, intBin, if_true, this]
  rw [uwrap hk (Nat.or_lt_two_pow ha hb)]
theorem u_xor (hk : ukind k = true) (ha : a < 2 ^ k.bits) (hb : b < 2 ^ k.bits) : abin P .xor t ox oy (.int k a) (.int k b) = some (.int k ((a ^^^ b : Nat) : Int)) := by
  have : (BitVec.ofInt k.bits (a : Int) ^^^ BitVec.ofInt k.bits (b : Int)).toNat = a ^^^ b := by
    rw [ofInt_nat, ofInt_nat, BitVec.toNat_xor, BitVec.toNat_ofNat, BitVec.toNat_ofNat, Nat.mod_eq_of_lt ha, Nat.mod_eq_of_lt hb]
  simp only [abin, intBin, if_true, this]
  rw [uwrap hk (Nat.xor_lt_two_pow ha hb)]
theorem u_shr (ha : a < 2 ^ k.bits) {k2 : IntKind} : abin P .shr t ox oy (.int k a) (.int k2 b) = some (.int k ((a / 2 ^ b : Nat) : Int)) := by
  have hb : ¬ ((b : Int) < 0) := by omega
  simp only [abin, intBin, if_neg hb]
  congr 2
  rw [Int.toNat_natCast, Int.fdiv_eq_ediv_of_nonneg _ (by exact_mod_cast Nat.zero_le _)]
  have : (2 : Int) ^ (min b k.bits) = ((2 ^ (min b k.bits) : Nat) : Int) := by push_cast; rfl
  rw [this]
  rw [← Int.natCast_ediv]
  congr 1
  by_cases h : b ≤ k.bits
  · rw [Nat.min_eq_left h]
  · rw [Nat.min_eq_right (by omega), Nat.div_eq_of_lt ha, Nat.div_eq_of_lt]
    exact Nat.lt_of_lt_of_le ha (Nat.pow_le_pow_right (by omega) (by omega))
theorem u_shl (hk : ukind k = true) {k2 : IntKind} : abin P .shl t ox oy (.int k a) (.int k2 b) = some (.int k ((a * 2 ^ b % 2 ^ k.bits : Nat) : Int)) := by
  have hb : ¬ ((b : Int) < 0) := by omega
  simp only [abin, intBin, if_neg hb]
  congr 2
  rw [Int.toNat_natCast]
  have hp : (a : Int) * 2 ^ (min b k.bits) = ((a * 2 ^ (min b k.bits) : Nat) : Int) := by push_cast; rfl
  rw [hp]
  have hw : ∀ n : Nat, k.wrap (n : Int) = ((n % 2 ^ k.bits : Nat) : Int) := fun n => by
    cases k <;> simp [ukind] at hk <;> simp [IntKind.wrap, IntKind.signed, IntKind.bits]
  rw [hw]
  congr 1
  by_cases h : b ≤ k.bits
  · rw [Nat.min_eq_left h]
  · rw [Nat.min_eq_right (by omega)]
    have h1 : a * 2 ^ k.bits % 2 ^ k.bits = 0 := Nat.mul_mod_left _ _
    have h2 : a * 2 ^ b % 2 ^ k.bits = 0 := by
      have : 2 ^ b = 2 ^ (b - k.bits) * 2 ^ k.bits := by rw [← Nat.pow_add]; congr 1; omega
      rw [this, ← Nat.mul_assoc]
      exact Nat.mul_mod_left _ _
    rw [h1, h2]
end

/-! ### Bytes -/
def bv (l : List UInt8) : List Value := l.map fun b => .int .u8 ((b.toNat : Nat) : Int)
theorem bv_length {l : List UInt8} : (bv l).length = l.length := by simp [bv]
theorem bv_get {l : List UInt8} {i : Nat} : (bv l)[i]? = (l[i]?).map fun b => .int .u8 ((b.toNat : Nat) : Int) := by simp [bv]
theorem bv_append {l m : List UInt8} : bv (l ++ m) = bv l ++ bv m := by simp [bv]
theorem bv_take {l : List UInt8} {n : Nat} : bv (l.take n) = (bv l).take n := by simp [bv]
theorem bv_drop {l : List UInt8} {n : Nat} : bv (l.drop n) = (bv l).drop n := by simp [bv]
theorem bv_leaf {l : List UInt8} : (bv l).all leafOk = true := by simp [bv, leafOk]
theorem bytesV_eq {t : ByteArray} : bytesV t = bv t.data.toList := rfl
theorem bv_inj {l m : List UInt8} (h : bv l = bv m) : l = m := by
  induction l generalizing m with
  | nil => cases m with
    | nil => rfl
    | cons => simp [bv] at h
  | cons x l ih => cases m with
    | nil => simp [bv] at h
    | cons y m =>
      simp only [bv, List.map_cons, List.cons.injEq, Value.int.injEq, true_and] at h
      have h1 : x.toNat = y.toNat := by exact_mod_cast h.1
      rw [UInt8.toNat_inj.1 h1, ih (m := m) h.2]

/-- bytes, strictly -/
def ubs : List Value → Option (List UInt8)
  | [] => some []
  | .int .u8 n :: l => if 0 ≤ n ∧ n < 256 then (ubs l).map fun r => UInt8.ofNat n.toNat :: r else none
  | _ => none
theorem ubs_bv : ∀ (l : List UInt8), ubs (bv l) = some l
  | [] => rfl
  | x :: l => by
    have h := x.toNat_lt
    simp only [bv, List.map_cons, ubs]
    rw [if_pos (by omega)]
    have := ubs_bv l
    unfold bv at this
    rw [this]
    simp
theorem ubs_some : ∀ {cs : List Value} {l : List UInt8}, ubs cs = some l → cs = bv l
  | [], l, h => by simp [ubs] at h; subst h; rfl
  | v :: cs, l, h => by
    unfold ubs at h
    split at h
    · rename_i heq; cases heq
    · rename_i n l' heq
      cases heq
      split at h
      · rename_i hn
        simp only [Option.map_eq_some_iff] at h
        obtain ⟨r, hr, rfl⟩ := h
        rw [ubs_some hr]
        simp only [bv, List.map_cons, List.cons.injEq, Value.int.injEq, true_and, and_true]
        have : (UInt8.ofNat n.toNat).toNat = n.toNat := by simp; omega
        rw [this]; omega
      · cases h
    · cases h
theorem unbytes_bv : ∀ (l : List UInt8), unbytes (bv l) = some l
  | [] => rfl
  | x :: l => by
    have h := x.toNat_lt
    simp only [bv, List.map_cons, unbytes]
    have := unbytes_bv l
    unfold bv at this
    rw [this]
    simp

/-! ### Strings -/
def sv (l : List UInt8) : Value := .string ⟨l.toArray⟩
theorem sv_of (t : ByteArray) : Value.string t = sv t.data.toList := by simp [sv]
section
variable {P : Program} {t : TypeId} {ox oy : Operand} {a b : List UInt8}
theorem e_seql : abin P .eql t ox oy (sv a) (sv b) = some (.bool (a == b)) := by simp [abin, strBin, sv]
theorem e_sneq : abin P .neq t ox oy (sv a) (sv b) = some (.bool (!(a == b))) := by simp [abin, strBin, sv]
theorem e_slss : abin P .lss t ox oy (sv a) (sv b) = some (.bool (Op.bytesLess a b)) := by simp [abin, strBin, sv]
theorem e_sleq : abin P .leq t ox oy (sv a) (sv b) = some (.bool (Op.bytesLess a b || a == b)) := by simp [abin, strBin, sv]
theorem e_sgtr : abin P .gtr t ox oy (sv a) (sv b) = some (.bool (!(Op.bytesLess a b || a == b))) := by simp [abin, strBin, sv]
theorem e_sgeq : abin P .geq t ox oy (sv a) (sv b) = some (.bool (!(Op.bytesLess a b))) := by simp [abin, strBin, sv]
end
theorem e_lenV {s : St} {a : List UInt8} : alenV .string (sv a) s = some (.int .i64 ((a.length : Nat) : Int)) := by simp [alenV, lenFits, alen, sv, ByteArray.size]

/-! ### Slices that are read -/
/-- a slice's cells; n: an element's -/
def cellsOf (n : Nat) (v : Value) (s : St) : Option (List Value) :=
  match v with
  | .slice none 0 0 => some []
  | .slice (some ⟨b, o, none⟩) len cap => if len ≤ cap then readN s b o (len * n) else none
  | _ => none
def bytesOf (v : Value) (s : St) : Option (List UInt8) := (cellsOf 1 v s).bind ubs

theorem readRow_frz {s : St} {b : Nat} : readRow (frzS s) b = readRow s b := by
  unfold readRow
  rw [frzS_get]
  cases s.heap[b]? with
  | none => rfl
  | some x => cases x with
    | row n c st => cases st <;> rfl
    | map => rfl
theorem readN_frz {s : St} {b o n : Nat} : readN (frzS s) b o n = readN s b o n := by unfold readN; rw [readRow_frz]
theorem cellsOf_frz {s : St} {n : Nat} {v : Value} : cellsOf n v (frzS s) = cellsOf n v s := by
  unfold cellsOf
  split
  · rfl
  · rw [readN_frz]
  · rfl
theorem bytesOf_frz {s : St} {v : Value} : bytesOf v (frzS s) = bytesOf v s := by unfold bytesOf; rw [cellsOf_frz]

theorem readN_some {s : St} {b o n : Nat} {cs : List Value} (h : readN s b o n = some cs) : ∃ row, readRow s b = some row ∧ o + n ≤ row.length ∧ cs = (row.drop o).take n := by
  unfold readN at h
  simp only [Option.bind_eq_some_iff] at h
  obtain ⟨row, h1, h2⟩ := h
  split at h2
  · rename_i hle; cases h2; exact ⟨row, h1, hle, rfl⟩
  · cases h2
theorem cellsOf_len {s : St} {n : Nat} {v : Value} {cs : List Value} (h : cellsOf n v s = some cs) : ∃ a len cap, v = .slice a len cap ∧ cs.length = len * n := by
  unfold cellsOf at h
  split at h
  · cases h; exact ⟨_, _, _, rfl, by simp⟩
  · split at h
    case isFalse => cases h
    obtain ⟨row, _, h2, rfl⟩ := readN_some h
    exact ⟨_, _, _, rfl, by simp; omega⟩
  · cases h
theorem e_len {s : St} {a : Option Addr} {len cap : Nat} {e : TypeId} : alenV (.slice e) (.slice a len cap) s = some (.int .i64 len) := rfl
theorem e_lenS {s : St} {t : ByteArray} : alenV .string (.string t) s = some (.int .i64 t.size) := rfl

/-- bytes: how many -/
theorem bytes_len {s : St} {v : Value} {l : List UInt8} (h : bytesOf v s = some l) {e : TypeId} {s2 : St} : alenV (.slice e) v s2 = some (.int .i64 ((l.length : Nat) : Int)) := by
  unfold bytesOf at h
  simp only [Option.bind_eq_some_iff] at h
  obtain ⟨cs, h1, h2⟩ := h
  obtain ⟨a, len, cap, rfl, h3⟩ := cellsOf_len h1
  have := ubs_some h2
  rw [this, bv_length] at h3
  rw [e_len, h3, Nat.mul_one]
theorem cells_at {s : St} {n : Nat} {v : Value} {cs : List Value} (h : cellsOf n v s = some cs) (hn : 0 < n) {i : Nat} (hi : (i + 1) * n ≤ cs.length) {k : IntKind} :
    ∃ p, aindexS n v (.int k (i : Int)) = some p ∧ (∀ c, n = 1 → cs[i]? = some c → aload false 1 p s = some c) ∧ aload true n p s = some (.agg ((cs.drop (i * n)).take n).toArray) := by
  unfold cellsOf at h
  split at h
  · cases h
    have : 0 < (i + 1) * n := Nat.mul_pos (by omega) hn
    simp only [List.length_nil] at hi
    omega
  · rename_i b o len cap
    split at h
    case isFalse => cases h
    obtain ⟨row, h1, h2, rfl⟩ := readN_some h
    have hl : ((row.drop o).take (len * n)).length = len * n := by simp; omega
    rw [hl] at hi
    have hlt : i < len := by
      rcases Nat.lt_or_ge i len with hh | hh
      · exact hh
      · have := Nat.mul_le_mul_right n hh; rw [Nat.add_mul] at hi; omega
    refine ⟨.pointer (some ⟨b, o + i * n, none⟩), ?_, fun c hn1 hc => ?_, ?_⟩
    · simp [aindexS, hlt]
    · subst hn1
      simp only [aload, h1, Option.bind_some, Bool.false_eq_true, if_false]
      rw [List.getElem?_take_of_lt (by omega), List.getElem?_drop] at hc
      simpa using hc
    · simp only [aload, if_true, readN, h1, Option.bind_some]
      have h3 : i * n + n ≤ len * n := by rw [Nat.add_mul] at hi; omega
      rw [if_pos (by omega)]
      simp only [Option.map_some]
      congr 3
      rw [List.drop_take, List.drop_drop, List.take_take]
      congr 1
      omega
  · cases h
/-- a byte -/
theorem bytes_at {s : St} {v : Value} {l : List UInt8} (h : bytesOf v s = some l) {i : Nat} (hi : i < l.length) {k : IntKind} : ∃ p, aindexS 1 v (.int k (i : Int)) = some p ∧ aload false 1 p s = some (.int .u8 ((l[i].toNat : Nat) : Int)) := by
  unfold bytesOf at h
  simp only [Option.bind_eq_some_iff] at h
  obtain ⟨cs, h1, h2⟩ := h
  have := ubs_some h2
  obtain ⟨p, h3, h4, _⟩ := cells_at h1 (by omega) (i := i) (by rw [this, bv_length]; omega) (k := k)
  refine ⟨p, h3, h4 _ rfl ?_⟩
  rw [this, bv_get, List.getElem?_eq_getElem hi]
  rfl
theorem bytes_str {s : St} {v : Value} {l : List UInt8} (h : bytesOf v s = some l) : abytesToStr v s = some (.string ⟨l.toArray⟩) := by
  unfold bytesOf at h
  simp only [Option.bind_eq_some_iff] at h
  obtain ⟨cs, h1, h2⟩ := h
  have := ubs_some h2
  unfold cellsOf at h1
  split at h1
  · cases h1
    have : l = [] := by
      cases l with
      | nil => rfl
      | cons => simp [bv] at this
    subst this
    rfl
  · split at h1
    case isFalse => cases h1
    simp only [abytesToStr]
    rw [Nat.mul_one] at h1
    rw [h1, this]
    simp [unbytes_bv]
  · cases h1
/-- a part of a slice -/
theorem cells_slice {s : St} {n : Nat} {a : Option Addr} {len cap : Nat} {cs : List Value} (h : cellsOf n (.slice a len cap) s = some cs) {lo hi mx : Option Value} {i j : Nat} (hlo : abound 0 lo = some i) (hhi : abound len hi = some j) (hij : i ≤ j) (hj : j ≤ len)
    (hmx : mx = none ∨ (hi.isSome = true ∧ ∀ c, abound c mx = some j)) : ∃ u, asliceV n (.slice a len cap) lo hi mx = some u ∧ cellsOf n u s = some ((cs.drop (i * n)).take ((j - i) * n)) := by
  unfold cellsOf at h
  split at h
  · rename_i heq
    cases heq
    cases h
    obtain rfl : j = 0 := by omega
    obtain rfl : i = 0 := by omega
    refine ⟨.slice none 0 0, ?_, by simp [cellsOf]⟩
    simp only [asliceV, asliceSl, hlo, hhi]
    rcases hmx with rfl | ⟨h1, h2⟩
    · simp [abound, cutRow]
    · simp [h1, h2, cutRow]
  · rename_i b o len2 cap2 heq
    cases heq
    split at h
    case isFalse => cases h
    rename_i hlc
    obtain ⟨row, h1, h2, rfl⟩ := readN_some h
    have key : ∀ m, j ≤ m → m ≤ cap → (cutRow n (some ⟨b, o, none⟩) i (j - i) (m - i)) = some (.slice (some ⟨b, o + i * n, none⟩) (j - i) (m - i)) ∧ cellsOf n (.slice (some ⟨b, o + i * n, none⟩) (j - i) (m - i)) s = some (((List.take (len * n) (List.drop o row)).drop (i * n)).take ((j - i) * n)) := by
      intro m hm1 hm2
      refine ⟨rfl, ?_⟩
      simp only [cellsOf]
      rw [if_pos (by omega)]
      unfold readN
      rw [h1]
      simp only [Option.bind_some]
      have e1 : i * n + (j - i) * n = j * n := by rw [← Nat.add_mul]; congr 1; omega
      have e2 : j * n ≤ len * n := Nat.mul_le_mul_right _ hj
      rw [if_pos (by omega)]
      congr 1
      rw [List.drop_take, List.drop_drop, List.take_take]
      congr 1
      omega
    simp only [asliceV, asliceSl, hlo, hhi]
    rcases hmx with rfl | ⟨h3, h4⟩
    · obtain ⟨k1, k2⟩ := key cap (by omega) (Nat.le_refl _)
      refine ⟨_, ?_, k2⟩
      simp only [Option.isNone_none, Bool.true_or, if_true, abound, Option.bind_some]
      rw [if_pos ⟨hij, by omega, Nat.le_refl _⟩]
      exact k1
    · obtain ⟨k1, k2⟩ := key j (Nat.le_refl _) (by omega)
      refine ⟨_, ?_, k2⟩
      simp only [h3, h4, Bool.or_true, if_true, Option.bind_some]
      rw [if_pos ⟨hij, Nat.le_refl _, by omega⟩]
      exact k1
  · cases h
/-- a part of bytes -/
theorem bytes_slice {s : St} {v : Value} {l : List UInt8} (h : bytesOf v s = some l) {lo hi mx : Option Value} {i j : Nat} (hlo : abound 0 lo = some i) (hhi : abound l.length hi = some j) (hij : i ≤ j) (hj : j ≤ l.length)
    (hmx : mx = none ∨ (hi.isSome = true ∧ ∀ c, abound c mx = some j)) : ∃ u, asliceV 1 v lo hi mx = some u ∧ bytesOf u s = some ((l.drop i).take (j - i)) := by
  unfold bytesOf at h
  simp only [Option.bind_eq_some_iff] at h
  obtain ⟨cs, h1, h2⟩ := h
  have hcs := ubs_some h2
  obtain ⟨a, len, cap, rfl, h3⟩ := cellsOf_len h1
  have hl : len = l.length := by rw [hcs, bv_length, Nat.mul_one] at h3; exact h3.symm
  subst hl
  obtain ⟨u, h4, h5⟩ := cells_slice h1 hlo hhi hij hj hmx
  refine ⟨u, h4, ?_⟩
  unfold bytesOf
  rw [h5, Nat.mul_one, Nat.mul_one, hcs, ← bv_drop, ← bv_take]
  exact ubs_bv _

/-! ### Rows of one's own -/
/-- of the blocks below N nothing has changed -/
def Ext (N : Nat) (s s' : St) : Prop := s.heap.length ≤ s'.heap.length ∧ ∀ b, b < N → s'.heap[b]? = s.heap[b]?
theorem Ext.refl (N : Nat) (s : St) : Ext N s s := ⟨Nat.le_refl _, fun _ _ => rfl⟩
theorem Ext.trans {N : Nat} {s t u : St} (h : Ext N s t) (g : Ext N t u) : Ext N s u := ⟨Nat.le_trans h.1 g.1, fun b hb => (g.2 b hb).trans (h.2 b hb)⟩
theorem Ext.push (N : Nat) {s : St} (hN : N ≤ s.heap.length) (B : Blk) : Ext N s (s.push B) := ⟨by simp [St.push], fun b hb => by
  simp only [St.push]; rw [List.getElem?_append_left (by omega)]⟩
theorem push_get {s : St} {B : Blk} : (s.push B).heap[s.heap.length]? = some B := by simp [St.push]
theorem push_old {s : St} {B : Blk} {b : Nat} (h : b < s.heap.length) : (s.push B).heap[b]? = s.heap[b]? := by
  simp only [St.push]; rw [List.getElem?_append_left h]
theorem push_len {s : St} {B : Blk} : (s.push B).heap.length = s.heap.length + 1 := by simp [St.push]
theorem Ext.readRow {N : Nat} {s s' : St} (h : Ext N s s') {b : Nat} (hb : b < N) : readRow s' b = readRow s b := by unfold Ab.readRow; rw [h.2 b hb]
theorem readRow_lt {s : St} {b : Nat} {cs : List Value} (h : readRow s b = some cs) : b < s.heap.length := by
  unfold readRow at h
  rcases Nat.lt_or_ge b s.heap.length with hh | hh
  · exact hh
  · rw [List.getElem?_eq_none hh] at h; cases h
theorem Ext.cells {s s' : St} (h : Ext s.heap.length s s') {n : Nat} {v : Value} {cs : List Value} (hv : cellsOf n v s = some cs) : cellsOf n v s' = some cs := by
  unfold cellsOf at hv ⊢
  split at hv
  · exact hv
  · split at hv
    case isFalse => cases hv
    rename_i hlc
    rw [if_pos hlc]
    unfold readN at hv ⊢
    cases hr : Ab.readRow s _ with
    | none => rw [hr] at hv; cases hv
    | some row => rw [h.readRow (readRow_lt hr)]; exact hv
  · cases hv
theorem Ext.bytes {s s' : St} (h : Ext s.heap.length s s') {v : Value} {l : List UInt8} (hv : bytesOf v s = some l) : bytesOf v s' = some l := by
  unfold bytesOf at hv ⊢
  simp only [Option.bind_eq_some_iff] at hv ⊢
  obtain ⟨cs, h1, h2⟩ := hv
  exact ⟨cs, h.cells h1, h2⟩
theorem Ext.less {N M : Nat} {s s' : St} (h : Ext N s s') (hM : M ≤ N) : Ext M s s' := ⟨h.1, fun b hb => h.2 b (by omega)⟩

/-- a slice of a row of its own, from block N on; n: an element's cells -/
def Own (N n : Nat) (s : St) (v : Value) (cells : List Value) : Prop :=
  (v = .slice none 0 0 ∧ cells = []) ∨ ∃ b len, v = .slice (some ⟨b, 0, none⟩) len len ∧ N ≤ b ∧ s.heap[b]? = some (.row n cells .act) ∧ cells.length = len * n ∧ 0 < len
theorem Own.nil (N n : Nat) (s : St) : Own N n s (.slice none 0 0) [] := .inl ⟨rfl, rfl⟩
theorem Own.cells {N n : Nat} {s : St} {v : Value} {cells : List Value} (h : Own N n s v cells) : cellsOf n v s = some cells := by
  rcases h with ⟨rfl, rfl⟩ | ⟨b, len, rfl, _, h2, h3, h4⟩
  · rfl
  · simp only [cellsOf, Nat.le_refl, if_true, readN, Ab.readRow, h2, Option.bind_some]
    rw [if_pos (by omega), List.drop_zero, ← h3, List.take_length]
theorem Own.bytes {N : Nat} {s : St} {v : Value} {l : List UInt8} (h : Own N 1 s v (bv l)) : bytesOf v s = some l := by
  unfold bytesOf
  rw [h.cells]
  exact ubs_bv l
theorem elems_of {n : Nat} {y : Value} {s : St} {cs : List Value} (h : cellsOf n y s = some cs) : elemsOf n y s = some cs := by
  unfold cellsOf at h
  split at h
  · exact h
  · split at h
    case isFalse => cases h
    exact h
  · cases h

/-- something is appended to a row of one's own -/
theorem own_appendR {N n w : Nat} {s : St} {x y : Value} {cells new : List Value} (h : Own N n s x cells) (hN : N ≤ s.heap.length) (hw : 0 < w) (hn : 0 < n) {m : Nat} (hm : lenV y = some m) (hnew : elemsOf n y s = some new) (hlen : new.length = m * n) (hb : ∀ q, q * n = cells.length + new.length → roomA q w) :
    ∃ v' s', aappend n w x y s = some (v', s') ∧ Own N n s' v' (cells ++ new) ∧ Ext N s s' := by
  unfold aappend
  rw [if_pos hw, hm, hnew]
  simp only [Option.bind_some]
  rcases h with ⟨rfl, rfl⟩ | ⟨b, len, rfl, h1, h2, h3, h4⟩
  · simp only
    have hb2 : roomA m w := hb m (by simp [hlen])
    rw [if_pos hb2]
    by_cases hm0 : m = 0
    · subst hm0
      have : new = [] := by simpa using hlen
      subst this
      exact ⟨_, _, by rw [if_pos rfl], .inl ⟨rfl, rfl⟩, .refl _ _⟩
    · rw [if_neg hm0]
      refine ⟨_, _, rfl, .inr ⟨s.heap.length, m, rfl, hN, by simpa using push_get, by simpa using hlen, by omega⟩, .push N hN _⟩
  · have hb2 : roomA (len + m) w := hb _ (by rw [Nat.add_mul, h3, hlen])
    simp only
    rw [if_pos hb2]
    by_cases hm0 : m = 0
    · subst hm0
      have : new = [] := by simpa using hlen
      subst this
      refine ⟨_, _, by rw [if_pos (by omega), if_pos rfl], .inr ⟨b, len, rfl, h1, by simpa using h2, by simpa using h3, h4⟩, .refl _ _⟩
    · rw [if_neg (by omega), h2]
      simp only
      rw [if_pos ⟨trivial, trivial, h3.symm⟩]
      have hbl : b < s.heap.length := (List.getElem?_eq_some_iff.1 h2).1
      refine ⟨_, _, rfl, .inr ⟨s.heap.length, len + m, rfl, hN, ?_, by rw [List.length_append, h3, hlen, Nat.add_mul], by omega⟩, ⟨by simp [St.push, St.putB], fun c hc => ?_⟩⟩
      · have : s.heap.length = (s.putB b (.row n cells .dead)).heap.length := by simp [St.putB]
        rw [this]
        exact push_get
      · simp only [St.push, St.putB]
        rw [List.getElem?_append_left (by simp; omega), List.getElem?_set_ne (by omega)]

theorem own_append {N n w : Nat} {s : St} {x y : Value} {cells new : List Value} (h : Own N n s x cells) (hN : N ≤ s.heap.length) (hw : 0 < w) (hn : 0 < n) {m : Nat} (hm : lenV y = some m) (hnew : elemsOf n y s = some new) (hlen : new.length = m * n) (hb : (cells.length + new.length) * w ≤ 140737488355328 * n) :
    ∃ v' s', aappend n w x y s = some (v', s') ∧ Own N n s' v' (cells ++ new) ∧ Ext N s s' :=
  own_appendR h hN hw hn hm hnew hlen fun q hq => .inl (by
    rw [← hq, Nat.mul_right_comm] at hb
    exact Nat.le_of_mul_le_mul_right hb hn)

/-- one more element -/
theorem own_add {N n w : Nat} {s : St} {x : Value} {cells z : List Value} {v : Value} (h : Own N n s x cells) (hN : N ≤ s.heap.length) (hw : 0 < w) (hn : 0 < n) (hn2 : n ≤ 16777216) (hz : z.length = n) (hzl : z.all isLeaf = true) (hv : (cellsV v).length = n) (hvl : (cellsV v).all isLeaf = true)
    (hb : (cells.length + n) * w ≤ 140737488355328 * n) : ∃ r, abuildSl n z 1 [(0, v)] s = some r ∧ ∃ v' s', aappend n w x r.1 r.2 = some (v', s') ∧ Own N n s' v' (cells ++ cellsV v) ∧ Ext N s s' := by
  have h1 : abuildSl n z 1 [(0, v)] s = some (.slice (some ⟨s.heap.length, 0, none⟩) 1 1, s.push (.row n (cellsV v) .act)) := by
    have hrep : repCells z 1 = z := by simp [repCells]
    have hput : putCells z 0 (cellsV v) = cellsV v := by
      simp [putCells, hv, hz]
    unfold abuildSl
    rw [if_pos ⟨by omega, hz, hzl⟩]
    simp only [hrep, afill, placeA, Nat.zero_mul]
    rw [if_pos ⟨hv, by omega, hvl⟩, hput]
    rfl
  refine ⟨_, h1, ?_⟩
  have hE : Ext N s (s.push (.row n (cellsV v) .act)) := .push N hN _
  have hcells : cellsOf n (.slice (some ⟨s.heap.length, 0, none⟩) 1 1) (s.push (.row n (cellsV v) .act)) = some (cellsV v) := by
    simp only [cellsOf, Nat.le_refl, if_true, readN, Ab.readRow, push_get, Option.bind_some]
    rw [if_pos (by omega), List.drop_zero, Nat.one_mul, ← hv, List.take_length]
  have hO : Own N n (s.push (.row n (cellsV v) .act)) x cells := by
    rcases h with h | ⟨b, len, e1, e2, e3, e4, e5⟩
    · exact .inl h
    · exact .inr ⟨b, len, e1, e2, by rw [push_old (List.getElem?_eq_some_iff.1 e3).1]; exact e3, e4, e5⟩
  obtain ⟨v', s', g1, g2, g3⟩ := own_append (w := w) hO (by rw [push_len]; omega) hw hn (y := .slice (some ⟨s.heap.length, 0, none⟩) 1 1) (m := 1) rfl (elems_of hcells) (by omega) (by rw [hv]; exact hb)
  exact ⟨v', s', g1, g2, hE.trans g3⟩

/-! ### Arrays in the frame -/
theorem arr_ix {len : Nat} {k : IntKind} {i : Nat} (h : i < len) : aindexA len 1 lptr (.int k (i : Int)) = some (.pointer (some ⟨0, i, none⟩)) := by
  simp [aindexA, lptr, h]
theorem arr_ld {i n : Nat} {cs : List Value} {v : Value} (h : cs[i]? = some v) : lload false n (.pointer (some ⟨0, i, none⟩)) (.agg cs.toArray) = some v := by
  simp [lload, h]
theorem arr_st {i : Nat} {cs : List Value} {v : Value} (hi : i < cs.length) (hv : isLeaf v = true) (hc : cellsV v = [v]) : lstore 1 (.pointer (some ⟨0, i, none⟩)) v (.agg cs.toArray) = some (.agg (cs.set i v).toArray) := by
  have h : putCells cs i [v] = cs.set i v := by
    unfold putCells
    rw [List.set_eq_take_append_cons_drop, if_pos hi]
    simp
  unfold lstore
  simp only [hc, List.length_singleton, List.all_cons, hv, List.all_nil, Bool.and_self, true_and]
  rw [if_pos (by simp; omega)]
  simp [h]
theorem arr_all {n : Nat} {cs : List Value} (h : cs.length = n) : lload true n lptr (.agg cs.toArray) = some (.agg cs.toArray) := by
  subst h
  unfold lload lptr
  simp
theorem arr_put {n : Nat} {cs ds : List Value} (h : cs.length = n) (g : ds.length = n) (hl : ds.all isLeaf = true) : lstore n lptr (.agg ds.toArray) (.agg cs.toArray) = some (.agg ds.toArray) := by
  subst h
  have h2 : putCells cs 0 ds = ds := by simp [putCells, g]
  have h3 : cellsV (.agg ds.toArray) = ds := by simp [cellsV]
  unfold lstore lptr
  simp only [h3]
  rw [if_pos ⟨g, hl, by simp⟩]
  simp [h2]
theorem arr_box {cs : List Value} (h : cs.all isLeaf = true) : lbox (.agg cs.toArray) = some (.agg cs.toArray) := by
  have h3 : cellsV (.agg cs.toArray) = cs := by simp [cellsV]
  unfold lbox
  rw [h3, if_pos h]

/-! ### Functions that are known -/
abbrev Sum := List Value → St → Option (Value × St)
def libL : List (FuncId × Sum) → Lib
  | [], _ => none
  | (g, h) :: l, f => if f = g then some h else libL l f
theorem libOk_nil (P : Program) : LibOk P (libL []) := fun _ _ h => by cases h
theorem libOk_cons {P : Program} {hints : Hints} (hprog : progW P = true) {l : List (FuncId × Sum)} (hl : LibOk P (libL l)) {f : FuncId} {g : Sum} (hok : funcOk P f = true) (hg : SumOk P (libL l) hints f g) : LibOk P (libL ((f, g) :: l)) :=
  lib_add hprog hl hok hg fun _ => rfl
theorem known {P : Program} {lib : Lib} {hints : Hints} {f : FuncId} {g : Sum} (h : lib f = some g) {xs : List Value} {s : St} : run P lib hints f xs s = g xs s := run_lib h

/-! ### Functions whose values are plain, or bytes of their own -/
def newBytes (l : List UInt8) (s : St) : Value × St := (.slice (some ⟨s.heap.length, 0, none⟩) l.length l.length, s.push (.row 1 (bv l) .act))
def plainV : Value → Bool
  | .tuple a => a.toList.all constOk
  | v => constOk v
theorem SumOk.plain {P : Program} {lib : Lib} {hints : Hints} {f : FuncId} {G : List Value → St → Option Value} (h : ∀ args s v, G args s = some v → plainV v = true ∧ ∃ t0, run P lib hints f args (frzS s) = some (v, t0)) :
    SumOk P lib hints f fun args s => (G args s).map fun v => (v, s) := by
  intro args s v t hg
  simp only [Option.map_eq_some_iff] at hg
  obtain ⟨u, hu, e⟩ := hg
  cases e
  obtain ⟨h1, t0, h2⟩ := h args s v hu
  refine ⟨[], v, t0, fun _ => 0, by simp, h2, .pure ?_⟩
  cases v with
  | tuple a =>
    have := Vw.tup (ρ := renum s.heap.length fun _ => 0) (D := s.heap.length) (l := a.toList) h1
    simpa using this
  | _ => exact Vw.const h1
theorem SumOk.bytes {P : Program} {lib : Lib} {hints : Hints} {f : FuncId} {G : List Value → St → Option (List UInt8)} (h : ∀ args s l, G args s = some l → l ≠ [] ∧ ∃ v0 t0, run P lib hints f args (frzS s) = some (v0, t0) ∧ Own s.heap.length 1 t0 v0 (bv l)) :
    SumOk P lib hints f fun args s => (G args s).map fun l => newBytes l s := by
  intro args s v t hg
  simp only [Option.map_eq_some_iff] at hg
  obtain ⟨l, hl, e⟩ := hg
  cases e
  obtain ⟨hne, v0, t0, h2, h3⟩ := h args s l hl
  rcases h3 with ⟨_, h3⟩ | ⟨b, len, rfl, h4, h5, h6, h7⟩
  · exact absurd (bv_inj (m := []) h3) hne
  · rw [bv_length, Nat.mul_one] at h6
    subst h6
    exact ⟨_, _, t0, _, rfl, h2, .row h4 h5 (fun _ _ h => h) bv_leaf (Vw.slice (Nat.le_refl _) (Nat.le_refl _))⟩
theorem quiet_new {l : List UInt8} {s : St} : quietR s (newBytes l (frzS s)) = newBytes l s := by
  have := frzS_len s
  simp [quietR, newBytes, St.push, this]
theorem quiet_new2 {l : List UInt8} {s : St} : quietR s ((newBytes l (frzS s)).1, (newBytes l (frzS s)).2) = newBytes l s := quiet_new
theorem newBytes_bytes {l : List UInt8} {s : St} : bytesOf (newBytes l s).1 (newBytes l s).2 = some l := by
  unfold bytesOf newBytes
  simp only [cellsOf, Nat.le_refl, if_true, readN, Ab.readRow, push_get, Option.bind_some, Nat.mul_one, Nat.zero_add, bv_length]
  rw [List.drop_zero, ← bv_length, List.take_length]
  exact ubs_bv l
theorem newBytes_own {N : Nat} {l : List UInt8} {s : St} (h : N ≤ s.heap.length) (hl : l ≠ []) : Own N 1 (newBytes l s).2 (newBytes l s).1 (bv l) :=
  .inr ⟨s.heap.length, l.length, rfl, h, push_get, by rw [bv_length, Nat.mul_one], List.length_pos_iff.2 hl⟩
theorem newBytes_ext {N : Nat} {l : List UInt8} {s : St} (h : N ≤ s.heap.length) : Ext N s (newBytes l s).2 := .push N h _

end Go.Proofs.Ytamaapapaiopiaa.Ab
