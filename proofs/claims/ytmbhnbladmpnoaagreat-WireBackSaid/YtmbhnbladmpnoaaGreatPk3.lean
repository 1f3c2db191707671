/- Texts of this proof, packed: BLaw, BList, BArgL, BNest, Lib0, BOrd, BRange. -/
import Derived.Test.YtmbhnbladmpnoaaGreatPk2
import Derived.Laws.Strings
import Derived.ChangeArms
import Derived.DataReads
import Derived.SizedLaws
import Derived.Test.YtmbhnbladmpnoaaGreatProg
import Derived.KernelRfl
import Derived.RangeFuncLeaves
import Derived.RangeFuncKeeps
set_option linter.unusedVariables false
set_option linter.unusedSimpArgs false
set_option linter.unusedSectionVars false
/- What the abstract machine's operations come to,at values of a Bq shape. -/
namespace Go.Proofs.YtmbhnbladmpnoaaGreat.Ab
open Go
theorem BP {a : Value} {l : List Value} : getL (a :: l) 0 = a:=Eq.trans rfl (Eq.refl _)
theorem CJ {a b : Value} {l : List Value} : getL (a :: b :: l) 1 = b:=Eq.trans rfl (Eq.refl _)
theorem Dq {a b c : Value} {l : List Value} : getL (a :: b :: c :: l) 2 = c:=Eq.trans rfl (Eq.refl _)
theorem DO {a b c d : Value} {l : List Value} : getL (a :: b :: c :: d :: l) 3 = d:=Eq.trans rfl (Eq.refl _)
theorem Kp {a b c d e : Value} {l : List Value} : getL (a :: b :: c :: d :: e :: l) 4 = e:=Eq.trans rfl (Eq.refl _)
theorem Mf {a b c d e f : Value} {l : List Value} : getL (a :: b :: c :: d :: e :: f :: l) 5 = f:=Eq.trans rfl (Eq.refl _)
theorem Yl {a b c d e f g : Value} {l : List Value} : getL (a :: b :: c :: d :: e :: f :: g :: l) 6 = g:=Eq.trans rfl (Eq.refl _)
theorem Ym {a b c d e f g h : Value} {l : List Value} : getL (a :: b :: c :: d :: e :: f :: g :: h :: l) 7 = h:=Eq.trans rfl (Eq.refl _)
theorem Zb4 {a b c d e f g h i : Value} {l : List Value} : getL (a :: b :: c :: d :: e :: f :: g :: h :: i :: l) 8 = i:=Eq.trans rfl (Eq.refl _)
theorem Zb5 {a b c d e f g h i j : Value} {l : List Value} : getL (a :: b :: c :: d :: e :: f :: g :: h :: i :: j :: l) 9 = j:=Eq.trans rfl (Eq.refl _)
theorem Yn {a b c d e f g h i j k : Value} {l : List Value} : getL (a :: b :: c :: d :: e :: f :: g :: h :: i :: j :: k :: l) 10 = k:=Eq.trans rfl (Eq.refl _)
theorem Yo {a b c d e f g h i j k m : Value} {l : List Value} : getL (a :: b :: c :: d :: e :: f :: g :: h :: i :: j :: k :: m :: l) 11 = m:=Eq.trans rfl (Eq.refl _)
theorem Yp {a b c d e f g h i j k m n : Value} {l : List Value} : getL (a :: b :: c :: d :: e :: f :: g :: h :: i :: j :: k :: m :: n :: l) 12 = n:=Eq.trans rfl (Eq.refl _)
theorem VX {α β : Type} {a : α} {f : α→Option β} : (some a).bind f = f a:=Eq.trans (Option.bind_some a f) (Eq.refl _)
theorem Zet {α β : Type} {a : α} {f : α→β} : (some a).map f = some (f a):=Eq.trans rfl (Eq.refl _)
section
variable {β : Type}
theorem C2 {x y : Option β} : Ax (.bool true) x y = x:=Eq.trans rfl (Eq.refl _)
theorem EI {x y : Option β} : Ax (.bool false) x y = y:=Eq.trans rfl (Eq.refl _)
theorem Ti {x y : Option β} : Ai (.bool true) true x y = x:=Eq.trans rfl (Eq.refl _)
theorem C3 {x y : Option β} : Ai (.bool false) false x y = x:=Eq.trans rfl (Eq.refl _)
theorem Et {x y : Option β} : Ai (.bool true) false x y = y:=Eq.trans rfl (Eq.refl _)
theorem Tj {x y : Option β} : Ai (.bool false) true x y = y:=Eq.trans rfl (Eq.refl _)
theorem VY {w : Bool} {x y : Option β} : Ai undef w x y = y:=Eq.trans rfl (Eq.refl _)
theorem H2 {a b : Value} : AJ (.bool true) a b = some a:=Eq.trans rfl (Eq.refl _)
theorem Fq {a b : Value} : AJ (.bool false) a b = some b:=Eq.trans rfl (Eq.refl _)
theorem VZ {j : Nat} {l : List (Nat × Option β)} {r : Option β} : exV (.exit j) l r = PP j l:=Eq.trans rfl (Eq.refl _)
theorem Yq {l : List (Nat × Option β)} {r : Option β} : exV .ret l r = r:=Eq.trans rfl (Eq.refl _)
theorem Lp {j : Nat} {x : Option β} {l : List (Nat × Option β)} : PP j ((j,x) :: l) = x:=if_pos rfl
theorem BY {F : List Value→St→Option β} {X : List Value} {s : St} : Dh F X s = F X s:=Eq.trans rfl (Eq.refl _)
theorem QM {X : List Value} {s : St} {k : List Value→St→Res} : seqA (some (.normal,X,s)) k = k X s:=Eq.trans rfl (Eq.refl _)
theorem Zb6 {j : Nat} {X : List Value} {s : St} {k : List Value→St→Res} : seqA (some (.exit j,X,s)) k = some (.exit j,X,s):=Eq.trans rfl (Eq.refl _)
theorem QN {X : List Value} {s : St} {k : List Value→St→Res} : seqA (some (.ret,X,s)) k = some (.ret,X,s):=Eq.trans rfl (Eq.refl _)
end
theorem Tk {β : Type} {a b : Bool} {s : St} {K : List Value × St→Value→Option β} : ((Ai (.bool a) true (some ([.bool b],s)) (some ([undef],s))).bind fun q=>(AJ (.bool a) (getL q.1 0) (.bool false)).bind (K q)) = K ([if a = true then .bool b else undef],s) (.bool (a && b)):=by
  cases a <;> rfl
theorem V0 {β : Type} {a b : Bool} {s : St} {K : List Value × St→Value→Option β} : ((Ai (.bool a) false (some ([.bool b],s)) (some ([undef],s))).bind fun q=>(AJ (.bool a) (.bool true) (getL q.1 0)).bind (K q)) = K ([if a = true then undef else .bool b],s) (.bool (a || b)):=by
  cases a <;> rfl
section
variable {P : Program} {t : TypeId} {ox oy : Operand} {k : IntKind} {a b : Int}
theorem W7 : abin P .add t ox oy (.int k a) (.int k b) = some (.int k (k.wrap (a + b))):=by simp [abin,DK]
theorem W8 : abin P .sub t ox oy (.int k a) (.int k b) = some (.int k (k.wrap (a - b))):=by simp [abin,DK]
theorem Zeu : abin P .mul t ox oy (.int k a) (.int k b) = some (.int k (k.wrap (a * b))):=by simp [abin,DK]
theorem Zf9 (h : b ≠ 0) : abin P .quo t ox oy (.int k a) (.int k b) = some (.int k (k.wrap (a.tdiv b))):=by simp [abin,DK,h]
theorem ZcR (h : b ≠ 0) : abin P .rem t ox oy (.int k a) (.int k b) = some (.int k (a.tmod b)):=by simp [abin,DK,h]
theorem ZcS : abin P .eql t ox oy (.int k a) (.int k b) = some (.bool (a == b)):=by simp [abin,DK]
theorem ME : abin P .neq t ox oy (.int k a) (.int k b) = some (.bool (a != b)):=by simp [abin,DK]
theorem PS : abin P .lss t ox oy (.int k a) (.int k b) = some (.bool (decide (a < b))):=by simp [abin,DK]
theorem Zev : abin P .leq t ox oy (.int k a) (.int k b) = some (.bool (decide (a ≤ b))):=by simp [abin,DK]
theorem EJ : abin P .gtr t ox oy (.int k a) (.int k b) = some (.bool (decide (a > b))):=by simp [abin,DK]
theorem Zew : abin P .geq t ox oy (.int k a) (.int k b) = some (.bool (decide (a ≥ b))):=by simp [abin,DK]
theorem Mg {k2 : IntKind} : AM k2 (.int k a) = some (.int k2 (k2.wrap a)):=Eq.trans rfl (Eq.refl _)
theorem Zex {c : Bool} : aun .not (.bool c) = some (.bool !c):=Eq.trans rfl (Eq.refl _)
theorem ZcT : aun .neg (.int k a) = some (.int k (k.wrap (0 - a))):=Eq.trans rfl (Eq.refl _)
end
theorem Em {n : Int} (h0 : 0 ≤ n) (h : n < 18446744073709551616) : IntKind.wrap .u64 n = n:=by simp [IntKind.wrap,IntKind.signed,IntKind.bits]; omega
theorem wrap_i64 {n : Int} (h0 : -9223372036854775808 ≤ n) (h : n < 9223372036854775808) : IntKind.wrap .i64 n = n:=by simp [IntKind.wrap,IntKind.signed,IntKind.bits]; omega
theorem Kq {n : Nat} : IntKind.wrap .u8 (n : Int) = ((n % 256 : Nat) : Int):=by simp [IntKind.wrap,IntKind.signed,IntKind.bits]
theorem RE {n : Nat} : IntKind.wrap .u32 (n : Int) = ((n % 4294967296 : Nat) : Int):=by simp [IntKind.wrap,IntKind.signed,IntKind.bits]
theorem RF {n : Nat} : IntKind.wrap .u64 (n : Int) = ((n % 18446744073709551616 : Nat) : Int):=by simp [IntKind.wrap,IntKind.signed,IntKind.bits]
def UQ : IntKind→Bool
  | .u8 | .u16 | .u32 | .u64=>true
  | _=>false
theorem Tl {k : IntKind} (hk : UQ k = true) {n : Nat} (h : n < 2 ^ k.bits) : k.wrap (n : Int) = (n : Int):=by
  have h2 : ((n : Int)) < ((2 ^ k.bits : Nat) : Int):=by exact_mod_cast h
  cases k <;> simp [UQ] at hk <;> simp [IntKind.wrap,IntKind.signed,IntKind.bits] at h2 ⊢ <;> omega
theorem Gy {w n : Nat} : BitVec.ofInt w (n : Int) = BitVec.ofNat w n:=by
  apply BitVec.eq_of_toNat_eq
  simp [BitVec.toNat_ofInt]
section
variable {P : Program} {t : TypeId} {ox oy : Operand} {k : IntKind} {a b : Nat}
theorem Zey (hk : UQ k = true) (ha : a < 2 ^ k.bits) (hb : b < 2 ^ k.bits) : abin P .and t ox oy (.int k a) (.int k b) = some (.int k ((a &&& b : Nat) : Int)):=by
  have : (BitVec.ofInt k.bits (a : Int) &&& BitVec.ofInt k.bits (b : Int)).toNat = a &&& b:=by
    rw [Gy,Gy,BitVec.toNat_and,BitVec.toNat_ofNat,BitVec.toNat_ofNat,Nat.mod_eq_of_lt ha,Nat.mod_eq_of_lt hb]
  simp only [abin,DK,if_true,this]
  rw [Tl hk (Nat.and_lt_two_pow _ hb)]
theorem u_or (hk : UQ k = true) (ha : a < 2 ^ k.bits) (hb : b < 2 ^ k.bits) : abin P .or t ox oy (.int k a) (.int k b) = some (.int k ((a ||| b : Nat) : Int)):=by
  have : (BitVec.ofInt k.bits (a : Int) ||| BitVec.ofInt k.bits (b : Int)).toNat = a ||| b:=by
    rw [Gy,Gy,BitVec.toNat_or,BitVec.toNat_ofNat,BitVec.toNat_ofNat,Nat.mod_eq_of_lt ha,Nat.mod_eq_of_lt hb]
  simp only [abin,DK,if_true,this]
  rw [Tl hk (Nat.or_lt_two_pow ha hb)]
theorem UR (hk : UQ k = true) (ha : a < 2 ^ k.bits) (hb : b < 2 ^ k.bits) : abin P .xor t ox oy (.int k a) (.int k b) = some (.int k ((a ^^^ b : Nat) : Int)):=by
  have : (BitVec.ofInt k.bits (a : Int) ^^^ BitVec.ofInt k.bits (b : Int)).toNat = a ^^^ b:=by
    rw [Gy,Gy,BitVec.toNat_xor,BitVec.toNat_ofNat,BitVec.toNat_ofNat,Nat.mod_eq_of_lt ha,Nat.mod_eq_of_lt hb]
  simp only [abin,DK,if_true,this]
  rw [Tl hk (Nat.xor_lt_two_pow ha hb)]
theorem W9 (ha : a < 2 ^ k.bits) {k2 : IntKind} : abin P .shr t ox oy (.int k a) (.int k2 b) = some (.int k ((a / 2 ^ b : Nat) : Int)):=by
  have hb : ¬ ((b : Int) < 0):=by omega
  simp only [abin,DK,if_neg hb]
  congr 2
  rw [Int.toNat_natCast,Int.fdiv_eq_ediv_of_nonneg _ (by exact_mod_cast Nat.zero_le _)]
  have : (2 : Int) ^ (min b k.bits) = ((2 ^ (min b k.bits) : Nat) : Int):=by push_cast; rfl
  rw [this]
  rw [← Int.natCast_ediv]
  congr 1
  by_cases h : b ≤ k.bits
  · rw [Nat.min_eq_left h]
  · rw [Nat.min_eq_right (by omega),Nat.div_eq_of_lt ha,Nat.div_eq_of_lt]
    exact Nat.lt_of_lt_of_le ha (Nat.pow_le_pow_right (by omega) (by omega))
theorem ZcU (hk : UQ k = true) {k2 : IntKind} : abin P .shl t ox oy (.int k a) (.int k2 b) = some (.int k ((a * 2 ^ b % 2 ^ k.bits : Nat) : Int)):=by
  have hb : ¬ ((b : Int) < 0):=by omega
  simp only [abin,DK,if_neg hb]
  congr 2
  rw [Int.toNat_natCast]
  have hp : (a : Int) * 2 ^ (min b k.bits) = ((a * 2 ^ (min b k.bits) : Nat) : Int):=by push_cast; rfl
  rw [hp]
  have hw : ∀ n : Nat,k.wrap (n : Int) = ((n % 2 ^ k.bits : Nat) : Int):=fun n=>by
    cases k <;> simp [UQ] at hk <;> simp [IntKind.wrap,IntKind.signed,IntKind.bits]
  rw [hw]
  congr 1
  by_cases h : b ≤ k.bits
  · rw [Nat.min_eq_left h]
  · rw [Nat.min_eq_right (by omega)]
    have h1 : a * 2 ^ k.bits % 2 ^ k.bits = 0:=Nat.mul_mod_left _ _
    have h2 : a * 2 ^ b % 2 ^ k.bits = 0:=by
      have : 2 ^ b = 2 ^ (b - k.bits) * 2 ^ k.bits:=by rw [← Nat.pow_add]; congr 1; omega
      rw [this,← Nat.mul_assoc]
      exact Nat.mul_mod_left _ _
    rw [h1,h2]
end
def bv (l : List UInt8) : List Value:=l.map fun b=>.int .u8 ((b.toNat : Nat) : Int)
theorem A3 {l : List UInt8} : (bv l).length = l.length:=by simp [bv]
theorem Zez {l : List UInt8} {i : Nat} : (bv l)[i]? = (l[i]?).map fun b=>.int .u8 ((b.toNat : Nat) : Int):=by simp [bv]
theorem CK {l m : List UInt8} : bv (l ++ m) = bv l ++ bv m:=by simp [bv]
theorem Yr {l : List UInt8} {n : Nat} : bv (l.take n) = (bv l).take n:=by simp [bv]
theorem Ys {l : List UInt8} {n : Nat} : bv (l.drop n) = (bv l).drop n:=by simp [bv]
theorem US {l : List UInt8} : (bv l).all AX = true:=by simp [bv,AX]
theorem Tm {t : ByteArray} : DL t = bv t.data.toList:=rfl
theorem V1 {l m : List UInt8} (h : bv l = bv m) : l = m:=by
  induction l generalizing m with
  | nil=>cases m with
    | nil=>rfl
    | cons=>simp [bv] at h
  | cons x l ih=>cases m with
    | nil=>simp [bv] at h
    | cons y m =>
      simp only [bv,List.map_cons,List.cons.injEq,Value.int.injEq,true_and] at h
      have h1 : x.toNat = y.toNat:=by exact_mod_cast h.1
      rw [UInt8.toNat_inj.1 h1,ih (m:=m) h.2]
def ubs : List Value→Option (List UInt8)
  | []=>some []
  | .int .u8 n :: l=>if 0 ≤ n∧n < 256 then (ubs l).map fun r=>UInt8.ofNat n.toNat :: r else none
  | _=>none
theorem QO : ∀ (l : List UInt8),ubs (bv l) = some l
  | []=>rfl
  | x :: l=>by
    have h:=x.toNat_lt
    simp only [bv,List.map_cons,ubs]
    rw [if_pos (by omega)]
    have:=QO l
    unfold bv at this
    rw [this]
    simp
theorem IB : ∀ {cs : List Value} {l : List UInt8},ubs cs = some l→cs = bv l
  | [],l,h=>by simp [ubs] at h; subst h; rfl
  | v :: cs,l,h=>by
    unfold ubs at h
    split at h
    · rename_i heq; cases heq
    · rename_i n l' heq
      cases heq
      split at h
      · rename_i hn
        simp only [Option.map_eq_some_iff] at h
        obtain ⟨r,hr,rfl⟩:=h
        rw [IB hr]
        simp only [bv,List.map_cons,List.cons.injEq,Value.int.injEq,true_and,and_true]
        have : (UInt8.ofNat n.toNat).toNat = n.toNat:=by simp; omega
        rw [this]; omega
      · cases h
    · cases h
theorem QP : ∀ (l : List UInt8),BC (bv l) = some l
  | []=>rfl
  | x :: l=>by
    have h:=x.toNat_lt
    simp only [bv,List.map_cons,BC]
    have:=QP l
    unfold bv at this
    rw [this]
    simp
def sv (l : List UInt8) : Value:=.string ⟨l.toArray⟩
theorem JG (t : ByteArray) : Value.string t = sv t.data.toList:=by simp [sv]
section
variable {P : Program} {t : TypeId} {ox oy : Operand} {a b : List UInt8}
theorem Zb7 : abin P .eql t ox oy (sv a) (sv b) = some (.bool (a == b)):=by simp [abin,NJ,sv]
theorem H3 : abin P .neq t ox oy (sv a) (sv b) = some (.bool (!(a == b))):=by simp [abin,NJ,sv]
theorem ZeA : abin P .geq t ox oy (sv a) (sv b) = some (.bool (!(Op.bytesLess a b))):=by simp [abin,NJ,sv]
end
theorem Ok {s : St} {a : List UInt8} : AG .string (sv a) s = some (.int .i64 ((a.length : Nat) : Int)):=by simp [AG,Re,alen,sv,ByteArray.size]
def cellsOf (n : Nat) (v : Value) (s : St) : Option (List Value) :=
  match v with
  | .slice none 0 0=>some []
  | .slice (some ⟨b,o,none⟩) len cap=>if len ≤ cap then readN s b o (len * n) else none
  | _=>none
def bytesOf (v : Value) (s : St) : Option (List UInt8):=(cellsOf 1 v s).bind ubs
theorem CD {s : St} {b : Nat} : readRow (frzS s) b = readRow s b:=by
  unfold readRow
  rw [G3]
  cases s.heap[b]? with
  | none=>rfl
  | some x=>cases x with
    | row n c st=>cases st <;> rfl
    | map=>rfl
theorem Yt {s : St} {b o n : Nat} : readN (frzS s) b o n = readN s b o n:=by unfold readN; rw [CD]
theorem JH {s : St} {n : Nat} {v : Value} : cellsOf n v (frzS s) = cellsOf n v s:=by
  unfold cellsOf
  split
  · rfl
  · rw [Yt]
  · rfl
theorem Bp {s : St} {v : Value} : bytesOf v (frzS s) = bytesOf v s:=by unfold bytesOf; rw [JH]
theorem Gz {s : St} {b o n : Nat} {cs : List Value} (h : readN s b o n = some cs) : ∃ row,readRow s b = some row∧o + n ≤ row.length∧cs = (row.drop o).take n:=by
  unfold readN at h
  simp only [Option.bind_eq_some_iff] at h
  obtain ⟨row,h1,h2⟩:=h
  split at h2
  · rename_i hle; cases h2; exact ⟨row,h1,hle,rfl⟩
  · cases h2
theorem Fs {s : St} {n : Nat} {v : Value} {cs : List Value} (h : cellsOf n v s = some cs) : ∃ a len cap,v = .slice a len cap∧cs.length = len * n:=by
  unfold cellsOf at h
  split at h
  · cases h; exact ⟨_,_,_,rfl,by simp⟩
  · split at h
    case isFalse=>cases h
    obtain ⟨row,_,h2,rfl⟩:=Gz h
    exact ⟨_,_,_,rfl,by simp; omega⟩
  · cases h
theorem ZeB {s : St} {a : Option Addr} {len cap : Nat} {e : TypeId} : AG (.slice e) (.slice a len cap) s = some (.int .i64 len):=rfl
theorem Zb8 {s : St} {t : ByteArray} : AG .string (.string t) s = some (.int .i64 t.size):=rfl
theorem AW {s : St} {v : Value} {l : List UInt8} (h : bytesOf v s = some l) {e : TypeId} {s2 : St} : AG (.slice e) v s2 = some (.int .i64 ((l.length : Nat) : Int)):=by
  unfold bytesOf at h
  simp only [Option.bind_eq_some_iff] at h
  obtain ⟨cs,h1,h2⟩:=h
  obtain ⟨a,len,cap,rfl,h3⟩:=Fs h1
  have:=IB h2
  rw [this,A3] at h3
  rw [ZeB,h3,Nat.mul_one]
theorem Ny {s : St} {n : Nat} {v : Value} {cs : List Value} (h : cellsOf n v s = some cs) (hn : 0 < n) {i : Nat} (hi : (i + 1) * n ≤ cs.length) {k : IntKind} :
    ∃ p,Az n v (.int k (i : Int)) = some p∧(∀ c,n = 1→cs[i]? = some c→Aj false 1 p s = some c)∧Aj true n p s = some (.agg ((cs.drop (i * n)).take n).toArray):=by
  unfold cellsOf at h
  split at h
  · cases h
    have : 0 < (i + 1) * n:=Nat.mul_pos (by omega) hn
    simp only [List.length_nil] at hi
    omega
  · rename_i b o len cap
    split at h
    case isFalse=>cases h
    obtain ⟨row,h1,h2,rfl⟩:=Gz h
    have hl : ((row.drop o).take (len * n)).length = len * n:=by simp; omega
    rw [hl] at hi
    have hlt : i < len:=by
      rcases Nat.lt_or_ge i len with hh | hh
      · exact hh
      · have:=Nat.mul_le_mul_right n hh; rw [Nat.add_mul] at hi; omega
    refine ⟨.pointer (some ⟨b,o + i * n,none⟩),?_,fun c hn1 hc=>?_,?_⟩
    · simp [Az,hlt]
    · subst hn1
      simp only [Aj,h1,Option.bind_some,Bool.false_eq_true,if_false]
      rw [List.getElem?_take_of_lt (by omega),List.getElem?_drop] at hc
      simpa using hc
    · simp only [Aj,if_true,readN,h1,Option.bind_some]
      have h3 : i * n + n ≤ len * n:=by rw [Nat.add_mul] at hi; omega
      rw [if_pos (by omega)]
      simp only [Option.map_some]
      congr 3
      rw [List.drop_take,List.drop_drop,List.take_take]
      congr 1
      omega
  · cases h
theorem CU {s : St} {v : Value} {l : List UInt8} (h : bytesOf v s = some l) {i : Nat} (hi : i < l.length) {k : IntKind} : ∃ p,Az 1 v (.int k (i : Int)) = some p∧Aj false 1 p s = some (.int .u8 ((l[i].toNat : Nat) : Int)):=by
  unfold bytesOf at h
  simp only [Option.bind_eq_some_iff] at h
  obtain ⟨cs,h1,h2⟩:=h
  have:=IB h2
  obtain ⟨p,h3,h4,_⟩:=Ny h1 (by omega) (i:=i) (by rw [this,A3]; omega) (k:=k)
  refine ⟨p,h3,h4 _ rfl ?_⟩
  rw [this,Zez,List.getElem?_eq_getElem hi]
  rfl
theorem GA {s : St} {v : Value} {l : List UInt8} (h : bytesOf v s = some l) : BE v s = some (.string ⟨l.toArray⟩):=by
  unfold bytesOf at h
  simp only [Option.bind_eq_some_iff] at h
  obtain ⟨cs,h1,h2⟩:=h
  have:=IB h2
  unfold cellsOf at h1
  split at h1
  · cases h1
    have : l = []:=by
      cases l with
      | nil=>rfl
      | cons=>simp [bv] at this
    subst this
    rfl
  · split at h1
    case isFalse=>cases h1
    simp only [BE]
    rw [Nat.mul_one] at h1
    rw [h1,this]
    simp [QP]
  · cases h1
theorem UT {s : St} {n : Nat} {a : Option Addr} {len cap : Nat} {cs : List Value} (h : cellsOf n (.slice a len cap) s = some cs) {lo hi mx : Option Value} {i j : Nat} (hlo : Bi 0 lo = some i) (hhi : Bi len hi = some j) (hij : i ≤ j) (hj : j ≤ len)
    (hmx : mx = none ∨ (hi.isSome = true∧∀ c,Bi c mx = some j)) : ∃ u,Bn n (.slice a len cap) lo hi mx = some u∧cellsOf n u s = some ((cs.drop (i * n)).take ((j - i) * n)):=by
  unfold cellsOf at h
  split at h
  · rename_i heq
    cases heq
    cases h
    obtain rfl : j = 0:=by omega
    obtain rfl : i = 0:=by omega
    refine ⟨.slice none 0 0,?_,by simp [cellsOf]⟩
    simp only [Bn,DT,hlo,hhi]
    rcases hmx with rfl | ⟨h1,h2⟩
    · simp [Bi,HO]
    · simp [h1,h2,HO]
  · rename_i b o len2 cap2 heq
    cases heq
    split at h
    case isFalse=>cases h
    rename_i hlc
    obtain ⟨row,h1,h2,rfl⟩:=Gz h
    have key : ∀ m,j ≤ m→m ≤ cap→(HO n (some ⟨b,o,none⟩) i (j - i) (m - i)) = some (.slice (some ⟨b,o + i * n,none⟩) (j - i) (m - i))∧cellsOf n (.slice (some ⟨b,o + i * n,none⟩) (j - i) (m - i)) s = some (((List.take (len * n) (List.drop o row)).drop (i * n)).take ((j - i) * n)):=by
      intro m hm1 hm2
      refine ⟨rfl,?_⟩
      simp only [cellsOf]
      rw [if_pos (by omega)]
      unfold readN
      rw [h1]
      simp only [Option.bind_some]
      have e1 : i * n + (j - i) * n = j * n:=by rw [← Nat.add_mul]; congr 1; omega
      have e2 : j * n ≤ len * n:=Nat.mul_le_mul_right _ hj
      rw [if_pos (by omega)]
      congr 1
      rw [List.drop_take,List.drop_drop,List.take_take]
      congr 1
      omega
    simp only [Bn,DT,hlo,hhi]
    rcases hmx with rfl | ⟨h3,h4⟩
    · obtain ⟨k1,k2⟩:=key cap (by omega) (Nat.le_refl _)
      refine ⟨_,?_,k2⟩
      simp only [Option.isNone_none,Bool.true_or,if_true,Bi,Option.bind_some]
      rw [if_pos ⟨hij,by omega,Nat.le_refl _⟩]
      exact k1
    · obtain ⟨k1,k2⟩:=key j (Nat.le_refl _) (by omega)
      refine ⟨_,?_,k2⟩
      simp only [h3,h4,Bool.or_true,if_true,Option.bind_some]
      rw [if_pos ⟨hij,Nat.le_refl _,by omega⟩]
      exact k1
  · cases h
theorem BH {s : St} {v : Value} {l : List UInt8} (h : bytesOf v s = some l) {lo hi mx : Option Value} {i j : Nat} (hlo : Bi 0 lo = some i) (hhi : Bi l.length hi = some j) (hij : i ≤ j) (hj : j ≤ l.length)
    (hmx : mx = none ∨ (hi.isSome = true∧∀ c,Bi c mx = some j)) : ∃ u,Bn 1 v lo hi mx = some u∧bytesOf u s = some ((l.drop i).take (j - i)):=by
  unfold bytesOf at h
  simp only [Option.bind_eq_some_iff] at h
  obtain ⟨cs,h1,h2⟩:=h
  have hcs:=IB h2
  obtain ⟨a,len,cap,rfl,h3⟩:=Fs h1
  have hl : len = l.length:=by rw [hcs,A3,Nat.mul_one] at h3; exact h3.symm
  subst hl
  obtain ⟨u,h4,h5⟩:=UT h1 hlo hhi hij hj hmx
  refine ⟨u,h4,?_⟩
  unfold bytesOf
  rw [h5,Nat.mul_one,Nat.mul_one,hcs,← Ys,← Yr]
  exact QO _
def Ext (N : Nat) (s s' : St) : Prop:=s.heap.length ≤ s'.heap.length∧∀ b,b < N→s'.heap[b]? = s.heap[b]?
theorem Ext.refl (N : Nat) (s : St) : Ext N s s:=⟨Nat.le_refl _,fun _ _=>rfl⟩
theorem Ext.trans {N : Nat} {s t u : St} (h : Ext N s t) (g : Ext N t u) : Ext N s u:=⟨Nat.le_trans h.1 g.1,fun b hb=>(g.2 b hb).trans (h.2 b hb)⟩
theorem Ext.push (N : Nat) {s : St} (hN : N ≤ s.heap.length) (B : Blk) : Ext N s (s.push B):=⟨by simp [St.push],fun b hb=>by
  simp only [St.push]; rw [List.getElem?_append_left (by omega)]⟩
theorem AC {s : St} {B : Blk} : (s.push B).heap[s.heap.length]? = some B:=by simp [St.push]
theorem Db {s : St} {B : Blk} {b : Nat} (h : b < s.heap.length) : (s.push B).heap[b]? = s.heap[b]?:=by
  simp only [St.push]; rw [List.getElem?_append_left h]
theorem AL {s : St} {B : Blk} : (s.push B).heap.length = s.heap.length + 1:=by simp [St.push]
theorem Ext.readRow {N : Nat} {s s' : St} (h : Ext N s s') {b : Nat} (hb : b < N) : readRow s' b = readRow s b:=by unfold Ab.readRow; rw [h.2 b hb]
theorem Ef {s : St} {b : Nat} {cs : List Value} (h : readRow s b = some cs) : b < s.heap.length:=by
  unfold readRow at h
  rcases Nat.lt_or_ge b s.heap.length with hh | hh
  · exact hh
  · rw [List.getElem?_eq_none hh] at h; cases h
theorem Ext.cells {s s' : St} (h : Ext s.heap.length s s') {n : Nat} {v : Value} {cs : List Value} (hv : cellsOf n v s = some cs) : cellsOf n v s' = some cs:=by
  unfold cellsOf at hv ⊢
  split at hv
  · exact hv
  · split at hv
    case isFalse=>cases hv
    rename_i hlc
    rw [if_pos hlc]
    unfold readN at hv ⊢
    cases hr : Ab.readRow s _ with
    | none=>rw [hr] at hv; cases hv
    | some row=>rw [h.readRow (Ef hr)]; exact hv
  · cases hv
theorem Ext.bytes {s s' : St} (h : Ext s.heap.length s s') {v : Value} {l : List UInt8} (hv : bytesOf v s = some l) : bytesOf v s' = some l:=by
  unfold bytesOf at hv ⊢
  simp only [Option.bind_eq_some_iff] at hv ⊢
  obtain ⟨cs,h1,h2⟩:=hv
  exact ⟨cs,h.cells h1,h2⟩
theorem Ext.less {N M : Nat} {s s' : St} (h : Ext N s s') (hM : M ≤ N) : Ext M s s':=⟨h.1,fun b hb=>h.2 b (by omega)⟩
def Own (N n : Nat) (s : St) (v : Value) (cells : List Value) : Prop :=
  (v = .slice none 0 0∧cells = []) ∨ ∃ b len,v = .slice (some ⟨b,0,none⟩) len len∧N ≤ b∧s.heap[b]? = some (.row n cells .act)∧cells.length = len * n∧0 < len
theorem Own.nil (N n : Nat) (s : St) : Own N n s (.slice none 0 0) []:=.inl ⟨rfl,rfl⟩
theorem Own.cells {N n : Nat} {s : St} {v : Value} {cells : List Value} (h : Own N n s v cells) : cellsOf n v s = some cells:=by
  rcases h with ⟨rfl,rfl⟩ | ⟨b,len,rfl,_,h2,h3,h4⟩
  · rfl
  · simp only [cellsOf,Nat.le_refl,if_true,readN,Ab.readRow,h2,Option.bind_some]
    rw [if_pos (by omega),List.drop_zero,← h3,List.take_length]
theorem Own.bytes {N : Nat} {s : St} {v : Value} {l : List UInt8} (h : Own N 1 s v (bv l)) : bytesOf v s = some l:=by
  unfold bytesOf
  rw [h.cells]
  exact QO l
theorem Nz {n : Nat} {y : Value} {s : St} {cs : List Value} (h : cellsOf n y s = some cs) : Fg n y s = some cs:=by
  unfold cellsOf at h
  split at h
  · exact h
  · split at h
    case isFalse=>cases h
    exact h
  · cases h
theorem UU {N n w : Nat} {s : St} {x y : Value} {cells new : List Value} (h : Own N n s x cells) (hN : N ≤ s.heap.length) (hw : 0 < w) (hn : 0 < n) {m : Nat} (hm : lenV y = some m) (hnew : Fg n y s = some new) (hlen : new.length = m * n) (hb : ∀ q,q * n = cells.length + new.length→NO q w) :
    ∃ v' s',AD n w x y s = some (v',s')∧Own N n s' v' (cells ++ new)∧Ext N s s':=by
  unfold AD
  rw [if_pos hw,hm,hnew]
  simp only [Option.bind_some]
  rcases h with ⟨rfl,rfl⟩ | ⟨b,len,rfl,h1,h2,h3,h4⟩
  · simp only
    have hb2 : NO m w:=hb m (by simp [hlen])
    rw [if_pos hb2]
    by_cases hm0 : m = 0
    · subst hm0
      have : new = []:=by simpa using hlen
      subst this
      exact ⟨_,_,by rw [if_pos rfl],.inl ⟨rfl,rfl⟩,.refl _ _⟩
    · rw [if_neg hm0]
      refine ⟨_,_,rfl,.inr ⟨s.heap.length,m,rfl,hN,by simpa using AC,by simpa using hlen,by omega⟩,.push N hN _⟩
  · have hb2 : NO (len + m) w:=hb _ (by rw [Nat.add_mul,h3,hlen])
    simp only
    rw [if_pos hb2]
    by_cases hm0 : m = 0
    · subst hm0
      have : new = []:=by simpa using hlen
      subst this
      refine ⟨_,_,by rw [if_pos (by omega),if_pos rfl],.inr ⟨b,len,rfl,h1,by simpa using h2,by simpa using h3,h4⟩,.refl _ _⟩
    · rw [if_neg (by omega),h2]
      simp only
      rw [if_pos ⟨trivial,trivial,h3.symm⟩]
      have hbl : b < s.heap.length:=(List.getElem?_eq_some_iff.1 h2).1
      refine ⟨_,_,rfl,.inr ⟨s.heap.length,len + m,rfl,hN,?_,by rw [List.length_append,h3,hlen,Nat.add_mul],by omega⟩,⟨by simp [St.push,St.putB],fun c hc=>?_⟩⟩
      · have : s.heap.length = (s.putB b (.row n cells .dead)).heap.length:=by simp [St.putB]
        rw [this]
        exact AC
      · simp only [St.push,St.putB]
        rw [List.getElem?_append_left (by simp; omega),List.getElem?_set_ne (by omega)]
theorem GB {N n w : Nat} {s : St} {x y : Value} {cells new : List Value} (h : Own N n s x cells) (hN : N ≤ s.heap.length) (hw : 0 < w) (hn : 0 < n) {m : Nat} (hm : lenV y = some m) (hnew : Fg n y s = some new) (hlen : new.length = m * n) (hb : (cells.length + new.length) * w ≤ 140737488355328 * n) :
    ∃ v' s',AD n w x y s = some (v',s')∧Own N n s' v' (cells ++ new)∧Ext N s s' :=
  UU h hN hw hn hm hnew hlen fun q hq=>.inl (by
    rw [← hq,Nat.mul_right_comm] at hb
    exact Nat.le_of_mul_le_mul_right hb hn)
theorem Yu {N n w : Nat} {s : St} {x : Value} {cells z : List Value} {v : Value} (h : Own N n s x cells) (hN : N ≤ s.heap.length) (hw : 0 < w) (hn : 0 < n) (hn2 : n ≤ 16777216) (hz : z.length = n) (hzl : z.all AI = true) (hv : (Ao v).length = n) (hvl : (Ao v).all AI = true)
    (hb : (cells.length + n) * w ≤ 140737488355328 * n) : ∃ r,As n z 1 [(0,v)] s = some r∧∃ v' s',AD n w x r.1 r.2 = some (v',s')∧Own N n s' v' (cells ++ Ao v)∧Ext N s s':=by
  have h1 : As n z 1 [(0,v)] s = some (.slice (some ⟨s.heap.length,0,none⟩) 1 1,s.push (.row n (Ao v) .act)):=by
    have hrep : A5 z 1 = z:=by simp [A5]
    have hput : AE z 0 (Ao v) = Ao v:=by
      simp [AE,hv,hz]
    unfold As
    rw [if_pos ⟨by omega,hz,hzl⟩]
    simp only [hrep,IR,LV,Nat.zero_mul]
    rw [if_pos ⟨hv,by omega,hvl⟩,hput]
    rfl
  refine ⟨_,h1,?_⟩
  have hE : Ext N s (s.push (.row n (Ao v) .act)):=.push N hN _
  have hcells : cellsOf n (.slice (some ⟨s.heap.length,0,none⟩) 1 1) (s.push (.row n (Ao v) .act)) = some (Ao v):=by
    simp only [cellsOf,Nat.le_refl,if_true,readN,Ab.readRow,AC,Option.bind_some]
    rw [if_pos (by omega),List.drop_zero,Nat.one_mul,← hv,List.take_length]
  have hO : Own N n (s.push (.row n (Ao v) .act)) x cells:=by
    rcases h with h | ⟨b,len,e1,e2,e3,e4,e5⟩
    · exact .inl h
    · exact .inr ⟨b,len,e1,e2,by rw [Db (List.getElem?_eq_some_iff.1 e3).1]; exact e3,e4,e5⟩
  obtain ⟨v',s',g1,g2,g3⟩:=GB (w:=w) hO (by rw [AL]; omega) hw hn (y:=.slice (some ⟨s.heap.length,0,none⟩) 1 1) (m:=1) rfl (Nz hcells) (by omega) (by rw [hv]; exact hb)
  exact ⟨v',s',g1,g2,hE.trans g3⟩
theorem Yv {len : Nat} {k : IntKind} {i : Nat} (h : i < len) : GU len 1 lptr (.int k (i : Int)) = some (.pointer (some ⟨0,i,none⟩)):=by
  simp [GU,lptr,h]
theorem ZeC {i n : Nat} {cs : List Value} {v : Value} (h : cs[i]? = some v) : Ap false n (.pointer (some ⟨0,i,none⟩)) (.agg cs.toArray) = some v:=by
  simp [Ap,h]
theorem Zb9 {i : Nat} {cs : List Value} {v : Value} (hi : i < cs.length) (hv : AI v = true) (hc : Ao v = [v]) : AO 1 (.pointer (some ⟨0,i,none⟩)) v (.agg cs.toArray) = some (.agg (cs.set i v).toArray):=by
  have h : AE cs i [v] = cs.set i v:=by
    unfold AE
    rw [List.set_eq_take_append_cons_drop,if_pos hi]
    simp
  unfold AO
  simp only [hc,List.length_singleton,List.all_cons,hv,List.all_nil,Bool.and_self,true_and]
  rw [if_pos (by simp; omega)]
  simp [h]
theorem G6 {n : Nat} {cs : List Value} (h : cs.length = n) : Ap true n lptr (.agg cs.toArray) = some (.agg cs.toArray):=by
  subst h
  unfold Ap lptr
  simp
theorem Lq {n : Nat} {cs ds : List Value} (h : cs.length = n) (g : ds.length = n) (hl : ds.all AI = true) : AO n lptr (.agg ds.toArray) (.agg cs.toArray) = some (.agg ds.toArray):=by
  subst h
  have h2 : AE cs 0 ds = ds:=by simp [AE,g]
  have h3 : Ao (.agg ds.toArray) = ds:=by simp [Ao]
  unfold AO lptr
  simp only [h3]
  rw [if_pos ⟨g,hl,by simp⟩]
  simp [h2]
theorem Yw {cs : List Value} (h : cs.all AI = true) : lbox (.agg cs.toArray) = some (.agg cs.toArray):=by
  have h3 : Ao (.agg cs.toArray) = cs:=by simp [Ao]
  unfold lbox
  rw [h3,if_pos h]
abbrev Sum:=List Value→St→Option (Value × St)
def libL : List (FuncId × Sum)→Lib
  | [],_=>none
  | (g,h) :: l,f=>if f = g then some h else libL l f
theorem To (P : Program) : Br P (libL []):=fun _ _ h=>by cases h
theorem Ay {P : Program} {Ad : HC} (hprog : RC P = true) {l : List (FuncId × Sum)} (hl : Br P (libL l)) {f : FuncId} {g : Sum} (hok : Aq P f = true) (hg : BO P (libL l) Ad f g) : Br P (libL ((f,g) :: l)) :=
  ZcQ hprog hl hok hg fun _=>rfl
theorem Bq {P : Program} {lib : Lib} {Ad : HC} {f : FuncId} {g : Sum} (h : lib f = some g) {xs : List Value} {s : St} : run P lib Ad f xs s = g xs s:=ZcP h
def Af (l : List UInt8) (s : St) : Value × St:=(.slice (some ⟨s.heap.length,0,none⟩) l.length l.length,s.push (.row 1 (bv l) .act))
def FZ : Value→Bool
  | .tuple a=>a.toList.all A0
  | v=>A0 v
theorem BO.plain {P : Program} {lib : Lib} {Ad : HC} {f : FuncId} {G : List Value→St→Option Value} (h : ∀ args s v,G args s = some v→FZ v = true∧∃ t0,run P lib Ad f args (frzS s) = some (v,t0)) :
    BO P lib Ad f fun args s=>(G args s).map fun v=>(v,s):=by
  intro args s v t hg
  simp only [Option.map_eq_some_iff] at hg
  obtain ⟨u,hu,e⟩:=hg
  cases e
  obtain ⟨h1,t0,h2⟩:=h args s v hu
  refine ⟨[],v,t0,fun _=>0,by simp,h2,.pure ?_⟩
  cases v with
  | tuple a =>
    have:=Vw.tup (ρ:=JF s.heap.length fun _=>0) (D:=s.heap.length) (l:=a.toList) h1
    simpa using this
  | _=>exact Vw.const h1
theorem BO.bytes {P : Program} {lib : Lib} {Ad : HC} {f : FuncId} {G : List Value→St→Option (List UInt8)} (h : ∀ args s l,G args s = some l→l ≠ []∧∃ v0 t0,run P lib Ad f args (frzS s) = some (v0,t0)∧Own s.heap.length 1 t0 v0 (bv l)) :
    BO P lib Ad f fun args s=>(G args s).map fun l=>Af l s:=by
  intro args s v t hg
  simp only [Option.map_eq_some_iff] at hg
  obtain ⟨l,hl,e⟩:=hg
  cases e
  obtain ⟨hne,v0,t0,h2,h3⟩:=h args s l hl
  rcases h3 with ⟨_,h3⟩ | ⟨b,len,rfl,h4,h5,h6,h7⟩
  · exact absurd (V1 (m:=[]) h3) hne
  · rw [A3,Nat.mul_one] at h6
    subst h6
    exact ⟨_,_,t0,_,rfl,h2,.row h4 h5 (fun _ _ h=>h) US (Vw.slice (Nat.le_refl _) (Nat.le_refl _))⟩
theorem Tp {l : List UInt8} {s : St} : Dp s (Af l (frzS s)) = Af l s:=by
  have:=Cp s
  simp [Dp,Af,St.push,this]
theorem Xa {l : List UInt8} {s : St} : Dp s ((Af l (frzS s)).1,(Af l (frzS s)).2) = Af l s:=Tp
theorem Bb {l : List UInt8} {s : St} : bytesOf (Af l s).1 (Af l s).2 = some l:=by
  unfold bytesOf Af
  simp only [cellsOf,Nat.le_refl,if_true,readN,Ab.readRow,AC,Option.bind_some,Nat.mul_one,Nat.zero_add,A3]
  rw [List.drop_zero,← A3,List.take_length]
  exact QO l
theorem DP {N : Nat} {l : List UInt8} {s : St} (h : N ≤ s.heap.length) (hl : l ≠ []) : Own N 1 (Af l s).2 (Af l s).1 (bv l) :=
  .inr ⟨s.heap.length,l.length,rfl,h,AC,by rw [A3,Nat.mul_one],List.length_pos_iff.2 hl⟩
theorem AZ {N : Nat} {l : List UInt8} {s : St} (h : N ≤ s.heap.length) : Ext N s (Af l s).2:=.push N h _
theorem EVs : (type_of% @VX)∧(type_of% @Zet)∧(type_of% @BP)∧(type_of% @CJ)∧(type_of% @Dq)∧(type_of% @DO)∧(type_of% @Kp)∧(type_of% @Mf)∧(type_of% @Yl)∧(type_of% @Ym)∧(type_of% @Zb4)∧(type_of% @Zb5)∧(type_of% @Yn)∧(type_of% @Yo)∧(type_of% @Yp)∧(type_of% @C2)∧(type_of% @EI)∧(type_of% @Ti)∧(type_of% @C3)∧(type_of% @Et)∧(type_of% @Tj)∧(type_of% @VY)∧(type_of% @H2)∧(type_of% @Fq)∧(type_of% @VZ)∧(type_of% @Yq)∧(type_of% @Lp)∧(type_of% @BY)∧(type_of% @QM)∧(type_of% @Zb6)∧(type_of% @QN)∧(type_of% @W7)∧(type_of% @W8)∧(type_of% @Zeu)∧(type_of% @ZcS)∧(type_of% @ME)∧(type_of% @PS)∧(type_of% @Zev)∧(type_of% @EJ)∧(type_of% @Zew)∧(type_of% @Mg)∧(type_of% @Zex)∧(type_of% @ZcT)∧(type_of% @Tk)∧(type_of% @V0):=⟨@VX,@Zet,@BP,@CJ,@Dq,@DO,@Kp,@Mf,@Yl,@Ym,@Zb4,@Zb5,@Yn,@Yo,@Yp,@C2,@EI,@Ti,@C3,@Et,@Tj,@VY,@H2,@Fq,@VZ,@Yq,@Lp,@BY,@QM,@Zb6,@QN,@W7,@W8,@Zeu,@ZcS,@ME,@PS,@Zev,@EJ,@Zew,@Mg,@Zex,@ZcT,@Tk,@V0⟩
end Go.Proofs.YtmbhnbladmpnoaaGreat.Ab

/- Lists of plain things,in a slice: of so many cells each. -/
namespace Go.Proofs.YtmbhnbladmpnoaaGreat.Ab
open Go
structure Cod (α : Type) where
  n : Nat
  enc : α→List Value
  pos : 0 < n
  len : ∀ a,(enc a).length = n
  inj : ∀ a b,enc a = enc b→a = b
  leaf : ∀ a,(enc a).all AX = true
section
variable {α : Type} (C : Cod α)
def encL (l : List α) : List Value:=l.flatMap C.enc
theorem Eu (a : α) (l : List α) : encL C (a :: l) = C.enc a ++ encL C l:=rfl
theorem Dc : ∀ (l : List α),(encL C l).length = l.length * C.n
  | []=>by simp [encL]
  | a :: l=>by rw [Eu,List.length_append,C.len,Dc l,List.length_cons,Nat.add_mul]; omega
theorem Ol : ∀ (l : List α) (i : Nat),(encL C l).drop (i * C.n) = encL C (l.drop i)
  | l,0=>by simp
  | [],i + 1=>by simp [encL]
  | a :: l,i + 1=>by
    rw [Eu,show (i + 1) * C.n = C.n + i * C.n by rw [Nat.add_mul]; omega,← List.drop_drop,List.drop_left' (C.len a),Ol l i,List.drop_succ_cons]
theorem V2 : ∀ {l m : List α},encL C l = encL C m→l = m
  | [],[],_=>rfl
  | [],a :: m,h=>by
    have h1:=congrArg List.length h
    rw [Dc,Dc,List.length_cons,Nat.add_mul] at h1
    have:=C.pos
    simp only [List.length_nil,Nat.zero_mul] at h1
    omega
  | a :: l,[],h=>by
    have h1:=congrArg List.length h
    rw [Dc,Dc,List.length_cons,Nat.add_mul] at h1
    have:=C.pos
    simp only [List.length_nil,Nat.zero_mul] at h1
    omega
  | a :: l,b :: m,h=>by
    rw [Eu,Eu] at h
    have h1:=(List.append_inj h (by rw [C.len,C.len])).1
    have h2:=(List.append_inj h (by rw [C.len,C.len])).2
    rw [C.inj _ _ h1,V2 h2]
open Classical in
noncomputable def decL (cs : List Value) : Option (List α):=if h : ∃ l,cs = encL C l then some (Classical.choose h) else none
theorem Zaz (l : List α) : decL C (encL C l) = some l:=by
  unfold decL
  have h : ∃ m,encL C l = encL C m:=⟨l,rfl⟩
  rw [dif_pos h]
  congr 1
  exact (V2 C (Classical.choose_spec h)).symm
theorem Yx {cs : List Value} {l : List α} (h : decL C cs = some l) : cs = encL C l:=by
  unfold decL at h
  split at h
  · rename_i hh
    cases h
    exact Classical.choose_spec hh
  · cases h
noncomputable def Bj (v : Value) (s : St) : Option (List α):=(cellsOf C.n v s).bind (decL C)
theorem Ct {v : Value} {s : St} {l : List α} : Bj C v s = some l ↔ cellsOf C.n v s = some (encL C l):=by
  unfold Bj
  constructor
  · intro h
    simp only [Option.bind_eq_some_iff] at h
    obtain ⟨cs,h1,h2⟩:=h
    rw [h1,Yx C h2]
  · intro h
    rw [h]
    exact Zaz C l
variable {C}
theorem RG {v : Value} {s : St} : Bj C v (frzS s) = Bj C v s:=by unfold Bj; rw [JH]
theorem Xb {v : Value} {s : St} {l : List α} (h : Bj C v s = some l) : ∃ a cap,v = .slice a l.length cap:=by
  obtain ⟨a,len,cap,rfl,h2⟩:=Fs ((Ct C).1 h)
  rw [Dc] at h2
  have:=C.pos
  have : len = l.length:=(Nat.eq_of_mul_eq_mul_right this h2).symm
  subst this
  exact ⟨a,cap,rfl⟩
theorem Dd {v : Value} {s s2 : St} {l : List α} (h : Bj C v s = some l) {e : TypeId} : AG (.slice e) v s2 = some (.int .i64 ((l.length : Nat) : Int)):=by
  obtain ⟨a,cap,rfl⟩:=Xb h
  rfl
theorem V3 (s : St) : Bj C (.slice none 0 0) s = some []:=(Ct C).2 rfl
theorem Lr {v : Value} {s : St} {l : List α} (h : Bj C v s = some l) {i : Nat} (hi : i < l.length) {k : IntKind} {n : Nat} (hn : n = C.n) : ∃ p,Az n v (.int k (i : Int)) = some p∧Aj true n p s = some (.agg (C.enc l[i]).toArray):=by
  subst hn
  have hc:=(Ct C).1 h
  have hle : (i + 1) * C.n ≤ (encL C l).length:=by rw [Dc]; exact Nat.mul_le_mul_right _ hi
  obtain ⟨p,h1,_,h3⟩:=Ny hc C.pos hle (k:=k)
  refine ⟨p,h1,?_⟩
  rw [h3]
  congr 2
  rw [Ol]
  have : l.drop i = l[i] :: l.drop (i + 1):=by rw [List.getElem_cons_drop]
  rw [this,Eu,List.take_left' (C.len _)]
theorem GC {v : Value} {s : St} {l : List α} (h : Bj C v s = some l) {i j : Nat} (hi : i < l.length) {c : Value} (hc : (C.enc l[i])[j]? = some c) {k : IntKind} {n : Nat} (hn : n = C.n) : ∃ p,Az n v (.int k (i : Int)) = some p∧∃ q,Ac j p = some q∧Aj false 1 q s = some c:=by
  subst hn
  have hcs:=(Ct C).1 h
  unfold cellsOf at hcs
  split at hcs
  · have:=congrArg (Option.map List.length) hcs
    simp only [Option.map_some,List.length_nil,Dc,Option.some.injEq] at this
    have h2:=C.pos
    have h3 : 0 < l.length * C.n:=Nat.mul_pos (by omega) h2
    omega
  · rename_i b o len cap
    split at hcs
    case isFalse=>cases hcs
    obtain ⟨row,h1,h2,h3⟩:=Gz hcs
    have hlen : len = l.length:=by
      have:=congrArg List.length h3
      rw [Dc] at this
      simp at this
      have h4:=C.pos
      have h5 : len * C.n = l.length * C.n:=by omega
      exact Nat.eq_of_mul_eq_mul_right h4 h5
    subst hlen
    refine ⟨.pointer (some ⟨b,o + i * C.n,none⟩),by simp [Az,hi],.pointer (some ⟨b,o + i * C.n + j,none⟩),rfl,?_⟩
    simp only [Aj,h1,Option.bind_some,Bool.false_eq_true,if_false]
    have hj : j < C.n:=by
      have:=(List.getElem?_eq_some_iff.1 hc).1
      rw [C.len] at this
      exact this
    have h4 : (encL C l)[i * C.n + j]? = some c:=by
      rw [← List.getElem?_drop,Ol]
      have : l.drop i = l[i] :: l.drop (i + 1):=by rw [List.getElem_cons_drop]
      rw [this,Eu,List.getElem?_append_left (by rw [C.len]; exact hj)]
      exact hc
    have h6 : i * C.n + C.n ≤ l.length * C.n:=by rw [← Nat.succ_mul]; exact Nat.mul_le_mul_right _ hi
    rw [h3,List.getElem?_take_of_lt (by omega),List.getElem?_drop] at h4
    rw [Nat.add_assoc]
    exact h4
  · cases hcs
def OwnC (C : Cod α) (N : Nat) (s : St) (v : Value) (l : List α) : Prop :=
  (v = .slice none 0 0∧l = []) ∨ ∃ b cap rest,v = .slice (some ⟨b,0,none⟩) l.length cap∧N ≤ b∧s.heap[b]? = some (.row C.n (encL C l ++ rest) .act)∧(encL C l ++ rest).length = cap * C.n∧rest.all AX = true
theorem OwnC.cap_le {N : Nat} {s : St} {b len cap : Nat} {rest : List Value} {l : List α} (h : (encL C l ++ rest).length = cap * C.n) : l.length ≤ cap:=by
  rw [List.length_append,Dc] at h
  have:=C.pos
  exact Nat.le_of_mul_le_mul_right (by omega : l.length * C.n ≤ cap * C.n) this
theorem OwnC.list {N : Nat} {s : St} {v : Value} {l : List α} (h : OwnC C N s v l) : Bj C v s = some l:=by
  rcases h with ⟨rfl,rfl⟩ | ⟨b,cap,rest,rfl,h1,h2,h3,_⟩
  · exact V3 s
  · refine (Ct C).2 ?_
    have hle:=OwnC.cap_le (N:=N) (s:=s) (b:=b) (len:=l.length) h3
    simp only [cellsOf,if_pos hle]
    unfold readN Ab.readRow
    rw [h2]
    simp only [Option.bind_some]
    have e : (encL C l).length = l.length * C.n:=Dc C l
    rw [if_pos (by rw [List.length_append]; omega),List.drop_zero,← e,List.take_left]
theorem UV {l : List Value} (h : l.all AX = true) : l.all AI = true:=by
  rw [List.all_eq_true] at h ⊢
  intro v hv
  have:=h v hv
  cases v <;> first | rfl | (simp [AX] at this)
end
end Go.Proofs.YtmbhnbladmpnoaaGreat.Ab

/- A law's arguments in memory: lists of plain things. -/
namespace Go.Proofs.YtmbhnbladmpnoaaGreat.Ab
open Go Go.ChangeShapes Go.WideShapes
theorem Om {α : Type} {p : Nat→α→Prop} : ∀ n,(∀ i,i < n→∃ a,p i a)→∃ l : List α,l.length = n∧∀ (i : Nat) (h : i < l.length),p i l[i]
  | 0,_=>⟨[],rfl,fun i h=>by simp at h⟩
  | n + 1,h=>by
    obtain ⟨l,h1,h2⟩:=Om n fun i hi=>h i (by omega)
    obtain ⟨a,ha⟩:=h n (by omega)
    refine ⟨l ++ [a],by simp [h1],fun i hi=>?_⟩
    by_cases c : i < l.length
    · rw [List.getElem_append_left c]
      exact h2 i c
    · have : i = n:=by simp at hi; omega
      subst this
      rw [List.getElem_append_right (by omega)]
      simpa [h1] using ha
theorem Yy (x : Addr) (a b : Nat) : (x.add a).add b = x.add (a + b):=by
  unfold Addr.add
  split <;> split <;> simp_all <;> omega
end Go.Proofs.YtmbhnbladmpnoaaGreat.Ab

/- A law's arguments that hold others: slices in slices,structs of slices. How each thing lies in cells,and in what these point to; that an argument is such a thing. -/
namespace Go.Proofs.YtmbhnbladmpnoaaGreat.Ab
open Go Go.ChangeShapes Go.WideShapes
structure NCod (α : Type) where
  n : Nat
  rel : α→St→List Value→Prop
  len : ∀ {a s cs},rel a s cs→cs.length = n
  ext : ∀ {a s t cs},rel a s cs→Ext s.heap.length s t→rel a t cs
def By {α : Type} (C : NCod α) (B : Nat) (l : List α) (s : St) (v : Value) : Prop :=
  l.length * B ≤ reachBytes∧((v = .slice none 0 0∧l = []) ∨ ∃ (b : Nat) (css : List (List Value)) (st : Stat) (k : Nat),v = .slice (some ⟨b,0,none⟩) l.length l.length∧s.heap[b]? = some (.row k css.flatten st)∧st ≠ .dead∧All2 (fun a c=>C.rel a s c) l css)
namespace NCod
def ofC {α : Type} (C : Cod α) (Pr : α→Prop) : NCod α where
  n:=C.n
  rel a s cs:=cs = C.enc a∧Pr a
  len h:=by rw [h.1]; exact C.len _
  ext h _:=h
def list {α : Type} (C : NCod α) (B : Nat) : NCod (List α) where
  n:=1
  rel l s cs:=∃ v,cs = [v]∧By C B l s v
  len h:=by obtain ⟨v,rfl,_⟩:=h; rfl
  ext h hx:=by
    obtain ⟨v,rfl,h1,h2⟩:=h
    refine ⟨v,rfl,h1,?_⟩
    rcases h2 with h2 | ⟨b,css,st,k,g1,g2,g3,g4⟩
    · exact .inl h2
    · exact .inr ⟨b,css,st,k,g1,by rw [hx.2 b (List.getElem?_eq_some_iff.1 g2).1]; exact g2,g3,g4.mono fun a c h=>C.ext h hx⟩
def unit : NCod Unit where
  n:=0
  rel _ _ cs:=cs = []
  len h:=by rw [h]; rfl
  ext h _:=h
def pair {α β : Type} (A : NCod α) (B : NCod β) : NCod (α × β) where
  n:=A.n + B.n
  rel p s cs:=∃ c d,cs = c ++ d∧A.rel p.1 s c∧B.rel p.2 s d
  len h:=by obtain ⟨c,d,rfl,h1,h2⟩:=h; rw [List.length_append,A.len h1,B.len h2]
  ext h hx:=by obtain ⟨c,d,rfl,h1,h2⟩:=h; exact ⟨c,d,rfl,A.ext h1 hx,B.ext h2 hx⟩
def map {α β : Type} (A : NCod α) (f : β→α) : NCod β where
  n:=A.n
  rel b s cs:=A.rel (f b) s cs
  len h:=A.len h
  ext h hx:=A.ext h hx
end NCod
def OpensAt {α : Type} (W : World) (C : NCod α) (cs : List Value) : Prop:=∀ (ι : Emb) (H : List Blk),Sim W.heap.size ι H W→H.all roB = true →
  ∃ (a : α) (K : List Blk) (κ : Emb) (cs' : List Value),ι.le κ∧Sim W.heap.size κ (H ++ K) W∧(H ++ K).all roB = true∧All2 (L2 κ) cs' cs∧C.rel a ⟨H ++ K⟩ cs'
def FJ {α : Type} (P : Program) (C : NCod α) (t : TypeId) : Prop:=∀ (Hn : Type) (enc : TypeId × Value→Hn) (W : World) (n : Nat) (cs : List Value) (y : DataW Hn × List MemPlace),DataW.trod enc P W 0 (fun _=>true) true n t cs = some y→(∀ k ∈ y.1.weights P t,k ≤ reachBytes)→OpensAt W C cs
theorem E9 {α : Type} {W : World} {C : Cod α} {Pr : α→Prop} {cs : List Value} (h : ∃ a,cs = C.enc a∧Pr a) : OpensAt W (.ofC C Pr) cs:=by
  obtain ⟨a,rfl,hp⟩:=h
  intro ι H hs hro
  exact ⟨a,[],ι,C.enc a,.refl _,by rw [List.append_nil]; exact hs,by rw [List.append_nil]; exact hro,DE (C.leaf a),rfl,hp⟩
theorem Yz {α β : Type} {W : World} {A : NCod α} {f : β→α} {g : α→β} (hfg : ∀ a,f (g a) = a) {cs : List Value} (h : OpensAt W A cs) : OpensAt W (A.map f) cs:=by
  intro ι H hs hro
  obtain ⟨a,K,κ,cs',h1,h2,h3,h4,h5⟩:=h ι H hs hro
  exact ⟨g a,K,κ,cs',h1,h2,h3,h4,by show A.rel (f (g a)) _ _; rw [hfg]; exact h5⟩
theorem Xd {W : World} : OpensAt W .unit []:=by
  intro ι H hs hro
  exact ⟨(),[],ι,[],.refl _,by rw [List.append_nil]; exact hs,by rw [List.append_nil]; exact hro,trivial,rfl⟩
theorem ext_app (H K : List Blk) : Ext H.length ⟨H⟩ ⟨H ++ K⟩:=⟨by simp,fun b hb=>by simp only; rw [List.getElem?_append_left hb]⟩
theorem Xe {α β : Type} {W : World} {A : NCod α} {B : NCod β} {c d : List Value} (h : OpensAt W A c) (g : OpensAt W B d) : OpensAt W (A.pair B) (c ++ d):=by
  intro ι H hs hro
  obtain ⟨a,K,κ,c',h1,h2,h3,h4,h5⟩:=h ι H hs hro
  obtain ⟨b,K2,κ2,d',g1,g2,g3,g4,g5⟩:=g κ (H ++ K) h2 h3
  refine ⟨(a,b),K ++ K2,κ2,c' ++ d',h1.trans g1,by rw [← List.append_assoc]; exact g2,by rw [← List.append_assoc]; exact g3,(h4.mono fun _ _ h=>h.mono g1).append g4,c',d',rfl,?_,by rw [← List.append_assoc]; exact g5⟩
  rw [← List.append_assoc]
  exact A.ext h5 (ext_app _ _)
theorem QQ {α : Type} {W : World} {C : NCod α} : ∀ (ls : List (List Value)),(∀ c ∈ ls,OpensAt W C c)→∀ (ι : Emb) (H : List Blk),Sim W.heap.size ι H W→H.all roB = true →
    ∃ (l : List α) (K : List Blk) (κ : Emb) (css : List (List Value)),ι.le κ∧Sim W.heap.size κ (H ++ K) W∧(H ++ K).all roB = true∧All2 (L2 κ) css.flatten ls.flatten∧All2 (fun a c=>C.rel a ⟨H ++ K⟩ c) l css∧l.length = ls.length
  | [],_,ι,H,hs,hro=>⟨[],[],ι,[],.refl _,by rw [List.append_nil]; exact hs,by rw [List.append_nil]; exact hro,trivial,trivial,rfl⟩
  | c :: ls,h,ι,H,hs,hro=>by
    obtain ⟨a,K,κ,c',h1,h2,h3,h4,h5⟩:=h c (List.mem_cons_self ..) ι H hs hro
    obtain ⟨l,K2,κ2,css,g1,g2,g3,g4,g5,g6⟩:=QQ ls (fun x hx=>h x (List.mem_cons_of_mem _ hx)) κ (H ++ K) h2 h3
    refine ⟨a :: l,K ++ K2,κ2,c' :: css,h1.trans g1,by rw [← List.append_assoc]; exact g2,by rw [← List.append_assoc]; exact g3,?_,⟨?_,?_⟩,by simp [g6]⟩
    · rw [List.flatten_cons,List.flatten_cons]
      exact (h4.mono fun _ _ h=>h.mono g1).append g4
    · rw [← List.append_assoc]
      exact C.ext h5 (ext_app _ _)
    · rw [← List.append_assoc]
      exact g5
theorem On {Hn : Type} {P : Program} {e : TypeId} : ∀ {l : List (DataW Hn)} {d : DataW Hn},d ∈ l→∀ k ∈ d.weights P e,k ∈ DataW.weightsAll P e l
  | x :: l,d,h,k,hk=>by
    simp only [DataW.weightsAll,List.mem_append]
    rcases List.mem_cons.1 h with rfl | h
    · exact .inl hk
    · exact .inr (On h k hk)
theorem IC {α : Type} {P : Program} {C : NCod α} {t e : TypeId} {B : Nat} (hu : P.underlying t = some (.slice e)) (hc : P.cellsOf e = C.n) (hpos : 0 < C.n) (hB : P.bytesOf e = B) (h : FJ P C e) : FJ P (C.list B) t:=by
  intro Hn enc W n cs y hy hw ι H hs hro
  rcases DataW.trod_slice hu hy with ⟨rfl,rfl⟩ | ⟨x,len,cap,elems,rest,m,_,rfl,rfl,_,hle,hm,hlen,he,hsp,_⟩
  · exact ⟨[],[],ι,[.slice none 0 0],.refl _,by rw [List.append_nil]; exact hs,by rw [List.append_nil]; exact hro,⟨.l1 (.l0 .snil),trivial⟩,_,rfl,by simp,.inl ⟨rfl,rfl⟩⟩
  · obtain ⟨hr1,hr2⟩:=hsp rfl
    have hwt : (elems.length + rest.length) * B ≤ reachBytes:=by
      have:=hw ((elems.length + rest.length) * P.bytesOf e) (by simp [DataW.weights,hu])
      rwa [hB] at this
    have hwe : ∀ z ∈ elems,∀ k ∈ z.1.weights P e,k ≤ reachBytes:=fun z hz k hk=>hw k (by
      simp only [DataW.weights,hu,List.mem_cons,List.mem_append]
      exact .inr (.inl (On (List.mem_map_of_mem (f:=(·.1)) hz) k hk)))
    have each : ∀ i,i < len→∃ c z,W.cells? 0 (x.add (i * C.n)) C.n = some c∧OpensAt W C c:=fun i hi=>by
      have h1:=he i hi
      rw [List.getElem?_eq_getElem (by omega),hc,Option.bind_eq_some_iff] at h1
      obtain ⟨c,h2,h3⟩:=h1
      exact ⟨c,c,h2,h Hn enc W m c _ h3 (hwe _ (List.getElem_mem _))⟩
    obtain ⟨ls,hl1,hl2⟩:=Om (α:=List Value) (p:=fun i c=>W.cells? 0 (x.add (i * C.n)) C.n = some c∧OpensAt W C c) len fun i hi=>by
      obtain ⟨c,_,h1,h2⟩:=each i hi
      exact ⟨c,h1,h2⟩
    obtain ⟨l,K,κ,css,k1,k2,k3,k4,k5,k6⟩:=QQ ls (fun c hc2=>by
      obtain ⟨i,hi,rfl⟩:=List.getElem_of_mem hc2
      exact (hl2 i hi).2) ι H hs hro
    have hcell : ∀ i,i < cap→∃ v,W.cell? (x.add i) = some v:=fun i hi=>by
      have hq : i / C.n < cap:=Nat.lt_of_le_of_lt (Nat.div_le_self _ _) hi
      have hj : i % C.n < C.n:=Nat.mod_lt _ hpos
      have hsplit : i = i / C.n * C.n + i % C.n:=by
        have:=Nat.div_add_mod i C.n
        rw [Nat.mul_comm] at this
        exact this.symm
      have key : ∃ c,W.cells? 0 (x.add (i / C.n * C.n)) C.n = some c:=by
        by_cases c : i / C.n < len
        · exact ⟨_,(hl2 _ (by omega)).1⟩
        · have:=hr2 (i / C.n - len) (by omega)
          rw [show len + (i / C.n - len) = i / C.n by omega,List.getElem?_eq_getElem (by omega),hc,Option.bind_eq_some_iff] at this
          obtain ⟨c,h2,_⟩:=this
          exact ⟨c,h2⟩
      obtain ⟨c,hcc⟩:=key
      obtain ⟨_,h5,h6⟩:=World.cells?_some hcc
      have h7:=h6 _ hj
      rw [Yy,← hsplit] at h7
      rw [h7]
      exact ⟨_,List.getElem?_eq_getElem (by omega)⟩
    have hflat : ∀ (ls : List (List Value)) (o : Nat),(∀ (i : Nat) (hi : i < ls.length),W.cells? 0 (x.add ((o + i) * C.n)) C.n = some ls[i])→∀ i v,ls.flatten[i]? = some v→W.cell? (x.add (o * C.n + i)) = some v:=by
      intro ls
      induction ls with
      | nil=>intro o _ i v hv; simp at hv
      | cons c ls ih =>
        intro o ho i v hv
        obtain ⟨_,h5,h6⟩:=World.cells?_some (ho 0 (by simp))
        rw [List.flatten_cons] at hv
        by_cases c1 : i < c.length
        · rw [List.getElem?_append_left c1] at hv
          have:=h6 i (by simp at h5; omega)
          rw [Yy,Nat.add_zero] at this
          rw [this]
          exact hv
        · rw [List.getElem?_append_right (by omega)] at hv
          have:=ih (o + 1) (fun i hi=>by
            have:=ho (i + 1) (by simp; omega)
            rw [show o + 1 + i = o + (i + 1) by omega]
            simpa using this) _ v hv
          simp only [List.getElem_cons_zero] at h5
          rw [h5,Nat.add_mul,Nat.one_mul] at this
          rwa [show o * C.n + C.n + (i - C.n) = o * C.n + i by omega] at this
    have hfl:=hflat ls 0 (fun i hi=>by rw [Nat.zero_add]; exact (hl2 i hi).1)
    obtain ⟨κ2,r1,r2,r3,r4⟩:=UP k2 k3 (cells:=css.flatten) (.inr ⟨x,rfl,hle,hcell,fun i v hv=>by
      obtain ⟨v',g1,g2⟩:=k4.get i v hv
      refine ⟨v',?_,g2⟩
      have:=hfl i v' g1
      rwa [Nat.zero_mul,Nat.zero_add] at this⟩)
    have hll : l.length = len:=by rw [k6,hl1]
    refine ⟨l,K ++ [.row 0 css.flatten .ro],κ2,[G5 (H ++ K).length (some x) len],k1.trans r1,by rw [← List.append_assoc]; exact r2,by rw [← List.append_assoc]; exact r3,⟨?_,trivial⟩,_,rfl,?_,.inr ⟨(H ++ K).length,css,.ro,0,?_,?_,by simp,?_⟩⟩
    · cases r4 with
      | va r4=>cases r4 with
        | l2 r4=>exact r4
    · rw [hll]
      exact Nat.le_trans (Nat.mul_le_mul_right _ (by omega)) hwt
    · rw [hll]; rfl
    · rw [← List.append_assoc]
      simp
    · rw [← List.append_assoc]
      exact All2.mono (R:=fun a c=>C.rel a ⟨H ++ K⟩ c) (fun a c h=>C.ext (s:=⟨H ++ K⟩) h (ext_app (H ++ K) _)) k5
def V4 {α : Type} (P : Program) (C : NCod α) (fs : List Field) (off : Nat) : Prop:=∀ (Hn : Type) (enc : TypeId × Value→Hn) (W : World) (n : Nat) (cs : List Value) (xs : List (DataW Hn × List MemPlace)),cs.length = off + C.n→xs.length = fs.length →
  (∀ (i : Nat) (f : Field),fs[i]? = some f→DataW.trod enc P W 0 (fun _=>true) true n f.type ((cs.drop f.offset).take (P.cellsOf f.type)) = xs[i]?)→(∀ k ∈ DataW.weightsEach P (fs.map (·.type)) (xs.map (·.1)),k ≤ reachBytes)→OpensAt W C (cs.drop off)
theorem Ls {P : Program} {off : Nat} : V4 P .unit [] off:=by
  intro Hn enc W n cs xs hl _ _ _
  have : cs.drop off = []:=List.drop_eq_nil_of_le (by rw [hl]; exact Nat.le_refl _)
  rw [this]
  exact Xd
theorem AR {α β : Type} {P : Program} {A : NCod α} {B : NCod β} {f : Field} {fs : List Field} {off : Nat} (ho : f.offset = off) (hn : P.cellsOf f.type = A.n) (h : FJ P A f.type) (g : V4 P B fs (off + A.n)) : V4 P (A.pair B) (f :: fs) off:=by
  intro Hn enc W n cs xs hl hx hf hw
  cases xs with
  | nil=>simp at hx
  | cons x xs =>
    have h0:=hf 0 f rfl
    rw [ho,hn] at h0
    have hA:=h Hn enc W n _ x h0 fun k hk=>hw k (by simp only [List.map_cons,DataW.weightsEach,List.mem_append]; exact .inl hk)
    have hl2 : (A.pair B).n = A.n + B.n:=rfl
    have hB:=g Hn enc W n cs xs (by rw [hl,hl2]; omega) (by simpa using hx) (fun i f' hi=>by have:=hf (i + 1) f' (by simpa using hi); simpa using this) fun k hk=>hw k (by simp only [List.map_cons,DataW.weightsEach,List.mem_append]; exact .inr hk)
    have hsp : cs.drop off = (cs.drop off).take A.n ++ cs.drop (off + A.n):=by rw [← List.drop_drop,List.take_append_drop]
    rw [hsp]
    exact Xe hA hB
theorem H4 {α : Type} {P : Program} {C : NCod α} {t : TypeId} {fs : Array Field} (hu : P.underlying t = some (.struct fs)) (hn : P.cellsOf t = C.n) (h : V4 P C fs.toList 0) : FJ P C t:=by
  intro Hn enc W n cs y hy hw
  obtain ⟨xs,m,_,rfl,hl,hlen,hf⟩:=DataW.trod_struct hu hy
  have:=h Hn enc W m cs xs (by rw [hl,hn,Nat.zero_add]) (by simpa using hlen) (fun i f hi=>hf i f (by simpa using hi)) fun k hk=>hw k (by simp only [DataW.weights,hu]; exact hk)
  rwa [List.drop_zero] at this
def intC (k : IntKind) : Cod Int where
  n:=1
  enc i:=[.int k i]
  pos:=by decide
  len _:=rfl
  inj a b h:=by simpa using h
  leaf _:=rfl
def blnC : Cod Bool where
  n:=1
  enc b:=[.bool b]
  pos:=by decide
  len _:=rfl
  inj a b h:=by simpa using h
  leaf _:=rfl
def ZcV : Cod (List UInt8) where
  n:=1
  enc k:=[sv k]
  pos:=by decide
  len _:=rfl
  inj a b h:=by
    simp only [sv,List.cons.injEq,Value.string.injEq,ByteArray.mk.injEq,and_true] at h
    have:=congrArg Array.toList h
    simpa using this
  leaf _:=rfl
theorem B3 {P : Program} {t : TypeId} {k : IntKind} (hu : P.underlying t = some (.int k)) : FJ P (.ofC (intC k) fun i=>(Lit.int k i).wf = true) t:=by
  intro Hn enc W n cs y hy hw
  obtain ⟨i,rfl,_,h⟩:=DataW.trod_int hu hy
  exact E9 ⟨i,rfl,h⟩
theorem QR {P : Program} {t : TypeId} (hu : P.underlying t = some .bool) : FJ P (.ofC blnC fun _=>True) t:=by
  intro Hn enc W n cs y hy hw
  obtain ⟨i,rfl,_⟩:=DataW.trod_bool hu hy
  exact E9 ⟨i,rfl,trivial⟩
theorem H5 {P : Program} {t : TypeId} (hu : P.underlying t = some .string) : FJ P (.ofC ZcV fun k=>k.length ≤ reachBytes) t:=by
  intro Hn enc W n cs y hy hw
  obtain ⟨i,rfl,hyy,_⟩:=DataW.trod_string hu hy
  subst hyy
  refine E9 ⟨i.data.toList,?_,hw _ (by simp [DataW.weights])⟩
  show _ = [sv _]
  rw [← JG]
def NArg {α : Type} (C : NCod α) (a : α) (s : St) (v : Value) : Prop:=∃ cs,v = .agg cs.toArray∧C.rel a s cs
theorem NArg.ext {α : Type} {C : NCod α} {a : α} {s t : St} {v : Value} (h : NArg C a s v) (hx : Ext s.heap.length s t) : NArg C a t v:=by
  obtain ⟨cs,rfl,h1⟩:=h
  exact ⟨cs,rfl,C.ext h1 hx⟩
theorem By.ext {α : Type} {C : NCod α} {B : Nat} {l : List α} {s t : St} {v : Value} (h : By C B l s v) (hx : Ext s.heap.length s t) : By C B l t v:=by
  obtain ⟨v',e,h1⟩:=(C.list B).ext (s:=s) (t:=t) (cs:=[v]) ⟨v,rfl,h⟩ hx
  cases e
  exact h1
theorem nest_w {Hn : Type} {P : Program} {ts : List TypeId} {ds : List (DataW Hn)} (h : (DataW.weightsEach P ts ds).all (· ≤ reachBytes) = true) {j : Nat} {t : TypeId} {d : DataW Hn} (ht : ts[j]? = some t) (hd : ds[j]? = some d) : ∀ k ∈ d.weights P t,k ≤ reachBytes:=fun k hk=>by
  have:=List.all_eq_true.1 h _ (DataW.weights_mem_each ht hd k hk)
  simpa using this
theorem open_nest {α : Type} {Hn : Type} {enc : TypeId × Value→Hn} {P : Program} {W : World} {C : NCod α} {t : TypeId} (hO : FJ P C t) {v : Value} {d : DataW Hn} {ps : List MemPlace} (h : DataW.Trod enc P W 0 (fun _=>true) true t v d ps) (hw : ∀ k ∈ d.weights P t,k ≤ reachBytes) : OpensAt W C v.cells.toList:=by
  obtain ⟨fuel,hf⟩:=h
  exact hO Hn enc W fuel _ _ hf hw
theorem sim_nest {α : Type} {W : World} {C : NCod α} {cs : Array Value} (hO : OpensAt W C cs.toList) {ι : Emb} {H : List Blk} (h : Sim W.heap.size ι H W) (hro : H.all roB = true) :
    ∃ (a : α) (K : List Blk) (v : Value),NArg C a ⟨H ++ K⟩ v∧∃ κ,ι.le κ∧Sim W.heap.size κ (H ++ K) W∧(H ++ K).all roB = true∧VRel κ v (.agg cs):=by
  obtain ⟨a,K,κ,cs',h1,h2,h3,h4,h5⟩:=hO ι H h hro
  exact ⟨a,K,_,⟨cs',rfl,h5⟩,κ,h1,h2,h3,.va (.agg (by simpa using h4))⟩
theorem By.plain {α : Type} {C : Cod α} {Pr : α→Prop} {B : Nat} {l : List α} {s : St} {v : Value} (h : By (.ofC C Pr) B l s v) : Bj C v s = some l∧(∀ a ∈ l,Pr a)∧l.length * B ≤ 140737488351232:=by
  obtain ⟨h1,h2⟩:=h
  rcases h2 with ⟨rfl,rfl⟩ | ⟨b,css,st,k,rfl,g2,g3,g4⟩
  · exact ⟨V3 s,fun a ha=>(by cases ha),h1⟩
  · have key : ∀ {l : List α} {css : List (List Value)},All2 (fun a c=>(NCod.ofC C Pr).rel a s c) l css→css.flatten = encL C l∧∀ a ∈ l,Pr a:=by
      intro l
      induction l with
      | nil=>intro css h; cases css with
        | nil=>exact ⟨rfl,fun a ha=>by cases ha⟩
        | cons=>exact h.elim
      | cons a l ih=>intro css h; cases css with
        | nil=>exact h.elim
        | cons c css =>
          obtain ⟨⟨e,hp⟩,h2⟩:=h
          obtain ⟨i1,i2⟩:=ih h2
          refine ⟨by rw [List.flatten_cons,i1,Eu,e],fun x hx=>?_⟩
          rcases List.mem_cons.1 hx with rfl | hx
          · exact hp
          · exact i2 x hx
    obtain ⟨k1,k2⟩:=key g4
    refine ⟨(Ct C).2 ?_,k2,h1⟩
    have hr : readRow s b = some (encL C l):=by
      unfold Ab.readRow
      rw [g2,k1]
      cases st with
      | dead=>exact absurd rfl g3
      | act=>rfl
      | ro=>rfl
    simp only [cellsOf,Nat.le_refl,if_true,readN,hr,Option.bind_some,Nat.zero_add]
    rw [if_pos (by rw [Dc]; exact Nat.le_refl _),List.drop_zero,← Dc C,List.take_length]
end Go.Proofs.YtmbhnbladmpnoaaGreat.Ab

/- The seat's own program: its functions by the abstract machine. -/
namespace Go.Proofs.YtmbhnbladmpnoaaGreat.Ab
open Go
def ZeD (f : Nat) : List (Nat × Tn)→Tn
  | []=>[]
  | (g,t) :: l=>cond (Nat.beq f g) t (ZeD f l)
end Go.Proofs.YtmbhnbladmpnoaaGreat.Ab

/- Strings,in their order. -/
namespace Go.Proofs.YtmbhnbladmpnoaaGreat.Ab
open Go
abbrev bl (a b : List UInt8) : Bool:=Op.bytesLess a b
theorem ZaA (a : List UInt8) : bl a [] = false:=by cases a <;> rfl
theorem JI {x y : UInt8} {a b : List UInt8} : bl (x :: a) (y :: b) = true ↔ x.toNat < y.toNat ∨ (x = y∧bl a b = true):=by
  show (decide (x < y) || (x == y && Op.bytesLess a b)) = true ↔ _
  simp only [Bool.or_eq_true,decide_eq_true_eq,Bool.and_eq_true,beq_iff_eq,UInt8.lt_iff_toNat_lt]
end Go.Proofs.YtmbhnbladmpnoaaGreat.Ab

/- A range over a function,where the function gives its rounds as a list: rounds are run by the abstract machine. -/
namespace Go.Proofs.YtmbhnbladmpnoaaGreat.Ab
open Go Go.RowKit
structure FS (n wb : Nat) (ι : Emb) (T : Fr) (H : List Blk) (tmps : Array Value) (w : World) : Prop where
  sim : Sim wb ι H w
  nm : ∀ x,x < n→VRel ι (T x) (tmps.getD x undef)
def cutF (n : Nat) (T : Fr) : Fr:=fun x=>if x < n then T x else CB
theorem FS.b {n wb : Nat} {ι : Emb} {T : Fr} {H : List Blk} {tmps : Array Value} {w : World} (h : FS n wb ι T H tmps w) : BSim [] n wb ι H w ι (fun _=>none) (cutF n T) H tmps w:=by
  refine ⟨h.sim,⟨fun _ _ h=>(by cases h),fun _ _ h=>(by cases h),fun _ _ _ h=>(by cases h)⟩,.refl _ _ _ h.sim.dom,fun x=>?_⟩
  unfold cutF
  by_cases c : x < n
  · rw [if_pos c]
    unfold NRel
    rw [if_pos c]
    exact h.nm x c
  · rw [if_neg c]; exact .poison
theorem BSim.fs {n wb : Nat} {ι0 ι : Emb} {H0 H : List Blk} {w0 w : World} {lam : Lam} {T : Fr} {tmps : Array Value} (h : BSim [] n wb ι0 H0 w0 ι lam T H tmps w) : FS n wb ι T H tmps w:=by
  refine ⟨h.sim,fun x hx=>?_⟩
  have:=h.nm x
  unfold NRel at this
  rw [if_pos hx] at this
  exact this
theorem FS.mono {n wb : Nat} {ι κ : Emb} {T T' : Fr} {H K : List Blk} {tmps tmps' : Array Value} {w v : World} (h : FS n wb ι T H tmps w) (g : FS n wb κ T' K tmps' v) (hl : ι.le κ) : FS n wb κ T K tmps v:=⟨g.sim,fun x hx=>(h.nm x hx).mono hl⟩
section
variable {P : Program} {call : Aa} {n m wb : Nat}
theorem seg {c : Code} (hc : EW n c = true) {T T' : Fr} {s s' : St} {e : Ex} (h : Dz P [] n wb c (cutF n T) s e T' s') {X : Option Nat × Nat} {ι : Emb} {a : Act} {w : World} (hs : FS n wb ι T s.heap a.tmps w) (hz : a.tmps.size = n) {Q : Exit→Act→World→Prop}
    (hQ : ∀ ι' a' w',FS n wb ι' T' s'.heap a'.tmps w'→Step ι s.heap w ι' s'.heap w'→a'.tmps.size = n→a'.defers = a.defers→Q e.to a' w') : c.wpIn (FR X) X.2 P Q a w :=
  h X ι s.heap w ι (fun _=>none) a w hs.sim.size hs.b hz hc Q fun ι' lam' a' w' g1 g2 g3=>hQ ι' a' w' g1.fs g1.step g2 g3
def sel : List Nat→Code→Code
  | [],c=>c
  | 0 :: p,.seq a _=>sel p a
  | 1 :: p,.seq _ b=>sel p b
  | 2 :: p,.block _ a=>sel p a
  | 2 :: p,.loop a=>sel p a
  | 3 :: p,.rangeFunc _ _ a _=>sel p a
  | 4 :: p,.rangeFunc _ _ _ b=>sel p b
  | _,_=>.skip
def GD (fn : Func) : Code:=fn.body.getD .skip
theorem ID (hcall : DZ P call) {wd : Nat} {c : Code} (hc : EW n c = true) {lo : Lo} {Li Lu : List Nat} {F : List Value→St→Res} (hF : ∀ T s,Cj P call [] AS wd c lo (ofL Li 0 T noT) s (fun e T s=>some (e,toL Lu T,s)) = F T s) {T : Fr} {s s' : St} {e : Ex} {X' : List Value}
    (h : F (toL Li (cutF n T)) s = some (e,X',s')) : Dz P [] n wb c (cutF n T) s e (ofL Lu 0 X' noT) s':=by
  rw [← hF] at h
  obtain ⟨e1,T1,s1,h1,h2⟩:=Oc (wb:=wb) (n:=n) (m:=0) hcall rfl (fun body X s r h=>Gw.1 h) c hc lo _ s _ _ h
  cases h1
  exact (h2.weakR (kept Lu T1)).weakL (kept Li (cutF n T))
def ZcW (H : List Blk) : Prop:=∀ (b : Nat) es clock,H[b]? ≠ some (.map es clock)
theorem Sim.grown {ι : Emb} {H : List Blk} {w w' : World} {row : Option Nat} (h : Sim wb ι H w) (hm : ZcW H) (hg : w.grownBy w' row) (hr : ∀ r,row = some r→∃ o : Obj,w.heap[r]? = some o∧∀ cs e fz,o ≠ .cells cs e fz) : Sim wb ι H w' where
  dom:=h.dom
  row b n' cells st hb hst l hl:=by
    obtain ⟨cs,e,fz,q1,q2,q3,q4⟩:=h.row b n' cells st hb hst l hl
    refine ⟨cs,e,fz,?_,q2,q3,q4⟩
    rw [hg.block _ (Array.getElem?_eq_some_iff.1 q1).1 fun e1=>?_]
    · exact q1
    · obtain ⟨o,ho,hn⟩:=hr _ e1.symm
      rw [q1] at ho
      cases ho
      exact hn _ _ _ rfl
  map b es clock hb:=absurd hb (hm b es clock)
  excl:=h.excl
  size:=Nat.le_trans h.size hg.size
  loc:=h.loc
theorem FS.grown {ι : Emb} {T : Fr} {H : List Blk} {tmps : Array Value} {w w' : World} {row : Option Nat} (h : FS n wb ι T H tmps w) (hm : ZcW H) (hg : w.grownBy w' row) (hr : ∀ r,row = some r→∃ o : Obj,w.heap[r]? = some o∧∀ cs e fz,o ≠ .cells cs e fz) : FS n wb ι T H tmps w':=⟨h.sim.grown hm hg hr,h.nm⟩
theorem Step.grown {ι κ : Emb} {H K : List Blk} {w v v' : World} {row : Option Nat} (h : Step ι H w κ K v) (hg : v.grownBy v' row) (hr : ∀ r,row = some r→w.heap.size ≤ r) : Step ι H w κ K v' where
  le:=h.le
  old:=h.old
  img:=h.img
  keep c hc hn:=by
    rw [hg.block c (Nat.lt_of_lt_of_le hc h.size) fun e=>?_]
    · exact h.keep c hc hn
    · have:=hr c e.symm; omega
  size:=Nat.le_trans h.size hg.size
  os:=hg.os.trans h.os
  tape:=hg.tape.trans h.tape
  output:=hg.output.trans h.output
  len:=h.len
  own:=h.own
def setP : List (Tmp × Value)→Fr→Fr
  | [],T=>T
  | (p,v) :: l,T=>setP l (setT T p v)
theorem FS.params {ι : Emb} {H : List Blk} {w : World} : ∀ {l : List (Tmp × Value)} {T : Fr} {tmps : Array Value},FS n wb ι T H tmps w→tmps.size = n→(∀ x ∈ l,A0 x.2 = true) →
    FS n wb ι (setP l T) H (l.foldl (fun t (x : Tmp × Value)=>t.setIfInBounds x.1 x.2) tmps) w∧(l.foldl (fun t (x : Tmp × Value)=>t.setIfInBounds x.1 x.2) tmps).size = n
  | [],T,tmps,h,hz,_=>⟨h,hz⟩
  | (p,v) :: l,T,tmps,h,hz,hc=>by
    refine FS.params (l:=l) (T:=setT T p v) (tmps:=tmps.setIfInBounds p v) ⟨h.sim,fun x hx=>?_⟩ (by simpa using hz) fun y hy=>hc y (List.mem_cons_of_mem _ hy)
    unfold setT
    by_cases e : x = p
    · subst e
      rw [Nat.beq_refl]
      have : (tmps.setIfInBounds x v).getD x undef = v:=by simp [Array.getD,hz,hx]
      rw [cond_true,this]
      exact Ju (hc (x,v) (List.mem_cons_self ..))
    · have hb : Nat.beq x p = false:=by
        cases hb : Nat.beq x p with
        | false=>rfl
        | true=>exact absurd (Nat.eq_of_beq_eq_true hb) e
      rw [hb,cond_false]
      have : (tmps.setIfInBounds p v).getD x undef = tmps.getD x undef:=by
        simp [Array.getD,hz,hx,Array.getElem_setIfInBounds_ne,Ne.symm e]
      rw [this]
      exact h.nm x hx
end
end Go.Proofs.YtmbhnbladmpnoaaGreat.Ab
