/- The abstract machine, in which every operation has one outcome: definitions alone. -/
import Derived.Orders
set_option linter.unusedVariables false
set_option linter.unusedSimpArgs false
set_option linter.unusedSectionVars false
namespace Go.Proofs.Ytamaapapaiopiaa.Ab
open Go

/-! ### Frames -/
abbrev Fr := Nat → Value
def getT (T : Fr) (i : Nat) : Value := T i
def setT (T : Fr) (i : Nat) (v : Value) : Fr := fun j => cond (Nat.beq j i) v (T j)
def getL : List Value → Nat → Value
  | [], _ => undef
  | v :: _, 0 => v
  | _ :: T, i + 1 => getL T i

/-! ### Memory -/
inductive Stat where
  | ro | act | dead
  deriving DecidableEq

inductive Blk where
  | row (n : Nat) (cells : List Value) (st : Stat)
  | map (es : List (Value × Value × Nat)) (clock : Nat)

structure St where
  heap : List Blk

def St.push (s : St) (b : Blk) : St := ⟨s.heap ++ [b]⟩
def St.putB (s : St) (i : Nat) (b : Blk) : St := ⟨s.heap.set i b⟩

/-! ### Constants without addresses -/
def leafOk : Value → Bool
  | .bool _ | .int _ _ | .string _ | .pointer none | .map none | .nilFunc | .nilIface => true
  | .slice none 0 0 => true
  | .func _ first captured => first.isEmpty && captured.isEmpty
  | _ => false
def constOk : Value → Bool
  | .agg cs => cs.toList.all leafOk
  | v => leafOk v

def opd (T : Fr) : Operand → Option Value
  | .tmp t => some (getT T t)
  | .const v => if constOk v then some v else none
  | .global _ => none
  | .func f => some (.func (.func f) #[] #[])

/-! ### Programs without effects -/
def pureRun (P : Program) {α : Type} : Sem α → Option α
  | .pure a => some a
  | .program k => pureRun P (k P)
  | _ => none

/-! ### What an operation does to values -/
def unwrapInt : Value → Option (IntKind × Int)
  | .int k n => some (k, n)
  | _ => none

def intBin (op : BinOp) (k : IntKind) (x : Int) (k' : IntKind) (y : Int) : Option Value :=
  match op with
  | .shl => if y < 0 then none else some (.int k (k.wrap (x * 2 ^ (min y.toNat k.bits))))
  | .shr => if y < 0 then none else some (.int k (x.fdiv (2 ^ (min y.toNat k.bits))))
  | .add => if k = k' then some (.int k (k.wrap (x + y))) else none
  | .sub => if k = k' then some (.int k (k.wrap (x - y))) else none
  | .mul => if k = k' then some (.int k (k.wrap (x * y))) else none
  | .quo => if k = k' then (if y = 0 then none else some (.int k (k.wrap (x.tdiv y)))) else none
  | .rem => if k = k' then (if y = 0 then none else some (.int k (x.tmod y))) else none
  | .and => if k = k' then some (.int k (k.wrap (BitVec.ofInt k.bits x &&& BitVec.ofInt k.bits y).toNat)) else none
  | .or => if k = k' then some (.int k (k.wrap (BitVec.ofInt k.bits x ||| BitVec.ofInt k.bits y).toNat)) else none
  | .xor => if k = k' then some (.int k (k.wrap (BitVec.ofInt k.bits x ^^^ BitVec.ofInt k.bits y).toNat)) else none
  | .andNot => if k = k' then some (.int k (k.wrap (BitVec.ofInt k.bits x &&& ~~~ (BitVec.ofInt k.bits y)).toNat)) else none
  | .eql => if k = k' then some (.bool (x == y)) else none
  | .neq => if k = k' then some (.bool (x != y)) else none
  | .lss => if k = k' then some (.bool (decide (x < y))) else none
  | .leq => if k = k' then some (.bool (decide (x ≤ y))) else none
  | .gtr => if k = k' then some (.bool (decide (x > y))) else none
  | .geq => if k = k' then some (.bool (decide (x ≥ y))) else none

def strBin (op : BinOp) (x y : ByteArray) : Option Value :=
  match op with
  | .add => if x.size + y.size ≤ 9223372036854775807 then some (.string (x ++ y)) else none
  | .eql => some (.bool (x.toList == y.toList))
  | .neq => some (.bool (!(x.toList == y.toList)))
  | .lss => some (.bool (Op.bytesLess x.toList y.toList))
  | .leq => some (.bool (Op.bytesLess x.toList y.toList || x.toList == y.toList))
  | .gtr => some (.bool (!(Op.bytesLess x.toList y.toList || x.toList == y.toList)))
  | .geq => some (.bool (!(Op.bytesLess x.toList y.toList)))
  | _ => none

/-- '==' where one side is nil, or both sides are bools -/
def eqSmall (d : TypeDesc) (x y : Value) : Option Bool :=
  match d, x, y with
  | .bool, .bool a, .bool b => some (a == b)
  | .pointer _, .pointer none, .pointer b => some b.isNone
  | .pointer _, .pointer (some _), .pointer none => some false
  | .slice _, .slice none _ _, .slice b _ _ => some b.isNone
  | .slice _, .slice (some _) _ _, .slice none _ _ => some false
  | .map _ _, .map none, .map b => some b.isNone
  | .map _ _, .map (some _), .map none => some false
  | .func _ _ _, .nilFunc, .nilFunc => some true
  | .func _ _ _, .nilFunc, .func _ _ _ => some false
  | .func _ _ _, .func _ _ _, .nilFunc => some false
  | .interface _, .iface _ _, .nilIface => some false
  | .interface _, .nilIface, .iface _ _ => some false
  | _, _, _ => none

def aggBin (P : Program) (op : BinOp) (t : TypeId) (x y : Operand) (a b : Value) : Option Value :=
  if constOk a && constOk b then
    match pureRun P (do eqGuard op t x y a b; binOp op t a b) with
    | some (.bool r) => some (.bool r)
    | _ => none
  else none

def abin (P : Program) (op : BinOp) (t : TypeId) (ox oy : Operand) (x y : Value) : Option Value :=
  match x, y with
  | .int k a, .int k' b => intBin op k a k' b
  | .string a, .string b => strBin op a b
  | .agg xs, .agg ys => aggBin P op t ox oy (.agg xs) (.agg ys)
  | x, y => (P.underlying t).bind fun d => match op with
    | .eql => (eqSmall d x y).map fun b => .bool b
    | .neq => (eqSmall d x y).map fun b => .bool (!b)
    | _ => none

def aun (op : UnOp) (x : Value) : Option Value :=
  match op, x with
  | .neg, .int k n => some (.int k (k.wrap (0 - n)))
  | .xor, .int k n => some (.int k (k.wrap (BitVec.ofInt k.bits (if k.signed then -1 else k.max) ^^^ BitVec.ofInt k.bits n).toNat))
  | .not, .bool b => some (.bool !b)
  | _, _ => none

/-! ### Types, as the tables tell them -/
def isAggD : TypeDesc → Bool
  | .struct _ | .array _ _ => true
  | _ => false
def aggT (P : Program) (t : TypeId) : Option Bool := (P.underlying t).map isAggD
def sizeT (P : Program) (t : TypeId) : Option Nat := (P.info? t).map (·.size)
def bytesT (P : Program) (t : TypeId) : Option Nat := (P.info? t).map (·.bytes)
def zeroT (P : Program) (t : TypeId) : Option Value := (P.info? t).bind fun i => i.zero.bind fun z => if constOk z = true then some z else none

/-! ### Reading and writing -/
def cellsV : Value → List Value
  | .agg cs => cs.toList
  | v => [v]

def readRow (s : St) (b : Nat) : Option (List Value) :=
  match s.heap[b]? with
  | some (.row _ _ .dead) => none
  | some (.row _ cells _) => some cells
  | _ => none

/-- so many cells from a place on -/
def readN (s : St) (b off n : Nat) : Option (List Value) :=
  (readRow s b).bind fun cells => if off + n ≤ cells.length then some ((cells.drop off).take n) else none

def aload (agg : Bool) (n : Nat) (a : Value) (s : St) : Option Value :=
  match a with
  | .pointer (some ⟨b, off, none⟩) =>
    if agg then (readN s b off n).map fun cs => .agg cs.toArray
    else (readRow s b).bind fun cells => cells[off]?
  | _ => none

def putCells (cells : List Value) (off : Nat) (vs : List Value) : List Value := cells.take off ++ vs ++ cells.drop (off + vs.length)

def writeN (s : St) (b off : Nat) (vs : List Value) : Option St :=
  match s.heap[b]? with
  | some (.row n cells .act) => if off + vs.length ≤ cells.length then some (s.putB b (.row n (putCells cells off vs) .act)) else none
  | _ => none

def isLeaf : Value → Bool
  | .agg _ | .tuple _ => false
  | _ => true

def astore (n : Nat) (a v : Value) (s : St) : Option St :=
  match a with
  | .pointer (some ⟨b, off, none⟩) =>
    if (cellsV v).length = n ∧ (cellsV v).all isLeaf = true then writeN s b off (cellsV v) else none
  | _ => none

/-- leaves without closures -/
def leaf0 : Value → Bool
  | .agg _ | .tuple _ | .iface _ _ | .float _ _ | .complex _ _ _ | .chan _ => false
  | .func _ a b => a.isEmpty && b.isEmpty
  | _ => true
def notIface : Value → Bool
  | .iface _ _ => false
  | _ => true
def ifaceOk : Value → Bool
  | .agg cs => cs.toList.all notIface
  | .tuple _ | .iface _ _ => false
  | _ => true

/-- a new row -/
def anew (cs : List Value) (s : St) : Option (Value × St) :=
  if cs.all isLeaf = true then some (.pointer (some ⟨s.heap.length, 0, none⟩), s.push (.row 0 cs .act)) else none

def afill (place : Nat → Option (Nat × Nat)) (cells : List Value) : List (Nat × Value) → Option (List Value)
  | [] => some cells
  | (i, v) :: rest =>
    match place i with
    | none => none
    | some (off, size) => if (cellsV v).length = size ∧ off + size ≤ cells.length ∧ (cellsV v).all isLeaf = true then afill place (putCells cells off (cellsV v)) rest else none

def placeS (l : List (Nat × Nat)) (i : Nat) : Option (Nat × Nat) := l[i]?
def placeA (n : Nat) (i : Nat) : Option (Nat × Nat) := some (i * n, n)
def fieldsT (P : Program) : List Field → Option (List (Nat × Nat))
  | [] => some []
  | f :: fs => (sizeT P f.type).bind fun n => (fieldsT P fs).map fun l => (f.offset, n) :: l
def placesT (P : Program) (t : TypeId) : Option (Nat → Option (Nat × Nat)) :=
  match P.underlying t with
  | some (.struct fs) => (fieldsT P fs.toList).map placeS
  | some (.array _ e) => (sizeT P e).map placeA
  | _ => none

def repCells (z : List Value) : Nat → List Value
  | 0 => []
  | n + 1 => z ++ repCells z n

def afield (agg : Bool) (off n : Nat) (x : Value) : Option Value :=
  match x with
  | .agg cs => if agg then (if off + n ≤ cs.size then some (.agg ((cs.toList.drop off).take n).toArray) else none) else cs.toList[off]?
  | _ => none

def fieldT (P : Program) (t : TypeId) (i : Nat) : Option (Nat × TypeId) :=
  match P.underlying t with
  | some (.struct fs) => (fs[i]?).map fun f => (f.offset, f.type)
  | _ => none

def afieldAddr (off : Nat) (a : Value) : Option Value :=
  match a with
  | .pointer (some ⟨b, o, none⟩) => some (.pointer (some ⟨b, o + off, none⟩))
  | _ => none

/-- the address of an element of a slice -/
def aindexS (n : Nat) (x ix : Value) : Option Value :=
  match x, ix with
  | .slice (some ⟨b, o, none⟩) len _, .int _ i => if 0 ≤ i ∧ i < len then some (.pointer (some ⟨b, o + i.toNat * n, none⟩)) else none
  | _, _ => none
/-- the address of an element of an array -/
def aindexA (len n : Nat) (x ix : Value) : Option Value :=
  match x, ix with
  | .pointer (some ⟨b, o, none⟩), .int _ i => if 0 ≤ i ∧ i < len then some (.pointer (some ⟨b, o + i.toNat * n, none⟩)) else none
  | _, _ => none

def aindexStr (x ix : Value) : Option Value :=
  match x, ix with
  | .string s, .int _ i => if 0 ≤ i then (s.data.toList[i.toNat]?).map fun b => .int .u8 b.toNat else none
  | _, _ => none
def aindexAgg (agg : Bool) (len n : Nat) (x ix : Value) : Option Value :=
  match ix with
  | .int _ i => if 0 ≤ i ∧ i < len then afield agg (i.toNat * n) n x else none
  | _ => none

/-! ### Slicing -/
def abound (d : Nat) : Option Value → Option Nat
  | none => some d
  | some (.int _ i) => if 0 ≤ i then some i.toNat else none
  | _ => none

def asliceStr (s : ByteArray) (lo hi : Option Value) : Option Value :=
  (abound s.size hi).bind fun h => (abound 0 lo).bind fun l => if l ≤ h ∧ h ≤ s.size then some (.string (s.extract l h)) else none

def cutRow (n : Nat) (a : Option Addr) (l len cap : Nat) : Option Value :=
  match a with
  | none => some (.slice none len cap)
  | some ⟨b, o, none⟩ => some (.slice (some ⟨b, o + l * n, none⟩) len cap)
  | _ => none
def asliceSl (n : Nat) (a : Option Addr) (len cap : Nat) (lo hi mx : Option Value) : Option Value :=
  if mx.isNone || hi.isSome then
  (abound cap mx).bind fun m => (abound len hi).bind fun h => (abound 0 lo).bind fun l =>
    if l ≤ h ∧ h ≤ m ∧ m ≤ cap then cutRow n a l (h - l) (m - l) else none
  else none

def aslice (n : Nat) (x : Value) (lo hi mx : Option Value) : Option Value :=
  match x, mx with
  | .string s, none => asliceStr s lo hi
  | .slice a len cap, mx => asliceSl n a len cap lo hi mx
  | _, _ => none
/-- of an array, at its address -/
def asliceArr (len n : Nat) (x : Value) (lo hi mx : Option Value) (s : St) : Option Value :=
  match x with
  | .pointer (some a) => match s.heap[a.block]? with
    | some (.row 0 _ st) => if st = .dead then none else asliceSl n (some a) len len lo hi mx
    | _ => none
  | _ => none

/-! ### Bytes and strings -/
def bytesV (s : ByteArray) : List Value := s.data.toList.map fun b => .int .u8 b.toNat
def unbytes : List Value → Option (List UInt8)
  | [] => some []
  | .int .u8 n :: l => (unbytes l).map fun r => UInt8.ofNat n.toNat :: r
  | _ => none

def abytesToStr (x : Value) (s : St) : Option Value :=
  match x with
  | .slice none _ _ => some (.string .empty)
  | .slice (some ⟨b, o, none⟩) len _ => (readN s b o len).bind fun cs => (unbytes cs).map fun l => .string ⟨l.toArray⟩
  | _ => none

/-! ### append, copy -/
def elemsOf (n : Nat) (x : Value) (s : St) : Option (List Value) :=
  match x with
  | .slice none 0 _ => some []
  | .slice (some ⟨b, o, none⟩) len _ => readN s b o (len * n)
  | .string t => if n = 1 then some (bytesV t) else none
  | _ => none
def lenV : Value → Option Nat
  | .slice _ n _ => some n
  | .string s => some s.size
  | _ => none

/-- room to grow into -/
def roomA (q w : Nat) : Prop := q * w ≤ 140737488355328 ∨ (q + q / 4 + 192) * w ≤ 281474976710656
instance (q w : Nat) : Decidable (roomA q w) := inferInstanceAs (Decidable (_ ∨ _))

/-- 'append': in place where it is known that there is room; else the row is a new one, and the elder one is no more (it may be the same). n: an element's cells, w: its bytes. -/
def aappend (n w : Nat) (x y : Value) (s : St) : Option (Value × St) :=
  if 0 < w then
  (lenV y).bind fun m => (elemsOf n y s).bind fun new =>
  match x with
  | .slice none 0 0 => if roomA m w then (if m = 0 then some (.slice none 0 0, s) else some (.slice (some ⟨s.heap.length, 0, none⟩) m m, s.push (.row n new .act))) else none
  | .slice (some ⟨b, o, none⟩) len cap =>
    if roomA (len + m) w then
      if len + m ≤ cap then
        if m = 0 then some (.slice (some ⟨b, o, none⟩) len cap, s)
        else (writeN s b (o + len * n) new).map fun s' => (.slice (some ⟨b, o, none⟩) (len + m) cap, s')
      else
        match s.heap[b]? with
        | some (.row n' cells .act) =>
          if n' = n ∧ o = 0 ∧ len * n = cells.length then
            some (.slice (some ⟨s.heap.length, 0, none⟩) (len + m) (len + m), (s.putB b (.row n cells .dead)).push (.row n (cells ++ new) .act))
          else none
        | _ => none
    else none
  | _ => none
  else none

def acopy (n : Nat) (x y : Value) (s : St) : Option (Value × St) :=
  (lenV y).bind fun m => (elemsOf n y s).bind fun new =>
  match x with
  | .slice none 0 _ => some (.int .i64 0, s)
  | .slice (some ⟨b, o, none⟩) len _ =>
    if min m len = 0 then some (.int .i64 0, s) else (writeN s b o (new.take (min m len * n))).map fun s' => (.int .i64 (min m len : Nat), s')
  | _ => none

def amake (n w : Nat) (zero : List Value) (len cap : Value) (s : St) : Option (Value × St) :=
  match len, cap with
  | .int _ l, .int _ c => if 0 ≤ l ∧ l ≤ c ∧ c ≤ 9223372036854775807 ∧ c.toNat * w ≤ 140737488355328 ∧ zero.length = n ∧ zero.all isLeaf = true then
      some (.slice (some ⟨s.heap.length, 0, none⟩) l.toNat c.toNat, s.push (.row n (repCells zero c.toNat) .act)) else none
  | _, _ => none

def alen (x : Value) (s : St) : Option Value :=
  match x with
  | .string t => some (.int .i64 t.size)
  | .slice _ n _ => some (.int .i64 n)
  | .map none => some (.int .i64 0)
  | .map (some r) => match s.heap[r]? with
    | some (.map es _) => some (.int .i64 es.length)
    | _ => none
  | _ => none

/-- the value is one of the type -/
def lenFits : TypeDesc → Value → Bool
  | .string, .string _ => true
  | .slice _, .slice _ _ _ => true
  | .map _ _, .map _ => true
  | _, _ => false

def amin2 : Value → Value → Option Value
  | .int k x, .int k' y => if k = k' then some (.int k (if y < x then y else x)) else none
  | .string x, .string y => some (.string (if Op.bytesLess x.toList y.toList || x.toList == y.toList then x else y))
  | _, _ => none
def amax2 : Value → Value → Option Value
  | .int k x, .int k' y => if k = k' then some (.int k (if y > x then y else x)) else none
  | .string x, .string y => some (.string (if !(Op.bytesLess x.toList y.toList) then x else y))
  | _, _ => none

/-- 'clear' of a slice -/
def aclear (n : Nat) (zero : List Value) (x : Value) (s : St) : Option St :=
  match x with
  | .slice none _ _ => some s
  | .slice (some _) 0 _ => some s
  | .slice (some ⟨b, o, none⟩) len _ => if zero.length = n ∧ zero.all isLeaf = true then writeN s b o (repCells zero len) else none
  | _ => none

/-! ### What an operation gives, each a function of its operands' values -/
def apick : Value → Value → Value → Option Value
  | .bool true, a, _ => some a
  | .bool false, _, b => some b
  | _, _, _ => none
def anilCheck : Value → Option Value
  | .pointer (some a) => some (.pointer (some a))
  | .func (.func f) first captured => some (.func (.func f) first captured)
  | _ => none
def convInt (kd : IntKind) : Value → Option Value
  | .int _ n => some (.int kd (kd.wrap n))
  | _ => none
def convStr : Value → Option Value
  | .string t => some (.string t)
  | _ => none
def convBytes (x : Value) (s : St) : Option (Value × St) :=
  match x with
  | .string t => if t.size ≤ 140737488355328 then some (.slice (some ⟨s.heap.length, 0, none⟩) t.size t.size, s.push (.row 1 (bytesV t) .act)) else none
  | _ => none
def convSl (x : Value) (s : St) : Option Value :=
  match x with
  | .slice (some ⟨b, off, none⟩) (len + 1) cap => match s.heap[b]? with
    | some (.row 1 _ .act) => some (.slice (some ⟨b, off, none⟩) (len + 1) cap)
    | _ => none
  | _ => none
def atypeAssert (z : Value) (asserted : TypeId) (x : Value) : Option Value :=
  match x with
  | .nilIface => some (.tuple #[z, .bool false])
  | .iface t v => some (.tuple #[cond (Nat.beq t asserted) v z, .bool (Nat.beq t asserted)])
  | _ => none
def aiface (t : TypeId) (v : Value) : Option Value := if ifaceOk v = true then some (.iface t v) else none
def asliceStrV (x : Value) (lo hi mx : Option Value) : Option Value :=
  match x, mx with
  | .string s, none => asliceStr s lo hi
  | _, _ => none
def asliceV (n : Nat) (x : Value) (lo hi mx : Option Value) : Option Value :=
  match x with
  | .slice a len cap => asliceSl n a len cap lo hi mx
  | _ => none
def isTup : Value → Bool
  | .tuple _ => true
  | _ => false
def aextract (i : Nat) : Value → Option Value
  | .tuple vs => (vs.toList[i]?).bind fun v => if isTup v = true then none else some v
  | _ => none
def amkFunc (f : FuncId) (a b : List Value) : Option Value := if a.all leaf0 = true ∧ b.all leaf0 = true then some (.func (.func f) a.toArray b.toArray) else none
def abuild (P : Program) (t : TypeId) (ps : List (Nat × Value)) : Option Value :=
  (placesT P t).bind fun pl => (zeroT P t).bind fun z => (afill pl (cellsV z) ps).map fun cs => .agg cs.toArray
/-- a new row of so many elements, with these among them; n: an element's cells -/
def abuildSl (n : Nat) (z : List Value) (len : Nat) (ps : List (Nat × Value)) (s : St) : Option (Value × St) :=
  if len * n ≤ 16777216 ∧ z.length = n ∧ z.all isLeaf = true then (afill (placeA n) (repCells z len) ps).map fun cs => (.slice (some ⟨s.heap.length, 0, none⟩) len len, s.push (.row n cs .act)) else none
def alenV (d : TypeDesc) (x : Value) (s : St) : Option Value := if lenFits d x = true then alen x s else none

/-- 'append' of so many zeros to nothing -/
def aappendZ (n w : Nat) (z : List Value) (x y : Value) (s : St) : Option (Value × St) :=
  match x, y with
  | .slice none 0 0, .int _ m => if 0 < m ∧ m.toNat * w ≤ 140737488355328 ∧ 0 < w ∧ 0 < n ∧ z.length = n ∧ z.all isLeaf = true then some (.slice (some ⟨s.heap.length, 0, none⟩) m.toNat m.toNat, s.push (.row n (repCells z m.toNat) .act)) else none
  | _, _ => none
/-- 'cap' of nothing -/
def acap (x : Value) : Option Value :=
  match x with
  | .slice none 0 0 => some (.int .i64 0)
  | _ => none

abbrev Caller := FuncId → List Value → St → Option (Value × St)

/-! ### One operation; what follows is a function of its value and of the memory -/
section
variable (P : Program) (call : FuncId → List Value → St → Option (Value × St)) {β : Type}

def opds (T : Fr) : List Operand → Option (List Value)
  | [] => some []
  | x :: l => (opd T x).bind fun v => (opds T l).map fun r => v :: r
def opdParts (T : Fr) : List (Nat × Operand) → Option (List (Nat × Value))
  | [] => some []
  | (i, x) :: l => (opd T x).bind fun v => (opdParts T l).map fun r => (i, v) :: r
def opdO (T : Fr) : Option Operand → Option (Option Value)
  | none => some none
  | some x => (opd T x).map some

def funcOk (f : FuncId) : Bool :=
  match P.funcs[f]? with
  | some fn => fn.name != "runtime.NumGoroutine" && fn.body.isSome
  | none => false

def callV (f : Value) (xs : List Value) (s : St) : Option (Value × St) :=
  match f with
  | .func (.func g) first captured => if funcOk P g then call g (first.toList ++ xs ++ captured.toList) s else none
  | _ => none

def evalBuiltin (b : Builtin) (ts : List TypeId) (xs : List Value) (s : St) (k : Value → St → Option β) : Option β :=
  match b, ts, xs with
  | .append, [t, u], [x, y] =>
    match P.underlying t, P.underlying u with
    | some (.slice e), some (.int _) => (sizeT P e).bind fun n => (bytesT P e).bind fun w => (zeroT P e).bind fun z => (aappendZ n w (cellsV z) x y s).bind fun r => k r.1 r.2
    | some (.slice e), some _ => (sizeT P e).bind fun n => (bytesT P e).bind fun w => (zeroT P e).bind fun z => if (cellsV z).length = n then (aappend n w x y s).bind fun r => k r.1 r.2 else none
    | _, _ => none
  | .copy, [t, _], [x, y] =>
    match P.underlying t with
    | some (.slice e) => (sizeT P e).bind fun n => (acopy n x y s).bind fun r => k r.1 r.2
    | _ => none
  | .len, t :: _, [x] =>
    match P.underlying t with
    | some (.array n _) => k (.int .i64 n) s
    | some (.pointer a) => match P.underlying a with
      | some (.array n _) => k (.int .i64 n) s
      | _ => none
    | some d => (alenV d x s).bind fun v => k v s
    | none => none
  | .cap, t :: _, [x] =>
    match P.underlying t with
    | some (.slice _) => (acap x).bind fun v => k v s
    | _ => none
  | .min, _, [x, y] => (amin2 x y).bind fun v => k v s
  | .max, _, [x, y] => (amax2 x y).bind fun v => k v s
  | .min, _, [x, y, z] => (amin2 x y).bind fun v => (amin2 v z).bind fun v => k v s
  | .max, _, [x, y, z] => (amax2 x y).bind fun v => (amax2 v z).bind fun v => k v s
  | .clear, t :: _, [x] =>
    match P.underlying t with
    | some (.slice e) => (sizeT P e).bind fun n => (zeroT P e).bind fun z => (aclear n (cellsV z) x s).bind fun s' => k (.tuple #[]) s'
    | _ => none
  | _, _, _ => none

def evalOp (T : Fr) (o : Oper) (s : St) (k : Value → St → Option β) : Option β :=
  match o.op with
  | .move x | .assign x => (opd T x).bind fun v => k v s
  | .pick c a b => (opd T c).bind fun c => (opd T a).bind fun a => (opd T b).bind fun b => (apick c a b).bind fun v => k v s
  | .alloc e => (zeroT P e).bind fun z => (anew (cellsV z) s).bind fun r => k r.1 r.2
  | .box _ x => (opd T x).bind fun v => (anew (cellsV v) s).bind fun r => k r.1 r.2
  | .build t parts => (opdParts T parts.toList).bind fun ps => (abuild P t ps).bind fun v => k v s
  | .buildSlice t len parts =>
    match P.underlying t with
    | some (.slice e) => (opdParts T parts.toList).bind fun ps => (sizeT P e).bind fun n => (zeroT P e).bind fun z => (abuildSl n (cellsV z) len ps s).bind fun r => k r.1 r.2
    | _ => none
  | .load t a => (opd T a).bind fun a => (aggT P t).bind fun ag => (sizeT P t).bind fun n => (aload ag n a s).bind fun v => k v s
  | .store t a x => (opd T a).bind fun a => (opd T x).bind fun x => (sizeT P t).bind fun n => (astore n a x s).bind fun s' => k undef s'
  | .nilCheck x => (opd T x).bind fun v => (anilCheck v).bind fun v => k v s
  | .binOp op t x y _ => (opd T x).bind fun vx => (opd T y).bind fun vy => (abin P op t x y vx vy).bind fun v => k v s
  | .unOp op _ x => (opd T x).bind fun x => (aun op x).bind fun v => k v s
  | .convert src dst x => (opd T x).bind fun x =>
    match P.underlying src, P.underlying dst with
    | some (.int _), some (.int kd) => (convInt kd x).bind fun v => k v s
    | some .string, some .string => (convStr x).bind fun v => k v s
    | some .string, some (.slice e) => match P.underlying e with
      | some (.int .u8) => (convBytes x s).bind fun r => k r.1 r.2
      | _ => none
    | some (.slice e), some .string => match P.underlying e with
      | some (.int .u8) => (abytesToStr x s).bind fun v => k v s
      | _ => none
    | some (.slice e), some (.slice _) => if src = dst then (match P.underlying e with
      | some (.int .u8) => (convSl x s).bind fun v => k v s
      | _ => none) else none
    | _, _ => none
  | .makeInterface t x => (opd T x).bind fun v => match P.underlying t with
    | some (.interface _) => none
    | some _ => (aiface t v).bind fun v => k v s
    | none => none
  | .makeFunc fn first captured => match fn with
    | .func f => (opds T first.toList).bind fun a => (opds T captured.toList).bind fun b => (amkFunc f a b).bind fun v => k v s
    | _ => none
  | .makeSlice t l c => (opd T l).bind fun l => (opd T c).bind fun c =>
    match P.underlying t with
    | some (.slice e) => (sizeT P e).bind fun n => (bytesT P e).bind fun w => (zeroT P e).bind fun z => (amake n w (cellsV z) l c s).bind fun r => k r.1 r.2
    | _ => none
  | .slice t x lo hi mx => (opd T x).bind fun x => (opdO T lo).bind fun lo => (opdO T hi).bind fun hi => (opdO T mx).bind fun mx =>
    match P.underlying t with
    | some .string => (asliceStrV x lo hi mx).bind fun v => k v s
    | some (.slice e) => (sizeT P e).bind fun n => (asliceV n x lo hi mx).bind fun v => k v s
    | some (.array len e) => (sizeT P e).bind fun n => (asliceArr len n x lo hi mx s).bind fun v => k v s
    | some (.pointer a) => match P.underlying a with
      | some (.array len e) => (sizeT P e).bind fun n => (asliceArr len n x lo hi mx s).bind fun v => k v s
      | _ => none
    | _ => none
  | .fieldAddr t x i => (opd T x).bind fun x => (fieldT P t i).bind fun f => (sizeT P f.2).bind fun n => if n = 0 then none else (afieldAddr f.1 x).bind fun v => k v s
  | .field t x i => (opd T x).bind fun x => (fieldT P t i).bind fun f => (aggT P f.2).bind fun ag => (sizeT P f.2).bind fun n => (afield ag f.1 n x).bind fun v => k v s
  | .indexAddr t x i => (opd T x).bind fun x => (opd T i).bind fun i =>
    match P.underlying t with
    | some (.slice e) => (sizeT P e).bind fun n => (aindexS n x i).bind fun v => k v s
    | some (.array len e) => (sizeT P e).bind fun n => (aindexA len n x i).bind fun v => k v s
    | _ => none
  | .index t x i => (opd T x).bind fun x => (opd T i).bind fun i =>
    match P.underlying t with
    | some .string => (aindexStr x i).bind fun v => k v s
    | some (.array len e) => (aggT P e).bind fun ag => (sizeT P e).bind fun n => (aindexAgg ag len n x i).bind fun v => k v s
    | _ => none
  | .extract x i => (opd T x).bind fun x => (aextract i x).bind fun v => k v s
  | .call c => match c.callee with
    | .builtin b => (opds T c.args.toList).bind fun xs => evalBuiltin P b c.argTypes.toList xs s k
    | .value f => (opd T f).bind fun f => (opds T c.args.toList).bind fun xs => (callV P call f xs s).bind fun r => k r.1 r.2
    | _ => none
  | .typeAssert x _ asserted ok => (opd T x).bind fun x => match P.underlying asserted with
    | some (.interface _) => none
    | some _ => (zeroT P asserted).bind fun z => if ok = true then (atypeAssert z asserted x).bind fun v => k v s else none
    | none => none
  | _ => none

end

end Go.Proofs.Ytamaapapaiopiaa.Ab
