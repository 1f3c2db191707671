/- Texts of this proof, packed: AbCore, BRun, AbRel, AbPrim, AbOps, AbOps2, AbOps3, AbOps4, AbOps5, AbOps6, AbOps7, AbMap, AbIter. -/
import Derived.Orders
import Derived.Laws.Sem
import Derived.Laws.World
import Derived.Laws.Cells
import Derived.Below
import Derived.Calls
import Derived.CallsIn
import Derived.OrdersIn
import Derived.LoopNIn
import Derived.AtR
import Derived.Laws.MakeOwn
import Derived.Laws.BytesString
import Derived.Laws.Append
import Derived.Laws.Slices
import Derived.Deep.DeepAppendWide
import Derived.Lib.AppendZerosOnto
import GoSem.Instr.MapEntry
import GoSem.Instr.Range
import GoSem.Instr.Next
set_option linter.unusedVariables false
set_option linter.unusedSimpArgs false
set_option linter.unusedSectionVars false
/- The abstract machine,in which every operation has one outcome: definitions alone. -/
namespace Go.Proofs.YtmbhnbladmpnoaaGreat.Ab
open Go
abbrev Fr:=Nat→Value
def getT (T : Fr) (i : Nat) : Value:=T i
def setT (T : Fr) (i : Nat) (v : Value) : Fr:=fun j=>cond (Nat.beq j i) v (T j)
def getL : List Value→Nat→Value
  | [],_=>undef
  | v :: _,0=>v
  | _ :: T,i + 1=>getL T i
inductive Stat where
  | ro | act | dead
  deriving DecidableEq
inductive Blk where
  | row (n : Nat) (cells : List Value) (st : Stat)
  | map (es : List (Value × Value × Nat)) (clock : Nat)
structure St where
  heap : List Blk
def St.push (s : St) (b : Blk) : St:=⟨s.heap ++ [b]⟩
def St.putB (s : St) (i : Nat) (b : Blk) : St:=⟨s.heap.set i b⟩
def AX : Value→Bool
  | .bool _ | .int _ _ | .string _ | .pointer none | .map none | .nilFunc | .nilIface=>true
  | .slice none 0 0=>true
  | .func _ first captured=>first.isEmpty && captured.isEmpty
  | _=>false
def A0 : Value→Bool
  | .agg cs=>cs.toList.all AX
  | v=>AX v
def ZbY : Value→Bool
  | .tuple cs=>cs.toList.all A0
  | v=>A0 v
def opd (T : Fr) : Operand→Option Value
  | .tmp t=>some (getT T t)
  | .const v=>if ZbY v then some v else none
  | .global _=>none
  | .func f=>some (.func (.func f) #[] #[])
def AP (P : Program) {α : Type} : Sem α→Option α
  | .pure a=>some a
  | .program k=>AP P (k P)
  | _=>none
def DK (op : BinOp) (k : IntKind) (x : Int) (k' : IntKind) (y : Int) : Option Value :=
  match op with
  | .shl=>if y < 0 then none else some (.int k (k.wrap (x * 2 ^ (min y.toNat k.bits))))
  | .shr=>if y < 0 then none else some (.int k (x.fdiv (2 ^ (min y.toNat k.bits))))
  | .add=>if k = k' then some (.int k (k.wrap (x + y))) else none
  | .sub=>if k = k' then some (.int k (k.wrap (x - y))) else none
  | .mul=>if k = k' then some (.int k (k.wrap (x * y))) else none
  | .quo=>if k = k' then (if y = 0 then none else some (.int k (k.wrap (x.tdiv y)))) else none
  | .rem=>if k = k' then (if y = 0 then none else some (.int k (x.tmod y))) else none
  | .and=>if k = k' then some (.int k (k.wrap (BitVec.ofInt k.bits x &&& BitVec.ofInt k.bits y).toNat)) else none
  | .or=>if k = k' then some (.int k (k.wrap (BitVec.ofInt k.bits x ||| BitVec.ofInt k.bits y).toNat)) else none
  | .xor=>if k = k' then some (.int k (k.wrap (BitVec.ofInt k.bits x ^^^ BitVec.ofInt k.bits y).toNat)) else none
  | .andNot=>if k = k' then some (.int k (k.wrap (BitVec.ofInt k.bits x &&& ~~~ (BitVec.ofInt k.bits y)).toNat)) else none
  | .eql=>if k = k' then some (.bool (x == y)) else none
  | .neq=>if k = k' then some (.bool (x != y)) else none
  | .lss=>if k = k' then some (.bool (decide (x < y))) else none
  | .leq=>if k = k' then some (.bool (decide (x ≤ y))) else none
  | .gtr=>if k = k' then some (.bool (decide (x > y))) else none
  | .geq=>if k = k' then some (.bool (decide (x ≥ y))) else none
def NJ (op : BinOp) (x y : ByteArray) : Option Value :=
  match op with
  | .add=>if x.size + y.size ≤ 9223372036854775807 then some (.string (x ++ y)) else none
  | .eql=>some (.bool (x.toList == y.toList))
  | .neq=>some (.bool (!(x.toList == y.toList)))
  | .lss=>some (.bool (Op.bytesLess x.toList y.toList))
  | .leq=>some (.bool (Op.bytesLess x.toList y.toList || x.toList == y.toList))
  | .gtr=>some (.bool (!(Op.bytesLess x.toList y.toList || x.toList == y.toList)))
  | .geq=>some (.bool (!(Op.bytesLess x.toList y.toList)))
  | _=>none
def La (d : TypeDesc) (x y : Value) : Option Bool :=
  match d,x,y with
  | .bool,.bool a,.bool b=>some (a == b)
  | .pointer _,.pointer none,.pointer b=>some b.isNone
  | .pointer _,.pointer (some _),.pointer none=>some false
  | .slice _,.slice none _ _,.slice b _ _=>some b.isNone
  | .slice _,.slice (some _) _ _,.slice none _ _=>some false
  | .map _ _,.map none,.map b=>some b.isNone
  | .map _ _,.map (some _),.map none=>some false
  | .func _ _ _,.nilFunc,.nilFunc=>some true
  | .func _ _ _,.nilFunc,.func _ _ _=>some false
  | .func _ _ _,.func _ _ _,.nilFunc=>some false
  | .interface _,.iface _ _,.nilIface=>some false
  | .interface _,.nilIface,.iface _ _=>some false
  | _,_,_=>none
def LU (P : Program) (op : BinOp) (t : TypeId) (x y : Operand) (a b : Value) : Option Value :=
  if A0 a && A0 b then
    match AP P (do eqGuard op t x y a b; binOp op t a b) with
    | some (.bool r)=>some (.bool r)
    | _=>none
  else none
def abin (P : Program) (op : BinOp) (t : TypeId) (ox oy : Operand) (x y : Value) : Option Value :=
  match x,y with
  | .int k a,.int k' b=>DK op k a k' b
  | .string a,.string b=>NJ op a b
  | .agg xs,.agg ys=>LU P op t ox oy (.agg xs) (.agg ys)
  | x,y=>(P.underlying t).bind fun d=>match op with
    | .eql=>(La d x y).map fun b=>.bool b
    | .neq=>(La d x y).map fun b=>.bool (!b)
    | _=>none
def aun (op : UnOp) (x : Value) : Option Value :=
  match op,x with
  | .neg,.int k n=>some (.int k (k.wrap (0 - n)))
  | .xor,.int k n=>some (.int k (k.wrap (BitVec.ofInt k.bits (if k.signed then -1 else k.max) ^^^ BitVec.ofInt k.bits n).toNat))
  | .not,.bool b=>some (.bool !b)
  | _,_=>none
def Zeg : TypeDesc→Bool
  | .struct _ | .array _ _=>true
  | _=>false
def aggT (P : Program) (t : TypeId) : Option Bool:=(P.underlying t).map Zeg
def B0 (P : Program) (t : TypeId) : Option Nat:=(P.info? t).map (·.size)
def HL (P : Program) (t : TypeId) : Option Nat:=(P.info? t).map (·.bytes)
def Ec (P : Program) (t : TypeId) : Option Value:=(P.info? t).bind fun i=>i.zero.bind fun z=>if A0 z = true then some z else none
def Ao : Value→List Value
  | .agg cs=>cs.toList
  | v=>[v]
def readRow (s : St) (b : Nat) : Option (List Value) :=
  match s.heap[b]? with
  | some (.row _ _ .dead)=>none
  | some (.row _ cells _)=>some cells
  | _=>none
def readN (s : St) (b off n : Nat) : Option (List Value) :=
  (readRow s b).bind fun cells=>if off + n ≤ cells.length then some ((cells.drop off).take n) else none
def Aj (agg : Bool) (n : Nat) (a : Value) (s : St) : Option Value :=
  match a with
  | .pointer (some ⟨b,off,none⟩) =>
    if agg then (readN s b off n).map fun cs=>.agg cs.toArray
    else (readRow s b).bind fun cells=>cells[off]?
  | _=>none
def AE (cells : List Value) (off : Nat) (vs : List Value) : List Value:=cells.take off ++ vs ++ cells.drop (off + vs.length)
def Fe (s : St) (b off : Nat) (vs : List Value) : Option St :=
  match s.heap[b]? with
  | some (.row n cells .act)=>if off + vs.length ≤ cells.length then some (s.putB b (.row n (AE cells off vs) .act)) else none
  | _=>none
def AI : Value→Bool
  | .agg _ | .tuple _=>false
  | _=>true
def A4 (n : Nat) (a v : Value) (s : St) : Option St :=
  match a with
  | .pointer (some ⟨b,off,none⟩) =>
    if (Ao v).length = n∧(Ao v).all AI = true then Fe s b off (Ao v) else none
  | _=>none
def leaf0 : Value→Bool
  | .agg _ | .tuple _ | .iface _ _ | .float _ _ | .complex _ _ _ | .chan _=>false
  | .func _ a b=>a.isEmpty && b.isEmpty
  | _=>true
def Rc : Value→Bool
  | .iface _ _=>false
  | _=>true
def Jn : Value→Bool
  | .agg cs=>cs.toList.all Rc
  | .tuple _ | .iface _ _=>false
  | _=>true
def anew (cs : List Value) (s : St) : Option (Value × St) :=
  if cs.all AI = true then some (.pointer (some ⟨s.heap.length,0,none⟩),s.push (.row 0 cs .act)) else none
def IR (QA : Nat→Option (Nat × Nat)) (cells : List Value) : List (Nat × Value)→Option (List Value)
  | []=>some cells
  | (i,v) :: rest =>
    match QA i with
    | none=>none
    | some (off,size)=>if (Ao v).length = size∧off + size ≤ cells.length∧(Ao v).all AI = true then IR QA (AE cells off (Ao v)) rest else none
def Zeh (l : List (Nat × Nat)) (i : Nat) : Option (Nat × Nat):=l[i]?
def LV (n : Nat) (i : Nat) : Option (Nat × Nat):=some (i * n,n)
def NK (P : Program) : List Field→Option (List (Nat × Nat))
  | []=>some []
  | f :: fs=>(B0 P f.type).bind fun n=>(NK P fs).map fun l=>(f.offset,n) :: l
def Ur (P : Program) (t : TypeId) : Option (Nat→Option (Nat × Nat)) :=
  match P.underlying t with
  | some (.struct fs)=>(NK P fs.toList).map Zeh
  | some (.array _ e)=>(B0 P e).map LV
  | _=>none
def A5 (z : List Value) : Nat→List Value
  | 0=>[]
  | n + 1=>z ++ A5 z n
def HM (agg : Bool) (off n : Nat) (x : Value) : Option Value :=
  match x with
  | .agg cs=>if agg then (if off + n ≤ cs.size then some (.agg ((cs.toList.drop off).take n).toArray) else none) else cs.toList[off]?
  | _=>none
def NL (P : Program) (t : TypeId) (i : Nat) : Option (Nat × TypeId) :=
  match P.underlying t with
  | some (.struct fs)=>(fs[i]?).map fun f=>(f.offset,f.type)
  | _=>none
def Ac (off : Nat) (a : Value) : Option Value :=
  match a with
  | .pointer (some ⟨b,o,none⟩)=>some (.pointer (some ⟨b,o + off,none⟩))
  | _=>none
def Az (n : Nat) (x ix : Value) : Option Value :=
  match x,ix with
  | .slice (some ⟨b,o,none⟩) len _,.int _ i=>if 0 ≤ i∧i < len then some (.pointer (some ⟨b,o + i.toNat * n,none⟩)) else none
  | _,_=>none
def GU (len n : Nat) (x ix : Value) : Option Value :=
  match x,ix with
  | .pointer (some ⟨b,o,none⟩),.int _ i=>if 0 ≤ i∧i < len then some (.pointer (some ⟨b,o + i.toNat * n,none⟩)) else none
  | _,_=>none
def NM (x ix : Value) : Option Value :=
  match x,ix with
  | .string s,.int _ i=>if 0 ≤ i then (s.data.toList[i.toNat]?).map fun b=>.int .u8 b.toNat else none
  | _,_=>none
def HN (agg : Bool) (len n : Nat) (x ix : Value) : Option Value :=
  match ix with
  | .int _ i=>if 0 ≤ i∧i < len then HM agg (i.toNat * n) n x else none
  | _=>none
def Bi (d : Nat) : Option Value→Option Nat
  | none=>some d
  | some (.int _ i)=>if 0 ≤ i then some i.toNat else none
  | _=>none
def NN (s : ByteArray) (lo hi : Option Value) : Option Value :=
  (Bi s.size hi).bind fun h=>(Bi 0 lo).bind fun l=>if l ≤ h∧h ≤ s.size then some (.string (s.extract l h)) else none
def HO (n : Nat) (a : Option Addr) (l len cap : Nat) : Option Value :=
  match a with
  | none=>some (.slice none len cap)
  | some ⟨b,o,none⟩=>some (.slice (some ⟨b,o + l * n,none⟩) len cap)
  | _=>none
def DT (n : Nat) (a : Option Addr) (len cap : Nat) (lo hi mx : Option Value) : Option Value :=
  if mx.isNone || hi.isSome then
  (Bi cap mx).bind fun m=>(Bi len hi).bind fun h=>(Bi 0 lo).bind fun l =>
    if l ≤ h∧h ≤ m∧m ≤ cap then HO n a l (h - l) (m - l) else none
  else none
def Ff (len n : Nat) (x : Value) (lo hi mx : Option Value) (s : St) : Option Value :=
  match x with
  | .pointer (some a)=>match s.heap[a.block]? with
    | some (.row 0 _ st)=>if st = .dead then none else DT n (some a) len len lo hi mx
    | _=>none
  | _=>none
def DL (s : ByteArray) : List Value:=s.data.toList.map fun b=>.int .u8 b.toNat
def BC : List Value→Option (List UInt8)
  | []=>some []
  | .int .u8 n :: l=>(BC l).map fun r=>UInt8.ofNat n.toNat :: r
  | _=>none
def BE (x : Value) (s : St) : Option Value :=
  match x with
  | .slice none _ _=>some (.string .empty)
  | .slice (some ⟨b,o,none⟩) len _=>(readN s b o len).bind fun cs=>(BC cs).map fun l=>.string ⟨l.toArray⟩
  | _=>none
def Fg (n : Nat) (x : Value) (s : St) : Option (List Value) :=
  match x with
  | .slice none 0 _=>some []
  | .slice (some ⟨b,o,none⟩) len _=>readN s b o (len * n)
  | .string t=>if n = 1 then some (DL t) else none
  | _=>none
def lenV : Value→Option Nat
  | .slice _ n _=>some n
  | .string s=>some s.size
  | _=>none
def NO (q w : Nat) : Prop:=q * w ≤ 140737488355328 ∨ (q + q / 4 + 192) * w ≤ 281474976710656
instance (q w : Nat) : Decidable (NO q w):=inferInstanceAs (Decidable (_ ∨ _))
def AD (n w : Nat) (x y : Value) (s : St) : Option (Value × St) :=
  if 0 < w then
  (lenV y).bind fun m=>(Fg n y s).bind fun new =>
  match x with
  | .slice none 0 0=>if NO m w then (if m = 0 then some (.slice none 0 0,s) else some (.slice (some ⟨s.heap.length,0,none⟩) m m,s.push (.row n new .act))) else none
  | .slice (some ⟨b,o,none⟩) len cap =>
    if NO (len + m) w then
      if len + m ≤ cap then
        if m = 0 then some (.slice (some ⟨b,o,none⟩) len cap,s)
        else (Fe s b (o + len * n) new).map fun s'=>(.slice (some ⟨b,o,none⟩) (len + m) cap,s')
      else
        match s.heap[b]? with
        | some (.row n' cells .act) =>
          if n' = n∧o = 0∧len * n = cells.length then
            some (.slice (some ⟨s.heap.length,0,none⟩) (len + m) (len + m),(s.putB b (.row n cells .dead)).push (.row n (cells ++ new) .act))
          else none
        | _=>none
    else none
  | _=>none
  else none
def Zcz (n : Nat) (x y : Value) (s : St) : Option (Value × St) :=
  (lenV y).bind fun m=>(Fg n y s).bind fun new =>
  match x with
  | .slice none 0 _=>some (.int .i64 0,s)
  | .slice (some ⟨b,o,none⟩) len _ =>
    if min m len = 0 then some (.int .i64 0,s) else (Fe s b o (new.take (min m len * n))).map fun s'=>(.int .i64 (min m len : Nat),s')
  | _=>none
def ZcA (n w : Nat) (zero : List Value) (len cap : Value) (s : St) : Option (Value × St) :=
  match len,cap with
  | .int _ l,.int _ c=>if 0 ≤ l∧l ≤ c∧c ≤ 9223372036854775807∧c.toNat * w ≤ 140737488355328∧zero.length = n∧zero.all AI = true then
      some (.slice (some ⟨s.heap.length,0,none⟩) l.toNat c.toNat,s.push (.row n (A5 zero c.toNat) .act)) else none
  | _,_=>none
def Fh : List (Value × Value × Nat)→Bool
  | (.tuple _,_,_) :: _=>true
  | _=>false
def alen (x : Value) (s : St) : Option Value :=
  match x with
  | .string t=>some (.int .i64 t.size)
  | .slice _ n _=>some (.int .i64 n)
  | .map none=>some (.int .i64 0)
  | .map (some r)=>match s.heap[r]? with
    | some (.map es _)=>if Fh es = true then none else some (.int .i64 es.length)
    | _=>none
  | _=>none
def Re : TypeDesc→Value→Bool
  | .string,.string _=>true
  | .slice _,.slice _ _ _=>true
  | .map _ _,.map _=>true
  | _,_=>false
def PL : Value→Value→Option Value
  | .int k x,.int k' y=>if k = k' then some (.int k (if y < x then y else x)) else none
  | .string x,.string y=>some (.string (if Op.bytesLess x.toList y.toList || x.toList == y.toList then x else y))
  | _,_=>none
def PM : Value→Value→Option Value
  | .int k x,.int k' y=>if k = k' then some (.int k (if y > x then y else x)) else none
  | .string x,.string y=>some (.string (if !(Op.bytesLess x.toList y.toList) then x else y))
  | _,_=>none
def XV (n : Nat) (zero : List Value) (x : Value) (s : St) : Option St :=
  match x with
  | .slice none _ _=>some s
  | .slice (some _) 0 _=>some s
  | .slice (some ⟨b,o,none⟩) len _=>if zero.length = n∧zero.all AI = true then Fe s b o (A5 zero len) else none
  | _=>none
def AJ : Value→Value→Value→Option Value
  | .bool true,a,_=>some a
  | .bool false,_,b=>some b
  | _,_,_=>none
def Ah : Value→Option Value
  | .pointer (some a)=>some (.pointer (some a))
  | .func (.func f) first captured=>some (.func (.func f) first captured)
  | _=>none
def AM (kd : IntKind) : Value→Option Value
  | .int _ n=>some (.int kd (kd.wrap n))
  | _=>none
def XW : Value→Option Value
  | .string t=>some (.string t)
  | _=>none
def SP (x : Value) (s : St) : Option (Value × St) :=
  match x with
  | .string t=>if t.size ≤ 140737488355328 then some (.slice (some ⟨s.heap.length,0,none⟩) t.size t.size,s.push (.row 1 (DL t) .act)) else none
  | _=>none
def J9 (x : Value) (s : St) : Option (Value × St) :=
  match x with
  | .string t=>some (.slice (some ⟨s.heap.length,0,none⟩) (Conv.runesFrom t t.size 0 #[]).size (Conv.runesFrom t t.size 0 #[]).size,s.push (.row 1 (Conv.runesFrom t t.size 0 #[]).toList .act))
  | _=>none
def SQ (x : Value) (s : St) : Option Value :=
  match x with
  | .slice (some ⟨b,off,none⟩) (len + 1) cap=>match s.heap[b]? with
    | some (.row 1 _ .act)=>some (.slice (some ⟨b,off,none⟩) (len + 1) cap)
    | _=>none
  | _=>none
def Jo (z : Value) (asserted : TypeId) (x : Value) : Option Value :=
  match x with
  | .nilIface=>some (.tuple #[z,.bool false])
  | .iface t v=>some (.tuple #[cond (Nat.beq t asserted) v z,.bool (Nat.beq t asserted)])
  | _=>none
def VE (t : TypeId) (v : Value) : Option Value:=if Jn v = true then some (.iface t v) else none
def QE (x : Value) (lo hi mx : Option Value) : Option Value :=
  match x,mx with
  | .string s,none=>NN s lo hi
  | _,_=>none
def Bn (n : Nat) (x : Value) (lo hi mx : Option Value) : Option Value :=
  match x with
  | .slice a len cap=>DT n a len cap lo hi mx
  | _=>none
def PN : Value→Bool
  | .tuple _=>true
  | _=>false
def Al (i : Nat) : Value→Option Value
  | .tuple vs=>(vs.toList[i]?).bind fun v=>if PN v = true then none else some v
  | _=>none
def BF (f : FuncId) (a b : List Value) : Option Value:=if a.all leaf0 = true∧b.all leaf0 = true then some (.func (.func f) a.toArray b.toArray) else none
def AV (P : Program) (t : TypeId) (ps : List (Nat × Value)) : Option Value :=
  (Ur P t).bind fun pl=>(Ec P t).bind fun z=>(IR pl (Ao z) ps).map fun cs=>.agg cs.toArray
def As (n : Nat) (z : List Value) (len : Nat) (ps : List (Nat × Value)) (s : St) : Option (Value × St) :=
  if len * n ≤ 16777216∧z.length = n∧z.all AI = true then (IR (LV n) (A5 z len) ps).map fun cs=>(.slice (some ⟨s.heap.length,0,none⟩) len len,s.push (.row n cs .act)) else none
def AG (d : TypeDesc) (x : Value) (s : St) : Option Value:=if Re d x = true then alen x s else none
def Iv (n w : Nat) (z : List Value) (x y : Value) (s : St) : Option (Value × St) :=
  match x,y with
  | .slice none 0 0,.int _ m=>if 0 < m∧m.toNat * w ≤ 140737488355328∧0 < w∧0 < n∧z.length = n∧z.all AI = true then some (.slice (some ⟨s.heap.length,0,none⟩) m.toNat m.toNat,s.push (.row n (A5 z m.toNat) .act)) else none
  | _,_=>none
def acap (x : Value) : Option Value :=
  match x with
  | .slice none 0 0=>some (.int .i64 0)
  | _=>none
def FQ (kind : TypeDesc) (k : Value) : List Value→Nat→Option (Option Nat)
  | [],_=>some none
  | e :: es,i=>match Instr.sameNow kind k e with
    | some true=>some (some i)
    | some false=>FQ kind k es (i + 1)
    | none=>none
def SR (P : Program) (t : TypeId) (k : Value) : List Value→Nat→Option (Option Nat)
  | [],_=>some none
  | e :: es,i=>(AP P (Op.equal t k e)).bind fun b=>if b = true then some (some i) else SR P t k es (i + 1)
def LW (P : Program) (t : TypeId) (k : Value) (es : List Value) : Option (Option Nat) :=
  (P.underlying t).bind fun d=>match FQ d k es 0 with
    | some r=>some r
    | none=>SR P t k es 0
def GV (P : Program) (empty : Bool) (t : TypeId) (k : Value) : Bool:=A0 k && (AP P (Instr.checkKey empty 10000 t k)).isSome
def GW (r : Option Value) (s : St) : Option (Value × St) :=
  match r with
  | none=>some (.map (some s.heap.length),s.push (.map [] 0))
  | some (.int _ _)=>some (.map (some s.heap.length),s.push (.map [] 0))
  | _=>none
def NP (z : Value) (es : List (Value × Value × Nat)) (i : Option Nat) : Value × Bool :=
  match i with
  | some i=>match es[i]? with
    | some e=>(e.2.1,true)
    | none=>(z,false)
  | none=>(z,false)
def ET (P : Program) (kt : TypeId) (z : Value) (es : List (Value × Value × Nat)) (k : Value) (ok : Bool) : Option Value :=
  if GV P es.isEmpty kt k = true then (LW P kt k (es.map (·.1))).bind fun i=>some (cond ok (.tuple #[(NP z es i).1,.bool (NP z es i).2]) (NP z es i).1) else none
def Fi (P : Program) (kt : TypeId) (z : Value) (x k : Value) (ok : Bool) (s : St) : Option Value :=
  match x with
  | .map none=>ET P kt z [] k ok
  | .map (some r)=>match s.heap[r]? with
    | some (.map es _)=>if Fh es = true then none else ET P kt z es k ok
    | _=>none
  | _=>none
def An (P : Program) (kt : TypeId) (x k v : Value) (s : St) : Option St :=
  if PN v = true then none else
  match x with
  | .map (some r)=>match s.heap[r]? with
    | some (.map es clock)=>if Fh es = true then none else if GV P false kt k = true then (LW P kt k (es.map (·.1))).bind fun i=>match i with
        | some i=>match es[i]? with
          | some e=>if Instr.sameBits 10000 e.1 k = true then some (s.putB r (.map (es.modify i fun e=>(k,v,e.2.2)) clock)) else none
          | none=>none
        | none=>some (s.putB r (.map (es ++ [(k,v,clock)]) (clock + 1)))
      else none
    | _=>none
  | _=>none
def NQ (P : Program) (kt : TypeId) (z : Value) (x k : Value) (s : St) : Option (Value × St) :=
  match x with
  | .map (some r)=>match s.heap[r]? with
    | some (.map es clock)=>if Fh es = true then none else if GV P false kt k = true then (LW P kt k (es.map (·.1))).bind fun i=>match i with
        | some i=>match es[i]? with
          | some e=>if Instr.sameBits 10000 e.1 k = true then some (.tuple #[e.2.1,goInt e.2.2],s.putB r (.map (es.modify i fun e=>(k,e.2.1,e.2.2)) clock)) else none
          | none=>none
        | none=>some (.tuple #[z,goInt clock],s.putB r (.map (es ++ [(k,z,clock)]) (clock + 1)))
      else none
    | _=>none
  | _=>none
def Jp (x st v : Value) (s : St) : Option St :=
  if PN v = true then none else
  match x,st with
  | .map (some r),.int _ n=>match s.heap[r]? with
    | some (.map es clock)=>if Fh es = true then none else match es.findIdx? (fun e=>(e.2.2 : Int) == n) with
      | some i=>some (s.putB r (.map (es.modify i fun e=>(e.1,v,e.2.2)) clock))
      | none=>none
    | _=>none
  | _,_=>none
def Us (x : Value) (s : St) : Option St :=
  match x with
  | .map none=>some s
  | .map (some r)=>match s.heap[r]? with
    | some (.map es clock)=>if Fh es = true then none else some (s.putB r (.map [] clock))
    | _=>none
  | _=>none
def Jq (x : Value) (s : St) : Option (Value × St) :=
  match x with
  | .string t=>some (.pointer (some ⟨s.heap.length,0,none⟩),s.push (.map [(.tuple #[],.string t,0)] 0))
  | _=>none
def Lb (x : Value) (s : St) : Option (Value × St) :=
  match x with
  | .map (some r)=>match s.heap[r]? with
    | some (.map es c)=>if Fh es = true then none else some (.pointer (some ⟨s.heap.length,0,none⟩),s.push (.map [(.tuple #[],.map (some r),c)] 0))
    | _=>none
  | _=>none
def VF : List (Value × Value × Nat)→Option (ByteArray × Nat)
  | [(.tuple a,.string t,pos)]=>if a.isEmpty = true then some (t,pos) else none
  | _=>none
def Ka (x : Value) (s : St) : Option (Value × St) :=
  match x with
  | .pointer (some ⟨b,0,none⟩)=>match s.heap[b]? with
    | some (.map es c)=>(VF es).bind fun p =>
      if p.2 < p.1.size then some (.tuple #[.bool true,goInt p.2,.int .i32 (Utf8.decode p.1 p.2).1],s.putB b (.map [(.tuple #[],.string p.1,p.2 + (Utf8.decode p.1 p.2).2)] c))
      else some (.tuple #[.bool false],s)
    | _=>none
  | _=>none
abbrev Aa:=FuncId→List Value→St→Option (Value × St)
section
variable (P : Program) (call : FuncId→List Value→St→Option (Value × St)) {β : Type}
def opds (T : Fr) : List Operand→Option (List Value)
  | []=>some []
  | x :: l=>(opd T x).bind fun v=>(opds T l).map fun r=>v :: r
def DU (T : Fr) : List (Nat × Operand)→Option (List (Nat × Value))
  | []=>some []
  | (i,x) :: l=>(opd T x).bind fun v=>(DU T l).map fun r=>(i,v) :: r
def opdO (T : Fr) : Option Operand→Option (Option Value)
  | none=>some none
  | some x=>(opd T x).map some
def Aq (f : FuncId) : Bool :=
  match P.funcs[f]? with
  | some fn=>fn.name != "runtime.NumGoroutine" && fn.body.isSome
  | none=>false
def Ag (f : Value) (xs : List Value) (s : St) : Option (Value × St) :=
  match f with
  | .func (.func g) first captured=>if Aq P g then call g (first.toList ++ xs ++ captured.toList) s else none
  | _=>none
def C1 (b : Builtin) (ts : List TypeId) (xs : List Value) (s : St) (k : Value→St→Option β) : Option β :=
  match b,ts,xs with
  | .append,[t,u],[x,y] =>
    match P.underlying t,P.underlying u with
    | some (.slice e),some (.int _)=>(B0 P e).bind fun n=>(HL P e).bind fun w=>(Ec P e).bind fun z=>(Iv n w (Ao z) x y s).bind fun r=>k r.1 r.2
    | some (.slice e),some _=>(B0 P e).bind fun n=>(HL P e).bind fun w=>(Ec P e).bind fun z=>if (Ao z).length = n then (AD n w x y s).bind fun r=>k r.1 r.2 else none
    | _,_=>none
  | .copy,[t,_],[x,y] =>
    match P.underlying t with
    | some (.slice e)=>(B0 P e).bind fun n=>(Zcz n x y s).bind fun r=>k r.1 r.2
    | _=>none
  | .len,t :: _,[x] =>
    match P.underlying t with
    | some (.array n _)=>k (.int .i64 n) s
    | some (.pointer a)=>match P.underlying a with
      | some (.array n _)=>k (.int .i64 n) s
      | _=>none
    | some d=>(AG d x s).bind fun v=>k v s
    | none=>none
  | .cap,t :: _,[x] =>
    match P.underlying t with
    | some (.slice _)=>(acap x).bind fun v=>k v s
    | _=>none
  | .min,_,[x,y]=>(PL x y).bind fun v=>k v s
  | .max,_,[x,y]=>(PM x y).bind fun v=>k v s
  | .min,_,[x,y,z]=>(PL x y).bind fun v=>(PL v z).bind fun v=>k v s
  | .max,_,[x,y,z]=>(PM x y).bind fun v=>(PM v z).bind fun v=>k v s
  | .clear,t :: _,[x] =>
    match P.underlying t with
    | some (.slice e)=>(B0 P e).bind fun n=>(Ec P e).bind fun z=>(XV n (Ao z) x s).bind fun s'=>k (.tuple #[]) s'
    | some (.map _ _)=>(Us x s).bind fun s'=>k (.tuple #[]) s'
    | _=>none
  | _,_,_=>none
def Bv (T : Fr) (o : Oper) (s : St) (k : Value→St→Option β) : Option β :=
  match o.op with
  | .move x | .assign x=>(opd T x).bind fun v=>k v s
  | .pick c a b=>(opd T c).bind fun c=>(opd T a).bind fun a=>(opd T b).bind fun b=>(AJ c a b).bind fun v=>k v s
  | .alloc e=>(Ec P e).bind fun z=>(anew (Ao z) s).bind fun r=>k r.1 r.2
  | .box _ x=>(opd T x).bind fun v=>(anew (Ao v) s).bind fun r=>k r.1 r.2
  | .build t parts=>(DU T parts.toList).bind fun ps=>(AV P t ps).bind fun v=>k v s
  | .buildSlice t len parts =>
    match P.underlying t with
    | some (.slice e)=>(DU T parts.toList).bind fun ps=>(B0 P e).bind fun n=>(Ec P e).bind fun z=>(As n (Ao z) len ps s).bind fun r=>k r.1 r.2
    | _=>none
  | .load t a=>(opd T a).bind fun a=>(aggT P t).bind fun ag=>(B0 P t).bind fun n=>(Aj ag n a s).bind fun v=>k v s
  | .store t a x=>(opd T a).bind fun a=>(opd T x).bind fun x=>(B0 P t).bind fun n=>(A4 n a x s).bind fun s'=>k undef s'
  | .nilCheck x=>(opd T x).bind fun v=>(Ah v).bind fun v=>k v s
  | .binOp op t x y _=>(opd T x).bind fun vx=>(opd T y).bind fun vy=>(abin P op t x y vx vy).bind fun v=>k v s
  | .unOp op _ x=>(opd T x).bind fun x=>(aun op x).bind fun v=>k v s
  | .convert src dst x=>(opd T x).bind fun x =>
    match P.underlying src,P.underlying dst with
    | some (.int _),some (.int kd)=>(AM kd x).bind fun v=>k v s
    | some .string,some .string=>(XW x).bind fun v=>k v s
    | some .string,some (.slice e)=>match P.underlying e with
      | some (.int .u8)=>(SP x s).bind fun r=>k r.1 r.2
      | some (.int .i32)=>(J9 x s).bind fun r=>k r.1 r.2
      | _=>none
    | some (.slice e),some .string=>match P.underlying e with
      | some (.int .u8)=>(BE x s).bind fun v=>k v s
      | _=>none
    | some (.slice e),some (.slice _)=>if src = dst then (match P.underlying e with
      | some (.int .u8)=>(SQ x s).bind fun v=>k v s
      | _=>none) else none
    | _,_=>none
  | .makeInterface t x=>(opd T x).bind fun v=>match P.underlying t with
    | some (.interface _)=>none
    | some _=>(VE t v).bind fun v=>k v s
    | none=>none
  | .makeFunc fn first captured=>match fn with
    | .func f=>(opds T first.toList).bind fun a=>(opds T captured.toList).bind fun b=>(BF f a b).bind fun v=>k v s
    | _=>none
  | .makeSlice t l c=>(opd T l).bind fun l=>(opd T c).bind fun c =>
    match P.underlying t with
    | some (.slice e)=>(B0 P e).bind fun n=>(HL P e).bind fun w=>(Ec P e).bind fun z=>(ZcA n w (Ao z) l c s).bind fun r=>k r.1 r.2
    | _=>none
  | .slice t x lo hi mx=>(opd T x).bind fun x=>(opdO T lo).bind fun lo=>(opdO T hi).bind fun hi=>(opdO T mx).bind fun mx =>
    match P.underlying t with
    | some .string=>(QE x lo hi mx).bind fun v=>k v s
    | some (.slice e)=>(B0 P e).bind fun n=>(Bn n x lo hi mx).bind fun v=>k v s
    | some (.array len e)=>(B0 P e).bind fun n=>(Ff len n x lo hi mx s).bind fun v=>k v s
    | some (.pointer a)=>match P.underlying a with
      | some (.array len e)=>(B0 P e).bind fun n=>(Ff len n x lo hi mx s).bind fun v=>k v s
      | _=>none
    | _=>none
  | .fieldAddr t x i=>(opd T x).bind fun x=>(NL P t i).bind fun f=>(B0 P f.2).bind fun n=>if n = 0 then none else (Ac f.1 x).bind fun v=>k v s
  | .field t x i=>(opd T x).bind fun x=>(NL P t i).bind fun f=>(aggT P f.2).bind fun ag=>(B0 P f.2).bind fun n=>(HM ag f.1 n x).bind fun v=>k v s
  | .indexAddr t x i=>(opd T x).bind fun x=>(opd T i).bind fun i =>
    match P.underlying t with
    | some (.slice e)=>(B0 P e).bind fun n=>(Az n x i).bind fun v=>k v s
    | some (.array len e)=>(B0 P e).bind fun n=>(GU len n x i).bind fun v=>k v s
    | _=>none
  | .index t x i=>(opd T x).bind fun x=>(opd T i).bind fun i =>
    match P.underlying t with
    | some .string=>(NM x i).bind fun v=>k v s
    | some (.array len e)=>(aggT P e).bind fun ag=>(B0 P e).bind fun n=>(HN ag len n x i).bind fun v=>k v s
    | _=>none
  | .extract x i=>(opd T x).bind fun x=>(Al i x).bind fun v=>k v s
  | .call c=>match c.callee with
    | .builtin b=>(opds T c.args.toList).bind fun xs=>C1 P b c.argTypes.toList xs s k
    | .value f=>(opd T f).bind fun f=>(opds T c.args.toList).bind fun xs=>(Ag P call f xs s).bind fun r=>k r.1 r.2
    | _=>none
  | .typeAssert x _ asserted ok=>(opd T x).bind fun x=>match P.underlying asserted with
    | some (.interface _)=>none
    | some _=>(Ec P asserted).bind fun z=>if ok = true then (Jo z asserted x).bind fun v=>k v s else none
    | none=>none
  | .makeMap t r=>(opdO T r).bind fun r=>match P.underlying t with
    | some (.map _ _)=>(GW r s).bind fun q=>k q.1 q.2
    | _=>none
  | .lookup t x y ok=>(opd T x).bind fun x=>(opd T y).bind fun y=>match P.underlying t with
    | some (.map ky el)=>(Ec P el).bind fun z=>(Fi P ky z x y ok s).bind fun v=>k v s
    | _=>none
  | .mapUpdate t x y q=>(opd T x).bind fun x=>(opd T y).bind fun y=>(opd T q).bind fun q=>match P.underlying t with
    | some (.map ky _)=>(An P ky x y q s).bind fun s'=>k undef s'
    | _=>none
  | .mapEntry t x y=>(opd T x).bind fun x=>(opd T y).bind fun y=>match P.underlying t with
    | some (.map ky el)=>(Ec P el).bind fun z=>(NQ P ky z x y s).bind fun q=>k q.1 q.2
    | _=>none
  | .entryStore _ x y q=>(opd T x).bind fun x=>(opd T y).bind fun y=>(opd T q).bind fun q=>(Jp x y q s).bind fun s'=>k undef s'
  | .insert t x y q=>(opd T x).bind fun x=>(opd T y).bind fun y=>(opd T q).bind fun q=>match P.underlying t with
    | some (.map ky _)=>(An P ky x y q s).bind fun s'=>k undef s'
    | _=>none
  | .range t x=>(opd T x).bind fun x=>match P.underlying t with
    | some .string=>(Jq x s).bind fun q=>k q.1 q.2
    | some (.map _ _)=>(Lb x s).bind fun q=>k q.1 q.2
    | _=>none
  | .next x str=>(opd T x).bind fun x=>if str = true then (Ka x s).bind fun q=>k q.1 q.2 else none
  | _=>none
end
end Go.Proofs.YtmbhnbladmpnoaaGreat.Ab

/- The abstract machine with variables in the frame: regions,code,functions. -/
namespace Go.Proofs.YtmbhnbladmpnoaaGreat.Ab
open Go
inductive Ex where
  | normal
  | exit (id : Nat)
  | ret
  deriving DecidableEq
abbrev Res:=Option (Ex × List Value × St)
def putT (T : Fr) (d : Option Tmp) (v : Value) : Fr :=
  match d with
  | some i=>setT T i v
  | none=>T
abbrev Tn:=List (Nat × Nat)
def look (x : Nat) : Tn→Option Nat
  | []=>none
  | (y,j) :: l=>cond (Nat.beq x y) (some j) (look x l)
def Lc (x : Nat) (tn : Tn) : Bool:=(look x tn).isNone
def CB : Value:=.tuple #[.tuple #[]]
def toL : List Nat→Fr→List Value
  | [],_=>[]
  | d :: l,T=>getT T d :: toL l T
def ofL : List Nat→Nat→List Value→Fr→Fr
  | [],_,_,T=>T
  | d :: l,p,X,T=>fun i=>cond (Nat.beq i d) (getL X p) (ofL l (p + 1) X T i)
def noT : Fr:=fun _=>CB
def LX (args : List Value) : Fr:=fun i=>getL args i
def memN (x : Nat) : List Nat→Bool
  | []=>false
  | y :: l=>cond (Nat.beq x y) true (memN x l)
def DV (j : Nat) : Tn→List Nat
  | []=>[]
  | (x,i) :: l=>cond (Nat.beq i j) (x :: DV j l) (DV j l)
def lptr : Value:=.pointer (some ⟨0,0,none⟩)
def Hq (tn : Tn) (j : Nat) (T : Fr) : Fr:=fun i=>match look i tn with | some q=>cond (Nat.beq q j) undef (T i) | none=>T i
def mkT (tn : Tn) (j : Nat) (d : Option Tmp) (c : Value) (T : Fr) : Fr:=setT (putT (Hq tn j T) d lptr) j c
def lbox (v : Value) : Option Value:=if (Ao v).all AI = true then some (.agg (Ao v).toArray) else none
def Ap (agg : Bool) (n : Nat) (a c : Value) : Option Value :=
  match a,c with
  | .pointer (some ⟨_,off,_⟩),.agg cs=>if agg = true then (if off + n ≤ cs.size then some (.agg ((cs.toList.drop off).take n).toArray) else none) else cs.toList[off]?
  | _,_=>none
def AO (n : Nat) (a v c : Value) : Option Value :=
  match a,c with
  | .pointer (some ⟨_,off,_⟩),.agg cs=>if (Ao v).length = n∧(Ao v).all AI = true∧off + n ≤ cs.size then some (.agg (AE cs.toList off (Ao v)).toArray) else none
  | _,_=>none
inductive LK where
  | glob | mk (j : Nat) | ld (j : Nat) | st (j : Nat) | ptr (j : Nat) | bad
  deriving DecidableEq
def tOf (tn : Tn) : Operand→Option Nat
  | .tmp t=>look t tn
  | _=>none
def Cr (tn : Tn) (x : Operand) : Bool:=(tOf tn x).isNone
def dOf (tn : Tn) (o : Oper) : Option Nat:=o.dst.bind fun d=>look d tn
def FI (tn : Tn) (o : Oper) : LK:=cond (o.op.operands.toList.all (Cr tn) && (dOf tn o).isNone) .glob .bad
def HP (x : Option Nat) (j : Nat) : Bool:=match x with | some i=>Nat.beq i j | none=>false
def locK (tn : Tn) (o : Oper) : LK :=
  match o.op with
  | .alloc _=>match dOf tn o with | some j=>.mk j | none=>FI tn o
  | .box _ x=>match dOf tn o with | some j=>cond (Cr tn x) (.mk j) .bad | none=>FI tn o
  | .load _ x=>match tOf tn x with | some j=>cond (dOf tn o).isNone (.ld j) .bad | none=>FI tn o
  | .store _ x y=>match tOf tn x with | some j=>cond (Cr tn y && (dOf tn o).isNone) (.st j) .bad | none=>FI tn o
  | .fieldAddr _ x _=>match tOf tn x with | some j=>cond (HP (dOf tn o) j) (.ptr j) .bad | none=>FI tn o
  | .nilCheck x=>match tOf tn x with | some j=>cond (HP (dOf tn o) j) (.ptr j) .bad | none=>FI tn o
  | .move x=>match tOf tn x with | some j=>cond (HP (dOf tn o) j) (.ptr j) .bad | none=>FI tn o
  | .assign x=>match tOf tn x with | some j=>cond (HP (dOf tn o) j) (.ptr j) .bad | none=>FI tn o
  | .indexAddr _ x y=>match tOf tn x with | some j=>cond (Cr tn y && HP (dOf tn o) j) (.ptr j) .bad | none=>FI tn o
  | _=>FI tn o
def Cw (tn : Tn) (o : Oper) : List Nat :=
  match locK tn o with
  | .mk j=>j :: (o.dst.toList ++ DV j tn)
  | .st j=>j :: o.dst.toList
  | _=>o.dst.toList
def I4 (o : Oper) : List Nat:=o.op.operands.toList.filterMap fun x=>match x with | .tmp t=>some t | _=>none
def gTmp (ops : Array Oper) (o : Oper) : List Nat :=
  match o.guard with
  | some (j,_)=>((ops[j]?).bind (·.dst)).toList
  | none=>[]
def VG (tn : Tn) (ops : Array Oper) (o : Oper) : List Nat :=
  I4 o ++ gTmp ops o ++ (match locK tn o with | .ld j=>[j] | .st j=>[j] | _=>[])
def Hr (tn : Tn) (ops : Array Oper) (o : Oper) : List Nat:=VG tn ops o ++ Cw tn o
def Ai {β : Type} (v : Value) (want : Bool) (x y : Option β) : Option β :=
  match v with
  | .bool b=>if b = want then x else y
  | .tuple a=>if a.isEmpty = true then y else none
  | _=>none
section
variable (P : Program) (call : Aa) (tn : Tn)
def opB {β : Type} (T : Fr) (o : Oper) (s : St) (k : Fr→St→Option β) : Option β :=
  match locK tn o with
  | .glob=>Bv P call T o s fun v s=>k (putT T o.dst v) s
  | .ptr _=>Bv P call T o s fun v s=>k (putT T o.dst v) s
  | .mk j=>match o.op with
    | .alloc e=>(Ec P e).bind fun z=>(lbox z).bind fun c=>k (mkT tn j o.dst c T) s
    | .box _ x=>(opd T x).bind fun v=>(lbox v).bind fun c=>k (mkT tn j o.dst c T) s
    | _=>none
  | .ld j=>match o.op with
    | .load t a=>(opd T a).bind fun a=>(aggT P t).bind fun ag=>(B0 P t).bind fun n=>(Ap ag n a (getT T j)).bind fun v=>k (putT T o.dst v) s
    | _=>none
  | .st j=>match o.op with
    | .store t a x=>(opd T a).bind fun a=>(opd T x).bind fun x=>(B0 P t).bind fun n=>(AO n a x (getT T j)).bind fun c=>k (putT (setT T j c) o.dst undef) s
    | _=>none
  | .bad=>none
def Ea (ops : Array Oper) (g : Nat × Bool) : Option Nat:=(ops[g.1]?).bind (·.dst)
def oneB (ops : Array Oper) (T : Fr) (o : Oper) (s : St) : Option (Fr × St) :=
  match o.guard with
  | none=>opB P call tn T o s fun T s=>some (T,s)
  | some g=>(Ea ops g).bind fun t=>if Lc t tn = true then Ai (getT T t) g.2 (opB P call tn T o s fun T s=>some (T,s)) (some (putT T o.dst undef,s)) else none
def ZcB : List Nat→Nat
  | []=>0
  | x :: l=>2 ^ x ||| ZcB l
def lvOp (ops : Array Oper) (o : Oper) (m : Nat) : Nat :=
  let d:=ZcB (Cw tn o)
  (m ^^^ (m &&& d)) ||| ZcB (VG tn ops o)
def WC (ops : Array Oper) : List Oper→Nat→Nat
  | [],m=>m
  | o :: l,m=>lvOp tn ops o (WC ops l m)
structure Lo where
  nrm : Nat
  exs : List (Nat × Nat)
  ret : Nat
def exLo (id : Nat) : List (Nat × Nat)→Nat
  | []=>0
  | (i,m) :: l=>cond (Nat.beq i id) m (exLo id l)
def lvIn : Code→Lo→Nat
  | .skip,lo=>lo.nrm
  | .region _ ops _,lo=>WC tn ops ops.toList lo.nrm
  | .seq a b,lo=>lvIn a { lo with nrm:=lvIn b lo }
  | .cond c a b,lo=>(match c with | .tmp t=>2 ^ t | _=>0) ||| (lvIn a lo ||| lvIn b lo)
  | .block id a,lo=>lvIn a { lo with exs:=(id,lo.nrm) :: lo.exs }
  | .loop a,lo=>lvIn a { lo with nrm:=0 }
  | .exit id,lo=>exLo id lo.exs
  | .ret,lo=>lo.ret
  | _,_=>0
def EU (m : Nat) : Nat→Nat→List Nat
  | 0,_=>[]
  | k + 1,i=>cond (m.testBit i) (i :: EU m k (i + 1)) (EU m k (i + 1))
def seqB {β : Type} : List Oper→Fr→St→(Fr→St→Option β)→Option β
  | [],T,s,k=>k T s
  | o :: l,T,s,k=>opB P call tn T o s fun T s=>seqB l T s k
abbrev Grp:=Option (Nat × Bool) × List Oper
def Zag (g h : Nat × Bool) : Bool:=Nat.beq g.1 h.1 && (g.2 == h.2)
def grpC (o : Oper) : List Grp→List Grp
  | (some h,os) :: r=>match o.guard with
    | some g=>cond (Zag g h) ((some h,o :: os) :: r) ((some g,[o]) :: (some h,os) :: r)
    | none=>(none,[o]) :: (some h,os) :: r
  | r=>(o.guard,[o]) :: r
def grp : List Oper→List Grp
  | []=>[]
  | o :: l=>grpC o (grp l)
def NR : List Oper→List Nat
  | []=>[]
  | o :: l=>Cw tn o ++ NR l
def Jr : List Nat→List Nat
  | []=>[]
  | x :: l=>cond (memN x l) (Jr l) (x :: Jr l)
def Iw (m : Nat) : List Nat→List Nat
  | []=>[]
  | x :: l=>cond (m.testBit x) (x :: Iw m l) (Iw m l)
def XX : List Oper→Fr→Fr
  | [],T=>T
  | o :: l,T=>XX l (putT T o.dst undef)
def PO (l : List Nat) (T : Fr) : Fr:=fun i=>cond (memN i l) CB (T i)
def Ep : List Grp→List Oper
  | []=>[]
  | g :: r=>g.2 ++ Ep r
def WD (t : Nat) : List Oper→Bool
  | []=>true
  | o :: l=>!memN t (Cw tn o) && WD t l
def Rf {β : Type} (ops : Array Oper) (m : Nat) : List Grp→Fr→St→(Fr→St→Option β)→Option β
  | [],T,s,k=>k T s
  | (none,os) :: r,T,s,k=>seqB P call tn os T s fun T s=>Rf ops m r T s k
  | (some g,os) :: r,T,s,k=>(Ea ops g).bind fun t=>if (Lc t tn && WD tn t os) = true then
      (Ai (getT T t) g.2 (seqB P call tn os T s fun T' s=>some (toL (Iw (WC tn ops (Ep r) m) (Jr (NR tn os))) T',s))
        (some (toL (Iw (WC tn ops (Ep r) m) (Jr (NR tn os))) (XX os T),s))).bind fun q =>
      Rf ops m r (ofL (Iw (WC tn ops (Ep r) m) (Jr (NR tn os))) 0 q.1 (PO (NR tn os) T)) q.2 k
    else none
def XY (o : Oper) : Nat :=
  match o.op with
  | .move _ | .assign _ | .pick .. | .build .. | .nilCheck _ | .binOp .. | .unOp .. | .makeInterface .. | .makeFunc .. | .fieldAddr .. | .field .. | .indexAddr .. | .index .. | .extract ..=>0
  | .convert src dst _=>match P.underlying src,P.underlying dst with
    | some (.int _),some (.int _)=>0
    | some (.slice _),some (.slice _)=>2
    | _,_=>1
  | .slice t _ _ _ _=>match P.underlying t with
    | some .string | some (.slice _)=>0
    | _=>1
  | .alloc _ | .box _ _ | .buildSlice .. | .makeSlice .. | .load ..=>1
  | .call c=>match c.callee with
    | .builtin .len=>1
    | .builtin .min | .builtin .max=>0
    | .builtin _=>2
    | _=>3
  | _=>2
def clsB (o : Oper) : Nat :=
  match locK tn o with
  | .glob=>XY P o
  | _=>0
def LY (acc : List Nat) : List Edge→Nat
  | []=>0
  | e :: l=>if Region.binds .any e then 2 ^ e.on ||| acc.getD e.on 0 ||| LY acc l else LY acc l
def BG (acc : List Nat) : List Oper→List Nat
  | []=>acc
  | o :: l=>BG (acc ++ [LY acc o.after.toList]) l
def XZ (f : Nat→Bool) : Nat→Nat
  | 0=>0
  | n + 1=>XZ f n ||| cond (f n) (2 ^ n) 0
def cmpM (bf : List Nat) (n i : Nat) : Nat:=bf.getD i 0 ||| (2 ^ i ||| XZ (fun j=>(bf.getD j 0).testBit i) n)
def subM (a b : Nat) : Bool:=Nat.beq (a ||| b) b
def B7 : Nat→List Oper→Nat
  | _,[]=>0
  | i,o :: l=>cond (Nat.beq (clsB P tn o) 0) (B7 (i + 1) l) (2 ^ i ||| B7 (i + 1) l)
inductive DMode where
  | pure | quiet | own | store | bad
  deriving DecidableEq
def F4 (bf : List Nat) (n mm i : Nat) (o : Oper) : DMode :=
  match clsB P tn o with
  | 0=>.pure
  | c=>cond (subM mm (cmpM bf n i)) .own (cond (Nat.beq c 2) (match o.op with | .store ..=>.store | _=>.bad) .quiet)
def Js (ops : Array Oper) (x : Nat) : Nat→List Oper→Nat
  | _,[]=>0
  | i,o :: l=>cond (memN x (Hr tn ops o)) (2 ^ i ||| Js ops x (i + 1) l) (Js ops x (i + 1) l)
def X0 (ops : Array Oper) (bf : List Nat) : Nat→List Oper→Bool
  | _,[]=>true
  | i,o :: l=>(Cw tn o).all (fun x=>subM (Js tn ops x 0 ops.toList) (cmpM bf ops.size i)) && X0 ops bf (i + 1) l
def SS : Nat→List Oper→Bool
  | _,[]=>true
  | i,o :: l=>o.after.toList.all (fun e=>!Region.binds .any e || decide (e.on < i)) && (match o.op with | .select ..=>false | _=>true) && SS (i + 1) l
def Kb (ops : Array Oper) : Bool :=
  P.follows .mixedOrders && SS 0 ops.toList && X0 tn ops (BG [] ops.toList) 0 ops.toList
def VH (ops : List Oper) : Nat→Operand→Option Tmp
  | 0,_=>none
  | k + 1,.tmp t=>match ops.find? fun o=>o.dst == some t with
    | none=>some t
    | some o=>match o.op with
      | .fieldAddr _ x _=>VH ops k x
      | .move x=>VH ops k x
      | .nilCheck x=>VH ops k x
      | _=>none
  | _ + 1,_=>none
def Ix (ops : List Oper) (T : Fr) (n : Nat) (o : Oper) : Option Nat :=
  match o.op with
  | .store _ a _=>(VH ops (ops.length + 1) a).bind fun t=>match getT T t with
    | .pointer (some a)=>if a.block < n then some a.block else none
    | _=>none
  | _=>none
def DD (ops : List Oper) (bf : List Nat) (n mm : Nat) (T : Fr) (n0 i : Nat) : Nat→List Oper→List Nat
  | _,[]=>[]
  | j,o :: l=>match F4 P tn bf n mm j o with
    | .store=>if (cmpM bf n i).testBit j = true then DD ops bf n mm T n0 i (j + 1) l else (Ix ops T n0 o).toList ++ DD ops bf n mm T n0 i (j + 1) l
    | _=>DD ops bf n mm T n0 i (j + 1) l
def MA : Blk→Blk
  | .row n c _=>.row n c .dead
  | .map _ _=>.row 0 [] .dead
def frzB : Blk→Blk
  | .row n c .act=>.row n c .ro
  | .row n c st=>.row n c st
  | .map _ _=>.row 0 [] .dead
def frzK (K : List Nat) : Nat→List Blk→List Blk
  | _,[]=>[]
  | i,b :: l=>(if K.contains i then MA b else frzB b) :: frzK K (i + 1) l
def Rh (t : Nat) : Nat→List Blk→List Blk
  | _,[]=>[]
  | i,b :: l=>(if i = t then b else MA b) :: Rh t (i + 1) l
def Dp {α : Type} (s : St) (r : α × St) : α × St:=(r.1,⟨s.heap ++ r.2.heap.drop s.heap.length⟩)
def ownR {α : Type} (s : St) (r : α × St) : Option (α × St):=if s.heap.length ≤ r.2.heap.length then some r else none
def ZcC (o : Oper) : Bool :=
  match o.op with
  | .load ..=>true
  | .call c=>match c.callee with
    | .builtin .len=>true
    | _=>false
  | .convert src dst _=>match P.underlying src,P.underlying dst with
    | some (.slice _),some .string=>true
    | _,_=>false
  | _=>false
def valB (ops : Array Oper) (T : Fr) (o : Oper) (s : St) : Option (Value × St) :=
  match o.guard with
  | none=>Bv P call T o s fun v s=>some (v,s)
  | some g=>(Ea ops g).bind fun t=>if Lc t tn = true then Ai (getT T t) g.2 (Bv P call T o s fun v s=>some (v,s)) (some (undef,s)) else none
def MB (ops : Array Oper) (bf : List Nat) (mm : Nat) (T0 : Fr) (n0 i : Nat) (o : Oper) (T : Fr) (s : St) : Option (Fr × St) :=
  match F4 P tn bf ops.size mm i o with
  | .pure=>oneB P call tn ops T o s
  | .own=>(valB P call tn ops T o s).bind fun r=>(ownR s r).bind fun r=>some (putT T o.dst r.1,r.2)
  | .quiet=>(valB P call tn ops T o ⟨frzK (DD P tn ops.toList bf ops.size mm T0 n0 i 0 ops.toList) 0 s.heap⟩).bind fun r=>some (putT T o.dst r.1,(Dp s r).2)
  | .store=>(Ix ops.toList T0 n0 o).bind fun t=>if (DD P tn ops.toList bf ops.size mm T0 n0 i 0 ops.toList).contains t then none else
      (valB P call tn ops T o ⟨Rh t 0 s.heap⟩).bind fun r=>(r.2.heap[t]?).bind fun b=>some (putT T o.dst r.1,⟨s.heap.set t b ++ r.2.heap.drop s.heap.length⟩)
  | .bad=>none
def HQ (ops : Array Oper) (bf : List Nat) (mm : Nat) (T0 : Fr) (n0 : Nat) : Nat→List Oper→Fr→St→Option (Fr × St)
  | _,[],T,s=>some (T,s)
  | i,o :: rest,T,s=>(MB P call tn ops bf mm T0 n0 i o T s).bind fun r=>HQ ops bf mm T0 n0 (i + 1) rest r.1 r.2
def oneK {β : Type} (ops : Array Oper) (T : Fr) (o : Oper) (s : St) (k : Fr→St→Option β) : Option β :=
  match o.guard with
  | none=>opB P call tn T o s k
  | some g=>(Ea ops g).bind fun t=>if Lc t tn = true then
      (Ai (getT T t) g.2 (opB P call tn T o s fun T' s=>some (toL (Jr (Cw tn o)) T',s)) (some (toL (Jr (Cw tn o)) (putT T o.dst undef),s))).bind fun q=>k (ofL (Jr (Cw tn o)) 0 q.1 (PO (Cw tn o) T)) q.2
    else none
def ZcD {β : Type} (ops : Array Oper) (bf : List Nat) (mm : Nat) (T0 : Fr) (n0 i : Nat) (o : Oper) (T : Fr) (s : St) (k : Fr→St→Option β) : Option β :=
  match F4 P tn bf ops.size mm i o with
  | .pure=>oneK P call tn ops T o s k
  | .own=>((valB P call tn ops T o s).bind (ownR s)).bind fun r=>k (putT T o.dst r.1) r.2
  | .quiet=>if ZcC P o = true then (valB P call tn ops T o ⟨frzK (DD P tn ops.toList bf ops.size mm T0 n0 i 0 ops.toList) 0 s.heap⟩).bind fun r=>k (putT T o.dst r.1) s
    else ((valB P call tn ops T o ⟨frzK (DD P tn ops.toList bf ops.size mm T0 n0 i 0 ops.toList) 0 s.heap⟩).map (Dp s)).bind fun r=>k (putT T o.dst r.1) r.2
  | .store=>(Ix ops.toList T0 n0 o).bind fun t=>if (DD P tn ops.toList bf ops.size mm T0 n0 i 0 ops.toList).contains t then none else
      (valB P call tn ops T o ⟨Rh t 0 s.heap⟩).bind fun r=>(r.2.heap[t]?).bind fun b=>k (putT T o.dst r.1) ⟨s.heap.set t b ++ r.2.heap.drop s.heap.length⟩
  | .bad=>none
def VI {β : Type} (ops : Array Oper) (bf : List Nat) (mm : Nat) (T0 : Fr) (n0 : Nat) : Nat→List Oper→Fr→St→(Fr→St→Option β)→Option β
  | _,[],T,s,k=>k T s
  | i,o :: rest,T,s,k=>ZcD P call tn ops bf mm T0 n0 i o T s fun T s=>VI ops bf mm T0 n0 (i + 1) rest T s k
def appO (o : Oper) : Option (Nat × Nat) :=
  match o.op with
  | .call c=>match c.callee,c.args.toList with
    | .builtin .append,[.tmp x,.tmp y]=>some (x,y)
    | _,_=>none
  | _=>none
def tmpO : Operand→List Nat
  | .tmp t=>[t]
  | _=>[]
def Zei (o : Oper) : Option (List Nat) :=
  match o.op with
  | .call c=>match c.callee with
    | .value (.func g)=>match P.funcs[g]? with
      | some fn=>match fn.params.toList,fn.resultTypes.toList with
        | t :: _,[u]=>if Nat.beq t u = true then (match P.underlying t with
          | some (.slice e)=>match P.underlying e with
            | some (.int .u8)=>some (c.args.toList.flatMap tmpO)
            | _=>none
          | _=>none) else none
        | _,_=>none
      | none=>none
    | _=>none
  | _=>none
def Zah (o : Oper) : Bool :=
  match o.op with
  | .call c=>match c.callee,c.args.toList with
    | .value (.tmp _),[.tmp _]=>(match P.underlying o.type with
      | some (.struct _)=>true
      | _=>false)
    | _,_=>false
  | _=>false
def mapO (o : Oper) : Option (List Nat) :=
  match o.op with
  | .insert _ (.tmp x) _ _=>some [x]
  | .mapUpdate _ (.tmp x) _ _=>some [x]
  | .lookup _ (.tmp x) _ _=>some [x]
  | .mapEntry _ (.tmp x) _=>some [x]
  | .entryStore _ (.tmp x) _ _=>some [x]
  | .makeMap ..=>some []
  | _=>none
def appX (o : Oper) : Option (List Nat) :=
  match appO o with
  | some p=>some [p.1,p.2]
  | none=>match mapO o with
    | some l=>some l
    | none=>match Zei P o with
      | some l=>some l
      | none=>if Zah P o = true then some [] else none
def EH (bf : List Nat) (n mm i : Nat) (o : Oper) : DMode :=
  match F4 P tn bf n mm i o with
  | .quiet=>if ((Zei P o).isSome || Zah P o) = true then .bad else .quiet
  | m=>m
def blkV : Value→List Nat
  | .slice (some a) _ _=>[a.block]
  | .map (some b)=>[b]
  | _=>[]
def ZbZ : Value→List Nat
  | .pointer (some a)=>[a.block]
  | _=>[]
def Ut : List Value→List Nat
  | []=>[]
  | v :: l=>ZbZ v ++ Ut l
def CT (n : Nat) (l : List Value) : List Nat:=(List.range n).filter fun b=>!(Ut l).contains b
def Zej : Value→List Nat
  | .tuple ⟨.slice none n _ :: l⟩=>CT n l
  | _=>[]
def bigT : Nat:=1000000
def BN : List Value→List Nat
  | []=>[]
  | v :: l=>blkV v ++ BN l
def appT (T1 : Fr) (o : Oper) : List Nat :=
  if Zah P o = true then Zej (getT T1 bigT) else
  match appX P o with
  | some l=>BN (l.map (getT T1))
  | none=>[]
def Eb (bf : List Nat) (n mm : Nat) (T1 : Fr) (i : Nat) : Nat→List Oper→List Nat
  | _,[]=>[]
  | j,o :: l=>match EH P tn bf n mm j o with
    | .bad=>if (cmpM bf n i).testBit j = true then Eb bf n mm T1 i (j + 1) l else appT P T1 o ++ Eb bf n mm T1 i (j + 1) l
    | _=>Eb bf n mm T1 i (j + 1) l
def NS (bf : List Nat) (n mm : Nat) : Nat→List Oper→List Nat
  | _,[]=>[]
  | j,o :: l=>match EH P tn bf n mm j o with
    | .bad=>(match appX P o with | some p=>p ++ NS bf n mm (j + 1) l | none=>NS bf n mm (j + 1) l)
    | _=>NS bf n mm (j + 1) l
def X2 (bf : List Nat) (n i : Nat) : Nat→List Oper→Bool
  | _,[]=>false
  | j,o :: l=>(Zah P o && !(cmpM bf n i).testBit j) || X2 bf n i (j + 1) l
def Ri (bf : List Nat) (n mm : Nat) (ol : List Oper) : Nat→List Oper→List Nat
  | _,[]=>[]
  | i,o :: l=>(match EH P tn bf n mm i o,o.op with
    | .quiet,.load _ (.tmp a)=>cond (X2 P bf n i 0 ol) [a] []
    | _,_=>[]) ++ Ri bf n mm ol (i + 1) l
def dryF (A L : List Nat) (X : List Value) (n0 : Nat) : Fr:=setT (ofL (A ++ L) 0 X noT) bigT (.tuple ⟨.slice none n0 0 :: X.drop A.length⟩)
def Er (B : List Nat) : Nat→List Blk→List Blk
  | _,[]=>[]
  | i,b :: l=>(if B.contains i then b else MA b) :: Er B (i + 1) l
def FT (B : List Nat) (R : List Blk) : Nat→List Blk→List Blk
  | _,[]=>[]
  | i,b :: l=>(if B.contains i then (R[i]?).getD b else b) :: FT B R (i + 1) l
def Hs (K : List Nat) (a b : Nat) : Bool:=K.all fun x=>decide (x < a) || decide (b ≤ x)
def Bz {α : Type} (K : List Nat) (s : St) (r : α × St) : Option (α × St):=if Hs K s.heap.length r.2.heap.length = true then some (Dp s r) else none
def appR {α : Type} (B K : List Nat) (s : St) (r : α × St) : Option (α × St) :=
  if (B.all (fun b=>!K.contains b) && Nat.ble s.heap.length r.2.heap.length && Hs K s.heap.length r.2.heap.length) = true then some (r.1,⟨FT B r.2.heap 0 s.heap ++ r.2.heap.drop s.heap.length⟩) else none
def Jt (ops : Array Oper) (bf : List Nat) (mm : Nat) (T1 : Fr) (i : Nat) (o : Oper) (T : Fr) (s : St) : Option (Fr × St) :=
  match EH P tn bf ops.size mm i o with
  | .pure=>oneB P call tn ops T o s
  | .own=>(valB P call tn ops T o s).bind fun r=>(ownR s r).bind fun r=>some (putT T o.dst r.1,r.2)
  | .quiet=>(valB P call tn ops T o ⟨frzK (Eb P tn bf ops.size mm T1 i 0 ops.toList) 0 s.heap⟩).bind fun r=>(Bz (Eb P tn bf ops.size mm T1 i 0 ops.toList) s r).bind fun r=>some (putT T o.dst r.1,r.2)
  | .store=>none
  | .bad=>if (appX P o).isSome = true then (valB P call tn ops T o ⟨Er (appT P T1 o) 0 s.heap⟩).bind fun r=>(appR (appT P T1 o) (Eb P tn bf ops.size mm T1 i 0 ops.toList) s r).bind fun r=>some (putT T o.dst r.1,r.2) else none
def HR (ops : Array Oper) (bf : List Nat) (mm : Nat) (T1 : Fr) : Nat→List Oper→Fr→St→Option (Fr × St)
  | _,[],T,s=>some (T,s)
  | i,o :: rest,T,s=>(Jt P call tn ops bf mm T1 i o T s).bind fun r=>HR ops bf mm T1 (i + 1) rest r.1 r.2
def X3 {β : Type} (ops : Array Oper) (bf : List Nat) (mm : Nat) (T1 : Fr) (i : Nat) (o : Oper) (T : Fr) (s : St) (k : Fr→St→Option β) : Option β :=
  match EH P tn bf ops.size mm i o with
  | .pure=>oneK P call tn ops T o s k
  | .own=>((valB P call tn ops T o s).bind (ownR s)).bind fun r=>k (putT T o.dst r.1) r.2
  | .quiet=>((valB P call tn ops T o ⟨frzK (Eb P tn bf ops.size mm T1 i 0 ops.toList) 0 s.heap⟩).bind (Bz (Eb P tn bf ops.size mm T1 i 0 ops.toList) s)).bind fun r=>k (putT T o.dst r.1) r.2
  | .store=>none
  | .bad=>if (appX P o).isSome = true then ((valB P call tn ops T o ⟨Er (appT P T1 o) 0 s.heap⟩).bind (appR (appT P T1 o) (Eb P tn bf ops.size mm T1 i 0 ops.toList) s)).bind fun r=>k (putT T o.dst r.1) r.2 else none
def Rj {β : Type} (ops : Array Oper) (bf : List Nat) (mm : Nat) (T1 : Fr) : Nat→List Oper→Fr→St→(Fr→St→Option β)→Option β
  | _,[],T,s,k=>k T s
  | i,o :: rest,T,s,k=>X3 P call tn ops bf mm T1 i o T s fun T s=>Rj ops bf mm T1 (i + 1) rest T s k
def dryB (ops : Array Oper) (L : List Nat) : List Oper→Fr→St→Option (List Value)
  | [],T,s=>some (toL L T)
  | o :: l,T,s=>(oneB P call tn ops T o s).bind fun r=>dryB ops L l r.1 r.2
def dryK (ops : Array Oper) (L : List Nat) : List Oper→Fr→St→Option (List Value)
  | [],T,s=>some (toL L T)
  | o :: l,T,s=>oneK P call tn ops T o s fun T s=>dryK ops L l T s
def VJ (bf : List Nat) (n mm : Nat) : Nat→List Oper→Bool
  | _,[]=>false
  | j,o :: l=>(match EH P tn bf n mm j o with | .bad=>(appX P o).isSome | _=>false) || VJ bf n mm (j + 1) l
def seqA (m : Res) (k : List Value→St→Res) : Res :=
  m.bind fun r=>match r.1 with
    | .normal=>k r.2.1 r.2.2
    | e=>some (e,r.2.1,r.2.2)
def DW (body : List Value→St→Res) : Nat→List Value→St→Res
  | 0,_,_=>none
  | m + 1,T,s=>seqA (body T s) (DW body m)
def Ax {β : Type} (v : Value) (a b : Option β) : Option β :=
  match v with
  | .bool x=>if x = true then a else b
  | _=>none
def PP {β : Type} (j : Nat) : List (Nat × Option β)→Option β
  | []=>none
  | (i,x) :: l=>if j = i then x else PP j l
def exV {β : Type} (e : Ex) (l : List (Nat × Option β)) (r : Option β) : Option β :=
  match e with
  | .exit j=>PP j l
  | .ret=>r
  | .normal=>none
def Dh {β : Type} (F : List Value→St→Option β) (X : List Value) (s : St) : Option β:=F X s
def Fj : Code→List Nat
  | .seq a b=>Fj a ++ (Fj b).filter fun i=>!(Fj a).contains i
  | .cond _ a b=>Fj a ++ (Fj b).filter fun i=>!(Fj a).contains i
  | .block id a=>(Fj a).filter fun i=>i != id
  | .loop a=>Fj a
  | .exit id=>[id]
  | _=>[]
def LZ : Code→Bool
  | .seq a b=>LZ a || LZ b
  | .cond _ a b=>LZ a || LZ b
  | .block _ a=>LZ a
  | .loop a=>LZ a
  | .ret=>true
  | _=>false
def Zb0 : Code→Bool
  | .skip | .exit _ | .ret=>true
  | _=>false
def cntC : Code→Nat × List (Nat × Nat)
  | .seq a b=>match cntC a with
    | (0,x)=>(0,x)
    | (k,x)=>match cntC b with
      | (m,y)=>(cond (Nat.ble 2 k && !Zb0 b) m (k * m),x ++ y)
  | .cond _ a b=>((cntC a).1 + (cntC b).1,(cntC a).2 ++ (cntC b).2)
  | .block id a=>((cntC a).1 + ((cntC a).2.foldl (fun n e=>cond (Nat.beq e.1 id) (n + e.2) n) 0),(cntC a).2.filter fun e=>!Nat.beq e.1 id)
  | .loop a=>(0,(Fj a).map fun i=>(i,1))
  | .exit id=>(0,[(id,1)])
  | .ret=>(0,[])
  | _=>(1,[])
def ZcE (a b : Code) : Bool:=Nat.ble 2 (cntC a).1 && !Zb0 b
def WE (w : Nat) (L : List Nat) (lo : Lo) : Ex→List Nat
  | .normal=>L
  | .exit j=>EU (exLo j lo.exs) w 0
  | .ret=>EU lo.ret w 0
def Cj (lp : (List Value→St→Res)→List Value→St→Res) (w : Nat) : Code→Lo→{β : Type}→Fr→St→(Ex→Fr→St→Option β)→Option β
  | .skip,_,_,T,s,k=>k .normal T s
  | .region _ ops false,lo,_,T,s,k=>Rf P call tn ops lo.nrm (grp ops.toList) T s fun T s=>k .normal T s
  | .region _ ops true,_,_,T,s,k=>(if Kb P tn ops = true then
      cond (VJ P tn (BG [] ops.toList) ops.size (B7 P tn 0 ops.toList) 0 ops.toList)
        ((dryK P call tn ops ((NS P tn (BG [] ops.toList) ops.size (B7 P tn 0 ops.toList) 0 ops.toList) ++ (Ri P tn (BG [] ops.toList) ops.size (B7 P tn 0 ops.toList) ops.toList 0 ops.toList)) ops.toList T s).bind fun X =>
          Rj P call tn ops (BG [] ops.toList) (B7 P tn 0 ops.toList) (dryF (NS P tn (BG [] ops.toList) ops.size (B7 P tn 0 ops.toList) 0 ops.toList) (Ri P tn (BG [] ops.toList) ops.size (B7 P tn 0 ops.toList) ops.toList 0 ops.toList) X s.heap.length) 0 ops.toList T s fun T s=>k .normal T s)
        (VI P call tn ops (BG [] ops.toList) (B7 P tn 0 ops.toList) T s.heap.length 0 ops.toList T s fun T s=>k .normal T s) else none)
  | .seq a b,lo,_,T,s,k=>Cj lp w a { lo with nrm:=lvIn tn b lo } T s fun e T s=>match e with
    | .normal=>cond (ZcE a b) (Dh (fun X s=>Cj lp w b lo (ofL (EU (lvIn tn b lo) w 0) 0 X noT) s k) (toL (EU (lvIn tn b lo) w 0) T) s) (Cj lp w b lo T s k)
    | .exit id=>k (.exit id) T s
    | .ret=>k .ret T s
  | .cond c a b,lo,_,T,s,k=>if Cr tn c = true then (opd T c).bind fun v=>Ax v (Cj lp w a lo T s k) (Cj lp w b lo T s k) else none
  | .block id a,lo,_,T,s,k=>Cj lp w a { lo with exs:=(id,lo.nrm) :: lo.exs } T s fun e T s=>match e with
    | .exit j=>if j = id then k .normal T s else k (.exit j) T s
    | .normal=>k .normal T s
    | .ret=>k .ret T s
  | .loop a,lo,_,T,s,k => (lp (fun X s => Cj lp w a { lo with nrm := lvIn tn (.loop a) lo } (ofL (EU (lvIn tn (.loop a) lo) w 0) 0 X noT) s fun e T s => some (e,toL (WE w (EU (lvIn tn (.loop a) lo) w 0) lo e) T,s))
        (toL (EU (lvIn tn (.loop a) lo) w 0) T) s).bind fun r =>
      exV r.1 ((Fj a).map fun i=>(i,k (.exit i) (ofL (EU (exLo i lo.exs) w 0) 0 r.2.1 noT) r.2.2)) (if LZ a = true then k .ret (ofL (EU lo.ret w 0) 0 r.2.1 noT) r.2.2 else none)
  | .exit id,_,_,T,s,k=>k (.exit id) T s
  | .ret,_,_,T,s,k=>k .ret T s
  | _,_,_,_,_,_=>none
def Fk : Value→Bool
  | .tuple _=>false
  | _=>true
def F5 : List Value→Value
  | [v]=>v
  | vs=>.tuple vs.toArray
def retV (vs : List Value) (s : St) : Option (Value × St):=if vs.all Fk = true then some (F5 vs,s) else none
def resK {β : Type} (T : Fr) (s : St) : List ResultVar→(List Value→Option β)→Option β
  | [],k=>k []
  | .tmp t :: l,k=>if Lc t tn = true then resK T s l fun vs=>k (getT T t :: vs) else none
  | .cell a t :: l,k=>match look a tn with
    | none=>(aggT P t).bind fun ag=>(B0 P t).bind fun n=>(Aj ag n (getT T a) s).bind fun v=>resK T s l fun vs=>k (v :: vs)
    | some j=>(aggT P t).bind fun ag=>(B0 P t).bind fun n=>(Ap ag n (getT T a) (getT T j)).bind fun v=>resK T s l fun vs=>k (v :: vs)
def Zek (rs : List ResultVar) (e : Ex) (T : Fr) (s : St) : Option (Value × St) :=
  match e with
  | .exit _=>none
  | .normal=>resK P tn T s rs fun vs=>retV vs s
  | .ret=>resK P tn T s rs fun vs=>retV vs s
def Rk : List ResultVar→Nat
  | []=>0
  | .tmp t :: l=>2 ^ t ||| Rk l
  | .cell a _ :: l=>2 ^ a ||| ((match look a tn with | some j=>2 ^ j | none=>0) ||| Rk l)
def tnOk (n m : Nat) : Tn→Bool
  | []=>true
  | (x,j) :: l=>Nat.ble m x && Nat.ble (x + 1) n && Nat.ble n j && tnOk n m l
def Zb1 (n : Nat) : Tn→Nat
  | []=>n
  | (_,j) :: l=>Nat.max (j + 1) (Zb1 n l)
def Uu (lp : (List Value→St→Res)→List Value→St→Res) (fn : Func) (args : List Value) (s : St) : Option (Value × St) :=
  fn.body.bind fun c=>if Nat.ble args.length fn.ntmps && tnOk fn.ntmps args.length tn then
    Cj P call tn lp (Zb1 fn.ntmps tn) c ⟨Rk tn fn.results.toList,[],Rk tn fn.results.toList⟩ (LX args) s (Zek P tn fn.results.toList) else none
end
abbrev Lib:=FuncId→Option (List Value→St→Option (Value × St))
abbrev HC:=FuncId→Tn
def fnB (P : Program) (lib : Lib) (Ad : HC) : Nat→Aa
  | 0,_,_,_=>none
  | j + 1,f,args,s =>
    match lib f with
    | some g=>g args s
    | none=>(P.funcs[f]?).bind fun fn=>Uu P (fnB P lib Ad j) (Ad f) (fun b=>DW b j) fn args s
end Go.Proofs.YtmbhnbladmpnoaaGreat.Ab

/- The abstract machine against the model: how values and memory correspond. -/
namespace Go.Proofs.YtmbhnbladmpnoaaGreat.Ab
open Go
structure Loc where
  blk : Nat
  off : Nat
  n : Nat
  z : Nat
abbrev Emb:=Nat→Option Loc
def All2 {α β : Type} (R : α→β→Prop) : List α→List β→Prop
  | [],[]=>True
  | a :: l,b :: m=>R a b∧All2 R l m
  | _,_=>False
section all2
variable {α β : Type} {R S : α→β→Prop}
theorem All2.mono (h : ∀ a b,R a b→S a b) : ∀ {l : List α} {m : List β},All2 R l m→All2 S l m
  | [],[],_=>trivial
  | _ :: _,_ :: _,⟨h1,h2⟩=>⟨h _ _ h1,All2.mono h h2⟩
theorem All2.length : ∀ {l : List α} {m : List β},All2 R l m→l.length = m.length
  | [],[],_=>rfl
  | _ :: _,_ :: _,⟨_,h2⟩=>by simp [All2.length h2]
theorem All2.get : ∀ {l : List α} {m : List β},All2 R l m→∀ (i : Nat) (a : α),l[i]? = some a→∃ b,m[i]? = some b∧R a b
  | [],[],_,i,a,h=>by simp at h
  | x :: l,y :: m,⟨h1,h2⟩,0,a,h=>by simp at h; exact ⟨y,rfl,h ▸ h1⟩
  | x :: l,y :: m,⟨h1,h2⟩,i + 1,a,h=>by
    obtain ⟨b,hb,hr⟩:=All2.get h2 i a (by simpa using h)
    exact ⟨b,by simpa using hb,hr⟩
theorem All2.append : ∀ {l : List α} {m : List β} {l' : List α} {m' : List β},All2 R l m→All2 R l' m'→All2 R (l ++ l') (m ++ m')
  | [],[],_,_,_,h=>h
  | _ :: _,_ :: _,_,_,⟨h1,h2⟩,h=>⟨h1,All2.append h2 h⟩
theorem All2.take : ∀ {l : List α} {m : List β},All2 R l m→∀ n,All2 R (l.take n) (m.take n)
  | [],[],_,n=>by simp [All2]
  | _ :: _,_ :: _,_,0=>trivial
  | _ :: _,_ :: _,⟨h1,h2⟩,n + 1=>⟨h1,All2.take h2 n⟩
theorem All2.drop : ∀ {l : List α} {m : List β},All2 R l m→∀ n,All2 R (l.drop n) (m.drop n)
  | [],[],_,n=>by simp [All2]
  | _ :: _,_ :: _,h,0=>h
  | _ :: _,_ :: _,⟨_,h2⟩,n + 1=>by simpa using All2.drop h2 n
theorem All2.of_get : ∀ {l : List α} {m : List β},l.length = m.length→(∀ (i : Nat) (a : α) (b : β),l[i]? = some a→m[i]? = some b→R a b)→All2 R l m
  | [],[],_,_=>trivial
  | [],_ :: _,h,_=>by simp at h
  | _ :: _,[],h,_=>by simp at h
  | x :: l,y :: m,h,g=>⟨g 0 x y rfl rfl,All2.of_get (l:=l) (m:=m) (by simpa using h) fun i a b (ha : l[i]? = some a) (hb : m[i]? = some b)=>g (i + 1) a b (by simpa using ha) (by simpa using hb)⟩
end all2
inductive L0 (ι : Emb) : Value→Value→Prop
  | bool (b : Bool) : L0 ι (.bool b) (.bool b)
  | int (k : IntKind) (n : Int) : L0 ι (.int k n) (.int k n)
  | string (s : ByteArray) : L0 ι (.string s) (.string s)
  | pnil : L0 ι (.pointer none) (.pointer none)
  | ptr {b : Nat} {l : Loc} (off : Nat) (h : ι b = some l) : L0 ι (.pointer (some ⟨b,off,none⟩)) (.pointer (some ⟨l.blk,l.off + off,none⟩))
  | snil : L0 ι (.slice none 0 0) (.slice none 0 0)
  | slice {b len cap cap' : Nat} {l : Loc} (off : Nat) (h : ι b = some l) (hl : len ≤ cap) (hc : cap ≤ cap') (hz : off = 0→l.off + cap' * l.n ≤ l.z) : L0 ι (.slice (some ⟨b,off,none⟩) len cap) (.slice (some ⟨l.blk,l.off + off,none⟩) len cap')
  | slice0 (a a' : Addr) : L0 ι (.slice (some a) 0 0) (.slice (some a') 0 0)
  | mnil : L0 ι (.map none) (.map none)
  | map {b : Nat} {l : Loc} (h : ι b = some l) : L0 ι (.map (some b)) (.map (some l.blk))
  | nilFunc : L0 ι .nilFunc .nilFunc
  | nilIface : L0 ι .nilIface .nilIface
  | func (fn : Fn) : L0 ι (.func fn #[] #[]) (.func fn #[] #[])
inductive L1 (ι : Emb) : Value→Value→Prop
  | l0 {v v' : Value} (h : L0 ι v v') : L1 ι v v'
  | func (fn : Fn) {a a' b b' : Array Value} (ha : All2 (L0 ι) a.toList a'.toList) (hb : All2 (L0 ι) b.toList b'.toList) : L1 ι (.func fn a b) (.func fn a' b')
inductive L2 (ι : Emb) : Value→Value→Prop
  | l1 {v v' : Value} (h : L1 ι v v') : L2 ι v v'
  | iface (t : TypeId) {v v' : Value} (h : L1 ι v v') : L2 ι (.iface t v) (.iface t v')
  | ifaceAgg (t : TypeId) {a a' : Array Value} (h : All2 (L1 ι) a.toList a'.toList) : L2 ι (.iface t (.agg a)) (.iface t (.agg a'))
inductive VA (ι : Emb) : Value→Value→Prop
  | l2 {v v' : Value} (h : L2 ι v v') : VA ι v v'
  | agg {a a' : Array Value} (h : All2 (L2 ι) a.toList a'.toList) : VA ι (.agg a) (.agg a')
inductive VRel (ι : Emb) : Value→Value→Prop
  | va {v v' : Value} (h : VA ι v v') : VRel ι v v'
  | tuple {a a' : Array Value} (h : All2 (VA ι) a.toList a'.toList) : VRel ι (.tuple a) (.tuple a')
  | poison (v' : Value) : VRel ι (.tuple #[.tuple #[]]) v'
def Emb.le (ι κ : Emb) : Prop:=∀ b x,ι b = some x→κ b = some x
theorem Emb.le.refl (ι : Emb) : ι.le ι:=fun _ _ h=>h
theorem Emb.le.trans {ι κ l : Emb} (h : ι.le κ) (g : κ.le l) : ι.le l:=fun b x e=>g b x (h b x e)
section mono
variable {ι κ : Emb} (hi : ι.le κ)
include hi
theorem L0.mono {v v' : Value} (h : L0 ι v v') : L0 κ v v':=by
  cases h with
  | bool b=>exact .bool b
  | int k n=>exact .int k n
  | string s=>exact .string s
  | pnil=>exact .pnil
  | ptr off h=>exact .ptr off (hi _ _ h)
  | snil=>exact .snil
  | slice off h hl hc hz=>exact .slice off (hi _ _ h) hl hc hz
  | slice0 a a'=>exact .slice0 a a'
  | mnil=>exact .mnil
  | map h=>exact .map (hi _ _ h)
  | nilFunc=>exact .nilFunc
  | nilIface=>exact .nilIface
  | func fn=>exact .func fn
theorem L1.mono {v v' : Value} (h : L1 ι v v') : L1 κ v v':=by
  cases h with
  | l0 h=>exact .l0 (h.mono hi)
  | func fn ha hb=>exact .func fn (ha.mono fun _ _=>L0.mono hi) (hb.mono fun _ _=>L0.mono hi)
theorem L2.mono {v v' : Value} (h : L2 ι v v') : L2 κ v v':=by
  cases h with
  | l1 h=>exact .l1 (h.mono hi)
  | iface t h=>exact .iface t (h.mono hi)
  | ifaceAgg t h=>exact .ifaceAgg t (h.mono fun _ _=>L1.mono hi)
theorem VA.mono {v v' : Value} (h : VA ι v v') : VA κ v v':=by
  cases h with
  | l2 h=>exact .l2 (h.mono hi)
  | agg h=>exact .agg (h.mono fun _ _=>L2.mono hi)
theorem VRel.mono {v v' : Value} (h : VRel ι v v') : VRel κ v v':=by
  cases h with
  | va h=>exact .va (h.mono hi)
  | tuple h=>exact .tuple (h.mono fun _ _=>VA.mono hi)
  | poison v'=>exact .poison v'
end mono
def ownB : Option Blk→Bool
  | some (.row _ _ .act)=>true
  | some (.map _ _)=>true
  | _=>false
def Hu (ι : Emb) (x : Value × Value × Nat) (e : MapEntry) : Prop:=e.key = x.1∧A0 x.1 = true∧VA ι x.2.1 e.val∧e.born = x.2.2
theorem ST {ι κ : Emb} (hi : ι.le κ) {x : Value × Value × Nat} {e : MapEntry} (h : Hu ι x e) : Hu κ x e:=⟨h.1,h.2.1,h.2.2.1.mono hi,h.2.2.2⟩
def MObj (ι : Emb) (es : List (Value × Value × Nat)) (clock : Nat) (o : Obj) : Prop :=
  (∃ es',o = .map es' clock∧All2 (Hu ι) es es'.toList) ∨ (∃ (s : ByteArray) (pos : Nat),es = [(.tuple #[],.string s,pos)]∧o = .stringIter s pos) ∨ (∃ (r c : Nat) (l : Loc),es = [(.tuple #[],.map (some r),c)]∧ι r = some l∧o = .mapIter (some l.blk) c #[] c)
theorem MObj.mono {ι κ : Emb} (hi : ι.le κ) {es : List (Value × Value × Nat)} {clock : Nat} {o : Obj} (h : MObj ι es clock o) : MObj κ es clock o:=by
  rcases h with ⟨es',e,h⟩ | h | ⟨r,c,l,h1,h2,h3⟩
  · exact .inl ⟨es',e,h.mono fun x e=>ST hi⟩
  · exact .inr (.inl h)
  · exact .inr (.inr ⟨r,c,l,h1,hi _ _ h2,h3⟩)
theorem MObj.map {ι : Emb} {es : List (Value × Value × Nat)} {clock : Nat} {o : Obj} (h : MObj ι es clock o) (hn : ¬ Fh es = true) : ∃ es',o = .map es' clock∧All2 (Hu ι) es es'.toList:=by
  rcases h with h | ⟨s,pos,rfl,_⟩ | ⟨r,c,l,rfl,_⟩
  · exact h
  · exact absurd rfl hn
  · exact absurd rfl hn
theorem MObj.cells {ι : Emb} {es : List (Value × Value × Nat)} {clock : Nat} {o : Obj} (h : MObj ι es clock o) (cs : Array Value) (e : TypeId) (fz : Nat × Nat) : o ≠ .cells cs e fz:=by
  rcases h with ⟨_,rfl,_⟩ | ⟨_,_,_,rfl⟩ | ⟨_,_,_,_,_,rfl⟩ <;> intro h <;> cases h
def fzOk (k : Nat) (fz : Nat × Nat) (n : Nat) : Prop:=fz.1 = fz.2 ∨ (k = 1∧n ≤ fz.1)
theorem fzOk.no {k : Nat} {fz : Nat × Nat} {n : Nat} (h : fzOk k fz n) (i : Nat) (hi : i < n) : ¬(fz.1 ≤ i∧i < fz.2):=by
  unfold fzOk at h
  omega
structure Sim (wb : Nat) (ι : Emb) (H : List Blk) (w : World) : Prop where
  dom : ∀ b x,ι b = some x→b < H.length
  row : ∀ b n cells st,H[b]? = some (.row n cells st)→st ≠ .dead→∀ l,ι b = some l →
    ∃ cs e fz,w.heap[l.blk]? = some (.cells cs e fz)∧(st = .ro→l.blk < wb)∧(st = .act→wb ≤ l.blk∧l.n = n∧l.z = cs.size∧fzOk n fz cs.size) ∧
      ∀ (i : Nat) (v : Value),cells[i]? = some v→∃ v' : Value,cs[l.off + i]? = some v'∧L2 ι v v'
  map : ∀ b es clock,H[b]? = some (.map es clock)→∀ l,ι b = some l →
    wb ≤ l.blk∧(l.n = 0∧l.off = 0)∧∃ o,w.heap[l.blk]? = some o∧MObj ι es clock o
  excl : ∀ a b,ownB H[a]? = true→ownB H[b]? = true→a ≠ b→∀ x y,ι a = some x→ι b = some y→x.blk ≠ y.blk
  size : wb ≤ w.heap.size
  loc : ∀ b n cells st,H[b]? = some (.row n cells st)→st ≠ .dead→∀ l,ι b = some l→l.n = n∧l.off ≤ l.z
structure Step (ι : Emb) (H : List Blk) (w : World) (κ : Emb) (K : List Blk) (v : World) : Prop where
  le : ι.le κ
  old : ∀ b,b < H.length→κ b = ι b
  img : ∀ b x,κ b = some x→H.length ≤ b→w.heap.size ≤ x.blk ∨ ∃ a y,ownB H[a]? = true∧ι a = some y∧y.blk = x.blk
  keep : ∀ c,c < w.heap.size→(∀ a y,ownB H[a]? = true→ι a = some y→y.blk ≠ c)→v.heap[c]? = w.heap[c]?
  size : w.heap.size ≤ v.heap.size
  os : v.os = w.os
  tape : v.tape = w.tape
  output : v.output = w.output
  len : H.length ≤ K.length
  own : ∀ a,a < H.length→ownB K[a]? = true→ownB H[a]? = true
theorem Step.refl (ι : Emb) (H : List Blk) (w : World) (hd : ∀ b x,ι b = some x→b < H.length) : Step ι H w ι H w where
  le:=.refl _
  old _ _:=rfl
  img b x h hb:=absurd (hd b x h) (by omega)
  keep _ _ _:=rfl
  size:=Nat.le_refl _
  os:=rfl
  tape:=rfl
  output:=rfl
  len:=Nat.le_refl _
  own _ _ h:=h
theorem Step.trans {ι κ l : Emb} {H K L : List Blk} {w v u : World} (h : Step ι H w κ K v) (g : Step κ K v l L u) : Step ι H w l L u where
  le:=h.le.trans g.le
  old b hb:=(g.old b (Nat.lt_of_lt_of_le hb h.len)).trans (h.old b hb)
  img b x e hb:=by
    by_cases hk : b < K.length
    · rw [g.old b hk] at e
      exact h.img b x e hb
    · rcases g.img b x e (by omega) with h1 | ⟨a,y,ha,hy,he⟩
      · exact .inl (Nat.le_trans h.size h1)
      · by_cases hH : a < H.length
        · rw [h.old a hH] at hy
          exact .inr ⟨a,y,h.own a hH ha,hy,he⟩
        · rcases h.img a y hy (by omega) with h2 | ⟨a',y',ha',hy',he'⟩
          · exact .inl (he ▸ h2)
          · exact .inr ⟨a',y',ha',hy',he'.trans he⟩
  keep c hc hn:=by
    rw [g.keep c (Nat.lt_of_lt_of_le hc h.size) ?_,h.keep c hc hn]
    intro a y ha hy he
    by_cases hH : a < H.length
    · rw [h.old a hH] at hy
      exact hn a y (h.own a hH ha) hy he
    · rcases h.img a y hy (by omega) with h2 | ⟨a',y',ha',hy',he'⟩
      · omega
      · exact hn a' y' ha' hy' (he'.trans he)
  size:=Nat.le_trans h.size g.size
  os:=g.os.trans h.os
  tape:=g.tape.trans h.tape
  output:=g.output.trans h.output
  len:=Nat.le_trans h.len g.len
  own a ha e:=h.own a ha (g.own a (Nat.lt_of_lt_of_le ha h.len) e)
end Go.Proofs.YtmbhnbladmpnoaaGreat.Ab

/- The abstract machine against the model: new rows,rows written,rows read. -/
namespace Go.Proofs.YtmbhnbladmpnoaaGreat.Ab
open Go
theorem Sim.congr {wb : Nat} {ι : Emb} {H : List Blk} {w v : World} (h : Sim wb ι H w) (e : v.heap = w.heap) : Sim wb ι H v where
  dom:=h.dom
  row:=by rw [e]; exact h.row
  map:=by rw [e]; exact h.map
  excl:=h.excl
  size:=by rw [e]; exact h.size
  loc:=h.loc
theorem Step.drew {ι : Emb} {H : List Blk} {w : World} (hd : ∀ b x,ι b = some x→b < H.length) : Step ι H w ι H w.drew where
  le:=.refl _
  old _ _:=rfl
  img b x h hb:=absurd (hd b x h) (by omega)
  keep _ _ _:=rfl
  size:=Nat.le_refl _
  os:=rfl
  tape:=rfl
  output:=rfl
  len:=Nat.le_refl _
  own _ _ h:=h
def Emb.add (ι : Emb) (n : Nat) (x : Loc) : Emb:=fun b=>if b = n then some x else ι b
theorem Emb.le_add {ι : Emb} {n : Nat} {x : Loc} (h : ι n = none) : ι.le (ι.add n x):=by
  intro b y e
  unfold Emb.add
  split
  · rename_i hb; subst hb; rw [h] at e; cases e
  · exact e
theorem Emb.add_same (ι : Emb) (n : Nat) (x : Loc) : ι.add n x n = some x:=by simp [Emb.add]
theorem Emb.add_ne {ι : Emb} {n b : Nat} {x : Loc} (h : b ≠ n) : ι.add n x b = ι b:=by simp [Emb.add,h]
theorem Sim.fresh {wb : Nat} {ι : Emb} {H : List Blk} {w : World} (h : Sim wb ι H w) {b : Nat} (hb : H.length ≤ b) : ι b = none:=by
  cases e : ι b with
  | none=>rfl
  | some x=>exact absurd (h.dom b x e) (by omega)
theorem Sim.lt {wb : Nat} {ι : Emb} {H : List Blk} {w : World} (h : Sim wb ι H w) {b : Nat} {B : Blk} (hB : H[b]? = some B) (hn : ∀ n c,B ≠ .row n c .dead) {x : Loc} (hx : ι b = some x) : x.blk < w.heap.size:=by
  cases B with
  | row n cells st =>
    obtain ⟨cs,e,fz,hw,_⟩:=h.row b n cells st hB (fun he=>hn n cells (by rw [he])) x hx
    rcases Nat.lt_or_ge x.blk w.heap.size with hl | hl
    · exact hl
    · rw [Array.getElem?_eq_none hl] at hw; cases hw
  | map es clock =>
    obtain ⟨_,_,es',hw,_⟩:=h.map b es clock hB x hx
    rcases Nat.lt_or_ge x.blk w.heap.size with hl | hl
    · exact hl
    · rw [Array.getElem?_eq_none hl] at hw; cases hw
theorem Sim.own_lt {wb : Nat} {ι : Emb} {H : List Blk} {w : World} (h : Sim wb ι H w) {b : Nat} (hb : ownB H[b]? = true) {x : Loc} (hx : ι b = some x) : x.blk < w.heap.size:=by
  cases e : H[b]? with
  | none=>rw [e] at hb; cases hb
  | some B=>exact h.lt e (fun n c hc=>by subst hc; rw [e] at hb; cases hb) hx
theorem Sim.push {wb : Nat} {ι : Emb} {H : List Blk} {w : World} (h : Sim wb ι H w) {n : Nat} {cells : List Value} {cs : Array Value} {e : TypeId} {fz : Nat × Nat}
    (hz : fzOk n fz cs.size) (hc : ∀ (i : Nat) (v : Value),cells[i]? = some v→∃ v' : Value,cs[i]? = some v'∧L2 ι v v') :
    Sim wb (ι.add H.length ⟨w.heap.size,0,n,cs.size⟩) (H ++ [.row n cells .act]) (w.alloc (.cells cs e fz)) ∧
    Step ι H w (ι.add H.length ⟨w.heap.size,0,n,cs.size⟩) (H ++ [.row n cells .act]) (w.alloc (.cells cs e fz)):=by
  have hf : ι H.length = none:=h.fresh (Nat.le_refl _)
  have hle : ι.le (ι.add H.length ⟨w.heap.size,0,n,cs.size⟩):=Emb.le_add hf
  have hold : ∀ c,c < w.heap.size→(w.alloc (.cells cs e fz)).heap[c]? = w.heap[c]?:=fun c hc=>by
    show (w.heap.push _)[c]? = _
    rw [Array.getElem?_push,if_neg (Nat.ne_of_lt hc)]
  have hnew : (w.alloc (.cells cs e fz)).heap[w.heap.size]? = some (.cells cs e fz):=by
    show (w.heap.push _)[w.heap.size]? = _
    rw [Array.getElem?_push,if_pos rfl]
  constructor
  · constructor
    · intro b x hx
      simp only [List.length_append,List.length_singleton]
      by_cases hb : b = H.length
      · omega
      · rw [Emb.add_ne hb] at hx; have:=h.dom b x hx; omega
    · intro b n' cells' st hb hst l hx
      by_cases hbl : b = H.length
      · subst hbl
        rw [List.getElem?_append_right (Nat.le_refl _)] at hb
        simp at hb
        obtain ⟨rfl,rfl,rfl⟩:=hb
        rw [Emb.add_same] at hx
        cases hx
        refine ⟨cs,e,fz,hnew,by simp,fun _=>⟨h.size,rfl,rfl,hz⟩,fun i v hi=>?_⟩
        obtain ⟨v',hv',hr⟩:=hc i v hi
        exact ⟨v',by simpa using hv',hr.mono hle⟩
      · have hbl2 : b < H.length:=by
          have:=(List.getElem?_eq_some_iff.1 hb).1
          simp at this; omega
        rw [List.getElem?_append_left hbl2] at hb
        rw [Emb.add_ne hbl] at hx
        obtain ⟨cs',e',fz',hw,h1,h2,h3⟩:=h.row b n' cells' st hb hst l hx
        refine ⟨cs',e',fz',?_,h1,h2,fun i v hi=>?_⟩
        · rw [hold l.blk ?_]; exact hw
          exact h.lt hb (fun n c hc=>hst (by cases hc; rfl)) (x:=l) hx
        · obtain ⟨v',hv',hr⟩:=h3 i v hi
          exact ⟨v',hv',hr.mono hle⟩
    · intro b es clock hb l hx
      have hbl : b ≠ H.length:=by
        intro hb2; subst hb2
        rw [List.getElem?_append_right (Nat.le_refl _)] at hb
        simp at hb
      have hbl2 : b < H.length:=by
        have:=(List.getElem?_eq_some_iff.1 hb).1
        simp at this; omega
      rw [List.getElem?_append_left hbl2] at hb
      rw [Emb.add_ne hbl] at hx
      obtain ⟨h1,hz,es',hw,h3⟩:=h.map b es clock hb l hx
      refine ⟨h1,hz,es',?_,h3.mono hle⟩
      rw [hold l.blk ?_]; exact hw
      exact h.lt hb (fun n c hc=>by cases hc) (x:=l) hx
    · intro a b ha hb hne x y hx hy
      by_cases ha' : a = H.length
      · subst ha'
        have hb' : b ≠ H.length:=fun e=>hne e.symm
        rw [Emb.add_same] at hx
        rw [Emb.add_ne hb'] at hy
        cases hx
        have hbl : b < H.length:=h.dom b y hy
        rw [List.getElem?_append_left hbl] at hb
        have:=h.own_lt hb hy
        show w.heap.size ≠ y.blk
        omega
      · rw [Emb.add_ne ha'] at hx
        have hal : a < H.length:=h.dom a x hx
        rw [List.getElem?_append_left hal] at ha
        by_cases hb' : b = H.length
        · subst hb'
          rw [Emb.add_same] at hy
          cases hy
          have:=h.own_lt ha hx
          show x.blk ≠ w.heap.size
          omega
        · rw [Emb.add_ne hb'] at hy
          have hbl : b < H.length:=h.dom b y hy
          rw [List.getElem?_append_left hbl] at hb
          exact h.excl a b ha hb hne x y hx hy
    · have:=h.size; simp; omega
    · intro b n' cells' st hb hst l hx
      by_cases hbl : b = H.length
      · subst hbl
        rw [List.getElem?_append_right (Nat.le_refl _)] at hb
        simp at hb
        rw [Emb.add_same] at hx
        cases hx
        exact ⟨hb.1,Nat.zero_le _⟩
      · have hbl2 : b < H.length:=by
          have:=(List.getElem?_eq_some_iff.1 hb).1
          simp at this; omega
        rw [List.getElem?_append_left hbl2] at hb
        rw [Emb.add_ne hbl] at hx
        exact h.loc b n' cells' st hb hst l hx
  · constructor
    · exact hle
    · intro b hb; exact Emb.add_ne (by omega)
    · intro b x hx hb
      by_cases hbl : b = H.length
      · subst hbl; rw [Emb.add_same] at hx; cases hx; exact .inl (Nat.le_refl _)
      · rw [Emb.add_ne hbl] at hx; exact absurd (h.dom b x hx) (by omega)
    · intro c hc _; exact hold c hc
    · simp
    · rfl
    · rfl
    · rfl
    · simp
    · intro a ha e; rwa [List.getElem?_append_left ha] at e
theorem Sim.kill {wb : Nat} {ι : Emb} {H : List Blk} {w : World} (h : Sim wb ι H w) {b n : Nat} {cells : List Value} {st0 : Stat} (hb0 : H[b]? = some (.row n cells st0)) :
    Sim wb ι (H.set b (.row n cells .dead)) w∧Step ι H w ι (H.set b (.row n cells .dead)) w:=by
  have hget : ∀ (a : Nat) (B : Blk),(H.set b (Blk.row n cells .dead))[a]? = some B→(∀ n c,B ≠ Blk.row n c .dead)→H[a]? = some B:=by
    intro a B hB hn
    by_cases hab : b = a
    · subst hab
      rw [List.getElem?_set] at hB
      simp at hB
      exact absurd hB.2.symm (hn n cells)
    · rwa [List.getElem?_set_ne hab] at hB
  have hown : ∀ a : Nat,ownB (H.set b (Blk.row n cells .dead))[a]? = true→ownB H[a]? = true:=by
    intro a ha
    cases e : (H.set b (Blk.row n cells .dead))[a]? with
    | none=>rw [e] at ha; cases ha
    | some B =>
      rw [hget a B e fun n c hc=>by subst hc; rw [e] at ha; cases ha]
      rw [e] at ha; exact ha
  constructor
  · constructor
    · intro a x hx; simpa using h.dom a x hx
    · intro a n' cells' st hb hst; exact h.row a n' cells' st (hget a _ hb fun n c hc=>hst (by cases hc; rfl)) hst
    · intro a es clock hb; exact h.map a es clock (hget a _ hb fun n c hc=>by cases hc)
    · intro a c ha hc; exact h.excl a c (hown a ha) (hown c hc)
    · exact h.size
    · intro a n' cells' st ha hst l hl
      by_cases hab : b = a
      · subst hab
        rw [List.getElem?_set] at ha
        simp at ha
        exact absurd ha.2.2.2.symm hst
      · rw [List.getElem?_set_ne hab] at ha
        exact h.loc a n' cells' st ha hst l hl
  · constructor
    · exact .refl _
    · intro _ _; rfl
    · intro a x hx ha; exact absurd (h.dom a x hx) (by omega)
    · intro _ _ _; rfl
    · exact Nat.le_refl _
    · rfl
    · rfl
    · rfl
    · simp
    · intro a _ e; exact hown a e
def updA (cs : Array Value) : Nat→List Value→Array Value
  | _,[]=>cs
  | p,v :: vs=>updA (cs.setIfInBounds p v) (p + 1) vs
theorem Gr (vs : List Value) : ∀ (cs : Array Value) (p : Nat),(updA cs p vs).size = cs.size:=by
  induction vs with
  | nil=>intro cs p; rfl
  | cons v vs ih=>intro cs p; rw [updA,ih]; simp
theorem NT (vs : List Value) : ∀ (cs : Array Value) (p i : Nat),i < p→(updA cs p vs)[i]? = cs[i]?:=by
  induction vs with
  | nil=>intro cs p i _; rfl
  | cons v vs ih=>intro cs p i hi; rw [updA,ih _ _ _ (by omega),Array.getElem?_setIfInBounds_ne (by omega)]
theorem Uv (vs : List Value) : ∀ (cs : Array Value) (p i : Nat),p + vs.length ≤ i→(updA cs p vs)[i]? = cs[i]?:=by
  induction vs with
  | nil=>intro cs p i _; rfl
  | cons v vs ih=>intro cs p i hi; simp at hi; rw [updA,ih _ _ _ (by omega),Array.getElem?_setIfInBounds_ne (by omega)]
theorem Rm (vs : List Value) : ∀ (cs : Array Value) (p j : Nat),j < vs.length→p + vs.length ≤ cs.size→(updA cs p vs)[p + j]? = vs[j]?:=by
  induction vs with
  | nil=>intro cs p j hj; simp at hj
  | cons v vs ih =>
    intro cs p j hj hs
    simp at hj hs
    cases j with
    | zero =>
      rw [updA,NT _ _ _ _ (by omega)]
      simp
      rw [Array.getElem?_setIfInBounds_self_of_lt (by omega)]
    | succ j =>
      rw [updA]
      have:=ih (cs.setIfInBounds p v) (p + 1) j (by omega) (by simp; omega)
      rw [show p + (j + 1) = p + 1 + j by omega,this]
      simp
theorem cell?_of {w : World} {b : Nat} {cs : Array Value} {e : TypeId} {fz : Nat × Nat} (h : w.heap[b]? = some (.cells cs e fz)) (i : Nat) : w.cell? ⟨b,i,none⟩ = cs[i]?:=by
  simp [World.cell?,h]
theorem frozen?_of {w : World} {b : Nat} {cs : Array Value} {e : TypeId} {fz : Nat × Nat} (h : w.heap[b]? = some (.cells cs e fz)) (i : Nat) (hf : ¬(fz.1 ≤ i∧i < fz.2)) : w.frozen? ⟨b,i,none⟩ = false:=by
  obtain ⟨lo,hi⟩:=fz
  simp [World.frozen?,h]
  simp at hf
  exact fun hh=>hf hh
theorem SU {w : World} {b : Nat} {cs : Array Value} {e : TypeId} {fz : Nat × Nat} (h : w.heap[b]? = some (.cells cs e fz)) (i : Nat) (v : Value) :
    (w.setCell ⟨b,i,none⟩ v).heap[b]? = some (.cells (cs.setIfInBounds i v) e fz):=by
  simp [World.setCell,Array.getElem?_modify,h]
theorem NU {w : World} {b c : Nat} (i : Nat) (v : Value) (h : c ≠ b) : (w.setCell ⟨b,i,none⟩ v).heap[c]? = w.heap[c]?:=by
  simp [World.setCell,Array.getElem?_modify,Ne.symm h]
theorem EV (b off i : Nat) : (⟨b,off,none⟩ : Addr).add i = ⟨b,off + i,none⟩:=by
  unfold Addr.add; split <;> simp_all
theorem PQ {P : Program} {w : World} {b i : Nat} {cs : Array Value} {e : TypeId} {fz : Nat × Nat} {v : Value} {α : Type} (k : Sem α) (hv : AI v = true)
    (h : w.heap[b]? = some (.cells cs e fz)) (hi : i < cs.size) (hf : ¬(fz.1 ≤ i∧i < fz.2)) (m : Mode) :
    (Sem.store m ⟨b,i,none⟩ v k).run P w = k.run P (w.setCell ⟨b,i,none⟩ v):=by
  have h1 : w.cell? ⟨b,i,none⟩ = some cs[i]:=by rw [cell?_of h]; simp [hi]
  have h2:=frozen?_of h i hf
  cases v <;> simp_all [Sem.run,AI]
theorem F7 {P : Program} {b off : Nat} {e : TypeId} {fz : Nat × Nat} (vs : List Value) : ∀ (i : Nat) (w : World) (cs : Array Value),w.heap[b]? = some (.cells cs e fz) →
    (∀ j,j < cs.size→¬(fz.1 ≤ j∧j < fz.2))→off + i + vs.length ≤ cs.size→vs.all AI = true →
    ∃ w',(storeCells ⟨b,off,none⟩ vs i).run P w = .ok () w'∧w'.heap[b]? = some (.cells (updA cs (off + i) vs) e fz)∧(∀ c,c ≠ b→w'.heap[c]? = w.heap[c]?) ∧
      w'.heap.size = w.heap.size∧w'.os = w.os∧w'.tape = w.tape∧w'.output = w.output∧w'.drawn = w.drawn:=by
  induction vs with
  | nil=>intro i w cs h _ _ _; exact ⟨w,rfl,h,fun _ _=>rfl,rfl,rfl,rfl,rfl,rfl⟩
  | cons v vs ih =>
    intro i w cs h hf hl hv
    simp at hl hv
    have hw:=SU h (off + i) v
    obtain ⟨w',h1,h2,h3,h4,h5,h6,h7,h8⟩:=ih (i + 1) (w.setCell ⟨b,off + i,none⟩ v) (cs.setIfInBounds (off + i) v) hw (by simpa using hf) (by simp; omega) (by simpa using hv.2)
    refine ⟨w',?_,?_,?_,?_,?_,?_,?_,?_⟩
    · rw [storeCells,EV]
      show (Sem.store .plain ⟨b,off + i,none⟩ v _).run P w = _
      rw [PQ _ hv.1 h (by omega) (hf _ (by omega))]
      exact h1
    · rw [h2,updA,Nat.add_assoc]
    · intro c hc; rw [h3 c hc,NU _ _ hc]
    · rw [h4]; simp
    · rw [h5]; rfl
    · rw [h6]; rfl
    · rw [h7]; rfl
    · rw [h8]; rfl
theorem L2.leaf {ι : Emb} {v v' : Value} (h : L2 ι v v') : AI v' = true:=by
  cases h with
  | l1 h=>cases h with
    | l0 h=>cases h <;> rfl
    | func=>rfl
  | iface=>rfl
  | ifaceAgg=>rfl
theorem All2.leaf {ι : Emb} : ∀ {l m : List Value},All2 (L2 ι) l m→m.all AI = true
  | [],[],_=>rfl
  | _ :: _,_ :: _,⟨h1,h2⟩=>by simp [h1.leaf]; simpa using All2.leaf h2
theorem HS (cells : List Value) (off : Nat) (vs : List Value) (h : off + vs.length ≤ cells.length) (i : Nat) :
    (AE cells off vs)[i]? = if i < off then cells[i]? else if i < off + vs.length then vs[i - off]? else cells[i]?:=by
  unfold AE
  have hl : (cells.take off ++ vs).length = off + vs.length:=by simp; omega
  have ht : (cells.take off).length = off:=by simp; omega
  by_cases h1 : i < off
  · simp only [h1,if_true]
    rw [List.append_assoc,List.getElem?_append_left (by omega),List.getElem?_take_of_lt h1]
  · simp only [h1,if_false]
    by_cases h2 : i < off + vs.length
    · simp only [h2,if_true]
      rw [List.append_assoc,List.getElem?_append_right (by omega),ht,List.getElem?_append_left (by omega)]
    · simp only [h2,if_false]
      rw [List.getElem?_append_right (by omega),hl,List.getElem?_drop]
      congr 1; omega
theorem HT (cells : List Value) (off : Nat) (vs : List Value) (h : off + vs.length ≤ cells.length) : (AE cells off vs).length = cells.length:=by
  unfold AE; simp; omega
theorem Sim.write {wb : Nat} {ι : Emb} {P : Program} {H : List Blk} {w : World} (h : Sim wb ι H w) {b off n : Nat} {lc : Loc} {cells vs vs' : List Value}
    (hb : H[b]? = some (.row n cells .act)) (hx : ι b = some lc) (hl : off + vs.length ≤ cells.length) (hv : All2 (L2 ι) vs vs') :
    ∃ w',(storeCells ⟨lc.blk,lc.off + off,none⟩ vs').run P w = .ok () w'∧Sim wb ι (H.set b (.row n (AE cells off vs) .act)) w' ∧
      Step ι H w ι (H.set b (.row n (AE cells off vs) .act)) w'∧w'.drawn = w.drawn:=by
  obtain ⟨cs,e,fz,hw,_,h2,h3⟩:=h.row b n cells .act hb (by simp) lc hx
  obtain ⟨hwb,hn1,hn2,hf⟩:=h2 rfl
  have hvl:=hv.length
  have hcs : ∀ i,i < cells.length→lc.off + i < cs.size:=fun i hi=>by
    obtain ⟨v',hv',_⟩:=h3 i cells[i] (by simp [hi])
    exact (Array.getElem?_eq_some_iff.1 hv').1
  have hsz : vs.length = 0 ∨ lc.off + off + vs.length ≤ cs.size:=by
    by_cases h0 : vs.length = 0
    · exact .inl h0
    · have:=hcs (off + vs.length - 1) (by omega); right; omega
  have hbl : b < H.length:=(List.getElem?_eq_some_iff.1 hb).1
  rcases hsz with h0 | hsz
  · have : vs = []:=by simpa using h0
    subst this
    have : vs' = []:=by cases vs' with
      | nil=>rfl
      | cons x l=>simp [All2] at hv
    subst this
    have hput : AE cells off [] = cells:=by simp [AE]
    have hset : H.set b (.row n (AE cells off []) .act) = H:=by
      rw [hput]
      apply List.ext_getElem?
      intro i
      by_cases hi : b = i
      · subst hi; rw [List.getElem?_set_self hbl]; exact hb.symm
      · rw [List.getElem?_set_ne hi]
    rw [hset]
    exact ⟨w,rfl,h,.refl _ _ _ h.dom,rfl⟩
  obtain ⟨w',r1,r2,r3,r4,r5,r6,r7,r8⟩:=F7 (P:=P) (b:=lc.blk) (off:=lc.off + off) vs' 0 w cs hw hf.no (by omega) hv.leaf
  have hown : ∀ a : Nat,ownB (H.set b (Blk.row n (AE cells off vs) .act))[a]? = ownB H[a]?:=fun a=>by
    by_cases ha : b = a
    · subst ha; rw [List.getElem?_set_self hbl,hb]; rfl
    · rw [List.getElem?_set_ne ha]
  have hother : ∀ a x,ι a = some x→ownB H[a]? = true→a ≠ b→x.blk ≠ lc.blk:=fun a x ha ho hne =>
    h.excl a b ho (by rw [hb]; rfl) hne x lc ha hx
  refine ⟨w',r1,⟨?_,?_,?_,?_,?_,?_⟩,⟨.refl _,fun _ _=>rfl,?_,?_,?_,r5,r6,r7,by simp,fun a _ e=>by rwa [hown] at e⟩,r8⟩
  · intro a x ha; simpa using h.dom a x ha
  · intro a n' cells' st ha hst l' hax
    by_cases hab : b = a
    · subst hab
      rw [List.getElem?_set_self hbl] at ha
      simp at ha
      obtain ⟨rfl,rfl,rfl⟩:=ha
      rw [hx] at hax
      cases hax
      refine ⟨updA cs (lc.off + off + 0) vs',e,fz,r2,by simp,fun _=>⟨hwb,hn1,by rw [Gr]; exact hn2,by rw [Gr]; exact hf⟩,fun i v hi=>?_⟩
      rw [HS _ _ _ hl] at hi
      by_cases h4 : i < off
      · simp only [h4,if_true] at hi
        obtain ⟨v',hv',hr⟩:=h3 i v hi
        exact ⟨v',by rw [NT _ _ _ _ (by omega)]; exact hv',hr⟩
      · simp only [h4,if_false] at hi
        by_cases h5 : i < off + vs.length
        · simp only [h5,if_true] at hi
          obtain ⟨v',hv',hr⟩:=hv.get _ _ hi
          refine ⟨v',?_,hr⟩
          have:=Rm vs' cs (lc.off + off + 0) (i - off) (by omega) (by omega)
          rw [show lc.off + off + 0 + (i - off) = lc.off + i by omega] at this
          rw [this]; exact hv'
        · simp only [h5,if_false] at hi
          obtain ⟨v',hv',hr⟩:=h3 i v hi
          exact ⟨v',by rw [Uv _ _ _ _ (by omega)]; exact hv',hr⟩
    · rw [List.getElem?_set_ne hab] at ha
      obtain ⟨cs',e',fz',hw',q1,q2,q3⟩:=h.row a n' cells' st ha hst l' hax
      have hne : l'.blk ≠ lc.blk:=by
        cases st with
        | dead=>exact absurd rfl hst
        | ro=>have:=q1 rfl; omega
        | act=>exact hother a l' hax (by rw [ha]; rfl) (Ne.symm hab)
      exact ⟨cs',e',fz',by rw [r3 l'.blk hne]; exact hw',q1,q2,q3⟩
  · intro a es clock ha l' hax
    have hab : b ≠ a:=by intro hh; subst hh; rw [List.getElem?_set_self hbl] at ha; simp at ha
    rw [List.getElem?_set_ne hab] at ha
    obtain ⟨q1,qz,es',hw',q3⟩:=h.map a es clock ha l' hax
    have hne : l'.blk ≠ lc.blk:=hother a l' hax (by rw [ha]; rfl) (Ne.symm hab)
    exact ⟨q1,qz,es',by rw [r3 l'.blk hne]; exact hw',q3⟩
  · intro a c ha hc; rw [hown] at ha hc; exact h.excl a c ha hc
  · rw [r4]; exact h.size
  · intro a n' cells' st ha hst l hl
    by_cases hab : b = a
    · subst hab
      rw [List.getElem?_set_self hbl] at ha
      simp at ha
      obtain ⟨rfl,_⟩:=ha
      exact h.loc b n cells .act hb (by simp) l hl
    · rw [List.getElem?_set_ne hab] at ha
      exact h.loc a n' cells' st ha hst l hl
  · intro a x ha hal; exact absurd (h.dom a x ha) (by omega)
  · intro c hc hn
    refine r3 c fun hcb=>?_
    exact hn b lc (by rw [hb]; rfl) hx hcb.symm
  · rw [r4]; exact Nat.le_refl _
theorem Sim.grow {wb : Nat} {ι : Emb} {P : Program} {H : List Blk} {w : World} (h : Sim wb ι H w) {b n : Nat} {lc : Loc} {cells new new' : List Value}
    (hb : H[b]? = some (.row n cells .act)) (hx : ι b = some lc) (hfit : lc.off + cells.length + new.length ≤ lc.z) (hv : All2 (L2 ι) new new') :
    ∃ w',(storeCells ⟨lc.blk,lc.off + cells.length,none⟩ new').run P w = .ok () w'∧Sim wb (ι.add H.length lc) (H.set b (.row n cells .dead) ++ [.row n (cells ++ new) .act]) w' ∧
      Step ι H w (ι.add H.length lc) (H.set b (.row n cells .dead) ++ [.row n (cells ++ new) .act]) w':=by
  obtain ⟨cs,e,fz,hw,_,h2,h3⟩:=h.row b n cells .act hb (by simp) lc hx
  obtain ⟨hwb,hn1,hn2,hf⟩:=h2 rfl
  have hvl:=hv.length
  have hbl : b < H.length:=(List.getElem?_eq_some_iff.1 hb).1
  obtain ⟨w',r1,r2,r3,r4,r5,r6,r7,r8⟩:=F7 (P:=P) (b:=lc.blk) (off:=lc.off + cells.length) new' 0 w cs hw hf.no (by omega) hv.leaf
  have hfr : ι H.length = none:=h.fresh (Nat.le_refl _)
  have hle : ι.le (ι.add H.length lc):=Emb.le_add hfr
  have hkl:=(h.kill (cells:=cells) hb).1
  have hown : ∀ a : Nat,a < H.length→ownB (H.set b (Blk.row n cells .dead) ++ [Blk.row n (cells ++ new) .act])[a]? = true→ownB H[a]? = true∧a ≠ b:=by
    intro a ha ho
    rw [List.getElem?_append_left (by simpa using ha)] at ho
    by_cases hab : b = a
    · subst hab; rw [List.getElem?_set_self hbl] at ho; cases ho
    · rw [List.getElem?_set_ne hab] at ho; exact ⟨ho,Ne.symm hab⟩
  have hother : ∀ a x,ι a = some x→ownB H[a]? = true→a ≠ b→x.blk ≠ lc.blk:=fun a x ha ho hne=>h.excl a b ho (by rw [hb]; rfl) hne x lc ha hx
  have hlen : (H.set b (Blk.row n cells .dead)).length = H.length:=by simp
  have hget : ∀ (a : Nat) (B : Blk),(H.set b (Blk.row n cells .dead) ++ [Blk.row n (cells ++ new) .act])[a]? = some B→(a = H.length∧B = .row n (cells ++ new) .act) ∨ (a < H.length∧a = b∧B = .row n cells .dead) ∨ (a < H.length∧a ≠ b∧H[a]? = some B):=by
    intro a B hB
    by_cases ha : a < H.length
    · rw [List.getElem?_append_left (by omega)] at hB
      by_cases hab : b = a
      · subst hab; rw [List.getElem?_set_self hbl] at hB; cases hB; exact .inr (.inl ⟨ha,rfl,rfl⟩)
      · rw [List.getElem?_set_ne hab] at hB; exact .inr (.inr ⟨ha,Ne.symm hab,hB⟩)
    · have : a = H.length:=by have:=(List.getElem?_eq_some_iff.1 hB).1; simp at this; omega
      subst this
      rw [List.getElem?_append_right (by omega)] at hB
      simp at hB
      exact .inl ⟨rfl,hB.symm⟩
  refine ⟨w',r1,⟨?_,?_,?_,?_,?_,?_⟩,⟨hle,?_,?_,?_,by rw [r4]; exact Nat.le_refl _,r5,r6,r7,by simp,fun a ha ho=>(hown a ha ho).1⟩⟩
  · intro a x ha
    simp
    by_cases hal : a = H.length
    · omega
    · rw [Emb.add_ne hal] at ha; have:=h.dom a x ha; omega
  · intro a n' cells' st ha hst l hl
    rcases hget a _ ha with ⟨rfl,he⟩ | ⟨_,_,he⟩ | ⟨hal,hab,hH⟩
    · injection he with e1 e2 e3
      subst e1 e2 e3
      rw [Emb.add_same] at hl
      cases hl
      refine ⟨_,e,fz,r2,by simp,fun _=>⟨hwb,hn1,by rw [Gr]; exact hn2,by rw [Gr]; exact hf⟩,fun i v hi=>?_⟩
      by_cases hic : i < cells.length
      · rw [List.getElem?_append_left hic] at hi
        obtain ⟨v',hv',hr⟩:=h3 i v hi
        exact ⟨v',by rw [NT _ _ _ _ (by omega)]; exact hv',hr.mono hle⟩
      · rw [List.getElem?_append_right (by omega)] at hi
        obtain ⟨v',hv',hr⟩:=hv.get _ _ hi
        have hil:=(List.getElem?_eq_some_iff.1 hi).1
        refine ⟨v',?_,hr.mono hle⟩
        have:=Rm new' cs (lc.off + cells.length + 0) (i - cells.length) (by omega) (by omega)
        rw [show lc.off + cells.length + 0 + (i - cells.length) = lc.off + i by omega] at this
        rw [this]; exact hv'
    · injection he with _ _ e3
      exact absurd e3 hst
    · rw [Emb.add_ne (by omega)] at hl
      obtain ⟨cs',e',fz',hw',q1,q2,q3⟩:=h.row a n' cells' st hH hst l hl
      have hne : l.blk ≠ lc.blk:=by
        cases st with
        | dead=>exact absurd rfl hst
        | ro=>have:=q1 rfl; omega
        | act=>exact hother a l hl (by rw [hH]; rfl) hab
      refine ⟨cs',e',fz',by rw [r3 l.blk hne]; exact hw',q1,q2,fun i v hi=>?_⟩
      obtain ⟨v',hv',hr⟩:=q3 i v hi
      exact ⟨v',hv',hr.mono hle⟩
  · intro a es clock ha l hl
    rcases hget a _ ha with ⟨_,he⟩ | ⟨_,_,he⟩ | ⟨hal,hab,hH⟩
    · cases he
    · cases he
    · rw [Emb.add_ne (by omega)] at hl
      obtain ⟨q1,qz,es',hw',q3⟩:=h.map a es clock hH l hl
      have hne : l.blk ≠ lc.blk:=hother a l hl (by rw [hH]; rfl) hab
      exact ⟨q1,qz,es',by rw [r3 l.blk hne]; exact hw',q3.mono hle⟩
  · intro a c ha hc hne x y hax hcy
    by_cases hal : a = H.length
    · subst hal
      rw [Emb.add_same] at hax
      cases hax
      have hcl : c ≠ H.length:=fun e=>hne e.symm
      rw [Emb.add_ne hcl] at hcy
      have hco:=hown c (h.dom c y hcy) hc
      exact (hother c y hcy hco.1 hco.2).symm
    · rw [Emb.add_ne hal] at hax
      have hao:=hown a (h.dom a x hax) ha
      by_cases hcl : c = H.length
      · subst hcl
        rw [Emb.add_same] at hcy
        cases hcy
        exact hother a x hax hao.1 hao.2
      · rw [Emb.add_ne hcl] at hcy
        exact h.excl a c hao.1 (hown c (h.dom c y hcy) hc).1 hne x y hax hcy
  · rw [r4]; exact h.size
  · intro a n' cells' st ha hst l hl
    rcases hget a _ ha with ⟨rfl,he⟩ | ⟨hal,hab,he⟩ | ⟨hal,hab,hH⟩
    · injection he with e1 _ _
      rw [Emb.add_same] at hl
      cases hl
      exact ⟨by rw [e1]; exact hn1,by omega⟩
    · injection he with e1 _ _
      rw [Emb.add_ne (by omega)] at hl
      subst hab e1
      exact h.loc a n' cells .act hb (by simp) l hl
    · rw [Emb.add_ne (by omega)] at hl
      exact h.loc a n' cells' st hH hst l hl
  · intro a ha; exact Emb.add_ne (by omega)
  · intro a x ha hal
    by_cases hal2 : a = H.length
    · subst hal2
      rw [Emb.add_same] at ha
      cases ha
      exact .inr ⟨b,lc,by rw [hb]; rfl,hx,rfl⟩
    · rw [Emb.add_ne hal2] at ha
      exact absurd (h.dom a x ha) (by omega)
  · intro c hc hn
    refine r3 c fun hcb=>?_
    exact hn b lc (by rw [hb]; rfl) hx hcb.symm
theorem Dy {P : Program} {w : World} {b off n : Nat} {cs : Array Value} {e : TypeId} {fz : Nat × Nat} (h : w.heap[b]? = some (.cells cs e fz)) (hl : n = 0 ∨ off + n ≤ cs.size) :
    (loadCells ⟨b,off,none⟩ n).run P w = .ok ((cs.toList.drop off).take n).toArray w:=by
  have key : ∀ j v,((cs.toList.drop off).take n)[j]? = some v→w.cell? ((⟨b,off,none⟩ : Addr).add j) = some v:=by
    intro j v hj
    rw [EV,cell?_of h]
    have hjn : j < n:=by have:=(List.getElem?_eq_some_iff.1 hj).1; simp at this; omega
    rw [List.getElem?_take_of_lt hjn,List.getElem?_drop] at hj
    simpa using hj
  have:=run_loadCells_list (P:=P) (w:=w) ⟨b,off,none⟩ ((cs.toList.drop off).take n) key
  rw [show ((cs.toList.drop off).take n).length = n by simp; omega] at this
  exact this
theorem Sim.read {wb : Nat} {ι : Emb} {P : Program} {s : St} {w : World} (h : Sim wb ι s.heap w) {b off n : Nat} {lc : Loc} {vs : List Value} (hr : readN s b off n = some vs) (hx : ι b = some lc) :
    ∃ vs',(loadCells ⟨lc.blk,lc.off + off,none⟩ n).run P w = .ok vs'.toArray w∧All2 (L2 ι) vs vs'∧vs.length = n:=by
  unfold readN readRow at hr
  cases e : s.heap[b]? with
  | none=>simp [e] at hr
  | some B =>
    cases B with
    | map=>simp [e] at hr
    | row n' cells st =>
      have hst : st ≠ .dead:=by intro hd; subst hd; simp [e] at hr
      have hr' : (if off + n ≤ cells.length then some ((cells.drop off).take n) else none) = some vs:=by
        cases st <;> simp_all
      split at hr'
      case isFalse=>cases hr'
      rename_i hle
      cases hr'
      obtain ⟨cs,e',fz,hw,_,_,h3⟩:=h.row b n' cells st e hst lc hx
      have hcs : ∀ i,i < cells.length→lc.off + i < cs.size:=fun i hi=>by
        obtain ⟨v',hv',_⟩:=h3 i cells[i] (by simp [hi])
        exact (Array.getElem?_eq_some_iff.1 hv').1
      have hl : n = 0 ∨ lc.off + off + n ≤ cs.size:=by
        by_cases h0 : n = 0
        · exact .inl h0
        · have:=hcs (off + n - 1) (by omega); right; omega
      refine ⟨_,Dy hw hl,?_,by simp; omega⟩
      refine All2.of_get (by simp; omega) fun i a a' ha ha'=>?_
      have hin : i < n:=by have:=(List.getElem?_eq_some_iff.1 ha).1; simp at this; omega
      rw [List.getElem?_take_of_lt hin,List.getElem?_drop] at ha ha'
      obtain ⟨v',hv',hrel⟩:=h3 (off + i) a ha
      have : cs[lc.off + off + i]? = some a':=by simpa using ha'
      rw [show lc.off + off + i = lc.off + (off + i) by omega,hv'] at this
      cases this
      exact hrel
theorem Sim.read1 {wb : Nat} {ι : Emb} {s : St} {w : World} (h : Sim wb ι s.heap w) {b off : Nat} {lc : Loc} {v : Value} (hr : ((readRow s b).bind fun cells=>cells[off]?) = some v) (hx : ι b = some lc) :
    ∃ v',w.cell? ⟨lc.blk,lc.off + off,none⟩ = some v'∧L2 ι v v':=by
  unfold readRow at hr
  cases e : s.heap[b]? with
  | none=>simp [e] at hr
  | some B =>
    cases B with
    | map=>simp [e] at hr
    | row n' cells st =>
      have hst : st ≠ .dead:=by intro hd; subst hd; simp [e] at hr
      have hr' : cells[off]? = some v:=by cases st <;> simp_all
      obtain ⟨cs,e',fz,hw,_,_,h3⟩:=h.row b n' cells st e hst lc hx
      obtain ⟨v',hv',hrel⟩:=h3 off v hr'
      exact ⟨v',by rw [cell?_of hw]; exact hv',hrel⟩
end Go.Proofs.YtmbhnbladmpnoaaGreat.Ab

/- The abstract machine against the model: one operation. -/
namespace Go.Proofs.YtmbhnbladmpnoaaGreat.Ab
open Go
section inv
variable {ι : Emb} {v' : Value}
theorem VRel.of0 {v v' : Value} (h : L0 ι v v') : VRel ι v v':=.va (.l2 (.l1 (.l0 h)))
theorem VRel.of2 {v v' : Value} (h : L2 ι v v') : VRel ι v v':=.va (.l2 h)
theorem VRel.inv0 {v v' : Value} (h : VRel ι v v') (hv : (match v with | .agg _ | .tuple _ | .iface _ _ | .func _ _ _=>false | _=>true) = true) : L0 ι v v':=by
  cases h with
  | tuple=>simp at hv
  | poison=>simp at hv
  | va h=>cases h with
    | agg=>simp at hv
    | l2 h=>cases h with
      | iface=>simp at hv
      | ifaceAgg=>simp at hv
      | l1 h=>cases h with
        | func=>simp at hv
        | l0 h=>exact h
theorem VRel.inv_int {k : IntKind} {n : Int} (h : VRel ι (.int k n) v') : v' = .int k n:=by cases h.inv0 rfl; rfl
theorem VRel.inv_bool {b : Bool} (h : VRel ι (.bool b) v') : v' = .bool b:=by cases h.inv0 rfl; rfl
theorem VRel.inv_string {s : ByteArray} (h : VRel ι (.string s) v') : v' = .string s:=by cases h.inv0 rfl; rfl
theorem VRel.inv_ptr {b off : Nat} {sp : Option Nat} (h : VRel ι (.pointer (some ⟨b,off,sp⟩)) v') : sp = none∧∃ l : Loc,ι b = some l∧v' = .pointer (some ⟨l.blk,l.off + off,none⟩):=by
  cases h.inv0 rfl with
  | ptr off g=>exact ⟨rfl,_,g,rfl⟩
theorem VRel.inv_pnil (h : VRel ι (.pointer none) v') : v' = .pointer none:=by cases h.inv0 rfl; rfl
theorem VRel.inv_snil {n m : Nat} (h : VRel ι (.slice none n m) v') : n = 0∧m = 0∧v' = .slice none 0 0:=by cases h.inv0 rfl; exact ⟨rfl,rfl,rfl⟩
theorem VRel.inv_slice {a : Addr} {n m : Nat} (h : VRel ι (.slice (some a) n m) v') :
    (∃ (l : Loc) (m' : Nat),a.spot = none∧ι a.block = some l∧n ≤ m∧m ≤ m'∧(a.off = 0→l.off + m' * l.n ≤ l.z)∧v' = .slice (some ⟨l.blk,l.off + a.off,none⟩) n m') ∨ (n = 0∧m = 0∧∃ a',v' = .slice (some a') 0 0):=by
  cases h.inv0 rfl with
  | slice off g hl hc hz=>exact .inl ⟨_,_,rfl,g,hl,hc,hz,rfl⟩
  | slice0 a a'=>exact .inr ⟨rfl,rfl,a',rfl⟩
theorem VRel.inv_map {r : Nat} (h : VRel ι (.map (some r)) v') : ∃ l : Loc,ι r = some l∧v' = .map (some l.blk):=by
  cases h.inv0 rfl with
  | map g=>exact ⟨_,g,rfl⟩
theorem VRel.inv_mnil (h : VRel ι (.map none) v') : v' = .map none:=by cases h.inv0 rfl; rfl
theorem VRel.inv_nilFunc (h : VRel ι .nilFunc v') : v' = .nilFunc:=by cases h.inv0 rfl; rfl
theorem VRel.inv_nilIface (h : VRel ι .nilIface v') : v' = .nilIface:=by cases h.inv0 rfl; rfl
theorem VRel.inv_iface {t : TypeId} {u : Value} (h : VRel ι (.iface t u) v') : ∃ u',v' = .iface t u':=by
  cases h with
  | va h=>cases h with
    | l2 h=>cases h with
      | iface=>exact ⟨_,rfl⟩
      | ifaceAgg=>exact ⟨_,rfl⟩
      | l1 h=>cases h with
        | l0 h=>cases h
theorem VRel.inv_func {fn : Fn} {a b : Array Value} (h : VRel ι (.func fn a b) v') : ∃ a' b',v' = .func fn a' b'∧All2 (L0 ι) a.toList a'.toList∧All2 (L0 ι) b.toList b'.toList:=by
  cases h with
  | va h=>cases h with
    | l2 h=>cases h with
      | l1 h=>cases h with
        | func _ ha hb=>exact ⟨_,_,rfl,ha,hb⟩
        | l0 h=>cases h; exact ⟨_,_,rfl,trivial,trivial⟩
theorem VRel.inv_agg {a : Array Value} (h : VRel ι (.agg a) v') : ∃ a',v' = .agg a'∧All2 (L2 ι) a.toList a'.toList:=by
  cases h with
  | va h=>cases h with
    | agg h=>exact ⟨_,rfl,h⟩
    | l2 h=>cases h with
      | l1 h=>cases h with
        | l0 h=>cases h
theorem VRel.inv_tuple {a : Array Value} (h : VRel ι (.tuple a) v') (hne : a ≠ #[.tuple #[]]) : ∃ a',v' = .tuple a'∧All2 (VA ι) a.toList a'.toList:=by
  cases h with
  | poison=>exact absurd rfl hne
  | tuple h=>exact ⟨_,rfl,h⟩
  | va h=>cases h with
    | l2 h=>cases h with
      | l1 h=>cases h with
        | l0 h=>cases h
theorem VRel.cells {v v' : Value} (h : VRel ι v v') (hl : (Ao v).all AI = true) : All2 (L2 ι) (Ao v) v'.cells.toList:=by
  cases h with
  | va h=>cases h with
    | agg h=>simpa [Ao,Value.cells] using h
    | l2 h =>
      have : Ao v = [v]∧v'.cells = #[v']:=by
        cases h with
        | l1 h=>cases h with
          | l0 h=>cases h <;> exact ⟨rfl,rfl⟩
          | func=>exact ⟨rfl,rfl⟩
        | iface=>exact ⟨rfl,rfl⟩
        | ifaceAgg=>exact ⟨rfl,rfl⟩
      rw [this.1,this.2]
      exact ⟨h,trivial⟩
  | tuple h=>simp [Ao,AI] at hl
  | poison=>simp [Ao,AI] at hl
end inv
theorem CN {ι : Emb} {v : Value} (h : AX v = true) : L0 ι v v:=by
  cases v with
  | bool b=>exact .bool b
  | int k n=>exact .int k n
  | string s=>exact .string s
  | pointer a=>cases a with
    | none=>exact .pnil
    | some a=>simp [AX] at h
  | slice a n m=>cases a with
    | none =>
      cases n with
      | zero=>cases m with
        | zero=>exact .snil
        | succ m=>simp [AX] at h
      | succ n=>simp [AX] at h
    | some a=>simp [AX] at h
  | map r=>cases r with
    | none=>exact .mnil
    | some r=>simp [AX] at h
  | func fn a b =>
    simp [AX] at h
    obtain ⟨rfl,rfl⟩:=h
    exact .func fn
  | nilFunc=>exact .nilFunc
  | nilIface=>exact .nilIface
  | float=>simp [AX] at h
  | complex=>simp [AX] at h
  | chan=>simp [AX] at h
  | iface=>simp [AX] at h
  | agg=>simp [AX] at h
  | tuple=>simp [AX] at h
theorem DE {ι : Emb} : ∀ {l : List Value},l.all AX = true→All2 (L2 ι) l l
  | [],_=>trivial
  | v :: l,h=>by
    simp at h
    exact ⟨.l1 (.l0 (CN h.1)),DE (by simpa using h.2)⟩
theorem Ju {ι : Emb} {v : Value} (h : A0 v = true) : VRel ι v v:=by
  cases v with
  | agg cs=>exact .va (.agg (DE h))
  | _=>exact .of0 (CN h)
theorem WF {ι : Emb} {v : Value} (h : A0 v = true) : VA ι v v:=by
  cases v with
  | agg cs=>exact .agg (DE h)
  | _=>exact .l2 (.l1 (.l0 (CN h)))
theorem NV {ι : Emb} : ∀ {l : List Value},l.all A0 = true→All2 (VA ι) l l
  | [],_=>trivial
  | v :: l,h=>by
    simp at h
    exact ⟨WF h.1,NV (by simpa using h.2)⟩
theorem Iy {ι : Emb} {v : Value} (h : ZbY v = true) : VRel ι v v:=by
  cases v with
  | tuple cs=>exact .tuple (NV h)
  | _=>exact Ju h
def Jv (ι : Emb) (T : Fr) (tmps : Array Value) : Prop:=∀ i,i < tmps.size→VRel ι (getT T i) (tmps.getD i undef)
theorem Jv.mono {ι κ : Emb} (hi : ι.le κ) {T : Fr} {tmps : Array Value} (h : Jv ι T tmps) : Jv κ T tmps:=fun i hl=>(h i hl).mono hi
theorem DX (T : Fr) (v : Value) (i j : Nat) : getT (setT T i v) j = if i = j then v else getT T j:=by
  unfold getT setT
  cases h : Nat.beq j i with
  | true=>have:=Nat.eq_of_beq_eq_true h; simp [this]
  | false=>have:=Nat.ne_of_beq_eq_false h; simp [Ne.symm this]
def opdB (n : Nat) : Operand→Bool
  | .tmp t=>decide (t < n)
  | _=>true
def dstB (n : Nat) : Option Tmp→Bool
  | some d=>decide (d < n)
  | none=>true
theorem Jv.put {ι : Emb} {T : Fr} {a : Act} (h : Jv ι T a.tmps) (d : Option Tmp) {v v' : Value} (hv : VRel ι v v') : Jv ι (putT T d v) (a.put d v').tmps:=by
  cases d with
  | none=>exact h
  | some d =>
    intro i hi
    simp only [Act.put,Array.size_setIfInBounds] at hi
    simp only [putT,Act.put,DX]
    by_cases hd : d = i
    · subst hd
      simp only [if_true]
      rw [show (a.tmps.setIfInBounds d v').getD d undef = v' by simp [Array.getD,hi]]
      exact hv
    · simp only [hd,if_false]
      rw [show (a.tmps.setIfInBounds d v').getD i undef = a.tmps.getD i undef by simp [Array.getD,hi,Array.getElem_setIfInBounds_ne,hd]]
      exact h i hi
theorem FU (a : Act) (d : Option Tmp) (v : Value) : (a.put d v).tmps.size = a.tmps.size:=by cases d <;> simp [Act.put]
theorem DM (a : Act) (d : Option Tmp) (v : Value) : (a.put d v).defers = a.defers:=by cases d <;> simp [Act.put]
theorem Aw {ι : Emb} {T : Fr} {a : Act} {x : Operand} {v : Value} (h : opd T x = some v) (hf : Jv ι T a.tmps) (hb : opdB a.tmps.size x = true) : VRel ι v (a.eval x):=by
  cases x with
  | tmp t =>
    simp only [opd,Option.some.injEq] at h
    subst h
    exact hf t (by simpa [opdB] using hb)
  | const u =>
    simp only [opd] at h
    split at h
    · rename_i hc; cases h; exact Iy hc
    · cases h
  | global g=>simp [opd] at h
  | func f=>simp only [opd,Option.some.injEq] at h; subst h; exact .of0 (.func _)
theorem Nt {ι : Emb} {T : Fr} {a : Act} (hf : Jv ι T a.tmps) : ∀ {l : List Operand} {vs : List Value},opds T l = some vs→l.all (opdB a.tmps.size) = true→All2 (VRel ι) vs (l.map a.eval)
  | [],vs,h,_=>by simp [opds] at h; subst h; trivial
  | x :: l,vs,h,hb=>by
    simp only [opds,Option.bind_eq_some_iff,Option.map_eq_some_iff] at h
    obtain ⟨v,hv,r,hr,rfl⟩:=h
    simp at hb
    exact ⟨Aw hv hf hb.1,Nt hf hr (by simpa using hb.2)⟩
def OpOk (P : Program) (o : Oper) (a : Act) (w : World) (R : Value→World→Prop) : Prop :=
  (∃ v' w',(execOp a.eval o).run P w = .ok (.value v') w'∧R v' w') ∨
  (∃ w',(execOp a.eval o).run P w = .ok .skip w'∧R undef w') ∨
  (∃ f args,(execOp a.eval o).run P w = .ok (.enter f args) w∧Calls P f args w fun e w'=>∃ v',e = .returned v'∧R v' w')
def FR (X : Option Nat × Nat) : Fence:={ Fence.wide with round:=X.1 }
theorem Zel {X : Option Nat × Nat} {m : Nat} {P : Program} {f : FuncId} {args : Array Value} {w : World} {R : Ending→World→Prop} (h : Calls P f args w R) : CallsIn (FR X) m P f args w R:=(callsIn_wide (n:=m)).2 h
theorem OpOk.noDefer {P : Program} {o : Oper} {a : Act} {w : World} {R : Value→World→Prop} (h : OpOk P o a w R) : ∀ c,o.op ≠ .defer c:=by
  intro c hc
  have key : ∀ r w',(execOp a.eval o).run P w = .ok r w'→∃ d,r = .defer d:=by
    intro r w' h
    unfold execOp at h
    rw [hc] at h
    simp only [Sem.run_bind] at h
    cases e : (resolve a.eval c o.type).run P w with
    | ok d w1 =>
      rw [e] at h
      simp only [Result.andThen] at h
      cases h
      exact ⟨d,rfl⟩
    | halt x w1 =>
      rw [e] at h
      cases h
  rcases h with ⟨v',w',h1,_⟩ | ⟨w',h1,_⟩ | ⟨f,args,h1,_⟩
  · obtain ⟨d,hd⟩:=key _ _ h1
    cases hd
  · obtain ⟨d,hd⟩:=key _ _ h1
    cases hd
  · obtain ⟨d,hd⟩:=key _ _ h1
    cases hd
theorem OpOk.wp {P : Program} {o : Oper} {a : Act} {w : World} {R : Value→World→Prop} (h : OpOk P o a w R) {X : Option Nat × Nat} {next : Act→World→Prop} {Q : Exit→Act→World→Prop}
    (hn : ∀ v' w',R v' w'→next (a.put o.dst v') w') : o.wpIn (FR X) X.2 P a w next Q:=by
  have hd:=h.noDefer
  unfold Oper.wpIn
  refine ⟨fun _ _=>trivial,?_⟩
  rw [Oper.semAt_eq _ _ _ hd]
  rcases h with ⟨v',w',h1,h2⟩ | ⟨w',h1,h2⟩ | ⟨f,args,h1,h2⟩
  · rw [h1]; exact hn _ _ h2
  · rw [h1]; exact hn _ _ h2
  · rw [h1,Oper.uponIn_enter]
    refine ⟨fun hh=>absurd hh (by simp [FR,Fence.wide]),?_⟩
    exact Zel (h2.mono fun e w' ⟨v',he,hr⟩=>by subst he; exact hn _ _ hr)
def Ba (wb : Nat) (ι : Emb) (H : List Blk) (w : World) (K : List Blk) (v v' : Value) (w' : World) : Prop :=
  ∃ κ,Sim wb κ K w'∧Step ι H w κ K w'∧VRel κ v v'
section runs
variable {P : Program} {w : World}
theorem GX {t : TypeId} {i : TypeInfo} (h : P.info? t = some i) : (typeInfo t).run P w = .ok i w:=by
  simp [typeInfo,h]
theorem Ae {t : TypeId} {d : TypeDesc} (h : P.underlying t = some d) : (underlying t).run P w = .ok d w:=by
  simp [underlying,h]
theorem AT {t : TypeId} {n : Nat} (h : B0 P t = some n) : (sizeOf t).run P w = .ok n w:=by
  unfold B0 at h
  cases e : P.info? t with
  | none=>simp [e] at h
  | some i=>simp [e] at h; subst h; simp [sizeOf,GX e]
theorem CO {t : TypeId} {b : Bool} (h : aggT P t = some b) : (isAgg t).run P w = .ok b w:=by
  unfold aggT at h
  cases e : P.underlying t with
  | none=>simp [e] at h
  | some d=>simp [e] at h; subst h; simp [isAgg,Ae e]; cases d <;> rfl
theorem B9 {t : TypeId} {z : Value} (h : Ec P t = some z) : ∃ i,P.info? t = some i∧i.zero = some z∧A0 z = true:=by
  unfold Ec at h
  cases e : P.info? t with
  | none=>simp [e] at h
  | some i =>
    cases e2 : i.zero with
    | none=>simp [e,e2] at h
    | some u =>
      simp [e,e2] at h
      obtain ⟨hc,rfl⟩:=h
      exact ⟨i,rfl,e2,hc⟩
theorem Bg {t : TypeId} {z : Value} (h : Ec P t = some z) : (zeroValue t).run P w = .ok z w:=by
  obtain ⟨i,h1,h2,_⟩:=B9 h
  simp [zeroValue,GX h1,h2]
theorem Fl {α : Type} {s : Sem α} {x : α} (h : AP P s = some x) : s.run P w = .ok x w:=by
  induction s with
  | pure a=>simp [AP] at h; subst h; rfl
  | program k ih=>simp only [AP] at h; simp only [Sem.run]; exact ih P h
  | _=>simp [AP] at h
end runs
theorem DN (v : Value) : v.cells.toList = Ao v:=by cases v <;> rfl
section ops
variable {P : Program} {o : Oper} {a : Act} {w : World} {wb : Nat} {ι : Emb} {H : List Blk}
theorem BT (h : Sim wb ι H w) {v v' : Value} (hv : VRel ι v v') : Ba wb ι H w H v v' w:=⟨ι,h,.refl _ _ _ h.dom,hv⟩
theorem AQ (h : Sim wb ι H w) {v v' : Value} (he : (execOp a.eval o).run P w = .ok (.value v') w) (hv : VRel ι v v') : OpOk P o a w (Ba wb ι H w H v) :=
  .inl ⟨v',w,he,BT h hv⟩
theorem Kc (h : Sim wb ι H w) {n : Nat} {cells : List Value} {cs : Array Value} {e : TypeId} (hc : All2 (L2 ι) cells cs.toList) {v' : Value} {f : Nat→Nat→Value}
    (hv : VRel (ι.add H.length ⟨w.heap.size,0,n,cs.size⟩) (f H.length 0) v') : Ba wb ι H w (H ++ [.row n cells .act]) (f H.length 0) v' (w.alloc (.cells cs e)):=by
  have:=h.push (n:=n) (cells:=cells) (cs:=cs) (e:=e) (fz:=(0,0)) (.inl rfl) (fun i v hi=>by
    obtain ⟨v',hv',hr⟩:=hc.get i v hi
    exact ⟨v',by simpa using hv',hr⟩)
  exact ⟨_,this.1,this.2,hv⟩
theorem X4 (ι : Emb) (n : Nat) (l : Loc) (h : l.off = 0) : VRel (ι.add n l) (.pointer (some ⟨n,0,none⟩)) (.pointer (some ⟨l.blk,0,none⟩)) :=
  .of0 (by simpa [h] using L0.ptr (ι:=ι.add n l) (b:=n) (l:=l) 0 (Emb.add_same _ _ _))
theorem Fm (ι : Emb) (n : Nat) (l : Loc) (len cap cap' : Nat) (h : l.off = 0) (hl : len ≤ cap) (hc : cap ≤ cap') (hz : cap' * l.n ≤ l.z) : VRel (ι.add n l) (.slice (some ⟨n,0,none⟩) len cap) (.slice (some ⟨l.blk,0,none⟩) len cap') :=
  .of0 (by simpa [h] using L0.slice (ι:=ι.add n l) (b:=n) (l:=l) 0 (Emb.add_same _ _ _) hl hc (by rw [h]; simpa using hz))
end ops
end Go.Proofs.YtmbhnbladmpnoaaGreat.Ab

/- The abstract machine against the model: the operations one by one. -/
namespace Go.Proofs.YtmbhnbladmpnoaaGreat.Ab
open Go
theorem CC {z : Value} {ι : Emb} (h : A0 z = true) : All2 (L2 ι) (Ao z) z.cells.toList:=by
  rw [DN]
  refine DE ?_
  cases z <;> simp_all [A0,Ao,AX]
theorem Cb (ι : Emb) : VRel ι undef undef:=.tuple (a:=#[]) (a':=#[]) trivial
section
variable {P : Program} {o : Oper} {a : Act} {w : World} {wb : Nat} {ι : Emb} {H : List Blk}
theorem X5 {x : Operand} {v : Value} (ho : o.op = .move x ∨ o.op = .assign x) (h : Sim wb ι H w) (hv : VRel ι v (a.eval x)) : OpOk P o a w (Ba wb ι H w H v):=by
  refine AQ h (v':=a.eval x) ?_ hv
  rcases ho with ho | ho <;> simp [execOp,ho]
theorem X6 {c x y : Operand} {b : Bool} {v : Value} (ho : o.op = .pick c x y) (h : Sim wb ι H w) (hc : VRel ι (.bool b) (a.eval c)) (hv : VRel ι v (a.eval (if b = true then x else y))) :
    OpOk P o a w (Ba wb ι H w H v):=by
  refine AQ h (v':=a.eval (if b = true then x else y)) ?_ hv
  have:=hc.inv_bool
  cases b <;> simp [execOp,ho,this,asBool]
theorem Zai {e : TypeId} {z : Value} (ho : o.op = .alloc e) (h : Sim wb ι H w) (hz : Ec P e = some z) :
    OpOk P o a w (Ba wb ι H w (H ++ [.row 0 (Ao z) .act]) (.pointer (some ⟨H.length,0,none⟩))):=by
  obtain ⟨i,_,_,hc⟩:=B9 hz
  refine .inl ⟨.pointer (some ⟨w.heap.size,0,none⟩),w.alloc (.cells z.cells e),?_,?_⟩
  · simp [execOp,ho,Instr.alloc,Bg hz,newVar,newRow]
  · exact Kc (f:=fun n m=>.pointer (some ⟨n,m,none⟩)) h (CC hc) (X4 _ _ _ rfl)
theorem Zem {e : TypeId} {x : Operand} {v : Value} (ho : o.op = .box e x) (h : Sim wb ι H w) (hv : VRel ι v (a.eval x)) (hl : (Ao v).all AI = true) :
    OpOk P o a w (Ba wb ι H w (H ++ [.row 0 (Ao v) .act]) (.pointer (some ⟨H.length,0,none⟩))):=by
  refine .inl ⟨.pointer (some ⟨w.heap.size,0,none⟩),w.alloc (.cells (a.eval x).cells e),?_,?_⟩
  · simp [execOp,ho,Instr.box,newVar,newRow]
  · exact Kc (f:=fun n m=>.pointer (some ⟨n,m,none⟩)) h (hv.cells hl) (X4 _ _ _ rfl)
theorem ZcF {t : TypeId} {x : Operand} {va v : Value} {ag : Bool} {n : Nat} {s : St} (ho : o.op = .load t x) (h : Sim wb ι s.heap w) (hx : VRel ι va (a.eval x))
    (hag : aggT P t = some ag) (hn : B0 P t = some n) (hl : Aj ag n va s = some v) : OpOk P o a w (Ba wb ι s.heap w s.heap v):=by
  unfold Aj at hl
  split at hl
  case h_2=>cases hl
  rename_i b off
  obtain ⟨_,lc,hb,hv'⟩:=hx.inv_ptr
  cases ag with
  | true =>
    simp only [if_true,Option.map_eq_some_iff] at hl
    obtain ⟨vs,hr,rfl⟩:=hl
    obtain ⟨vs',h1,h2,h3⟩:=h.read (P:=P) hr hb
    refine AQ h (v':=.agg vs'.toArray) ?_ (.va (.agg (by simpa using h2)))
    simp [execOp,ho,Instr.loadAt,Instr.sureAddr,hv',loadVar,CO hag,AT hn,h1]
  | false =>
    simp only [Bool.false_eq_true,if_false] at hl
    obtain ⟨v',h1,h2⟩:=h.read1 hl hb
    refine AQ h (v':=v') ?_ (.of2 h2)
    simp [execOp,ho,Instr.loadAt,Instr.sureAddr,hv',loadVar,CO hag,h1]
theorem Zaj {t : TypeId} {x y : Operand} {va v : Value} {n : Nat} {s s' : St} (ho : o.op = .store t x y) (h : Sim wb ι s.heap w) (hx : VRel ι va (a.eval x)) (hy : VRel ι v (a.eval y))
    (hn : B0 P t = some n) (hl : A4 n va v s = some s') : OpOk P o a w (Ba wb ι s.heap w s'.heap undef):=by
  unfold A4 at hl
  split at hl
  case h_2=>cases hl
  rename_i b off
  obtain ⟨_,lc,hb,hv'⟩:=hx.inv_ptr
  split at hl
  case isFalse=>cases hl
  rename_i hc
  unfold Fe at hl
  split at hl
  case h_2=>cases hl
  rename_i n' cells hcells
  split at hl
  case isFalse=>cases hl
  rename_i hle
  cases hl
  have hcs:=hy.cells hc.2
  obtain ⟨w',h1,h2,h3,_⟩:=h.write (P:=P) hcells hb hle hcs
  refine .inr (.inl ⟨w',?_,ι,h2,h3,Cb ι⟩)
  · have hsz : (a.eval y).cells.size = n:=by
      have:=hcs.length
      rw [hc.1] at this
      simpa using this.symm
    simp [execOp,ho,Instr.storeAt,Instr.sureAddr,hv',storeVar,AT hn,hsz,h1]
theorem WG (vs : List Value) : ∀ (cs : Array Value) (off k : Nat),(vs.zipIdx k).foldl (fun (cs : Array Value) (c : Value × Nat)=>cs.setIfInBounds (off + c.2) c.1) cs = updA cs (off + k) vs:=by
  induction vs with
  | nil=>intro cs off k; rfl
  | cons v vs ih=>intro cs off k; simp only [List.zipIdx_cons,List.foldl_cons,updA]; rw [ih]; rfl
theorem Uw (vs : List Value) : ∀ (cs : Array Value) (off : Nat),off + vs.length ≤ cs.size→(updA cs off vs).toList = AE cs.toList off vs:=by
  intro cs off hl
  apply List.ext_getElem?
  intro i
  rw [HS _ _ _ (by simpa using hl)]
  by_cases h1 : i < off
  · simp only [h1,if_true]; rw [Array.getElem?_toList,NT _ _ _ _ h1]; simp
  · simp only [h1,if_false]
    by_cases h2 : i < off + vs.length
    · simp only [h2,if_true]
      have:=Rm vs cs off (i - off) (by omega) hl
      rw [show off + (i - off) = i by omega] at this
      rw [Array.getElem?_toList]; exact this
    · simp only [h2,if_false]; rw [Array.getElem?_toList,Uv _ _ _ _ (by omega)]; simp
theorem SV {l m vs vs' : List Value} (h : All2 (L2 ι) l m) (hv : All2 (L2 ι) vs vs') (off : Nat) : All2 (L2 ι) (AE l off vs) (AE m off vs'):=by
  unfold AE
  rw [hv.length]
  exact ((h.take off).append hv).append (h.drop _)
inductive PartsRel (ι : Emb) : List (Nat × Value)→List (Nat × Value)→Prop
  | nil : PartsRel ι [] []
  | cons {i : Nat} {v v' : Value} {l m : List (Nat × Value)} (h : VRel ι v v') (t : PartsRel ι l m) : PartsRel ι ((i,v) :: l) ((i,v') :: m)
theorem HU {T : Fr} (hf : Jv ι T a.tmps) : ∀ {l : List (Nat × Operand)} {ps : List (Nat × Value)},DU T l = some ps→(l.all fun x=>opdB a.tmps.size x.2) = true→PartsRel ι ps (l.map fun x=>(x.1,a.eval x.2))
  | [],ps,h,_=>by simp [DU] at h; subst h; exact .nil
  | (i,x) :: l,ps,h,hb=>by
    simp only [DU,Option.bind_eq_some_iff,Option.map_eq_some_iff] at h
    obtain ⟨v,hv,r,hr,rfl⟩:=h
    simp at hb
    exact .cons (Aw hv hf hb.1) (HU hf hr (by simpa using hb.2))
theorem Rn {QA : Nat→Option (Nat × Nat)} : ∀ {ps qs : List (Nat × Value)} {l r : List Value} {cs : Array Value},PartsRel ι ps qs→All2 (L2 ι) l cs.toList→IR QA l ps = some r →
    ∃ cs',Instr.fill QA cs qs = some cs'∧All2 (L2 ι) r cs'.toList
  | [],_,l,r,cs,.nil,hc,h=>by simp [IR] at h; subst h; exact ⟨cs,rfl,hc⟩
  | (i,v) :: ps,(_,v') :: qs,l,r,cs,.cons hv ht,hc,h=>by
    simp only [IR] at h
    cases hp : QA i with
    | none=>simp [hp] at h
    | some x =>
      obtain ⟨off,size⟩:=x
      simp only [hp] at h
      split at h
      case isFalse=>cases h
      rename_i hcond
      obtain ⟨h1,h2,h3⟩:=hcond
      have hcl:=hv.cells h3
      have hlen:=hcl.length
      have hcsl : l.length = cs.size:=by simpa using hc.length
      have hvs : v'.cells.size = size:=by rw [← h1,hlen]; simp
      have hput : All2 (L2 ι) (AE l off (Ao v)) (updA cs off v'.cells.toList).toList:=by
        rw [Uw _ _ _ (by simp; omega)]
        exact SV hc hcl off
      obtain ⟨cs',h4,h5⟩:=Rn ht hput h
      refine ⟨cs',?_,h5⟩
      simp only [Instr.fill,hp]
      rw [if_neg (by simp; omega)]
      rw [← h4]
      congr 1
      have:=WG v'.cells.toList cs off 0
      simp only [Nat.add_zero] at this
      rw [← this,← Array.foldl_toList,Array.toList_zipIdx]
theorem NW : ∀ {fs : List Field} {l : List (Nat × Nat)},NK P fs = some l→(fs.mapM (m:=Sem) fun f=>Prod.mk f.offset <$> sizeOf f.type).run P w = .ok l w
  | [],l,h=>by simp [NK] at h; subst h; rfl
  | f :: fs,l,h=>by
    simp only [NK,Option.bind_eq_some_iff,Option.map_eq_some_iff] at h
    obtain ⟨n,hn,r,hr,rfl⟩:=h
    have ih:=NW hr
    simp [List.mapM_cons,AT hn,ih]
theorem Zak {t : TypeId} {parts : Array (Nat × Operand)} {T : Fr} {ps : List (Nat × Value)} {pl : Nat→Option (Nat × Nat)} {z : Value} {cs : List Value} (ho : o.op = .build t parts) (h : Sim wb ι H w)
    (hf : Jv ι T a.tmps) (hb : (parts.toList.all fun x=>opdB a.tmps.size x.2) = true) (hps : DU T parts.toList = some ps) (hpl : Ur P t = some pl) (hz : Ec P t = some z)
    (hc : IR pl (Ao z) ps = some cs) : OpOk P o a w (Ba wb ι H w H (.agg cs.toArray)):=by
  obtain ⟨i,_,_,hzc⟩:=B9 hz
  obtain ⟨cs',h1,h2⟩:=Rn (HU hf hps hb) (CC hzc) hc
  refine AQ h (v':=.agg cs') ?_ (.va (.agg (by simpa using h2)))
  have hmap : (parts.map fun (x : Nat × Operand)=>(x.1,a.eval x.2)).toList = parts.toList.map fun x=>(x.1,a.eval x.2):=by simp
  unfold Ur at hpl
  split at hpl
  · rename_i fs hu
    simp only [Option.map_eq_some_iff] at hpl
    obtain ⟨l,hl,rfl⟩:=hpl
    have hm:=NW (w:=w) hl
    have hm2 : (fs.mapM (m:=Sem) fun f=>Prod.mk f.offset <$> sizeOf f.type).run P w = .ok l.toArray w:=by
      rw [Array.mapM_eq_mapM_toList]
      simp [hm]
    have h1' : Instr.fill (fun x=>l[x]?) z.cells (parts.toList.map fun x=>(x.1,a.eval x.2)) = some cs':=h1
    simp [execOp,ho,Instr.build,Bg hz,Ae hu,hm2,h1']
  · rename_i n e hu
    simp only [Option.map_eq_some_iff] at hpl
    obtain ⟨n',hn',rfl⟩:=hpl
    have h1' : Instr.fill (fun i=>some (i * n',n')) z.cells (parts.toList.map fun x=>(x.1,a.eval x.2)) = some cs':=h1
    simp [execOp,ho,Instr.build,Bg hz,Ae hu,AT hn',h1']
  · cases hpl
end
end Go.Proofs.YtmbhnbladmpnoaaGreat.Ab

/- The abstract machine against the model: the operations one by one (second part). -/
namespace Go.Proofs.YtmbhnbladmpnoaaGreat.Ab
open Go
section
variable {P : Program} {o : Oper} {a : Act} {w : World} {wb : Nat} {ι : Emb} {H : List Blk}
theorem Fo (z : List Value) (n : Nat) : (A5 z n).length = n * z.length:=by
  induction n with
  | zero=>simp [A5]
  | succ n ih=>simp [A5,ih,Nat.succ_mul]; omega
theorem L3 (z : List Value) (n i : Nat) (h : i < n * z.length) : (A5 z n)[i]? = z[i % z.length]?:=by
  induction n generalizing i with
  | zero=>simp at h
  | succ n ih =>
    rw [A5]
    rw [Nat.succ_mul] at h
    by_cases hi : i < z.length
    · rw [List.getElem?_append_left hi,Nat.mod_eq_of_lt hi]
    · rw [List.getElem?_append_right (by omega),ih _ (by omega)]
      congr 1
      rw [← Nat.mod_eq_sub_mod (by omega)]
theorem NX (z : Array Value) (n : Nat) : ((Array.range (n * z.size)).map (z[· % z.size]!)).toList = A5 z.toList n:=by
  apply List.ext_getElem?
  intro i
  by_cases hi : i < n * z.size
  · rw [L3 _ _ _ (by simpa using hi)]
    have hz : 0 < z.size := by rcases Nat.eq_zero_or_pos z.size with h0 | h0
                               · rw [h0] at hi; omega
                               · exact h0
    have hm : i % z.size < z.size:=Nat.mod_lt _ hz
    simp [hi,hm]
  · have h1 : ((Array.range (n * z.size)).map (z[· % z.size]!)).toList.length = n * z.size:=by simp
    rw [List.getElem?_eq_none (by omega),List.getElem?_eq_none (by rw [Fo]; simp; omega)]
theorem Es {l m : List Value} (h : All2 (L2 ι) l m) : ∀ n,All2 (L2 ι) (A5 l n) (A5 m n)
  | 0=>trivial
  | n + 1=>h.append (Es h n)
theorem L4 {QA : Nat→Option (Nat × Nat)} : ∀ {ps : List (Nat × Value)} {l r : List Value},IR QA l ps = some r→r.length = l.length
  | [],l,r,h=>by simp [IR] at h; rw [h]
  | (i,v) :: ps,l,r,h=>by
    simp only [IR] at h
    split at h
    · cases h
    · split at h
      · rename_i hc
        rw [L4 h,HT _ _ _ (by omega)]
      · cases h
theorem Ro {t e : TypeId} {len n : Nat} {parts : Array (Nat × Operand)} {T : Fr} {ps : List (Nat × Value)} {z : Value} {cs : List Value} (ho : o.op = .buildSlice t len parts) (h : Sim wb ι H w)
    (hf : Jv ι T a.tmps) (hb : (parts.toList.all fun x=>opdB a.tmps.size x.2) = true) (hps : DU T parts.toList = some ps) (hu : P.underlying t = some (.slice e)) (hn : B0 P e = some n) (hz : Ec P e = some z)
    (hl : len * n ≤ 16777216) (hzn : (Ao z).length = n) (hc : IR (LV n) (A5 (Ao z) len) ps = some cs) :
    OpOk P o a w (Ba wb ι H w (H ++ [.row n cs .act]) (.slice (some ⟨H.length,0,none⟩) len len)):=by
  obtain ⟨i,_,_,hzc⟩:=B9 hz
  have hzs : z.cells.size = n:=by rw [← hzn,← DN]; simp
  have hrep : All2 (L2 ι) (A5 (Ao z) len) ((Array.range (len * n)).map (z.cells[· % z.cells.size]!)).toList:=by
    have:=NX z.cells len
    rw [hzs] at this
    rw [hzs,this]
    exact Es (CC hzc) len
  obtain ⟨cs',h1,h2⟩:=Rn (HU hf hps hb) hrep hc
  have hfit : len * n ≤ cs'.size:=by
    have e1:=h2.length
    have e2:=L4 hc
    rw [Fo,hzn] at e2
    simp at e1
    omega
  refine .inl ⟨.slice (some ⟨w.heap.size,0,none⟩) len len,w.alloc (.cells cs' e),?_,?_⟩
  · have hl' : ¬ (16777216 < len * n):=by omega
    have h1' : Instr.fill (fun i=>some (i * n,n)) ((Array.range (len * n)).map (z.cells[· % z.cells.size]!)) (parts.toList.map fun x=>(x.1,a.eval x.2)) = some cs':=h1
    by_cases h0 : len * n = 0
    · have h1'' : Instr.fill (fun i=>some (i * n,n)) (#[] : Array Value) (parts.toList.map fun x=>(x.1,a.eval x.2)) = some cs':=by
        rw [← h1',h0,Array.range_zero']; simp
      simp only [execOp,ho,Instr.buildSlice,Sem.run_bind,Ae hu,AT hn,Result.andThen_ok,h0]
      rw [Array.range_zero']
      simp [h1'',newRow]
    · simp only [execOp,ho,Instr.buildSlice,Sem.run_bind,Ae hu,AT hn,Result.andThen_ok,h0,if_false]
      simp [hl',h1',newRow,Bg hz]
  · exact Kc (f:=fun n m=>.slice (some ⟨n,m,none⟩) len len) h h2 (Fm _ _ _ _ _ _ rfl (Nat.le_refl _) (Nat.le_refl _) hfit)
theorem NY {x : Operand} {ad : Addr} (ho : o.op = .nilCheck x) (h : Sim wb ι H w) (hv : VRel ι (.pointer (some ad)) (a.eval x)) : OpOk P o a w (Ba wb ι H w H (.pointer (some ad))):=by
  refine AQ h (v':=a.eval x) ?_ hv
  obtain ⟨b,off,sp⟩:=ad
  obtain ⟨_,lc,_,he⟩:=hv.inv_ptr
  simp [execOp,ho,he]
theorem MC {x : Operand} {f : FuncId} {b c : Array Value} (ho : o.op = .nilCheck x) (h : Sim wb ι H w) (hv : VRel ι (.func (.func f) b c) (a.eval x)) : OpOk P o a w (Ba wb ι H w H (.func (.func f) b c)):=by
  refine AQ h (v':=a.eval x) ?_ hv
  obtain ⟨b',c',he,_,_⟩:=hv.inv_func
  simp [execOp,ho,he]
theorem VK {v v' : Value} (hc : AX v = true) (h : L2 ι v v') : v' = v:=by
  cases h with
  | l1 h=>cases h with
    | l0 h=>cases h <;> first | rfl | (simp [AX] at hc)
    | func fn ha hb =>
      simp [AX] at hc
      obtain ⟨rfl,rfl⟩:=hc
      rename_i a' b'
      have h1 : a' = #[]:=by
        have:=ha.length
        simp at this
        exact Array.eq_empty_of_size_eq_zero this.symm
      have h2 : b' = #[]:=by
        have:=hb.length
        simp at this
        exact Array.eq_empty_of_size_eq_zero this.symm
      rw [h1,h2]
  | iface=>simp [AX] at hc
  | ifaceAgg=>simp [AX] at hc
theorem NZ : ∀ {l m : List Value},l.all AX = true→All2 (L2 ι) l m→m = l
  | [],[],_,_=>rfl
  | v :: l,v' :: m,hc,⟨h1,h2⟩=>by
    simp at hc
    rw [VK hc.1 h1,NZ (by simpa using hc.2) h2]
theorem Gs {v v' : Value} (hc : A0 v = true) (h : VRel ι v v') : v' = v:=by
  cases h with
  | va h=>cases h with
    | l2 h =>
      refine VK ?_ h
      cases v <;> simp_all [A0,AX]
      rename_i cs
      cases h with
      | l1 h=>cases h with
        | l0 h=>cases h
    | agg h =>
      rename_i a1 a2
      have:=NZ hc h
      rw [Array.toList_inj.1 this]
  | tuple h=>simp [A0,AX] at hc
  | poison=>simp [A0,AX] at hc
theorem VRel.not_float {ι : Emb} {v v' : Value} (h : VRel ι v v') (hn : ∀ q,v ≠ .tuple q) : (∀ k n,v' ≠ .float k n)∧(∀ k n m,v' ≠ .complex k n m):=by
  cases h with
  | poison=>exact absurd rfl (hn _)
  | tuple=>exact absurd rfl (hn _)
  | va hx=>constructor <;> (intros; intro he; subst he; cases hx with | l2 hx=>cases hx with | l1 hx=>cases hx with | l0 hx=>cases hx)
theorem Ld {d : TypeDesc} {q : Array Value} {v : Value} : La d (.tuple q) v = none:=by
  unfold La
  split <;> first | rfl | (rename_i h; cases h)
theorem PR {P : Program} {op : BinOp} {t : TypeId} {ox oy : Operand} {u v r : Value} (h : abin P op t ox oy u v = some r) : ∀ q,u ≠ .tuple q:=by
  intro q hq
  subst hq
  simp only [abin,Option.bind_eq_some_iff,Ld] at h
  obtain ⟨d,_,h⟩:=h
  split at h <;> simp at h
theorem WH {op : BinOp} {t : TypeId} {k k' : IntKind} {x y : Int} {v : Value} (h : DK op k x k' y = some v) : (binOp op t (.int k x) (.int k' y)).run P w = .ok v w:=by
  cases op <;> simp only [DK] at h <;> simp only [binOp]
  case shl | shr =>
    split at h
    · cases h
    · rename_i hy; cases h; simp [Op.shift,hy]
  case quo | rem =>
    split at h
    · rename_i hk
      split at h
      · cases h
      · rename_i h0; cases h; simp [hk,Op.intDiv,h0]
    · cases h
  all_goals
    split at h
    · rename_i hk
      cases h
      simp [hk,Op.intArith,Op.intBits,Op.intCmp]
    · cases h
theorem WI {op : BinOp} {t : TypeId} {x y : ByteArray} {v : Value} (h : NJ op x y = some v) : (binOp op t (.string x) (.string y)).run P w = .ok v w:=by
  cases op <;> simp only [NJ] at h <;> simp only [binOp,Op.stringOp]
  case add =>
    split at h
    · rename_i hl
      cases h
      rw [if_neg (by simp [IntKind.max,IntKind.signed,IntKind.bits]; omega)]
      rfl
    · cases h
  all_goals first | (cases h; rfl) | cases h
theorem FV {op : BinOp} {t : TypeId} {x y : Operand} {u v : Value} (h1 : u ≠ .nilIface ∨ v ≠ .nilIface) (h2 : ∀ cs,u ≠ .agg cs) : (eqGuard op t x y u v).run P w = .ok () w:=by
  have key : ((match (generalizing:=false) u,v with
    | .nilIface,.nilIface =>
      if (x matches .const _) || (y matches .const _) then pure () else do
      if ← Op.eqGuardIn Op.maxDepth t u v then unsupported (.noEntry "binop/eql: two nil values of an interface type with methods, neither of them the literal nil")
    | .agg _,.agg _=>do
      if !(← program).eqGuardType (← program).depth t then pure () else
      if ← Op.eqGuardIn Op.maxDepth t u v then unsupported (.noEntry "binop/eql: two nil values of an interface type with methods, in a part of a struct or an array")
    | _,_=>pure () : Sem Unit)).run P w = .ok () w:=by
    split
    · simp at h1
    · exact absurd rfl (h2 _)
    · rfl
  cases op <;> first | rfl | exact key
theorem N0 {t : TypeId} {d : TypeDesc} {u v u' v' : Value} {b : Bool} (hd : P.underlying t = some d) (hx : VRel ι u u') (hy : VRel ι v v') (h : La d u v = some b) (n : Nat) :
    (Op.equalIn (n + 1) t u' v').run P w = .ok b w∧(u' ≠ .nilIface ∨ v' ≠ .nilIface)∧(∀ cs,u' ≠ .agg cs)∧(∀ k n,u' ≠ .int k n)∧(∀ s,u' ≠ .string s):=by
  have hu:=Ae (w:=w) hd
  unfold La at h
  split at h
  · cases hx.inv_bool; cases hy.inv_bool; cases h; exact ⟨by simp [Op.equalIn,hu],by simp,by simp,by simp,by simp⟩
  · rename_i bb
    cases hx.inv_pnil
    cases bb with
    | none=>cases hy.inv_pnil; cases h; exact ⟨by simp [Op.equalIn,hu],by simp,by simp,by simp,by simp⟩
    | some c=>obtain ⟨c1,c2,c3⟩:=c; obtain ⟨_,_,_,rfl⟩:=hy.inv_ptr; cases h; exact ⟨by simp [Op.equalIn,hu],by simp,by simp,by simp,by simp⟩
  · rename_i c
    obtain ⟨c1,c2,c3⟩:=c
    obtain ⟨_,_,_,rfl⟩:=hx.inv_ptr
    cases hy.inv_pnil; cases h; exact ⟨by simp [Op.equalIn,hu],by simp,by simp,by simp,by simp⟩
  · rename_i n1 m1 bb n' m'
    obtain ⟨_,_,rfl⟩:=hx.inv_snil
    cases bb with
    | none=>obtain ⟨_,_,rfl⟩:=hy.inv_snil; cases h; exact ⟨by simp [Op.equalIn,hu],by simp,by simp,by simp,by simp⟩
    | some c =>
      rcases hy.inv_slice with ⟨_,_,_,_,_,_,_,rfl⟩ | ⟨_,_,_,rfl⟩ <;> (cases h; exact ⟨by simp [Op.equalIn,hu],by simp,by simp,by simp,by simp⟩)
  · obtain ⟨_,_,rfl⟩:=hy.inv_snil
    rcases hx.inv_slice with ⟨_,_,_,_,_,_,_,rfl⟩ | ⟨_,_,_,rfl⟩ <;> (cases h; exact ⟨by simp [Op.equalIn,hu],by simp,by simp,by simp,by simp⟩)
  · rename_i bb
    cases hx.inv_mnil
    cases bb with
    | none=>cases hy.inv_mnil; cases h; exact ⟨by simp [Op.equalIn,hu],by simp,by simp,by simp,by simp⟩
    | some c=>obtain ⟨_,_,rfl⟩:=hy.inv_map; cases h; exact ⟨by simp [Op.equalIn,hu],by simp,by simp,by simp,by simp⟩
  · obtain ⟨_,_,rfl⟩:=hx.inv_map
    cases hy.inv_mnil; cases h; exact ⟨by simp [Op.equalIn,hu],by simp,by simp,by simp,by simp⟩
  · cases hx.inv_nilFunc; cases hy.inv_nilFunc; cases h; exact ⟨by simp [Op.equalIn,hu],by simp,by simp,by simp,by simp⟩
  · cases hx.inv_nilFunc; obtain ⟨_,_,rfl,_,_⟩:=hy.inv_func; cases h; exact ⟨by simp [Op.equalIn,hu],by simp,by simp,by simp,by simp⟩
  · cases hy.inv_nilFunc; obtain ⟨_,_,rfl,_,_⟩:=hx.inv_func; cases h; exact ⟨by simp [Op.equalIn,hu],by simp,by simp,by simp,by simp⟩
  · cases hy.inv_nilIface; obtain ⟨_,rfl⟩:=hx.inv_iface; cases h; exact ⟨by simp [Op.equalIn,hu],by simp,by simp,by simp,by simp⟩
  · cases hx.inv_nilIface; obtain ⟨_,rfl⟩:=hy.inv_iface; cases h; exact ⟨by simp [Op.equalIn,hu],by simp,by simp,by simp,by simp⟩
  · cases h
theorem HV {t : TypeId} {u v : Value} (hg : (∀ k n,u ≠ .int k n)) (hs : ∀ s,u ≠ .string s) (hf : ∀ k n,u ≠ .float k n) (hc : ∀ k n m,u ≠ .complex k n m) :
    binOp .eql t u v = (do pure (.bool (← Op.equal t u v)))∧binOp .neq t u v = (do pure (.bool (!(← Op.equal t u v)))):=by
  constructor <;> (cases u <;> first | rfl | exact absurd rfl (hg _ _) | exact absurd rfl (hs _) | exact absurd rfl (hf _ _) | exact absurd rfl (hc _ _ _))
theorem Zal {op : BinOp} {t yt : TypeId} {x y : Operand} {u v r : Value} (ho : o.op = .binOp op t x y yt) (h : Sim wb ι H w) (hx : VRel ι u (a.eval x)) (hy : VRel ι v (a.eval y))
    (hr : abin P op t x y u v = some r) : OpOk P o a w (Ba wb ι H w H r):=by
  have hr0:=hr
  unfold abin at hr
  split at hr
  · rename_i k n k' m
    have e1:=hx.inv_int
    have e2:=hy.inv_int
    have hrun:=WH (P:=P) (w:=w) (t:=t) hr
    have hg:=FV (P:=P) (w:=w) (op:=op) (t:=t) (x:=x) (y:=y) (u:=.int k n) (v:=.int k' m) (.inl (by simp)) (by simp)
    refine AQ h (v':=r) ?_ ?_
    · simp [execOp,ho,e1,e2,hg,hrun]
    · have : ∃ b,r = .bool b ∨ ∃ q z,r = .int q z:=by
        cases op <;> simp only [DK] at hr <;> (repeat' split at hr) <;> first | (cases hr; exact ⟨false,.inr ⟨_,_,rfl⟩⟩) | (cases hr; exact ⟨_,.inl rfl⟩) | cases hr
      obtain ⟨b,rfl | ⟨q,z,rfl⟩⟩:=this
      · exact .of0 (.bool _)
      · exact .of0 (.int _ _)
  · rename_i n m
    have e1:=hx.inv_string
    have e2:=hy.inv_string
    have hrun:=WI (P:=P) (w:=w) (t:=t) hr
    have hg:=FV (P:=P) (w:=w) (op:=op) (t:=t) (x:=x) (y:=y) (u:=.string n) (v:=.string m) (.inl (by simp)) (by simp)
    refine AQ h (v':=r) ?_ ?_
    · simp [execOp,ho,e1,e2,hg,hrun]
    · have : ∃ b,r = .bool b ∨ ∃ z,r = .string z:=by
        cases op <;> simp only [NJ] at hr <;> (repeat' split at hr) <;> first | (cases hr; exact ⟨false,.inr ⟨_,rfl⟩⟩) | (cases hr; exact ⟨_,.inl rfl⟩) | cases hr
      obtain ⟨b,rfl | ⟨z,rfl⟩⟩:=this
      · exact .of0 (.bool _)
      · exact .of0 (.string _)
  · rename_i xs ys
    unfold LU at hr
    split at hr
    case isFalse=>cases hr
    rename_i hc
    simp at hc
    have e1:=Gs hc.1 hx
    have e2:=Gs hc.2 hy
    split at hr
    · rename_i b hb
      cases hr
      have hrun:=Fl (P:=P) (w:=w) hb
      refine AQ h (v':=.bool b) ?_ (.of0 (.bool b))
      have hrun' : ((eqGuard op t x y (.agg xs) (.agg ys)).run P w).andThen (fun _ w'=>(binOp op t (.agg xs) (.agg ys)).run P w') = .ok (.bool b) w:=by
        rw [← hrun,Sem.run_bind]
      simp only [execOp,ho,e1,e2,Sem.run_bind,hrun',Result.andThen_ok]
      rfl
    · cases hr
  · rename_i u v _ _ _
    simp only [Option.bind_eq_some_iff] at hr
    obtain ⟨d,hd,hr⟩:=hr
    have hnf:=hx.not_float (PR hr0)
    split at hr
    · simp only [Option.map_eq_some_iff] at hr
      obtain ⟨b,hb,rfl⟩:=hr
      obtain ⟨h1,h2,h3,h4,h5⟩:=N0 (w:=w) hd hx hy hb 9999
      obtain ⟨h6,h7⟩:=hnf
      replace h1 : (Op.equal t (a.eval x) (a.eval y)).run P w = .ok b w:=h1
      have hg:=FV (P:=P) (w:=w) (op:=.eql) (t:=t) (x:=x) (y:=y) h2 h3
      refine AQ h (v':=.bool b) ?_ (.of0 (.bool b))
      simp [execOp,ho,hg,(HV (t:=t) (v:=a.eval y) h4 h5 h6 h7).1,h1]
    · simp only [Option.map_eq_some_iff] at hr
      obtain ⟨b,hb,rfl⟩:=hr
      obtain ⟨h1,h2,h3,h4,h5⟩:=N0 (w:=w) hd hx hy hb 9999
      obtain ⟨h6,h7⟩:=hnf
      replace h1 : (Op.equal t (a.eval x) (a.eval y)).run P w = .ok b w:=h1
      have hg:=FV (P:=P) (w:=w) (op:=.neq) (t:=t) (x:=x) (y:=y) h2 h3
      refine AQ h (v':=.bool (!b)) ?_ (.of0 (.bool _))
      simp [execOp,ho,hg,(HV (t:=t) (v:=a.eval y) h4 h5 h6 h7).2,h1]
    · cases hr
end
end Go.Proofs.YtmbhnbladmpnoaaGreat.Ab

/- The abstract machine against the model: the operations one by one (third part). -/
namespace Go.Proofs.YtmbhnbladmpnoaaGreat.Ab
open Go
section
variable {P : Program} {o : Oper} {a : Act} {w : World} {wb : Nat} {ι : Emb} {H : List Blk}
theorem ZcG {op : UnOp} {t : TypeId} {x : Operand} {u r : Value} (ho : o.op = .unOp op t x) (h : Sim wb ι H w) (hx : VRel ι u (a.eval x)) (hr : aun op u = some r) :
    OpOk P o a w (Ba wb ι H w H r):=by
  unfold aun at hr
  split at hr
  · have e:=hx.inv_int
    cases hr
    exact AQ h (by simp [execOp,ho,e,Op.unary,Op.intArith]) (.of0 (.int _ _))
  · have e:=hx.inv_int
    cases hr
    exact AQ h (by simp [execOp,ho,e,Op.unary,Op.intBits]) (.of0 (.int _ _))
  · have e:=hx.inv_bool
    cases hr
    exact AQ h (by simp [execOp,ho,e,Op.unary]) (.of0 (.bool _))
  · cases hr
theorem WJ {s t : TypeId} {k0 kd k : IntKind} {x : Operand} {n : Int} (ho : o.op = .convert s t x) (h : Sim wb ι H w) (hs : P.underlying s = some (.int k0)) (ht : P.underlying t = some (.int kd))
    (hx : VRel ι (.int k n) (a.eval x)) : OpOk P o a w (Ba wb ι H w H (.int kd (kd.wrap n))):=by
  have e:=hx.inv_int
  exact AQ h (by simp [execOp,ho,e,convert,Ae hs,Ae ht,Conv.intToInt]) (.of0 (.int _ _))
theorem WK {s t : TypeId} {x : Operand} {n : ByteArray} (ho : o.op = .convert s t x) (h : Sim wb ι H w) (hs : P.underlying s = some .string) (ht : P.underlying t = some .string)
    (hx : VRel ι (.string n) (a.eval x)) : OpOk P o a w (Ba wb ι H w H (.string n)):=by
  have e:=hx.inv_string
  exact AQ h (by simp [execOp,ho,e,convert,Ae hs,Ae ht]) (.of0 (.string _))
theorem QF (t : ByteArray) : All2 (L2 ι) (DL t) (t.data.map fun b=>Value.int .u8 b.toNat).toList:=by
  have : (t.data.map fun b=>Value.int .u8 b.toNat).toList = DL t:=by simp [DL]
  rw [this]
  refine DE ?_
  unfold DL
  generalize t.data.toList = l
  induction l with
  | nil=>rfl
  | cons x l ih=>simp only [List.map_cons,List.all_cons,ih]; rfl
theorem Ux {w : World} {b n : Nat} {cs : Array Value} {e : TypeId} (h : w.heap[b]? = some (.cells cs e)) :
    (w.freeze ⟨b,n,none⟩ 1).heap[b]? = some (.cells cs e (n,n + 1)):=by
  simp [World.freeze,Array.getElem?_modify,h]
theorem I5 {w : World} {b c n : Nat} (h : c ≠ b) : (w.freeze ⟨b,n,none⟩ 1).heap[c]? = w.heap[c]?:=by
  simp [World.freeze,Array.getElem?_modify,Ne.symm h]
theorem SW {s t e : TypeId} {x : Operand} {n : ByteArray} (ho : o.op = .convert s t x) (h : Sim wb ι H w) (hs : P.underlying s = some .string) (ht : P.underlying t = some (.slice e)) (he : P.underlying e = some (.int .u8))
    (hx : VRel ι (.string n) (a.eval x)) : OpOk P o a w (Ba wb ι H w (H ++ [.row 1 (DL n) .act]) (.slice (some ⟨H.length,0,none⟩) n.size n.size)):=by
  have ex:=hx.inv_string
  obtain ⟨cap,hcap,hle⟩ : ∃ cap,(choose (.appendCap n.size 0 e)).run P w = .ok cap w.drew∧n.size ≤ cap:=by
    refine ⟨_,by simp [Question.forced]; rfl,?_⟩
    simp [Question.cut]
  let cs : Array Value:=(n.data.map fun b=>Value.int .u8 b.toNat) ++ Array.replicate (cap - n.size) (.int .u8 0)
  have hnd : n.data.size = n.size:=rfl
  have hcs : cs.size = cap:=by simp only [cs,Array.size_append,Array.size_map,Array.size_replicate]; omega
  let w1 : World:=w.drew.alloc (.cells cs e)
  let w2 : World:=w1.freeze ⟨w.heap.size,cap,none⟩ 1
  have h1 : w1.heap[w.heap.size]? = some (.cells cs e):=by
    show (w.heap.push _)[w.heap.size]? = _
    rw [Array.getElem?_push,if_pos rfl]
  have hrun : (execOp a.eval o).run P w = .ok (.value (.slice (some ⟨w.heap.size,0,none⟩) n.size cap)) w2:=by
    have hsh : w1.shape? w.heap.size = some (e,cap):=by simp [World.shape?,h1,hcs]
    have hc : (Conv.stringToBytes e n).run P w = .ok (.slice (some ⟨w.heap.size,0,none⟩) n.size cap) w2:=by
      unfold Conv.stringToBytes
      rw [Sem.run_bind,hcap]
      simp only [Result.andThen_ok,newRow,Sem.run_bind,run_newObj,World.alloc_eq,Sem.run_pure,markStringish,run_shape,World.size_drew]
      rw [show (w.drew.alloc (.cells ((n.data.map fun b=>Value.int .u8 b.toNat) ++ Array.replicate (cap - n.size) (.int .u8 0)) e)) = w1 from rfl,hsh]
      rfl
    simp [execOp,ho,ex,convert,Ae hs,Ae ht,Ae he,hc]
  have hp:=h.push (w:=w) (n:=1) (cells:=DL n) (cs:=cs) (e:=e) (fz:=(cap,cap + 1)) (.inr ⟨rfl,by rw [hcs]; exact Nat.le_refl _⟩) (fun i v hi=>by
    obtain ⟨v',hv',hr⟩:=(QF (ι:=ι) n).get i v hi
    refine ⟨v',?_,hr⟩
    have hlt:=(List.getElem?_eq_some_iff.1 hv').1
    simp at hlt
    simp only [cs]
    rw [Array.getElem?_append_left (by simpa using hlt)]
    simpa using hv')
  have heap2 : w2.heap = (w.alloc (.cells cs e (cap,cap + 1))).heap:=by
    apply Array.ext_getElem?
    intro c
    by_cases hc : c = w.heap.size
    · subst hc
      rw [show w2.heap[w.heap.size]? = _ from Ux h1]
      show _ = (w.heap.push _)[w.heap.size]?
      rw [Array.getElem?_push,if_pos rfl]
    · rw [show w2.heap[c]? = _ from I5 hc]
      show (w.heap.push _)[c]? = (w.heap.push _)[c]?
      rw [Array.getElem?_push,Array.getElem?_push,if_neg hc,if_neg hc]
  refine .inl ⟨_,_,hrun,_,hp.1.congr heap2,?_,Fm _ _ _ _ _ _ rfl (Nat.le_refl _) hle (by simp [hcs])⟩
  have hs:=hp.2
  exact ⟨hs.le,hs.old,hs.img,fun c hc hn=>by rw [heap2]; exact hs.keep c hc hn,by rw [heap2]; exact hs.size,rfl,rfl,rfl,hs.len,hs.own⟩
theorem X7 {t e : TypeId} {x : Operand} {b off len cap : Nat} {cells : List Value} (ho : o.op = .convert t t x) (h : Sim wb ι H w) (ht : P.underlying t = some (.slice e)) (he : P.underlying e = some (.int .u8))
    (hb : H[b]? = some (.row 1 cells .act)) (hx : VRel ι (.slice (some ⟨b,off,none⟩) (len + 1) cap) (a.eval x)) : OpOk P o a w (Ba wb ι H w H (.slice (some ⟨b,off,none⟩) (len + 1) cap)):=by
  obtain ⟨lc,cap',hl,hcap,ex⟩ : ∃ (lc : Loc) (cap' : Nat),ι b = some lc∧cap ≤ cap'∧a.eval x = .slice (some ⟨lc.blk,lc.off + off,none⟩) (len + 1) cap':=by
    generalize a.eval x = u at hx
    cases hx with
    | va h=>cases h with
      | l2 h=>cases h with
        | l1 h=>cases h with
          | l0 h=>cases h with
            | slice _ h1 h2 h3 h4=>exact ⟨_,_,h1,h3,rfl⟩
  have hx2:=hx
  rw [ex] at hx2
  obtain ⟨cs,el,fz,hw,_,hact,hcells⟩:=h.row b 1 cells .act hb (by simp) lc hl
  obtain ⟨a1,a2,a3,a4⟩:=hact rfl
  let fz2 : Nat × Nat:=if fz.1 == fz.2 then (cs.size,cs.size + 1) else (min fz.1 cs.size,max fz.2 (cs.size + 1))
  let w2 : World:=w.freeze ⟨lc.blk,cs.size,none⟩ 1
  have hh : w2.heap[lc.blk]? = some (.cells cs el fz2):=by
    simp only [w2,World.freeze,Nat.one_ne_zero,if_false,Array.getElem?_modify,if_true,hw,Option.map_some]
    obtain ⟨lo,hi⟩:=fz
    rfl
  have hne : ∀ c,c ≠ lc.blk→w2.heap[c]? = w.heap[c]?:=fun c hc=>I5 hc
  have hsz : w2.heap.size = w.heap.size:=by simp [w2,World.freeze]
  have hrun : (execOp a.eval o).run P w = .ok (.value (.slice (some ⟨lc.blk,lc.off + off,none⟩) (len + 1) cap')) w2:=by
    have hsh : w.shape? lc.blk = some (el,cs.size):=by simp [World.shape?,hw]
    simp [execOp,ho,ex,convert,Ae ht,Ae he,markStringish,hsh,w2]
  have hfz : fzOk 1 fz2 cs.size:=by
    simp only [fz2]
    unfold fzOk at a4 ⊢
    split
    · right; exact ⟨rfl,Nat.le_refl _⟩
    · rename_i hf
      rcases a4 with h1 | ⟨_,h1⟩
      · exact absurd (by simpa using h1) hf
      · right; refine ⟨rfl,?_⟩; simp only; omega
  refine .inl ⟨_,_,hrun,ι,?_,?_,hx2⟩
  · constructor
    · exact h.dom
    · intro b2 n2 cells2 st hb2 hst l hl2
      obtain ⟨cs2,e2,fz3,q1,q2,q3,q4⟩:=h.row b2 n2 cells2 st hb2 hst l hl2
      by_cases hc : l.blk = lc.blk
      · rw [hc,hw] at q1
        cases q1
        exact ⟨cs,el,fz2,by rw [hc]; exact hh,q2,fun hh=>⟨(q3 hh).1,(q3 hh).2.1,(q3 hh).2.2.1,by
          by_cases hbb : b2 = b
          · subst hbb
            rw [hb] at hb2
            cases hb2
            exact hfz
          · exact absurd hc (h.excl b2 b (by rw [hb2,hh]; rfl) (by rw [hb]; rfl) hbb l lc hl2 hl)⟩,q4⟩
      · exact ⟨cs2,e2,fz3,by rw [hne _ hc]; exact q1,q2,q3,q4⟩
    · intro b2 es clock hb2 l hl2
      obtain ⟨q1,q2,es',q3,q4⟩:=h.map b2 es clock hb2 l hl2
      have hc : l.blk ≠ lc.blk:=by
        intro hc
        rw [hc,hw] at q3
        exact q4.cells _ _ _ (Option.some.inj q3).symm
      exact ⟨q1,q2,es',by rw [hne _ hc]; exact q3,q4⟩
    · exact h.excl
    · rw [hsz]; exact h.size
    · exact h.loc
  · constructor
    · exact .refl _
    · intro _ _; rfl
    · intro b2 x2 hx3 hb3; exact absurd (h.dom b2 x2 hx3) (by omega)
    · intro c hc hno
      exact hne c (fun e=>hno b lc (by rw [hb]; rfl) hl e.symm)
    · rw [hsz]; exact Nat.le_refl _
    · rfl
    · rfl
    · rfl
    · exact Nat.le_refl _
    · intro _ _ h; exact h
theorem L5 : ∀ {l : List Value} {bs : List UInt8},BC l = some bs→∃ ns : List Int,l = ns.map (Value.int .u8)∧bs = ns.map fun n=>UInt8.ofNat n.toNat
  | [],bs,h=>by simp [BC] at h; subst h; exact ⟨[],rfl,rfl⟩
  | .int .u8 n :: l,bs,h=>by
    simp only [BC,Option.map_eq_some_iff] at h
    obtain ⟨r,hr,rfl⟩:=h
    obtain ⟨ns,h1,h2⟩:=L5 hr
    exact ⟨n :: ns,by rw [h1]; rfl,by rw [h2]; rfl⟩
  | .int .i8 n :: l,bs,h=>by simp [BC] at h
  | .int .i16 n :: l,bs,h=>by simp [BC] at h
  | .int .i32 n :: l,bs,h=>by simp [BC] at h
  | .int .i64 n :: l,bs,h=>by simp [BC] at h
  | .int .u16 n :: l,bs,h=>by simp [BC] at h
  | .int .u32 n :: l,bs,h=>by simp [BC] at h
  | .int .u64 n :: l,bs,h=>by simp [BC] at h
  | .bool _ :: l,bs,h=>by simp [BC] at h
  | .float _ _ :: l,bs,h=>by simp [BC] at h
  | .complex _ _ _ :: l,bs,h=>by simp [BC] at h
  | .string _ :: l,bs,h=>by simp [BC] at h
  | .pointer _ :: l,bs,h=>by simp [BC] at h
  | .slice _ _ _ :: l,bs,h=>by simp [BC] at h
  | .map _ :: l,bs,h=>by simp [BC] at h
  | .chan _ :: l,bs,h=>by simp [BC] at h
  | .func _ _ _ :: l,bs,h=>by simp [BC] at h
  | .nilFunc :: l,bs,h=>by simp [BC] at h
  | .iface _ _ :: l,bs,h=>by simp [BC] at h
  | .nilIface :: l,bs,h=>by simp [BC] at h
  | .agg _ :: l,bs,h=>by simp [BC] at h
  | .tuple _ :: l,bs,h=>by simp [BC] at h
theorem WL (ns : List Int) : ∀ (r : ByteArray),(ns.foldl (fun (r : ByteArray) (n : Int)=>r.push (UInt8.ofNat n.toNat)) r) = ⟨r.data ++ (ns.map fun n=>UInt8.ofNat n.toNat).toArray⟩:=by
  induction ns with
  | nil=>intro r; simp
  | cons n ns ih =>
    intro r
    rw [List.foldl_cons,ih]
    congr 1
    simp [ByteArray.push]
theorem SX {s t e : TypeId} {x : Operand} {u r : Value} {S : St} (ho : o.op = .convert s t x) (h : Sim wb ι S.heap w) (hs : P.underlying s = some (.slice e)) (ht : P.underlying t = some .string) (he : P.underlying e = some (.int .u8))
    (hx : VRel ι u (a.eval x)) (hr : BE u S = some r) : OpOk P o a w (Ba wb ι S.heap w S.heap r):=by
  unfold BE at hr
  split at hr
  · obtain ⟨_,_,ex⟩:=hx.inv_snil
    cases hr
    exact AQ h (by simp [execOp,ho,ex,convert,Ae hs,Ae ht,Ae he,Conv.bytesToString]) (.of0 (.string _))
  · rename_i b off len cap
    simp only [Option.bind_eq_some_iff,Option.map_eq_some_iff] at hr
    obtain ⟨cs,hcs,bs,hbs,rfl⟩:=hr
    obtain ⟨ns,hns,rfl⟩:=L5 hbs
    rcases hx.inv_slice with ⟨lc,m',_,hb,_,_,_,ex⟩ | ⟨rfl,rfl,⟨a1,a2,a3⟩,ex⟩
    · obtain ⟨vs',h1,h2,h3⟩:=h.read (P:=P) hcs hb
      have hvs : vs' = ns.map (Value.int .u8):=by
        rw [← hns]
        exact NZ (by rw [hns]; simp [AX]) h2
      rw [hvs] at h1
      have hrun:=run_bytesToString w ⟨lc.blk,lc.off + off,none⟩ len m' ns h1
      rw [WL] at hrun
      refine AQ h (v':=.string ⟨(ns.map fun n=>UInt8.ofNat n.toNat).toArray⟩) ?_ (.of0 (.string _))
      have : ByteArray.empty.data = #[]:=rfl
      simp [this] at hrun
      simp [execOp,ho,ex,convert,Ae hs,Ae ht,Ae he,hrun]
    · have hn0 : ns = []:=by
        unfold readN at hcs
        simp only [Option.bind_eq_some_iff] at hcs
        obtain ⟨cc,_,h5⟩:=hcs
        split at h5
        · cases h5; simp at hns; exact hns
        · cases h5
      subst hn0
      have hrun:=run_bytesToString (P:=P) w ⟨a1,a2,a3⟩ 0 0 [] rfl
      refine AQ h (v':=.string ByteArray.empty) ?_ (.of0 (.string _))
      simp at hrun
      simp [execOp,ho,ex,convert,Ae hs,Ae ht,Ae he,hrun]
  · cases hr
theorem MD {t : TypeId} {d : TypeDesc} {x : Operand} {u : Value} (ho : o.op = .makeInterface t x) (h : Sim wb ι H w) (hd : P.underlying t = some d) (hd2 : ∀ ms,d ≠ .interface ms) (hx : VRel ι u (a.eval x))
    (hu : Jn u = true) : OpOk P o a w (Ba wb ι H w H (.iface t u)):=by
  refine AQ h (v':=.iface t (a.eval x)) ?_ ?_
  · simp only [execOp,ho,Instr.makeInterface,Sem.run_bind,Ae hd,Result.andThen_ok]
    cases d <;> first | rfl | exact absurd rfl (hd2 _)
  · generalize a.eval x = y at hx
    cases hx with
    | tuple=>simp [Jn] at hu
    | poison=>simp [Jn] at hu
    | va hx =>
      cases hx with
      | agg g =>
        refine .of2 (.ifaceAgg t ?_)
        simp only [Jn] at hu
        rename_i c1 c2
        generalize c1.toList = l1 at *
        generalize c2.toList = l2 at *
        induction l1 generalizing l2 with
        | nil=>cases l2 with
          | nil=>trivial
          | cons=>exact g.elim
        | cons p l1 ih=>cases l2 with
          | nil=>exact g.elim
          | cons q l2 =>
            simp only [List.all_cons,Bool.and_eq_true] at hu
            refine ⟨?_,ih hu.2 l2 g.2⟩
            have:=g.1
            cases this with
            | l1 h=>exact h
            | iface=>simp [Rc] at hu
            | ifaceAgg=>simp [Rc] at hu
      | l2 g=>cases g with
        | l1 g=>exact .of2 (.iface t g)
        | iface=>simp [Jn] at hu
        | ifaceAgg=>simp [Jn] at hu
theorem VRel.leaf0 {u v : Value} (h : VRel ι u v) (hl : Ab.leaf0 u = true) : L0 ι u v:=by
  cases h with
  | tuple=>simp [Ab.leaf0] at hl
  | poison=>simp [Ab.leaf0] at hl
  | va h=>cases h with
    | agg=>simp [Ab.leaf0] at hl
    | l2 h=>cases h with
      | iface=>simp [Ab.leaf0] at hl
      | ifaceAgg=>simp [Ab.leaf0] at hl
      | l1 h=>cases h with
        | l0 h=>exact h
        | func fn ha hb =>
          simp [Ab.leaf0] at hl
          obtain ⟨rfl,rfl⟩:=hl
          rename_i a' b'
          have h1 : a' = #[]:=by
            have:=ha.length
            simp at this
            exact Array.eq_empty_of_size_eq_zero this.symm
          have h2 : b' = #[]:=by
            have:=hb.length
            simp at this
            exact Array.eq_empty_of_size_eq_zero this.symm
          rw [h1,h2]
          exact .func fn
theorem VRels.leaf0 : ∀ {l m : List Value},All2 (VRel ι) l m→l.all Ab.leaf0 = true→All2 (L0 ι) l m
  | [],[],_,_=>trivial
  | _ :: _,_ :: _,⟨h1,h2⟩,hl=>by
    simp at hl
    exact ⟨h1.leaf0 hl.1,VRels.leaf0 h2 (by simpa using hl.2)⟩
theorem Uy {f : FuncId} {first captured : Array Operand} {T : Fr} {xs ys : List Value} (ho : o.op = .makeFunc (.func f) first captured) (h : Sim wb ι H w)
    (hx : All2 (VRel ι) xs (first.toList.map a.eval)) (hy : All2 (VRel ι) ys (captured.toList.map a.eval)) (h1 : xs.all leaf0 = true) (h2 : ys.all leaf0 = true) :
    OpOk P o a w (Ba wb ι H w H (.func (.func f) xs.toArray ys.toArray)):=by
  refine AQ h (v':=.func (.func f) (first.map a.eval) (captured.map a.eval)) (by simp [execOp,ho,Instr.makeFunc]) ?_
  exact .of2 (.l1 (.func _ (by simpa using VRels.leaf0 hx h1) (by simpa using VRels.leaf0 hy h2)))
theorem SY {t e : TypeId} {x y : Operand} {n b : Nat} {z u v r : Value} {S S' : St} (ho : o.op = .makeSlice t x y) (h : Sim wb ι S.heap w) (ht : P.underlying t = some (.slice e)) (hn : B0 P e = some n) (hb : HL P e = some b)
    (hz : Ec P e = some z) (hx : VRel ι u (a.eval x)) (hy : VRel ι v (a.eval y)) (hr : ZcA n b (Ao z) u v S = some (r,S')) : OpOk P o a w (Ba wb ι S.heap w S'.heap r):=by
  obtain ⟨i,hi,hiz,hzc⟩:=B9 hz
  have hin : i.size = n:=by simp [B0,hi] at hn; exact hn
  have hib : i.bytes = b:=by simp [HL,hi] at hb; exact hb
  unfold ZcA at hr
  split at hr
  · rename_i k l k' c
    split at hr
    case isFalse=>cases hr
    rename_i hcond
    obtain ⟨h0,h1,h2,h3,h4,h5⟩:=hcond
    cases hr
    have ex:=hx.inv_int
    have ey:=hy.inv_int
    have hby : (i.bytes : Int) * c ≤ 281474976710656:=by
      have h6 : ((c.toNat * b : Nat) : Int) ≤ 140737488355328:=by omega
      rw [Nat.mul_comm,Int.natCast_mul,Int.toNat_of_nonneg (by omega)] at h6
      rw [hib]
      omega
    have hrun:=run_make (P:=P) w t e i z ht hi hiz k k' l c h0 h1 hby h2
    refine .inl ⟨_,_,by simp only [execOp,ho,ex,ey,Sem.run_bind,hrun,Result.andThen_ok]; rfl,?_⟩
    have hzs : z.cells.size = n:=by rw [← h4,← DN]; simp
    have hm : All2 (L2 ι) (A5 (Ao z) c.toNat) (madeCells z.cells (c.toNat * i.size)).toList:=by
      unfold madeCells
      rw [hin]
      have:=NX z.cells c.toNat
      rw [hzs] at this
      rw [hzs,this]
      exact Es (CC hzc) _
    exact Kc (f:=fun n m=>.slice (some ⟨n,m,none⟩) l.toNat c.toNat) h hm (Fm _ _ _ _ _ _ rfl (by omega) (Nat.le_refl _) (by simp [size_madeCells,hin]))
  · cases hr
end
end Go.Proofs.YtmbhnbladmpnoaaGreat.Ab

/- The abstract machine against the model: the operations one by one (fourth part). -/
namespace Go.Proofs.YtmbhnbladmpnoaaGreat.Ab
open Go
section
variable {P : Program} {o : Oper} {a : Act} {w : World} {wb : Nat} {ι : Emb} {H : List Blk}
inductive ORel (ι : Emb) : Option Value→Option Value→Prop
  | none : ORel ι none none
  | some {v v' : Value} (h : VRel ι v v') : ORel ι (some v) (some v')
def SZ (n : Nat) : Option Operand→Bool
  | some x=>opdB n x
  | none=>true
theorem Nu {T : Fr} (hf : Jv ι T a.tmps) {x : Option Operand} {v : Option Value} (h : opdO T x = some v) (hb : SZ a.tmps.size x = true) : ORel ι v (x.map a.eval):=by
  cases x with
  | none=>simp [opdO] at h; subst h; exact .none
  | some x =>
    simp only [opdO,Option.map_eq_some_iff] at h
    obtain ⟨u,hu,rfl⟩:=h
    exact .some (Aw hu hf hb)
theorem Le {isSlice : Bool} {len len' cap cap' l h m : Nat} {lo hi mx lo' hi' mx' : Option Value} (hlo : ORel ι lo lo') (hhi : ORel ι hi hi') (hmx : ORel ι mx mx')
    (hm : Bi cap mx = some m) (hh : Bi len hi = some h) (hl : Bi 0 lo = some l) (h1 : l ≤ h) (h2 : h ≤ m) (h3 : m ≤ cap) (h4 : cap ≤ cap') (hmh : mx = none ∨ hi ≠ none) :
    ∃ m',(Instr.sliceBounds isSlice len cap' lo' hi' mx').run P w = .ok (l,h,m') w∧(if mx = none then m' = cap' else m' = m):=by
  have hb : ∀ (k : IntKind) (i : Int) (y : Nat) (code : BoundsCode),0 ≤ i→i ≤ y→(Instr.sliceBound (.int k i) y code).run P w = .ok i.toNat w:=fun k i y code g1 g2=>by
    simp [Instr.sliceBound,asIntOf,g1,g2]
  have key : ∀ {d n : Nat} {x x' : Option Value},ORel ι x x'→Bi d x = some n→(x = none∧x' = none∧n = d) ∨ ∃ k i,x = some (.int k i)∧x' = some (.int k i)∧0 ≤ i∧n = i.toNat:=by
    intro d n x x' hx hd
    cases hx with
    | none=>simp [Bi] at hd; exact .inl ⟨rfl,rfl,hd.symm⟩
    | some hv =>
      unfold Bi at hd
      split at hd
      · rename_i he; cases he
      · rename_i k i he
        cases he
        split at hd
        · rename_i h0; cases hd; rw [hv.inv_int]; exact .inr ⟨_,_,rfl,rfl,h0,rfl⟩
        · cases hd
      · cases hd
  unfold Instr.sliceBounds
  rcases key hmx hm with ⟨rfl,rfl,rfl⟩ | ⟨km,im,rfl,rfl,gm,rfl⟩
  · refine ⟨cap',?_,by simp⟩
    rcases key hhi hh with ⟨rfl,rfl,rfl⟩ | ⟨kh,ih,rfl,rfl,gh,rfl⟩ <;> rcases key hlo hl with ⟨rfl,rfl,rfl⟩ | ⟨kl,il,rfl,rfl,gl,rfl⟩
    · simp
    · simp [hb kl il _ _ gl (show il ≤ (h : Int) by omega)]
    · simp [hb kh ih _ _ gh (show ih ≤ (cap' : Int) by omega)]
    · simp [hb kh ih _ _ gh (show ih ≤ (cap' : Int) by omega),hb kl il _ _ gl (show il ≤ (ih.toNat : Int) by omega)]
  · refine ⟨im.toNat,?_,by simp⟩
    rcases key hhi hh with ⟨rfl,rfl,rfl⟩ | ⟨kh,ih,rfl,rfl,gh,rfl⟩
    · simp at hmh
    rcases key hlo hl with ⟨rfl,rfl,rfl⟩ | ⟨kl,il,rfl,rfl,gl,rfl⟩
    · simp [hb km im _ _ gm (show im ≤ (cap' : Int) by omega),hb kh ih _ _ gh (show ih ≤ (im.toNat : Int) by omega)]
    · simp [hb km im _ _ gm (show im ≤ (cap' : Int) by omega),hb kh ih _ _ gh (show ih ≤ (im.toNat : Int) by omega),hb kl il _ _ gl (show il ≤ (ih.toNat : Int) by omega)]
theorem QG {n len cap l h m m' cap' : Nat} {ad : Option Addr} {v : Value} {lo hi mx : Option Value} (hv : VRel ι (.slice ad len cap) v) (hm : Bi cap mx = some m) (hh : Bi len hi = some h) (hl : Bi 0 lo = some l) (h1 : l ≤ h) (h2 : h ≤ m) (h3 : m ≤ cap)
    {r : Value} (hr : HO n ad l (h - l) (m - l) = some r)
    {ad' : Option Addr} (he : v = .slice ad' len cap') (hm' : m ≤ m') (hm2 : m' ≤ cap') : VRel ι r (.slice (if m' = l then ad' else ad'.map (·.add (l * n))) (h - l) (m' - l)):=by
  cases ad with
  | none =>
    obtain ⟨rfl,rfl,ex⟩:=hv.inv_snil
    rw [ex] at he
    cases he
    simp [HO] at hr
    subst hr
    obtain rfl : m = 0:=by omega
    obtain rfl : m' = 0:=by omega
    obtain rfl : h = 0:=by omega
    obtain rfl : l = 0:=by omega
    exact .of0 .snil
  | some ad =>
    obtain ⟨b,off,sp⟩:=ad
    cases sp with
    | some sp=>simp [HO] at hr
    | none =>
      simp [HO] at hr
      subst hr
      rcases hv.inv_slice with ⟨lc,m2,_,hb,hle,hc,hz,ex⟩ | ⟨rfl,rfl,a',ex⟩
      · rw [ex] at he
        cases he
        simp only at hb
        by_cases hml : m' = l
        · rw [if_pos hml]
          obtain rfl : h = l:=by omega
          obtain rfl : m = h:=by omega
          subst hml
          simp only [Nat.sub_self]
          exact .of0 (.slice0 _ _)
        · rw [if_neg hml]
          simp only [Option.map_some,EV,Nat.add_assoc]
          refine .of0 (.slice _ hb (by omega) (by omega) fun ho0=>?_)
          have h5:=hz (show off = 0 by omega)
          exact Nat.le_trans (Nat.add_le_add_left (Nat.mul_le_mul_right lc.n (show m' - l ≤ cap' by omega)) lc.off) h5
      · rw [ex] at he
        cases he
        obtain rfl : m = 0:=by omega
        obtain rfl : m' = 0:=by omega
        obtain rfl : h = 0:=by omega
        obtain rfl : l = 0:=by omega
        simp
        exact .of0 (.slice0 _ _)
theorem I6 {n len cap : Nat} {ad : Option Addr} {lo hi mx : Option Value} {r : Value} (h : DT n ad len cap lo hi mx = some r) :
    ∃ m hh l,Bi cap mx = some m∧Bi len hi = some hh∧Bi 0 lo = some l∧l ≤ hh∧hh ≤ m∧m ≤ cap∧(mx = none ∨ hi ≠ none) ∧
      HO n ad l (hh - l) (m - l) = some r:=by
  unfold DT at h
  split at h
  case isFalse=>cases h
  rename_i hmh
  simp only [Option.bind_eq_some_iff] at h
  obtain ⟨m,hm,hh,hhh,l,hl,h⟩:=h
  split at h
  · rename_i hc
    exact ⟨m,hh,l,hm,hhh,hl,hc.1,hc.2.1,hc.2.2,by cases mx <;> cases hi <;> simp_all,h⟩
  · cases h
theorem Zam {t e : TypeId} {x : Operand} {lo hi mx : Option Operand} {vlo vhi vmx : Option Value} {n len cap : Nat} {ad : Option Addr} {r : Value} (ho : o.op = .slice t x lo hi mx) (h : Sim wb ι H w)
    (ht : P.underlying t = some (.slice e)) (hn : B0 P e = some n) (hx : VRel ι (.slice ad len cap) (a.eval x)) (hlo : ORel ι vlo (lo.map a.eval)) (hhi : ORel ι vhi (hi.map a.eval)) (hmx : ORel ι vmx (mx.map a.eval))
    (hr : DT n ad len cap vlo vhi vmx = some r) : OpOk P o a w (Ba wb ι H w H r):=by
  obtain ⟨m,hh,l,hm,hhh,hl,h1,h2,h3,hmh,hr'⟩:=I6 hr
  have hshape : ∃ ad' cap',a.eval x = .slice ad' len cap'∧cap ≤ cap':=by
    cases ad with
    | none=>obtain ⟨rfl,rfl,ex⟩:=hx.inv_snil; exact ⟨_,_,ex,Nat.le_refl _⟩
    | some ad => rcases hx.inv_slice with ⟨_,m',_,_,_,hc,_,ex⟩ | ⟨rfl,rfl,a',ex⟩
                 · exact ⟨_,_,ex,hc⟩
                 · exact ⟨_,_,ex,Nat.le_refl _⟩
  obtain ⟨ad',cap',ex,hcc⟩:=hshape
  obtain ⟨m',hrun,hm'⟩:=Le (P:=P) (w:=w) (isSlice:=true) (len':=len) hlo hhi hmx hm hhh hl h1 h2 h3 hcc hmh
  have hmle : m ≤ m'∧m' ≤ cap':=by
    split at hm'
    · omega
    · omega
  refine AQ h (v':=.slice (if m' = l then ad' else ad'.map (·.add (l * n))) (hh - l) (m' - l)) ?_ (QG hx hm hhh hl h1 h2 h3 hr' ex hmle.1 hmle.2)
  simp [execOp,ho,ex,Instr.sliceAt,Instr.slice,Ae ht,hrun,AT hn]
theorem Uz {t : TypeId} {x : Operand} {lo hi mx : Option Operand} {vlo vhi : Option Value} {s : ByteArray} {r : Value} (ho : o.op = .slice t x lo hi mx) (h : Sim wb ι H w)
    (ht : P.underlying t = some .string) (hx : VRel ι (.string s) (a.eval x)) (hlo : ORel ι vlo (lo.map a.eval)) (hhi : ORel ι vhi (hi.map a.eval)) (hmx : ORel ι none (mx.map a.eval))
    (hr : NN s vlo vhi = some r) : OpOk P o a w (Ba wb ι H w H r):=by
  unfold NN at hr
  simp only [Option.bind_eq_some_iff] at hr
  obtain ⟨hh,hhh,l,hl,hr⟩:=hr
  split at hr
  case isFalse=>cases hr
  rename_i hc
  cases hr
  have ex:=hx.inv_string
  have emx : mx.map a.eval = none:=by cases hm : mx.map a.eval with
    | none=>rfl
    | some v=>rw [hm] at hmx; cases hmx
  obtain ⟨m',hrun,_⟩:=Le (P:=P) (w:=w) (isSlice:=false) (len':=s.size) (cap:=s.size) (cap':=s.size) (mx:=none) (mx':=none) hlo hhi .none rfl hhh hl hc.1 hc.2 (Nat.le_refl _) (Nat.le_refl _) (.inl rfl)
  refine AQ h (v':=.string (s.extract l hh)) ?_ (.of0 (.string _))
  simp [execOp,ho,ex,emx,Instr.sliceAt,Instr.slice,Ae ht,hrun]
theorem N1 {t e : TypeId} {x : Operand} {lo hi mx : Option Operand} {vlo vhi vmx : Option Value} {n len : Nat} {ad : Addr} {r : Value} (ho : o.op = .slice t x lo hi mx) (h : Sim wb ι H w)
    (ht : P.underlying t = some (.array len e) ∨ ∃ u,P.underlying t = some (.pointer u)∧P.underlying u = some (.array len e)) (hn : B0 P e = some n) (hx : VRel ι (.pointer (some ad)) (a.eval x)) (hlo : ORel ι vlo (lo.map a.eval)) (hhi : ORel ι vhi (hi.map a.eval)) (hmx : ORel ι vmx (mx.map a.eval))
    (hb0 : ∃ cells st,H[ad.block]? = some (.row 0 cells st)∧st ≠ .dead) (hr : DT n (some ad) len len vlo vhi vmx = some r) : OpOk P o a w (Ba wb ι H w H r):=by
  obtain ⟨m,hh,l,hm,hhh,hl,h1,h2,h3,hmh,hr'⟩:=I6 hr
  obtain ⟨b,off,sp⟩:=ad
  obtain ⟨rfl,lc,hb,ex⟩:=hx.inv_ptr
  obtain ⟨m',hrun,hm'⟩:=Le (P:=P) (w:=w) (isSlice:=false) (len':=len) hlo hhi hmx hm hhh hl h1 h2 h3 (Nat.le_refl _) hmh
  have hmle : m ≤ m'∧m' ≤ len:=by
    split at hm'
    · omega
    · omega
  have hsv : VRel ι (.slice (some ⟨b,off,none⟩) len len) (.slice (some ⟨lc.blk,lc.off + off,none⟩) len len):=.of0 (.slice off hb (Nat.le_refl _) (Nat.le_refl _) (fun _=>by
    obtain ⟨cells,st,hc,hst⟩:=hb0
    have:=h.loc b 0 cells st hc hst lc hb
    rw [this.1]; simp; exact this.2))
  have hrel:=QG (n:=n) hsv hm hhh hl h1 h2 h3 hr' rfl hmle.1 hmle.2
  refine AQ h (v':=.slice (if m' = l then some ⟨lc.blk,lc.off + off,none⟩ else (some (⟨lc.blk,lc.off + off,none⟩ : Addr)).map (·.add (l * n))) (hh - l) (m' - l)) ?_ hrel
  rcases ht with ht | ⟨u,ht,hu⟩
  · simp only [execOp,ho,ex,Instr.sliceAt,Instr.sureAddr,Sem.run_bind,Ae ht,hrun,AT hn,Result.andThen_ok,Sem.run_pure]
    split <;> rfl
  · simp only [execOp,ho,ex,Instr.sliceAt,Instr.slice,asAddr,Sem.run_bind,Ae ht,Ae hu,hrun,AT hn,Result.andThen_ok,Sem.run_pure]
    split <;> rfl
theorem L6 {t : TypeId} {x : Operand} {i n : Nat} {f : Nat × TypeId} {u r : Value} (ho : o.op = .fieldAddr t x i) (h : Sim wb ι H w) (hf : NL P t i = some f) (hn : B0 P f.2 = some n) (h0 : n ≠ 0)
    (hx : VRel ι u (a.eval x)) (hr : Ac f.1 u = some r) : OpOk P o a w (Ba wb ι H w H r):=by
  unfold Ac at hr
  split at hr
  · rename_i b off
    cases hr
    obtain ⟨_,lc,hb,ex⟩:=hx.inv_ptr
    unfold NL at hf
    split at hf
    · rename_i fs hu
      simp only [Option.map_eq_some_iff] at hf
      obtain ⟨fd,hfd,rfl⟩:=hf
      refine AQ h (v':=.pointer (some ⟨lc.blk,lc.off + (off + fd.offset),none⟩)) ?_ (.of0 (.ptr _ hb))
      simp only at hn
      simp [execOp,ho,ex,Instr.fieldAt,Ae hu,hfd,Instr.sureAddr,fieldPlace,AT hn,h0,EV,Nat.add_assoc]
    · cases hf
  · cases hr
theorem VL {t : TypeId} {ag : Bool} {n off : Nat} {cs cs' : Array Value} {r : Value} (hag : aggT P t = some ag) (hn : B0 P t = some n) (hc : All2 (L2 ι) cs.toList cs'.toList) (hr : HM ag off n (.agg cs) = some r) :
    ∃ r',(part t cs' off).run P w = .ok r' w∧VRel ι r r':=by
  have hl : cs.size = cs'.size:=by simpa using hc.length
  unfold HM at hr
  cases ag with
  | true =>
    simp only [if_true] at hr
    split at hr
    · cases hr
      refine ⟨.agg (cs'.extract off (off + n)),by simp [part,CO hag,AT hn],.va (.agg ?_)⟩
      have : (cs'.extract off (off + n)).toList = (cs'.toList.drop off).take n:=by simp
      rw [this]
      simpa using (hc.drop off).take n
    · cases hr
  | false =>
    simp only [Bool.false_eq_true,if_false] at hr
    obtain ⟨r',h1,h2⟩:=hc.get _ _ hr
    have h1' : cs'[off]? = some r':=by simpa using h1
    exact ⟨r',by simp [part,CO hag,h1'],.of2 h2⟩
theorem Zan {t : TypeId} {x : Operand} {i n : Nat} {f : Nat × TypeId} {ag : Bool} {u r : Value} (ho : o.op = .field t x i) (h : Sim wb ι H w) (hf : NL P t i = some f) (hag : aggT P f.2 = some ag) (hn : B0 P f.2 = some n)
    (hx : VRel ι u (a.eval x)) (hr : HM ag f.1 n u = some r) : OpOk P o a w (Ba wb ι H w H r):=by
  have hr0:=hr
  unfold HM at hr
  split at hr
  · rename_i cs
    obtain ⟨cs',ex,hc⟩:=hx.inv_agg
    unfold NL at hf
    split at hf
    · rename_i fs hu
      simp only [Option.map_eq_some_iff] at hf
      obtain ⟨fd,hfd,rfl⟩:=hf
      obtain ⟨r',h1,h2⟩:=VL (w:=w) hag hn hc hr0
      refine AQ h (v':=r') ?_ h2
      simp [execOp,ho,ex,Instr.field,Ae hu,hfd,asAgg,h1]
    · cases hf
  · cases hr
theorem X8 {t e : TypeId} {x y : Operand} {n : Nat} {u v r : Value} (ho : o.op = .indexAddr t x y) (h : Sim wb ι H w) (ht : P.underlying t = some (.slice e)) (hn : B0 P e = some n)
    (hx : VRel ι u (a.eval x)) (hy : VRel ι v (a.eval y)) (hr : Az n u v = some r) : OpOk P o a w (Ba wb ι H w H r):=by
  unfold Az at hr
  split at hr
  · rename_i b off len cap k i
    have ey:=hy.inv_int
    split at hr
    case isFalse=>cases hr
    rename_i hc
    cases hr
    rcases hx.inv_slice with ⟨lc,m',_,hb,_,_,_,ex⟩ | ⟨rfl,rfl,a',ex⟩
    · refine AQ h (v':=.pointer (some ⟨lc.blk,lc.off + (off + i.toNat * n),none⟩)) ?_ (.of0 (.ptr _ hb))
      simp [execOp,ho,ex,ey,Instr.indexAt,asIntOf,Ae ht,hc.1,hc.2,AT hn,EV,Nat.add_assoc]
    · omega
  · cases hr
theorem S0 {t e : TypeId} {x y : Operand} {len n : Nat} {u v r : Value} (ho : o.op = .indexAddr t x y) (h : Sim wb ι H w) (ht : P.underlying t = some (.array len e)) (hn : B0 P e = some n)
    (hx : VRel ι u (a.eval x)) (hy : VRel ι v (a.eval y)) (hr : GU len n u v = some r) : OpOk P o a w (Ba wb ι H w H r):=by
  unfold GU at hr
  split at hr
  · rename_i b off k i
    have ey:=hy.inv_int
    split at hr
    case isFalse=>cases hr
    rename_i hc
    cases hr
    obtain ⟨_,lc,hb,ex⟩:=hx.inv_ptr
    refine AQ h (v':=.pointer (some ⟨lc.blk,lc.off + (off + i.toNat * n),none⟩)) ?_ (.of0 (.ptr _ hb))
    simp [execOp,ho,ex,ey,Instr.indexAt,Instr.sureAddr,asIntOf,Ae ht,hc.1,hc.2,AT hn,EV,Nat.add_assoc]
  · cases hr
theorem UA {t : TypeId} {x y : Operand} {u v r : Value} (ho : o.op = .index t x y) (h : Sim wb ι H w) (ht : P.underlying t = some .string)
    (hx : VRel ι u (a.eval x)) (hy : VRel ι v (a.eval y)) (hr : NM u v = some r) : OpOk P o a w (Ba wb ι H w H r):=by
  unfold NM at hr
  split at hr
  · rename_i s k i
    have ex:=hx.inv_string
    have ey:=hy.inv_int
    split at hr
    case isFalse=>cases hr
    rename_i hc
    simp only [Option.map_eq_some_iff] at hr
    obtain ⟨c,hcc,rfl⟩:=hr
    have hs : s[i.toNat]? = some c:=by
      have hlt:=(List.getElem?_eq_some_iff.1 hcc).1
      have hlt' : i.toNat < s.size:=by simpa using hlt
      have : s.data[i.toNat]? = some c:=by simpa using hcc
      rw [getElem?_pos s i.toNat hlt']
      rw [show s[i.toNat] = s.data[i.toNat] from rfl]
      rw [← this,Array.getElem?_eq_getElem]
    refine AQ h (v':=.int .u8 c.toNat) ?_ (.of0 (.int _ _))
    simp [execOp,ho,ex,ey,Instr.index,asIntOf,Ae ht,hc,hs]
  · cases hr
theorem UB {t e : TypeId} {x y : Operand} {len n : Nat} {ag : Bool} {u v r : Value} (ho : o.op = .index t x y) (h : Sim wb ι H w) (ht : P.underlying t = some (.array len e)) (hag : aggT P e = some ag) (hn : B0 P e = some n)
    (hx : VRel ι u (a.eval x)) (hy : VRel ι v (a.eval y)) (hr : HN ag len n u v = some r) : OpOk P o a w (Ba wb ι H w H r):=by
  unfold HN at hr
  split at hr
  · rename_i k i
    have ey:=hy.inv_int
    split at hr
    case isFalse=>cases hr
    rename_i hc
    have hr0:=hr
    unfold HM at hr
    split at hr
    · rename_i cs
      obtain ⟨cs',ex,hcs⟩:=hx.inv_agg
      obtain ⟨r',h1,h2⟩:=VL (w:=w) hag hn hcs hr0
      refine AQ h (v':=r') ?_ h2
      simp [execOp,ho,ex,ey,Instr.index,asIntOf,Ae ht,hc.1,hc.2,AT hn,h1]
    · cases hr
  · cases hr
theorem WM {x : Operand} {i : Nat} {vs : Array Value} {r : Value} (ho : o.op = .extract x i) (h : Sim wb ι H w) (hx : VRel ι (.tuple vs) (a.eval x)) (hr : vs.toList[i]? = some r) (hnt : PN r = false) : OpOk P o a w (Ba wb ι H w H r):=by
  obtain ⟨vs',ex,hc⟩:=hx.inv_tuple (fun e=>by
    subst e
    cases i with
    | zero=>simp at hr; subst hr; cases hnt
    | succ i=>simp at hr)
  obtain ⟨r',h1,h2⟩:=hc.get _ _ hr
  have h1' : vs'[i]? = some r':=by simpa using h1
  exact AQ h (v':=r') (by simp [execOp,ho,ex,Instr.extract,h1']) (.va h2)
end
end Go.Proofs.YtmbhnbladmpnoaaGreat.Ab

/- The abstract machine against the model: append,copy,and the other builtins. -/
namespace Go.Proofs.YtmbhnbladmpnoaaGreat.Ab
open Go
section
variable {P : Program} {o : Oper} {a : Act} {w : World} {wb : Nat} {ι : Emb} {H : List Blk}
theorem WN {s : St} {b off n k : Nat} {vs : List Value} (h : readN s b off n = some vs) (hk : k ≤ n) : readN s b off k = some (vs.take k):=by
  unfold readN at *
  simp only [Option.bind_eq_some_iff] at *
  obtain ⟨cells,hc,h⟩:=h
  split at h
  · cases h
    refine ⟨cells,hc,?_⟩
    rw [if_pos (by omega)]
    simp [List.take_take,Nat.min_eq_left hk]
  · cases h
theorem HW {s : St} {b off n : Nat} {vs : List Value} (h : readN s b off n = some vs) : vs.length = n:=by
  unfold readN at h
  simp only [Option.bind_eq_some_iff] at h
  obtain ⟨cells,hc,h⟩:=h
  split at h
  · cases h; simp; omega
  · cases h
theorem UC {n m : Nat} {y y' : Value} {new : List Value} {s : St} (h : Sim wb ι s.heap w) (hy : VRel ι y y') (hm : lenV y = some m) (he : Fg n y s = some new) :
    (∀ w2,(Builtin.lenOf y').run P w2 = .ok m w2)∧new.length = m * n∧∀ k,k ≤ m→∃ new' : Array Value,All2 (L2 ι) (new.take (k * n)) new'.toList∧∀ w2 : World,w2.heap = w.heap→(Builtin.firstCells n k y').run P w2 = .ok new' w2:=by
  unfold Fg at he
  split at he
  · obtain ⟨_,rfl,ey⟩:=hy.inv_snil
    cases he
    simp only [lenV,Option.some.injEq] at hm
    subst hm
    rw [ey]
    refine ⟨fun _=>rfl,by simp,fun k hk=>⟨#[],by simp [All2],fun w2 _=>?_⟩⟩
    simp [Builtin.firstCells]
  · rename_i b off len cap
    simp only [lenV,Option.some.injEq] at hm
    subst hm
    refine ⟨?_,HW he,fun k hk=>?_⟩
    · intro w2
      rcases hy.inv_slice with ⟨_,_,_,_,_,_,_,ey⟩ | ⟨rfl,_,_,ey⟩ <;> (rw [ey]; rfl)
    · rcases hy.inv_slice with ⟨lc,m',_,hb,_,_,_,ey⟩ | ⟨rfl,rfl,⟨a1,a2,a3⟩,ey⟩
      · have hr:=WN he (Nat.mul_le_mul_right n hk)
        obtain ⟨vs',h1,h2,_⟩:=h.read (P:=P) hr hb
        refine ⟨vs'.toArray,by simpa using h2,fun w2 hw2=>?_⟩
        obtain ⟨vs2,g1,g2,_⟩:=(h.congr hw2).read (P:=P) hr hb
        have : vs2 = vs':=by
          have e1 : (loadCells ⟨lc.blk,lc.off + off,none⟩ (k * n)).run P w = .ok vs'.toArray w:=h1
          -- the same heap gives the same cells
          have hcell : ∀ ad,w2.cell? ad = w.cell? ad:=fun ad=>by simp [World.cell?,hw2]
          have l1:=run_loadCells_list (P:=P) (w:=w2) ⟨lc.blk,lc.off + off,none⟩ vs' (fun j v hj=>by
            rw [hcell]
            have hlen : vs'.length = k * n:=by
              have:=h2.length
              rw [HW hr] at this
              exact this.symm
            have hr2 : readN s b off (k * n) = some (new.take (k * n)):=hr
            unfold readN readRow at hr2
            cases e : s.heap[b]? with
            | none=>simp [e] at hr2
            | some B=>cases B with
              | map=>simp [e] at hr2
              | row n' cells st =>
                have hst : st ≠ .dead:=by intro hd; subst hd; simp [e] at hr2
                obtain ⟨cs,e',fz,hw,_,_,h3⟩:=h.row b n' cells st e hst lc hb
                have hr3 : (if off + k * n ≤ cells.length then some ((cells.drop off).take (k * n)) else none) = some (new.take (k * n)):=by cases st <;> simp_all
                split at hr3
                case isFalse=>cases hr3
                rename_i hle
                have hcs : ∀ i,i < cells.length→lc.off + i < cs.size:=fun i hi=>by
                  obtain ⟨v',hv',_⟩:=h3 i cells[i] (by simp [hi])
                  exact (Array.getElem?_eq_some_iff.1 hv').1
                have hl : k * n = 0 ∨ lc.off + off + k * n ≤ cs.size:=by
                  by_cases h0 : k * n = 0
                  · exact .inl h0
                  · have:=hcs (off + k * n - 1) (by omega); right; omega
                have hd:=Dy (P:=P) (w:=w) (off:=lc.off + off) (n:=k * n) hw hl
                rw [e1] at hd
                have hd2 : vs' = (cs.toList.drop (lc.off + off)).take (k * n):=by
                  injection hd with hd _
                  simpa using congrArg Array.toList hd
                rw [hd2] at hj
                have hjn : j < k * n:=by have:=(List.getElem?_eq_some_iff.1 hj).1; simp at this; omega
                rw [EV,cell?_of hw]
                rw [List.getElem?_take_of_lt hjn,List.getElem?_drop] at hj
                simpa using hj)
          have hlen : vs'.length = k * n:=by
            have:=h2.length
            rw [HW hr] at this
            exact this.symm
          rw [hlen,g1] at l1
          injection l1 with l1 _
          simpa using congrArg Array.toList l1
        rw [this] at g1
        rw [ey]
        simp [Builtin.firstCells,g1]
      · obtain rfl : k = 0:=by omega
        refine ⟨#[],by simp [All2],fun w2 _=>?_⟩
        rw [ey]
        simp [Builtin.firstCells,loadCells,loadCellsFrom]
  · rename_i t
    split at he
    · rename_i h1
      subst h1
      cases he
      simp only [lenV,Option.some.injEq] at hm
      subst hm
      have ey:=hy.inv_string
      rw [ey]
      refine ⟨fun _=>rfl,by simp [DL],fun k hk=>⟨(t.extract 0 k).data.map fun b=>.int .u8 b.toNat,?_,fun w2 _=>rfl⟩⟩
      have : (DL t).take (k * 1) = ((t.extract 0 k).data.map fun b=>Value.int .u8 b.toNat).toList:=by
        simp [DL,ByteArray.data_extract,List.map_take]
      rw [this]
      have hb:=QF (ι:=ι) (t.extract 0 k)
      have h2 : DL (t.extract 0 k) = ((t.extract 0 k).data.map fun b=>Value.int .u8 b.toNat).toList:=by simp [DL]
      rwa [h2] at hb
    · cases he
  · cases he
theorem DY {t u ty e : TypeId} {n m sLen sCap : Nat} {y' : Value} {base : Option Addr} {new' : Array Value} {du : TypeDesc} (ht : P.underlying t = some (.slice e)) (hu : P.underlying u = some du) (hdu : ∀ k,du ≠ .int k)
    (hn : B0 P e = some n) (hlen : (Builtin.lenOf y').run P w = .ok m w) (hnew : (Builtin.firstCells n m y').run P w = .ok new' w) (hroom : sLen + m ≤ sCap) {w' : World}
    (hst : (match base with | some ad=>(storeCells (ad.add (sLen * n)) new'.toList).run P w = .ok () w' | none=>w' = w)) :
    (Builtin.append_ #[t,u] ty #[.slice base sLen sCap,y']).run P w = .ok (.slice base (sLen + m) sCap) w':=by
  have hz : ∀ (f : Bool→Sem Value),((match du with | .int _=>true | _=>false) : Bool) = false:=fun _=>by cases du <;> first | rfl | exact absurd rfl (hdu _)
  have hd : (du matches .int _) = false:=by cases du <;> first | rfl | exact absurd rfl (hdu _)
  unfold Builtin.append_
  simp only [List.getElem?_toArray,List.getElem?_cons_zero,List.getElem?_cons_succ,Sem.run_bind,Ae ht,Ae hu,AT hn,Result.andThen_ok,Sem.run_pure]
  cases du <;> first
    | exact absurd rfl (hdu _)
    | (simp only [Sem.run_bind,hlen,Result.andThen_ok,hroom,if_true,Bool.false_eq_true,if_false,Bool.not_false,hnew]
       cases base with
       | none=>simp only at hst; subst hst; rfl
       | some ad=>simp only at hst; simp only [Sem.run_bind,hst,Result.andThen_ok,Sem.run_pure])
theorem I7 {t u ty e : TypeId} {n b m sLen sCap : Nat} {y' z : Value} {base : Option Addr} {new' old' : Array Value} {du : TypeDesc} (ht : P.underlying t = some (.slice e)) (hu : P.underlying u = some du) (hdu : ∀ k,du ≠ .int k)
    (hn : B0 P e = some n) (hb : HL P e = some b) (hz : Ec P e = some z) (hlen : (Builtin.lenOf y').run P w = .ok m w) (hnew : (Builtin.firstCells n m y').run P w.drew = .ok new' w.drew) (hold : (Builtin.firstCells n sLen (.slice base sLen sCap)).run P w.drew = .ok old' w.drew)
    (hroom : sCap < sLen + m) (hb1 : 0 < b) (hfit : NO (sLen + m) b) :
    ∃ cap,sLen + m ≤ cap∧(Builtin.append_ #[t,u] ty #[.slice base sLen sCap,y']).run P w =
      .ok (.slice (some ⟨w.heap.size,0,none⟩) (sLen + m) cap) (w.drew.alloc (.cells (old' ++ new' ++ Builtin.zeroCells z.cells (cap - (sLen + m))) e)):=by
  obtain ⟨i,hi,hiz,hzc⟩:=B9 hz
  have hib : i.bytes = b:=by simp [HL,hi] at hb; exact hb
  have h48 : Builtin.nextslicecap (sLen + m) sCap * b ≤ 281474976710656:=by
    rcases hfit with hfit | hfit
    · exact growslice_fits (bytes:=b) hroom hfit
    · exact growslice_fits_wide (bytes:=b) hroom hfit
  refine ⟨(Question.appendCap (sLen + m) sCap e).cut (w.tape w.drawn (.appendCap (sLen + m) sCap e)),by simp [Question.cut],?_⟩
  have hnot : ¬ (sLen + m ≤ sCap):=by omega
  have h48' : ¬ (281474976710656 < Builtin.nextslicecap (sLen + m) sCap * b):=by omega
  have hnew':=hnew
  have hold':=hold
  unfold Builtin.append_
  simp only [List.getElem?_toArray,List.getElem?_cons_zero,List.getElem?_cons_succ,Sem.run_bind,Ae ht,Ae hu,AT hn,Result.andThen_ok,Sem.run_pure]
  have hsz : ∀ w2 : World,(zeroValue e).run P w2 = .ok z w2:=fun w2=>Bg hz
  have hti : ∀ w2 : World,(typeInfo e).run P w2 = .ok i w2:=fun w2=>GX hi
  have hbig : ¬ (9223372036854775807 < ((sLen + m : Nat) : Int)):=by
    rcases hfit with hfit | hfit
    · have : (sLen + m) * 1 ≤ (sLen + m) * b:=Nat.mul_le_mul_left _ hb1
      omega
    · have : (sLen + m + (sLen + m) / 4 + 192) * 1 ≤ (sLen + m + (sLen + m) / 4 + 192) * b:=Nat.mul_le_mul_left _ hb1
      omega
  cases du <;> first
    | exact absurd rfl (hdu _)
    | (simp only [Sem.run_bind,hlen,Result.andThen_ok,hnot,if_false,Bool.false_eq_true,Bool.not_false]
       simp [hti,hib,h48',hbig,Question.forced,hold,hnew,hsz,newRow,Question.cut]
       intro _ h00
       omega)
theorem X9 {c : Call} {t u e : TypeId} {x y : Operand} {n b : Nat} {z vx vy r : Value} {du : TypeDesc} {s s' : St} (ho : o.op = .call c) (hc : c.callee = .builtin .append) (hargs : c.args = #[x,y]) (hts : c.argTypes = #[t,u])
    (h : Sim wb ι s.heap w) (ht : P.underlying t = some (.slice e)) (hu : P.underlying u = some du) (hdu : ∀ k,du ≠ .int k) (hn : B0 P e = some n) (hb : HL P e = some b) (hz : Ec P e = some z) (hzl : (Ao z).length = n)
    (hx : VRel ι vx (a.eval x)) (hy : VRel ι vy (a.eval y)) (hr : AD n b vx vy s = some (r,s')) : OpOk P o a w (Ba wb ι s.heap w s'.heap r):=by
  have hexec : ∀ {v : Value} {w' : World},(Builtin.append_ #[t,u] o.type #[a.eval x,a.eval y]).run P w = .ok v w'→(execOp a.eval o).run P w = .ok (.value v) w':=by
    intro v w' hrun
    simp [execOp,ho,resolve,hc,hargs,hts,invoke,builtin,hrun]
  have hzs : z.cells.size = n:=by rw [← hzl,← DN]; simp
  unfold AD at hr
  split at hr
  case isFalse=>cases hr
  rename_i hb1
  simp only [Option.bind_eq_some_iff] at hr
  obtain ⟨m,hm,new,hnew,hr⟩:=hr
  obtain ⟨hlen,hnl,hsrc⟩:=UC h hy hm hnew
  obtain ⟨new',hn1,hn2⟩:=hsrc m (Nat.le_refl _)
  rw [List.take_of_length_le (by omega)] at hn1
  have hn1l:=hn1.length
  split at hr
  · -- nothing ahead
    have ex:=(hx.inv_snil).2.2
    split at hr
    case isFalse=>cases hr
    rename_i hfit
    split at hr
    · rename_i hm0
      cases hr
      subst hm0
      refine .inl ⟨.slice none 0 0,w,hexec ?_,BT h (.of0 .snil)⟩
      rw [ex]
      exact DY ht hu hdu hn (hlen w) (hn2 w rfl) (by omega) rfl
    · rename_i hm0
      cases hr
      obtain ⟨cap,hcap,hrun⟩:=I7 (P:=P) (ty:=o.type) (w:=w) (base:=none) (sLen:=0) (sCap:=0) (old':=#[]) ht hu hdu hn hb hz (hlen w) (hn2 w.drew rfl) rfl (by omega) hb1 (by rw [Nat.zero_add]; exact hfit)
      refine .inl ⟨_,_,hexec (by rw [ex]; exact hrun),?_⟩
      simp only [Nat.zero_add] at hrun hcap ⊢
      have hp:=(h.congr (v:=w.drew) rfl).push (n:=n) (cells:=new) (cs:=#[] ++ new' ++ Builtin.zeroCells z.cells (cap - m)) (e:=e) (fz:=(0,0)) (.inl rfl) (fun i v hi=>by
        obtain ⟨v',hv',hr⟩:=hn1.get i v hi
        have hlt:=(List.getElem?_eq_some_iff.1 hv').1
        simp at hlt
        refine ⟨v',?_,hr⟩
        rw [Array.getElem?_append_left (by simpa using hlt)]
        simpa using hv')
      refine ⟨_,hp.1,(Step.drew h.dom).trans hp.2,Fm _ _ _ _ _ _ rfl (Nat.le_refl _) hcap ?_⟩
      simp only [Array.size_append,Builtin.zeroCells,Array.size_map,Array.size_range,hzs,List.size_toArray,List.length_nil]
      rw [Nat.sub_mul]
      have h7 : m * n ≤ cap * n:=Nat.mul_le_mul_right n hcap
      have h8 : new'.size = m * n:=by simpa [hnl] using hn1l.symm
      omega
  · rename_i b0 off len cap
    have hshape : ∃ ad' cap',a.eval x = .slice (some ad') len cap'∧cap ≤ cap':=by
      rcases hx.inv_slice with ⟨lc,m',_,_,_,hc,_,ex⟩ | ⟨rfl,rfl,a',ex⟩
      · exact ⟨_,_,ex,hc⟩
      · exact ⟨_,_,ex,Nat.le_refl _⟩
    dsimp only at hr
    split at hr
    case isFalse=>cases hr
    rename_i hfit
    split at hr
    · rename_i hroom
      split at hr
      · -- nothing is appended
        rename_i hm0
        cases hr
        subst hm0
        obtain ⟨ad',cap',ex,hcc⟩:=hshape
        have hn0 : new'.toList = []:=by
          have : new'.toList.length = 0:=by rw [← hn1l]; simp at hnl; simp [hnl]
          exact List.length_eq_zero_iff.1 this
        refine .inl ⟨.slice (some ad') len cap',w,hexec ?_,BT h (by rw [← ex]; exact hx)⟩
        rw [ex]
        exact DY (base:=some ad') ht hu hdu hn (hlen w) (hn2 w rfl) (show len + 0 ≤ cap' by omega) (by rw [hn0]; rfl)
      · rename_i hm0
        simp only [Option.map_eq_some_iff] at hr
        obtain ⟨s2,hs2,hr⟩:=hr
        cases hr
        unfold Fe at hs2
        split at hs2
        case h_2=>cases hs2
        rename_i n0 cells hcells
        split at hs2
        case isFalse=>cases hs2
        rename_i hle
        cases hs2
        rcases hx.inv_slice with ⟨lc,m',_,hb0,hlc,hc,hz0,ex⟩ | ⟨rfl,rfl,a',ex⟩
        · obtain ⟨w',g1,g2,g3,_⟩:=h.write (P:=P) hcells hb0 hle hn1
          refine .inl ⟨.slice (some ⟨lc.blk,lc.off + off,none⟩) (len + m) m',w',hexec ?_,ι,g2,g3,.of0 (.slice off hb0 hroom hc hz0)⟩
          rw [ex]
          refine DY (base:=some ⟨lc.blk,lc.off + off,none⟩) ht hu hdu hn (hlen w) (hn2 w rfl) (by omega) ?_
          simp only [EV]
          rw [Nat.add_assoc]
          exact g1
        · omega
    · rename_i hroom
      split at hr
      case h_2=>cases hr
      rename_i n0 cells hcells
      split at hr
      case isFalse=>cases hr
      rename_i hcond
      obtain ⟨rfl,rfl,hlenc⟩:=hcond
      cases hr
      have hrd : readN s b0 0 (len * n0) = some cells:=by
        unfold readN readRow
        rw [hcells]
        simp [hlenc]
      obtain ⟨hxl,_,hxs⟩:=UC h hx (m:=len) (n:=n0) (new:=cells) rfl (by unfold Fg; split <;> simp_all)
      obtain ⟨old',ho1,ho2⟩:=hxs len (Nat.le_refl _)
      rw [List.take_of_length_le (by omega)] at ho1
      have ho1l:=ho1.length
      -- a new row
      have hmake : ∀ {ad' : Addr} {cap' : Nat},a.eval x = .slice (some ad') len cap'→cap' < len + m →
          OpOk P o a w (Ba wb ι s.heap w ((s.putB b0 (.row n0 cells .dead)).push (.row n0 (cells ++ new) .act)).heap (.slice (some ⟨s.heap.length,0,none⟩) (len + m) (len + m))):=by
        intro ad' cap' ex hcap'
        obtain ⟨cap2,hcap2,hrun⟩:=I7 (P:=P) (ty:=o.type) (w:=w) (base:=some ad') (sLen:=len) (sCap:=cap') (old':=old') ht hu hdu hn hb hz (hlen w) (hn2 w.drew rfl) (by rw [← ex]; exact ho2 w.drew rfl) hcap' hb1 hfit
        refine .inl ⟨_,_,hexec (by rw [ex]; exact hrun),?_⟩
        have hk:=h.kill hcells
        have hp:=(hk.1.congr (v:=w.drew) rfl).push (n:=n0) (cells:=cells ++ new) (cs:=old' ++ new' ++ Builtin.zeroCells z.cells (cap2 - (len + m))) (e:=e) (fz:=(0,0)) (.inl rfl) (fun i v hi=>by
          obtain ⟨v',hv',hr⟩:=(ho1.append hn1).get i v hi
          have hlt:=(List.getElem?_eq_some_iff.1 hv').1
          simp at hlt
          refine ⟨v',?_,hr⟩
          rw [Array.getElem?_append_left (by simpa using hlt)]
          have : (old' ++ new')[i]? = (old'.toList ++ new'.toList)[i]?:=by simp [← Array.getElem?_toList]
          rw [this]; exact hv')
        have hlen2 : (s.heap.set b0 (Blk.row n0 cells .dead)).length = s.heap.length:=by simp
        rw [hlen2] at hp
        refine ⟨_,hp.1,(hk.2.trans (Step.drew hk.1.dom)).trans hp.2,Fm _ _ _ _ _ _ rfl (Nat.le_refl _) hcap2 ?_⟩
        simp only [Array.size_append,Builtin.zeroCells,Array.size_map,Array.size_range,hzs]
        rw [Nat.sub_mul]
        have h7 : (len + m) * n0 ≤ cap2 * n0:=Nat.mul_le_mul_right n0 hcap2
        have h8 : new'.size = m * n0:=by simpa [hnl] using hn1l.symm
        have h9 : old'.size = len * n0:=by simpa [← hlenc] using ho1l.symm
        rw [Nat.add_mul] at h7 ⊢
        omega
      rcases hx.inv_slice with ⟨lc,m',_,hb0,hlc,hc,hz0,ex⟩ | ⟨rfl,rfl,a',ex⟩
      · by_cases hin : len + m ≤ m'
        · -- in its QA
          have hz1:=hz0 rfl
          have hcl:=(h.row b0 n0 cells .act hcells (by simp) lc hb0)
          obtain ⟨cs,_,_,_,_,hact,_⟩:=hcl
          obtain ⟨_,hln,hlz,_⟩:=hact rfl
          have hfit2 : lc.off + cells.length + new.length ≤ lc.z:=by
            rw [← hlenc,hnl]
            have : (len + m) * n0 ≤ m' * n0:=Nat.mul_le_mul_right n0 hin
            rw [hln] at hz1
            rw [Nat.add_mul] at this
            omega
          obtain ⟨w',g1,g2,g3⟩:=h.grow (P:=P) hcells hb0 hfit2 hn1
          refine .inl ⟨.slice (some ⟨lc.blk,lc.off + 0,none⟩) (len + m) m',w',hexec ?_,_,g2,g3,.of0 (.slice 0 (Emb.add_same _ _ _) (Nat.le_refl _) hin (fun _=>hz1))⟩
          rw [ex]
          refine DY (base:=some ⟨lc.blk,lc.off + 0,none⟩) ht hu hdu hn (hlen w) (hn2 w rfl) hin ?_
          simp only [EV]
          rw [Nat.add_zero,hlenc]
          exact g1
        · exact hmake ex (by omega)
      · exact hmake ex (by omega)
  · cases hr
end
end Go.Proofs.YtmbhnbladmpnoaaGreat.Ab

/- The abstract machine against the model: the other builtins,calls; one operation whole. -/
namespace Go.Proofs.YtmbhnbladmpnoaaGreat.Ab
open Go
section
variable {P : Program} {o : Oper} {a : Act} {w : World} {wb : Nat} {ι : Emb} {H : List Blk}
theorem ZcH {c : Call} {t u e : TypeId} {x y : Operand} {n : Nat} {vx vy r : Value} {s s' : St} (ho : o.op = .call c) (hc : c.callee = .builtin .copy) (hargs : c.args = #[x,y]) (hts : c.argTypes = #[t,u])
    (h : Sim wb ι s.heap w) (ht : P.underlying t = some (.slice e)) (hn : B0 P e = some n)
    (hx : VRel ι vx (a.eval x)) (hy : VRel ι vy (a.eval y)) (hr : Zcz n vx vy s = some (r,s')) : OpOk P o a w (Ba wb ι s.heap w s'.heap r):=by
  have hexec : ∀ {v : Value} {w' : World},(Builtin.copy_ #[t,u] o.type #[a.eval x,a.eval y]).run P w = .ok v w'→(execOp a.eval o).run P w = .ok (.value v) w':=by
    intro v w' hrun
    simp [execOp,ho,resolve,hc,hargs,hts,invoke,builtin,hrun]
  unfold Zcz at hr
  simp only [Option.bind_eq_some_iff] at hr
  obtain ⟨m,hm,new,hnew,hr⟩:=hr
  obtain ⟨hlen,hnl,hsrc⟩:=UC (P:=P) h hy hm hnew
  split at hr
  · rename_i c0
    obtain ⟨_,hc0,ex⟩:=hx.inv_snil
    cases hr
    obtain ⟨new',hn1,hn2⟩:=hsrc 0 (Nat.zero_le _)
    refine .inl ⟨.int .i64 0,w,hexec ?_,BT h (.of0 (.int _ _))⟩
    rw [ex]
    simp [Builtin.copy_,Ae ht,AT hn,hlen,hn2 w rfl,goInt]
  · rename_i b0 off len cap
    obtain ⟨new',hn1,hn2⟩:=hsrc (min m len) (Nat.min_le_left _ _)
    split at hr
    · rename_i h0
      cases hr
      have hne : new'.toList = []:=by
        have : new'.toList.length = 0:=by rw [← hn1.length,h0]; simp
        exact List.length_eq_zero_iff.1 this
      refine .inl ⟨.int .i64 0,w,hexec ?_,BT h (.of0 (.int _ _))⟩
      have hn2':=hn2 w rfl
      rw [h0] at hn2'
      rcases hx.inv_slice with ⟨lc,m',_,_,_,_,_,ex⟩ | ⟨rfl,rfl,a',ex⟩
      · rw [ex]
        have h0' : Nat.min m len = 0:=h0
        simp [Builtin.copy_,Ae ht,AT hn,hlen,h0',hn2',hne,storeCells,goInt]
      · rw [ex]
        have h0' : Nat.min m 0 = 0:=h0
        simp [Builtin.copy_,Ae ht,AT hn,hlen,h0',hn2',hne,storeCells,goInt]
    · rename_i h0
      simp only [Option.map_eq_some_iff] at hr
      obtain ⟨s2,hs2,hr⟩:=hr
      cases hr
      unfold Fe at hs2
      split at hs2
      case h_2=>cases hs2
      rename_i n0 cells hcells
      split at hs2
      case isFalse=>cases hs2
      rename_i hle
      cases hs2
      rcases hx.inv_slice with ⟨lc,m',_,hb0,_,_,_,ex⟩ | ⟨rfl,rfl,a',ex⟩
      · obtain ⟨w',g1,g2,g3,_⟩:=h.write (P:=P) hcells hb0 hle hn1
        refine .inl ⟨.int .i64 (min m len : Nat),w',hexec ?_,ι,g2,g3,.of0 (.int _ _)⟩
        rw [ex]
        have e1 : Nat.min m len = min m len:=rfl
        simp [Builtin.copy_,Ae ht,AT hn,hlen,e1,hn2 w rfl,g1,goInt]
      · simp at h0
  · cases hr
theorem WO (z : Array Value) (k : Nat) : (Builtin.zeroCells z k).toList = A5 z.toList k:=by
  have h1 : (Builtin.zeroCells z k).toList.length = k * z.size:=by
    rw [Array.length_toList]
    simp [Builtin.zeroCells]
  have h2 : (A5 z.toList k).length = k * z.size:=by rw [Fo,Array.length_toList]
  apply List.ext_getElem?
  intro i
  by_cases hi : i < k * z.size
  · rw [L3 z.toList k i (by simpa using hi)]
    simp only [Builtin.zeroCells,Array.toList_map,List.getElem?_map,Array.toList_range]
    rw [List.getElem?_range hi]
    have : i % z.size < z.size:=Nat.mod_lt _ (by
      rcases Nat.eq_zero_or_pos z.size with h | h
      · rw [h] at hi; simp at hi
      · exact h)
    simp [this]
  · rw [List.getElem?_eq_none (by omega),List.getElem?_eq_none (by omega)]
theorem WP {c : Call} {t u e : TypeId} {x y : Operand} {n b : Nat} {kn : IntKind} {z vx vy r : Value} {s s' : St} (ho : o.op = .call c) (hc : c.callee = .builtin .append) (hargs : c.args = #[x,y]) (hts : c.argTypes = #[t,u])
    (h : Sim wb ι s.heap w) (ht : P.underlying t = some (.slice e)) (hu : P.underlying u = some (.int kn)) (hn : B0 P e = some n) (hb : HL P e = some b) (hz : Ec P e = some z)
    (hx : VRel ι vx (a.eval x)) (hy : VRel ι vy (a.eval y)) (hr : Iv n b (Ao z) vx vy s = some (r,s')) : OpOk P o a w (Ba wb ι s.heap w s'.heap r):=by
  have hexec : ∀ {v : Value} {w' : World},(Builtin.append_ #[t,u] o.type #[a.eval x,a.eval y]).run P w = .ok v w'→(execOp a.eval o).run P w = .ok (.value v) w':=by
    intro v w' hrun
    simp [execOp,ho,resolve,hc,hargs,hts,invoke,builtin,hrun]
  obtain ⟨i,hi,hiz,hzc⟩:=B9 hz
  have hin : i.size = n:=by simp [B0,hi] at hn; exact hn
  have hib : i.bytes = b:=by simp [HL,hi] at hb; exact hb
  unfold Iv at hr
  split at hr
  · rename_i k m
    split at hr
    case isFalse=>cases hr
    rename_i hcond
    obtain ⟨h0,h1,h2,h3,h4,h5⟩:=hcond
    cases hr
    have ex:=(hx.inv_snil).2.2
    have ey:=hy.inv_int
    obtain ⟨q,rfl⟩:=Int.eq_ofNat_of_zero_le (show 0 ≤ m by omega)
    simp only [Int.toNat_natCast] at h1 ⊢
    have hq : 0 < q:=by omega
    have hq2 : q ≤ 140737488355328:=Nat.le_trans (Nat.le_mul_of_pos_right q h2) h1
    have hrun:=Lib.run_append_grow_zeros (P:=P) w t u o.type e i z k kn ht hu hi hiz none 0 0 [] rfl q hq (by omega) (by omega) (by omega) (by rw [hib]; omega) (by rw [hib,Nat.zero_add]; exact growslice_fits (bytes:=b) hq h1)
    simp only [Nat.zero_add] at hrun
    refine .inl ⟨_,_,hexec (by rw [ex,ey]; exact hrun),?_⟩
    have hzs : z.cells.size = n:=by rw [← h4,← DN]; simp
    have hcap : q ≤ grownCap w q 0 e:=by simp [grownCap,Question.cut]
    have hp:=(h.congr (v:=w.drew) rfl).push (n:=n) (cells:=A5 (Ao z) q) (cs:=([] : List Value).toArray ++ Builtin.zeroCells z.cells q ++ Builtin.zeroCells z.cells (grownCap w q 0 e - q)) (e:=e) (fz:=(0,0)) (.inl rfl) (fun i v hi=>by
      have hm : All2 (L2 ι) (A5 (Ao z) q) (A5 z.cells.toList q):=Es (CC hzc) _
      obtain ⟨v',hv',hr⟩:=hm.get i v hi
      have hlt:=(List.getElem?_eq_some_iff.1 hv').1
      refine ⟨v',?_,hr⟩
      rw [← WO] at hlt hv'
      rw [Array.getElem?_append_left (by simpa using hlt)]
      simpa using hv')
    refine ⟨_,hp.1,(Step.drew h.dom).trans hp.2,Fm _ _ _ _ _ _ rfl (Nat.le_refl _) hcap ?_⟩
    simp only [Array.size_append,Builtin.zeroCells,Array.size_map,Array.size_range,hzs,List.size_toArray,List.length_nil]
    rw [Nat.sub_mul]
    have h7 : q * n ≤ grownCap w q 0 e * n:=Nat.mul_le_mul_right n hcap
    omega
  · cases hr
theorem Zen {c : Call} {ts : Array TypeId} {t e : TypeId} {x : Operand} {vx r : Value} {s : St} (ho : o.op = .call c) (hc : c.callee = .builtin .cap) (hargs : c.args = #[x]) (hts : c.argTypes = ts) (hts0 : ts[0]? = some t)
    (h : Sim wb ι s.heap w) (ht : P.underlying t = some (.slice e)) (hx : VRel ι vx (a.eval x)) (hr : acap vx = some r) : OpOk P o a w (Ba wb ι s.heap w s.heap r):=by
  have hexec : ∀ {v : Value} {w' : World},(Builtin.cap_ ts o.type #[a.eval x]).run P w = .ok v w'→(execOp a.eval o).run P w = .ok (.value v) w':=by
    intro v w' hrun
    simp [execOp,ho,resolve,hc,hargs,hts,invoke,builtin,hrun]
  unfold acap at hr
  split at hr
  · cases hr
    have ex:=(hx.inv_snil).2.2
    refine .inl ⟨.int .i64 0,w,hexec ?_,BT h (.of0 (.int _ _))⟩
    rw [ex]
    simp [Builtin.cap_,hts0,Ae ht,goInt]
  · cases hr
theorem Zeo {c : Call} {ts : Array TypeId} {t : TypeId} {d : TypeDesc} {x : Operand} {vx r : Value} {s : St} (ho : o.op = .call c) (hc : c.callee = .builtin .len) (hargs : c.args = #[x]) (hts : c.argTypes = ts) (hts0 : ts[0]? = some t)
    (h : Sim wb ι s.heap w) (ht : P.underlying t = some d) (hd : d = .string ∨ (∃ e,d = .slice e) ∨ ∃ k e,d = .map k e) (hty : Re d vx = false→False)
    (hx : VRel ι vx (a.eval x)) (hr : alen vx s = some r) : OpOk P o a w (Ba wb ι s.heap w s.heap r):=by
  have hexec : ∀ {v : Value} {w' : World},(Builtin.len_ ts o.type #[a.eval x]).run P w = .ok v w'→(execOp a.eval o).run P w = .ok (.value v) w':=by
    intro v w' hrun
    simp [execOp,ho,resolve,hc,hargs,hts,invoke,builtin,hrun]
  have hd3 : ∀ (w2 : World),(underlying t).run P w2 = .ok d w2:=fun _=>Ae ht
  have h0 : ts[0]? = some t:=hts0
  unfold alen at hr
  split at hr
  · have ex:=hx.inv_string
    cases hr
    rename_i st
    rcases hd with rfl | ⟨e,rfl⟩ | ⟨k,e,rfl⟩
    · refine .inl ⟨.int .i64 st.size,w,hexec ?_,BT h (.of0 (.int _ _))⟩
      rw [ex]
      simp [Builtin.len_,h0,hd3,goInt]
    all_goals cases hty rfl
  · rename_i ad len cap
    cases hr
    rcases hd with rfl | ⟨e,rfl⟩ | ⟨k,e,rfl⟩
    · cases hty rfl
    · refine .inl ⟨.int .i64 len,w,hexec ?_,BT h (.of0 (.int _ _))⟩
      cases ad with
      | none=>obtain ⟨rfl,rfl,ex⟩:=hx.inv_snil; rw [ex]; simp [Builtin.len_,h0,hd3,goInt]
      | some ad=>rcases hx.inv_slice with ⟨_,_,_,_,_,_,_,ex⟩ | ⟨rfl,rfl,_,ex⟩ <;> (rw [ex]; simp [Builtin.len_,h0,hd3,goInt])
    · cases hty rfl
  · cases hr
    rcases hd with rfl | ⟨e,rfl⟩ | ⟨k,e,rfl⟩
    · cases hty rfl
    · cases hty rfl
    · have ex:=hx.inv_mnil
      refine .inl ⟨.int .i64 0,w,hexec ?_,BT h (.of0 (.int _ _))⟩
      rw [ex]
      simp [Builtin.len_,h0,hd3,goInt]
  · rename_i r0
    split at hr
    · rename_i es clock hes
      split at hr
      · cases hr
      rename_i hni
      cases hr
      rcases hd with rfl | ⟨e,rfl⟩ | ⟨k,e,rfl⟩
      · cases hty rfl
      · cases hty rfl
      · obtain ⟨l,hl,ex⟩:=hx.inv_map
        obtain ⟨_,_,o',hw,hm⟩:=h.map _ _ _ hes l hl
        obtain ⟨es',rfl,hrel⟩:=hm.map hni
        have hsz:=hrel.length
        refine .inl ⟨.int .i64 es.length,w,hexec ?_,BT h (.of0 (.int _ _))⟩
        rw [ex]
        have hg : (getObj l.blk).run P w = .ok (.map es' clock) w:=by
          unfold getObj
          simp only [Sem.run,hw]
        simp at hsz
        simp [Builtin.len_,h0,hd3,goInt,hg,hsz]
    · cases hr
  · cases hr
theorem S1 {c : Call} {ts : Array TypeId} {t u e : TypeId} {n : Nat} {x : Operand} (ho : o.op = .call c) (hc : c.callee = .builtin .len) (hargs : c.args = #[x]) (hts : c.argTypes = ts) (hts0 : ts[0]? = some t)
    (h : Sim wb ι H w) (ht : P.underlying t = some (.array n e) ∨ P.underlying t = some (.pointer u)∧P.underlying u = some (.array n e)) : OpOk P o a w (Ba wb ι H w H (.int .i64 n)):=by
  have hexec : ∀ {v : Value} {w' : World},(Builtin.len_ ts o.type #[a.eval x]).run P w = .ok v w'→(execOp a.eval o).run P w = .ok (.value v) w':=by
    intro v w' hrun
    simp [execOp,ho,resolve,hc,hargs,hts,invoke,builtin,hrun]
  refine .inl ⟨.int .i64 n,w,hexec ?_,BT h (.of0 (.int _ _))⟩
  rcases ht with ht | ⟨ht,hu⟩
  · have hd3 : ∀ (w2 : World),(underlying t).run P w2 = .ok _ w2:=fun _=>Ae ht
    simp [Builtin.len_,hts0,hd3,goInt]
  · have hd3 : ∀ (w2 : World),(underlying t).run P w2 = .ok _ w2:=fun _=>Ae ht
    have hd4 : ∀ (w2 : World),(underlying u).run P w2 = .ok _ w2:=fun _=>Ae hu
    simp [Builtin.len_,hts0,hd3,hd4,goInt]
theorem Rp {u v r : Value} (h : PL u v = some r) : (Builtin.min2 u v).run P w = .ok r w∧AX r = true:=by
  unfold PL at h
  split at h
  · split at h
    · rename_i hk; subst hk; cases h; exact ⟨rfl,rfl⟩
    · cases h
  · cases h; refine ⟨?_,rfl⟩; simp [Builtin.min2,Op.stringOp,asBool]
  · cases h
theorem Rq {u v r : Value} (h : PM u v = some r) : (Builtin.max2 u v).run P w = .ok r w∧AX r = true:=by
  unfold PM at h
  split at h
  · split at h
    · rename_i hk; subst hk; cases h; exact ⟨rfl,rfl⟩
    · cases h
  · cases h; refine ⟨?_,rfl⟩; simp [Builtin.max2,Op.stringOp,asBool]
  · cases h
theorem Jw {u v r : Value} (h : PL u v = some r) {u' v' : Value} (hu : VRel ι u u') (hv : VRel ι v v') : u' = u∧v' = v:=by
  unfold PL at h
  split at h
  · exact ⟨hu.inv_int,hv.inv_int⟩
  · exact ⟨hu.inv_string,hv.inv_string⟩
  · cases h
theorem Jx {u v r : Value} (h : PM u v = some r) {u' v' : Value} (hu : VRel ι u u') (hv : VRel ι v v') : u' = u∧v' = v:=by
  unfold PM at h
  split at h
  · exact ⟨hu.inv_int,hv.inv_int⟩
  · exact ⟨hu.inv_string,hv.inv_string⟩
  · cases h
theorem Zep {c : Call} {x y : Operand} {u v r : Value} (ho : o.op = .call c) (hc : c.callee = .builtin .min) (hargs : c.args = #[x,y]) (h : Sim wb ι H w) (hx : VRel ι u (a.eval x)) (hy : VRel ι v (a.eval y))
    (hr : PL u v = some r) : OpOk P o a w (Ba wb ι H w H r):=by
  obtain ⟨ex,ey⟩:=Jw hr hx hy
  obtain ⟨h1,h2⟩:=Rp (P:=P) (w:=w) hr
  exact AQ h (by simp [execOp,ho,resolve,hc,hargs,invoke,builtin,Builtin.min_,ex,ey,h1]) (.of0 (CN h2))
theorem Zeq {c : Call} {x y : Operand} {u v r : Value} (ho : o.op = .call c) (hc : c.callee = .builtin .max) (hargs : c.args = #[x,y]) (h : Sim wb ι H w) (hx : VRel ι u (a.eval x)) (hy : VRel ι v (a.eval y))
    (hr : PM u v = some r) : OpOk P o a w (Ba wb ι H w H r):=by
  obtain ⟨ex,ey⟩:=Jx hr hx hy
  obtain ⟨h1,h2⟩:=Rq (P:=P) (w:=w) hr
  exact AQ h (by simp [execOp,ho,resolve,hc,hargs,invoke,builtin,Builtin.max_,ex,ey,h1]) (.of0 (CN h2))
theorem ZcI {c : Call} {x y z : Operand} {u v q m r : Value} (ho : o.op = .call c) (hc : c.callee = .builtin .min) (hargs : c.args = #[x,y,z]) (h : Sim wb ι H w) (hx : VRel ι u (a.eval x)) (hy : VRel ι v (a.eval y)) (hz : VRel ι q (a.eval z))
    (hm : PL u v = some m) (hr : PL m q = some r) : OpOk P o a w (Ba wb ι H w H r):=by
  obtain ⟨ex,ey⟩:=Jw hm hx hy
  obtain ⟨h1,h2⟩:=Rp (P:=P) (w:=w) hm
  obtain ⟨_,ez⟩:=Jw hr (.of0 (CN h2)) hz
  obtain ⟨h3,h4⟩:=Rp (P:=P) (w:=w) hr
  exact AQ h (by simp [execOp,ho,resolve,hc,hargs,invoke,builtin,Builtin.min_,ex,ey,ez,h1,h3]) (.of0 (CN h4))
theorem ZcJ {c : Call} {x y z : Operand} {u v q m r : Value} (ho : o.op = .call c) (hc : c.callee = .builtin .max) (hargs : c.args = #[x,y,z]) (h : Sim wb ι H w) (hx : VRel ι u (a.eval x)) (hy : VRel ι v (a.eval y)) (hz : VRel ι q (a.eval z))
    (hm : PM u v = some m) (hr : PM m q = some r) : OpOk P o a w (Ba wb ι H w H r):=by
  obtain ⟨ex,ey⟩:=Jx hm hx hy
  obtain ⟨h1,h2⟩:=Rq (P:=P) (w:=w) hm
  obtain ⟨_,ez⟩:=Jx hr (.of0 (CN h2)) hz
  obtain ⟨h3,h4⟩:=Rq (P:=P) (w:=w) hr
  exact AQ h (by simp [execOp,ho,resolve,hc,hargs,invoke,builtin,Builtin.max_,ex,ey,ez,h1,h3]) (.of0 (CN h4))
theorem Zao {c : Call} {ts : Array TypeId} {t e : TypeId} {n : Nat} {z vx : Value} {x : Operand} {s s' : St} (ho : o.op = .call c) (hc : c.callee = .builtin .clear) (hargs : c.args = #[x]) (hts : c.argTypes = ts) (hts0 : ts[0]? = some t)
    (h : Sim wb ι s.heap w) (ht : P.underlying t = some (.slice e)) (hn : B0 P e = some n) (hz : Ec P e = some z) (hx : VRel ι vx (a.eval x)) (hr : XV n (Ao z) vx s = some s') :
    OpOk P o a w (Ba wb ι s.heap w s'.heap (.tuple #[])):=by
  have hexec : ∀ {w' : World},(Builtin.clear_ ts o.type #[a.eval x]).run P w = .ok (.tuple #[]) w'→(execOp a.eval o).run P w = .ok (.value (.tuple #[])) w':=by
    intro w' hrun
    simp [execOp,ho,resolve,hc,hargs,hts,invoke,builtin,hrun]
  obtain ⟨i,_,_,hzc⟩:=B9 hz
  unfold XV at hr
  split at hr
  · cases hr
    obtain ⟨_,_,ex⟩:=hx.inv_snil
    refine .inl ⟨.tuple #[],w,hexec ?_,BT h (Cb ι)⟩
    rw [ex]
    simp [Builtin.clear_,hts0,Ae ht]
  · cases hr
    refine .inl ⟨.tuple #[],w,hexec ?_,BT h (Cb ι)⟩
    rcases hx.inv_slice with ⟨_,_,_,_,_,_,_,ex⟩ | ⟨_,_,_,ex⟩ <;> (rw [ex]; simp [Builtin.clear_,hts0,Ae ht])
  · rename_i b0 off len cap hne
    split at hr
    case isFalse=>cases hr
    rename_i hcond
    unfold Fe at hr
    split at hr
    case h_2=>cases hr
    rename_i n0 cells hcells
    split at hr
    case isFalse=>cases hr
    rename_i hle
    cases hr
    rcases hx.inv_slice with ⟨lc,m',_,hb0,_,_,_,ex⟩ | ⟨rfl,rfl,a',ex⟩
    · have hzs : z.cells.size = n:=by rw [← hcond.1,← DN]; simp
      have hrep : All2 (L2 ι) (A5 (Ao z) len) (Builtin.zeroCells z.cells len).toList:=by
        have:=NX z.cells len
        have e2 : Builtin.zeroCells z.cells len = (Array.range (len * z.cells.size)).map (z.cells[· % z.cells.size]!):=rfl
        rw [e2,this]
        exact Es (CC hzc) len
      obtain ⟨w',g1,g2,g3,_⟩:=h.write (P:=P) hcells hb0 hle hrep
      refine .inl ⟨.tuple #[],w',hexec ?_,ι,g2,g3,Cb ι⟩
      rw [ex]
      have hl0 : len ≠ 0:=by intro h0; subst h0; exact hne rfl
      cases len with
      | zero=>exact absurd rfl hl0
      | succ len=>simp [Builtin.clear_,hts0,Ae ht,Bg hz,g1]
    · exact (hne rfl).elim
  · cases hr
theorem Kd {v : Value} (h : A0 v = true) : VA ι v v:=by
  cases v with
  | agg cs=>exact .agg (DE h)
  | _=>exact .l2 (.l1 (.l0 (CN h)))
theorem VRel.inv_ifaceV {t : TypeId} {u v' : Value} (h : VRel ι (.iface t u) v') : ∃ u',v' = .iface t u'∧VA ι u u':=by
  cases h with
  | va h=>cases h with
    | l2 h=>cases h with
      | iface _ h=>exact ⟨_,rfl,.l2 (.l1 h)⟩
      | ifaceAgg _ h=>exact ⟨_,rfl,.agg (h.mono fun _ _=>.l1)⟩
      | l1 h=>cases h with
        | l0 h=>cases h
theorem Rr {x : Operand} {xt asserted : TypeId} {d : TypeDesc} {u r z : Value} (ho : o.op = .typeAssert x xt asserted true) (h : Sim wb ι H w) (hd : P.underlying asserted = some d) (hd2 : ∀ ms,d ≠ .interface ms) (hz : Ec P asserted = some z)
    (hx : VRel ι u (a.eval x)) (hr : Jo z asserted u = some r) : OpOk P o a w (Ba wb ι H w H r):=by
  obtain ⟨_,_,_,hzc⟩:=B9 hz
  unfold Jo at hr
  split at hr
  · cases hr
    have ex:=hx.inv_nilIface
    refine AQ h (v':=.tuple #[z,.bool false]) ?_ (.tuple ⟨Kd hzc,.l2 (.l1 (.l0 (.bool _))),trivial⟩)
    simp only [execOp,ho,ex,Instr.typeAssert,Sem.run_bind,Ae hd,Result.andThen_ok]
    cases d <;> first | (exact absurd rfl (hd2 _)) | simp [Bg hz,Result.andThen,Sem.run_bind]
  · rename_i t v
    obtain ⟨v',ex,hv⟩:=hx.inv_ifaceV
    cases hr
    cases hb : Nat.beq t asserted with
    | true =>
      have e : t = asserted:=Nat.eq_of_beq_eq_true hb
      refine AQ h (v':=.tuple #[v',.bool true]) ?_ (.tuple ⟨hv,.l2 (.l1 (.l0 (.bool _))),trivial⟩)
      simp only [execOp,ho,ex,Instr.typeAssert,Sem.run_bind,Ae hd,Result.andThen_ok]
      cases d <;> first | (exact absurd rfl (hd2 _)) | simp [e,Result.andThen,Sem.run_bind]
    | false =>
      have e : t ≠ asserted:=fun e=>by rw [e,Nat.beq_refl] at hb; cases hb
      refine AQ h (v':=.tuple #[z,.bool false]) ?_ (.tuple ⟨Kd hzc,.l2 (.l1 (.l0 (.bool _))),trivial⟩)
      simp only [execOp,ho,ex,Instr.typeAssert,Sem.run_bind,Ae hd,Result.andThen_ok]
      cases d <;> first | (exact absurd rfl (hd2 _)) | simp [e,Bg hz,Result.andThen,Sem.run_bind]
  · cases hr
theorem ZcK {c : Call} {f : Operand} {g : FuncId} {first captured : Array Value} {vs : List Value} {call : Aa} {r : Value} {s s' : St} (ho : o.op = .call c) (hc : c.callee = .value f)
    (hf : VRel ι (.func (.func g) first captured) (a.eval f)) (hxs : All2 (VRel ι) vs (c.args.toList.map a.eval)) (hok : Aq P g = true)
    (hcall : ∀ args' : Array Value,All2 (VRel ι) (first.toList ++ vs ++ captured.toList) args'.toList→Calls P g args' w fun e w'=>∃ v',e = .returned v'∧Ba wb ι s.heap w s'.heap r v' w') :
    OpOk P o a w (Ba wb ι s.heap w s'.heap r):=by
  obtain ⟨first',captured',ef,h1,h2⟩:=hf.inv_func
  have hfn : ∃ fn,P.funcs[g]? = some fn∧fn.name ≠ "runtime.NumGoroutine"∧fn.body.isSome = true:=by
    unfold Aq at hok
    split at hok
    · rename_i fn hfn
      simp at hok
      exact ⟨fn,hfn,hok.1,hok.2⟩
    · cases hok
  obtain ⟨fn,hfn,hname,hbody⟩:=hfn
  refine .inr (.inr ⟨g,first' ++ c.args.map a.eval ++ captured',?_,hcall _ ?_⟩)
  · have hnone : fn.body ≠ none:=by intro e; rw [e] at hbody; cases hbody
    simp [execOp,ho,resolve,hc,ef,Deferred.ofValue,invoke,callFunc,hfn,hname,hnone]
  · simp only [Array.toList_append,Array.toList_map]
    exact ((h1.mono fun _ _=>VRel.of0).append hxs).append (h2.mono fun _ _=>VRel.of0)
end
end Go.Proofs.YtmbhnbladmpnoaaGreat.Ab

/- The abstract machine's maps: what is found,what is written. -/
namespace Go.Proofs.YtmbhnbladmpnoaaGreat.Ab
open Go
theorem S2 (w : World) (o : Obj) {c : Nat} (hc : c < w.heap.size) : (w.alloc o).heap[c]? = w.heap[c]?:=by
  show (w.heap.push _)[c]? = _
  rw [Array.getElem?_push,if_neg (Nat.ne_of_lt hc)]
theorem S3 (w : World) (o : Obj) : (w.alloc o).heap[w.heap.size]? = some o:=by
  show (w.heap.push _)[w.heap.size]? = _
  rw [Array.getElem?_push,if_pos rfl]
theorem Sim.pushM {wb : Nat} {ι : Emb} {H : List Blk} {w : World} (h : Sim wb ι H w) :
    Sim wb (ι.add H.length ⟨w.heap.size,0,0,0⟩) (H ++ [.map [] 0]) (w.alloc (.map #[] 0))∧Step ι H w (ι.add H.length ⟨w.heap.size,0,0,0⟩) (H ++ [.map [] 0]) (w.alloc (.map #[] 0)):=by
  have hf : ι H.length = none:=h.fresh (Nat.le_refl _)
  have hle : ι.le (ι.add H.length ⟨w.heap.size,0,0,0⟩):=Emb.le_add hf
  have hold : ∀ c,c < w.heap.size→(w.alloc (.map #[] 0)).heap[c]? = w.heap[c]?:=fun c hc=>S2 w _ hc
  have hlt : ∀ (b : Nat) (B : Blk),(H ++ [Blk.map [] 0])[b]? = some B→b ≠ H.length→H[b]? = some B:=fun b B hb hne=>by
    have:=(List.getElem?_eq_some_iff.1 hb).1
    simp at this
    rwa [List.getElem?_append_left (by omega)] at hb
  constructor
  · constructor
    · intro b x hx
      simp only [List.length_append,List.length_singleton]
      by_cases hb : b = H.length
      · omega
      · rw [Emb.add_ne hb] at hx; have:=h.dom b x hx; omega
    · intro b n' cells' st hb hst l hx
      by_cases hbl : b = H.length
      · subst hbl
        rw [List.getElem?_append_right (Nat.le_refl _)] at hb
        simp at hb
      · have hb2:=hlt b _ hb hbl
        rw [Emb.add_ne hbl] at hx
        obtain ⟨cs',e',fz',hw,h1,h2,h3⟩:=h.row b n' cells' st hb2 hst l hx
        refine ⟨cs',e',fz',?_,h1,h2,fun i v hi=>?_⟩
        · rw [hold l.blk ?_]; exact hw
          exact h.lt hb2 (fun n c hc=>hst (by cases hc; rfl)) (x:=l) hx
        · obtain ⟨v',hv',hr⟩:=h3 i v hi
          exact ⟨v',hv',hr.mono hle⟩
    · intro b es clock hb l hx
      by_cases hbl : b = H.length
      · subst hbl
        rw [List.getElem?_append_right (Nat.le_refl _)] at hb
        simp at hb
        obtain ⟨rfl,rfl⟩:=hb
        rw [Emb.add_same] at hx
        cases hx
        exact ⟨h.size,⟨rfl,rfl⟩,_,S3 w _,.inl ⟨#[],rfl,trivial⟩⟩
      · have hb2:=hlt b _ hb hbl
        rw [Emb.add_ne hbl] at hx
        obtain ⟨h1,hz,es',hw,h3⟩:=h.map b es clock hb2 l hx
        refine ⟨h1,hz,es',?_,h3.mono hle⟩
        rw [hold l.blk ?_]; exact hw
        exact h.lt hb2 (fun n c hc=>by cases hc) (x:=l) hx
    · intro a b ha hb hne x y hx hy
      by_cases ha' : a = H.length
      · subst ha'
        have hb' : b ≠ H.length:=fun e=>hne e.symm
        rw [Emb.add_same] at hx
        rw [Emb.add_ne hb'] at hy
        cases hx
        have hbl : b < H.length:=h.dom b y hy
        rw [List.getElem?_append_left hbl] at hb
        have:=h.own_lt hb hy
        show w.heap.size ≠ y.blk
        omega
      · rw [Emb.add_ne ha'] at hx
        have hal : a < H.length:=h.dom a x hx
        rw [List.getElem?_append_left hal] at ha
        by_cases hb' : b = H.length
        · subst hb'
          rw [Emb.add_same] at hy
          cases hy
          have:=h.own_lt ha hx
          show x.blk ≠ w.heap.size
          omega
        · rw [Emb.add_ne hb'] at hy
          have hbl : b < H.length:=h.dom b y hy
          rw [List.getElem?_append_left hbl] at hb
          exact h.excl a b ha hb hne x y hx hy
    · have:=h.size; simp; omega
    · intro b n' cells' st hb hst l hx
      by_cases hbl : b = H.length
      · subst hbl
        rw [List.getElem?_append_right (Nat.le_refl _)] at hb
        simp at hb
      · rw [Emb.add_ne hbl] at hx
        exact h.loc b n' cells' st (hlt b _ hb hbl) hst l hx
  · constructor
    · exact hle
    · intro b hb; exact Emb.add_ne (by omega)
    · intro b x hx hb
      by_cases hbl : b = H.length
      · subst hbl; rw [Emb.add_same] at hx; cases hx; exact .inl (Nat.le_refl _)
      · rw [Emb.add_ne hbl] at hx; exact absurd (h.dom b x hx) (by omega)
    · intro c hc _; exact hold c hc
    · simp
    · rfl
    · rfl
    · rfl
    · simp
    · intro a ha e; rwa [List.getElem?_append_left ha] at e
theorem Sim.putO {wb : Nat} {ι : Emb} {H : List Blk} {w w' : World} (h : Sim wb ι H w) {b : Nat} {es es2 : List (Value × Value × Nat)} {clock clock2 : Nat} (hb : H[b]? = some (.map es clock)) {lc : Loc} (hl : ι b = some lc) {ob : Obj}
    (hw : w'.heap[lc.blk]? = some ob) (hsame : ∀ c,c ≠ lc.blk→w'.heap[c]? = w.heap[c]?) (hsize : w'.heap.size = w.heap.size) (hos : w'.os = w.os) (htape : w'.tape = w.tape) (hout : w'.output = w.output) (he : MObj ι es2 clock2 ob) :
    Sim wb ι (H.set b (.map es2 clock2)) w'∧Step ι H w ι (H.set b (.map es2 clock2)) w':=by
  have hbl : b < H.length:=(List.getElem?_eq_some_iff.1 hb).1
  have hget : ∀ (a : Nat) (B : Blk),(H.set b (Blk.map es2 clock2))[a]? = some B→a ≠ b→H[a]? = some B:=fun a B hB hne=>by
    rwa [List.getElem?_set_ne (Ne.symm hne)] at hB
  have hself : (H.set b (Blk.map es2 clock2))[b]? = some (.map es2 clock2):=by rw [List.getElem?_set]; simp [hbl]
  have hown : ∀ a : Nat,ownB (H.set b (Blk.map es2 clock2))[a]? = true→ownB H[a]? = true:=fun a ha=>by
    by_cases hab : a = b
    · subst hab; rw [hb]; rfl
    · rwa [List.getElem?_set_ne (Ne.symm hab)] at ha
  obtain ⟨_,_,o0,hobj,hm0⟩:=h.map b es clock hb lc hl
  constructor
  · constructor
    · intro a x hx; simpa using h.dom a x hx
    · intro a n cells st ha hst l hx
      have hab : a ≠ b:=fun e=>by subst e; rw [hself] at ha; cases ha
      obtain ⟨cs,e,fz,q1,q2⟩:=h.row a n cells st (hget a _ ha hab) hst l hx
      refine ⟨cs,e,fz,?_,q2⟩
      rw [hsame l.blk fun e2=>by rw [e2,hobj] at q1; exact hm0.cells _ _ _ (Option.some.inj q1)]
      exact q1
    · intro a es3 clock3 ha l hx
      by_cases hab : a = b
      · subst hab
        rw [hself] at ha
        cases ha
        rw [hl] at hx
        cases hx
        obtain ⟨q1,q2,_⟩:=h.map a es clock hb lc hl
        exact ⟨q1,q2,_,hw,he⟩
      · have ha2:=hget a _ ha hab
        obtain ⟨q1,q2,es',q3,q4⟩:=h.map a es3 clock3 ha2 l hx
        refine ⟨q1,q2,es',?_,q4⟩
        rw [hsame l.blk (h.excl a b (by rw [ha2]; rfl) (by rw [hb]; rfl) hab l lc hx hl)]
        exact q3
    · intro a c ha hc; exact h.excl a c (hown a ha) (hown c hc)
    · rw [hsize]; exact h.size
    · intro a n cells st ha hst l hx
      have hab : a ≠ b:=fun e=>by subst e; rw [hself] at ha; cases ha
      exact h.loc a n cells st (hget a _ ha hab) hst l hx
  · constructor
    · exact .refl _
    · intro _ _; rfl
    · intro a x hx ha; exact absurd (h.dom a x hx) (by omega)
    · intro c hc hn
      exact hsame c fun e=>hn b lc (by rw [hb]; rfl) hl e.symm
    · rw [hsize]; exact Nat.le_refl _
    · exact hos
    · exact htape
    · exact hout
    · simp
    · intro a _ e; exact hown a e
theorem Sim.putM {wb : Nat} {ι : Emb} {H : List Blk} {w w' : World} (h : Sim wb ι H w) {b : Nat} {es es2 : List (Value × Value × Nat)} {clock clock2 : Nat} (hb : H[b]? = some (.map es clock)) {lc : Loc} (hl : ι b = some lc) {es2' : Array MapEntry}
    (hw : w'.heap[lc.blk]? = some (.map es2' clock2)) (hsame : ∀ c,c ≠ lc.blk→w'.heap[c]? = w.heap[c]?) (hsize : w'.heap.size = w.heap.size) (hos : w'.os = w.os) (htape : w'.tape = w.tape) (hout : w'.output = w.output) (he : All2 (Hu ι) es2 es2'.toList) :
    Sim wb ι (H.set b (.map es2 clock2)) w'∧Step ι H w ι (H.set b (.map es2 clock2)) w':=h.putO hb hl hw hsame hsize hos htape hout (.inl ⟨es2',rfl,he⟩)
section
variable {P : Program} {w : World}
theorem Jy {d : TypeDesc} {k : Value} : ∀ {es : List MapEntry} {i : Nat} {r : Option (Option Nat)},FQ d k (es.map (·.key)) i = r→(∀ j,r = some (some j)→i ≤ j∧∃ e,es[j - i]? = some e∧Instr.findNow d k es i = some (some (j,e.val)))∧(r = some none→Instr.findNow d k es i = some none)∧(r = none→Instr.findNow d k es i = none)
  | [],i,r,h=>by
    simp only [List.map_nil,FQ] at h
    subst h
    exact ⟨fun j hj=>(by cases hj),fun _=>rfl,fun h=>(by cases h)⟩
  | e :: es,i,r,h=>by
    simp only [List.map_cons,FQ] at h
    unfold Instr.findNow
    cases hs : Instr.sameNow d k e.key with
    | none =>
      rw [hs] at h
      subst h
      exact ⟨fun j hj=>(by cases hj),fun h=>(by cases h),fun _=>rfl⟩
    | some b =>
      rw [hs] at h
      cases b with
      | true =>
        subst h
        refine ⟨fun j hj=>?_,fun h=>(by cases h),fun h=>(by cases h)⟩
        cases hj
        exact ⟨Nat.le_refl _,e,by simp,rfl⟩
      | false =>
        obtain ⟨h1,h2,h3⟩:=Jy (es:=es) h
        refine ⟨fun j hj=>?_,h2,h3⟩
        obtain ⟨g1,e',g2,g3⟩:=h1 j hj
        refine ⟨by omega,e',?_,g3⟩
        rw [show j - i = (j - (i + 1)) + 1 by omega,List.getElem?_cons_succ]
        exact g2
theorem N2 {t : TypeId} {k : Value} : ∀ {es : List MapEntry} {i : Nat} {r : Option Nat},SR P t k (es.map (·.key)) i = some r→(∀ j,r = some j→i ≤ j∧∃ e,es[j - i]? = some e∧(Instr.findAsking t k es i).run P w = .ok (some (j,e.val)) w)∧(r = none→(Instr.findAsking t k es i).run P w = .ok none w)
  | [],i,r,h=>by
    simp only [List.map_nil,SR] at h
    cases h
    exact ⟨fun j hj=>(by cases hj),fun _=>rfl⟩
  | e :: es,i,r,h=>by
    simp only [List.map_cons,SR,Option.bind_eq_some_iff] at h
    obtain ⟨b,hb,h⟩:=h
    have hrun:=Fl (w:=w) hb
    cases b with
    | true =>
      simp only [if_true] at h
      cases h
      refine ⟨fun j hj=>?_,fun h=>(by cases h)⟩
      cases hj
      exact ⟨Nat.le_refl _,e,by simp,by simp [Instr.findAsking,hrun]⟩
    | false =>
      simp only [Bool.false_eq_true,if_false] at h
      obtain ⟨h1,h2⟩:=N2 (es:=es) h
      refine ⟨fun j hj=>?_,fun hj=>by simp [Instr.findAsking,hrun,h2 hj]⟩
      obtain ⟨g1,e',g2,g3⟩:=h1 j hj
      refine ⟨by omega,e',?_,by simp [Instr.findAsking,hrun,g3]⟩
      rw [show j - i = (j - (i + 1)) + 1 by omega,List.getElem?_cons_succ]
      exact g2
theorem Jz {t : TypeId} {k : Value} {es : List MapEntry} {r : Option Nat} (h : LW P t k (es.map (·.key)) = some r) : (∀ j,r = some j→∃ e,es[j]? = some e∧(Instr.findKey t k es).run P w = .ok (some (j,e.val)) w)∧(r = none→(Instr.findKey t k es).run P w = .ok none w):=by
  simp only [LW,Option.bind_eq_some_iff] at h
  obtain ⟨d,hd,h⟩:=h
  split at h
  · rename_i r0 hn
    cases h
    obtain ⟨h1,h2,_⟩:=Jy (es:=es) hn
    refine ⟨fun j hj=>?_,fun hj=>?_⟩
    · obtain ⟨_,e,g2,g3⟩:=h1 j (by rw [hj])
      exact ⟨e,by simpa using g2,by simp [Instr.findKey,Ae hd,g3]⟩
    · simp [Instr.findKey,Ae hd,h2 (by rw [hj])]
  · rename_i hn
    obtain ⟨_,_,h3⟩:=Jy (es:=es) hn
    obtain ⟨h1,h2⟩:=N2 (w:=w) (es:=es) h
    refine ⟨fun j hj=>?_,fun hj=>?_⟩
    · obtain ⟨_,e,g2,g3⟩:=h1 j hj
      exact ⟨e,by simpa using g2,by simp [Instr.findKey,Ae hd,h3 rfl,g3]⟩
    · simp [Instr.findKey,Ae hd,h3 rfl,h2 hj]
theorem Nv {ι : Emb} : ∀ {es : List (Value × Value × Nat)} {es' : List MapEntry},All2 (Hu ι) es es'→es'.map (·.key) = es.map (·.1)
  | [],[],_=>rfl
  | x :: es,e :: es',⟨h1,h2⟩=>by simp [h1.1,Nv h2]
theorem All2.modify {α β : Type} {R : α→β→Prop} {f : α→α} {g : β→β} : ∀ {l : List α} {m : List β} (i : Nat),All2 R l m→(∀ a b,l[i]? = some a→m[i]? = some b→R a b→R (f a) (g b))→All2 R (l.modify i f) (m.modify i g)
  | [],[],i,_,_=>by simp [All2]
  | a :: l,b :: m,0,⟨h1,h2⟩,h=>by simpa [All2] using ⟨h a b rfl rfl h1,h2⟩
  | a :: l,b :: m,i + 1,⟨h1,h2⟩,h=>by
    have:=All2.modify (R:=R) (f:=f) (g:=g) i h2 fun a b ha hb=>h a b (by simpa using ha) (by simpa using hb)
    simpa [All2] using ⟨h1,this⟩
end
theorem VRel.va_tup {ι : Emb} {v v' : Value} (h : VRel ι v v') (hn : PN v = false) : VA ι v v':=by
  cases h with
  | va h=>exact h
  | tuple=>cases hn
  | poison=>cases hn
theorem E6 {P : Program} {w : World} {r : Nat} {es es2 : Array MapEntry} {c c2 : Nat} (h : w.heap[r]? = some (.map es c)) : ∃ w',(setObj r (.map es2 c2)).run P w = .ok () w'∧w'.heap[r]? = some (.map es2 c2)∧(∀ k,k ≠ r→w'.heap[k]? = w.heap[k]?)∧w'.heap.size = w.heap.size∧w'.os = w.os∧w'.tape = w.tape∧w'.output = w.output:=by
  have hlt:=(Array.getElem?_eq_some_iff.1 h).1
  refine ⟨{ w with heap:=w.heap.setIfInBounds r (.map es2 c2) },?_,?_,fun k hk=>?_,by simp,rfl,rfl,rfl⟩
  · simp [setObj,Sem.run,h]
  · simp [Array.getElem?_setIfInBounds,hlt]
  · simp only [Array.getElem?_setIfInBounds]
    rw [if_neg (by omega)]
theorem Da {P : Program} {w : World} {r : Nat} {es : Array MapEntry} {c : Nat} (h : w.heap[r]? = some (.map es c)) : (getObj r).run P w = .ok (.map es c) w:=by
  simp [getObj,Sem.run,h]
section ops
variable {P : Program} {o : Oper} {a : Act} {w : World} {wb : Nat} {ι : Emb} {s s' : St}
theorem WQ {t : TypeId} {ky el : TypeId} {r : Option Operand} {vr : Option Value} {v : Value} (ho : o.op = .makeMap t r) (h : Sim wb ι s.heap w) (ht : P.underlying t = some (.map ky el)) (hr : ORel ι vr (r.map a.eval)) (hv : GW vr s = some (v,s')) :
    OpOk P o a w (Ba wb ι s.heap w s'.heap v):=by
  have hp:=h.pushM
  have fin : ∀ (v : Value) (s' : St),(v,s') = (Value.map (some s.heap.length),s.push (.map [] 0))→(execOp a.eval o).run P w = .ok (.value (.map (some w.heap.size))) (w.alloc (.map #[] 0))→OpOk P o a w (Ba wb ι s.heap w s'.heap v):=fun v s' e hrun=>by
    cases e
    exact .inl ⟨_,_,hrun,_,hp.1,hp.2,.of0 (.map (l:=⟨w.heap.size,0,0,0⟩) (Emb.add_same _ _ _))⟩
  unfold GW at hv
  split at hv
  · cases r with
    | some r=>cases hr
    | none =>
      refine fin v s' (Option.some.inj hv).symm ?_
      simp [execOp,ho,Instr.makeMap]
  · rename_i kd n
    cases r with
    | none=>cases hr
    | some r =>
      have e : a.eval r = .int kd n:=by
        cases hr with
        | some hr=>exact VRel.inv_int hr
      refine fin v s' (Option.some.inj hv).symm ?_
      simp [execOp,ho,Instr.makeMap,e,asInt,Ae ht]
      rfl
  · cases hv
theorem UD {ky el : TypeId} {k k' z r : Value} {ok : Bool} {es : List (Value × Value × Nat)} {es' : Array MapEntry} (he : All2 (Hu ι) es es'.toList) (hz : Ec P el = some z) (hk : VRel ι k k') (hr : ET P ky z es k ok = some r) :
    k' = k∧∃ (v' : Value) (b : Bool) (i : Option (Nat × Value)),(Instr.checkKey es'.isEmpty 10000 ky k).run P w = .ok () w∧(Instr.findKey ky k es'.toList).run P w = .ok i w∧(match i with
      | some (_,v)=>v' = v∧b = true
      | none=>v' = z∧b = false)∧VRel ι r (if ok then .tuple #[v',.bool b] else v'):=by
  obtain ⟨_,_,_,hzc⟩:=B9 hz
  have hzV : VA ι z z:=Kd hzc
  unfold ET at hr
  split at hr
  case isFalse=>cases hr
  rename_i hf
  simp only [GV,Bool.and_eq_true] at hf
  refine ⟨Gs hf.1 hk,?_⟩
  obtain ⟨⟨⟩,hck⟩:=Option.isSome_iff_exists.1 hf.2
  have hemp : es'.isEmpty = es.isEmpty:=by
    have:=he.length
    cases es with
    | nil=>simpa [Array.isEmpty] using this.symm
    | cons x es=>simp [Array.isEmpty] at this ⊢; intro e; rw [e] at this; simp at this
  have hck':=Fl (w:=w) hck
  rw [← hemp] at hck'
  simp only [Option.bind_eq_some_iff] at hr
  obtain ⟨i,hi,hr⟩:=hr
  cases hr
  rw [← Nv he] at hi
  obtain ⟨h1,h2⟩:=Jz (w:=w) hi
  cases i with
  | none =>
    refine ⟨z,false,none,hck',h2 rfl,⟨rfl,rfl⟩,?_⟩
    cases ok with
    | true=>exact .tuple ⟨hzV,.l2 (.l1 (.l0 (.bool _))),trivial⟩
    | false=>exact .va hzV
  | some j =>
    obtain ⟨e,g1,g2⟩:=h1 j rfl
    have hj : j < es.length:=by
      have:=(List.getElem?_eq_some_iff.1 g1).1
      rw [he.length]; exact this
    obtain ⟨e',g3,g4⟩:=he.get j es[j] (List.getElem?_eq_getElem hj)
    rw [g1] at g3
    cases g3
    have hfv : NP z es (some j) = (es[j].2.1,true):=by simp [NP,hj]
    refine ⟨e.val,true,some (j,e.val),hck',g2,⟨rfl,rfl⟩,?_⟩
    rw [hfv]
    cases ok with
    | true=>exact .tuple ⟨g4.2.2.1,.l2 (.l1 (.l0 (.bool _))),trivial⟩
    | false=>exact .va g4.2.2.1
theorem Ya {t ky el : TypeId} {x y : Operand} {ok : Bool} {u k z r : Value} (ho : o.op = .lookup t x y ok) (h : Sim wb ι s.heap w) (ht : P.underlying t = some (.map ky el)) (hz : Ec P el = some z) (hx : VRel ι u (a.eval x)) (hk : VRel ι k (a.eval y)) (hr : Fi P ky z u k ok s = some r) :
    OpOk P o a w (Ba wb ι s.heap w s.heap r):=by
  have key : ∀ (es : List (Value × Value × Nat)) (es' : Array MapEntry),All2 (Hu ι) es es'.toList→ET P ky z es k ok = some r→((a.eval x = .map none∧es' = #[]) ∨ ∃ b c,a.eval x = .map (some b)∧w.heap[b]? = some (.map es' c))→OpOk P o a w (Ba wb ι s.heap w s.heap r):=by
    intro es es' he hr hm
    obtain ⟨ek,v',b,i,h1,h2,h3,h4⟩:=UD (w:=w) he hz hk hr
    refine AQ h ?_ h4
    rcases hm with ⟨ex,rfl⟩ | ⟨b',c,ex,hb⟩
    · have h1' : (Instr.checkKey true 10000 ky k).run P w = .ok () w:=h1
      have h2' : (Instr.findKey ky k []).run P w = .ok i w:=h2
      cases i with
      | none =>
        obtain ⟨rfl,rfl⟩:=h3
        simp [execOp,ho,Instr.lookup,ex,ek,Ae ht,h1',h2',Bg hz,Result.andThen]
      | some p =>
        obtain ⟨rfl,rfl⟩:=h3
        simp [execOp,ho,Instr.lookup,ex,ek,Ae ht,h1',h2',Result.andThen]
    · cases i with
      | none =>
        obtain ⟨rfl,rfl⟩:=h3
        simp [execOp,ho,Instr.lookup,ex,ek,Ae ht,Da hb,h1,h2,Bg hz,Result.andThen]
      | some p =>
        obtain ⟨rfl,rfl⟩:=h3
        simp [execOp,ho,Instr.lookup,ex,ek,Ae ht,Da hb,h1,h2,Result.andThen]
  unfold Fi at hr
  split at hr
  · have ex:=hx.inv_mnil
    exact key [] #[] trivial hr (.inl ⟨ex,rfl⟩)
  · rename_i b
    obtain ⟨l,hl,ex⟩:=hx.inv_map
    split at hr
    · rename_i es clock hes
      split at hr
      · cases hr
      rename_i hni
      obtain ⟨_,_,o',q1,hm⟩:=h.map b es clock hes l hl
      obtain ⟨es',rfl,q2⟩:=hm.map hni
      exact key es es' q2 hr (.inr ⟨_,_,ex,q1⟩)
    · cases hr
  · cases hr
theorem L7 {t ky el : TypeId} {x y q : Operand} {u k v : Value} (ho : o.op = .mapUpdate t x y q ∨ o.op = .insert t x y q) (h : Sim wb ι s.heap w) (ht : P.underlying t = some (.map ky el)) (hx : VRel ι u (a.eval x)) (hk : VRel ι k (a.eval y)) (hv : VRel ι v (a.eval q)) (hr : An P ky u k v s = some s') :
    OpOk P o a w (Ba wb ι s.heap w s'.heap undef):=by
  have hexec : ∀ {w'},(Instr.mapUpdate t (a.eval x) (a.eval y) (a.eval q)).run P w = .ok () w'→(execOp a.eval o).run P w = .ok .skip w':=by
    intro w' hrun
    rcases ho with ho | ho <;> simp [execOp,ho,hrun,Result.andThen]
  unfold An at hr
  split at hr
  · cases hr
  rename_i htup
  have hva:=hv.va_tup (by simpa using htup)
  split at hr
  case h_2=>cases hr
  rename_i b
  obtain ⟨l,hl,ex⟩:=hx.inv_map
  split at hr
  case h_2=>cases hr
  rename_i es clock hes
  split at hr
  · cases hr
  rename_i hni
  obtain ⟨_,_,o',q1,hm⟩:=h.map b es clock hes l hl
  obtain ⟨es',rfl,q2⟩:=hm.map hni
  split at hr
  case isFalse=>cases hr
  rename_i hf
  simp only [GV,Bool.and_eq_true] at hf
  have ek:=Gs hf.1 hk
  obtain ⟨⟨⟩,hck⟩:=Option.isSome_iff_exists.1 hf.2
  have hck':=Fl (w:=w) hck
  simp only [Option.bind_eq_some_iff] at hr
  obtain ⟨i,hi,hr⟩:=hr
  rw [← Nv q2] at hi
  obtain ⟨h1,h2⟩:=Jz (w:=w) hi
  cases i with
  | none =>
    cases hr
    obtain ⟨w',g1,g2,g3,g4,g5,g6,g7⟩:=E6 (P:=P) (es2:=es'.push { key:=k,val:=a.eval q,born:=clock }) (c2:=clock + 1) q1
    obtain ⟨f1,f2⟩:=h.putM hes hl (es2:=es ++ [(k,v,clock)]) g2 g3 g4 g5 g6 g7 (by
      rw [Array.toList_push]
      exact q2.append ⟨⟨rfl,hf.1,hva,rfl⟩,trivial⟩)
    refine .inr (.inl ⟨w',hexec ?_,ι,f1,f2,Cb ι⟩)
    simp [Instr.mapUpdate,Ae ht,ex,ek,Da q1,hck',h2 rfl,g1,Result.andThen]
  | some j =>
    obtain ⟨e,e1,e2⟩:=h1 j rfl
    simp only at hr
    split at hr
    case h_2=>cases hr
    rename_i e0 he0
    split at hr
    case isFalse=>cases hr
    rename_i hsb
    cases hr
    obtain ⟨e',e3,e4⟩:=q2.get j e0 he0
    rw [e1] at e3
    cases e3
    have hkey : Instr.sameBits 10000 e.key k = true:=by
      rw [e4.1]
      exact hsb
    obtain ⟨w',g1,g2,g3,g4,g5,g6,g7⟩:=E6 (P:=P) (es2:=es'.modify j fun e=>{ e with key:=k,val:=a.eval q }) (c2:=clock) q1
    obtain ⟨f1,f2⟩:=h.putM hes hl (es2:=es.modify j fun e=>(k,v,e.2.2)) g2 g3 g4 g5 g6 g7 (by
      rw [Array.toList_modify]
      exact q2.modify j fun x y _ _ hxy=>⟨rfl,hf.1,hva,hxy.2.2.2⟩)
    refine .inr (.inl ⟨w',hexec ?_,ι,f1,f2,Cb ι⟩)
    have e1' : es'[j]? = some e:=by simpa using e1
    simp [Instr.mapUpdate,Ae ht,ex,ek,Da q1,hck',e2,e1',Instr.keyThatStays,hkey,g1,Result.andThen]
theorem UE {t ky el : TypeId} {x y : Operand} {u k z v : Value} (ho : o.op = .mapEntry t x y) (h : Sim wb ι s.heap w) (ht : P.underlying t = some (.map ky el)) (hz : Ec P el = some z) (hx : VRel ι u (a.eval x)) (hk : VRel ι k (a.eval y)) (hr : NQ P ky z u k s = some (v,s')) :
    OpOk P o a w (Ba wb ι s.heap w s'.heap v):=by
  have hexec : ∀ {w' v'},(Instr.mapEntry t (a.eval x) (a.eval y)).run P w = .ok v' w'→(execOp a.eval o).run P w = .ok (.value v') w':=by
    intro w' v' hrun
    simp [execOp,ho,hrun,Result.andThen]
  obtain ⟨_,_,_,hzc⟩:=B9 hz
  have hzV : VA ι z z:=Kd hzc
  unfold NQ at hr
  split at hr
  case h_2=>cases hr
  rename_i b
  obtain ⟨l,hl,ex⟩:=hx.inv_map
  split at hr
  case h_2=>cases hr
  rename_i es clock hes
  split at hr
  · cases hr
  rename_i hni
  obtain ⟨_,_,o',q1,hm⟩:=h.map b es clock hes l hl
  obtain ⟨es',rfl,q2⟩:=hm.map hni
  split at hr
  case isFalse=>cases hr
  rename_i hf
  simp only [GV,Bool.and_eq_true] at hf
  have ek:=Gs hf.1 hk
  obtain ⟨⟨⟩,hck⟩:=Option.isSome_iff_exists.1 hf.2
  have hck':=Fl (w:=w) hck
  simp only [Option.bind_eq_some_iff] at hr
  obtain ⟨i,hi,hr⟩:=hr
  rw [← Nv q2] at hi
  obtain ⟨h1,h2⟩:=Jz (w:=w) hi
  cases i with
  | none =>
    cases hr
    obtain ⟨w',g1,g2,g3,g4,g5,g6,g7⟩:=E6 (P:=P) (es2:=es'.push { key:=k,val:=z,born:=clock }) (c2:=clock + 1) q1
    obtain ⟨f1,f2⟩:=h.putM hes hl (es2:=es ++ [(k,z,clock)]) g2 g3 g4 g5 g6 g7 (by
      rw [Array.toList_push]
      exact q2.append ⟨⟨rfl,hf.1,hzV,rfl⟩,trivial⟩)
    refine .inl ⟨.tuple #[z,goInt clock],w',hexec ?_,ι,f1,f2,.tuple ⟨hzV,.l2 (.l1 (.l0 (.int _ _))),trivial⟩⟩
    simp [Instr.mapEntry,Ae ht,ex,ek,Da q1,hck',h2 rfl,g1,Bg hz,Result.andThen]
  | some j =>
    obtain ⟨e,e1,e2⟩:=h1 j rfl
    simp only at hr
    split at hr
    case h_2=>cases hr
    rename_i e0 he0
    split at hr
    case isFalse=>cases hr
    rename_i hsb
    cases hr
    obtain ⟨e',e3,e4⟩:=q2.get j e0 he0
    rw [e1] at e3
    cases e3
    have hkey : Instr.sameBits 10000 e.key k = true:=by
      rw [e4.1]
      exact hsb
    obtain ⟨w',g1,g2,g3,g4,g5,g6,g7⟩:=E6 (P:=P) (es2:=es'.modify j fun e=>{ e with key:=k }) (c2:=clock) q1
    obtain ⟨f1,f2⟩:=h.putM hes hl (es2:=es.modify j fun e=>(k,e.2.1,e.2.2)) g2 g3 g4 g5 g6 g7 (by
      rw [Array.toList_modify]
      exact q2.modify j fun x y _ _ hxy=>⟨rfl,hf.1,hxy.2.2.1,hxy.2.2.2⟩)
    have e1' : es'[j]? = some e:=by simpa using e1
    refine .inl ⟨.tuple #[e.val,goInt e.born],w',hexec ?_,ι,f1,f2,.tuple ⟨e4.2.2.1,?_,trivial⟩⟩
    · simp [Instr.mapEntry,Ae ht,ex,ek,Da q1,hck',e2,e1',Instr.keyThatStays,hkey,g1,Result.andThen]
    · rw [e4.2.2.2]
      exact .l2 (.l1 (.l0 (.int _ _)))
theorem VN {ι : Emb} {n : Int} : ∀ {es : List (Value × Value × Nat)} {es' : List MapEntry},All2 (Hu ι) es es'→es'.findIdx? (fun e=>(e.born : Int) == n) = es.findIdx? (fun e=>(e.2.2 : Int) == n)
  | [],[],_=>rfl
  | x :: es,e :: es',⟨h1,h2⟩=>by
    rw [List.findIdx?_cons,List.findIdx?_cons,h1.2.2.2,VN h2]
theorem Rt {t : TypeId} {x y q : Operand} {u k v : Value} (ho : o.op = .entryStore t x y q) (h : Sim wb ι s.heap w) (hx : VRel ι u (a.eval x)) (hk : VRel ι k (a.eval y)) (hv : VRel ι v (a.eval q)) (hr : Jp u k v s = some s') :
    OpOk P o a w (Ba wb ι s.heap w s'.heap undef):=by
  have hexec : ∀ {w'},(Instr.entryStore t (a.eval x) (a.eval y) (a.eval q)).run P w = .ok () w'→(execOp a.eval o).run P w = .ok .skip w':=by
    intro w' hrun
    simp [execOp,ho,hrun,Result.andThen]
  unfold Jp at hr
  split at hr
  · cases hr
  rename_i htup
  have hva:=hv.va_tup (by simpa using htup)
  split at hr
  case h_2=>cases hr
  rename_i b kd n
  obtain ⟨l,hl,ex⟩:=hx.inv_map
  have ek:=hk.inv_int
  split at hr
  case h_2=>cases hr
  rename_i es clock hes
  split at hr
  · cases hr
  rename_i hni
  obtain ⟨_,_,o',q1,hm⟩:=h.map b es clock hes l hl
  obtain ⟨es',rfl,q2⟩:=hm.map hni
  split at hr
  case h_2=>cases hr
  rename_i j hj
  cases hr
  obtain ⟨w',g1,g2,g3,g4,g5,g6,g7⟩:=E6 (P:=P) (es2:=es'.modify j fun e=>{ e with val:=a.eval q }) (c2:=clock) q1
  obtain ⟨f1,f2⟩:=h.putM hes hl (es2:=es.modify j fun e=>(e.1,v,e.2.2)) g2 g3 g4 g5 g6 g7 (by
    rw [Array.toList_modify]
    exact q2.modify j fun x y _ _ hxy=>⟨hxy.1,hxy.2.1,hva,hxy.2.2.2⟩)
  refine .inr (.inl ⟨w',hexec ?_,ι,f1,f2,Cb ι⟩)
  have hj2 : es'.findIdx? (fun e=>(e.born : Int) == n) = some j:=by
    rw [← hj,← VN q2]
    cases es'
    simp
  simp [Instr.entryStore,ex,ek,Da q1,asInt,asIntOf,hj2,g1,Result.andThen]
theorem Yb {c : Call} {ts : Array TypeId} {t ky el : TypeId} {vx : Value} {x : Operand} (ho : o.op = .call c) (hc : c.callee = .builtin .clear) (hargs : c.args = #[x]) (hts : c.argTypes = ts) (hts0 : ts[0]? = some t)
    (h : Sim wb ι s.heap w) (ht : P.underlying t = some (.map ky el)) (hx : VRel ι vx (a.eval x)) (hr : Us vx s = some s') :
    OpOk P o a w (Ba wb ι s.heap w s'.heap (.tuple #[])):=by
  have hexec : ∀ {w' : World},(Builtin.clear_ ts o.type #[a.eval x]).run P w = .ok (.tuple #[]) w'→(execOp a.eval o).run P w = .ok (.value (.tuple #[])) w':=by
    intro w' hrun
    simp [execOp,ho,resolve,hc,hargs,hts,invoke,builtin,hrun]
  unfold Us at hr
  split at hr
  · cases hr
    have ex:=hx.inv_mnil
    refine .inl ⟨.tuple #[],w,hexec ?_,BT h (Cb ι)⟩
    rw [ex]
    simp [Builtin.clear_,hts0,Ae ht]
  · rename_i b
    obtain ⟨l,hl,ex⟩:=hx.inv_map
    split at hr
    case h_2=>cases hr
    rename_i es clock hes
    split at hr
    · cases hr
    rename_i hni
    cases hr
    obtain ⟨_,_,o',q1,hm⟩:=h.map b es clock hes l hl
    obtain ⟨es',rfl,q2⟩:=hm.map hni
    obtain ⟨w',g1,g2,g3,g4,g5,g6,g7⟩:=E6 (P:=P) (es2:=#[]) (c2:=clock) q1
    obtain ⟨f1,f2⟩:=h.putM hes hl (es2:=[]) g2 g3 g4 g5 g6 g7 trivial
    refine .inl ⟨.tuple #[],w',hexec ?_,ι,f1,f2,Cb ι⟩
    rw [ex]
    simp [Builtin.clear_,hts0,Ae ht,Da q1,g1,Result.andThen]
  · cases hr
end ops
end Go.Proofs.YtmbhnbladmpnoaaGreat.Ab

/- The abstract machine's iterators over strings. -/
namespace Go.Proofs.YtmbhnbladmpnoaaGreat.Ab
open Go
theorem Sim.pushO {wb : Nat} {ι : Emb} {H : List Blk} {w : World} (h : Sim wb ι H w) {es0 : List (Value × Value × Nat)} {ck0 : Nat} {ob : Obj} (hob : ∀ κ,ι.le κ→MObj κ es0 ck0 ob) :
    Sim wb (ι.add H.length ⟨w.heap.size,0,0,0⟩) (H ++ [.map es0 ck0]) (w.alloc ob)∧Step ι H w (ι.add H.length ⟨w.heap.size,0,0,0⟩) (H ++ [.map es0 ck0]) (w.alloc ob):=by
  have hf : ι H.length = none:=h.fresh (Nat.le_refl _)
  have hle : ι.le (ι.add H.length ⟨w.heap.size,0,0,0⟩):=Emb.le_add hf
  have hold : ∀ c,c < w.heap.size→(w.alloc ob).heap[c]? = w.heap[c]?:=fun c hc=>S2 w _ hc
  have hlt : ∀ (b : Nat) (B : Blk),(H ++ [Blk.map es0 ck0])[b]? = some B→b ≠ H.length→H[b]? = some B:=fun b B hb hne=>by
    have:=(List.getElem?_eq_some_iff.1 hb).1
    simp at this
    rwa [List.getElem?_append_left (by omega)] at hb
  constructor
  · constructor
    · intro b x hx
      simp only [List.length_append,List.length_singleton]
      by_cases hb : b = H.length
      · omega
      · rw [Emb.add_ne hb] at hx; have:=h.dom b x hx; omega
    · intro b n' cells' st hb hst l hx
      by_cases hbl : b = H.length
      · subst hbl
        rw [List.getElem?_append_right (Nat.le_refl _)] at hb
        simp at hb
      · have hb2:=hlt b _ hb hbl
        rw [Emb.add_ne hbl] at hx
        obtain ⟨cs',e',fz',hw,h1,h2,h3⟩:=h.row b n' cells' st hb2 hst l hx
        refine ⟨cs',e',fz',?_,h1,h2,fun i v hi=>?_⟩
        · rw [hold l.blk ?_]; exact hw
          exact h.lt hb2 (fun n c hc=>hst (by cases hc; rfl)) (x:=l) hx
        · obtain ⟨v',hv',hr⟩:=h3 i v hi
          exact ⟨v',hv',hr.mono hle⟩
    · intro b es clock hb l hx
      by_cases hbl : b = H.length
      · subst hbl
        rw [List.getElem?_append_right (Nat.le_refl _)] at hb
        simp at hb
        obtain ⟨rfl,rfl⟩:=hb
        rw [Emb.add_same] at hx
        cases hx
        exact ⟨h.size,⟨rfl,rfl⟩,_,S3 w _,hob _ hle⟩
      · have hb2:=hlt b _ hb hbl
        rw [Emb.add_ne hbl] at hx
        obtain ⟨h1,hz,es',hw,h3⟩:=h.map b es clock hb2 l hx
        refine ⟨h1,hz,es',?_,h3.mono hle⟩
        rw [hold l.blk ?_]; exact hw
        exact h.lt hb2 (fun n c hc=>by cases hc) (x:=l) hx
    · intro a b ha hb hne x y hx hy
      by_cases ha' : a = H.length
      · subst ha'
        have hb' : b ≠ H.length:=fun e=>hne e.symm
        rw [Emb.add_same] at hx
        rw [Emb.add_ne hb'] at hy
        cases hx
        have hbl : b < H.length:=h.dom b y hy
        rw [List.getElem?_append_left hbl] at hb
        have:=h.own_lt hb hy
        show w.heap.size ≠ y.blk
        omega
      · rw [Emb.add_ne ha'] at hx
        have hal : a < H.length:=h.dom a x hx
        rw [List.getElem?_append_left hal] at ha
        by_cases hb' : b = H.length
        · subst hb'
          rw [Emb.add_same] at hy
          cases hy
          have:=h.own_lt ha hx
          show x.blk ≠ w.heap.size
          omega
        · rw [Emb.add_ne hb'] at hy
          have hbl : b < H.length:=h.dom b y hy
          rw [List.getElem?_append_left hbl] at hb
          exact h.excl a b ha hb hne x y hx hy
    · have:=h.size; simp; omega
    · intro b n' cells' st hb hst l hx
      by_cases hbl : b = H.length
      · subst hbl
        rw [List.getElem?_append_right (Nat.le_refl _)] at hb
        simp at hb
      · rw [Emb.add_ne hbl] at hx
        exact h.loc b n' cells' st (hlt b _ hb hbl) hst l hx
  · constructor
    · exact hle
    · intro b hb; exact Emb.add_ne (by omega)
    · intro b x hx hb
      by_cases hbl : b = H.length
      · subst hbl; rw [Emb.add_same] at hx; cases hx; exact .inl (Nat.le_refl _)
      · rw [Emb.add_ne hbl] at hx; exact absurd (h.dom b x hx) (by omega)
    · intro c hc _; exact hold c hc
    · simp
    · rfl
    · rfl
    · rfl
    · simp
    · intro a ha e; rwa [List.getElem?_append_left ha] at e
theorem Ke {ι : Emb} {t : ByteArray} : ∀ (b i : Nat) (acc : Array Value),All2 (L2 ι) acc.toList acc.toList→All2 (L2 ι) (Conv.runesFrom t b i acc).toList (Conv.runesFrom t b i acc).toList
  | 0,_,_,h=>h
  | b + 1,i,acc,h=>by
    unfold Conv.runesFrom
    split
    · refine Ke b _ _ ?_
      rw [Array.toList_push]
      exact h.append ⟨.l1 (.l0 (.int _ _)),trivial⟩
    · exact h
theorem S4 {P : Program} {o : Oper} {a : Act} {w : World} {wb : Nat} {ι : Emb} {H : List Blk} {s t e : TypeId} {x : Operand} {n : ByteArray} (ho : o.op = .convert s t x) (h : Sim wb ι H w) (hs : P.underlying s = some .string) (ht : P.underlying t = some (.slice e)) (he : P.underlying e = some (.int .i32))
    (hx : VRel ι (.string n) (a.eval x)) : OpOk P o a w (Ba wb ι H w (H ++ [.row 1 (Conv.runesFrom n n.size 0 #[]).toList .act]) (.slice (some ⟨H.length,0,none⟩) (Conv.runesFrom n n.size 0 #[]).size (Conv.runesFrom n n.size 0 #[]).size)):=by
  have ex:=hx.inv_string
  obtain ⟨rs,hrs⟩ : ∃ rs,Conv.runesFrom n n.size 0 #[] = rs:=⟨_,rfl⟩
  have hrel : All2 (L2 ι) rs.toList rs.toList:=by rw [← hrs]; exact Ke _ _ _ trivial
  rw [hrs]
  obtain ⟨cap,hcap,hle⟩ : ∃ cap,(choose (.appendCap rs.size 0 e)).run P w = .ok cap w.drew∧rs.size ≤ cap:=by
    refine ⟨_,by simp [Question.forced]; rfl,?_⟩
    simp [Question.cut]
  let cs : Array Value:=rs ++ Array.replicate (cap - rs.size) (.int .i32 0)
  have hcs : cs.size = cap:=by simp only [cs,Array.size_append,Array.size_replicate]; omega
  let w1 : World:=w.drew.alloc (.cells cs e)
  have hrun : (execOp a.eval o).run P w = .ok (.value (.slice (some ⟨w.heap.size,0,none⟩) rs.size cap)) w1:=by
    have hc : (Conv.stringToRunes e n).run P w = .ok (.slice (some ⟨w.heap.size,0,none⟩) rs.size cap) w1:=by
      unfold Conv.stringToRunes
      rw [hrs,Sem.run_bind,hcap]
      simp only [Result.andThen_ok,newRow,Sem.run_bind,run_newObj,World.alloc_eq,Sem.run_pure,World.size_drew]
      rfl
    simp [execOp,ho,ex,convert,Ae hs,Ae ht,Ae he,hc]
  have hp:=h.push (w:=w) (n:=1) (cells:=rs.toList) (cs:=cs) (e:=e) (fz:=(0,0)) (.inl rfl) (fun i v hi=>by
    obtain ⟨v',hv',hr⟩:=hrel.get i v hi
    refine ⟨v',?_,hr⟩
    have hlt:=(List.getElem?_eq_some_iff.1 hv').1
    simp at hlt
    simp only [cs]
    rw [Array.getElem?_append_left (by simpa using hlt)]
    simpa using hv')
  have heap2 : w1.heap = (w.alloc (.cells cs e (0,0))).heap:=rfl
  refine .inl ⟨_,_,hrun,_,hp.1.congr heap2,?_,Fm _ _ _ _ _ _ rfl (Nat.le_refl _) hle (by simp [hcs])⟩
  have hs:=hp.2
  exact ⟨hs.le,hs.old,hs.img,fun c hc hn=>by rw [heap2]; exact hs.keep c hc hn,by rw [heap2]; exact hs.size,rfl,rfl,rfl,hs.len,hs.own⟩
section ops
variable {P : Program} {o : Oper} {a : Act} {w : World} {wb : Nat} {ι : Emb} {s s' : St}
theorem Yc {t : TypeId} {x : Operand} {u v : Value} (ho : o.op = .range t x) (h : Sim wb ι s.heap w) (ht : P.underlying t = some .string) (hx : VRel ι u (a.eval x)) (hv : Jq u s = some (v,s')) :
    OpOk P o a w (Ba wb ι s.heap w s'.heap v):=by
  unfold Jq at hv
  split at hv
  · rename_i str
    cases hv
    have ex:=hx.inv_string
    have hp:=h.pushO (es0:=[(.tuple #[],.string str,0)]) (ck0:=0) (ob:=.stringIter str 0) fun κ _=>.inr (.inl ⟨str,0,rfl,rfl⟩)
    refine .inl ⟨.pointer (some ⟨w.heap.size,0,none⟩),w.alloc (.stringIter str 0),?_,_,hp.1,hp.2,.of0 (.ptr (l:=⟨w.heap.size,0,0,0⟩) 0 (Emb.add_same _ _ _))⟩
    simp [execOp,ho,Instr.range,ex,Ae ht]
  · cases hv
theorem Yd {t ky el : TypeId} {x : Operand} {u v : Value} (ho : o.op = .range t x) (h : Sim wb ι s.heap w) (ht : P.underlying t = some (.map ky el)) (hx : VRel ι u (a.eval x)) (hv : Lb u s = some (v,s')) :
    OpOk P o a w (Ba wb ι s.heap w s'.heap v):=by
  unfold Lb at hv
  split at hv
  case h_2=>cases hv
  rename_i b
  split at hv
  case h_2=>cases hv
  rename_i es c hes
  split at hv
  · cases hv
  rename_i hni
  cases hv
  obtain ⟨l,hl,ex⟩:=hx.inv_map
  obtain ⟨_,_,o',q1,hm⟩:=h.map b es c hes l hl
  obtain ⟨es',rfl,q2⟩:=hm.map hni
  have hp:=h.pushO (es0:=[(.tuple #[],.map (some b),c)]) (ck0:=0) (ob:=.mapIter (some l.blk) c #[] c) fun κ hle=>.inr (.inr ⟨b,c,l,rfl,hle _ _ hl,rfl⟩)
  refine .inl ⟨.pointer (some ⟨w.heap.size,0,none⟩),w.alloc (.mapIter (some l.blk) c #[] c),?_,_,hp.1,hp.2,.of0 (.ptr (l:=⟨w.heap.size,0,0,0⟩) 0 (Emb.add_same _ _ _))⟩
  simp [execOp,ho,Instr.range,ex,Ae ht,Da q1]
theorem Zap {x : Operand} {u v : Value} (ho : o.op = .next x true) (h : Sim wb ι s.heap w) (hx : VRel ι u (a.eval x)) (hv : Ka u s = some (v,s')) :
    OpOk P o a w (Ba wb ι s.heap w s'.heap v):=by
  unfold Ka at hv
  split at hv
  case h_2=>cases hv
  rename_i b
  split at hv
  case h_2=>cases hv
  rename_i es c hes
  simp only [Option.bind_eq_some_iff] at hv
  obtain ⟨⟨str,pos⟩,hit,hv⟩:=hv
  obtain rfl : es = [(.tuple #[],.string str,pos)]:=by
    unfold VF at hit
    split at hit
    · rename_i a _ _
      split at hit
      · rename_i ha
        cases hit
        have : a = #[]:=by simpa using ha
        rw [this]
      · cases hit
    · cases hit
  obtain ⟨_,l,hl,ex⟩:=hx.inv_ptr
  obtain ⟨hwb,⟨_,hz⟩,ob,hob,hm⟩:=h.map b _ c hes l hl
  obtain ⟨s2,p2,e1,rfl⟩ : ∃ s2 p2,[(Value.tuple #[],Value.string str,pos)] = [(Value.tuple #[],Value.string s2,p2)]∧ob = .stringIter s2 p2:=by
    rcases hm with ⟨es',rfl,hm⟩ | hm | ⟨r,c,l,e,_⟩
    · obtain ⟨e,_,hm⟩:=hm.get 0 _ rfl
      exact absurd hm.2.1 (by simp [A0,AX])
    · exact hm
    · cases e
  cases e1
  have hexec : ∀ {w' v'},(Instr.next (a.eval x) true o.type).run P w = .ok v' w'→(execOp a.eval o).run P w = .ok (.value v') w':=by
    intro w' v' hrun
    simp [execOp,ho,hrun,Result.andThen]
  have hgo : (getObj l.blk).run P w = .ok (.stringIter str pos) w:=by simp [getObj,Sem.run,hob]
  simp only at hv
  split at hv
  · rename_i hlt
    cases hv
    have hltw:=(Array.getElem?_eq_some_iff.1 hob).1
    have hset : (setObj l.blk (.stringIter str (pos + (Utf8.decode str pos).2))).run P w = .ok () { w with heap:=w.heap.setIfInBounds l.blk (.stringIter str (pos + (Utf8.decode str pos).2)) }:=by
      simp [setObj,Sem.run,hob]
    obtain ⟨f1,f2⟩:=h.putO (w':={ w with heap:=w.heap.setIfInBounds l.blk (.stringIter str (pos + (Utf8.decode str pos).2)) }) hes hl (es2:=[(.tuple #[],.string str,pos + (Utf8.decode str pos).2)]) (clock2:=c) (ob:=.stringIter str (pos + (Utf8.decode str pos).2)) (by simp [Array.getElem?_setIfInBounds,hltw]) (fun k hk=>by
      simp only [Array.getElem?_setIfInBounds]
      rw [if_neg (by omega)]) (by simp) rfl rfl rfl (.inr (.inl ⟨str,_,rfl,rfl⟩))
    refine .inl ⟨.tuple #[.bool true,goInt pos,.int .i32 (Utf8.decode str pos).1],_,hexec ?_,ι,f1,f2,.tuple ⟨.l2 (.l1 (.l0 (.bool _))),.l2 (.l1 (.l0 (.int _ _))),.l2 (.l1 (.l0 (.int _ _))),trivial⟩⟩
    rw [ex,hz]
    simp [Instr.next,hgo,hlt,hset,Result.andThen]
  · rename_i hlt
    cases hv
    have hrel : VRel ι (.tuple #[.bool false]) (.tuple #[.bool false]):=.tuple ⟨.l2 (.l1 (.l0 (.bool _))),trivial⟩
    refine AQ h ?_ hrel
    apply hexec
    rw [ex,hz]
    simp [Instr.next,hgo,hlt,Result.andThen]
end ops
end Go.Proofs.YtmbhnbladmpnoaaGreat.Ab
