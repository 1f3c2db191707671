/- The abstract machine with variables in the frame: regions, code, functions. -/
import Derived.Test.YtamaapapaiopiaaAbCore
set_option linter.unusedVariables false
set_option linter.unusedSimpArgs false
set_option linter.unusedSectionVars false
namespace Go.Proofs.Ytamaapapaiopiaa.Ab
open Go

inductive Ex where
  | normal
  | exit (id : Nat)
  | ret
  deriving DecidableEq
abbrev Res := Option (Ex × List Value × St)

/-! ### Frames -/
def putT (T : Fr) (d : Option Tmp) (v : Value) : Fr :=
  match d with
  | some i => setT T i v
  | none => T
/-- which temporary points into which place of the frame -/
abbrev Tn := List (Nat × Nat)
def look (x : Nat) : Tn → Option Nat
  | [] => none
  | (y, j) :: l => cond (Nat.beq x y) (some j) (look x l)
def lookC (x : Nat) (tn : Tn) : Bool := (look x tn).isNone
def poisonV : Value := .tuple #[.tuple #[]]
def toL : List Nat → Fr → List Value
  | [], _ => []
  | d :: l, T => getT T d :: toL l T
/-- a frame of these values alone -/
def ofL : List Nat → Nat → List Value → Fr → Fr
  | [], _, _, T => T
  | d :: l, p, X, T => fun i => cond (Nat.beq i d) (getL X p) (ofL l (p + 1) X T i)
def noT : Fr := fun _ => poisonV
def ofArgs (args : List Value) : Fr := fun i => getL args i
def memN (x : Nat) : List Nat → Bool
  | [] => false
  | y :: l => cond (Nat.beq x y) true (memN x l)
/-- temporaries that point into a place -/
def pointing (j : Nat) : Tn → List Nat
  | [] => []
  | (x, i) :: l => cond (Nat.beq i j) (x :: pointing j l) (pointing j l)
def lptr : Value := .pointer (some ⟨0, 0, none⟩)
def clearT (tn : Tn) (j : Nat) (T : Fr) : Fr := fun i => match look i tn with | some q => cond (Nat.beq q j) undef (T i) | none => T i
def mkT (tn : Tn) (j : Nat) (d : Option Tmp) (c : Value) (T : Fr) : Fr := setT (putT (clearT tn j T) d lptr) j c

/-! ### Operations on places of the frame -/
def lbox (v : Value) : Option Value := if (cellsV v).all isLeaf = true then some (.agg (cellsV v).toArray) else none
def lload (agg : Bool) (n : Nat) (a c : Value) : Option Value :=
  match a, c with
  | .pointer (some ⟨_, off, _⟩), .agg cs => if agg = true then (if off + n ≤ cs.size then some (.agg ((cs.toList.drop off).take n).toArray) else none) else cs.toList[off]?
  | _, _ => none
def lstore (n : Nat) (a v c : Value) : Option Value :=
  match a, c with
  | .pointer (some ⟨_, off, _⟩), .agg cs => if (cellsV v).length = n ∧ (cellsV v).all isLeaf = true ∧ off + n ≤ cs.size then some (.agg (putCells cs.toList off (cellsV v)).toArray) else none
  | _, _ => none

inductive LK where
  | glob | mk (j : Nat) | ld (j : Nat) | st (j : Nat) | ptr (j : Nat) | bad
  deriving DecidableEq
def tOf (tn : Tn) : Operand → Option Nat
  | .tmp t => look t tn
  | _ => none
def cleanO (tn : Tn) (x : Operand) : Bool := (tOf tn x).isNone
def dOf (tn : Tn) (o : Oper) : Option Nat := o.dst.bind fun d => look d tn
def globK (tn : Tn) (o : Oper) : LK := cond (o.op.operands.toList.all (cleanO tn) && (dOf tn o).isNone) .glob .bad
def sameO (x : Option Nat) (j : Nat) : Bool := match x with | some i => Nat.beq i j | none => false
def locK (tn : Tn) (o : Oper) : LK :=
  match o.op with
  | .alloc _ => match dOf tn o with | some j => .mk j | none => globK tn o
  | .box _ x => match dOf tn o with | some j => cond (cleanO tn x) (.mk j) .bad | none => globK tn o
  | .load _ x => match tOf tn x with | some j => cond (dOf tn o).isNone (.ld j) .bad | none => globK tn o
  | .store _ x y => match tOf tn x with | some j => cond (cleanO tn y && (dOf tn o).isNone) (.st j) .bad | none => globK tn o
  | .fieldAddr _ x _ => match tOf tn x with | some j => cond (sameO (dOf tn o) j) (.ptr j) .bad | none => globK tn o
  | .nilCheck x => match tOf tn x with | some j => cond (sameO (dOf tn o) j) (.ptr j) .bad | none => globK tn o
  | .move x => match tOf tn x with | some j => cond (sameO (dOf tn o) j) (.ptr j) .bad | none => globK tn o
  | .assign x => match tOf tn x with | some j => cond (sameO (dOf tn o) j) (.ptr j) .bad | none => globK tn o
  | .indexAddr _ x y => match tOf tn x with | some j => cond (cleanO tn y && sameO (dOf tn o) j) (.ptr j) .bad | none => globK tn o
  | _ => globK tn o

/-- what an operation sets -/
def setsB (tn : Tn) (o : Oper) : List Nat :=
  match locK tn o with
  | .mk j => j :: (o.dst.toList ++ pointing j tn)
  | .st j => j :: o.dst.toList
  | _ => o.dst.toList
def opTmps (o : Oper) : List Nat := o.op.operands.toList.filterMap fun x => match x with | .tmp t => some t | _ => none
def gTmp (ops : Array Oper) (o : Oper) : List Nat :=
  match o.guard with
  | some (j, _) => ((ops[j]?).bind (·.dst)).toList
  | none => []
def readsB (tn : Tn) (ops : Array Oper) (o : Oper) : List Nat :=
  opTmps o ++ gTmp ops o ++ (match locK tn o with | .ld j => [j] | .st j => [j] | _ => [])
def namesB (tn : Tn) (ops : Array Oper) (o : Oper) : List Nat := readsB tn ops o ++ setsB tn o

def guardV {β : Type} (v : Value) (want : Bool) (x y : Option β) : Option β :=
  match v with
  | .bool b => if b = want then x else y
  | .tuple a => if a.isEmpty = true then y else none
  | _ => none

section
variable (P : Program) (call : Caller) (tn : Tn)

def opB {β : Type} (T : Fr) (o : Oper) (s : St) (k : Fr → St → Option β) : Option β :=
  match locK tn o with
  | .glob => evalOp P call T o s fun v s => k (putT T o.dst v) s
  | .ptr _ => evalOp P call T o s fun v s => k (putT T o.dst v) s
  | .mk j => match o.op with
    | .alloc e => (zeroT P e).bind fun z => (lbox z).bind fun c => k (mkT tn j o.dst c T) s
    | .box _ x => (opd T x).bind fun v => (lbox v).bind fun c => k (mkT tn j o.dst c T) s
    | _ => none
  | .ld j => match o.op with
    | .load t a => (opd T a).bind fun a => (aggT P t).bind fun ag => (sizeT P t).bind fun n => (lload ag n a (getT T j)).bind fun v => k (putT T o.dst v) s
    | _ => none
  | .st j => match o.op with
    | .store t a x => (opd T a).bind fun a => (opd T x).bind fun x => (sizeT P t).bind fun n => (lstore n a x (getT T j)).bind fun c => k (putT (setT T j c) o.dst undef) s
    | _ => none
  | .bad => none

/-- the temporary that a guard asks -/
def guardT (ops : Array Oper) (g : Nat × Bool) : Option Nat := (ops[g.1]?).bind (·.dst)

def oneB (ops : Array Oper) (T : Fr) (o : Oper) (s : St) : Option (Fr × St) :=
  match o.guard with
  | none => opB P call tn T o s fun T s => some (T, s)
  | some g => (guardT ops g).bind fun t => if lookC t tn = true then guardV (getT T t) g.2 (opB P call tn T o s fun T s => some (T, s)) (some (putT T o.dst undef, s)) else none

/-! ### What is live -/
def maskL : List Nat → Nat
  | [] => 0
  | x :: l => 2 ^ x ||| maskL l
def lvOp (ops : Array Oper) (o : Oper) (m : Nat) : Nat :=
  let d := maskL (setsB tn o)
  (m ^^^ (m &&& d)) ||| maskL (readsB tn ops o)
def lvOps (ops : Array Oper) : List Oper → Nat → Nat
  | [], m => m
  | o :: l, m => lvOp tn ops o (lvOps ops l m)
structure Lo where
  nrm : Nat
  exs : List (Nat × Nat)
  ret : Nat
def exLo (id : Nat) : List (Nat × Nat) → Nat
  | [] => 0
  | (i, m) :: l => cond (Nat.beq i id) m (exLo id l)
def lvIn : Code → Lo → Nat
  | .skip, lo => lo.nrm
  | .region _ ops _, lo => lvOps tn ops ops.toList lo.nrm
  | .seq a b, lo => lvIn a { lo with nrm := lvIn b lo }
  | .cond c a b, lo => (match c with | .tmp t => 2 ^ t | _ => 0) ||| (lvIn a lo ||| lvIn b lo)
  | .block id a, lo => lvIn a { lo with exs := (id, lo.nrm) :: lo.exs }
  | .loop a, lo => lvIn a { lo with nrm := 0 }
  | .exit id, lo => exLo id lo.exs
  | .ret, lo => lo.ret
  | _, _ => 0
def bitsN (m : Nat) : Nat → Nat → List Nat
  | 0, _ => []
  | k + 1, i => cond (m.testBit i) (i :: bitsN m k (i + 1)) (bitsN m k (i + 1))

/-! ### Regions in the text's order, by guards -/
def seqB {β : Type} : List Oper → Fr → St → (Fr → St → Option β) → Option β
  | [], T, s, k => k T s
  | o :: l, T, s, k => opB P call tn T o s fun T s => seqB l T s k
abbrev Grp := Option (Nat × Bool) × List Oper
def sameG (g h : Nat × Bool) : Bool := Nat.beq g.1 h.1 && (g.2 == h.2)
def grpC (o : Oper) : List Grp → List Grp
  | (some h, os) :: r => match o.guard with
    | some g => cond (sameG g h) ((some h, o :: os) :: r) ((some g, [o]) :: (some h, os) :: r)
    | none => (none, [o]) :: (some h, os) :: r
  | r => (o.guard, [o]) :: r
def grp : List Oper → List Grp
  | [] => []
  | o :: l => grpC o (grp l)
def setsL : List Oper → List Nat
  | [] => []
  | o :: l => setsB tn o ++ setsL l
def dedup : List Nat → List Nat
  | [] => []
  | x :: l => cond (memN x l) (dedup l) (x :: dedup l)
def keepLive (m : Nat) : List Nat → List Nat
  | [] => []
  | x :: l => cond (m.testBit x) (x :: keepLive m l) (keepLive m l)
def skipT : List Oper → Fr → Fr
  | [], T => T
  | o :: l, T => skipT l (putT T o.dst undef)
def killT (l : List Nat) (T : Fr) : Fr := fun i => cond (memN i l) poisonV (T i)
def opsOf : List Grp → List Oper
  | [] => []
  | g :: r => g.2 ++ opsOf r
/-- no operation sets the temporary -/
def noSet (t : Nat) : List Oper → Bool
  | [] => true
  | o :: l => !memN t (setsB tn o) && noSet t l
def grpsB {β : Type} (ops : Array Oper) (m : Nat) : List Grp → Fr → St → (Fr → St → Option β) → Option β
  | [], T, s, k => k T s
  | (none, os) :: r, T, s, k => seqB P call tn os T s fun T s => grpsB ops m r T s k
  | (some g, os) :: r, T, s, k => (guardT ops g).bind fun t => if (lookC t tn && noSet tn t os) = true then
      (guardV (getT T t) g.2 (seqB P call tn os T s fun T' s => some (toL (keepLive (lvOps tn ops (opsOf r) m) (dedup (setsL tn os))) T', s))
        (some (toL (keepLive (lvOps tn ops (opsOf r) m) (dedup (setsL tn os))) (skipT os T), s))).bind fun q =>
      grpsB ops m r (ofL (keepLive (lvOps tn ops (opsOf r) m) (dedup (setsL tn os))) 0 q.1 (killT (setsL tn os) T)) q.2 k
    else none

/-! ### Regions whose order is open -/
/-- what an operation does to memory: 0 nothing; 1 it reads, or makes new blocks; 2 it writes; 3 a call -/
def clsOf (o : Oper) : Nat :=
  match o.op with
  | .move _ | .assign _ | .pick .. | .build .. | .nilCheck _ | .binOp .. | .unOp .. | .makeInterface .. | .makeFunc .. | .fieldAddr .. | .field .. | .indexAddr .. | .index .. | .extract .. => 0
  | .convert src dst _ => match P.underlying src, P.underlying dst with
    | some (.int _), some (.int _) => 0
    | some (.slice _), some (.slice _) => 2
    | _, _ => 1
  | .slice t _ _ _ _ => match P.underlying t with
    | some .string | some (.slice _) => 0
    | _ => 1
  | .alloc _ | .box _ _ | .buildSlice .. | .makeSlice .. | .load .. => 1
  | .call c => match c.callee with
    | .builtin .len => 1
    | .builtin .min | .builtin .max => 0
    | .builtin _ => 2
    | _ => 3
  | _ => 2
def clsB (o : Oper) : Nat :=
  match locK tn o with
  | .glob => clsOf P o
  | _ => 0

def bitsOf (acc : List Nat) : List Edge → Nat
  | [] => 0
  | e :: l => if Region.binds .any e then 2 ^ e.on ||| acc.getD e.on 0 ||| bitsOf acc l else bitsOf acc l
def beforeL (acc : List Nat) : List Oper → List Nat
  | [] => acc
  | o :: l => beforeL (acc ++ [bitsOf acc o.after.toList]) l
def maskN (f : Nat → Bool) : Nat → Nat
  | 0 => 0
  | n + 1 => maskN f n ||| cond (f n) (2 ^ n) 0
/-- in some order to the i-th, or itself -/
def cmpM (bf : List Nat) (n i : Nat) : Nat := bf.getD i 0 ||| (2 ^ i ||| maskN (fun j => (bf.getD j 0).testBit i) n)
def subM (a b : Nat) : Bool := Nat.beq (a ||| b) b
def memMask : Nat → List Oper → Nat
  | _, [] => 0
  | i, o :: l => cond (Nat.beq (clsB P tn o) 0) (memMask (i + 1) l) (2 ^ i ||| memMask (i + 1) l)
inductive DMode where
  | pure | quiet | own | store | bad
  deriving DecidableEq
def modeB (bf : List Nat) (n mm i : Nat) (o : Oper) : DMode :=
  match clsB P tn o with
  | 0 => .pure
  | c => cond (subM mm (cmpM bf n i)) .own (cond (Nat.beq c 2) (match o.op with | .store .. => .store | _ => .bad) .quiet)
def namersM (ops : Array Oper) (x : Nat) : Nat → List Oper → Nat
  | _, [] => 0
  | i, o :: l => cond (memN x (namesB tn ops o)) (2 ^ i ||| namersM ops x (i + 1) l) (namersM ops x (i + 1) l)
/-- whoever sets a place of the frame is in order with all who name it -/
def tmpsB (ops : Array Oper) (bf : List Nat) : Nat → List Oper → Bool
  | _, [] => true
  | i, o :: l => (setsB tn o).all (fun x => subM (namersM tn ops x 0 ops.toList) (cmpM bf ops.size i)) && tmpsB ops bf (i + 1) l
def edgesB : Nat → List Oper → Bool
  | _, [] => true
  | i, o :: l => o.after.toList.all (fun e => !Region.binds .any e || decide (e.on < i)) && (match o.op with | .select .. => false | _ => true) && edgesB (i + 1) l
def drawOk (ops : Array Oper) : Bool :=
  P.follows .mixedOrders && edgesB 0 ops.toList && tmpsB tn ops (beforeL [] ops.toList) 0 ops.toList

/-- the temporary, set before the region, whose block a store is to -/
def baseOf (ops : List Oper) : Nat → Operand → Option Tmp
  | 0, _ => none
  | k + 1, .tmp t => match ops.find? fun o => o.dst == some t with
    | none => some t
    | some o => match o.op with
      | .fieldAddr _ x _ => baseOf ops k x
      | .move x => baseOf ops k x
      | .nilCheck x => baseOf ops k x
      | _ => none
  | _ + 1, _ => none
/-- the block that a store is to -/
def targetOf (ops : List Oper) (T : Fr) (n : Nat) (o : Oper) : Option Nat :=
  match o.op with
  | .store _ a _ => (baseOf ops (ops.length + 1) a).bind fun t => match getT T t with
    | .pointer (some a) => if a.block < n then some a.block else none
    | _ => none
  | _ => none
/-- the blocks that those stores are to that are in no order to this operation -/
def killsOf (ops : List Oper) (bf : List Nat) (n mm : Nat) (T : Fr) (n0 i : Nat) : Nat → List Oper → List Nat
  | _, [] => []
  | j, o :: l => match modeB P tn bf n mm j o with
    | .store => if (cmpM bf n i).testBit j = true then killsOf ops bf n mm T n0 i (j + 1) l else (targetOf ops T n0 o).toList ++ killsOf ops bf n mm T n0 i (j + 1) l
    | _ => killsOf ops bf n mm T n0 i (j + 1) l

def deadB : Blk → Blk
  | .row n c _ => .row n c .dead
  | .map _ _ => .row 0 [] .dead
def frzB : Blk → Blk
  | .row n c .act => .row n c .ro
  | .row n c st => .row n c st
  | .map _ _ => .row 0 [] .dead
/-- as one sees it who may not write -/
def frzK (K : List Nat) : Nat → List Blk → List Blk
  | _, [] => []
  | i, b :: l => (if K.contains i then deadB b else frzB b) :: frzK K (i + 1) l
def onlyB (t : Nat) : Nat → List Blk → List Blk
  | _, [] => []
  | i, b :: l => (if i = t then b else deadB b) :: onlyB t (i + 1) l

/-- new blocks alone stay -/
def quietR {α : Type} (s : St) (r : α × St) : α × St := (r.1, ⟨s.heap ++ r.2.heap.drop s.heap.length⟩)
def ownR {α : Type} (s : St) (r : α × St) : Option (α × St) := if s.heap.length ≤ r.2.heap.length then some r else none
/-- it looks, and makes nothing -/
def looks (o : Oper) : Bool :=
  match o.op with
  | .load .. => true
  | .call c => match c.callee with
    | .builtin .len => true
    | _ => false
  | .convert src dst _ => match P.underlying src, P.underlying dst with
    | some (.slice _), some .string => true
    | _, _ => false
  | _ => false

/-- a value of an operation that isn't at a place of the frame -/
def valB (ops : Array Oper) (T : Fr) (o : Oper) (s : St) : Option (Value × St) :=
  match o.guard with
  | none => evalOp P call T o s fun v s => some (v, s)
  | some g => (guardT ops g).bind fun t => if lookC t tn = true then guardV (getT T t) g.2 (evalOp P call T o s fun v s => some (v, s)) (some (undef, s)) else none

/-- an operation whose order is open: by its mode -/
def drawB (ops : Array Oper) (bf : List Nat) (mm : Nat) (T0 : Fr) (n0 i : Nat) (o : Oper) (T : Fr) (s : St) : Option (Fr × St) :=
  match modeB P tn bf ops.size mm i o with
  | .pure => oneB P call tn ops T o s
  | .own => (valB P call tn ops T o s).bind fun r => (ownR s r).bind fun r => some (putT T o.dst r.1, r.2)
  | .quiet => (valB P call tn ops T o ⟨frzK (killsOf P tn ops.toList bf ops.size mm T0 n0 i 0 ops.toList) 0 s.heap⟩).bind fun r => some (putT T o.dst r.1, (quietR s r).2)
  | .store => (targetOf ops.toList T0 n0 o).bind fun t => if (killsOf P tn ops.toList bf ops.size mm T0 n0 i 0 ops.toList).contains t then none else
      (valB P call tn ops T o ⟨onlyB t 0 s.heap⟩).bind fun r => (r.2.heap[t]?).bind fun b => some (putT T o.dst r.1, ⟨s.heap.set t b ++ r.2.heap.drop s.heap.length⟩)
  | .bad => none
/-- a region whose order is open: the text's order stands for all -/
def drawsB (ops : Array Oper) (bf : List Nat) (mm : Nat) (T0 : Fr) (n0 : Nat) : Nat → List Oper → Fr → St → Option (Fr × St)
  | _, [], T, s => some (T, s)
  | i, o :: rest, T, s => (drawB P call tn ops bf mm T0 n0 i o T s).bind fun r => drawsB ops bf mm T0 n0 (i + 1) rest r.1 r.2

/-- the same, with what follows -/
def oneK {β : Type} (ops : Array Oper) (T : Fr) (o : Oper) (s : St) (k : Fr → St → Option β) : Option β :=
  match o.guard with
  | none => opB P call tn T o s k
  | some g => (guardT ops g).bind fun t => if lookC t tn = true then
      (guardV (getT T t) g.2 (opB P call tn T o s fun T' s => some (toL (dedup (setsB tn o)) T', s)) (some (toL (dedup (setsB tn o)) (putT T o.dst undef), s))).bind fun q => k (ofL (dedup (setsB tn o)) 0 q.1 (killT (setsB tn o) T)) q.2
    else none
def drawK {β : Type} (ops : Array Oper) (bf : List Nat) (mm : Nat) (T0 : Fr) (n0 i : Nat) (o : Oper) (T : Fr) (s : St) (k : Fr → St → Option β) : Option β :=
  match modeB P tn bf ops.size mm i o with
  | .pure => oneK P call tn ops T o s k
  | .own => ((valB P call tn ops T o s).bind (ownR s)).bind fun r => k (putT T o.dst r.1) r.2
  | .quiet => if looks P o = true then (valB P call tn ops T o ⟨frzK (killsOf P tn ops.toList bf ops.size mm T0 n0 i 0 ops.toList) 0 s.heap⟩).bind fun r => k (putT T o.dst r.1) s
    else ((valB P call tn ops T o ⟨frzK (killsOf P tn ops.toList bf ops.size mm T0 n0 i 0 ops.toList) 0 s.heap⟩).map (quietR s)).bind fun r => k (putT T o.dst r.1) r.2
  | .store => (targetOf ops.toList T0 n0 o).bind fun t => if (killsOf P tn ops.toList bf ops.size mm T0 n0 i 0 ops.toList).contains t then none else
      (valB P call tn ops T o ⟨onlyB t 0 s.heap⟩).bind fun r => (r.2.heap[t]?).bind fun b => k (putT T o.dst r.1) ⟨s.heap.set t b ++ r.2.heap.drop s.heap.length⟩
  | .bad => none
def drawsK {β : Type} (ops : Array Oper) (bf : List Nat) (mm : Nat) (T0 : Fr) (n0 : Nat) : Nat → List Oper → Fr → St → (Fr → St → Option β) → Option β
  | _, [], T, s, k => k T s
  | i, o :: rest, T, s, k => drawK P call tn ops bf mm T0 n0 i o T s fun T s => drawsK ops bf mm T0 n0 (i + 1) rest T s k

/-! ### Regions with an 'append' in no order to others -/
/-- 'append', of which temporaries -/
def appO (o : Oper) : Option (Nat × Nat) :=
  match o.op with
  | .call c => match c.callee, c.args.toList with
    | .builtin .append, [.tmp x, .tmp y] => some (x, y)
    | _, _ => none
  | _ => none
/-- a call of a function that is given some bytes first, and gives such: it may write behind them -/
def tmpO : Operand → List Nat
  | .tmp t => [t]
  | _ => []
def callO (o : Oper) : Option (List Nat) :=
  match o.op with
  | .call c => match c.callee with
    | .value (.func g) => match P.funcs[g]? with
      | some fn => match fn.params.toList, fn.resultTypes.toList with
        | t :: _, [u] => if Nat.beq t u = true then (match P.underlying t with
          | some (.slice e) => match P.underlying e with
            | some (.int .u8) => some (c.args.toList.flatMap tmpO)
            | _ => none
          | _ => none) else none
        | _, _ => none
      | none => none
    | _ => none
  | _ => none
def appX (o : Oper) : Option (List Nat) :=
  match appO o with
  | some p => some [p.1, p.2]
  | none => callO P o
def modeA (bf : List Nat) (n mm i : Nat) (o : Oper) : DMode :=
  match modeB P tn bf n mm i o with
  | .quiet => if (callO P o).isSome = true then .bad else .quiet
  | m => m
def blkV : Value → List Nat
  | .slice (some a) _ _ => [a.block]
  | _ => []
/-- the blocks of an 'append' -/
def blksV : List Value → List Nat
  | [] => []
  | v :: l => blkV v ++ blksV l
def appT (T1 : Fr) (o : Oper) : List Nat :=
  match appX P o with
  | some l => blksV (l.map (getT T1))
  | none => []
/-- the blocks of those 'append's that are in no order to this operation -/
def killsA (bf : List Nat) (n mm : Nat) (T1 : Fr) (i : Nat) : Nat → List Oper → List Nat
  | _, [] => []
  | j, o :: l => match modeA P tn bf n mm j o with
    | .bad => if (cmpM bf n i).testBit j = true then killsA bf n mm T1 i (j + 1) l else appT P T1 o ++ killsA bf n mm T1 i (j + 1) l
    | _ => killsA bf n mm T1 i (j + 1) l
/-- the temporaries of the region's 'append's -/
def appTmps (bf : List Nat) (n mm : Nat) : Nat → List Oper → List Nat
  | _, [] => []
  | j, o :: l => match modeA P tn bf n mm j o with
    | .bad => (match appX P o with | some p => p ++ appTmps bf n mm (j + 1) l | none => appTmps bf n mm (j + 1) l)
    | _ => appTmps bf n mm (j + 1) l
def onlyL (B : List Nat) : Nat → List Blk → List Blk
  | _, [] => []
  | i, b :: l => (if B.contains i then b else deadB b) :: onlyL B (i + 1) l
def mergeB (B : List Nat) (R : List Blk) : Nat → List Blk → List Blk
  | _, [] => []
  | i, b :: l => (if B.contains i then (R[i]?).getD b else b) :: mergeB B R (i + 1) l
def apartL (K : List Nat) (a b : Nat) : Bool := K.all fun x => decide (x < a) || decide (b ≤ x)
def apartR {α : Type} (K : List Nat) (s : St) (r : α × St) : Option (α × St) := if apartL K s.heap.length r.2.heap.length = true then some (quietR s r) else none
def appR {α : Type} (B K : List Nat) (s : St) (r : α × St) : Option (α × St) :=
  if (B.all (fun b => !K.contains b) && Nat.ble s.heap.length r.2.heap.length && apartL K s.heap.length r.2.heap.length) = true then some (r.1, ⟨mergeB B r.2.heap 0 s.heap ++ r.2.heap.drop s.heap.length⟩) else none
def drawA (ops : Array Oper) (bf : List Nat) (mm : Nat) (T1 : Fr) (i : Nat) (o : Oper) (T : Fr) (s : St) : Option (Fr × St) :=
  match modeA P tn bf ops.size mm i o with
  | .pure => oneB P call tn ops T o s
  | .own => (valB P call tn ops T o s).bind fun r => (ownR s r).bind fun r => some (putT T o.dst r.1, r.2)
  | .quiet => (valB P call tn ops T o ⟨frzK (killsA P tn bf ops.size mm T1 i 0 ops.toList) 0 s.heap⟩).bind fun r => (apartR (killsA P tn bf ops.size mm T1 i 0 ops.toList) s r).bind fun r => some (putT T o.dst r.1, r.2)
  | .store => none
  | .bad => if (appX P o).isSome = true then (valB P call tn ops T o ⟨onlyL (appT P T1 o) 0 s.heap⟩).bind fun r => (appR (appT P T1 o) (killsA P tn bf ops.size mm T1 i 0 ops.toList) s r).bind fun r => some (putT T o.dst r.1, r.2) else none
def drawsA (ops : Array Oper) (bf : List Nat) (mm : Nat) (T1 : Fr) : Nat → List Oper → Fr → St → Option (Fr × St)
  | _, [], T, s => some (T, s)
  | i, o :: rest, T, s => (drawA P call tn ops bf mm T1 i o T s).bind fun r => drawsA ops bf mm T1 (i + 1) rest r.1 r.2
/-- the same, with what follows -/
def drawAK {β : Type} (ops : Array Oper) (bf : List Nat) (mm : Nat) (T1 : Fr) (i : Nat) (o : Oper) (T : Fr) (s : St) (k : Fr → St → Option β) : Option β :=
  match modeA P tn bf ops.size mm i o with
  | .pure => oneK P call tn ops T o s k
  | .own => ((valB P call tn ops T o s).bind (ownR s)).bind fun r => k (putT T o.dst r.1) r.2
  | .quiet => ((valB P call tn ops T o ⟨frzK (killsA P tn bf ops.size mm T1 i 0 ops.toList) 0 s.heap⟩).bind (apartR (killsA P tn bf ops.size mm T1 i 0 ops.toList) s)).bind fun r => k (putT T o.dst r.1) r.2
  | .store => none
  | .bad => if (appX P o).isSome = true then ((valB P call tn ops T o ⟨onlyL (appT P T1 o) 0 s.heap⟩).bind (appR (appT P T1 o) (killsA P tn bf ops.size mm T1 i 0 ops.toList) s)).bind fun r => k (putT T o.dst r.1) r.2 else none
def drawsAK {β : Type} (ops : Array Oper) (bf : List Nat) (mm : Nat) (T1 : Fr) : Nat → List Oper → Fr → St → (Fr → St → Option β) → Option β
  | _, [], T, s, k => k T s
  | i, o :: rest, T, s, k => drawAK P call tn ops bf mm T1 i o T s fun T s => drawsAK ops bf mm T1 (i + 1) rest T s k
/-- the region in the text's order: what the 'append's are given -/
def dryB (ops : Array Oper) (L : List Nat) : List Oper → Fr → St → Option (List Value)
  | [], T, s => some (toL L T)
  | o :: l, T, s => (oneB P call tn ops T o s).bind fun r => dryB ops L l r.1 r.2
def dryK (ops : Array Oper) (L : List Nat) : List Oper → Fr → St → Option (List Value)
  | [], T, s => some (toL L T)
  | o :: l, T, s => oneK P call tn ops T o s fun T s => dryK ops L l T s
def hasApp (bf : List Nat) (n mm : Nat) : Nat → List Oper → Bool
  | _, [] => false
  | j, o :: l => (match modeA P tn bf n mm j o with | .bad => (appX P o).isSome | _ => false) || hasApp bf n mm (j + 1) l

/-! ### Code -/
def seqA (m : Res) (k : List Value → St → Res) : Res :=
  m.bind fun r => match r.1 with
    | .normal => k r.2.1 r.2.2
    | e => some (e, r.2.1, r.2.2)
/-- so many rounds at the most -/
def loopN (body : List Value → St → Res) : Nat → List Value → St → Res
  | 0, _, _ => none
  | m + 1, T, s => seqA (body T s) (loopN body m)
def condV {β : Type} (v : Value) (a b : Option β) : Option β :=
  match v with
  | .bool x => if x = true then a else b
  | _ => none
def lookE {β : Type} (j : Nat) : List (Nat × Option β) → Option β
  | [] => none
  | (i, x) :: l => if j = i then x else lookE j l
/-- behind a loop: by how it was left -/
def exV {β : Type} (e : Ex) (l : List (Nat × Option β)) (r : Option β) : Option β :=
  match e with
  | .exit j => lookE j l
  | .ret => r
  | .normal => none
/-- where ways meet -/
def joinK {β : Type} (F : List Value → St → Option β) (X : List Value) (s : St) : Option β := F X s
/-- the exits by which a piece of code may be left -/
def exitIds : Code → List Nat
  | .seq a b => exitIds a ++ (exitIds b).filter fun i => !(exitIds a).contains i
  | .cond _ a b => exitIds a ++ (exitIds b).filter fun i => !(exitIds a).contains i
  | .block id a => (exitIds a).filter fun i => i != id
  | .loop a => exitIds a
  | .exit id => [id]
  | _ => []
def hasRet : Code → Bool
  | .seq a b => hasRet a || hasRet b
  | .cond _ a b => hasRet a || hasRet b
  | .block _ a => hasRet a
  | .loop a => hasRet a
  | .ret => true
  | _ => false
def smallC : Code → Bool
  | .skip | .exit _ | .ret => true
  | _ => false
/-- how often a piece of code is left normally, and by an exit -/
def cntC : Code → Nat × List (Nat × Nat)
  | .seq a b => match cntC a with
    | (0, x) => (0, x)
    | (k, x) => match cntC b with
      | (m, y) => (cond (Nat.ble 2 k && !smallC b) m (k * m), x ++ y)
  | .cond _ a b => ((cntC a).1 + (cntC b).1, (cntC a).2 ++ (cntC b).2)
  | .block id a => ((cntC a).1 + ((cntC a).2.foldl (fun n e => cond (Nat.beq e.1 id) (n + e.2) n) 0), (cntC a).2.filter fun e => !Nat.beq e.1 id)
  | .loop a => (0, (exitIds a).map fun i => (i, 1))
  | .exit id => (0, [(id, 1)])
  | .ret => (0, [])
  | _ => (1, [])
def joinB (a b : Code) : Bool := Nat.ble 2 (cntC a).1 && !smallC b

def liveE (w : Nat) (L : List Nat) (lo : Lo) : Ex → List Nat
  | .normal => L
  | .exit j => bitsN (exLo j lo.exs) w 0
  | .ret => bitsN lo.ret w 0

/-- w: how many places a frame has -/
def codeB (lp : (List Value → St → Res) → List Value → St → Res) (w : Nat) : Code → Lo → {β : Type} → Fr → St → (Ex → Fr → St → Option β) → Option β
  | .skip, _, _, T, s, k => k .normal T s
  | .region _ ops false, lo, _, T, s, k => grpsB P call tn ops lo.nrm (grp ops.toList) T s fun T s => k .normal T s
  | .region _ ops true, _, _, T, s, k => if drawOk P tn ops = true then
      cond (hasApp P tn (beforeL [] ops.toList) ops.size (memMask P tn 0 ops.toList) 0 ops.toList)
        ((dryK P call tn ops (appTmps P tn (beforeL [] ops.toList) ops.size (memMask P tn 0 ops.toList) 0 ops.toList) ops.toList T s).bind fun X =>
          drawsAK P call tn ops (beforeL [] ops.toList) (memMask P tn 0 ops.toList) (ofL (appTmps P tn (beforeL [] ops.toList) ops.size (memMask P tn 0 ops.toList) 0 ops.toList) 0 X noT) 0 ops.toList T s fun T s => k .normal T s)
        (drawsK P call tn ops (beforeL [] ops.toList) (memMask P tn 0 ops.toList) T s.heap.length 0 ops.toList T s fun T s => k .normal T s) else none
  | .seq a b, lo, _, T, s, k => codeB lp w a { lo with nrm := lvIn tn b lo } T s fun e T s => match e with
    | .normal => cond (joinB a b) (joinK (fun X s => codeB lp w b lo (ofL (bitsN (lvIn tn b lo) w 0) 0 X noT) s k) (toL (bitsN (lvIn tn b lo) w 0) T) s) (codeB lp w b lo T s k)
    | .exit id => k (.exit id) T s
    | .ret => k .ret T s
  | .cond c a b, lo, _, T, s, k => if cleanO tn c = true then (opd T c).bind fun v => condV v (codeB lp w a lo T s k) (codeB lp w b lo T s k) else none
  | .block id a, lo, _, T, s, k => codeB lp w a { lo with exs := (id, lo.nrm) :: lo.exs } T s fun e T s => match e with
    | .exit j => if j = id then k .normal T s else k (.exit j) T s
    | .normal => k .normal T s
    | .ret => k .ret T s
  | .loop a, lo, _, T, s, k => (lp (fun X s => codeB lp w a { lo with nrm := lvIn tn (.loop a) lo } (ofL (bitsN (lvIn tn (.loop a) lo) w 0) 0 X noT) s fun e T s => some (e, toL (liveE w (bitsN (lvIn tn (.loop a) lo) w 0) lo e) T, s))
        (toL (bitsN (lvIn tn (.loop a) lo) w 0) T) s).bind fun r =>
      exV r.1 ((exitIds a).map fun i => (i, k (.exit i) (ofL (bitsN (exLo i lo.exs) w 0) 0 r.2.1 noT) r.2.2)) (if hasRet a = true then k .ret (ofL (bitsN lo.ret w 0) 0 r.2.1 noT) r.2.2 else none)
  | .exit id, _, _, T, s, k => k (.exit id) T s
  | .ret, _, _, T, s, k => k .ret T s
  | _, _, _, _, _, _ => none

/-! ### Functions -/
def noTup : Value → Bool
  | .tuple _ => false
  | _ => true
def resPack : List Value → Value
  | [v] => v
  | vs => .tuple vs.toArray
def retV (vs : List Value) (s : St) : Option (Value × St) := if vs.all noTup = true then some (resPack vs, s) else none
def resK {β : Type} (T : Fr) (s : St) : List ResultVar → (List Value → Option β) → Option β
  | [], k => k []
  | .tmp t :: l, k => if lookC t tn = true then resK T s l fun vs => k (getT T t :: vs) else none
  | .cell a t :: l, k => match look a tn with
    | none => (aggT P t).bind fun ag => (sizeT P t).bind fun n => (aload ag n (getT T a) s).bind fun v => resK T s l fun vs => k (v :: vs)
    | some j => (aggT P t).bind fun ag => (sizeT P t).bind fun n => (lload ag n (getT T a) (getT T j)).bind fun v => resK T s l fun vs => k (v :: vs)
def doneK (rs : List ResultVar) (e : Ex) (T : Fr) (s : St) : Option (Value × St) :=
  match e with
  | .exit _ => none
  | .normal => resK P tn T s rs fun vs => retV vs s
  | .ret => resK P tn T s rs fun vs => retV vs s
def resMask : List ResultVar → Nat
  | [] => 0
  | .tmp t :: l => 2 ^ t ||| resMask l
  | .cell a _ :: l => 2 ^ a ||| ((match look a tn with | some j => 2 ^ j | none => 0) ||| resMask l)
/-- n: a frame's temporaries, m: the arguments -/
def tnOk (n m : Nat) : Tn → Bool
  | [] => true
  | (x, j) :: l => Nat.ble m x && Nat.ble (x + 1) n && Nat.ble n j && tnOk n m l
def widthT (n : Nat) : Tn → Nat
  | [] => n
  | (_, j) :: l => Nat.max (j + 1) (widthT n l)

def bodyB (lp : (List Value → St → Res) → List Value → St → Res) (fn : Func) (args : List Value) (s : St) : Option (Value × St) :=
  fn.body.bind fun c => if Nat.ble args.length fn.ntmps && tnOk fn.ntmps args.length tn then
    codeB P call tn lp (widthT fn.ntmps tn) c ⟨resMask tn fn.results.toList, [], resMask tn fn.results.toList⟩ (ofArgs args) s (doneK P tn fn.results.toList) else none
end

/-- functions of the library, or proved before, by what is known of them -/
abbrev Lib := FuncId → Option (List Value → St → Option (Value × St))
/-- of each function: which of its temporaries point into places of its frame -/
abbrev Hints := FuncId → Tn

/-- so many rounds, and calls within calls, at the most -/
def fnB (P : Program) (lib : Lib) (hints : Hints) : Nat → Caller
  | 0, _, _, _ => none
  | j + 1, f, args, s =>
    match lib f with
    | some g => g args s
    | none => (P.funcs[f]?).bind fun fn => bodyB P (fnB P lib hints j) (hints f) (fun b => loopN b j) fn args s

end Go.Proofs.Ytamaapapaiopiaa.Ab
