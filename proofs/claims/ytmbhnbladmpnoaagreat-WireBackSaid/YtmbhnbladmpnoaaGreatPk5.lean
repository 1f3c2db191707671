/- Texts of this proof, packed: OpLists, OpArg, WrVal, BList2, BList3, BOwn, BRead, LnGet, RcFun, FxNum, FxOct, FxRead, FxOctT, OctNum, WrForm, WrForm2, FxSum, FxCrc, FxBase, FxEncN, FxEnc, FrOut, FrFun, FrOpen, FxBurst, FrFacts, FrSeal, WrH, WrGood, WrGood2, WrAll, SameVal. -/
import Derived.Test.YtmbhnbladmpnoaaGreatPk4
import Derived.ChangeSame
import Derived.WideShapes
set_option linter.unusedVariables false
set_option linter.unusedSimpArgs false
set_option linter.unusedSectionVars false
/- Lists of operations,and maps: which may be; what operations touch. -/
namespace Go.Proofs.YtmbhnbladmpnoaaGreat.Ab
open Go
theorem Pe {a b : BL} (h : sv a = sv b) : a = b:=by
  unfold sv at h
  injection h with h
  have:=congrArg (fun x : ByteArray=>x.data.toList) h
  simpa using this
theorem YN {k : IntKind} {a b : Int} (h : Value.int k a = .int k b) : a = b:=by injection h
def prC : Cod Rg where
  n:=2
  enc r:=[sv r.1,sv r.2]
  pos:=by decide
  len _:=rfl
  inj a b h:=by
    simp only [List.cons.injEq,and_true] at h
    exact Prod.ext (Pe h.1) (Pe h.2)
  leaf _:=rfl
def opC : Cod OpT where
  n:=6
  enc:=oC
  pos:=by decide
  len _:=rfl
  inj a b h:=by
    obtain ⟨a1,a2,a3,a4,a5,a6⟩:=a
    obtain ⟨b1,b2,b3,b4,b5,b6⟩:=b
    simp only [oC,List.cons.injEq,and_true] at h
    obtain ⟨h1,h2,h3,h4,h5,h6⟩:=h
    rw [YN h1,Pe h2,Pe h3,Pe h4,Pe h5,YN h6]
  leaf _:=rfl
theorem Zce (r : Rg) : Value.agg (prC.enc r).toArray = rv r:=rfl
theorem Zcf (o : OpT) : Value.agg (opC.enc o).toArray = oV o:=rfl
theorem Ej {n : Nat} (h : n < 140737488355328) : IntKind.wrap .i64 ((n : Int) + 1) = ((n + 1 : Nat) : Int):=by rw [wrap_i64 (by omega) (by omega)]; omega
theorem E1 {α : Type} {l rest : List α} {a : α} {i : Nat} (h : l.drop i = a :: rest) : ∃ hi : i < l.length,l[i] = a∧l.drop (i + 1) = rest:=by
  have hi : i < l.length:=by
    rcases Nat.lt_or_ge i l.length with h1 | h1
    · exact h1
    · rw [List.drop_eq_nil_of_le h1] at h; cases h
  refine ⟨hi,?_,?_⟩
  · rw [List.drop_eq_getElem_cons hi] at h
    exact (List.cons.inj h).1
  · rw [List.drop_eq_getElem_cons hi] at h
    exact (List.cons.inj h).2
def allE : List OpT→Int
  | []=>0
  | o :: l=>if ckO o = 0 then allE l else ckO o
theorem In (o : OpT) (l : List OpT) : allE (o :: l) = if ckO o = 0 then allE l else ckO o:=rfl
def chkE (l : List OpT) : Int:=if l.length = 0 ∨ 4 < l.length then 3 else allE l
def endR (e : Int) : Ex × List Value:=if e = 0 then (.exit 0,[]) else (.ret,[.int .i64 e])
theorem ZaI {R : Aa} (hC : ∀ o s,R 138 [oV o] s = some (.int .i64 (ckO o),s)) {v : Value} {s : St} {l : List OpT} (h : Bj opC v s = some l) (hl : l.length < 140737488355328) : ∀ (rest : List OpT) (i : Nat),l.drop i = rest→i ≤ l.length →
    AS (Mp.b0 R) [v,.int .i64 ((l.length : Nat) : Int),.int .i64 (i : Int)] s = some ((endR (allE rest)).1,(endR (allE rest)).2,s):=by
  intro rest
  induction rest with
  | nil =>
    intro i hi hle
    have h1 : decide ((i : Int) < ((l.length : Nat) : Int)) = false:=by
      have:=List.drop_eq_nil_iff.1 hi
      simp; omega
    rw [Ar]
    simp only [Mp.b0,h1,EVs]
    rfl
  | cons o rest ih =>
    intro i hi hle
    obtain ⟨hlt,he,hd⟩:=E1 hi
    have h1 : decide ((i : Int) < ((l.length : Nat) : Int)) = true:=by simp; omega
    obtain ⟨p,h2,h3⟩:=Lr h hlt (k:=.i64) (n:=6) rfl
    rw [Zcf,he] at h3
    rw [Ar]
    simp only [Mp.b0,h1,h2,h3,o_st,Xg,If,hC,EVs]
    by_cases h4 : ckO o = 0
    · have h5 : (ckO o != 0) = false:=by simp [h4]
      simp only [h5,Ej (show i < 140737488355328 by omega),EVs]
      rw [ih (i + 1) hd (by omega)]
      rw [In,if_pos h4]
    · have h5 : (ckO o != 0) = true:=by simp [h4]
      simp only [h5,EVs]
      rw [In,if_neg h4]
      unfold endR
      rw [if_neg h4]
theorem ZaJ {R : Aa} (hC : ∀ o s,R 138 [oV o] s = some (.int .i64 (ckO o),s)) {v : Value} {s : St} {l : List OpT} (h : Bj opC v s = some l) (hl : l.length < 140737488355328) : Mp R v s = some (.int .i64 (allE l),s):=by
  have h1:=ZaI hC h hl l 0 rfl (Nat.zero_le _)
  rw [show ((0 : Nat) : Int) = 0 from rfl] at h1
  unfold Mp
  simp only [Dd h,h1,EVs]
  unfold endR
  by_cases h2 : allE l = 0
  · simp only [if_pos h2,EVs,retV,h2]
    rfl
  · simp only [if_neg h2,EVs,retV]
    rfl
theorem U9 {R : Aa} (hC : ∀ o s,R 115 [oV o] s = some (.int .i64 (ckO o),s)) {v : Value} {s : St} {l : List OpT} (h : Bj opC v s = some l) (hl : l.length < 140737488355328) : ∀ (rest : List OpT) (i : Nat),l.drop i = rest→i ≤ l.length →
    AS (Ey.b0 R) [v,.int .i64 ((l.length : Nat) : Int),.int .i64 (i : Int)] s = some ((endR (allE rest)).1,(endR (allE rest)).2,s):=by
  intro rest
  induction rest with
  | nil =>
    intro i hi hle
    have h1 : decide ((i : Int) < ((l.length : Nat) : Int)) = false:=by
      have:=List.drop_eq_nil_iff.1 hi
      simp; omega
    rw [Ar]
    simp only [Ey.b0,h1,EVs]
    rfl
  | cons o rest ih =>
    intro i hi hle
    obtain ⟨hlt,he,hd⟩:=E1 hi
    have h1 : decide ((i : Int) < ((l.length : Nat) : Int)) = true:=by simp; omega
    obtain ⟨p,h2,h3⟩:=Lr h hlt (k:=.i64) (n:=6) rfl
    rw [Zcf,he] at h3
    rw [Ar]
    simp only [Ey.b0,h1,h2,h3,o_st,Xg,KM,hC,EVs]
    by_cases h4 : ckO o = 0
    · have h5 : (ckO o != 0) = false:=by simp [h4]
      simp only [h5,Ej (show i < 140737488355328 by omega),EVs]
      rw [ih (i + 1) hd (by omega)]
      rw [In,if_pos h4]
    · have h5 : (ckO o != 0) = true:=by simp [h4]
      simp only [h5,EVs]
      rw [In,if_neg h4]
      unfold endR
      rw [if_neg h4]
theorem Xk {R : Aa} (hC : ∀ o s,R 115 [oV o] s = some (.int .i64 (ckO o),s)) {v : Value} {s : St} {l : List OpT} (h : Bj opC v s = some l) (hl : l.length < 140737488355328) : Ey R v s = some (.int .i64 (allE l),s):=by
  have h1:=U9 hC h hl l 0 rfl (Nat.zero_le _)
  rw [show ((0 : Nat) : Int) = 0 from rfl] at h1
  unfold Ey
  simp only [Dd h,h1,EVs]
  unfold endR
  by_cases h2 : allE l = 0
  · simp only [if_pos h2,EVs,retV,h2]
    rfl
  · simp only [if_neg h2,EVs,retV]
    rfl
noncomputable def gL {α : Type} (C : Cod α) (F : List α→Value) : Sum:=fun xs s=>(match xs with | [v]=>(Bj C v s).bind fun l=>if l.length < 140737488355328 then some (F l) else none | _=>none).map fun v=>(v,s)
theorem Zc3 {α : Type} {C : Cod α} {F : List α→Value} {v : Value} {s : St} {l : List α} (h : Bj C v s = some l) (hl : l.length < 140737488355328) : gL C F [v] s = some (F l,s):=by
  simp only [gL,h,Option.bind_some,if_pos hl,Option.map_some]
theorem QV {α : Type} {C : Cod α} {F : List α→Value} {lib : Lib} {f : FuncId} (hp : ∀ l,FZ (F l) = true) (h : ∀ v s l,Bj C v s = some l→l.length < 140737488355328→∃ t,run Tryz.prog lib Ad f [v] s = some (F l,t)) : BO Tryz.prog lib Ad f (gL C F) :=
  BO.plain (G:=fun xs s=>match xs with | [v]=>(Bj C v s).bind fun l=>if l.length < 140737488355328 then some (F l) else none | _=>none) fun xs s v hh=>by
    split at hh
    · rename_i v0
      simp only [Option.bind_eq_some_iff] at hh
      obtain ⟨l,h1,h2⟩:=hh
      split at h2
      · rename_i hl
        cases h2
        exact ⟨hp l,h v0 (frzS s) l (by rw [RG]; exact h1) hl⟩
      · cases h2
    · cases hh
noncomputable def Va : Sum:=gL opC fun l=>.int .i64 (allE l)
noncomputable def Zc4 : Sum:=gL opC fun l=>.int .i64 (chkE l)
theorem YO {v : Value} {s : St} {l : List OpT} (h : Bj opC v s = some l) (hl : l.length < 140737488355328) : Va [v] s = some (.int .i64 (allE l),s):=Zc3 h hl
theorem many {n : Nat} : (((n : Nat) : Int) == 0 || decide (((n : Nat) : Int) > 4)) = decide (n = 0 ∨ 4 < n):=by
  by_cases h : n = 0
  · subst h; rfl
  · have h1 : (((n : Nat) : Int) == 0) = false:=by rw [beq_eq_false_iff_ne]; omega
    rw [h1]
    simp [h]
    omega
theorem Zc5 {R : Aa} (hA : ∀ xs s,R 131 xs s = Va xs s) {v : Value} {s : St} {l : List OpT} (h : Bj opC v s = some l) (hl : l.length < 140737488355328) : RP R v s = some (.int .i64 (chkE l),s):=by
  unfold RP chkE
  simp only [Dd h,EVs,many]
  by_cases h1 : l.length = 0 ∨ 4 < l.length
  · have h2 : decide (l.length = 0 ∨ 4 < l.length) = true:=decide_eq_true h1
    simp only [h2,if_pos h1,EVs,retV]
    rfl
  · have h2 : decide (l.length = 0 ∨ 4 < l.length) = false:=decide_eq_false h1
    simp only [h2,if_neg h1,U3,hA,YO h hl,EVs,retV]
    rfl
theorem Xl {R : Aa} (hA : ∀ xs s,R 29 xs s = Va xs s) {v : Value} {s : St} {l : List OpT} (h : Bj opC v s = some l) (hl : l.length < 140737488355328) : JK R v s = some (.int .i64 (chkE l),s):=by
  have hlt : decide (((l.length : Nat) : Int) < 1) = (((l.length : Nat) : Int) == 0):=by
    by_cases h0 : l.length = 0
    · rw [h0]; rfl
    · have h1 : (((l.length : Nat) : Int) == 0) = false:=by rw [beq_eq_false_iff_ne]; omega
      rw [h1]; simp; omega
  unfold JK chkE
  simp only [Dd h,hlt,EVs,many]
  by_cases h1 : l.length = 0 ∨ 4 < l.length
  · have h2 : decide (l.length = 0 ∨ 4 < l.length) = true:=decide_eq_true h1
    simp only [h2,if_pos h1,EVs,retV]
    rfl
  · have h2 : decide (l.length = 0 ∨ 4 < l.length) = false:=decide_eq_false h1
    simp only [h2,if_neg h1,PY,hA,YO h hl,EVs,retV]
    rfl
end Go.Proofs.YtmbhnbladmpnoaaGreat.Ab

/- A law's arguments: operations,pairs,lists of them. -/
namespace Go.Proofs.YtmbhnbladmpnoaaGreat.Ab
open Go Go.ChangeShapes Go.WideShapes
set_option maxRecDepth 100000
theorem ZeO : Tryz.prog.cellsOf 3 = 1:=by kernel_rfl
theorem Zcg : Tryz.prog.cellsOf 9 = 1:=by kernel_rfl
theorem Zc6 {H : Type} {enc : TypeId × Value→H} {W : World} {base : Nat} {sp : Nat→Bool} {held : Bool} {n : Nat} {cs : List Value} {y : DataW H × List MemPlace} (h : DataW.trod enc Tryz.prog W base sp held n 89 cs = some y) : ∃ a : Rg,cs = prC.enc a:=by
  obtain ⟨xs,m,_,rfl,hl,hlen,hf⟩:=DataW.trod_struct Tryz.underlying89 h
  have c : Tryz.prog.cellsOf 89 = 2:=by kernel_rfl
  rw [c] at hl
  match xs,hlen,cs,hl with
  | [y0,y1],_,[c0,c1],_ =>
    have t0 : DataW.trod enc Tryz.prog W base sp held m 9 (([c0,c1].drop 0).take (Tryz.prog.cellsOf 9)) = some y0:=hf 0 _ rfl
    have t1 : DataW.trod enc Tryz.prog W base sp held m 9 (([c0,c1].drop 1).take (Tryz.prog.cellsOf 9)) = some y1:=hf 1 _ rfl
    rw [Zcg] at t0 t1
    simp only [List.drop_succ_cons,List.drop_zero,List.take_succ_cons,List.take_zero] at t0 t1
    obtain ⟨a,e0,_,_⟩:=DataW.trod_string Tryz.underlying9 t0
    obtain ⟨b,e1,_,_⟩:=DataW.trod_string Tryz.underlying9 t1
    simp only [List.cons.injEq,and_true] at e0 e1
    subst e0 e1
    refine ⟨(a.data.toList,b.data.toList),?_⟩
    show _ = [sv _,sv _]
    rw [← JG,← JG]
theorem Zgd {H : Type} {enc : TypeId × Value→H} {W : World} {base : Nat} {sp : Nat→Bool} {held : Bool} {n : Nat} {cs : List Value} {y : DataW H × List MemPlace} (h : DataW.trod enc Tryz.prog W base sp held n 69 cs = some y) : ∃ o : OpT,cs = opC.enc o:=by
  obtain ⟨xs,m,_,rfl,hl,hlen,hf⟩:=DataW.trod_struct Tryz.underlying69 h
  have c : Tryz.prog.cellsOf 69 = 6:=by kernel_rfl
  rw [c] at hl
  match xs,hlen,cs,hl with
  | [y0,y1,y2,y3,y4,y5],_,[c0,c1,c2,c3,c4,c5],_ =>
    have t0 : DataW.trod enc Tryz.prog W base sp held m 3 (([c0,c1,c2,c3,c4,c5].drop 0).take (Tryz.prog.cellsOf 3)) = some y0:=hf 0 _ rfl
    have t1 : DataW.trod enc Tryz.prog W base sp held m 9 (([c0,c1,c2,c3,c4,c5].drop 1).take (Tryz.prog.cellsOf 9)) = some y1:=hf 1 _ rfl
    have t2 : DataW.trod enc Tryz.prog W base sp held m 9 (([c0,c1,c2,c3,c4,c5].drop 2).take (Tryz.prog.cellsOf 9)) = some y2:=hf 2 _ rfl
    have t3 : DataW.trod enc Tryz.prog W base sp held m 9 (([c0,c1,c2,c3,c4,c5].drop 3).take (Tryz.prog.cellsOf 9)) = some y3:=hf 3 _ rfl
    have t4 : DataW.trod enc Tryz.prog W base sp held m 9 (([c0,c1,c2,c3,c4,c5].drop 4).take (Tryz.prog.cellsOf 9)) = some y4:=hf 4 _ rfl
    have t5 : DataW.trod enc Tryz.prog W base sp held m 3 (([c0,c1,c2,c3,c4,c5].drop 5).take (Tryz.prog.cellsOf 3)) = some y5:=hf 5 _ rfl
    rw [ZeO] at t0 t5
    rw [Zcg] at t1 t2 t3 t4
    simp only [List.drop_succ_cons,List.drop_zero,List.take_succ_cons,List.take_zero] at t0 t1 t2 t3 t4 t5
    obtain ⟨k,e0,_,_⟩:=DataW.trod_int Tryz.underlying3 t0
    obtain ⟨s1,e1,_,_⟩:=DataW.trod_string Tryz.underlying9 t1
    obtain ⟨s2,e2,_,_⟩:=DataW.trod_string Tryz.underlying9 t2
    obtain ⟨s3,e3,_,_⟩:=DataW.trod_string Tryz.underlying9 t3
    obtain ⟨s4,e4,_,_⟩:=DataW.trod_string Tryz.underlying9 t4
    obtain ⟨k5,e5,_,_⟩:=DataW.trod_int Tryz.underlying3 t5
    simp only [List.cons.injEq,and_true] at e0 e1 e2 e3 e4 e5
    subst e0 e1 e2 e3 e4 e5
    refine ⟨⟨k,s1.data.toList,s2.data.toList,s3.data.toList,s4.data.toList,k5⟩,?_⟩
    show _ = [_,sv _,sv _,sv _,sv _,_]
    rw [← JG,← JG,← JG,← JG]
end Go.Proofs.YtmbhnbladmpnoaaGreat.Ab

/- Messages: how they lie in memory; a law's arguments. -/
namespace Go.Proofs.YtmbhnbladmpnoaaGreat.Ab
open Go Go.ChangeShapes Go.WideShapes
set_option maxRecDepth 100000
abbrev Rs:=Bool × BL × List Rg
abbrev wfN (k : IntKind) : NCod Int:=.ofC (intC k) fun i=>(Lit.int k i).wf = true
abbrev stN : NCod BL:=.ofC ZcV fun k=>k.length ≤ reachBytes
def rsN : NCod Rs:=.map (.pair (.ofC blnC fun _=>True) (.pair stN (.pair (.list (.ofC prC fun _=>True) 32) .unit))) fun r=>(r.1,r.2.1,r.2.2,())
structure Ms where
  kind : Int
  src : Int
  dst : Int
  client : Int
  code : Int
  peer : Int
  req : Int
  boot : Int
  txn : Int
  low : Int
  ver : Int
  epoch : Int
  move : Int
  attempt : Int
  num : Int
  flag : Bool
  rg : Rg
  ops : List OpT
  res : List Rs
  own : List Ow
abbrev rgN : NCod Rg:=.ofC prC fun _=>True
abbrev opsN : NCod (List OpT):=.list (.ofC opC fun _=>True) 80
abbrev ZeP : NCod (List Rs):=.list rsN 48
abbrev owsN : NCod (List Ow):=.list (.ofC owC fun _=>True) 24
def msN : NCod Ms:=.map (.pair (wfN .i64) (.pair (wfN .i64) (.pair (wfN .i64) (.pair (wfN .i64) (.pair (wfN .i64) (.pair (wfN .i64) (.pair (wfN .u64) (.pair (wfN .u64) (.pair (wfN .u64) (.pair (wfN .u64) (.pair (wfN .u64) (.pair (wfN .u64) (.pair (wfN .u64) (.pair (wfN .u64) (.pair (wfN .u64)
  (.pair (.ofC blnC fun _=>True) (.pair rgN (.pair opsN (.pair ZeP (.pair owsN .unit))))))))))))))))))))
  fun m=>(m.kind,m.src,m.dst,m.client,m.code,m.peer,m.req,m.boot,m.txn,m.low,m.ver,m.epoch,m.move,m.attempt,m.num,m.flag,m.rg,m.ops,m.res,m.own,())
theorem YP : FJ Tryz.prog (.ofC prC fun _=>True) 89:=fun Hn enc W n cs y hy hw=>by
  obtain ⟨a,rfl⟩:=Zc6 hy
  exact E9 ⟨a,rfl,trivial⟩
theorem YQ : FJ Tryz.prog (.ofC opC fun _=>True) 69:=fun Hn enc W n cs y hy hw=>by
  obtain ⟨a,rfl⟩:=Zgd hy
  exact E9 ⟨a,rfl,trivial⟩
theorem YR : FJ Tryz.prog (.ofC owC fun _=>True) 91:=fun Hn enc W n cs y hy hw=>by
  obtain ⟨a,rfl⟩:=Zgc hy
  exact E9 ⟨a,rfl,trivial⟩
theorem FJ.map {α β : Type} {P : Program} {A : NCod α} {f : β→α} {t : TypeId} (g : α→β) (hfg : ∀ a,f (g a) = a) (h : FJ P A t) : FJ P (A.map f) t:=fun Hn enc W n cs y hy hw=>Yz (g:=g) hfg (h Hn enc W n cs y hy hw)
theorem YS : FJ Tryz.prog rgN 24:=fun Hn enc W n cs y hy hw=>by
  have h:=H4 (C:=.pair stN (.pair stN .unit)) Tryz.underlying24 (by kernel_rfl) (AR rfl (by kernel_rfl) (H5 Tryz.underlying9) (AR rfl (by kernel_rfl) (H5 Tryz.underlying9) Ls)) Hn enc W n cs y hy hw
  intro ι H hs hro
  obtain ⟨a,K,κ,cs',h1,h2,h3,h4,c,d,rfl,⟨rfl,_⟩,c2,d2,rfl,⟨rfl,_⟩,rfl⟩:=h ι H hs hro
  exact ⟨(a.1,a.2.1),K,κ,_,h1,h2,h3,h4,rfl,trivial⟩
theorem ZaK : FJ Tryz.prog rsN 87 :=
  FJ.map (fun p=>(p.1,p.2.1,p.2.2.1)) (fun _=>rfl) (H4 Tryz.underlying87 (by kernel_rfl) (AR rfl (by kernel_rfl) (QR Tryz.underlying4) (AR rfl (by kernel_rfl) (H5 Tryz.underlying9) (AR rfl (by kernel_rfl) (IC Tryz.underlying85 (by kernel_rfl) (by decide) (by kernel_rfl) YP) Ls))))
theorem YT : FJ Tryz.prog opsN 25:=IC Tryz.underlying25 (by kernel_rfl) (by decide) (by kernel_rfl) YQ
theorem Xm : FJ Tryz.prog ZeP 26:=IC Tryz.underlying26 (by kernel_rfl) (by decide) (by kernel_rfl) ZaK
theorem YU : FJ Tryz.prog owsN 27:=IC Tryz.underlying27 (by kernel_rfl) (by decide) (by kernel_rfl) YR
theorem opens_ms : FJ Tryz.prog msN 29 :=
  FJ.map (fun p=>⟨p.1,p.2.1,p.2.2.1,p.2.2.2.1,p.2.2.2.2.1,p.2.2.2.2.2.1,p.2.2.2.2.2.2.1,p.2.2.2.2.2.2.2.1,p.2.2.2.2.2.2.2.2.1,p.2.2.2.2.2.2.2.2.2.1,p.2.2.2.2.2.2.2.2.2.2.1,p.2.2.2.2.2.2.2.2.2.2.2.1,p.2.2.2.2.2.2.2.2.2.2.2.2.1,p.2.2.2.2.2.2.2.2.2.2.2.2.2.1,p.2.2.2.2.2.2.2.2.2.2.2.2.2.2.1,p.2.2.2.2.2.2.2.2.2.2.2.2.2.2.2.1,p.2.2.2.2.2.2.2.2.2.2.2.2.2.2.2.2.1,p.2.2.2.2.2.2.2.2.2.2.2.2.2.2.2.2.2.1,p.2.2.2.2.2.2.2.2.2.2.2.2.2.2.2.2.2.2.1,p.2.2.2.2.2.2.2.2.2.2.2.2.2.2.2.2.2.2.2.1⟩) (fun _=>rfl)
    (H4 Tryz.underlying29 (by kernel_rfl)
      (AR rfl (by kernel_rfl) (B3 Tryz.underlying3) (AR rfl (by kernel_rfl) (B3 Tryz.underlying3) (AR rfl (by kernel_rfl) (B3 Tryz.underlying3) (AR rfl (by kernel_rfl) (B3 Tryz.underlying3) (AR rfl (by kernel_rfl) (B3 Tryz.underlying3) (AR rfl (by kernel_rfl) (B3 Tryz.underlying3)
        (AR rfl (by kernel_rfl) (B3 Tryz.underlying22) (AR rfl (by kernel_rfl) (B3 Tryz.underlying22) (AR rfl (by kernel_rfl) (B3 Tryz.underlying22) (AR rfl (by kernel_rfl) (B3 Tryz.underlying22) (AR rfl (by kernel_rfl) (B3 Tryz.underlying22)
          (AR rfl (by kernel_rfl) (B3 Tryz.underlying22) (AR rfl (by kernel_rfl) (B3 Tryz.underlying22) (AR rfl (by kernel_rfl) (B3 Tryz.underlying22) (AR rfl (by kernel_rfl) (B3 Tryz.underlying22)
            (AR rfl (by kernel_rfl) (QR Tryz.underlying4) (AR rfl (by kernel_rfl) YS (AR rfl (by kernel_rfl) YT (AR rfl (by kernel_rfl) Xm (AR rfl (by kernel_rfl) YU Ls)))))))))))))))))))))
def msC (m : Ms) (vo vr vw : Value) : List Value:=[.int .i64 m.kind,.int .i64 m.src,.int .i64 m.dst,.int .i64 m.client,.int .i64 m.code,.int .i64 m.peer,.int .u64 m.req,.int .u64 m.boot,.int .u64 m.txn,.int .u64 m.low,.int .u64 m.ver,.int .u64 m.epoch,.int .u64 m.move,.int .u64 m.attempt,.int .u64 m.num,
  .bool m.flag,sv m.rg.1,sv m.rg.2,vo,vr,vw]
structure MsWf (m : Ms) : Prop where
  kind : (Lit.int .i64 m.kind).wf = true
  src : (Lit.int .i64 m.src).wf = true
  dst : (Lit.int .i64 m.dst).wf = true
  client : (Lit.int .i64 m.client).wf = true
  code : (Lit.int .i64 m.code).wf = true
  peer : (Lit.int .i64 m.peer).wf = true
  req : (Lit.int .u64 m.req).wf = true
  boot : (Lit.int .u64 m.boot).wf = true
  txn : (Lit.int .u64 m.txn).wf = true
  low : (Lit.int .u64 m.low).wf = true
  ver : (Lit.int .u64 m.ver).wf = true
  epoch : (Lit.int .u64 m.epoch).wf = true
  move : (Lit.int .u64 m.move).wf = true
  attempt : (Lit.int .u64 m.attempt).wf = true
  num : (Lit.int .u64 m.num).wf = true
theorem ZaL {m : Ms} {s : St} {cs : List Value} (h : msN.rel m s cs) : ∃ vo vr vw,cs = msC m vo vr vw∧MsWf m∧By (.ofC opC fun _=>True) 80 m.ops s vo∧By rsN 48 m.res s vr∧By (.ofC owC fun _=>True) 24 m.own s vw:=by
  obtain ⟨_,_,rfl,⟨rfl,h1⟩,_,_,rfl,⟨rfl,h2⟩,_,_,rfl,⟨rfl,h3⟩,_,_,rfl,⟨rfl,h4⟩,_,_,rfl,⟨rfl,h5⟩,_,_,rfl,⟨rfl,h6⟩,_,_,rfl,⟨rfl,h7⟩,_,_,rfl,⟨rfl,h8⟩,_,_,rfl,⟨rfl,h9⟩,_,_,rfl,⟨rfl,h10⟩,_,_,rfl,⟨rfl,h11⟩,_,_,rfl,⟨rfl,h12⟩,_,_,rfl,⟨rfl,h13⟩,_,_,rfl,⟨rfl,h14⟩,_,_,rfl,⟨rfl,h15⟩,
    _,_,rfl,⟨rfl,_⟩,_,_,rfl,⟨rfl,_⟩,_,_,rfl,⟨vo,rfl,ho⟩,_,_,rfl,⟨vr,rfl,hr⟩,_,_,rfl,⟨vw,rfl,hw⟩,rfl⟩:=h
  exact ⟨vo,vr,vw,rfl,⟨h1,h2,h3,h4,h5,h6,h7,h8,h9,h10,h11,h12,h13,h14,h15⟩,ho,hr,hw⟩
end Go.Proofs.YtmbhnbladmpnoaaGreat.Ab

/- Lists of one's own that are written into,shortened,made longer. -/
namespace Go.Proofs.YtmbhnbladmpnoaaGreat.Ab
open Go
def B2 : Value→Option Nat
  | .slice (some a) _ _=>some a.block
  | _=>none
def Keep (B : Option Nat) (s t : St) : Prop:=s.heap.length ≤ t.heap.length∧∀ c,c < s.heap.length→B ≠ some c→t.heap[c]? = s.heap[c]?
def ZeQ (s : St) (v v' : Value) : Prop:=B2 v' = B2 v ∨ ∀ c,B2 v' = some c→s.heap.length ≤ c
theorem Keep.refl (B : Option Nat) (s : St) : Keep B s s:=⟨Nat.le_refl _,fun _ _ _=>rfl⟩
theorem Keep.ext {N : Nat} {v : Value} {s t : St} (h : Keep (B2 v) s t) (hN : N ≤ s.heap.length) (hb : ∀ c,B2 v = some c→N ≤ c) : Ext N s t :=
  ⟨h.1,fun c hc=>h.2 c (by omega) fun e=>by have:=hb c e; omega⟩
theorem Ext.keep {B : Option Nat} {s t : St} (h : Ext s.heap.length s t) : Keep B s t:=⟨h.1,fun c hc _=>h.2 c hc⟩
theorem CX {s : St} {b : Nat} {B : Blk} (h : b < s.heap.length) : (s.putB b B).heap[b]? = some B:=by
  simp only [St.putB]
  rw [List.getElem?_set_self h]
theorem KU {s : St} {b : Nat} {B : Blk} : Keep (some b) s (s.putB b B):=⟨by simp [St.putB],fun c _ hc=>by
  simp only [St.putB]
  rw [List.getElem?_set_ne (fun e=>hc (by rw [e]))]⟩
theorem Keep.trans {B : Option Nat} {s t u : St} (h : Keep B s t) (g : Keep B t u) : Keep B s u:=⟨Nat.le_trans h.1 g.1,fun c hc hB=>(g.2 c (Nat.lt_of_lt_of_le hc h.1) hB).trans (h.2 c hc hB)⟩
theorem Keep.list {α : Type} {C : Cod α} {B : Option Nat} {s t : St} (h : Keep B s t) {v : Value} {l : List α} (hv : Bj C v s = some l) (hb : ∀ c,B2 v = some c→B ≠ some c) : Bj C v t = some l:=by
  refine (Ct C).2 ?_
  have hc:=(Ct C).1 hv
  unfold cellsOf at hc ⊢
  split at hc
  · exact hc
  · rename_i b o len cap
    split at hc
    case isFalse=>cases hc
    rename_i hlc
    rw [if_pos hlc]
    unfold readN at hc ⊢
    cases hr : Ab.readRow s b with
    | none=>rw [hr] at hc; cases hc
    | some row =>
      have hlt:=Ef hr
      have : Ab.readRow t b = Ab.readRow s b:=by
        unfold Ab.readRow
        rw [h.2 b hlt (hb b rfl)]
      rw [this]; exact hc
  · cases hc
section
variable {α : Type} {C : Cod α}
theorem OwnC.blk {N : Nat} {s : St} {v : Value} {l : List α} (h : OwnC C N s v l) : ∀ c,B2 v = some c→N ≤ c∧c < s.heap.length:=by
  intro c hc
  rcases h with ⟨rfl,_⟩ | ⟨b,cap,rest,rfl,h1,h2,_⟩
  · cases hc
  · cases hc
    exact ⟨h1,(List.getElem?_eq_some_iff.1 h2).1⟩
theorem OwnC.mono {N M : Nat} {s : St} {v : Value} {l : List α} (h : OwnC C N s v l) (hM : M ≤ N) : OwnC C M s v l:=by
  rcases h with h | ⟨b,cap,rest,e,h1,h2⟩
  · exact .inl h
  · exact .inr ⟨b,cap,rest,e,by omega,h2⟩
theorem OwnC.keep {N : Nat} {B : Option Nat} {s t : St} {v : Value} {l : List α} (h : OwnC C N s v l) (k : Keep B s t) (hb : ∀ c,B2 v = some c→B ≠ some c) : OwnC C N t v l:=by
  rcases h with h | ⟨b,cap,rest,rfl,h1,h2,h3⟩
  · exact .inl h
  · exact .inr ⟨b,cap,rest,rfl,h1,by rw [k.2 b (List.getElem?_eq_some_iff.1 h2).1 (hb b rfl)]; exact h2,h3⟩
theorem OwnC.notup {N : Nat} {s : St} {v : Value} {l : List α} (h : OwnC C N s v l) : Fk v = true:=by
  rcases h with ⟨rfl,_⟩ | ⟨b,cap,rest,rfl,_⟩ <;> rfl
end
end Go.Proofs.YtmbhnbladmpnoaaGreat.Ab

/- Rows of one's own: parts of an element; what an 'append' leaves as it was. -/
namespace Go.Proofs.YtmbhnbladmpnoaaGreat.Ab
open Go
theorem F3 {n w : Nat} {x y : Value} {s : St} {v' : Value} {t : St} (h : AD n w x y s = some (v',t)) : Keep (B2 x) s t∧ZeQ s x v':=by
  unfold AD at h
  split at h
  case isFalse=>cases h
  simp only [Option.bind_eq_some_iff] at h
  obtain ⟨m,hm,new,hn,h⟩:=h
  split at h
  · split at h
    case isFalse=>cases h
    split at h
    · cases h; exact ⟨.refl _ _,.inl rfl⟩
    · cases h
      exact ⟨(Ext.push _ (Nat.le_refl _) _).keep,.inr fun c hc=>by cases hc; exact Nat.le_refl _⟩
  · rename_i b o len cap
    split at h
    case isFalse=>cases h
    split at h
    · split at h
      · cases h; exact ⟨.refl _ _,.inl rfl⟩
      · simp only [Option.map_eq_some_iff] at h
        obtain ⟨s2,h2,h3⟩:=h
        cases h3
        unfold Fe at h2
        split at h2
        · split at h2
          case isFalse=>cases h2
          cases h2
          exact ⟨KU,.inl rfl⟩
        · cases h2
    · split at h
      · split at h
        case isFalse=>cases h
        cases h
        refine ⟨KU.trans (Ext.push _ (Nat.le_refl _) _).keep,.inr fun c hc=>?_⟩
        cases hc
        exact Nat.le_refl _
      · cases h
  · cases h
theorem Own.keep {N n : Nat} {B : Option Nat} {s t : St} {v : Value} {cs : List Value} (h : Own N n s v cs) (k : Keep B s t) (hb : ∀ c,B2 v = some c→B ≠ some c) : Own N n t v cs:=by
  rcases h with h | ⟨b,len,rfl,h1,h2,h3⟩
  · exact .inl h
  · exact .inr ⟨b,len,rfl,h1,by rw [k.2 b (List.getElem?_eq_some_iff.1 h2).1 (hb b rfl)]; exact h2,h3⟩
theorem Own.blk {N n : Nat} {s : St} {v : Value} {cs : List Value} (h : Own N n s v cs) : ∀ c,B2 v = some c→N ≤ c∧c < s.heap.length:=by
  intro c hc
  rcases h with ⟨rfl,_⟩ | ⟨b,len,rfl,h1,h2,h3⟩
  · cases hc
  · cases hc; exact ⟨h1,(List.getElem?_eq_some_iff.1 h2).1⟩
theorem Own.notup {N n : Nat} {s : St} {v : Value} {cs : List Value} (h : Own N n s v cs) : Fk v = true:=by
  rcases h with ⟨rfl,_⟩ | ⟨b,len,rfl,_⟩ <;> rfl
end Go.Proofs.YtmbhnbladmpnoaaGreat.Ab

/- Things of one's own that hold others: slices in slices,each row of one's own. -/
namespace Go.Proofs.YtmbhnbladmpnoaaGreat.Ab
open Go
structure OCod (α : Type) where
  C : NCod α
  own : Nat→Nat→α→St→List Value→Prop
  rel : ∀ {lo hi a s cs},own lo hi a s cs→C.rel a s cs
  keep : ∀ {lo hi a s t cs},own lo hi a s cs→(∀ b,lo ≤ b→b < hi→t.heap[b]? = s.heap[b]?)→own lo hi a t cs
  mono : ∀ {lo hi lo' hi' a s cs},own lo hi a s cs→lo' ≤ lo→hi ≤ hi'→own lo' hi' a s cs
  leaf : ∀ {lo hi a s cs},own lo hi a s cs→cs.all AI = true
def BJ {α : Type} (O : OCod α) (B : Nat) (lo hi : Nat) (l : List α) (s : St) (v : Value) : Prop :=
  l.length * B ≤ reachBytes∧((v = .slice none 0 0∧l = []) ∨ ∃ (b : Nat) (css : List (List Value)),v = .slice (some ⟨b,0,none⟩) l.length l.length∧lo ≤ b∧b < hi∧0 < l.length∧s.heap[b]? = some (.row O.C.n css.flatten .act)∧All2 (fun a c=>O.own lo b a s c) l css)
theorem Sx {α : Type} {O : OCod α} {lo b : Nat} {s : St} : ∀ {l : List α} {css : List (List Value)},All2 (fun a c=>O.own lo b a s c) l css→css.flatten.length = l.length * O.C.n∧css.flatten.all AI = true
  | [],[],_=>⟨by simp,rfl⟩
  | a :: l,c :: css,⟨h1,h2⟩=>by
    obtain ⟨g1,g2⟩:=Sx h2
    refine ⟨?_,?_⟩
    · rw [List.flatten_cons,List.length_append,g1,O.C.len (O.rel h1),List.length_cons,Nat.add_mul]; omega
    · rw [List.flatten_cons,List.all_append,O.leaf h1,g2]; rfl
theorem BJ.listN {α : Type} {O : OCod α} {B lo hi : Nat} {l : List α} {s : St} {v : Value} (h : BJ O B lo hi l s v) : By O.C B l s v:=by
  obtain ⟨h1,h2⟩:=h
  refine ⟨h1,?_⟩
  rcases h2 with h2 | ⟨b,css,g1,_,_,_,g2,g3⟩
  · exact .inl h2
  · exact .inr ⟨b,css,.act,_,g1,g2,by simp,g3.mono fun a c h=>O.rel h⟩
theorem BJ.keep {α : Type} {O : OCod α} {B lo hi : Nat} {l : List α} {s t : St} {v : Value} (h : BJ O B lo hi l s v) (k : ∀ b,lo ≤ b→b < hi→t.heap[b]? = s.heap[b]?) : BJ O B lo hi l t v:=by
  obtain ⟨h1,h2⟩:=h
  refine ⟨h1,?_⟩
  rcases h2 with h2 | ⟨b,css,g1,g2,g3,g4,g5,g6⟩
  · exact .inl h2
  · exact .inr ⟨b,css,g1,g2,g3,g4,by rw [k b g2 g3]; exact g5,g6.mono fun a c h=>O.keep h fun b' h1 h2=>k b' h1 (by omega)⟩
theorem BJ.mono {α : Type} {O : OCod α} {B lo hi lo' hi' : Nat} {l : List α} {s : St} {v : Value} (h : BJ O B lo hi l s v) (h1 : lo' ≤ lo) (h2 : hi ≤ hi') : BJ O B lo' hi' l s v:=by
  obtain ⟨h3,h4⟩:=h
  refine ⟨h3,?_⟩
  rcases h4 with h4 | ⟨b,css,g1,g2,g3,g4,g5,g6⟩
  · exact .inl h4
  · exact .inr ⟨b,css,g1,by omega,by omega,g4,g5,g6.mono fun a c h=>O.mono h h1 (Nat.le_refl _)⟩
theorem BJ.leaf {α : Type} {O : OCod α} {B lo hi : Nat} {l : List α} {s : St} {v : Value} (h : BJ O B lo hi l s v) : AI v = true:=by
  rcases h.2 with ⟨rfl,_⟩ | ⟨b,css,rfl,_⟩ <;> rfl
theorem BJ.nil {α : Type} {O : OCod α} {B lo hi : Nat} {s : St} : BJ O B lo hi ([] : List α) s (.slice none 0 0):=⟨by simp,.inl ⟨rfl,rfl⟩⟩
theorem BJ.own {α : Type} {O : OCod α} {B lo hi : Nat} {l : List α} {s : St} {v : Value} (h : BJ O B lo hi l s v) : ∃ css : List (List Value),Own lo O.C.n s v css.flatten∧css.flatten.length = l.length * O.C.n:=by
  rcases h.2 with ⟨rfl,rfl⟩ | ⟨b,css,rfl,g2,g3,g4,g5,g6⟩
  · exact ⟨[],.inl ⟨rfl,rfl⟩,by simp⟩
  · have:=(Sx g6).1
    exact ⟨css,.inr ⟨b,l.length,rfl,g2,g5,this,g4⟩,this⟩
namespace OCod
def ofC {α : Type} (C : Cod α) (Pr : α→Prop) : OCod α where
  C:=.ofC C Pr
  own _ _ a s cs:=cs = C.enc a∧Pr a
  rel h:=h
  keep h _:=h
  mono h _ _:=h
  leaf h:=by rw [h.1]; exact UV (C.leaf _)
def list {α : Type} (O : OCod α) (B : Nat) : OCod (List α) where
  C:=O.C.list B
  own lo hi l s cs:=∃ v,cs = [v]∧BJ O B lo hi l s v
  rel h:=by obtain ⟨v,rfl,h⟩:=h; exact ⟨v,rfl,h.listN⟩
  keep h k:=by obtain ⟨v,rfl,h⟩:=h; exact ⟨v,rfl,h.keep k⟩
  mono h h1 h2:=by obtain ⟨v,rfl,h⟩:=h; exact ⟨v,rfl,h.mono h1 h2⟩
  leaf h:=by obtain ⟨v,rfl,h⟩:=h; simp [h.leaf]
def unit : OCod Unit where
  C:=.unit
  own _ _ _ _ cs:=cs = []
  rel h:=h
  keep h _:=h
  mono h _ _:=h
  leaf h:=by rw [h]; rfl
def pair {α β : Type} (A : OCod α) (B : OCod β) : OCod (α × β) where
  C:=A.C.pair B.C
  own lo hi p s cs:=∃ c d m,cs = c ++ d∧lo ≤ m∧m ≤ hi∧A.own lo m p.1 s c∧B.own m hi p.2 s d
  rel h:=by obtain ⟨c,d,m,rfl,_,_,h1,h2⟩:=h; exact ⟨c,d,rfl,A.rel h1,B.rel h2⟩
  keep h k:=by obtain ⟨c,d,m,rfl,g1,g2,h1,h2⟩:=h; exact ⟨c,d,m,rfl,g1,g2,A.keep h1 fun b e1 e2=>k b e1 (by omega),B.keep h2 fun b e1 e2=>k b (by omega) e2⟩
  mono h k1 k2:=by obtain ⟨c,d,m,rfl,g1,g2,h1,h2⟩:=h; exact ⟨c,d,m,rfl,by omega,by omega,A.mono h1 k1 (Nat.le_refl _),B.mono h2 (Nat.le_refl _) k2⟩
  leaf h:=by obtain ⟨c,d,m,rfl,_,_,h1,h2⟩:=h; rw [List.all_append,A.leaf h1,B.leaf h2]; rfl
def map {α β : Type} (A : OCod α) (f : β→α) : OCod β where
  C:=A.C.map f
  own lo hi b s cs:=A.own lo hi (f b) s cs
  rel h:=A.rel h
  keep h k:=A.keep h k
  mono h h1 h2:=A.mono h h1 h2
  leaf h:=A.leaf h
end OCod
theorem ZaM {N n w : Nat} {s : St} {x : Value} {cells z : List Value} {v : Value} (h : Own N n s x cells) (hN : N ≤ s.heap.length) (hw : 0 < w) (hn : 0 < n) (hn2 : n ≤ 16777216) (hz : z.length = n) (hzl : z.all AI = true) (hv : (Ao v).length = n) (hvl : (Ao v).all AI = true) {len : Nat} (hlen : cells.length = len * n)
    (hb : (len + 1) * w ≤ 140737488355328) : ∃ r,As n z 1 [(0,v)] s = some r∧∃ b t,AD n w x r.1 r.2 = some (.slice (some ⟨b,0,none⟩) (len + 1) (len + 1),t)∧t.heap[b]? = some (.row n (cells ++ Ao v) .act)∧s.heap.length ≤ b∧t.heap.length = b + 1∧Keep (B2 x) s t:=by
  have h1 : As n z 1 [(0,v)] s = some (.slice (some ⟨s.heap.length,0,none⟩) 1 1,s.push (.row n (Ao v) .act)):=by
    have hrep : A5 z 1 = z:=by simp [A5]
    have hput : AE z 0 (Ao v) = Ao v:=by simp [AE,hv,hz]
    unfold As
    rw [if_pos ⟨by omega,hz,hzl⟩]
    simp only [hrep,IR,LV,Nat.zero_mul]
    rw [if_pos ⟨hv,by omega,hvl⟩,hput]
    rfl
  refine ⟨_,h1,?_⟩
  have hcells : cellsOf n (.slice (some ⟨s.heap.length,0,none⟩) 1 1) (s.push (.row n (Ao v) .act)) = some (Ao v):=by
    simp only [cellsOf,Nat.le_refl,if_true,readN,Ab.readRow,AC,Option.bind_some]
    rw [if_pos (by omega),List.drop_zero,Nat.one_mul,← hv,List.take_length]
  have hroom : NO (len + 1) w:=.inl hb
  have hk0 : Keep (B2 x) s (s.push (.row n (Ao v) .act)):=(Ext.push _ (Nat.le_refl _) _).keep
  unfold AD
  rw [if_pos hw]
  simp only [lenV,Option.bind_some,Nz hcells]
  rcases h with ⟨rfl,rfl⟩ | ⟨b,len',rfl,g1,g2,g3,g4⟩
  · have hl0 : len = 0:=by
      have : len * n = 0:=by simpa using hlen.symm
      rcases Nat.mul_eq_zero.1 this with h | h <;> omega
    subst hl0
    simp only
    rw [if_pos (by simpa using hroom),if_neg (by omega)]
    refine ⟨_,_,rfl,by simpa using AC,by rw [AL]; omega,AL,hk0.trans (Ext.push _ (Nat.le_refl _) _).keep⟩
  · obtain rfl : len' = len:=Nat.eq_of_mul_eq_mul_right hn (by omega)
    simp only
    have hbl : b < s.heap.length:=(List.getElem?_eq_some_iff.1 g2).1
    rw [if_pos hroom,if_neg (by omega),Db hbl,g2]
    simp only
    rw [if_pos ⟨trivial,trivial,by omega⟩]
    refine ⟨_,_,rfl,?_,by rw [AL]; omega,?_,?_⟩
    · have e : (s.push (.row n (Ao v) .act)).heap.length = ((s.push (.row n (Ao v) .act)).putB b (.row n cells .dead)).heap.length:=by simp [St.putB]
      rw [e]
      exact AC
    · rw [AL]; simp [St.putB]
    · refine hk0.trans ((KU (b:=b)).trans (Ext.push _ (Nat.le_refl _) _).keep)
theorem All2.snoc {α β : Type} {R : α→β→Prop} : ∀ {l : List α} {m : List β} {a : α} {b : β},All2 R l m→R a b→All2 R (l ++ [a]) (m ++ [b])
  | [],[],_,_,_,h=>⟨h,trivial⟩
  | _ :: _,_ :: _,_,_,⟨h1,h2⟩,h=>⟨h1,All2.snoc h2 h⟩
theorem BJ.push {α : Type} {O : OCod α} {B lo hi m n w : Nat} {l : List α} {a : α} {s0 s : St} {x : Value} {z : List Value} {v : Value} (h : BJ O B lo hi l s x) (hhi : hi ≤ m) (hm : m ≤ s.heap.length) (hlo : lo ≤ hi) (ha : O.own m s.heap.length a s (Ao v))
    (hw : 0 < w) (hn : n = O.C.n) (hpos : 0 < n) (hn2 : n ≤ 16777216) (hz : z.length = n) (hzl : z.all AI = true) (hb : (l.length + 1) * w ≤ 140737488355328) (hb2 : (l.length + 1) * B ≤ reachBytes) :
    ∃ r,As n z 1 [(0,v)] s = some r∧∃ v' t,AD n w x r.1 r.2 = some (v',t)∧BJ O B lo t.heap.length (l ++ [a]) t v'∧s.heap.length ≤ t.heap.length∧(∀ b,b < s.heap.length→(b < lo ∨ hi ≤ b)→t.heap[b]? = s.heap[b]?)∧Fk v' = true:=by
  subst hn
  have hv : (Ao v).length = O.C.n:=O.C.len (O.rel ha)
  obtain ⟨css,hown,hlen,hall,hblk⟩ : ∃ css : List (List Value),Own lo O.C.n s x css.flatten∧css.flatten.length = l.length * O.C.n∧(∀ b',s.heap.length ≤ b'→∀ t : St,Keep (B2 x) s t→All2 (fun a c=>O.own lo b' a t c) l css)∧(∀ c,B2 x = some c→lo ≤ c∧c < hi):=by
    rcases h.2 with ⟨rfl,rfl⟩ | ⟨b,css,rfl,g2,g3,g4,g5,g6⟩
    · exact ⟨[],.inl ⟨rfl,rfl⟩,by simp,fun _ _ _ _=>trivial,fun c hc=>by cases hc⟩
    · have:=(Sx g6).1
      refine ⟨css,.inr ⟨b,l.length,rfl,g2,g5,this,g4⟩,this,fun b' hb' t k=>g6.mono fun a c h=>O.mono (O.keep h fun b2 h1 h2=>k.2 b2 (by omega) fun e=>by have e2 : b = b2:=Option.some.inj e; omega) (Nat.le_refl _) (by omega),fun c hc=>by cases hc; exact ⟨g2,g3⟩⟩
  obtain ⟨r,h1,b,t,h2,h3,h4,h5,h6⟩:=ZaM (w:=w) hown (by omega) hw hpos hn2 hz hzl hv (O.leaf ha) hlen hb
  refine ⟨r,h1,_,t,h2,⟨by simpa using hb2,.inr ⟨b,css ++ [Ao v],by simp,by omega,by omega,by simp,by simpa using h3,?_⟩⟩,h6.1,fun c hc hor=>h6.2 c hc fun e=>?_,rfl⟩
  · refine (hall b h4 t h6).snoc (O.mono (O.keep ha fun b2 g1 g2=>h6.2 b2 g2 fun e=>?_) (by omega) h4)
    have:=(hblk b2 e).2
    omega
  · have:=hblk c e
    omega
end Go.Proofs.YtmbhnbladmpnoaaGreat.Ab

/- Readers: a row of one's own with what is left of some bytes and the first error; what reads is told by a parser. -/
namespace Go.Proofs.YtmbhnbladmpnoaaGreat.Ab
open Go
def Par (α : Type):=List UInt8→Except Int (α × List UInt8)
namespace Par
def pure {α : Type} (a : α) : Par α:=fun r=>.ok (a,r)
def fail {α : Type} (e : Int) : Par α:=fun _=>.error e
def bind {α β : Type} (p : Par α) (q : α→Par β) : Par β:=fun r=>match p r with
  | .ok (a,r')=>q a r'
  | .error e=>.error e
def map {α β : Type} (p : Par α) (f : α→β) : Par β:=p.bind fun a=>.pure (f a)
def rep {α : Type} (p : Par α) : Nat→Par (List α)
  | 0=>.pure []
  | k + 1=>p.bind fun a=>(rep p k).bind fun l=>.pure (a :: l)
end Par
structure Does {α : Type} (p : Par α) (x : List UInt8 × Int) (a : α) (y : List UInt8 × Int) : Prop where
  err : x.2 ≠ 0→y.2 = x.2
  ok : x.2 = 0→∀ a0 r0,p x.1 = .ok (a0,r0)→y = (r0,0)∧a = a0
  bad : x.2 = 0→∀ e,p x.1 = .error e→y.2 = e∧e ≠ 0
section
variable {α β : Type} {x y z : List UInt8 × Int} {a : α} {b : β}
theorem Does.pure {a : α} : Does (.pure a) x a x:=⟨fun _=>rfl,fun h a0 r0 h1=>by cases h1; exact ⟨by rw [← h],rfl⟩,fun _ e h=>by cases h⟩
theorem Does.bind {p : Par α} {q : α→Par β} (h : Does p x a y) (g : Does (q a) y b z) : Does (p.bind q) x b z:=by
  refine ⟨fun hx=>?_,fun hx a0 r0 h1=>?_,fun hx e h1=>?_⟩
  · have:=h.err hx
    rw [g.err (by rw [this]; exact hx),this]
  · unfold Par.bind at h1
    cases hp : p x.1 with
    | error e=>rw [hp] at h1; cases h1
    | ok t =>
      obtain ⟨a1,r1⟩:=t
      rw [hp] at h1
      obtain ⟨rfl,rfl⟩:=h.ok hx a1 r1 hp
      exact g.ok rfl a0 r0 h1
  · unfold Par.bind at h1
    cases hp : p x.1 with
    | error e' =>
      rw [hp] at h1
      cases h1
      obtain ⟨h2,h3⟩:=h.bad hx e hp
      rw [g.err (by rw [h2]; exact h3),h2]
      exact ⟨rfl,h3⟩
    | ok t =>
      obtain ⟨a1,r1⟩:=t
      rw [hp] at h1
      obtain ⟨rfl,rfl⟩:=h.ok hx a1 r1 hp
      exact g.bad rfl e h1
theorem Does.map {p : Par α} {f : α→β} (h : Does p x a y) : Does (p.map f) x (f a) y:=h.bind .pure
theorem Does.cons {p : Par α} {k : Nat} {m : List α} (h : Does p x a y) (g : Does (p.rep k) y m z) : Does (p.rep (k + 1)) x (a :: m) z:=h.bind (g.bind .pure)
theorem Does.weaken {p : Par α} {a' : α} (h : Does p x a y) (g : y.2 = 0→a' = a) : Does p x a' y:=⟨h.err,fun hx a0 r0 h1=>by
  obtain ⟨h2,h3⟩:=h.ok hx a0 r0 h1
  exact ⟨h2,by rw [g (by rw [h2]),h3]⟩,h.bad⟩
theorem Does.of_ok {p : Par α} {r0 : List UInt8} (hx : x.2 = 0) (hp : p x.1 = .ok (a,r0)) (hy : y = (r0,0)) : Does p x a y:=by
  refine ⟨fun h=>absurd hx h,fun _ a1 r1 h1=>?_,fun _ e h1=>?_⟩
  · rw [hp] at h1
    cases h1
    exact ⟨hy,rfl⟩
  · rw [hp] at h1; cases h1
theorem Does.of_err {p : Par α} {e : Int} (hx : x.2 = 0) (hp : p x.1 = .error e) (he : e ≠ 0) (hy : y.2 = e) : Does p x a y:=by
  refine ⟨fun h=>absurd hx h,fun _ a1 r1 h1=>?_,fun _ e1 h1=>?_⟩
  · rw [hp] at h1; cases h1
  · rw [hp] at h1
    cases h1
    exact ⟨hy,he⟩
theorem Does.stuck {p : Par α} (hx : x.2 ≠ 0) (h : y.2 = x.2) : Does p x a y:=⟨fun _=>h,fun h=>absurd h hx,fun h=>absurd h hx⟩
theorem Does.fail {e : Int} (he : e ≠ 0) (h : y.2 = if x.2 = 0 then e else x.2) : Does (.fail e) x a y:=by
  refine ⟨fun hx=>(by rw [h,if_neg hx]),fun _ _ _ h=>(by cases h),fun hx e' h1=>?_⟩
  have e1 : e = e':=by injection h1
  subst e1
  rw [h,if_pos hx]
  exact ⟨rfl,he⟩
theorem Does.ok_of {p : Par α} (h : Does p x a y) (hx : x.2 = 0) (hy : y.2 = 0) : p x.1 = .ok (a,y.1):=by
  cases hp : p x.1 with
  | error e =>
    obtain ⟨h1,h2⟩:=h.bad hx e hp
    exact absurd (h1 ▸ hy) h2
  | ok t =>
    obtain ⟨a0,r0⟩:=t
    obtain ⟨rfl,rfl⟩:=h.ok hx a0 r0 hp
    rfl
theorem Does.err_of {p : Par α} (h : Does p x a y) (hx : x.2 = 0) (hy : y.2 ≠ 0) : p x.1 = .error y.2:=by
  cases hp : p x.1 with
  | error e=>rw [(h.bad hx e hp).1]
  | ok t =>
    obtain ⟨a0,r0⟩:=t
    obtain ⟨rfl,rfl⟩:=h.ok hx a0 r0 hp
    exact absurd rfl hy
theorem Does.same {p : Par α} {a1 a2 : α} {x y1 y2 : List UInt8 × Int} (h : Does p x a1 y1) (g : Does p x a2 y2) (hx : x.2 = 0) : y1.2 = y2.2∧(y1.2 = 0→a1 = a2∧y1 = y2):=by
  cases hp : p x.1 with
  | error e =>
    obtain ⟨h1,h2⟩:=h.bad hx e hp
    obtain ⟨g1,g2⟩:=g.bad hx e hp
    exact ⟨by rw [h1,g1],fun h=>absurd (h1 ▸ h) h2⟩
  | ok t =>
    obtain ⟨a0,r0⟩:=t
    obtain ⟨rfl,rfl⟩:=h.ok hx a0 r0 hp
    obtain ⟨rfl,rfl⟩:=g.ok hx _ r0 hp
    exact ⟨rfl,fun _=>⟨rfl,rfl⟩⟩
end
abbrev rp (N : Nat) : Value:=.pointer (some ⟨N,0,none⟩)
structure RdV (N : Nat) (s : St) (v : Value) (x : List UInt8 × Int) : Prop where
  blk : s.heap[N]? = some (.row 0 [v,.int .i64 x.2] .act)
  byt : bytesOf v s = some x.1
  apart : ∀ c,B2 v = some c→c < N
  small : x.1.length ≤ 140737488355328
def Rd (N : Nat) (s : St) (x : List UInt8 × Int) : Prop:=∃ v,RdV N s v x
def setR (N : Nat) (v : Value) (e : Int) (s : St) : St:=s.putB N (.row 0 [v,.int .i64 e] .act)
section
variable {N : Nat} {s t : St} {v u : Value} {x : List UInt8 × Int}
theorem RdV.lt (h : RdV N s v x) : N < s.heap.length:=(List.getElem?_eq_some_iff.1 h.blk).1
theorem Cz : Ah (rp N) = some (rp N):=rfl
theorem Sy : Ac 0 (rp N) = some (rp N):=rfl
theorem EB : Ac 1 (rp N) = some (.pointer (some ⟨N,1,none⟩)):=by simp [Ac]
theorem RdV.row (h : RdV N s v x) : readRow s N = some [v,.int .i64 x.2]:=by unfold Ab.readRow; rw [h.blk]
theorem RdV.ld0 (h : RdV N s v x) : Aj false 1 (rp N) s = some v:=by simp [Aj,h.row]
theorem RdV.ld1 (h : RdV N s v x) : Aj false 1 (.pointer (some ⟨N,1,none⟩)) s = some (.int .i64 x.2):=by simp [Aj,h.row]
theorem YV {v : Value} {s : St} {l : List UInt8} (h : bytesOf v s = some l) : AI v = true∧Ao v = [v]∧Fk v = true:=by
  unfold bytesOf at h
  simp only [Option.bind_eq_some_iff] at h
  obtain ⟨cs,h1,_⟩:=h
  obtain ⟨a,len,cap,rfl,_⟩:=Fs h1
  exact ⟨rfl,rfl,rfl⟩
theorem RdV.st1 (h : RdV N s v x) (e : Int) : A4 1 (.pointer (some ⟨N,1,none⟩)) (.int .i64 e) s = some (setR N v e s):=by
  simp [A4,Ao,AI,Fe,h.blk,AE,setR]
theorem RdV.st0 (h : RdV N s v x) (h1 : AI u = true) (h2 : Ao u = [u]) : A4 1 (rp N) u s = some (setR N u x.2 s):=by
  simp [A4,h1,h2,Fe,h.blk,AE,setR]
theorem Xn {B : Nat} (h : Keep (some B) s t) {l : List UInt8} (hv : bytesOf v s = some l) (hb : B2 v ≠ some B) : bytesOf v t = some l:=by
  unfold bytesOf at hv ⊢
  simp only [Option.bind_eq_some_iff] at hv ⊢
  obtain ⟨cs,h1,h2⟩:=hv
  refine ⟨cs,?_,h2⟩
  unfold cellsOf at h1 ⊢
  split at h1
  · exact h1
  · rename_i b o len cap
    split at h1
    case isFalse=>cases h1
    rename_i hlc
    rw [if_pos hlc]
    unfold readN at h1 ⊢
    have hbb : b ≠ B:=fun e=>hb (by rw [e]; rfl)
    cases hr : readRow s b with
    | none=>rw [hr] at h1; cases h1
    | some row =>
      have : readRow t b = readRow s b:=by unfold Ab.readRow; rw [h.2 b (Ef hr) (fun e=>hbb (Option.some.inj e).symm)]
      rw [this]
      exact h1
  · cases h1
theorem CM {e : Int} : Keep (some N) s (setR N u e s):=KU
theorem RdV.set (h : RdV N s v x) {y : List UInt8 × Int} (hu : bytesOf u s = some y.1) (ha : ∀ c,B2 u = some c→c < N) (hl : y.1.length ≤ 140737488355328) : RdV N (setR N u y.2 s) u y:=⟨CX h.lt,Xn CM hu (fun e=>Nat.lt_irrefl _ (ha _ e)),ha,hl⟩
theorem RdV.seterr (h : RdV N s v x) (e : Int) : Rd N (setR N v e s) (x.1,e):=⟨v,h.set (y:=(x.1,e)) h.byt h.apart h.small⟩
theorem Xo {l : List UInt8} (h : bytesOf v s = some l) {i : Nat} (hi : i ≤ l.length) {k : IntKind} : ∃ u,Bn 1 v (some (.int k (i : Int))) none none = some u∧bytesOf u s = some (l.drop i)∧∀ c,B2 u = some c→B2 v = some c:=by
  obtain ⟨u,h1,h2⟩:=BH h (lo:=some (.int k (i : Int))) (hi:=none) (mx:=none) (i:=i) (j:=l.length) (by simp [Bi]) rfl hi (Nat.le_refl _) (.inl rfl)
  refine ⟨u,h1,by rw [h2,List.take_of_length_le (by simp)],fun c hc=>?_⟩
  unfold Bn at h1
  split at h1
  case h_2=>cases h1
  rename_i a len cap
  unfold DT at h1
  split at h1
  case isFalse=>cases h1
  simp only [Option.bind_eq_some_iff] at h1
  obtain ⟨m,_,hh,_,ll,_,h1⟩:=h1
  split at h1
  case isFalse=>cases h1
  unfold HO at h1
  split at h1
  · cases h1; cases hc
  · cases h1; exact hc
  · cases h1
theorem RdV.drop (h : RdV N s v x) {i : Nat} (hi : i ≤ x.1.length) {k : IntKind} : ∃ u,Bn 1 v (some (.int k (i : Int))) none none = some u∧A4 1 (rp N) u s = some (setR N u x.2 s)∧Rd N (setR N u x.2 s) (x.1.drop i,x.2):=by
  obtain ⟨u,h1,h2,h3⟩:=Xo h.byt hi (k:=k)
  obtain ⟨g1,g2,_⟩:=YV h2
  refine ⟨u,h1,h.st0 g1 g2,u,h.set (y:=(x.1.drop i,x.2)) h2 (fun c e=>h.apart c (h3 _ e)) (by have:=h.small; simp; omega)⟩
end
theorem YW {s : St} {v : Value} {l : List UInt8} (h : bytesOf v s = some l) : ∀ c,B2 v = some c→c < s.heap.length:=by
  intro c hc
  unfold bytesOf at h
  simp only [Option.bind_eq_some_iff] at h
  obtain ⟨cs,h1,h2⟩:=h
  unfold cellsOf at h1
  split at h1
  · cases hc
  · split at h1
    case isFalse=>cases h1
    obtain ⟨row,g1,_⟩:=Gz h1
    cases hc
    exact Ef g1
  · cases h1
theorem ZeR {s : St} {v : Value} {l : List UInt8} (h : bytesOf v s = some l) (hl : l.length ≤ 140737488355328) : Rd s.heap.length (s.push (.row 0 [v,.int .i64 0] .act)) (l,0) :=
  ⟨v,AC,Ext.bytes (.push _ (Nat.le_refl _) _) h,YW h,hl⟩
theorem QW {s t : St} {v : Value} {l : List UInt8} (h : bytesOf v s = some l) (k : ∀ c,B2 v = some c→t.heap[c]? = s.heap[c]?) : bytesOf v t = some l:=by
  unfold bytesOf at h ⊢
  simp only [Option.bind_eq_some_iff] at h ⊢
  obtain ⟨cs,h1,h2⟩:=h
  refine ⟨cs,?_,h2⟩
  unfold cellsOf at h1 ⊢
  split at h1
  · exact h1
  · rename_i b o len cap
    split at h1
    case isFalse=>cases h1
    rename_i hlc
    rw [if_pos hlc]
    unfold readN Ab.readRow at h1 ⊢
    rw [k b rfl]
    exact h1
  · cases h1
theorem Rd.keep {N : Nat} {s t : St} {x : List UInt8 × Int} (h : Rd N s x) (k : ∀ b,b ≤ N→t.heap[b]? = s.heap[b]?) : Rd N t x:=by
  obtain ⟨v,h⟩:=h
  exact ⟨v,⟨by rw [k N (Nat.le_refl _)]; exact h.blk,QW h.byt fun c hc=>k c (Nat.le_of_lt (h.apart c hc)),h.apart,h.small⟩⟩
theorem Rd.ext {N : Nat} {s t : St} {x : List UInt8 × Int} (h : Rd N s x) (k : Ext s.heap.length s t) : Rd N t x:=h.keep fun b hb=>k.2 b (by obtain ⟨v,h⟩:=h; have:=h.lt; omega)
theorem Rd.lt {N : Nat} {s : St} {x : List UInt8 × Int} (h : Rd N s x) : N < s.heap.length:=by obtain ⟨v,h⟩:=h; exact h.lt
def Nq (ag : Bool) (u : Value) (cs : List Value) : Prop:=match ag with
  | true=>u = .agg cs.toArray
  | false=>cs = [u]
theorem Nq.cells {ag : Bool} {u : Value} {cs : List Value} (h : Nq ag u cs) (hl : cs.all AI = true) : Ao u = cs∧Fk u = true:=by
  cases ag with
  | true =>
    have h : u = .agg cs.toArray:=h
    subst h
    exact ⟨by simp [Ao],rfl⟩
  | false =>
    have h : cs = [u]:=h
    subst h
    simp at hl
    cases u <;> first | exact ⟨rfl,rfl⟩ | (simp [AI] at hl)
def Pf {α : Type} (N : Nat) (f : St→Option (Value × St)) (ag : Bool) (O : OCod α) (p : Par α) : Prop :=
  ∀ (s : St) (x : List UInt8 × Int),Rd N s x→∃ (a : α) (u : Value) (cs : List Value) (s' : St) (y : List UInt8 × Int),f s = some (u,s')∧Rd N s' y∧Keep (some N) s s'∧Nq ag u cs∧O.own s.heap.length s'.heap.length a s' cs∧Does p x a y
def FrM (N M : Nat) (s t : St) : Prop:=s.heap.length ≤ t.heap.length∧∀ c,c < M→c ≠ N→t.heap[c]? = s.heap[c]?
theorem FrM.refl (N M : Nat) (s : St) : FrM N M s s:=⟨Nat.le_refl _,fun _ _ _=>rfl⟩
theorem FrM.trans {N M : Nat} {s t u : St} (h : FrM N M s t) (g : FrM N M t u) : FrM N M s u:=⟨Nat.le_trans h.1 g.1,fun c h1 h2=>(g.2 c h1 h2).trans (h.2 c h1 h2)⟩
theorem FrM.keep {N : Nat} {s t : St} (h : FrM N s.heap.length s t) : Keep (some N) s t:=⟨h.1,fun c h1 h2=>h.2 c h1 fun e=>h2 (by rw [e])⟩
theorem FrM.ext {N M : Nat} {s t : St} (h : Ext s.heap.length s t) (hM : M ≤ s.heap.length) : FrM N M s t:=⟨h.1,fun c h1 h2=>h.2 c (by omega)⟩
theorem BM {s : St} {b : Nat} {B : Blk} : (s.putB b B).heap.length = s.heap.length:=by simp [St.putB]
theorem Cl {s : St} {b c : Nat} {B : Blk} (h : c ≠ b) : (s.putB b B).heap[c]? = s.heap[c]?:=by simp only [St.putB]; rw [List.getElem?_set_ne (by omega)]
theorem Rd.put {N b : Nat} {s : St} {B : Blk} {x : List UInt8 × Int} (h : Rd N s x) (hb : N < b) : Rd N (s.putB b B) x:=h.keep fun c hc=>Cl (by omega)
theorem Rd.push {N : Nat} {s : St} {B : Blk} {x : List UInt8 × Int} (h : Rd N s x) : Rd N (s.push B) x:=h.keep fun c hc=>Db (by have:=h.lt; omega)
theorem Sz {s : St} {B n i : Nat} {cells : List Value} {st : Stat} {c : Value} (h : s.heap[B]? = some (.row n cells st)) (hst : st ≠ .dead) (hc : cells[i]? = some c) : Aj false 1 (.pointer (some ⟨B,i,none⟩)) s = some c:=by
  have : readRow s B = some cells:=by
    unfold Ab.readRow
    rw [h]
    cases st with
    | dead=>exact absurd rfl hst
    | act=>rfl
    | ro=>rfl
  simp [Aj,this,hc]
theorem IL {s : St} {B n m : Nat} {cells : List Value} {st : Stat} (h : s.heap[B]? = some (.row n cells st)) (hst : st ≠ .dead) (hm : cells.length = m) : Aj true m (.pointer (some ⟨B,0,none⟩)) s = some (.agg cells.toArray):=by
  have : readRow s B = some cells:=by
    unfold Ab.readRow
    rw [h]
    cases st with
    | dead=>exact absurd rfl hst
    | act=>rfl
    | ro=>rfl
  subst hm
  simp [Aj,readN,this]
theorem Dm {s : St} {B n i : Nat} {cells : List Value} {v : Value} (h : s.heap[B]? = some (.row n cells .act)) (hi : i < cells.length) (hv : AI v = true) (hc : Ao v = [v]) : A4 1 (.pointer (some ⟨B,i,none⟩)) v s = some (s.putB B (.row n (cells.set i v) .act)):=by
  have hput : AE cells i [v] = cells.set i v:=by
    unfold AE
    rw [List.set_eq_take_append_cons_drop,if_pos hi]
    simp
  simp [A4,hc,hv,Fe,h,hput,Nat.succ_le_of_lt hi]
theorem IM {s : St} {B n m : Nat} {cells vs : List Value} (h : s.heap[B]? = some (.row n cells .act)) (hm : vs.length = m) (hl : cells.length = m) (hv : vs.all AI = true) : A4 m (.pointer (some ⟨B,0,none⟩)) (.agg vs.toArray) s = some (s.putB B (.row n vs .act)):=by
  subst hm
  have h1 : Ao (.agg vs.toArray) = vs:=by simp [Ao]
  have hput : AE cells 0 vs = vs:=by simp [AE,hl]
  have hle : 0 + vs.length ≤ cells.length:=by omega
  unfold A4
  simp only [h1]
  rw [if_pos ⟨trivial,hv⟩]
  unfold Fe
  simp only [h]
  rw [if_pos hle,hput]
def natC (k : IntKind) : Cod Nat where
  n:=1
  enc i:=[.int k (i : Int)]
  pos:=by decide
  len _:=rfl
  inj a b h:=by
    have:=List.cons.inj h
    have h2 : (a : Int) = (b : Int):=by injection this.1
    exact_mod_cast h2
  leaf _:=rfl
abbrev oNat (k : IntKind) (m : Nat) : OCod Nat:=.ofC (natC k) fun n=>n ≤ m
abbrev oStr : OCod (List UInt8):=.ofC ZcV fun k=>k.length ≤ reachBytes
end Go.Proofs.YtmbhnbladmpnoaaGreat.Ab

/- Lists of what holds other things: their elements. -/
namespace Go.Proofs.YtmbhnbladmpnoaaGreat.Ab
open Go
theorem Ek {α : Type} {C : NCod α} {B : Nat} {l : List α} {s : St} {v : Value} (h : By C B l s v) : AI v = true:=by
  rcases h.2 with ⟨rfl,_⟩ | ⟨b,css,st,k,rfl,_⟩ <;> rfl
theorem A9 {α : Type} {C : NCod α} {B : Nat} {l : List α} {s : St} {v : Value} (h : By C B l s v) (t : TypeId) (s2 : St) : AG (.slice t) v s2 = some (.int .i64 ((l.length : Nat) : Int)):=by
  rcases h.2 with ⟨rfl,rfl⟩ | ⟨b,css,st,k,rfl,_⟩ <;> rfl
theorem ZeS {α : Type} {C : NCod α} {s : St} : ∀ {l : List α} {css : List (List Value)},All2 (fun a c=>C.rel a s c) l css→css.flatten.length = l.length * C.n∧∀ (i : Nat) (hi : i < l.length),∃ c,(css.flatten.drop (i * C.n)).take C.n = c∧C.rel l[i] s c
  | [],[],_=>⟨by simp,fun i hi=>by simp at hi⟩
  | a :: l,c :: css,⟨h1,h2⟩=>by
    have hl:=C.len h1
    obtain ⟨g1,g2⟩:=ZeS h2
    refine ⟨by rw [List.flatten_cons,List.length_append,g1,hl,List.length_cons,Nat.add_mul]; omega,fun i hi=>?_⟩
    cases i with
    | zero=>exact ⟨c,by rw [List.flatten_cons,Nat.zero_mul,List.drop_zero,← hl,List.take_left],h1⟩
    | succ i =>
      obtain ⟨c',e1,e2⟩:=g2 i (by simpa using hi)
      refine ⟨c',?_,e2⟩
      rw [List.flatten_cons,Nat.add_mul,Nat.one_mul,← hl,Nat.add_comm,← List.drop_drop,List.drop_left,hl]
      exact e1
theorem TG {α : Type} {C : NCod α} {B : Nat} {l : List α} {s : St} {v : Value} (h : By C B l s v) {i : Nat} (hi : i < l.length) : ∃ (b : Nat) (cells : List Value) (c : List Value),v = .slice (some ⟨b,0,none⟩) l.length l.length∧readRow s b = some cells∧cells.length = l.length * C.n∧(cells.drop (i * C.n)).take C.n = c∧C.rel l[i] s c:=by
  rcases h.2 with ⟨rfl,rfl⟩ | ⟨b,css,st,k,rfl,h2,h3,h4⟩
  · simp at hi
  · obtain ⟨g1,g2⟩:=ZeS h4
    obtain ⟨c,e1,e2⟩:=g2 i hi
    refine ⟨b,css.flatten,c,rfl,?_,g1,e1,e2⟩
    unfold Ab.readRow
    rw [h2]
    cases st with
    | dead=>exact absurd rfl h3
    | act=>rfl
    | ro=>rfl
theorem Pg {α : Type} {C : NCod α} {B : Nat} {l : List α} {s : St} {v : Value} (h : By C B l s v) {i : Nat} (hi : i < l.length) {n : Nat} (hn : n = C.n) {ag : Bool} (hag : ag = true ∨ n = 1) : ∃ p u cs,Az n v (.int .i64 (i : Int)) = some p∧Aj ag n p s = some u∧Aj ag n p (frzS s) = some u∧Nq ag u cs∧C.rel l[i] s cs:=by
  subst hn
  obtain ⟨b,cells,c,rfl,h1,h2,h3,h4⟩:=TG h hi
  have h1f : readRow (frzS s) b = some cells:=by rw [CD]; exact h1
  have hle : (i + 1) * C.n ≤ cells.length:=by rw [h2]; exact Nat.mul_le_mul_right _ hi
  rw [Nat.add_mul,Nat.one_mul] at hle
  have hidx : Az C.n (.slice (some ⟨b,0,none⟩) l.length l.length) (.int .i64 (i : Int)) = some (.pointer (some ⟨b,i * C.n,none⟩)):=by simp [Az]; omega
  have hcl:=C.len h4
  cases ag with
  | true =>
    refine ⟨_,.agg c.toArray,c,hidx,?_,?_,rfl,h4⟩
    · simp only [Aj,if_true,readN,h1,Option.bind_some]
      rw [if_pos hle,h3]
      rfl
    · simp only [Aj,if_true,readN,h1f,Option.bind_some]
      rw [if_pos hle,h3]
      rfl
  | false =>
    have hn1 : C.n = 1:=by
      rcases hag with h | h
      · cases h
      · exact h
    rw [hn1] at hcl
    obtain ⟨x,rfl⟩:=List.length_eq_one_iff.1 hcl
    have hx : cells[i * C.n]? = some x:=by
      have:=congrArg (fun l=>l[0]?) h3
      rw [hn1] at this
      simpa [hn1] using this
    refine ⟨_,x,[x],hidx,?_,?_,rfl,h4⟩
    · simp only [Aj,Bool.false_eq_true,if_false,h1,Option.bind_some,hx]
    · simp only [Aj,Bool.false_eq_true,if_false,h1f,Option.bind_some,hx]
end Go.Proofs.YtmbhnbladmpnoaaGreat.Ab

/- Lists that are looked through: whether one has something; whether they rise. -/
namespace Go.Proofs.YtmbhnbladmpnoaaGreat.Ab
open Go
def Asks {α : Type} (R : Aa) (C : NCod α) (ag : Bool) (s0 : St) (l : List α) (fv : Value) (p : α→Bool) : Prop :=
  ∀ a ∈ l,∀ t u cs,Ext s0.heap.length s0 t→C.rel a t cs→Nq ag u cs→∃ t',Ag Tryz.prog R fv [u] t = some (.bool (p a),t')∧Ext t.heap.length t t'
noncomputable def YX (n : Nat) (ag : Bool) (R : Aa) (T : List Value) (s : St) : Res :=
(abin Tryz.prog .lss 3 (.tmp 8) (.tmp 7) (getL T 3) (getL T 2)).bind fun v1 =>
Ax v1
 ((Az n (getL T 0) (getL T 3)).bind fun v2 =>
(Aj ag n v2 s).bind fun v3 =>
(Ag Tryz.prog R (getL T 1) [v3] s).bind fun r4 =>
Ax r4.1
 (some (.ret,[(getL T 3)],r4.2))
 ((abin Tryz.prog .add 3 (.tmp 8) (.const (.int .i64 1)) (getL T 3) (.int .i64 1)).bind fun v5 =>
some (.normal,[(getL T 0),(getL T 1),(getL T 2),v5],r4.2)))
 (some (.exit 0,[],s))
def idxP {α : Type} (p : α→Bool) : Nat→List α→Option Nat
  | _,[]=>none
  | i,a :: l=>if p a = true then some i else idxP p (i + 1) l
theorem SA {α : Type} {p : α→Bool} : ∀ {l : List α} {i : Nat},(idxP p i l).isSome = l.any p
  | [],_=>rfl
  | a :: l,i=>by
    simp only [idxP,List.any_cons]
    cases p a with
    | true=>rfl
    | false=>simpa using SA (l:=l) (i:=i + 1)
theorem ZaN {α : Type} {R : Aa} {C : NCod α} {n : Nat} {ag : Bool} (hn : n = C.n) (hag : ag = true ∨ n = 1) {B : Nat} {s0 : St} {v fv : Value} {l : List α} {p : α→Bool} (h : By C B l s0 v) (hl : l.length < 140737488355328) (hp : Asks R C ag s0 l fv p) : ∀ (rest : List α) (i : Nat) (s : St),l.drop i = rest→i ≤ l.length→Ext s0.heap.length s0 s →
    ∃ t,AS (YX n ag R) [v,fv,.int .i64 ((l.length : Nat) : Int),.int .i64 (i : Int)] s = (match idxP p i rest with | some k=>some (.ret,[.int .i64 (k : Int)],t) | none=>some (.exit 0,[],t))∧Ext s0.heap.length s0 t:=by
  intro rest
  induction rest with
  | nil =>
    intro i s hi hle hx
    have h1 : decide ((i : Int) < ((l.length : Nat) : Int)) = false:=by
      have:=List.drop_eq_nil_iff.1 hi
      simp; omega
    refine ⟨s,?_,hx⟩
    rw [Ar]
    simp only [YX,h1,idxP,EVs]
  | cons a rest ih =>
    intro i s hi hle hx
    obtain ⟨hlt,he,hd⟩:=Sv hi
    have h1 : decide ((i : Int) < ((l.length : Nat) : Int)) = true:=by simp; omega
    obtain ⟨q,u,cs,h2,h3,_,h4,h5⟩:=Pg (h.ext hx) hlt hn hag
    rw [he] at h5
    obtain ⟨t,g1,g2⟩:=hp a (by rw [← he]; exact List.getElem_mem _) s u cs hx h5 h4
    rcases Bool.eq_false_or_eq_true (p a) with c | c
    · refine ⟨t,?_,hx.trans (g2.less hx.1)⟩
      rw [Ar]
      simp only [YX,h1,h2,h3,g1,c,idxP,if_true,EVs]
    · obtain ⟨t2,f1,f2⟩:=ih (i + 1) t hd (by omega) (hx.trans (g2.less hx.1))
      refine ⟨t2,?_,f2⟩
      rw [Ar]
      simp only [YX,h1,h2,h3,g1,c,idxP,Bool.false_eq_true,if_false,Xf (show i < 140737488355328 by omega),EVs]
      exact f1
theorem Io {α : Type} {R : Aa} {C : NCod α} {n : Nat} {ag : Bool} (hn : n = C.n) (hag : ag = true ∨ n = 1) {B : Nat} {s0 : St} {v fv : Value} {l : List α} {p : α→Bool} {t1 : TypeId} (h : By C B l s0 v) (hl : l.length < 140737488355328) (hp : Asks R C ag s0 l fv p) :
    ∃ (k : Int) (t : St),((AG (.slice t1) v s0).bind fun v0=>(AS (YX n ag R) [v,fv,v0,(.int .i64 0)] s0).bind fun r6=>exV r6.1 [(0,retV [(.int .i64 (-1))] r6.2.2)] (retV [(getL r6.2.1 0)] r6.2.2)) = some (.int .i64 k,t)∧decide (k ≥ 0) = l.any p∧Ext s0.heap.length s0 t:=by
  obtain ⟨t,h1,h2⟩:=ZaN hn hag h hl hp l 0 s0 rfl (Nat.zero_le _) (.refl _ _)
  rw [show ((0 : Nat) : Int) = 0 from rfl] at h1
  have ha:=SA (p:=p) (l:=l) (i:=0)
  cases hk : idxP p 0 l with
  | none =>
    rw [hk] at h1 ha
    refine ⟨-1,t,?_,by rw [← ha]; rfl,h2⟩
    simp only [A9 h,h1,ZaE (v:=.int .i64 (-1)) rfl,EVs]
  | some k =>
    rw [hk] at h1 ha
    refine ⟨(k : Int),t,?_,by rw [← ha]; simp,h2⟩
    simp only [A9 h,h1,ZaE (v:=.int .i64 (k : Int)) rfl,EVs]
def Keys {α : Type} (R : Aa) (C : NCod α) (ag : Bool) (s0 : St) (l : List α) (fv : Value) (key : α→Int) : Prop :=
  ∀ a ∈ l,∀ u cs,C.rel a s0 cs→Nq ag u cs→∀ t,Ag Tryz.prog R fv [u] t = some (.int .u64 (key a),t)
end Go.Proofs.YtmbhnbladmpnoaaGreat.Ab

/- Numbers as bytes: what the program's functions do. -/
namespace Go.Proofs.YtmbhnbladmpnoaaGreat.Ab
open Go
def rdN : Nat→Nat→List UInt8→Option (Nat × Nat × Int)
  | _,_,[]=>none
  | i,n,c :: l =>
    if i = 9∧1 < c.toNat then some (0,0,11)
    else if c.toNat < 128 then (if c.toNat = 0∧0 < i then some (0,0,11) else some (n + c.toNat % 128 * 2 ^ (7 * i),i + 1,0))
    else rdN (i + 1) (n + c.toNat % 128 * 2 ^ (7 * i)) l
def Au (l : List UInt8) : Nat × Nat × Int:=(rdN 0 0 l).getD (0,0,10)
theorem ZeT (c : Nat) : c &&& 127 = c % 128:=Nat.and_two_pow_sub_one_eq_mod c 7
theorem Ph {n m i : Nat} (h : n < 2 ^ i) : n ||| m * 2 ^ i = n + m * 2 ^ i:=by
  rw [Nat.mul_comm,Nat.or_comm,← Nat.two_pow_add_eq_or_of_lt h,Nat.add_comm]
theorem Mu {R : Aa} {s : St} {v : Value} {l : List UInt8} (h : bytesOf v s = some l) : ∀ (rest : List UInt8) (i n : Nat),i ≤ 9→l.drop i = rest→n < 2 ^ (7 * i) →
    AS (Cd.b0 R) [.int .u64 (n : Int),v,.int .i64 ((l.length : Nat) : Int),.int .i64 (i : Int)] s =
      match rdN i n rest with
      | none=>some (.exit 0,[],s)
      | some r=>some (.ret,[.int .u64 (r.1 : Int),.int .i64 (r.2.1 : Int),.int .i64 r.2.2],s)
  | [],i,n,hi,hr,hn=>by
    have hle : l.length ≤ i:=List.drop_eq_nil_iff.1 hr
    rw [Ar]
    have hc : decide ((i : Int) < ((l.length : Nat) : Int)) = false:=by simp; omega
    simp only [Cd.b0,EVs,hc]
    rfl
  | c :: rest,i,n,hi,hr,hn=>by
    have hlt : i < l.length:=by
      rcases Nat.lt_or_ge i l.length with hh | hh
      · exact hh
      · rw [List.drop_eq_nil_of_le hh] at hr; cases hr
    have hci : l[i] = c:=by
      have:=List.drop_eq_getElem_cons hlt
      rw [hr] at this
      exact (List.cons.inj this).1.symm
    have hrest : l.drop (i + 1) = rest:=by
      have:=List.drop_eq_getElem_cons hlt
      rw [hr] at this
      exact (List.cons.inj this).2.symm
    obtain ⟨p,hp1,hp2⟩:=CU h hlt (k:=.i64)
    rw [hci] at hp2
    have hcl:=c.toNat_lt
    rw [Ar]
    have hc : decide ((i : Int) < ((l.length : Nat) : Int)) = true:=by simp; omega
    simp only [Cd.b0,EVs,hc,hp1,hp2]
    have hw1 : IntKind.wrap .i64 (7 * (i : Int)) = ((7 * i : Nat) : Int):=by rw [wrap_i64 (by omega) (by omega)]; push_cast; rfl
    have hw2 : IntKind.wrap .i64 ((i : Int) + 1) = ((i + 1 : Nat) : Int):=by rw [wrap_i64 (by omega) (by omega)]; push_cast; rfl
    have h127 : (127 : Int) = ((127 : Nat) : Int):=rfl
    rw [h127]
    simp only [Zey (k:=.u8) rfl (show c.toNat < 2 ^ IntKind.bits .u8 from hcl) (show 127 < 2 ^ IntKind.bits .u8 by decide),ZeT,EVs,hw1,hw2]
    by_cases h9 : i = 9∧1 < c.toNat
    · have hb : (((i : Int) == 9) && decide ((c.toNat : Int) > 1)) = true:=by simp; omega
      simp only [hb,EVs,rdN,if_pos h9]
      rfl
    · have hb : (((i : Int) == 9) && decide ((c.toNat : Int) > 1)) = false:=by
        rw [Bool.eq_false_iff]; simp; omega
      have hc128 : c.toNat % 128 < 128:=Nat.mod_lt _ (by omega)
      have hconv : IntKind.wrap .u64 ((c.toNat % 128 : Nat) : Int) = ((c.toNat % 128 : Nat) : Int):=Tl rfl (Nat.lt_trans hc128 (by decide))
      have hpow : c.toNat % 128 * 2 ^ (7 * i) < 2 ^ 64∧n + c.toNat % 128 * 2 ^ (7 * i) < 2 ^ (7 * (i + 1)):=by
        refine ⟨?_,?_⟩
        · by_cases h8 : i ≤ 8
          · calc c.toNat % 128 * 2 ^ (7 * i) < 128 * 2 ^ (7 * i):=Nat.mul_lt_mul_of_pos_right hc128 (Nat.two_pow_pos _)
              _ ≤ 128 * 2 ^ 56:=Nat.mul_le_mul_left _ (Nat.pow_le_pow_right (by omega) (by omega))
              _ < 2 ^ 64:=by decide
          · have e9 : i = 9:=by omega
            have : c.toNat ≤ 1:=by omega
            subst e9
            have h1 : c.toNat % 128 ≤ 1:=by omega
            calc c.toNat % 128 * 2 ^ (7 * 9) ≤ 1 * 2 ^ (7 * 9):=Nat.mul_le_mul_right _ h1
              _ < 2 ^ 64:=by decide
        · have e : 2 ^ (7 * (i + 1)) = 128 * 2 ^ (7 * i):=by rw [show 7 * (i + 1) = 7 + 7 * i by omega,Nat.pow_add]
          rw [e]
          have : (c.toNat % 128 + 1) * 2 ^ (7 * i) ≤ 128 * 2 ^ (7 * i):=Nat.mul_le_mul_right _ (by omega)
          rw [Nat.add_mul] at this
          omega
      have hshl : ∀ t ox oy,abin Tryz.prog .shl t ox oy (.int .u64 ((c.toNat % 128 : Nat) : Int)) (.int .i64 ((7 * i : Nat) : Int)) = some (.int .u64 ((c.toNat % 128 * 2 ^ (7 * i) : Nat) : Int)):=fun t ox oy=>by
        rw [ZcU rfl,show c.toNat % 128 * 2 ^ (7 * i) % 2 ^ IntKind.bits .u64 = c.toNat % 128 * 2 ^ (7 * i) from Nat.mod_eq_of_lt hpow.1]
      have hn64 : n < 2 ^ IntKind.bits .u64:=Nat.lt_of_lt_of_le hn (Nat.pow_le_pow_right (by omega) (show 7 * i ≤ 64 by omega))
      have hor : ∀ t ox oy,abin Tryz.prog .or t ox oy (.int .u64 (n : Int)) (.int .u64 ((c.toNat % 128 * 2 ^ (7 * i) : Nat) : Int)) = some (.int .u64 ((n + c.toNat % 128 * 2 ^ (7 * i) : Nat) : Int)):=fun t ox oy=>by
        rw [u_or rfl hn64 hpow.1,Ph hn]
      have hlt128 : decide ((c.toNat : Int) < 128) = decide (c.toNat < 128):=decide_eq_decide.2 (by omega)
      simp only [hb,EVs,hconv,hshl,hor,hlt128]
      rw [rdN,if_neg h9]
      by_cases h1 : c.toNat < 128
      · simp only [decide_eq_true h1,EVs,if_pos h1]
        by_cases h2 : c.toNat = 0∧0 < i
        · have hb2 : (((c.toNat : Int) == 0) && decide ((i : Int) > 0)) = true:=by simp; omega
          simp only [hb2,EVs,if_pos h2]
          rfl
        · have hb2 : (((c.toNat : Int) == 0) && decide ((i : Int) > 0)) = false:=by
            rw [Bool.eq_false_iff]; simp; omega
          simp only [hb2,EVs,if_neg h2]
      · simp only [decide_eq_false h1,EVs,if_neg h1]
        by_cases h8 : i ≤ 8
        · exact Mu h rest (i + 1) _ (by omega) hrest hpow.2
        · omega
theorem Vb {R : Aa} {s : St} {v : Value} {l : List UInt8} (h : bytesOf v s = some l) : Cd R v s = some (.tuple #[.int .u64 ((Au l).1 : Int),.int .i64 ((Au l).2.1 : Int),.int .i64 (Au l).2.2],s):=by
  have:=Mu (R:=R) h l 0 0 (by omega) rfl (by simp)
  unfold Cd Au
  simp only [AW h,EVs]
  rw [show (0 : Int) = ((0 : Nat) : Int) from rfl,this]
  cases rdN 0 0 l with
  | none=>rfl
  | some r=>rfl
def encF : Nat→Nat→List UInt8
  | 0,_=>[]
  | k + 1,n=>if n < 128 then [UInt8.ofNat n] else UInt8.ofNat (n % 128 + 128) :: encF k (n / 128)
def enc (n : Nat) : List UInt8:=encF 10 n
theorem SB : ∀ (k n : Nat),(encF k n).length ≤ k
  | 0,_=>by simp [encF]
  | k + 1,n=>by
    simp only [encF]
    split
    · simp
    · simp [SB k (n / 128)]
theorem Zc7 {k n : Nat} : encF (k + 1) n ≠ []:=by
  simp only [encF]
  split <;> simp
theorem KV {n : Nat} : enc n ≠ []:=Zc7
theorem JX {n : Nat} : (enc n).length ≤ 10:=SB 10 n
theorem BW {n : Nat} (h : n < 256) : ((UInt8.ofNat n).toNat : Nat) = n:=by simp; omega
theorem TH {n : Nat} (h : n < 256) : bv [UInt8.ofNat n] = [.int .u8 ((n : Nat) : Int)]:=by
  simp only [bv,List.map_cons,List.map_nil,BW h]
theorem Zge (n : Nat) : n % 256 ||| 128 = n % 128 + 128:=by
  have h : n % 256 = n % 128 + 128 * (n / 128 % 2):=by omega
  rw [h]
  rcases Nat.mod_two_eq_zero_or_one (n / 128) with e | e
  · rw [e,Nat.mul_zero,Nat.add_zero]
    have:=Ph (n:=n % 128) (m:=1) (i:=7) (Nat.mod_lt _ (by decide))
    simpa using this
  · rw [e,Nat.mul_one]
    have:=Ph (n:=n % 128) (m:=1) (i:=7) (Nat.mod_lt _ (by decide))
    have h2 : n % 128 + 128 = n % 128 ||| 128:=by simpa using this.symm
    rw [h2,Nat.or_assoc,Nat.or_self]
theorem V9 {R : Aa} {N : Nat} : ∀ (k n : Nat) (acc : List UInt8) (s : St) (out : Value),n < 128 ^ (k + 1)→n < 2 ^ 64→acc.length + k ≤ 100→Own N 1 s out (bv acc)→N ≤ s.heap.length →
    ∃ (m : Nat) (out' : Value) (s' : St) (pre : List UInt8),AS (D0.b0 R) [.int .u64 (n : Int),out] s = some (.exit 0,[.int .u64 (m : Int),out'],s')∧m < 128∧Own N 1 s' out' (bv (acc ++ pre))∧encF (k + 1) n = pre ++ [UInt8.ofNat m]∧Ext N s s'∧N ≤ s'.heap.length∧pre.length ≤ k
  | 0,n,acc,s,out,h1,h2,h3,h4,h5=>by
    rw [Ar]
    have hc : decide ((n : Int) ≥ 128) = false:=by simp; omega
    simp only [D0.b0,EVs,hc]
    exact ⟨n,out,s,[],rfl,by simpa using h1,by simpa using h4,by simp [encF]; omega,.refl _ _,h5,by simp⟩
  | k + 1,n,acc,s,out,h1,h2,h3,h4,h5=>by
    rw [Ar]
    by_cases hn : n < 128
    · have hc : decide ((n : Int) ≥ 128) = false:=by simp; omega
      simp only [D0.b0,EVs,hc]
      exact ⟨n,out,s,[],rfl,hn,by simpa using h4,by rw [encF,if_pos hn]; rfl,.refl _ _,h5,by simp⟩
    · have hc : decide ((n : Int) ≥ 128) = true:=by simp; omega
      have hu : ∀ t ox oy,abin Tryz.prog .or t ox oy (.int .u8 ((n % 256 : Nat) : Int)) (.int .u8 (128 : Int)) = some (.int .u8 ((n % 128 + 128 : Nat) : Int)):=fun t ox oy=>by
        rw [show (128 : Int) = ((128 : Nat) : Int) from rfl,u_or rfl (show n % 256 < 2 ^ 8 from Nat.mod_lt _ (by decide)) (show 128 < 2 ^ 8 by decide),Zge]
      have hs : ∀ t ox oy,abin Tryz.prog .shr t ox oy (.int .u64 (n : Int)) (.int .u64 (7 : Int)) = some (.int .u64 ((n / 128 : Nat) : Int)):=fun t ox oy=>by
        rw [show (7 : Int) = ((7 : Nat) : Int) from rfl,W9 (show n < 2 ^ 64 from h2)]
      obtain ⟨r,g1,v',s',g2,g3,g4⟩:=Yu (w:=1) (z:=[.int .u8 0]) (v:=.int .u8 ((n % 128 + 128 : Nat) : Int)) h4 h5 (by omega) (by omega) (by omega) rfl rfl rfl rfl (by rw [A3]; omega)
      simp only [D0.b0,EVs,hc,Kq,hu,g1,g2,hs]
      have h5' : N ≤ s'.heap.length:=Nat.le_trans h5 g4.1
      have hacc : bv acc ++ Ao (.int .u8 ((n % 128 + 128 : Nat) : Int)) = bv (acc ++ [UInt8.ofNat (n % 128 + 128)]):=by
        rw [CK,TH (by omega)]; rfl
      rw [hacc] at g3
      obtain ⟨m,out',s2,pre,f1,f2,f3,f4,f5,f6,f7⟩:=V9 k (n / 128) (acc ++ [UInt8.ofNat (n % 128 + 128)]) s' v' (by rw [Nat.pow_succ] at h1; omega) (by omega) (by simp; omega) g3 h5'
      refine ⟨m,out',s2,UInt8.ofNat (n % 128 + 128) :: pre,f1,f2,by simpa using f3,?_,g4.trans f5,f6,by simp; omega⟩
      rw [encF,if_neg hn,f4]
      rfl
theorem Zc8 {R : Aa} {n : Nat} (hn : n < 2 ^ 64) (s : St) : ∃ v s',D0 R (.int .u64 (n : Int)) s = some (v,s')∧Own s.heap.length 1 s' v (bv (enc n))∧Ext s.heap.length s s':=by
  obtain ⟨m,out',s2,pre,f1,f2,f3,f4,f5,f6,f7⟩:=V9 (R:=R) (N:=s.heap.length) 9 n [] s (.slice none 0 0) (Nat.lt_of_lt_of_le hn (by decide)) hn (by simp) (Own.nil _ _ _) (Nat.le_refl _)
  obtain ⟨r,g1,v',s',g2,g3,g4⟩:=Yu (w:=1) (z:=[.int .u8 0]) (v:=.int .u8 ((m : Nat) : Int)) f3 f6 (by omega) (by omega) (by omega) rfl rfl rfl rfl (by rw [A3]; simp; omega)
  have hm : m % 256 = m:=by omega
  unfold D0
  simp only [f1,EVs,Kq,hm,g1,g2]
  have hacc : bv ([] ++ pre) ++ Ao (.int .u8 ((m : Nat) : Int)) = bv (enc n):=by
    unfold enc
    rw [f4,List.nil_append,CK,TH (by omega)]; rfl
  rw [hacc] at g3
  refine ⟨v',s',?_,g3,f5.trans g4⟩
  rcases g3 with ⟨rfl,_⟩ | ⟨b,len,rfl,_⟩ <;> rfl
theorem Xp {lib : Lib} (hl : lib 103 = none) : ∀ (k n : Nat),n < 128 ^ (k + 1)→n < 2 ^ 64→k ≤ 50→∀ (s : St),∃ v s',run Tryz.prog lib Ad 103 [.int .u64 (n : Int)] s = some (v,s')∧Own s.heap.length 1 s' v (bv (encF (k + 1) n))∧Ext s.heap.length s s':=by
  intro k
  induction k with
  | zero =>
    intro n h1 h2 _ s
    have hn : n < 128:=by simpa using h1
    have hc : decide ((n : Int) < 128) = true:=by simp; omega
    have hm : n % 256 = n:=by omega
    have hb : As 1 [.int .u8 0] 1 [(0,.int .u8 ((n : Nat) : Int))] s = some (Af [UInt8.ofNat n] s):=by
      unfold Af
      rw [TH (by omega)]
      rfl
    refine ⟨_,_,Id hl (r:=Af [UInt8.ofNat n] s) ?_,?_,AZ (Nat.le_refl _)⟩
    · unfold KL
      simp only [EVs,hc,Kq,hm,hb]
      rfl
    · rw [encF,if_pos hn]
      exact DP (Nat.le_refl _) (by simp)
  | succ k ih =>
    intro n h1 h2 hk s
    by_cases hn : n < 128
    · have hc : decide ((n : Int) < 128) = true:=by simp; omega
      have hm : n % 256 = n:=by omega
      have hb : As 1 [.int .u8 0] 1 [(0,.int .u8 ((n : Nat) : Int))] s = some (Af [UInt8.ofNat n] s):=by
        unfold Af
        rw [TH (by omega)]
        rfl
      refine ⟨_,_,Id hl (r:=Af [UInt8.ofNat n] s) ?_,?_,AZ (Nat.le_refl _)⟩
      · unfold KL
        simp only [EVs,hc,Kq,hm,hb]
        rfl
      · rw [encF,if_pos hn]
        exact DP (Nat.le_refl _) (by simp)
    · have hc : decide ((n : Int) < 128) = false:=by simp; omega
      have hrem : ∀ t ox oy,abin Tryz.prog .rem t ox oy (.int .u64 (n : Int)) (.int .u64 (128 : Int)) = some (.int .u64 ((n % 128 : Nat) : Int)):=fun t ox oy=>by
        rw [ZcR (by decide)]; rfl
      have hquo : ∀ t ox oy,abin Tryz.prog .quo t ox oy (.int .u64 (n : Int)) (.int .u64 (128 : Int)) = some (.int .u64 ((n / 128 : Nat) : Int)):=fun t ox oy=>by
        rw [Zf9 (by decide)]
        have : (n : Int).tdiv 128 = ((n / 128 : Nat) : Int):=rfl
        rw [this,RF,Nat.mod_eq_of_lt (by omega)]
      have hm : n % 128 % 256 = n % 128:=by omega
      have hw : IntKind.wrap .u8 (((n % 128 : Nat) : Int) + 128) = ((n % 128 + 128 : Nat) : Int):=by
        rw [show (((n % 128 : Nat) : Int) + 128) = ((n % 128 + 128 : Nat) : Int) by omega,Kq,Nat.mod_eq_of_lt (by omega)]
      have hb : As 1 [.int .u8 0] 1 [(0,.int .u8 ((n % 128 + 128 : Nat) : Int))] s = some (Af [UInt8.ofNat (n % 128 + 128)] s):=by
        unfold Af
        rw [TH (by omega)]
        rfl
      obtain ⟨v,s',g1,g2,g3⟩:=ih (n / 128) (by rw [Nat.pow_succ] at h1; omega) (by omega) (by omega) (Af [UInt8.ofNat (n % 128 + 128)] s).2
      have hO : Own s.heap.length 1 s' (Af [UInt8.ofNat (n % 128 + 128)] s).1 (bv [UInt8.ofNat (n % 128 + 128)]) :=
        .inr ⟨s.heap.length,1,rfl,Nat.le_refl _,by rw [g3.2 _ (by simp [Af,St.push])]; exact AC,by simp [bv],by omega⟩
      have hle : s.heap.length ≤ s'.heap.length:=Nat.le_trans (by simp [Af,St.push]) g3.1
      have hlen:=SB (k + 1) (n / 128)
      obtain ⟨v2,s2,f1,f2,f3⟩:=GB (w:=1) hO hle (by omega) (by omega) (y:=v) (m:=(encF (k + 1) (n / 128)).length) (by
        rcases g2 with ⟨rfl,e⟩ | ⟨b,len,rfl,_,_,e,_⟩
        · rw [V1 (m:=[]) e]; rfl
        · rw [A3,Nat.mul_one] at e; rw [e]; rfl) (Nz g2.cells) (by rw [A3,Nat.mul_one]) (by rw [A3,A3]; simp; omega)
      refine ⟨v2,s2,Id hl (r:=(v2,s2)) ?_,?_,((AZ (Nat.le_refl _)).trans (g3.less (by simp [Af,St.push]))).trans f3⟩
      · unfold KL
        simp only [EVs,hc,hrem,Kq,hm,hw,hb,hquo,En,g1,f1]
        rcases f2 with ⟨rfl,_⟩ | ⟨b,len,rfl,_⟩ <;> rfl
      · rw [encF,if_neg hn,← List.singleton_append,CK]
        exact f2
end Go.Proofs.YtmbhnbladmpnoaaGreat.Ab

/- Texts,numbers in four bytes,and what is Bq of the octet functions. -/
namespace Go.Proofs.YtmbhnbladmpnoaaGreat.Ab
open Go
def tup3 (n k : Nat) (e : Int) : Value:=.tuple #[.int .u64 (n : Int),.int .i64 (k : Int),.int .i64 e]
def Ch : Sum:=fun xs s=>(match xs with | [v]=>(bytesOf v s).map fun l=>tup3 (Au l).1 (Au l).2.1 (Au l).2.2 | _=>none).map fun v=>(v,s)
def gNum : Sum:=fun xs s=>(match xs with | [.int .u64 a]=>if 0 ≤ a∧a < 18446744073709551616 then some (enc a.toNat) else none | _=>none).map fun l=>Af l s
theorem FD {v : Value} {s : St} {l : List UInt8} (h : bytesOf v s = some l) : Ch [v] s = some (tup3 (Au l).1 (Au l).2.1 (Au l).2.2,s):=by
  simp only [Ch,h,Option.map_some]
theorem LJ {n : Nat} {s : St} (h : n < 18446744073709551616) : gNum [.int .u64 (n : Int)] s = some (Af (enc n) s):=by
  simp only [gNum]
  rw [if_pos (by omega)]
  rfl
theorem Vc {lib : Lib} (hl : lib 117 = none) : BO Tryz.prog lib Ad 117 Ch :=
  BO.plain (G:=fun xs s=>match xs with | [v]=>(bytesOf v s).map fun l=>tup3 (Au l).1 (Au l).2.1 (Au l).2.2 | _=>none) fun xs s v h=>by
    split at h
    · simp only [Option.map_eq_some_iff] at h
      obtain ⟨l,hl2,rfl⟩:=h
      exact ⟨rfl,_,Nh hl (Vb (by rw [Bp]; exact hl2))⟩
    · cases h
theorem Zc9 {lib : Lib} (hl : lib 45 = none) : BO Tryz.prog lib Ad 45 gNum :=
  BO.bytes (G:=fun xs _=>match xs with | [.int .u64 a]=>if 0 ≤ a∧a < 18446744073709551616 then some (enc a.toNat) else none | _=>none) fun xs s l h=>by
    split at h
    · rename_i a
      split at h
      · rename_i ha
        cases h
        obtain ⟨n,rfl⟩:=Int.eq_ofNat_of_zero_le ha.1
        obtain ⟨v,s',h1,h2,_⟩:=Zc8 (R:=run Tryz.prog lib Ad) (n:=n) (by omega) (frzS s)
        rw [Cp] at h2
        exact ⟨KV,v,s',Ts hl h1,h2⟩
      · cases h
    · cases h
theorem Xq {lib : Lib} (hl : lib 103 = none) : BO Tryz.prog lib Ad 103 gNum :=
  BO.bytes (G:=fun xs _=>match xs with | [.int .u64 a]=>if 0 ≤ a∧a < 18446744073709551616 then some (enc a.toNat) else none | _=>none) fun xs s l h=>by
    split at h
    · rename_i a
      split at h
      · rename_i ha
        cases h
        obtain ⟨n,rfl⟩:=Int.eq_ofNat_of_zero_le ha.1
        have hn : n < 18446744073709551616:=by omega
        obtain ⟨v,s',h1,h2,_⟩:=Xp hl 9 n (Nat.lt_of_lt_of_le hn (by decide)) hn (by omega) (frzS s)
        rw [Cp] at h2
        exact ⟨KV,v,s',h1,h2⟩
      · cases h
    · cases h
theorem ZaO : ∀ {l : List UInt8} {i n : Nat} {r : Nat × Nat × Int},rdN i n l = some r→(r.2.2 = 0 ∨ r.2.2 = 11)∧(r.2.2 ≠ 0→r.1 = 0∧r.2.1 = 0)∧(r.2.2 = 0→i < r.2.1∧r.2.1 ≤ i + l.length)
  | [],i,n,r,h=>by simp [rdN] at h
  | c :: l,i,n,r,h=>by
    simp only [rdN] at h
    split at h
    · cases h; simp
    · split at h
      · split at h
        · cases h; simp
        · cases h; simp
      · obtain ⟨h1,h2,h3⟩:=ZaO h
        refine ⟨h1,h2,fun e=>?_⟩
        have:=h3 e
        simp
        omega
theorem EC (l : List UInt8) : (Au l).2.2 = 0→0 < (Au l).2.1∧(Au l).2.1 ≤ l.length:=by
  unfold Au
  cases h : rdN 0 0 l with
  | none=>intro e; simp at e
  | some r=>intro e; have:=(ZaO h).2.2 e; simp at this ⊢; omega
def C8 : Nat→List UInt8→Option Nat
  | 0,_=>none
  | _ + 1,[]=>none
  | k + 1,c :: l=>if c.toNat < 128 then some 0 else (C8 k l).map (· + 1)
def HA (l : List UInt8) (n : Nat) : Nat:=l.foldr (fun c n=>(n * 128 + c.toNat % 128) % 18446744073709551616) n
def JY (l : List UInt8) : Nat × Nat × Int :=
  match C8 10 l with
  | some i=>if enc (HA (l.take (i + 1)) 0) = l.take (i + 1) then (HA (l.take (i + 1)) 0,i + 1,0) else (0,0,11)
  | none=>if 10 ≤ l.length then (0,0,11) else (0,0,10)
theorem YY {l : List UInt8} {n : Nat} (h : n < 18446744073709551616) : HA l n < 18446744073709551616:=by
  cases l with
  | nil=>exact h
  | cons=>exact Nat.mod_lt _ (by decide)
theorem HB {R : Aa} {s : St} {v : Value} {l : List UInt8} (h : bytesOf v s = some l) (i : Value) : ∀ (j n : Nat),j ≤ l.length→j ≤ 100→n < 18446744073709551616 →
    AS (A2.b1 R) [v,i,.int .u64 (n : Int),.int .i64 ((j : Int) - 1)] s = some (.exit 2,[v,i,.int .u64 ((HA (l.take j) n : Nat) : Int)],s)
  | 0,n,hj,_,hn=>by
    rw [Ar]
    have hc : decide (((0 : Nat) : Int) - 1 ≥ 0) = false:=by simp
    simp only [A2.b1,EVs,hc]
    rfl
  | j + 1,n,hj,hj2,hn=>by
    rw [Ar]
    have e0 : (((j + 1 : Nat) : Int) - 1) = (j : Int):=by omega
    rw [e0]
    have hc : decide ((j : Int) ≥ 0) = true:=by simp
    obtain ⟨p,hp1,hp2⟩:=CU h (i:=j) (by omega) (k:=.i64)
    have hrem : ∀ t ox oy,abin Tryz.prog .rem t ox oy (.int .u8 ((l[j].toNat : Nat) : Int)) (.int .u8 (128 : Int)) = some (.int .u8 ((l[j].toNat % 128 : Nat) : Int)):=fun t ox oy=>by
      rw [ZcR (by decide)]; rfl
    have hmul : IntKind.wrap .u64 ((n : Int) * (128 : Int)) = ((n * 128 % 18446744073709551616 : Nat) : Int):=by
      rw [show (n : Int) * (128 : Int) = ((n * 128 : Nat) : Int) by omega,RF]
    have hcv : IntKind.wrap .u64 ((l[j].toNat % 128 : Nat) : Int) = ((l[j].toNat % 128 : Nat) : Int):=by rw [RF,Nat.mod_eq_of_lt (by omega)]
    have hadd : IntKind.wrap .u64 (((n * 128 % 18446744073709551616 : Nat) : Int) + ((l[j].toNat % 128 : Nat) : Int)) = (((n * 128 + l[j].toNat % 128) % 18446744073709551616 : Nat) : Int):=by
      rw [show ((n * 128 % 18446744073709551616 : Nat) : Int) + ((l[j].toNat % 128 : Nat) : Int) = ((n * 128 % 18446744073709551616 + l[j].toNat % 128 : Nat) : Int) by omega,RF]
      congr 1
      omega
    have hsub : IntKind.wrap .i64 ((j : Int) - 1) = (j : Int) - 1:=wrap_i64 (by omega) (by omega)
    simp only [A2.b1,EVs,hc]
    rw [hmul]
    simp only [EVs,hp1,hp2,hrem]
    rw [hcv,hadd,hsub]
    rw [HB h i j _ (by omega) (by omega) (Nat.mod_lt _ (by decide))]
    have ht : l.take (j + 1) = l.take j ++ [l[j]]:=by rw [List.take_succ_eq_append_getElem (by omega)]
    rw [ht]
    simp only [HA,List.foldr_append,List.foldr_cons,List.foldr_nil]
theorem Pi {R : Aa} (hR : ∀ xs s,R 103 xs s = gNum xs s) {s : St} {v : Value} {l : List UInt8} (h : bytesOf v s = some l) : ∀ (rest : List UInt8) (i : Nat),i ≤ 10→l.drop i = rest →
    match C8 (10 - i) rest with
    | some d=>∃ s',AS (A2.b0 R) [v,.int .i64 (i : Int)] s = some (.ret,(if enc (HA (l.take (i + d + 1)) 0) = l.take (i + d + 1) then [.int .u64 ((HA (l.take (i + d + 1)) 0 : Nat) : Int),.int .i64 ((i + d + 1 : Nat) : Int),.int .i64 0] else [.int .u64 0,.int .i64 0,.int .i64 11]),s')
    | none=>AS (A2.b0 R) [v,.int .i64 (i : Int)] s = some (.exit 0,[v],s):=by
  intro rest
  induction rest with
  | nil =>
    intro i hi hr
    have hle : l.length ≤ i:=List.drop_eq_nil_iff.1 hr
    have : C8 (10 - i) [] = none:=by cases 10 - i <;> rfl
    rw [this]
    simp only
    rw [Ar]
    have hc : decide ((i : Int) < ((l.length : Nat) : Int)) = false:=by simp; omega
    simp only [A2.b0,EVs,AW h,hc,Bool.false_and]
  | cons c rest IH =>
    intro i hi hr
    have hlt : i < l.length:=by
      rcases Nat.lt_or_ge i l.length with hh | hh
      · exact hh
      · rw [List.drop_eq_nil_of_le hh] at hr; cases hr
    have hci : l[i] = c:=by
      have:=List.drop_eq_getElem_cons hlt
      rw [hr] at this
      exact (List.cons.inj this).1.symm
    have hrest : l.drop (i + 1) = rest:=by
      have:=List.drop_eq_getElem_cons hlt
      rw [hr] at this
      exact (List.cons.inj this).2.symm
    by_cases h10 : i = 10
    · subst h10
      have : C8 (10 - 10) (c :: rest) = none:=rfl
      rw [this]
      simp only
      rw [Ar]
      have hc : (decide (((10 : Nat) : Int) < ((l.length : Nat) : Int)) && decide (((10 : Nat) : Int) < 10)) = false:=by simp
      simp only [A2.b0,EVs,AW h,hc]
    · obtain ⟨k,hk⟩ : ∃ k,10 - i = k + 1:=⟨9 - i,by omega⟩
      have hk2 : 10 - (i + 1) = k:=by omega
      obtain ⟨p,hp1,hp2⟩:=CU h hlt (k:=.i64)
      rw [hci] at hp2
      have hcl:=c.toNat_lt
      have hc : (decide ((i : Int) < ((l.length : Nat) : Int)) && decide ((i : Int) < 10)) = true:=by simp; omega
      have hw2 : IntKind.wrap .i64 ((i : Int) + 1) = ((i + 1 : Nat) : Int):=by rw [wrap_i64 (by omega) (by omega)]; push_cast; rfl
      rw [hk,C8]
      by_cases h1 : c.toNat < 128
      · have hb : decide ((c.toNat : Int) ≥ 128) = false:=by simp; omega
        rw [if_pos h1]
        simp only [Nat.add_zero]
        rw [Ar]
        have hin:=HB (R:=R) h (.int .i64 (i : Int)) (i + 1) 0 (by omega) (by omega) (by omega)
        rw [show (((i + 1 : Nat) : Int) - 1) = (i : Int) by omega,show (((0 : Nat) : Int)) = (0 : Int) from rfl] at hin
        have hm64:=YY (l:=l.take (i + 1)) (n:=0) (by decide)
        generalize HA (l.take (i + 1)) 0 = m at hin hm64 ⊢
        simp only [A2.b0,EVs,AW h,hc,hp1,hp2,hb]
        rw [hin]
        simp only [EVs,En]
        rw [hR,LJ hm64]
        simp only [EVs]
        have hE : Ext s.heap.length s (Af (enc m) s).2:=AZ (Nat.le_refl _)
        have hs1:=GA (s:=frzS (Af (enc m) s).2) (v:=(Af (enc m) s).1) (by rw [Bp]; exact Bb)
        obtain ⟨u,hu1,hu2⟩:=BH h (lo:=none) (hi:=some (.int .i64 ((i + 1 : Nat) : Int))) (mx:=none) (i:=0) (j:=i + 1) (by simp [Bi]) (by simp [Bi]; omega) (by omega) (by omega) (.inl rfl)
        have hs2:=GA (s:=frzS (Af (enc m) s).2) (v:=u) (by rw [Bp]; exact hE.bytes hu2)
        simp only [Tp,Xa,hs1,EVs,hw2,hu1,hs2]
        rw [List.drop_zero,Nat.sub_zero]
        generalize enc m = em at hE hs1 hs2 ⊢
        have hneq : ∀ t ox oy,abin Tryz.prog .neq t ox oy (.string ⟨em.toArray⟩) (.string ⟨(l.take (i + 1)).toArray⟩) = some (.bool (!(em == l.take (i + 1)))):=fun t ox oy=>H3
        simp only [hneq,EVs]
        by_cases heq : em = l.take (i + 1)
        · have hbb : (!(em == l.take (i + 1))) = false:=by simp [heq]
          rw [if_pos heq]
          simp only [hbb,EVs]
          exact ⟨_,rfl⟩
        · have hbb : (!(em == l.take (i + 1))) = true:=by simp [heq]
          rw [if_neg heq]
          simp only [hbb,EVs]
          exact ⟨_,rfl⟩
      · have hb : decide ((c.toNat : Int) ≥ 128) = true:=by simp; omega
        rw [if_neg h1]
        have ih:=IH (i + 1) (by omega) hrest
        rw [hk2] at ih
        rw [Ar]
        simp only [A2.b0,EVs,AW h,hc,hp1,hp2,hb,hw2]
        cases hf : C8 k rest with
        | none=>rw [hf] at ih; exact ih
        | some d =>
          rw [hf] at ih
          simp only [Option.map_some] at ih ⊢
          rw [show i + (d + 1) + 1 = i + 1 + d + 1 by omega]
          exact ih
theorem Qw {R : Aa} (hR : ∀ xs s,R 103 xs s = gNum xs s) {s : St} {v : Value} {l : List UInt8} (h : bytesOf v s = some l) : ∃ s',A2 R v s = some (tup3 (JY l).1 (JY l).2.1 (JY l).2.2,s'):=by
  have:=Pi hR h l 0 (by omega) rfl
  rw [Nat.sub_zero,show (((0 : Nat) : Int)) = (0 : Int) from rfl] at this
  unfold A2 JY
  cases hf : C8 10 l with
  | none =>
    rw [hf] at this
    simp only at this ⊢
    simp only [this,EVs,AW h]
    by_cases h10 : 10 ≤ l.length
    · have hb : decide (((l.length : Nat) : Int) ≥ 10) = true:=by simp; omega
      simp only [hb,EVs,if_pos h10]
      exact ⟨_,rfl⟩
    · have hb : decide (((l.length : Nat) : Int) ≥ 10) = false:=by simp; omega
      simp only [hb,EVs,if_neg h10]
      exact ⟨_,rfl⟩
  | some d =>
    rw [hf] at this
    simp only [Nat.zero_add] at this ⊢
    obtain ⟨s',this⟩:=this
    simp only [this,EVs]
    by_cases heq : enc (HA (l.take (d + 1)) 0) = l.take (d + 1)
    · simp only [if_pos heq,EVs]
      exact ⟨_,rfl⟩
    · simp only [if_neg heq,EVs]
      exact ⟨_,rfl⟩
theorem GR (l : List UInt8) : (Au l).1 < 18446744073709551616:=by
  have key : ∀ (l : List UInt8) (i n : Nat) (r : Nat × Nat × Int),i ≤ 9→n < 2 ^ (7 * i)→rdN i n l = some r→r.1 < 18446744073709551616:=by
    intro l
    induction l with
    | nil=>intro i n r _ _ h; simp [rdN] at h
    | cons c l ih =>
      intro i n r hi hn h
      have hc128 : c.toNat % 128 < 128:=Nat.mod_lt _ (by omega)
      simp only [rdN] at h
      split at h
      · cases h; simp
      · rename_i h9
        have e : 2 ^ (7 * (i + 1)) = 128 * 2 ^ (7 * i):=by rw [show 7 * (i + 1) = 7 + 7 * i by omega,Nat.pow_add]
        have hnext : n + c.toNat % 128 * 2 ^ (7 * i) < 2 ^ (7 * (i + 1)):=by
          rw [e]
          have : (c.toNat % 128 + 1) * 2 ^ (7 * i) ≤ 128 * 2 ^ (7 * i):=Nat.mul_le_mul_right _ (by omega)
          rw [Nat.add_mul] at this
          omega
        split at h
        · rename_i hlt
          split at h
          · cases h; simp
          · cases h
            show n + c.toNat % 128 * 2 ^ (7 * i) < 18446744073709551616
            by_cases h8 : i ≤ 8
            · exact Nat.lt_of_lt_of_le hnext (Nat.le_trans (Nat.pow_le_pow_right (by omega) (show 7 * (i + 1) ≤ 63 by omega)) (by decide))
            · have e9 : i = 9:=by omega
              subst e9
              have h1 : c.toNat % 128 ≤ 1:=by omega
              have h2 : c.toNat % 128 * 2 ^ (7 * 9) ≤ 1 * 2 ^ (7 * 9):=Nat.mul_le_mul_right _ h1
              have h3 : (2 : Nat) ^ (7 * 9) = 9223372036854775808:=by decide
              omega
        · have hi8 : i ≤ 8:=by omega
          exact ih (i + 1) _ r (by omega) hnext h
  unfold Au
  cases h : rdN 0 0 l with
  | none=>simp
  | some r=>exact key l 0 0 r (by omega) (by simp) h
end Go.Proofs.YtmbhnbladmpnoaaGreat.Ab

/- The two ways to read a number are one. -/
namespace Go.Proofs.YtmbhnbladmpnoaaGreat.Ab
open Go
def hn : List UInt8→Nat
  | []=>0
  | c :: l=>hn l * 128 + c.toNat % 128
theorem TI (l : List UInt8) : HA l 0 = hn l % 18446744073709551616:=by
  induction l with
  | nil=>rfl
  | cons c l ih =>
    show (HA l 0 * 128 + c.toNat % 128) % 18446744073709551616 = _
    rw [ih,hn]
    omega
def High (l : List UInt8) : Prop:=∀ c ∈ l,128 ≤ c.toNat
def ZeU (u : List UInt8) : Prop:=∃ pre c,u = pre ++ [c]∧High pre∧c.toNat < 128∧(c.toNat = 0→pre = [])
theorem Vd : ∀ (k n : Nat),n < 128 ^ k→hn (encF k n) = n
  | 0,n,h=>by simp at h; subst h; rfl
  | k + 1,n,h=>by
    simp only [encF]
    split
    · simp only [hn,BW (show n < 256 by omega)]; omega
    · rw [Nat.pow_succ] at h
      simp only [hn,BW (show n % 128 + 128 < 256 by omega),Vd k (n / 128) (by omega)]
      omega
theorem QX : ∀ (k n : Nat),n < 128 ^ (k + 1)→∃ pre c,encF (k + 1) n = pre ++ [c]∧High pre∧c.toNat < 128∧(c.toNat = 0→n = 0∧pre = [])
  | 0,n,h=>by
    have hn : n < 128:=by simpa using h
    refine ⟨[],UInt8.ofNat n,by simp [encF,hn],fun c hc=>by simp at hc,by rw [BW (by omega)]; exact hn,fun e=>⟨by rw [BW (by omega)] at e; exact e,rfl⟩⟩
  | k + 1,n,h=>by
    by_cases hn : n < 128
    · refine ⟨[],UInt8.ofNat n,by simp [encF,hn],fun c hc=>by simp at hc,by rw [BW (by omega)]; exact hn,fun e=>⟨by rw [BW (by omega)] at e; exact e,rfl⟩⟩
    · rw [Nat.pow_succ] at h
      obtain ⟨pre,c,h1,h2,h3,h4⟩:=QX k (n / 128) (by omega)
      refine ⟨UInt8.ofNat (n % 128 + 128) :: pre,c,by rw [encF,if_neg hn,h1]; rfl,fun x hx=>?_,h3,fun e=>?_⟩
      · rcases List.mem_cons.1 hx with rfl | hx
        · rw [BW (by omega)]; omega
        · exact h2 x hx
      · have:=(h4 e).1; omega
theorem TJ {n : Nat} (h : n < 18446744073709551616) : ZeU (enc n):=by
  obtain ⟨pre,c,h1,h2,h3,h4⟩:=QX 9 n (Nat.lt_of_lt_of_le h (by decide))
  exact ⟨pre,c,h1,h2,h3,fun e=>(h4 e).2⟩
theorem YZ : ∀ (pre : List UInt8) (c : UInt8) (k : Nat),High pre→c.toNat < 128→(c.toNat = 0→pre = [])→pre.length < k→encF k (hn (pre ++ [c])) = pre ++ [c]
  | [],c,k,_,hc,_,hk=>by
    obtain ⟨k,rfl⟩ : ∃ q,k = q + 1:=⟨k - 1,by simp at hk; omega⟩
    have : hn ([] ++ [c]) = c.toNat:=by simp [hn]; omega
    rw [this,encF,if_pos hc]
    simp
  | x :: pre,c,k,hp,hc,h0,hk=>by
    obtain ⟨k,rfl⟩ : ∃ q,k = q + 1:=⟨k - 1,by simp at hk; omega⟩
    have hx : 128 ≤ x.toNat:=hp x (by simp)
    have hx2:=x.toNat_lt
    have hpos : 0 < hn (pre ++ [c]):=by
      have key : ∀ (q : List UInt8),0 < c.toNat→0 < hn (q ++ [c]):=by
        intro q hc0
        induction q with
        | nil=>simp [hn]; omega
        | cons y q ih=>simp only [List.cons_append,hn]; omega
      refine key pre ?_
      rcases Nat.eq_zero_or_pos c.toNat with e | e
      · have:=h0 e; simp at this
      · exact e
    have hv : hn (x :: pre ++ [c]) = hn (pre ++ [c]) * 128 + x.toNat % 128:=rfl
    rw [hv,encF,if_neg (by omega)]
    have e1 : (hn (pre ++ [c]) * 128 + x.toNat % 128) / 128 = hn (pre ++ [c]):=by omega
    have e2 : (hn (pre ++ [c]) * 128 + x.toNat % 128) % 128 + 128 = x.toNat:=by omega
    rw [e1,e2,YZ pre c k (fun y hy=>hp y (by simp [hy])) hc (fun e=>by have:=h0 e; simp at this) (by simp at hk; omega)]
    simp
theorem ZeV : ∀ (l : List UInt8),hn l < 128 ^ l.length
  | []=>by simp [hn]
  | c :: l=>by
    have:=ZeV l
    simp only [hn,List.length_cons,Nat.pow_succ]
    omega
theorem Pj : ∀ (pre l : List UInt8),hn (pre ++ l) = hn pre + 128 ^ pre.length * hn l
  | [],l=>by simp [hn]
  | c :: pre,l=>by
    simp only [List.cons_append,hn,Pj pre l,List.length_cons,Nat.pow_succ]
    rw [Nat.add_mul,Nat.mul_assoc,Nat.mul_comm (hn l) 128,← Nat.mul_assoc]
    omega
theorem Zda {u : List UInt8} (hu : u.length ≤ 10) : enc (HA u 0) = u ↔ ZeU u∧hn u < 18446744073709551616:=by
  rw [TI]
  constructor
  · intro h
    have hm : hn u % 18446744073709551616 < 18446744073709551616:=Nat.mod_lt _ (by decide)
    have hv:=Vd 10 (hn u % 18446744073709551616) (Nat.lt_of_lt_of_le hm (by decide))
    have h2 : hn u = hn u % 18446744073709551616:=by
      have : encF 10 (hn u % 18446744073709551616) = u:=h
      rw [this] at hv
      exact hv
    refine ⟨?_,by omega⟩
    rw [← h]
    exact TJ hm
  · rintro ⟨⟨pre,c,rfl,h1,h2,h3⟩,h4⟩
    rw [Nat.mod_eq_of_lt h4]
    exact YZ pre c 10 h1 h2 h3 (by simp at hu; omega)
theorem Mv : ∀ {k : Nat} {l : List UInt8} {d : Nat},C8 k l = some d→∃ pre c rest,l = pre ++ c :: rest∧pre.length = d∧d < k∧High pre∧c.toNat < 128
  | 0,l,d,h=>by simp [C8] at h
  | k + 1,[],d,h=>by simp [C8] at h
  | k + 1,c :: l,d,h=>by
    simp only [C8] at h
    split at h
    · rename_i hc; cases h; exact ⟨[],c,l,rfl,rfl,by omega,fun x hx=>by simp at hx,hc⟩
    · rename_i hc
      simp only [Option.map_eq_some_iff] at h
      obtain ⟨e,he,rfl⟩:=h
      obtain ⟨pre,q,rest,rfl,rfl,h3,h4,h5⟩:=Mv he
      refine ⟨c :: pre,q,rest,rfl,rfl,by omega,fun x hx=>?_,h5⟩
      simp at hx
      rcases hx with rfl | hx
      · omega
      · exact h4 x hx
theorem Mw : ∀ {k : Nat} {l : List UInt8},C8 k l = none→High (l.take k)
  | 0,l,_=>fun x hx=>by simp at hx
  | k + 1,[],_=>fun x hx=>by simp at hx
  | k + 1,c :: l,h=>by
    simp only [C8] at h
    split at h
    · cases h
    · rename_i hc
      have h2 : C8 k l = none:=by simpa using h
      intro x hx
      simp at hx
      rcases hx with rfl | hx
      · omega
      · exact Mw h2 x hx
theorem Ve : ∀ (pre : List UInt8) (c : UInt8) (rest : List UInt8) (i n : Nat),High pre→c.toNat < 128→i + pre.length ≤ 9 →
    rdN i n (pre ++ c :: rest) = if i + pre.length = 9∧1 < c.toNat then some (0,0,11) else if c.toNat = 0∧0 < i + pre.length then some (0,0,11) else some (n + 2 ^ (7 * i) * hn (pre ++ [c]),i + pre.length + 1,0)
  | [],c,rest,i,n,_,hc,hi=>by
    simp only [List.nil_append,rdN,List.length_nil,Nat.add_zero]
    split
    · rfl
    · split
      · rfl
      · simp only [hn,Nat.zero_mul,Nat.zero_add]
        rw [Nat.mul_comm]
  | x :: pre,c,rest,i,n,hp,hc,hi=>by
    have hx : 128 ≤ x.toNat:=hp x (by simp)
    simp only [List.length_cons] at hi
    rw [List.cons_append,rdN,if_neg (by omega),if_neg (by omega),Ve pre c rest (i + 1) _ (fun y hy=>hp y (by simp [hy])) hc (by omega)]
    simp only [List.length_cons]
    rw [show i + 1 + pre.length = i + (pre.length + 1) by omega]
    split
    · rfl
    · split
      · rfl
      · congr 2
        simp only [List.cons_append,hn]
        rw [show 7 * (i + 1) = 7 + 7 * i by omega,Nat.pow_add,Nat.mul_add,Nat.add_assoc]
        congr 1
        rw [Nat.mul_comm (x.toNat % 128),Nat.add_comm,show (2 : Nat) ^ 7 = 128 from rfl,← Nat.mul_assoc,Nat.mul_comm 128 (2 ^ (7 * i)),Nat.mul_assoc,Nat.mul_comm 128,Nat.mul_assoc]
theorem Wa : ∀ (l : List UInt8) (i n : Nat),i ≤ 9→High (l.take (10 - i))→rdN i n l = if i + l.length ≤ 9 then none else some (0,0,11)
  | [],i,n,hi,_=>by simp [rdN,hi]
  | x :: l,i,n,hi,hp=>by
    obtain ⟨k,hk⟩ : ∃ k,10 - i = k + 1:=⟨9 - i,by omega⟩
    rw [hk] at hp
    have hx : 128 ≤ x.toNat:=hp x (by simp)
    by_cases h9 : i = 9
    · subst h9
      rw [rdN,if_pos ⟨rfl,by omega⟩,if_neg (by simp)]
    · rw [rdN,if_neg (by omega),if_neg (by omega),Wa l (i + 1) _ (by omega) (fun y hy=>hp y (by
        rw [show 10 - (i + 1) = k by omega] at hy
        simp [hy]))]
      simp only [List.length_cons]
      rw [show i + 1 + l.length = i + (l.length + 1) by omega]
theorem QY (l : List UInt8) : JY l = Au l:=by
  unfold JY Au
  cases hf : C8 10 l with
  | none =>
    have:=Mw hf
    rw [Wa l 0 0 (by omega) this,Nat.zero_add]
    simp only
    by_cases h : l.length ≤ 9
    · rw [if_pos h,if_neg (by omega)]; rfl
    · rw [if_neg h,if_pos (by omega)]; rfl
  | some d =>
    obtain ⟨pre,c,rest,rfl,rfl,h3,h4,h5⟩:=Mv hf
    rw [Ve pre c rest 0 0 h4 h5 (by omega)]
    simp only [Nat.zero_add]
    have ht : (pre ++ c :: rest).take (pre.length + 1) = pre ++ [c]:=by
      rw [List.take_append,List.take_of_length_le (by omega),Nat.add_sub_cancel_left]
      rfl
    rw [ht]
    have hiff:=Zda (u:=pre ++ [c]) (by simp; omega)
    have hsum : hn (pre ++ [c]) = hn pre + 128 ^ pre.length * (c.toNat % 128):=by rw [Pj]; simp [hn]
    have hpl:=ZeV pre
    have hcm : c.toNat % 128 = c.toNat:=Nat.mod_eq_of_lt h5
    rw [hcm] at hsum
    by_cases h9 : pre.length = 9∧1 < c.toNat
    · rw [if_pos h9]
      rw [if_neg]
      · rfl
      · intro he
        have:=(hiff.1 he).2
        rw [hsum,h9.1] at this
        have h2 : 128 ^ 9 * 2 ≤ 128 ^ 9 * c.toNat:=Nat.mul_le_mul_left _ h9.2
        have h3 : (128 : Nat) ^ 9 = 9223372036854775808:=by decide
        omega
    · rw [if_neg h9]
      by_cases h0 : c.toNat = 0∧0 < pre.length
      · rw [if_pos h0,if_neg]
        · rfl
        · intro he
          obtain ⟨⟨pre2,c2,e1,e2,e3,e4⟩,_⟩:=hiff.1 he
          have e5:=List.append_inj e1 (by have:=congrArg List.length e1; simp at this; exact this)
          have e6 : c = c2:=by have:=e5.2; simpa using this
          have:=e4 (by rw [← e6]; exact h0.1)
          rw [← e5.1] at this
          rw [this] at h0
          simp at h0
      · rw [if_neg h0]
        have hlt : hn (pre ++ [c]) < 18446744073709551616:=by
          rw [hsum]
          by_cases h8 : pre.length ≤ 8
          · have h1 : (128 : Nat) ^ pre.length ≤ 128 ^ 8:=Nat.pow_le_pow_right (by omega) h8
            have h2 : 128 ^ pre.length * c.toNat ≤ 128 ^ 8 * 127:=Nat.mul_le_mul h1 (by omega)
            have h3 : (128 : Nat) ^ 8 = 72057594037927936:=by decide
            omega
          · have e9 : pre.length = 9:=by omega
            rw [e9] at hpl ⊢
            have h2 : 128 ^ 9 * c.toNat ≤ 128 ^ 9 * 1:=Nat.mul_le_mul_left _ (by omega)
            have h3 : (128 : Nat) ^ 9 = 9223372036854775808:=by decide
            omega
        rw [if_pos]
        · rw [TI,Nat.mod_eq_of_lt hlt]
          simp
        · exact hiff.2 ⟨⟨pre,c,rfl,h4,h5,fun e=>by
            rcases Nat.eq_zero_or_pos pre.length with h | h
            · exact List.length_eq_zero_iff.1 h
            · exact absurd ⟨e,h⟩ h0⟩,hlt⟩
end Go.Proofs.YtmbhnbladmpnoaaGreat.Ab

/- Texts. -/
namespace Go.Proofs.YtmbhnbladmpnoaaGreat.Ab
open Go
def AA (l : List UInt8) (most : Int) : List UInt8 × Nat × Int :=
  if (Au l).2.2 ≠ 0 then ([],0,(Au l).2.2)
  else if most < 0 ∨ most < (Au l).1 then ([],0,2)
  else if l.length - (Au l).2.1 < (Au l).1 then ([],0,10)
  else ((l.drop (Au l).2.1).take (Au l).1,(Au l).2.1 + (Au l).1,0)
def tupT (t : List UInt8) (k : Nat) (e : Int) : Value:=.tuple #[.string ⟨t.toArray⟩,.int .i64 (k : Int),.int .i64 e]
theorem TK {R : Aa} (hR : ∀ xs s,R 117 xs s = Ch xs s) {s : St} {v : Value} {l : List UInt8} (h : bytesOf v s = some l) (hl : l.length ≤ 150000000000000) {most : Int} (hm1 : -9223372036854775808 ≤ most) (hm2 : most < 9223372036854775808) :
    Ge R v (.int .i64 most) s = some (tupT (AA l most).1 (AA l most).2.1 (AA l most).2.2,s):=by
  have hk:=EC l
  have hn:=GR l
  unfold Ge
  simp only [CW,hR,FD h,EVs,tup3]
  simp only [Al,List.getElem?_cons_zero,List.getElem?_cons_succ,PN,Bool.false_eq_true,if_false,EVs]
  unfold AA
  generalize Au l = r at *
  obtain ⟨n,k,e⟩:=r
  simp only at hk hn ⊢
  by_cases he : e = 0
  · subst he
    have hk:=hk rfl
    have hb0 : ((0 : Int) != 0) = false:=rfl
    simp only [hb0,EVs,ne_eq,not_true_eq_false,if_false]
    by_cases hmn : most < 0 ∨ most < (n : Int)
    · have hb : (decide (most < 0) || decide ((n : Int) > IntKind.wrap .u64 most)) = true:=by
        by_cases h0 : most < 0
        · simp [h0]
        · rw [Em (by omega) (by omega)]; simp; omega
      simp only [hb,EVs,if_pos hmn]
      rfl
    · have hb : (decide (most < 0) || decide ((n : Int) > IntKind.wrap .u64 most)) = false:=by
        rw [Em (by omega) (by omega)]; simp; omega
      have hsub : IntKind.wrap .i64 (((l.length : Nat) : Int) - (k : Int)) = ((l.length - k : Nat) : Int):=by rw [wrap_i64 (by omega) (by omega)]; omega
      have hsub2 : IntKind.wrap .u64 ((l.length - k : Nat) : Int) = ((l.length - k : Nat) : Int):=Em (by omega) (by omega)
      simp only [hb,EVs,if_neg hmn,AW h,hsub,hsub2]
      by_cases hs : l.length - k < n
      · have hb2 : decide ((n : Int) > ((l.length - k : Nat) : Int)) = true:=by simp; omega
        simp only [hb2,EVs,if_pos hs]
        rfl
      · have hb2 : decide ((n : Int) > ((l.length - k : Nat) : Int)) = false:=by simp; omega
        have hw1 : IntKind.wrap .i64 (n : Int) = (n : Int):=wrap_i64 (by omega) (by omega)
        have hw2 : IntKind.wrap .i64 ((k : Int) + (n : Int)) = ((k + n : Nat) : Int):=by rw [wrap_i64 (by omega) (by omega)]; push_cast; rfl
        obtain ⟨u,hu1,hu2⟩:=BH h (lo:=some (.int .i64 (k : Int))) (hi:=some (.int .i64 ((k + n : Nat) : Int))) (mx:=none) (i:=k) (j:=k + n) (by simp [Bi]) (by simp [Bi]; omega) (by omega) (by omega) (.inl rfl)
        simp only [hb2,EVs,if_neg hs,hw1,hw2,hu1,GA hu2]
        rw [show k + n - k = n by omega]
        rfl
  · have hb0 : (e != 0) = true:=by simpa using he
    simp only [hb0,EVs,ne_eq,he,not_false_eq_true,if_true]
    rfl
theorem Pk {R : Aa} (hR : ∀ xs s,R 120 xs s = Ch xs s) {s : St} {v : Value} {l : List UInt8} (h : bytesOf v s = some l) (hl : l.length ≤ 150000000000000) {most : Int} (hm1 : -9223372036854775808 ≤ most) (hm2 : most < 9223372036854775808) :
    Gl R v (.int .i64 most) s = some (tupT (AA l most).1 (AA l most).2.1 (AA l most).2.2,s):=by
  have hk:=EC l
  have hn:=GR l
  unfold Gl
  simp only [F2,hR,FD h,EVs,tup3]
  simp only [Al,List.getElem?_cons_zero,List.getElem?_cons_succ,PN,Bool.false_eq_true,if_false,EVs]
  unfold AA
  generalize Au l = r at *
  obtain ⟨n,k,e⟩:=r
  simp only at hk hn ⊢
  by_cases he : e = 0
  · subst he
    have hk:=hk rfl
    have hb0 : ((0 : Int) != 0) = false:=rfl
    simp only [hb0,EVs,ne_eq,not_true_eq_false,if_false]
    by_cases hmn : most < 0 ∨ most < (n : Int)
    · have hb : (decide (most < 0) || decide ((n : Int) > IntKind.wrap .u64 most)) = true:=by
        by_cases h0 : most < 0
        · simp [h0]
        · rw [Em (by omega) (by omega)]; simp; omega
      simp only [hb,EVs,if_pos hmn]
      rfl
    · have hb : (decide (most < 0) || decide ((n : Int) > IntKind.wrap .u64 most)) = false:=by
        rw [Em (by omega) (by omega)]; simp; omega
      have hsub : IntKind.wrap .i64 (((l.length : Nat) : Int) - (k : Int)) = ((l.length - k : Nat) : Int):=by rw [wrap_i64 (by omega) (by omega)]; omega
      have hsub2 : IntKind.wrap .u64 ((l.length - k : Nat) : Int) = ((l.length - k : Nat) : Int):=Em (by omega) (by omega)
      simp only [hb,EVs,if_neg hmn,AW h,hsub,hsub2]
      by_cases hs : l.length - k < n
      · have hb2 : decide ((n : Int) > ((l.length - k : Nat) : Int)) = true:=by simp; omega
        simp only [hb2,EVs,if_pos hs]
        rfl
      · have hb2 : decide ((n : Int) > ((l.length - k : Nat) : Int)) = false:=by simp; omega
        have hw1 : IntKind.wrap .i64 (n : Int) = (n : Int):=wrap_i64 (by omega) (by omega)
        have hw2 : IntKind.wrap .i64 ((k : Int) + (n : Int)) = ((k + n : Nat) : Int):=by rw [wrap_i64 (by omega) (by omega)]; push_cast; rfl
        obtain ⟨u,hu1,hu2⟩:=BH h (lo:=some (.int .i64 (k : Int))) (hi:=some (.int .i64 ((k + n : Nat) : Int))) (mx:=none) (i:=k) (j:=k + n) (by simp [Bi]) (by simp [Bi]; omega) (by omega) (by omega) (.inl rfl)
        simp only [hb2,EVs,if_neg hs,hw1,hw2,hu1,GA hu2]
        rw [show k + n - k = n by omega]
        rfl
  · have hb0 : (e != 0) = true:=by simpa using he
    simp only [hb0,EVs,ne_eq,he,not_false_eq_true,if_true]
    rfl
def TL (t : ByteArray) : List UInt8:=enc t.size ++ t.data.toList
theorem ZaP {t : ByteArray} : TL t ≠ []:=by unfold TL; simp [KV]
theorem ZaQ {R : Aa} (hR : ∀ xs s,R 45 xs s = gNum xs s) {t : ByteArray} (ht : t.size ≤ 140737488300000) (s : St) : ∃ v s',LE R (.string t) s = some (v,s')∧Own s.heap.length 1 s' v (bv (TL t))∧Ext s.heap.length s s':=by
  have hO:=DP (N:=s.heap.length) (l:=enc t.size) (s:=s) (Nat.le_refl _) KV
  have hE:=AZ (N:=s.heap.length) (l:=enc t.size) (s:=s) (Nat.le_refl _)
  have hlen:=@JX t.size
  have hbl : (DL t).length = t.size:=by simp [DL]
  obtain ⟨v,s',h1,h2,h3⟩:=GB (w:=1) hO (by simp [Af,St.push]) (by omega) (by omega) (y:=.string t) (m:=t.size) rfl (show Fg 1 (.string t) _ = some (DL t) from rfl) (by rw [hbl]; omega) (by rw [A3,hbl]; omega)
  unfold LE
  have hw : IntKind.wrap .u64 ((t.size : Nat) : Int) = ((t.size : Nat) : Int):=Em (by omega) (by omega)
  simp only [Zb8,EVs,Ck]
  rw [hw,hR,LJ (show t.size < 18446744073709551616 by omega)]
  simp only [EVs,h1]
  rw [Tm,← CK] at h2
  refine ⟨v,s',?_,h2,hE.trans h3⟩
  rcases h2 with ⟨rfl,_⟩ | ⟨b,len,rfl,_⟩ <;> rfl
theorem Vf {R : Aa} (hR : ∀ xs s,R 103 xs s = gNum xs s) {t : ByteArray} (ht : t.size ≤ 140737488300000) (s : St) : ∃ v s',LG R (.string t) s = some (v,s')∧Own s.heap.length 1 s' v (bv (TL t))∧Ext s.heap.length s s':=by
  have hO:=DP (N:=s.heap.length) (l:=enc t.size) (s:=s) (Nat.le_refl _) KV
  have hE:=AZ (N:=s.heap.length) (l:=enc t.size) (s:=s) (Nat.le_refl _)
  have hlen:=@JX t.size
  have hbl : (DL t).length = t.size:=by simp [DL]
  obtain ⟨v,s',h1,h2,h3⟩:=GB (w:=1) hO (by simp [Af,St.push]) (by omega) (by omega) (y:=.string t) (m:=t.size) rfl (show Fg 1 (.string t) _ = some (DL t) from rfl) (by rw [hbl]; omega) (by rw [A3,hbl]; omega)
  unfold LG
  have hw : IntKind.wrap .u64 ((t.size : Nat) : Int) = ((t.size : Nat) : Int):=Em (by omega) (by omega)
  simp only [Zb8,EVs,En]
  rw [hw,hR,LJ (show t.size < 18446744073709551616 by omega)]
  simp only [EVs,h1]
  rw [Tm,← CK] at h2
  refine ⟨v,s',?_,h2,hE.trans h3⟩
  rcases h2 with ⟨rfl,_⟩ | ⟨b,len,rfl,_⟩ <;> rfl
end Go.Proofs.YtmbhnbladmpnoaaGreat.Ab

/- Numbers and texts as bytes: what is Bq of the functions of layer 1. -/
namespace Go.Proofs.YtmbhnbladmpnoaaGreat.Ab
open Go
def ED : Sum:=fun xs s=>(match xs with | [v,.int .i64 m]=>if -9223372036854775808 ≤ m∧m < 9223372036854775808 then (bytesOf v s).bind fun l=>if l.length ≤ 150000000000000 then some (tupT (AA l m).1 (AA l m).2.1 (AA l m).2.2) else none else none | _=>none).map fun v=>(v,s)
theorem TM {v : Value} {s : St} {l : List UInt8} {m : Int} (h : bytesOf v s = some l) (hl : l.length ≤ 150000000000000) (h1 : -9223372036854775808 ≤ m) (h2 : m < 9223372036854775808) : ED [v,.int .i64 m] s = some (tupT (AA l m).1 (AA l m).2.1 (AA l m).2.2,s):=by
  simp only [ED,if_pos (And.intro h1 h2),h,Option.bind_some,if_pos hl,Option.map_some]
theorem Mx {lib : Lib} {f : FuncId} (h : ∀ v s l m,bytesOf v s = some l→l.length ≤ 150000000000000→-9223372036854775808 ≤ m→m < 9223372036854775808→run Tryz.prog lib Ad f [v,.int .i64 m] s = some (tupT (AA l m).1 (AA l m).2.1 (AA l m).2.2,s)) : BO Tryz.prog lib Ad f ED :=
  BO.plain (G:=fun xs s=>match xs with | [v,.int .i64 m]=>if -9223372036854775808 ≤ m∧m < 9223372036854775808 then (bytesOf v s).bind fun l=>if l.length ≤ 150000000000000 then some (tupT (AA l m).1 (AA l m).2.1 (AA l m).2.2) else none else none | _=>none) fun xs s v hh=>by
    split at hh
    · rename_i v0 m
      split at hh
      · rename_i hm
        simp only [Option.bind_eq_some_iff] at hh
        obtain ⟨l,h1,h2⟩:=hh
        split at h2
        · rename_i hl
          cases h2
          exact ⟨rfl,_,h v0 (frzS s) l m (by rw [Bp]; exact h1) hl hm.1 hm.2⟩
        · cases h2
      · cases hh
    · cases hh
def TN : Sum:=fun xs s=>(match xs with | [.string t]=>if t.size ≤ 140737488300000 then some (TL t) else none | _=>none).map fun l=>Af l s
theorem ZaR {t : ByteArray} {s : St} (h : t.size ≤ 140737488300000) : TN [.string t] s = some (Af (TL t) s):=by
  simp only [TN,if_pos h,Option.map_some]
theorem Wb {lib : Lib} {f : FuncId} (h : ∀ t s,t.size ≤ 140737488300000→∃ v s',run Tryz.prog lib Ad f [.string t] s = some (v,s')∧Own s.heap.length 1 s' v (bv (TL t))) : BO Tryz.prog lib Ad f TN :=
  BO.bytes (G:=fun xs _=>match xs with | [.string t]=>if t.size ≤ 140737488300000 then some (TL t) else none | _=>none) fun xs s l hh=>by
    split at hh
    · rename_i t
      split at hh
      · rename_i ht
        cases hh
        obtain ⟨v,s',h1,h2⟩:=h t (frzS s) ht
        rw [Cp] at h2
        exact ⟨ZaP,v,s',h1,h2⟩
      · cases hh
    · cases hh
theorem Qx {lib : Lib} (hl : lib 120 = none) (hR : lib 103 = some gNum) : BO Tryz.prog lib Ad 120 Ch :=
  BO.plain (G:=fun xs s=>match xs with | [v]=>(bytesOf v s).map fun l=>tup3 (Au l).1 (Au l).2.1 (Au l).2.2 | _=>none) fun xs s v h=>by
    split at h
    · simp only [Option.map_eq_some_iff] at h
      obtain ⟨l,hl2,rfl⟩:=h
      obtain ⟨s',h1⟩:=Qw (R:=run Tryz.prog lib Ad) (fun xs s=>Bq hR) (s:=frzS s) (by rw [Bp]; exact hl2)
      rw [QY] at h1
      exact ⟨rfl,_,Ni hl h1⟩
    · cases h
theorem Xr {lib : Lib} (hl : lib 149 = none) (hN : lib 45 = some gNum) : BO Tryz.prog lib Ad 149 TN:=Wb fun t s ht=>by
  obtain ⟨v,s',h1,h2,_⟩:=ZaQ (R:=run Tryz.prog lib Ad) (fun xs s=>Bq hN) ht s
  exact ⟨v,s',Sp hl h1,h2⟩
theorem SC {lib : Lib} (hl : lib 161 = none) (hN : lib 103 = some gNum) : BO Tryz.prog lib Ad 161 TN:=Wb fun t s ht=>by
  obtain ⟨v,s',h1,h2,_⟩:=Vf (R:=run Tryz.prog lib Ad) (fun xs s=>Bq hN) ht s
  exact ⟨v,s',Sq hl h1,h2⟩
theorem Qy {lib : Lib} (hl : lib 150 = none) (hN : lib 117 = some Ch) : BO Tryz.prog lib Ad 150 ED:=Mx fun v s l m h hl2 h1 h2=>LF hl (TK (fun xs s=>Bq hN) h hl2 h1 h2)
theorem LL {lib : Lib} (hl : lib 162 = none) (hN : lib 120 = some Ch) : BO Tryz.prog lib Ad 162 ED:=Mx fun v s l m h hl2 h1 h2=>LH hl (Pk (fun xs s=>Bq hN) h hl2 h1 h2)
theorem x3_0 {n k : Nat} {e : Int} : Al 0 (tup3 n k e) = some (.int .u64 n):=rfl
theorem x3_1 {n k : Nat} {e : Int} : Al 1 (tup3 n k e) = some (.int .i64 k):=rfl
theorem x3_2 {n k : Nat} {e : Int} : Al 2 (tup3 n k e) = some (.int .i64 e):=rfl
theorem xT_0 {t : List UInt8} {k : Nat} {e : Int} : Al 0 (tupT t k e) = some (sv t):=rfl
theorem xT_1 {t : List UInt8} {k : Nat} {e : Int} : Al 1 (tupT t k e) = some (.int .i64 k):=rfl
theorem xT_2 {t : List UInt8} {k : Nat} {e : Int} : Al 2 (tupT t k e) = some (.int .i64 e):=rfl
theorem IN {s : St} {v : Value} {l : List UInt8} (h : bytesOf v s = some l) : lenV v = some l.length:=by
  have h2:=AW h (e:=0) (s2:=s)
  unfold bytesOf cellsOf at h
  split at h
  · simp only [Option.bind_some] at h
    cases h
    rfl
  · rw [ZeB] at h2
    simp only [lenV]
    simp only [Option.some.injEq,Value.int.injEq,true_and] at h2
    congr 1
    omega
  · cases h
theorem Hf {s : St} {v : Value} {l : List UInt8} (h : bytesOf v s = some l) : Fg 1 v s = some (bv l):=by
  unfold bytesOf at h
  simp only [Option.bind_eq_some_iff] at h
  obtain ⟨cs,h1,h2⟩:=h
  rw [Nz h1,IB h2]
theorem KW {N : Nat} {s : St} {x v : Value} {l m : List UInt8} (h : Own N 1 s x (bv l)) (hN : N ≤ s.heap.length) (hv : bytesOf v s = some m) (hb : l.length + m.length ≤ 140737488355328) :
    ∃ v' s',AD 1 1 x v s = some (v',s')∧Own N 1 s' v' (bv (l ++ m))∧Ext N s s':=by
  rw [CK]
  exact GB h hN (by omega) (by omega) (IN hv) (Hf hv) (by rw [A3]; omega) (by rw [A3,A3]; omega)
theorem ZaS {s : St} {v : Value} {m : List UInt8} (hv : bytesOf v s = some m) (hb : m.length ≤ 140737488355328) :
    ∃ v' s',AD 1 1 (.slice none 0 0) v s = some (v',s')∧Own s.heap.length 1 s' v' (bv m)∧Ext s.heap.length s s' :=
  KW (l:=[]) (Own.nil _ _ _) (Nat.le_refl _) hv (by simpa using hb)
theorem Ext.old {N : Nat} {s s' : St} (h : Ext N s s') {s0 : St} (h0 : Ext s0.heap.length s0 s) (hN : N = s0.heap.length) {v : Value} {l : List UInt8} (hv : bytesOf v s0 = some l) : bytesOf v s' = some l:=by
  subst hN
  exact (h0.trans h).bytes hv
end Go.Proofs.YtmbhnbladmpnoaaGreat.Ab

/- Messages' forms: what each kind has. -/
namespace Go.Proofs.YtmbhnbladmpnoaaGreat.Ab
open Go
set_option maxRecDepth 10000
theorem Bu {P : Program} {kt : TypeId} {H K : List Blk} {es : List (Value × Value × Nat)} {c : Nat} {k v : Value} (h1 : PN v = false) (h2 : Fh es = false) (h3 : GV P false kt k = true) (h4 : LW P kt k (es.map (·.1)) = some none) :
    An P kt (.map (some H.length)) k v ⟨H ++ (.map es c :: K)⟩ = some ⟨H ++ (.map (es ++ [(k,v,c)]) (c + 1) :: K)⟩:=by
  have hg : (H ++ (Blk.map es c :: K))[H.length]? = some (.map es c):=by rw [List.getElem?_append_right (Nat.le_refl _),Nat.sub_self]; rfl
  unfold An
  rw [if_neg (by rw [h1]; simp)]
  simp only [hg]
  rw [if_neg (by rw [h2]; simp),if_pos h3,h4]
  simp only [Option.bind_some,St.putB]
  congr 2
  rw [List.set_append_right _ _ (Nat.le_refl _),Nat.sub_self]
  rfl
theorem ZaT {P : Program} {kt : TypeId} {H K : List Blk} {es : List (Value × Value × Nat)} {c : Nat} {k z : Value} {ok : Bool} (h2 : Fh es = false) : Fi P kt z (.map (some H.length)) k ok ⟨H ++ (.map es c :: K)⟩ = ET P kt z es k ok:=by
  have hg : (H ++ (Blk.map es c :: K))[H.length]? = some (.map es c):=by rw [List.getElem?_append_right (Nat.le_refl _),Nat.sub_self]; rfl
  unfold Fi
  simp only [hg]
  rw [if_neg (by rw [h2]; simp)]
abbrev fnV (f : Nat) : Value:=.func (.func f) #[] #[]
def AF : List (Int × BL × Nat × Nat × Nat):=[
  (1,[113,98,111],48,49,50),(2,[113,98,99,115],49,48,52),(3,[116,108,101,111],49,54,55),
  (4,[116,99,115],54,49,57),(5,[116,102],49,54,58),(6,[116],54,49,58),(7,[116],54,49,58),
  (8,[118,101,109,119],49,54,59),(9,[118],54,49,58),(10,[118,109,112,102,114],49,54,61),
  (11,[109,97,110,114,111],54,54,63),(12,[109,97,110],54,54,67),(13,[109],54,49,58),(14,[109],54,49,58)]
def CI (k : Int) : Option (BL × Nat × Nat × Nat):=(AF.find? fun p=>p.1 == k).map (·.2)
def fmB (p : BL × Nat × Nat × Nat) : Value:=.agg #[sv p.1,fnV p.2.1,fnV p.2.2.1,fnV p.2.2.2]
def frmV (k : Int) : Value:=match CI k with
  | some p=>fmB p
  | none=>.agg #[sv [],.nilFunc,.nilFunc,.nilFunc]
def Bo : Nat→List (Int × BL × Nat × Nat × Nat)→List (Value × Value × Nat)
  | _,[]=>[]
  | i,p :: l=>(.int .i64 p.1,fmB p.2,i) :: Bo (i + 1) l
theorem TO {P : Program} {k : Int} : ∀ {l : List (Int × BL × Nat × Nat × Nat)} {i j : Nat},match l.find? fun p=>p.1 == k with
    | some p=>∃ q e,FQ (.int .i64) (.int .i64 k) ((Bo i l).map (·.1)) j = some (some (j + q))∧(Bo i l)[q]? = some e∧e.2.1 = fmB p.2
    | none=>FQ (.int .i64) (.int .i64 k) ((Bo i l).map (·.1)) j = some none
  | [],i,j=>rfl
  | p :: l,i,j=>by
    have hs : Instr.sameNow (.int .i64) (.int .i64 k) (.int .i64 p.1) = some (p.1 == k):=by
      have : (p.1 == k) = (k == p.1):=by rw [Bool.eq_iff_iff]; simp only [beq_iff_eq]; exact eq_comm
      rw [this]
      rfl
    have ih:=TO (P:=P) (k:=k) (l:=l) (i:=i + 1) (j:=j + 1)
    cases h : p.1 == k with
    | true =>
      rw [List.find?_cons,h]
      refine ⟨0,_,?_,rfl,rfl⟩
      simp only [Bo,List.map_cons,FQ,hs,h]
      rfl
    | false =>
      rw [List.find?_cons,h]
      have e : FQ (.int .i64) (.int .i64 k) ((Bo i (p :: l)).map (·.1)) j = FQ (.int .i64) (.int .i64 k) ((Bo (i + 1) l).map (·.1)) (j + 1):=by
        simp only [Bo,List.map_cons,FQ,hs,h]
      rw [e]
      cases hf : l.find? fun p=>p.1 == k with
      | none=>rw [hf] at ih; exact ih
      | some q =>
        rw [hf] at ih
        obtain ⟨a,x,h1,h2,h3⟩:=ih
        exact ⟨a + 1,x,by rw [h1]; congr 2; omega,by simpa [Bo] using h2,h3⟩
theorem Y0 (k : Int) : ET Tryz.prog 3 (.agg #[sv [],.nilFunc,.nilFunc,.nilFunc]) (Bo 0 AF) (.int .i64 k) true = some (.tuple #[frmV k,.bool (CI k).isSome]):=by
  unfold ET
  rw [if_pos (show GV Tryz.prog (Bo 0 AF).isEmpty 3 (.int .i64 k) = true by kernel_rfl)]
  have hu : Tryz.prog.underlying 3 = some (.int .i64):=Tryz.underlying3
  have hf:=TO (P:=Tryz.prog) (k:=k) (l:=AF) (i:=0) (j:=0)
  unfold LW frmV CI
  rw [hu]
  simp only [Option.bind_some]
  cases h : AF.find? fun p=>p.1 == k with
  | none =>
    rw [h] at hf
    rw [hf]
    rfl
  | some p =>
    rw [h] at hf
    obtain ⟨q,e,h1,h2,h3⟩:=hf
    rw [h1]
    simp only [Nat.zero_add,Option.bind_some,NP,h2,h3]
    rfl
end Go.Proofs.YtmbhnbladmpnoaaGreat.Ab

/- Messages' forms: the function that gives a kind's. -/
namespace Go.Proofs.YtmbhnbladmpnoaaGreat.Ab
open Go
set_option maxRecDepth 10000
theorem Pl {R : Aa} (k : Int) (s : St) : ∃ t,JJ R (.int .i64 k) s = some (.tuple #[frmV k,.bool (CI k).isSome],t):=by
  obtain ⟨H⟩:=s
  have a0 : AV Tryz.prog 49 [(0,(.string ⟨#[113,98,111]⟩)),(1,(.func (.func 48) #[] #[])),(2,(.func (.func 49) #[] #[])),(3,(.func (.func 50) #[] #[]))] = some (fmB ([113,98,111],48,49,50)):=by kernel_rfl
  have u0 : An Tryz.prog 3 (.map (some H.length)) (.int .i64 1) (fmB ([113,98,111],48,49,50)) ⟨H ++ (.map (Bo 0 (AF.take 0)) 0 :: [])⟩ = some ⟨H ++ (.map (Bo 0 (AF.take 1)) 1 :: [])⟩:=Bu rfl rfl (by kernel_rfl) (by kernel_rfl)
  have a1 : AV Tryz.prog 49 [(0,(.string ⟨#[113,98,99,115]⟩)),(1,(.func (.func 49) #[] #[])),(2,(.func (.func 48) #[] #[])),(3,(.func (.func 52) #[] #[]))] = some (fmB ([113,98,99,115],49,48,52)):=by kernel_rfl
  have u1 : An Tryz.prog 3 (.map (some H.length)) (.int .i64 2) (fmB ([113,98,99,115],49,48,52)) ⟨H ++ (.map (Bo 0 (AF.take 1)) 1 :: [])⟩ = some ⟨H ++ (.map (Bo 0 (AF.take 2)) 2 :: [])⟩:=Bu rfl rfl (by kernel_rfl) (by kernel_rfl)
  have a2 : AV Tryz.prog 49 [(0,(.string ⟨#[116,108,101,111]⟩)),(1,(.func (.func 49) #[] #[])),(2,(.func (.func 54) #[] #[])),(3,(.func (.func 55) #[] #[]))] = some (fmB ([116,108,101,111],49,54,55)):=by kernel_rfl
  have u2 : An Tryz.prog 3 (.map (some H.length)) (.int .i64 3) (fmB ([116,108,101,111],49,54,55)) ⟨H ++ (.map (Bo 0 (AF.take 2)) 2 :: [])⟩ = some ⟨H ++ (.map (Bo 0 (AF.take 3)) 3 :: [])⟩:=Bu rfl rfl (by kernel_rfl) (by kernel_rfl)
  have a3 : AV Tryz.prog 49 [(0,(.string ⟨#[116,99,115]⟩)),(1,(.func (.func 54) #[] #[])),(2,(.func (.func 49) #[] #[])),(3,(.func (.func 57) #[] #[]))] = some (fmB ([116,99,115],54,49,57)):=by kernel_rfl
  have u3 : An Tryz.prog 3 (.map (some H.length)) (.int .i64 4) (fmB ([116,99,115],54,49,57)) ⟨H ++ (.map (Bo 0 (AF.take 3)) 3 :: [])⟩ = some ⟨H ++ (.map (Bo 0 (AF.take 4)) 4 :: [])⟩:=Bu rfl rfl (by kernel_rfl) (by kernel_rfl)
  have a4 : AV Tryz.prog 49 [(0,(.string ⟨#[116,102]⟩)),(1,(.func (.func 49) #[] #[])),(2,(.func (.func 54) #[] #[])),(3,(.func (.func 58) #[] #[]))] = some (fmB ([116,102],49,54,58)):=by kernel_rfl
  have u4 : An Tryz.prog 3 (.map (some H.length)) (.int .i64 5) (fmB ([116,102],49,54,58)) ⟨H ++ (.map (Bo 0 (AF.take 4)) 4 :: [])⟩ = some ⟨H ++ (.map (Bo 0 (AF.take 5)) 5 :: [])⟩:=Bu rfl rfl (by kernel_rfl) (by kernel_rfl)
  have a5 : AV Tryz.prog 49 [(0,(.string ⟨#[116]⟩)),(1,(.func (.func 54) #[] #[])),(2,(.func (.func 49) #[] #[])),(3,(.func (.func 58) #[] #[]))] = some (fmB ([116],54,49,58)):=by kernel_rfl
  have u5 : An Tryz.prog 3 (.map (some H.length)) (.int .i64 6) (fmB ([116],54,49,58)) ⟨H ++ (.map (Bo 0 (AF.take 5)) 5 :: [])⟩ = some ⟨H ++ (.map (Bo 0 (AF.take 6)) 6 :: [])⟩:=Bu rfl rfl (by kernel_rfl) (by kernel_rfl)
  have a6 : AV Tryz.prog 49 [(0,(.string ⟨#[116]⟩)),(1,(.func (.func 54) #[] #[])),(2,(.func (.func 49) #[] #[])),(3,(.func (.func 58) #[] #[]))] = some (fmB ([116],54,49,58)):=by kernel_rfl
  have u6 : An Tryz.prog 3 (.map (some H.length)) (.int .i64 7) (fmB ([116],54,49,58)) ⟨H ++ (.map (Bo 0 (AF.take 6)) 6 :: [])⟩ = some ⟨H ++ (.map (Bo 0 (AF.take 7)) 7 :: [])⟩:=Bu rfl rfl (by kernel_rfl) (by kernel_rfl)
  have a7 : AV Tryz.prog 49 [(0,(.string ⟨#[118,101,109,119]⟩)),(1,(.func (.func 49) #[] #[])),(2,(.func (.func 54) #[] #[])),(3,(.func (.func 59) #[] #[]))] = some (fmB ([118,101,109,119],49,54,59)):=by kernel_rfl
  have u7 : An Tryz.prog 3 (.map (some H.length)) (.int .i64 8) (fmB ([118,101,109,119],49,54,59)) ⟨H ++ (.map (Bo 0 (AF.take 7)) 7 :: [])⟩ = some ⟨H ++ (.map (Bo 0 (AF.take 8)) 8 :: [])⟩:=Bu rfl rfl (by kernel_rfl) (by kernel_rfl)
  have a8 : AV Tryz.prog 49 [(0,(.string ⟨#[118]⟩)),(1,(.func (.func 54) #[] #[])),(2,(.func (.func 49) #[] #[])),(3,(.func (.func 58) #[] #[]))] = some (fmB ([118],54,49,58)):=by kernel_rfl
  have u8 : An Tryz.prog 3 (.map (some H.length)) (.int .i64 9) (fmB ([118],54,49,58)) ⟨H ++ (.map (Bo 0 (AF.take 8)) 8 :: [])⟩ = some ⟨H ++ (.map (Bo 0 (AF.take 9)) 9 :: [])⟩:=Bu rfl rfl (by kernel_rfl) (by kernel_rfl)
  have a9 : AV Tryz.prog 49 [(0,(.string ⟨#[118,109,112,102,114]⟩)),(1,(.func (.func 49) #[] #[])),(2,(.func (.func 54) #[] #[])),(3,(.func (.func 61) #[] #[]))] = some (fmB ([118,109,112,102,114],49,54,61)):=by kernel_rfl
  have u9 : An Tryz.prog 3 (.map (some H.length)) (.int .i64 10) (fmB ([118,109,112,102,114],49,54,61)) ⟨H ++ (.map (Bo 0 (AF.take 9)) 9 :: [])⟩ = some ⟨H ++ (.map (Bo 0 (AF.take 10)) 10 :: [])⟩:=Bu rfl rfl (by kernel_rfl) (by kernel_rfl)
  have a10 : AV Tryz.prog 49 [(0,(.string ⟨#[109,97,110,114,111]⟩)),(1,(.func (.func 54) #[] #[])),(2,(.func (.func 54) #[] #[])),(3,(.func (.func 63) #[] #[]))] = some (fmB ([109,97,110,114,111],54,54,63)):=by kernel_rfl
  have u10 : An Tryz.prog 3 (.map (some H.length)) (.int .i64 11) (fmB ([109,97,110,114,111],54,54,63)) ⟨H ++ (.map (Bo 0 (AF.take 10)) 10 :: [])⟩ = some ⟨H ++ (.map (Bo 0 (AF.take 11)) 11 :: [])⟩:=Bu rfl rfl (by kernel_rfl) (by kernel_rfl)
  have a11 : AV Tryz.prog 49 [(0,(.string ⟨#[109,97,110]⟩)),(1,(.func (.func 54) #[] #[])),(2,(.func (.func 54) #[] #[])),(3,(.func (.func 67) #[] #[]))] = some (fmB ([109,97,110],54,54,67)):=by kernel_rfl
  have u11 : An Tryz.prog 3 (.map (some H.length)) (.int .i64 12) (fmB ([109,97,110],54,54,67)) ⟨H ++ (.map (Bo 0 (AF.take 11)) 11 :: [])⟩ = some ⟨H ++ (.map (Bo 0 (AF.take 12)) 12 :: [])⟩:=Bu rfl rfl (by kernel_rfl) (by kernel_rfl)
  have a12 : AV Tryz.prog 49 [(0,(.string ⟨#[109]⟩)),(1,(.func (.func 54) #[] #[])),(2,(.func (.func 49) #[] #[])),(3,(.func (.func 58) #[] #[]))] = some (fmB ([109],54,49,58)):=by kernel_rfl
  have u12 : An Tryz.prog 3 (.map (some H.length)) (.int .i64 13) (fmB ([109],54,49,58)) ⟨H ++ (.map (Bo 0 (AF.take 12)) 12 :: [])⟩ = some ⟨H ++ (.map (Bo 0 (AF.take 13)) 13 :: [])⟩:=Bu rfl rfl (by kernel_rfl) (by kernel_rfl)
  have a13 : AV Tryz.prog 49 [(0,(.string ⟨#[109]⟩)),(1,(.func (.func 54) #[] #[])),(2,(.func (.func 49) #[] #[])),(3,(.func (.func 58) #[] #[]))] = some (fmB ([109],54,49,58)):=by kernel_rfl
  have u13 : An Tryz.prog 3 (.map (some H.length)) (.int .i64 14) (fmB ([109],54,49,58)) ⟨H ++ (.map (Bo 0 (AF.take 13)) 13 :: [])⟩ = some ⟨H ++ (.map (Bo 0 (AF.take 14)) 14 :: [])⟩:=Bu rfl rfl (by kernel_rfl) (by kernel_rfl)
  have m0 : GW none ⟨H⟩ = some (.map (some H.length),⟨H ++ (.map (Bo 0 (AF.take 0)) 0 :: [])⟩):=rfl
  have l0 : Fi Tryz.prog 3 (.agg #[(.string ⟨#[]⟩),.nilFunc,.nilFunc,.nilFunc]) (.map (some H.length)) (.int .i64 k) true ⟨H ++ (.map (Bo 0 (AF.take 14)) 14 :: [])⟩ = some (.tuple #[frmV k,.bool (CI k).isSome]):=(ZaT rfl).trans (Y0 k)
  have fr : ∀ v : Value,v = frmV k→AO 4 lptr v (.agg #[(.string ⟨#[]⟩),.nilFunc,.nilFunc,.nilFunc]) = some v∧Ap true 4 lptr v = some v∧PN v = false∧Fk v = true:=by
    rintro v rfl
    unfold frmV
    cases CI k <;> exact ⟨rfl,rfl,rfl,rfl⟩
  obtain ⟨f1,f2,f3,f4⟩:=fr _ rfl
  have x0 : Al 0 (.tuple #[frmV k,.bool (CI k).isSome]) = some (frmV k):=by simp [Al,f3]
  have x1 : Al 1 (.tuple #[frmV k,.bool (CI k).isSome]) = some (.bool (CI k).isSome):=rfl
  refine ⟨⟨H ++ (.map (Bo 0 (AF.take 14)) 14 :: [])⟩,?_⟩
  unfold JJ
  rw [m0]
  try simp only [Option.bind_some]
  try rw [a0]
  try simp only [Option.bind_some]
  rw [u0]
  try simp only [Option.bind_some]
  try rw [a1]
  try simp only [Option.bind_some]
  rw [u1]
  try simp only [Option.bind_some]
  try rw [a2]
  try simp only [Option.bind_some]
  rw [u2]
  try simp only [Option.bind_some]
  try rw [a3]
  try simp only [Option.bind_some]
  rw [u3]
  try simp only [Option.bind_some]
  try rw [a4]
  try simp only [Option.bind_some]
  rw [u4]
  try simp only [Option.bind_some]
  try rw [a5]
  try simp only [Option.bind_some]
  rw [u5]
  try simp only [Option.bind_some]
  try rw [a6]
  try simp only [Option.bind_some]
  rw [u6]
  try simp only [Option.bind_some]
  try rw [a7]
  try simp only [Option.bind_some]
  rw [u7]
  try simp only [Option.bind_some]
  try rw [a8]
  try simp only [Option.bind_some]
  rw [u8]
  try simp only [Option.bind_some]
  try rw [a9]
  try simp only [Option.bind_some]
  rw [u9]
  try simp only [Option.bind_some]
  try rw [a10]
  try simp only [Option.bind_some]
  rw [u10]
  try simp only [Option.bind_some]
  try rw [a11]
  try simp only [Option.bind_some]
  rw [u11]
  try simp only [Option.bind_some]
  try rw [a12]
  try simp only [Option.bind_some]
  rw [u12]
  try simp only [Option.bind_some]
  try rw [a13]
  try simp only [Option.bind_some]
  rw [u13]
  try simp only [Option.bind_some]
  rw [l0]
  simp only [Option.bind_some,x0,x1,f1,f2]
  unfold retV
  rw [if_pos (show [frmV k,.bool (CI k).isSome].all Fk = true by simp only [List.all_cons,f4]; rfl)]
  rfl
end Go.Proofs.YtmbhnbladmpnoaaGreat.Ab

/- Numbers in four bytes,and sums: what the program's functions do. -/
namespace Go.Proofs.YtmbhnbladmpnoaaGreat.Ab
open Go
def fixB (n : Nat) : List UInt8:=[UInt8.ofNat (n % 256),UInt8.ofNat (n / 256 % 256),UInt8.ofNat (n / 65536 % 256),UInt8.ofNat (n / 16777216 % 256)]
def fixV (n : Nat) : Value:=.agg #[.int .u8 ((n % 256 : Nat) : Int),.int .u8 ((n / 256 % 256 : Nat) : Int),.int .u8 ((n / 65536 % 256 : Nat) : Int),.int .u8 ((n / 16777216 % 256 : Nat) : Int)]
theorem Y1 (n : Nat) : fixV n = .agg (bv (fixB n)).toArray:=by
  have h : ∀ m : Nat,m % 256 % 256 = m % 256:=fun m=>by omega
  simp [fixV,bv,fixB,h]
def SD (n : Nat) : Nat→Nat→List Value→List Value
  | 0,_,cs=>cs
  | d + 1,i,cs=>SD n d (i + 1) (cs.set i (.int .u8 ((n / 2 ^ (8 * i) % 256 : Nat) : Int)))
theorem QZ {R : Aa} {n : Nat} (hn : n < 4294967296) {s : St} {c0 : Value} : ∀ (d i : Nat) (cs : List Value),i + d = 4→cs.length = 4 →
    AS (C5.b0 R) [.int .u32 (n : Int),lptr,lptr,.int .i64 (i : Int),c0,.agg cs.toArray] s = some (.exit 0,[lptr,lptr,c0,.agg (SD n d i cs).toArray],s)
  | 0,i,cs,hi,hc=>by
    rw [Ar]
    have hb : decide ((i : Int) < 4) = false:=by simp; omega
    simp only [C5.b0,EVs,hb]
    rfl
  | d + 1,i,cs,hi,hc=>by
    rw [Ar]
    have hb : decide ((i : Int) < 4) = true:=by simp; omega
    have w : IntKind.wrap .i64 (8 * (i : Int)) = ((8 * i : Nat) : Int):=by rw [wrap_i64 (by omega) (by omega)]; push_cast; rfl
    have w2 : IntKind.wrap .i64 ((i : Int) + 1) = ((i + 1 : Nat) : Int):=by rw [wrap_i64 (by omega) (by omega)]; push_cast; rfl
    have hs : ∀ t ox oy,abin Tryz.prog .shr t ox oy (.int .u32 (n : Int)) (.int .i64 ((8 * i : Nat) : Int)) = some (.int .u32 ((n / 2 ^ (8 * i) : Nat) : Int)):=fun t ox oy=>W9 (show n < 2 ^ 32 from hn)
    simp only [C5.b0,EVs,hb,w,hs,Kq,Yv (show i < 4 by omega),w2]
    rw [Zb9 (by omega) rfl rfl]
    simp only [EVs]
    exact QZ hn d (i + 1) _ (by omega) (by simpa using hc)
theorem Y2 {R : Aa} {n : Nat} (hn : n < 4294967296) (s : St) : C5 R (.int .u32 (n : Int)) s = some (fixV n,s):=by
  have hfill : SD n 4 0 [.int .u8 0,.int .u8 0,.int .u8 0,.int .u8 0] = [.int .u8 ((n % 256 : Nat) : Int),.int .u8 ((n / 256 % 256 : Nat) : Int),.int .u8 ((n / 65536 % 256 : Nat) : Int),.int .u8 ((n / 16777216 % 256 : Nat) : Int)]:=by
    simp [SD]
  have hlp:=QZ (R:=R) hn (s:=s) (c0:=.agg [.int .u8 0,.int .u8 0,.int .u8 0,.int .u8 0].toArray) 4 0 [.int .u8 0,.int .u8 0,.int .u8 0,.int .u8 0] rfl rfl
  rw [hfill] at hlp
  rw [show (((0 : Nat)) : Int) = 0 from rfl] at hlp
  have hbox:=Yw (cs:=[.int .u8 0,.int .u8 0,.int .u8 0,.int .u8 0]) rfl
  have e1:=G6 (n:=4) (cs:=[.int .u8 ((n % 256 : Nat) : Int),.int .u8 ((n / 256 % 256 : Nat) : Int),.int .u8 ((n / 65536 % 256 : Nat) : Int),.int .u8 ((n / 16777216 % 256 : Nat) : Int)]) rfl
  have e2:=Lq (n:=4) (cs:=[.int .u8 0,.int .u8 0,.int .u8 0,.int .u8 0]) (ds:=[.int .u8 ((n % 256 : Nat) : Int),.int .u8 ((n / 256 % 256 : Nat) : Int),.int .u8 ((n / 65536 % 256 : Nat) : Int),.int .u8 ((n / 16777216 % 256 : Nat) : Int)]) rfl rfl rfl
  unfold C5
  simp only [hbox,EVs,hlp,e1,e2]
  rfl
def leN : Nat→List UInt8→Nat
  | _,[]=>0
  | i,c :: l=>c.toNat * 2 ^ (8 * i) + leN (i + 1) l
theorem Qz {R : Aa} {s : St} {v : Value} {l : List UInt8} (h : bytesOf v s = some l) (hl : l.length = 4) : ∀ (rest : List UInt8) (i n : Nat),l.drop i = rest→n < 2 ^ (8 * i) →
    AS (BR.b0 R) [.int .u32 (n : Int),v,.int .i64 ((l.length : Nat) : Int),.int .i64 (i : Int)] s = some (.exit 0,[.int .u32 ((n + leN i rest : Nat) : Int)],s):=by
  intro rest
  induction rest with
  | nil =>
    intro i n hr hn
    have hle : l.length ≤ i:=List.drop_eq_nil_iff.1 hr
    rw [Ar]
    have hc : decide ((i : Int) < ((l.length : Nat) : Int)) = false:=by simp; omega
    simp only [BR.b0,EVs,hc]
    rfl
  | cons c rest IH =>
    intro i n hr hn
    have hlt : i < l.length:=by
      rcases Nat.lt_or_ge i l.length with hh | hh
      · exact hh
      · rw [List.drop_eq_nil_of_le hh] at hr; cases hr
    have hci : l[i] = c:=by
      have:=List.drop_eq_getElem_cons hlt
      rw [hr] at this
      exact (List.cons.inj this).1.symm
    have hrest : l.drop (i + 1) = rest:=by
      have:=List.drop_eq_getElem_cons hlt
      rw [hr] at this
      exact (List.cons.inj this).2.symm
    obtain ⟨p,hp1,hp2⟩:=CU h hlt (k:=.i64)
    rw [hci] at hp2
    have hcl:=c.toNat_lt
    have e : 2 ^ (8 * (i + 1)) = 256 * 2 ^ (8 * i):=by rw [show 8 * (i + 1) = 8 + 8 * i by omega,Nat.pow_add]
    have h4 : (c.toNat + 1) * 2 ^ (8 * i) ≤ 256 * 2 ^ (8 * i):=Nat.mul_le_mul_right _ (by omega)
    rw [Nat.add_mul] at h4
    have h32 : 2 ^ (8 * (i + 1)) ≤ 2 ^ 32:=Nat.pow_le_pow_right (by omega) (by omega)
    have hc : decide ((i : Int) < ((l.length : Nat) : Int)) = true:=by simp; omega
    have w : IntKind.wrap .i64 (8 * (i : Int)) = ((8 * i : Nat) : Int):=by rw [wrap_i64 (by omega) (by omega)]; push_cast; rfl
    have w2 : IntKind.wrap .i64 ((i : Int) + 1) = ((i + 1 : Nat) : Int):=by rw [wrap_i64 (by omega) (by omega)]; push_cast; rfl
    have hcv : IntKind.wrap .u32 ((c.toNat : Nat) : Int) = ((c.toNat : Nat) : Int):=by rw [RE,Nat.mod_eq_of_lt (by omega)]
    have hsh : ∀ t ox oy,abin Tryz.prog .shl t ox oy (.int .u32 ((c.toNat : Nat) : Int)) (.int .i64 ((8 * i : Nat) : Int)) = some (.int .u32 ((c.toNat * 2 ^ (8 * i) : Nat) : Int)):=fun t ox oy=>by
      rw [ZcU rfl,show c.toNat * 2 ^ (8 * i) % 2 ^ IntKind.bits .u32 = c.toNat * 2 ^ (8 * i) from Nat.mod_eq_of_lt (by show _ < 2 ^ 32; omega)]
    have hor : ∀ t ox oy,abin Tryz.prog .or t ox oy (.int .u32 (n : Int)) (.int .u32 ((c.toNat * 2 ^ (8 * i) : Nat) : Int)) = some (.int .u32 ((n + c.toNat * 2 ^ (8 * i) : Nat) : Int)):=fun t ox oy=>by
      rw [u_or rfl (show n < 2 ^ 32 by omega) (show c.toNat * 2 ^ (8 * i) < 2 ^ 32 by omega),Ph hn]
    rw [Ar]
    simp only [BR.b0,EVs,hc,hp1,hp2,w,w2]
    rw [hcv]
    simp only [EVs,hsh,hor]
    rw [IH (i + 1) _ hrest (by omega),leN,Nat.add_assoc]
def tupF (n : Nat) (e : Int) : Value:=.tuple #[.int .u32 (n : Int),.int .i64 e]
def Gm (l : List UInt8) : Nat × Int:=if l.length < 4 then (0,10) else (leN 0 (l.take 4),0)
theorem SE {R : Aa} {s : St} {v : Value} {l : List UInt8} (h : bytesOf v s = some l) : BR R v s = some (tupF (Gm l).1 (Gm l).2,s):=by
  unfold BR Gm
  simp only [AW h,EVs]
  by_cases h4 : l.length < 4
  · have hb : decide (((l.length : Nat) : Int) < 4) = true:=by simp; omega
    simp only [hb,EVs,if_pos h4]
    rfl
  · have hb : decide (((l.length : Nat) : Int) < 4) = false:=by simp; omega
    obtain ⟨u,hu1,hu2⟩:=BH h (lo:=none) (hi:=some (.int .i64 4)) (mx:=none) (i:=0) (j:=4) (by simp [Bi]) (by simp [Bi]) (by omega) (by omega) (.inl rfl)
    have hlp:=Qz (R:=R) hu2 (by simp; omega) _ 0 0 rfl (by simp)
    simp only [hb,EVs,if_neg h4,hu1,AW hu2]
    rw [show (0 : Int) = ((0 : Nat) : Int) from rfl,hlp]
    simp only [EVs,List.drop_zero,Nat.sub_zero,Nat.zero_add]
    rfl
theorem ZaU (a b c d : Int) : AV Tryz.prog 94 [(0,.int .u8 a),(1,.int .u8 b),(2,.int .u8 c),(3,.int .u8 d)] = some (.agg #[.int .u8 a,.int .u8 b,.int .u8 c,.int .u8 d]):=by kernel_rfl
theorem TP {R : Aa} {n : Nat} (hn : n < 4294967296) (s : St) : JU R (.int .u32 (n : Int)) s = some (fixV n,s):=by
  have hs : ∀ (k : Nat) t ox oy,abin Tryz.prog .shr t ox oy (.int .u32 (n : Int)) (.int .u64 ((k : Nat) : Int)) = some (.int .u32 ((n / 2 ^ k : Nat) : Int)):=fun k t ox oy=>W9 (show n < 2 ^ 32 from hn)
  have hs1 : ∀ t ox oy,abin Tryz.prog .shr t ox oy (.int .u32 (n : Int)) (.int .u64 8) = some (.int .u32 ((n / 256 : Nat) : Int)):=fun t ox oy=>hs 8 t ox oy
  have hs2 : ∀ t ox oy,abin Tryz.prog .shr t ox oy (.int .u32 (n : Int)) (.int .u64 16) = some (.int .u32 ((n / 65536 : Nat) : Int)):=fun t ox oy=>hs 16 t ox oy
  have hs3 : ∀ t ox oy,abin Tryz.prog .shr t ox oy (.int .u32 (n : Int)) (.int .u64 24) = some (.int .u32 ((n / 16777216 : Nat) : Int)):=fun t ox oy=>hs 24 t ox oy
  have hbox:=Yw (cs:=[.int .u8 0,.int .u8 0,.int .u8 0,.int .u8 0]) rfl
  have e1:=G6 (n:=4) (cs:=[.int .u8 ((n % 256 : Nat) : Int),.int .u8 ((n / 256 % 256 : Nat) : Int),.int .u8 ((n / 65536 % 256 : Nat) : Int),.int .u8 ((n / 16777216 % 256 : Nat) : Int)]) rfl
  have e2:=Lq (n:=4) (cs:=[.int .u8 0,.int .u8 0,.int .u8 0,.int .u8 0]) (ds:=[.int .u8 ((n % 256 : Nat) : Int),.int .u8 ((n / 256 % 256 : Nat) : Int),.int .u8 ((n / 65536 % 256 : Nat) : Int),.int .u8 ((n / 16777216 % 256 : Nat) : Int)]) rfl rfl rfl
  unfold JU
  simp only [hbox,EVs,hs1,hs2,hs3,Kq,ZaU,e1,e2]
  rfl
theorem Nr {R : Aa} {s : St} {v : Value} {l : List UInt8} (h : bytesOf v s = some l) : FA R v s = some (tupF (Gm l).1 (Gm l).2,s):=by
  unfold FA Gm
  simp only [AW h,EVs]
  by_cases h4 : l.length < 4
  · have hb : decide (((l.length : Nat) : Int) < 4) = true:=by simp; omega
    simp only [hb,EVs,if_pos h4]
    rfl
  · have hb : decide (((l.length : Nat) : Int) < 4) = false:=by simp; omega
    have hf : bytesOf v (frzS s) = some l:=by rw [Bp]; exact h
    obtain ⟨p0,hp0,hq0⟩:=CU hf (i:=0) (by omega) (k:=.i64)
    obtain ⟨p1,hp1,hq1⟩:=CU hf (i:=1) (by omega) (k:=.i64)
    obtain ⟨p2,hp2,hq2⟩:=CU hf (i:=2) (by omega) (k:=.i64)
    obtain ⟨p3,hp3,hq3⟩:=CU hf (i:=3) (by omega) (k:=.i64)
    have hp0 : Az 1 v (.int .i64 0) = some p0:=hp0
    have hp1 : Az 1 v (.int .i64 1) = some p1:=hp1
    have hp2 : Az 1 v (.int .i64 2) = some p2:=hp2
    have hp3 : Az 1 v (.int .i64 3) = some p3:=hp3
    have ht : l.take 4 = [l[0],l[1],l[2],l[3]]:=by
      clear hp0 hq0 hp1 hq1 hp2 hq2 hp3 hq3 hf h hb
      rcases l with _ | ⟨a,_ | ⟨b,_ | ⟨c,_ | ⟨d,r⟩⟩⟩⟩ <;> first | rfl | (simp at h4)
    rw [ht]
    generalize l[0] = c0 at *
    generalize l[1] = c1 at *
    generalize l[2] = c2 at *
    generalize l[3] = c3 at *
    have l0:=c0.toNat_lt
    have l1:=c1.toNat_lt
    have l2:=c2.toNat_lt
    have l3:=c3.toNat_lt
    have hcv : ∀ c : UInt8,IntKind.wrap .u32 ((c.toNat : Nat) : Int) = ((c.toNat : Nat) : Int):=fun c=>by
      have:=c.toNat_lt
      rw [RE,Nat.mod_eq_of_lt (by omega)]
    have hsh : ∀ (c : UInt8) (i : Nat) t ox oy,i ≤ 24→abin Tryz.prog .shl t ox oy (.int .u32 ((c.toNat : Nat) : Int)) (.int .u64 ((i : Nat) : Int)) = some (.int .u32 ((c.toNat * 2 ^ i : Nat) : Int)):=fun c i t ox oy hi=>by
      have:=c.toNat_lt
      rw [ZcU rfl,show c.toNat * 2 ^ i % 2 ^ IntKind.bits .u32 = c.toNat * 2 ^ i from Nat.mod_eq_of_lt ?_]
      show _ < 2 ^ 32
      have h5 : 2 ^ i ≤ 2 ^ 24:=Nat.pow_le_pow_right (by omega) hi
      calc c.toNat * 2 ^ i ≤ 255 * 2 ^ 24:=Nat.mul_le_mul (by omega) h5
        _ < 2 ^ 32:=by decide
    have s1 : ∀ t ox oy,abin Tryz.prog .shl t ox oy (.int .u32 ((c1.toNat : Nat) : Int)) (.int .u64 8) = some (.int .u32 ((c1.toNat * 256 : Nat) : Int)):=fun t ox oy=>hsh c1 8 t ox oy (by omega)
    have s2 : ∀ t ox oy,abin Tryz.prog .shl t ox oy (.int .u32 ((c2.toNat : Nat) : Int)) (.int .u64 16) = some (.int .u32 ((c2.toNat * 65536 : Nat) : Int)):=fun t ox oy=>hsh c2 16 t ox oy (by omega)
    have s3 : ∀ t ox oy,abin Tryz.prog .shl t ox oy (.int .u32 ((c3.toNat : Nat) : Int)) (.int .u64 24) = some (.int .u32 ((c3.toNat * 16777216 : Nat) : Int)):=fun t ox oy=>hsh c3 24 t ox oy (by omega)
    have o1 : ∀ t ox oy,abin Tryz.prog .or t ox oy (.int .u32 ((c0.toNat : Nat) : Int)) (.int .u32 ((c1.toNat * 256 : Nat) : Int)) = some (.int .u32 ((c0.toNat + c1.toNat * 256 : Nat) : Int)):=fun t ox oy=>by
      rw [u_or rfl (show c0.toNat < 2 ^ 32 by omega) (show c1.toNat * 256 < 2 ^ 32 by omega),show c1.toNat * 256 = c1.toNat * 2 ^ 8 from rfl,Ph l0]
    have o2 : ∀ t ox oy,abin Tryz.prog .or t ox oy (.int .u32 ((c0.toNat + c1.toNat * 256 : Nat) : Int)) (.int .u32 ((c2.toNat * 65536 : Nat) : Int)) = some (.int .u32 ((c0.toNat + c1.toNat * 256 + c2.toNat * 65536 : Nat) : Int)):=fun t ox oy=>by
      rw [u_or rfl (show c0.toNat + c1.toNat * 256 < 2 ^ 32 by omega) (show c2.toNat * 65536 < 2 ^ 32 by omega),show c2.toNat * 65536 = c2.toNat * 2 ^ 16 from rfl,Ph (show c0.toNat + c1.toNat * 256 < 2 ^ 16 by omega)]
    have o3 : ∀ t ox oy,abin Tryz.prog .or t ox oy (.int .u32 ((c0.toNat + c1.toNat * 256 + c2.toNat * 65536 : Nat) : Int)) (.int .u32 ((c3.toNat * 16777216 : Nat) : Int)) = some (.int .u32 ((c0.toNat + c1.toNat * 256 + c2.toNat * 65536 + c3.toNat * 16777216 : Nat) : Int)):=fun t ox oy=>by
      rw [u_or rfl (show c0.toNat + c1.toNat * 256 + c2.toNat * 65536 < 2 ^ 32 by omega) (show c3.toNat * 16777216 < 2 ^ 32 by omega),show c3.toNat * 16777216 = c3.toNat * 2 ^ 24 from rfl,Ph (show c0.toNat + c1.toNat * 256 + c2.toNat * 65536 < 2 ^ 24 by omega)]
    have hle : leN 0 [c0,c1,c2,c3] = c0.toNat + c1.toNat * 256 + c2.toNat * 65536 + c3.toNat * 16777216:=by
      simp [leN]; omega
    simp only [hb,EVs,if_neg h4,hp0,hq0,hp1,hq1,hp2,hq2,hp3,hq3,hcv,s1,s2,s3,o1,o2,o3,hle]
    rfl
end Go.Proofs.YtmbhnbladmpnoaaGreat.Ab

/- Sums: what the program's functions do. -/
namespace Go.Proofs.YtmbhnbladmpnoaaGreat.Ab
open Go
def stp (r : Nat) : Nat:=r / 2 ^^^ (if r % 2 = 1 then 3988292384 else 0)
def stpN : Nat→Nat→Nat
  | 0,r=>r
  | k + 1,r=>stpN k (stp r)
theorem Wc {r : Nat} (h : r < 4294967296) : stp r < 4294967296:=by
  unfold stp
  refine Nat.xor_lt_two_pow (n:=32) (by omega) ?_
  split <;> decide
theorem SF : ∀ {k r : Nat},r < 4294967296→stpN k r < 4294967296
  | 0,_,h=>h
  | k + 1,_,h=>SF (k:=k) (Wc h)
theorem Pm {R : Aa} {s : St} {a b c d f g : Value} : ∀ (k j r : Nat),j + k = 8→r < 4294967296 →
    AS (BI.b1 R) [a,b,c,.int .u32 (r : Int),d,.int .i64 (j : Int),f,g] s = some (.exit 2,[a,b,c,.int .u32 ((stpN k r : Nat) : Int),d,f,g],s)
  | 0,j,r,hj,hr=>by
    rw [Ar]
    have hb : decide ((j : Int) < 8) = false:=by simp; omega
    simp only [BI.b1,EVs,hb]
    rfl
  | k + 1,j,r,hj,hr=>by
    rw [Ar]
    have hb : decide ((j : Int) < 8) = true:=by simp; omega
    have w2 : IntKind.wrap .i64 ((j : Int) + 1) = ((j + 1 : Nat) : Int):=by rw [wrap_i64 (by omega) (by omega)]; push_cast; rfl
    have h1 : ∀ t ox oy,abin Tryz.prog .shr t ox oy (.int .u32 (r : Int)) (.int .u64 1) = some (.int .u32 ((r / 2 : Nat) : Int)):=fun t ox oy=>by
      have:=W9 (P:=Tryz.prog) (t:=t) (ox:=ox) (oy:=oy) (k:=.u32) (a:=r) (b:=1) (show r < 2 ^ 32 from hr) (k2:=.u64)
      rw [Nat.pow_one] at this
      exact this
    have h2 : ∀ t ox oy,abin Tryz.prog .and t ox oy (.int .u32 (r : Int)) (.int .u32 1) = some (.int .u32 ((r % 2 : Nat) : Int)):=fun t ox oy=>by
      have:=Zey (P:=Tryz.prog) (t:=t) (ox:=ox) (oy:=oy) (k:=.u32) (a:=r) (b:=1) rfl (show r < 2 ^ 32 from hr) (by decide)
      rw [Nat.and_one_is_mod] at this
      exact this
    have h3 : ∀ t ox oy,(aun .neg (.int .u32 ((r % 2 : Nat) : Int))).bind (fun v9=>abin Tryz.prog .and t ox oy (.int .u32 3988292384) v9) = some (.int .u32 ((if r % 2 = 1 then 3988292384 else 0 : Nat) : Int)):=fun t ox oy=>by
      rcases Nat.mod_two_eq_zero_or_one r with e | e
      · rw [e]; rfl
      · rw [e]; rfl
    have h4 : ∀ t ox oy,abin Tryz.prog .xor t ox oy (.int .u32 ((r / 2 : Nat) : Int)) (.int .u32 ((if r % 2 = 1 then 3988292384 else 0 : Nat) : Int)) = some (.int .u32 ((stp r : Nat) : Int)):=fun t ox oy=>by
      rw [UR rfl (show r / 2 < 2 ^ 32 by omega) (show (if r % 2 = 1 then 3988292384 else 0 : Nat) < 2 ^ 32 by split <;> decide)]
      rfl
    have h5 : ∀ (v : Value) t ox oy (F : Value→Option (Ex × List Value × St)),(aun .neg (.int .u32 ((r % 2 : Nat) : Int))).bind (fun v9=>(abin Tryz.prog .and t ox oy (.int .u32 3988292384) v9).bind F) = F (.int .u32 ((if r % 2 = 1 then 3988292384 else 0 : Nat) : Int)):=fun v t ox oy F=>by
      have:=h3 t ox oy
      rw [← Option.bind_assoc,this]
      rfl
    have e_neg':=@ZcT
    clear e_neg'
    simp only [BI.b1,Option.bind_some,BP,CJ,Dq,DO,Kp,Mf,Yl,Ym,PS,W7,C2,hb,h1,h2]
    rw [h5 undef]
    simp only [EVs,h4,w2]
    exact Pm k (j + 1) (stp r) (by omega) (Wc hr)
def tabL (n : Nat) : List Value:=(List.range n).map fun i=>.int .u32 ((stpN 8 i : Nat) : Int)
def tabC (n : Nat) : List Value:=tabL n ++ List.replicate (256 - n) (.int .u32 0)
theorem NA (n : Nat) : (tabL n).length = n:=by simp [tabL]
theorem Hg {n : Nat} (h : n ≤ 256) : (tabC n).length = 256:=by simp [tabC,NA]; omega
theorem ZaV {n : Nat} (h : n < 256) : (tabC n).set n (.int .u32 ((stpN 8 n : Nat) : Int)) = tabC (n + 1):=by
  unfold tabC
  rw [List.set_append_right _ _ (by rw [NA]; exact Nat.le_refl _),NA,Nat.sub_self]
  obtain ⟨k,hk⟩ : ∃ k,256 - n = k + 1:=⟨255 - n,by omega⟩
  rw [hk,show 256 - (n + 1) = k by omega,List.replicate_succ,List.set_cons_zero]
  have : tabL (n + 1) = tabL n ++ [.int .u32 ((stpN 8 n : Nat) : Int)]:=by simp [tabL,List.range_succ]
  rw [this,List.append_assoc]
  rfl
theorem TQ {n : Nat} : (tabC n).all AI = true:=by
  simp [tabC,tabL,AI]
theorem Pn {R : Aa} {s : St} {c0 : Value} : ∀ (k i : Nat),i + k = 256 →
    AS (BI.b0 R) [lptr,lptr,.int .i64 (i : Int),c0,.agg (tabC i).toArray] s = some (.exit 0,[lptr,lptr,c0,.agg (tabC 256).toArray],s)
  | 0,i,hi=>by
    rw [Ar]
    have hb : decide ((i : Int) < 256) = false:=by simp; omega
    obtain rfl : i = 256:=by omega
    simp only [BI.b0,EVs,hb]
  | k + 1,i,hi=>by
    rw [Ar]
    have hb : decide ((i : Int) < 256) = true:=by simp; omega
    have w2 : IntKind.wrap .i64 ((i : Int) + 1) = ((i + 1 : Nat) : Int):=by rw [wrap_i64 (by omega) (by omega)]; push_cast; rfl
    have hcv : IntKind.wrap .u32 (i : Int) = (i : Int):=by rw [RE,Nat.mod_eq_of_lt (by omega)]
    have hin:=Pm (R:=R) (s:=s) (a:=lptr) (b:=lptr) (c:=.int .i64 (i : Int)) (d:=.int .i64 (i : Int)) (f:=c0) (g:=.agg (tabC i).toArray) 8 0 i (by omega) (by omega)
    rw [show (((0 : Nat)) : Int) = 0 from rfl] at hin
    simp only [BI.b0,EVs,hb]
    rw [hcv,hin]
    simp only [EVs,Yv (show i < 256 by omega)]
    rw [Zb9 (by rw [Hg (by omega)]; omega) rfl rfl]
    simp only [EVs]
    rw [w2,ZaV (by omega)]
    exact Pn k (i + 1) (by omega)
def tabV : Value:=.agg (tabC 256).toArray
theorem tab0 : List.replicate 256 (Value.int .u32 0) = tabC 0:=rfl
theorem Y3 {R : Aa} (s : St) : BI R s = some (tabV,s):=by
  have ho:=Pn (R:=R) (s:=s) (c0:=.agg (tabC 0).toArray) 256 0 (by omega)
  rw [show (((0 : Nat)) : Int) = 0 from rfl] at ho
  unfold BI
  rw [tab0]
  simp only [EVs,ho]
  rw [G6 (Hg (Nat.le_refl _))]
  simp only [EVs]
  rw [Lq (Hg (by omega)) (Hg (Nat.le_refl _)) TQ]
  simp only [EVs]
  rw [G6 (Hg (Nat.le_refl _))]
  rfl
def sumT (r : Nat) : List UInt8→Nat
  | []=>r
  | c :: l=>sumT (r / 256 ^^^ stpN 8 (r % 256 ^^^ c.toNat)) l
def sumR (r : Nat) : List UInt8→Nat
  | []=>r
  | c :: l=>sumR (stpN 8 (r ^^^ c.toNat)) l
theorem ZaW {R : Aa} {s : St} {v : Value} {l : List UInt8} (h : bytesOf v s = some l) : ∀ (rest : List UInt8) (i r : Nat),l.drop i = rest→l.length ≤ 140737488355328→r < 4294967296 →
    AS (D1.b0 R) [lptr,.int .u32 (r : Int),v,.int .i64 ((l.length : Nat) : Int),.int .i64 (i : Int),tabV] s = some (.exit 0,[.int .u32 ((sumT r rest : Nat) : Int)],s)∧sumT r rest < 4294967296:=by
  intro rest
  induction rest with
  | nil =>
    intro i r hr hlen hlt
    have hle : l.length ≤ i:=List.drop_eq_nil_iff.1 hr
    rw [Ar]
    have hc : decide ((i : Int) < ((l.length : Nat) : Int)) = false:=by simp; omega
    simp only [D1.b0,EVs,hc]
    exact ⟨rfl,hlt⟩
  | cons c rest IH =>
    intro i r hr hlen hlt
    have hil : i < l.length:=by
      rcases Nat.lt_or_ge i l.length with hh | hh
      · exact hh
      · rw [List.drop_eq_nil_of_le hh] at hr; cases hr
    have hci : l[i] = c:=by
      have:=List.drop_eq_getElem_cons hil
      rw [hr] at this
      exact (List.cons.inj this).1.symm
    have hrest : l.drop (i + 1) = rest:=by
      have:=List.drop_eq_getElem_cons hil
      rw [hr] at this
      exact (List.cons.inj this).2.symm
    obtain ⟨p,hp1,hp2⟩:=CU h hil (k:=.i64)
    rw [hci] at hp2
    have hcl : c.toNat < 256:=c.toNat_lt
    have hc : decide ((i : Int) < ((l.length : Nat) : Int)) = true:=by simp; omega
    have w2 : IntKind.wrap .i64 ((i : Int) + 1) = ((i + 1 : Nat) : Int):=by rw [wrap_i64 (by omega) (by omega)]; push_cast; rfl
    have hx : r % 256 ^^^ c.toNat < 256:=Nat.xor_lt_two_pow (n:=8) (Nat.mod_lt _ (by decide)) hcl
    have h1 : ∀ t ox oy,abin Tryz.prog .shr t ox oy (.int .u32 (r : Int)) (.int .u64 8) = some (.int .u32 ((r / 256 : Nat) : Int)):=fun t ox oy=>W9 (P:=Tryz.prog) (k:=.u32) (a:=r) (b:=8) (show r < 2 ^ 32 from hlt) (k2:=.u64)
    have h2 : ∀ t ox oy,abin Tryz.prog .xor t ox oy (.int .u8 ((r % 256 : Nat) : Int)) (.int .u8 ((c.toNat : Nat) : Int)) = some (.int .u8 ((r % 256 ^^^ c.toNat : Nat) : Int)):=fun t ox oy=>UR rfl (show r % 256 < 2 ^ 8 from Nat.mod_lt _ (by decide)) hcl
    have hst:=SF (k:=8) (r:=r % 256 ^^^ c.toNat) (by omega)
    have hld : Ap false 1 (.pointer (some ⟨0,r % 256 ^^^ c.toNat,none⟩)) tabV = some (.int .u32 ((stpN 8 (r % 256 ^^^ c.toNat) : Nat) : Int)):=by
      refine ZeC ?_
      unfold tabC
      rw [List.getElem?_append_left (by rw [NA]; exact hx)]
      simp [tabL,hx]
    have h3 : ∀ t ox oy,abin Tryz.prog .xor t ox oy (.int .u32 ((r / 256 : Nat) : Int)) (.int .u32 ((stpN 8 (r % 256 ^^^ c.toNat) : Nat) : Int)) = some (.int .u32 ((r / 256 ^^^ stpN 8 (r % 256 ^^^ c.toNat) : Nat) : Int)):=fun t ox oy=>UR rfl (show r / 256 < 2 ^ 32 by omega) hst
    rw [Ar]
    simp only [D1.b0,EVs,hc,hp1,hp2,h1,Kq,h2,Yv hx,hld,h3,w2]
    exact IH (i + 1) _ hrest hlen (Nat.xor_lt_two_pow (n:=32) (by omega) hst)
theorem Zgf {r : Nat} (h : r < 4294967296) : aun .xor (.int .u32 (r : Int)) = some (.int .u32 ((r ^^^ 4294967295 : Nat) : Int)):=by
  have:=UR (P:=Tryz.prog) (t:=0) (ox:=.tmp 0) (oy:=.tmp 0) (k:=.u32) (a:=4294967295) (b:=r) rfl (by decide) (show r < 2 ^ 32 from h)
  rw [Nat.xor_comm]
  exact this
def sumV (l : List UInt8) : Nat:=sumT 4294967295 l ^^^ 4294967295
def Zdb (l : List UInt8) : Nat:=sumR 4294967295 l ^^^ 4294967295
theorem Zdc {R : Aa} {s : St} (hR : ∀ s,R 130 [] s = some (tabV,s)) {v : Value} {l : List UInt8} (h : bytesOf v s = some l) (hl : l.length ≤ 140737488355328) : D1 R v s = some (.int .u32 ((sumV l : Nat) : Int),s):=by
  obtain ⟨h1,h2⟩:=ZaW (R:=R) h l 0 4294967295 rfl hl (by decide)
  rw [show (((0 : Nat)) : Int) = 0 from rfl] at h1
  unfold D1
  simp only [Nl,hR,EVs]
  rw [tab0]
  rw [show tabV = .agg (tabC 256).toArray from rfl,Lq (Hg (by omega)) (Hg (Nat.le_refl _)) TQ]
  simp only [EVs,AW h]
  have h1' : AS (D1.b0 R) [lptr,.int .u32 4294967295,v,.int .i64 ((l.length : Nat) : Int),.int .i64 0,.agg (tabC 256).toArray] s = some (.exit 0,[.int .u32 ((sumT 4294967295 l : Nat) : Int)],s):=h1
  rw [h1']
  simp only [EVs]
  rw [Zgf h2]
  rfl
theorem Ip {R : Aa} {s : St} {a b c : Value} : ∀ (k j r : Nat),j + k = 8→r < 4294967296 →
    AS (Bt.b1 R) [.int .u32 (r : Int),.int .i64 (j : Int),a,b,c] s = some (.exit 2,[.int .u32 ((stpN k r : Nat) : Int),a,b,c],s)
  | 0,j,r,hj,hr=>by
    rw [Ar]
    have hb : decide ((j : Int) < 8) = false:=by simp; omega
    simp only [Bt.b1,EVs,hb]
    rfl
  | k + 1,j,r,hj,hr=>by
    rw [Ar]
    have hb : decide ((j : Int) < 8) = true:=by simp; omega
    have w2 : IntKind.wrap .i64 ((j : Int) + 1) = ((j + 1 : Nat) : Int):=by rw [wrap_i64 (by omega) (by omega)]; push_cast; rfl
    have h1 : ∀ t ox oy,abin Tryz.prog .shr t ox oy (.int .u32 (r : Int)) (.int .u64 1) = some (.int .u32 ((r / 2 : Nat) : Int)):=fun t ox oy=>by
      have:=W9 (P:=Tryz.prog) (t:=t) (ox:=ox) (oy:=oy) (k:=.u32) (a:=r) (b:=1) (show r < 2 ^ 32 from hr) (k2:=.u64)
      rw [Nat.pow_one] at this
      exact this
    have h2 : ∀ t ox oy,abin Tryz.prog .rem t ox oy (.int .u32 (r : Int)) (.int .u32 2) = some (.int .u32 ((r % 2 : Nat) : Int)):=fun t ox oy=>by
      rw [ZcR (by decide)]; rfl
    have h4 : ∀ t ox oy,abin Tryz.prog .xor t ox oy (.int .u32 ((r / 2 : Nat) : Int)) (.int .u32 3988292384) = some (.int .u32 ((r / 2 ^^^ 3988292384 : Nat) : Int)):=fun t ox oy=>UR rfl (show r / 2 < 2 ^ 32 by omega) (by decide)
    rcases Nat.mod_two_eq_zero_or_one r with e | e
    · have hd : (((r % 2 : Nat) : Int) == 1) = false:=by rw [e]; rfl
      simp only [Bt.b1,Bt.j0,EVs,hb,h1,h2,hd,w2]
      have hs : r / 2 = stp r:=by unfold stp; rw [e,if_neg (by decide),Nat.xor_zero]
      rw [hs]
      exact Ip k (j + 1) (stp r) (by omega) (Wc hr)
    · have hd : (((r % 2 : Nat) : Int) == 1) = true:=by rw [e]; rfl
      simp only [Bt.b1,Bt.j0,EVs,hb,h1,h2,hd,h4,w2]
      have hs : r / 2 ^^^ 3988292384 = stp r:=by unfold stp; rw [e,if_pos rfl]
      rw [hs]
      exact Ip k (j + 1) (stp r) (by omega) (Wc hr)
theorem Vg {R : Aa} {s : St} {v : Value} {l : List UInt8} (h : bytesOf v s = some l) : ∀ (rest : List UInt8) (i r : Nat),l.drop i = rest→l.length ≤ 140737488355328→r < 4294967296 →
    AS (Bt.b0 R) [.int .u32 (r : Int),v,.int .i64 ((l.length : Nat) : Int),.int .i64 (i : Int)] s = some (.exit 0,[.int .u32 ((sumR r rest : Nat) : Int)],s)∧sumR r rest < 4294967296:=by
  intro rest
  induction rest with
  | nil =>
    intro i r hr hlen hlt
    have hle : l.length ≤ i:=List.drop_eq_nil_iff.1 hr
    rw [Ar]
    have hc : decide ((i : Int) < ((l.length : Nat) : Int)) = false:=by simp; omega
    simp only [Bt.b0,EVs,hc]
    exact ⟨rfl,hlt⟩
  | cons c rest IH =>
    intro i r hr hlen hlt
    have hil : i < l.length:=by
      rcases Nat.lt_or_ge i l.length with hh | hh
      · exact hh
      · rw [List.drop_eq_nil_of_le hh] at hr; cases hr
    have hci : l[i] = c:=by
      have:=List.drop_eq_getElem_cons hil
      rw [hr] at this
      exact (List.cons.inj this).1.symm
    have hrest : l.drop (i + 1) = rest:=by
      have:=List.drop_eq_getElem_cons hil
      rw [hr] at this
      exact (List.cons.inj this).2.symm
    obtain ⟨p,hp1,hp2⟩:=CU h hil (k:=.i64)
    rw [hci] at hp2
    have hcl : c.toNat < 256:=c.toNat_lt
    have hc : decide ((i : Int) < ((l.length : Nat) : Int)) = true:=by simp; omega
    have w2 : IntKind.wrap .i64 ((i : Int) + 1) = ((i + 1 : Nat) : Int):=by rw [wrap_i64 (by omega) (by omega)]; push_cast; rfl
    have hcv : IntKind.wrap .u32 ((c.toNat : Nat) : Int) = ((c.toNat : Nat) : Int):=by rw [RE,Nat.mod_eq_of_lt (by omega)]
    have hx : r ^^^ c.toNat < 4294967296:=Nat.xor_lt_two_pow (n:=32) hlt (by omega)
    have h2 : ∀ t ox oy,abin Tryz.prog .xor t ox oy (.int .u32 (r : Int)) (.int .u32 ((c.toNat : Nat) : Int)) = some (.int .u32 ((r ^^^ c.toNat : Nat) : Int)):=fun t ox oy=>UR rfl (show r < 2 ^ 32 from hlt) (show c.toNat < 2 ^ 32 by omega)
    have hin:=Ip (R:=R) (s:=s) (a:=v) (b:=.int .i64 ((l.length : Nat) : Int)) (c:=.int .i64 (i : Int)) 8 0 (r ^^^ c.toNat) (by omega) hx
    rw [show (((0 : Nat)) : Int) = 0 from rfl] at hin
    rw [Ar]
    simp only [Bt.b0,EVs,hc,hp1,hp2]
    rw [hcv]
    simp only [h2,EVs,hin,w2]
    exact IH (i + 1) _ hrest hlen (SF hx)
theorem Xs {R : Aa} {s : St} {v : Value} {l : List UInt8} (h : bytesOf v s = some l) (hl : l.length ≤ 140737488355328) : Bt R v s = some (.int .u32 ((Zdb l : Nat) : Int),s):=by
  obtain ⟨h1,h2⟩:=Vg (R:=R) h l 0 4294967295 rfl hl (by decide)
  rw [show (((0 : Nat)) : Int) = 0 from rfl] at h1
  have h1' : AS (Bt.b0 R) [.int .u32 4294967295,v,.int .i64 ((l.length : Nat) : Int),.int .i64 0] s = some (.exit 0,[.int .u32 ((sumR 4294967295 l : Nat) : Int)],s):=h1
  have hx : ∀ t ox oy,abin Tryz.prog .xor t ox oy (.int .u32 ((sumR 4294967295 l : Nat) : Int)) (.int .u32 4294967295) = some (.int .u32 ((sumR 4294967295 l ^^^ 4294967295 : Nat) : Int)):=fun t ox oy=>UR rfl (show sumR 4294967295 l < 2 ^ 32 from h2) (by decide)
  unfold Bt
  simp only [AW h,EVs]
  rw [h1']
  simp only [EVs]
  rw [hx]
  rfl
theorem ZaX (a b : Nat) : (a ^^^ b) % 2 = 1 ↔ ¬ (a % 2 = 1 ↔ b % 2 = 1):=by
  have h:=Nat.testBit_xor a b 0
  simp only [Nat.testBit_zero] at h
  by_cases e : a % 2 = 1 <;> by_cases g : b % 2 = 1 <;> simp [e,g] at h ⊢ <;> omega
theorem Zdd (a b : Nat) : stp (a ^^^ b) = stp a ^^^ stp b:=by
  have h:=ZaX a b
  unfold stp
  rw [Nat.xor_div_two]
  generalize 3988292384 = p
  generalize a / 2 = x
  generalize b / 2 = y
  by_cases e : a % 2 = 1 <;> by_cases g : b % 2 = 1
  · rw [if_neg (by simp [h,e,g]),if_pos e,if_pos g,Nat.xor_zero,Nat.xor_comm y p,← Nat.xor_assoc,Nat.xor_assoc x p p,Nat.xor_self,Nat.xor_zero]
  · rw [if_pos (by simp [h,e,g]),if_pos e,if_neg g,Nat.xor_zero,Nat.xor_assoc,Nat.xor_assoc,Nat.xor_comm y]
  · rw [if_pos (by simp [h,e,g]),if_neg e,if_pos g,Nat.xor_zero,Nat.xor_assoc]
  · rw [if_neg (by simp [h,e,g]),if_neg e,if_neg g]; simp
theorem Wd : ∀ (k a b : Nat),stpN k (a ^^^ b) = stpN k a ^^^ stpN k b
  | 0,_,_=>rfl
  | k + 1,a,b=>by rw [stpN,Zdd,Wd k]; rfl
theorem ZaY (m : Nat) : stp (2 * m) = m:=by
  unfold stp
  rw [if_neg (by omega),Nat.xor_zero]
  omega
theorem TR : ∀ (k m : Nat),stpN k (2 ^ k * m) = m
  | 0,m=>by simp [stpN]
  | k + 1,m=>by
    rw [stpN,show 2 ^ (k + 1) * m = 2 * (2 ^ k * m) by rw [Nat.pow_succ]; rw [Nat.mul_comm (2 ^ k) 2,Nat.mul_assoc],ZaY,TR k]
theorem ZaZ (r : Nat) : r = 2 ^ 8 * (r / 256) ^^^ r % 256:=by
  have h:=Nat.two_pow_add_eq_or_of_lt (i:=8) (show r % 256 < 2 ^ 8 from Nat.mod_lt _ (by decide)) (r / 256)
  have h2 : 2 ^ 8 * (r / 256) ||| r % 256 = 2 ^ 8 * (r / 256) ^^^ r % 256:=by
    apply Nat.eq_of_testBit_eq
    intro i
    rw [Nat.testBit_or,Nat.testBit_xor,Nat.testBit_two_pow_mul]
    by_cases hi : 8 ≤ i
    · have : (r % 256).testBit i = false:=Nat.testBit_lt_two_pow (Nat.lt_of_lt_of_le (Nat.mod_lt _ (by decide)) (Nat.pow_le_pow_right (by omega) hi : 2 ^ 8 ≤ 2 ^ i))
      simp [this]
    · simp [hi]
  rw [← h2,← h]
  omega
theorem Za0 (r c : Nat) : r / 256 ^^^ stpN 8 (r % 256 ^^^ c) = stpN 8 (r ^^^ c):=by
  conv=>rhs; rw [ZaZ r,Nat.xor_assoc,Wd,TR]
theorem SG : ∀ (l : List UInt8) (r : Nat),sumT r l = sumR r l
  | [],_=>rfl
  | c :: l,r=>by rw [sumT,sumR,Za0,SG l]
theorem Zde (l : List UInt8) : Zdb l = sumV l:=by unfold Zdb sumV; rw [SG]
end Go.Proofs.YtmbhnbladmpnoaaGreat.Ab

/- Numbers and bytes: what is of use in each layer. -/
namespace Go.Proofs.YtmbhnbladmpnoaaGreat.Ab
open Go
def Po (G : List UInt8→Option Value) : Sum:=fun xs s=>(match xs with | [v]=>(bytesOf v s).bind fun l=>if l.length ≤ 140737488355328 then G l else none | _=>none).map fun v=>(v,s)
theorem Fa {G : List UInt8→Option Value} {v : Value} {s : St} {l : List UInt8} (h : bytesOf v s = some l) (hl : l.length ≤ 140737488355328) : Po G [v] s = (G l).map fun v=>(v,s):=by
  simp only [Po,h,Option.bind_some,if_pos hl]
theorem IO {lib : Lib} {f : FuncId} {G : List UInt8→Option Value} (h : ∀ v s l r,bytesOf v s = some l→l.length ≤ 140737488355328→G l = some r→FZ r = true∧∃ t0,run Tryz.prog lib Ad f [v] s = some (r,t0)) : BO Tryz.prog lib Ad f (Po G) :=
  BO.plain (G:=fun xs s=>match xs with | [v]=>(bytesOf v s).bind fun l=>if l.length ≤ 140737488355328 then G l else none | _=>none) fun xs s v hh=>by
    split at hh
    · rename_i v0
      simp only [Option.bind_eq_some_iff] at hh
      obtain ⟨l,h1,h2⟩:=hh
      split at h2
      · rename_i hl
        exact h v0 (frzS s) l v (by rw [Bp]; exact h1) hl h2
      · cases h2
    · cases hh
def Iq : Sum:=fun xs s=>(match xs with | [.int .u32 a]=>if 0 ≤ a∧a < 4294967296 then some (fixV a.toNat) else none | _=>none).map fun v=>(v,s)
theorem TS {n : Nat} {s : St} (h : n < 4294967296) : Iq [.int .u32 (n : Int)] s = some (fixV n,s):=by
  simp only [Iq]
  rw [if_pos (by omega)]
  rfl
theorem TT {lib : Lib} {f : FuncId} (h : ∀ n s,n < 4294967296→run Tryz.prog lib Ad f [.int .u32 ((n : Nat) : Int)] s = some (fixV n,s)) : BO Tryz.prog lib Ad f Iq :=
  BO.plain (G:=fun xs _=>match xs with | [.int .u32 a]=>if 0 ≤ a∧a < 4294967296 then some (fixV a.toNat) else none | _=>none) fun xs s v hh=>by
    split at hh
    · rename_i a
      split at hh
      · rename_i ha
        cases hh
        obtain ⟨n,rfl⟩:=Int.eq_ofNat_of_zero_le ha.1
        exact ⟨rfl,_,h n (frzS s) (by omega)⟩
      · cases hh
    · cases hh
def We (v : Value) : Sum:=fun xs s=>(match xs with | []=>some v | _=>none).map fun v=>(v,s)
theorem Y4 {v : Value} {s : St} : We v [] s = some (v,s):=rfl
theorem Y5 {lib : Lib} {f : FuncId} {v : Value} (hv : FZ v = true) (h : ∀ s,∃ t,run Tryz.prog lib Ad f [] s = some (v,t)) : BO Tryz.prog lib Ad f (We v) :=
  BO.plain (G:=fun xs _=>match xs with | []=>some v | _=>none) fun xs s r hh=>by
    split at hh
    · cases hh
      exact ⟨hv,h (frzS s)⟩
    · cases hh
theorem Xt : FZ tabV = true:=by
  show (tabC 256).toArray.toList.all AX = true
  simp [tabC,tabL,List.all_eq_true,AX]
def gSum : Sum:=Po fun l=>some (.int .u32 ((sumV l : Nat) : Int))
def CP : Sum:=Po fun l=>some (tupF (Gm l).1 (Gm l).2)
theorem QA {a : Int} {n : Nat} (hn : 0 < n) (hn2 : n ≤ 1000000) : ∃ i : Nat,i < n∧(IntKind.wrap .i64 (a.tmod (n : Int) + (n : Int))).tmod (n : Int) = (i : Int):=by
  have h1:=Int.tmod_lt_of_pos a (show (0 : Int) < (n : Int) by omega)
  have h2:=Int.lt_tmod_of_pos a (show (0 : Int) < (n : Int) by omega)
  rw [wrap_i64 (by omega) (by omega)]
  generalize a.tmod (n : Int) = r at *
  refine ⟨((r + n) % n).toNat,?_,?_⟩
  · have:=Int.emod_lt_of_pos (r + n) (show (0 : Int) < (n : Int) by omega)
    have:=Int.emod_nonneg (r + n) (show (n : Int) ≠ 0 by omega)
    omega
  · rw [Int.tmod_eq_emod_of_nonneg (by omega)]
    have:=Int.emod_nonneg (r + n) (show (n : Int) ≠ 0 by omega)
    omega
end Go.Proofs.YtmbhnbladmpnoaaGreat.Ab

/- Numbers' bytes: how long,what is read behind them,and back. -/
namespace Go.Proofs.YtmbhnbladmpnoaaGreat.Ab
open Go
theorem TU : ∀ (k a b : Nat),a ≤ b→(encF k a).length ≤ (encF k b).length
  | 0,_,_,_=>by simp [encF]
  | k + 1,a,b,h=>by
    simp only [encF]
    by_cases hb : b < 128
    · rw [if_pos hb,if_pos (by omega)]
      simp
    · rw [if_neg hb]
      by_cases ha : a < 128
      · rw [if_pos ha]; simp
      · rw [if_neg ha]
        simp only [List.length_cons]
        have:=TU k (a / 128) (b / 128) (Nat.div_le_div_right h)
        omega
theorem Za1 {a b : Nat} (h : a ≤ b) : (enc a).length ≤ (enc b).length:=TU 10 a b h
theorem ZeW {n : Nat} (h : n < 18446744073709551616) : hn (enc n) = n:=Vd 10 n (Nat.lt_of_lt_of_le h (by decide))
theorem Y6 {n : Nat} : 0 < (enc n).length:=List.length_pos_iff.2 KV
theorem JZ {n : Nat} (h : n < 18446744073709551616) (rest : List UInt8) : Au (enc n ++ rest) = (n,(enc n).length,0):=by
  obtain ⟨pre,c,he,h1,h2,h3⟩:=TJ h
  have hl:=@JX n
  have hh:=ZeW h
  rw [he] at hl hh
  simp only [List.length_append,List.length_cons,List.length_nil] at hl
  unfold Au
  rw [he,List.append_assoc,List.singleton_append,Ve pre c rest 0 0 h1 h2 (by omega)]
  have hc : ¬ (0 + pre.length = 9∧1 < c.toNat):=by
    rintro ⟨hp,hc⟩
    have : hn (pre ++ [c]) = hn pre + 128 ^ pre.length * hn [c]:=Pj pre [c]
    rw [hh] at this
    have e9 : pre.length = 9:=by omega
    rw [e9] at this
    have e1 : hn [c] = c.toNat:=by simp only [hn]; omega
    rw [e1] at this
    have : (128 : Nat) ^ 9 * 2 ≤ 128 ^ 9 * c.toNat:=Nat.mul_le_mul_left _ hc
    have e2 : (128 : Nat) ^ 9 * 2 = 18446744073709551616:=by decide
    omega
  rw [if_neg hc,if_neg (by rintro ⟨hz,hp⟩; have:=h3 hz; rw [this] at hp; simp at hp)]
  simp only [Option.getD_some,Nat.mul_zero,Nat.pow_zero,Nat.one_mul,Nat.zero_add,List.length_append,List.length_cons,List.length_nil,hh]
theorem J0 {l : List UInt8} (h : (Au l).2.2 = 0) : enc (Au l).1 = l.take (Au l).2.1:=by
  rw [← QY] at h ⊢
  unfold JY at h ⊢
  cases hf : C8 10 l with
  | none =>
    rw [hf] at h
    simp only at h
    split at h <;> cases h
  | some d =>
    rw [hf] at h
    simp only at h ⊢
    split at h
    · rename_i he
      rw [if_pos he]
      exact he
    · cases h
end Go.Proofs.YtmbhnbladmpnoaaGreat.Ab

/- Numbers' bytes: how long,what is read behind them,and back. -/
namespace Go.Proofs.YtmbhnbladmpnoaaGreat.Ab
open Go
end Go.Proofs.YtmbhnbladmpnoaaGreat.Ab

/- Functions that hand back bytes of their own,and an error's number. -/
namespace Go.Proofs.YtmbhnbladmpnoaaGreat.Ab
open Go
def pkE (v : Value) : Value:=.tuple #[v,.int .i64 0]
def outS (k : Value→Value) (s : St) : Value ⊕ List UInt8→Value × St
  | .inl v=>(v,s)
  | .inr l=>(k (Af l s).1,(Af l s).2)
theorem BO.out {k : Value→Value} (hk : k = id ∨ k = pkE) {P : Program} {lib : Lib} {Ad : HC} {f : FuncId} {G : List Value→St→Option (Value ⊕ List UInt8)}
    (h1 : ∀ args s v,G args s = some (.inl v)→FZ v = true∧∃ t0,run P lib Ad f args (frzS s) = some (v,t0))
    (h2 : ∀ args s l,G args s = some (.inr l)→∃ b t0,run P lib Ad f args (frzS s) = some (k (.slice (some ⟨b,0,none⟩) l.length l.length),t0)∧s.heap.length ≤ b∧t0.heap[b]? = some (.row 1 (bv l) .act)) :
    BO P lib Ad f fun args s=>(G args s).map (outS k s):=by
  intro args s v t hg
  simp only [Option.map_eq_some_iff] at hg
  obtain ⟨r,hr,e⟩:=hg
  cases r with
  | inl u =>
    cases e
    obtain ⟨g1,t0,g2⟩:=h1 args s v hr
    refine ⟨[],v,t0,fun _=>0,by simp,g2,.pure ?_⟩
    cases v with
    | tuple a =>
      have:=Vw.tup (ρ:=JF s.heap.length fun _=>0) (D:=s.heap.length) (l:=a.toList) g1
      simpa using this
    | _=>exact Vw.const g1
  | inr l =>
    cases e
    obtain ⟨b,t0,g1,g2,g3⟩:=h2 args s l hr
    have hv:=Vw0.row (N:=s.heap.length) (i:=b) (off:=0) (Nat.le_refl l.length) (Nat.le_refl l.length)
    refine ⟨_,_,t0,_,rfl,g1,.row g2 g3 (fun _ _ h=>h) US ?_⟩
    rcases hk with rfl | rfl
    · exact .va (.l2 (.l1 (.l0 hv)))
    · refine .tuple (a:=#[(.slice (some ⟨s.heap.length,0,none⟩) l.length l.length),.int .i64 0]) (a':=#[(.slice (some ⟨b,0,none⟩) l.length l.length),.int .i64 0]) ⟨.l2 (.l1 (.l0 hv)),.l2 (.l1 (.l0 (.same _ rfl))),trivial⟩
theorem Own.row {N : Nat} {s : St} {v : Value} {l : List UInt8} (h : Own N 1 s v (bv l)) (hl : l ≠ []) : ∃ b,v = .slice (some ⟨b,0,none⟩) l.length l.length∧N ≤ b∧s.heap[b]? = some (.row 1 (bv l) .act):=by
  rcases h with ⟨_,h3⟩ | ⟨b,len,rfl,h4,h5,h6,h7⟩
  · exact absurd (V1 (m:=[]) h3) hl
  · rw [A3,Nat.mul_one] at h6
    subst h6
    exact ⟨b,rfl,h4,h5⟩
theorem Wf {s t : St} (h : ∀ c,c < s.heap.length→t.heap[c]? = s.heap[c]?) : Ext s.heap.length s t:=⟨by
  by_cases e : s.heap.length = 0
  · omega
  · have h2:=h (s.heap.length - 1) (by omega)
    have h3 : s.heap[s.heap.length - 1]? = some s.heap[s.heap.length - 1]:=List.getElem?_eq_getElem (by omega)
    rw [h3] at h2
    have:=(List.getElem?_eq_some_iff.1 h2).1
    omega,h⟩
def Cm (s : St) : List Value→Option (List (List UInt8))
  | []=>some []
  | v :: l=>(bytesOf v s).bind fun b=>(Cm s l).map fun r=>b :: r
theorem Hh {s : St} : ∀ {vs : List Value} {ls : List (List UInt8)},Cm s vs = some ls→ls.length = vs.length
  | [],_,h=>by cases h; rfl
  | v :: vs,ls,h=>by
    simp only [Cm,Option.bind_eq_some_iff,Option.map_eq_some_iff] at h
    obtain ⟨b,_,r,hr,rfl⟩:=h
    simp [Hh hr]
theorem FE {s : St} : ∀ {vs : List Value} {ls : List (List UInt8)} {i : Nat},Cm s vs = some ls→(hi : i < vs.length)→∃ l,ls[i]? = some l∧bytesOf vs[i] s = some l
  | [],_,i,_,hi=>by simp at hi
  | v :: vs,ls,i,h,hi=>by
    simp only [Cm,Option.bind_eq_some_iff,Option.map_eq_some_iff] at h
    obtain ⟨b,hb,r,hr,rfl⟩:=h
    cases i with
    | zero=>exact ⟨b,rfl,hb⟩
    | succ i =>
      obtain ⟨l,h1,h2⟩:=FE hr (i:=i) (by simpa using hi)
      exact ⟨l,by simpa using h1,by simpa using h2⟩
theorem J1 {s s' : St} (h : ∀ v l,bytesOf v s = some l→bytesOf v s' = some l) : ∀ {vs : List Value} {ls : List (List UInt8)},Cm s vs = some ls→Cm s' vs = some ls
  | [],_,h2=>h2
  | v :: vs,ls,h2=>by
    simp only [Cm,Option.bind_eq_some_iff,Option.map_eq_some_iff] at h2 ⊢
    obtain ⟨b,hb,r,hr,rfl⟩:=h2
    exact ⟨b,h _ _ hb,r,J1 h hr,rfl⟩
def LM : Sum:=fun xs s=>(match xs with
  | [x]=>(cellsOf 1 x s).bind fun vs=>(Cm s vs).bind fun ls=>if ls.flatten ≠ []∧ls.flatten.length ≤ 140737488355328∧ls.length ≤ 1000000 then some (Sum.inr ls.flatten) else none
  | _=>(none : Option (Value ⊕ List UInt8))).map (outS id s)
theorem Q0 {x : Value} {s : St} {vs : List Value} {ls : List (List UInt8)} (h : cellsOf 1 x s = some vs) (h2 : Cm s vs = some ls) (h3 : ls.flatten ≠ []) (h4 : ls.flatten.length ≤ 140737488355328) (h5 : ls.length ≤ 1000000) : LM [x] s = some (Af ls.flatten s):=by
  simp only [LM,h,h2,Option.bind_some]
  rw [if_pos ⟨h3,h4,h5⟩]
  rfl
theorem Vh {R : Aa} {x : Value} {s : St} {vs : List Value} {ls : List (List UInt8)} (hx : cellsOf 1 x s = some vs) (hp : Cm s vs = some ls) (hb : ls.flatten.length ≤ 140737488355328) (hn : ls.length ≤ 1000000) : ∀ (d i : Nat),i + d = vs.length →
    AS (Av.b0 R) [x,.int .i64 (((ls.take i).flatten.length : Nat) : Int),x,.int .i64 ((vs.length : Nat) : Int),.int .i64 (i : Int)] s = some (.exit 0,[x,.int .i64 ((ls.flatten.length : Nat) : Int)],s):=by
  intro d
  have hl:=Hh hp
  induction d with
  | zero =>
    intro i hi
    have h1 : decide ((i : Int) < ((vs.length : Nat) : Int)) = false:=by simp; omega
    rw [Ar,List.take_of_length_le (by omega)]
    simp only [Av.b0,h1,EVs]
  | succ d IH =>
    intro i hi
    have h1 : decide ((i : Int) < ((vs.length : Nat) : Int)) = true:=by simp; omega
    obtain ⟨p,h2,h3,_⟩:=Ny hx (by omega) (i:=i) (by omega) (k:=.i64)
    have hi2 : i < vs.length:=by omega
    obtain ⟨l,h4,h5⟩:=FE hp hi2
    have h6:=h3 vs[i] rfl (by simp [hi2])
    have h7 : ls.take (i + 1) = ls.take i ++ [l]:=by rw [List.take_add_one,h4]; rfl
    have h8 : (ls.take (i + 1)).flatten.length = (ls.take i).flatten.length + l.length:=by rw [h7]; simp
    have h9 : (ls.take (i + 1)).flatten.length ≤ ls.flatten.length:=by
      conv=>rhs; rw [← List.take_append_drop (i + 1) ls,List.flatten_append,List.length_append]
      omega
    have hw : IntKind.wrap .i64 ((((ls.take i).flatten.length : Nat) : Int) + ((l.length : Nat) : Int)) = (((ls.take (i + 1)).flatten.length : Nat) : Int):=by rw [wrap_i64 (by omega) (by omega)]; omega
    have hw2 : IntKind.wrap .i64 ((i : Int) + 1) = ((i + 1 : Nat) : Int):=by rw [wrap_i64 (by omega) (by omega)]; omega
    have hneg : decide ((((ls.take (i + 1)).flatten.length : Nat) : Int) < 0) = false:=by simp
    rw [Ar]
    simp only [Av.b0,Av.j0,h1,h2,h6,AW h5,hw,hw2,hneg,EVs]
    exact IH (i + 1) (by omega)
theorem Y7 {s : St} {b len cap : Nat} {row : List UInt8} {v : Value} {m : List UInt8} (h : s.heap[b]? = some (.row 1 (bv row) .act)) (hv : bytesOf v s = some m) (hr : row.length = cap) (hl : len + m.length ≤ cap) (hb : cap ≤ 140737488355328) :
    ∃ s',AD 1 1 (.slice (some ⟨b,0,none⟩) len cap) v s = some (.slice (some ⟨b,0,none⟩) (len + m.length) cap,s')∧s'.heap[b]? = some (.row 1 (bv (row.take len ++ m ++ row.drop (len + m.length))) .act)∧s'.heap.length = s.heap.length∧∀ c,c ≠ b→s'.heap[c]? = s.heap[c]?:=by
  unfold AD
  rw [if_pos (by omega),IN hv,Hf hv]
  simp only [Option.bind_some]
  have hroom : NO (len + m.length) 1:=.inl (by omega)
  rw [if_pos hroom,if_pos hl]
  by_cases hm : m.length = 0
  · have : m = []:=List.eq_nil_of_length_eq_zero hm
    subst this
    refine ⟨s,by simp,?_,rfl,fun c _=>rfl⟩
    rw [h]
    simp
  · rw [if_neg hm]
    have hbl : b < s.heap.length:=(List.getElem?_eq_some_iff.1 h).1
    refine ⟨s.putB b (.row 1 (AE (bv row) (0 + len * 1) (bv m)) .act),?_,?_,by simp [St.putB],fun c hc=>?_⟩
    · unfold Fe
      rw [h]
      simp only [A3]
      rw [if_pos (by omega)]
      rfl
    · simp only [St.putB]
      rw [List.getElem?_set_self hbl]
      congr 2
      unfold AE
      rw [CK,CK,Yr,Ys,A3]
      simp
    · simp only [St.putB]
      rw [List.getElem?_set_ne (by omega)]
theorem Vi {R : Aa} {x : Value} {N : Nat} {vs : List Value} {ls : List (List UInt8)} (hb : ls.flatten.length ≤ 140737488355328) (hn : ls.length ≤ 1000000) {b : Nat} (hN : N ≤ b) : ∀ (d i : Nat) (s : St) (rest : List UInt8),i + d = vs.length→cellsOf 1 x s = some vs→Cm s vs = some ls →
    (∀ v l,bytesOf v s = some l→∀ t : St,(∀ c,c ≠ b→t.heap[c]? = s.heap[c]?)→v ∈ vs ∨ v = x→bytesOf v t = some l)→(∀ t : St,(∀ c,c ≠ b→t.heap[c]? = s.heap[c]?)→cellsOf 1 x t = some vs) →
    s.heap[b]? = some (.row 1 (bv ((ls.take i).flatten ++ rest)) .act)→((ls.take i).flatten ++ rest).length = ls.flatten.length →
    ∃ s',AS (Av.b1 R) [.slice (some ⟨b,0,none⟩) (ls.take i).flatten.length ls.flatten.length,x,.int .i64 ((vs.length : Nat) : Int),.int .i64 (i : Int)] s = some (.exit 2,[.slice (some ⟨b,0,none⟩) ls.flatten.length ls.flatten.length],s')∧s'.heap[b]? = some (.row 1 (bv ls.flatten) .act):=by
  intro d
  induction d with
  | zero =>
    intro i s rest hi hx hp _ _ hrow hlen
    have hl:=Hh hp
    have h1 : decide ((i : Int) < ((vs.length : Nat) : Int)) = false:=by simp; omega
    have ht : ls.take i = ls:=List.take_of_length_le (by omega)
    rw [ht] at hrow hlen ⊢
    refine ⟨s,?_,?_⟩
    · rw [Ar]
      simp only [Av.b1,h1,EVs]
    · have : rest = []:=by
        rw [List.length_append] at hlen
        exact List.eq_nil_of_length_eq_zero (by omega)
      rw [hrow,this,List.append_nil]
  | succ d IH =>
    intro i s rest hi hx hp hold hold2 hrow hlen
    have hl:=Hh hp
    have h1 : decide ((i : Int) < ((vs.length : Nat) : Int)) = true:=by simp; omega
    obtain ⟨p,h2,h3,_⟩:=Ny hx (by omega) (i:=i) (by omega) (k:=.i64)
    have hi2 : i < vs.length:=by omega
    obtain ⟨l,h4,h5⟩:=FE hp hi2
    have h6:=h3 vs[i] rfl (by simp [hi2])
    have h7 : ls.take (i + 1) = ls.take i ++ [l]:=by rw [List.take_add_one,h4]; rfl
    have h8 : (ls.take (i + 1)).flatten = (ls.take i).flatten ++ l:=by rw [h7]; simp
    have h9 : (ls.take (i + 1)).flatten.length ≤ ls.flatten.length:=by
      conv=>rhs; rw [← List.take_append_drop (i + 1) ls,List.flatten_append,List.length_append]
      omega
    have hw2 : IntKind.wrap .i64 ((i : Int) + 1) = ((i + 1 : Nat) : Int):=by rw [wrap_i64 (by omega) (by omega)]; omega
    have h10 : (ls.take i).flatten.length + l.length = (ls.take (i + 1)).flatten.length:=by rw [h8,List.length_append]
    obtain ⟨s2,g1,g2,g3,g4⟩:=Y7 hrow h5 hlen (len:=(ls.take i).flatten.length) (by omega) hb
    have hold' : ∀ v l,bytesOf v s2 = some l→∀ t : St,(∀ c,c ≠ b→t.heap[c]? = s2.heap[c]?)→v ∈ vs ∨ v = x→bytesOf v t = some l:=by
      intro v l' hv t ht hm
      have e1 : ∀ c,c ≠ b→t.heap[c]? = s.heap[c]?:=fun c hc=>(ht c hc).trans (g4 c hc)
      rcases hm with hm | hm
      · obtain ⟨j,hj,rfl⟩:=List.getElem_of_mem hm
        obtain ⟨l2,k1,k2⟩:=FE hp hj
        have k3:=hold _ _ k2 s2 g4 (.inl hm)
        rw [k3] at hv
        cases hv
        exact hold _ _ k2 t e1 (.inl hm)
      · subst hm
        have k4:=hold2 s2 g4
        have k5:=hold2 t e1
        unfold bytesOf at hv ⊢
        rw [k4] at hv
        rw [k5]
        exact hv
    have hp2 : Cm s2 vs = some ls:=by
      have : ∀ (ws : List Value) (ms : List (List UInt8)),(∀ v ∈ ws,v ∈ vs)→Cm s ws = some ms→Cm s2 ws = some ms:=by
        intro ws
        induction ws with
        | nil=>intro ms _ h; exact h
        | cons w ws ih =>
          intro ms hw h
          simp only [Cm,Option.bind_eq_some_iff,Option.map_eq_some_iff] at h ⊢
          obtain ⟨q,hq,r,hr,rfl⟩:=h
          exact ⟨q,hold _ _ hq s2 g4 (.inl (hw _ (List.mem_cons_self ..))),r,ih _ (fun v hv=>hw _ (List.mem_cons_of_mem _ hv)) hr,rfl⟩
      exact this vs ls (fun _ h=>h) hp
    have hr2 : (bv ((ls.take i).flatten ++ rest |>.take (ls.take i).flatten.length) ++ bv l ++ bv (((ls.take i).flatten ++ rest).drop ((ls.take i).flatten.length + l.length))) = bv ((ls.take (i + 1)).flatten ++ rest.drop l.length):=by
      rw [← CK,← CK,h8,List.take_left,← List.drop_drop,List.drop_left]
    rw [CK,CK,hr2] at g2
    obtain ⟨s3,q1,q2⟩:=IH (i + 1) s2 (rest.drop l.length) (by omega) (hold2 s2 g4) hp2 hold' (fun t ht=>hold2 t fun c hc=>(ht c hc).trans (g4 c hc)) g2 (by
      rw [List.length_append] at hlen ⊢
      rw [List.length_drop]
      omega)
    refine ⟨s3,?_,q2⟩
    rw [Ar]
    simp only [Av.b1,h1,h2,h6,g1,h10,hw2,EVs]
    exact q1
theorem Za2 {R : Aa} {n : Nat} (h0 : 0 < n) (h1 : n ≤ 140737488355328) (s : St) : AU R (.slice none 0 0) (.int .i64 (n : Int)) s = some (.slice (some ⟨s.heap.length,0,none⟩) 0 n,s.push (.row 1 (bv (List.replicate n 0)) .act)):=by
  have e1 : decide ((n : Int) < 0) = false:=by simp
  have e2 : IntKind.wrap .i64 (0 - 0) = 0:=by decide
  have e3 : IntKind.wrap .i64 ((n : Int) - 0) = (n : Int):=by rw [wrap_i64 (by omega) (by omega)]; omega
  have e4 : decide ((n : Int) > 0) = true:=by simp; omega
  have e5 : acap (.slice none 0 0) = some (.int .i64 0):=rfl
  have e6 : Bn 1 (.slice none 0 0) none (some (.int .i64 0)) none = some (.slice none 0 0):=rfl
  have hrep : A5 [Value.int .u8 0] n = bv (List.replicate n 0):=by
    clear h0 h1 e1 e3 e4
    induction n with
    | zero=>rfl
    | succ n ih=>rw [A5,ih]; rfl
  have e7 : Iv 1 1 [(.int .u8 0)] (.slice none 0 0) (.int .i64 (n : Int)) s = some (.slice (some ⟨s.heap.length,0,none⟩) n n,s.push (.row 1 (bv (List.replicate n 0)) .act)):=by
    unfold Iv
    simp only [Int.toNat_natCast,Nat.mul_one]
    rw [if_pos ⟨by omega,h1,by omega,by omega,rfl,rfl⟩,hrep]
  have e8 : Bn 1 (.slice (some ⟨s.heap.length,0,none⟩) n n) none (some (.int .i64 0)) none = some (.slice (some ⟨s.heap.length,0,none⟩) 0 n):=by
    simp [Bn,DT,Bi,HO]
  have e9 : ∀ (ty : TypeId) s2,AG (.slice ty) (.slice none 0 0) s2 = some (.int .i64 0):=fun _ _=>rfl
  unfold AU
  simp only [AU.j0,AU.j1,e1,e2,e3,e4,e5,e6,e7,e8,e9,EVs,retV]
  rfl
def Xu : Sum:=fun xs s=>match xs with
  | [.slice none 0 0,.int .i64 n]=>if 0 < n∧n ≤ 140737488355328 then some (.slice (some ⟨s.heap.length,0,none⟩) 0 n.toNat,s.push (.row 1 (bv (List.replicate n.toNat 0)) .act)) else none
  | _=>none
theorem Za3 {n : Nat} (h0 : 0 < n) (h1 : n ≤ 140737488355328) (s : St) : Xu [.slice none 0 0,.int .i64 (n : Int)] s = some (.slice (some ⟨s.heap.length,0,none⟩) 0 n,s.push (.row 1 (bv (List.replicate n 0)) .act)):=by
  unfold Xu
  simp only [Int.toNat_natCast]
  rw [if_pos (by omega)]
theorem Za4 {lib : Lib} (hl : lib 129 = none) : BO Tryz.prog lib Ad 129 Xu:=by
  intro args s v t hg
  unfold Xu at hg
  split at hg
  · rename_i n
    split at hg
    case isFalse=>cases hg
    rename_i hc
    cases hg
    obtain ⟨m,rfl⟩:=Int.eq_ofNat_of_zero_le (show 0 ≤ n by omega)
    have h:=Za2 (R:=run Tryz.prog lib Ad) (n:=m) (by omega) (by omega) (frzS s)
    simp only [Int.toNat_natCast]
    refine ⟨_,_,_,_,rfl,GI hl h,.row (N:=s.heap.length) (i:=(frzS s).heap.length) (by rw [Cp]; omega) AC (fun _ _ h=>h) US (.va (.l2 (.l1 (.l0 (Vw0.row (Nat.zero_le _) (Nat.le_refl _))))))⟩
  · cases hg
theorem Xv {lib : Lib} (hl : lib 44 = none) (hG : lib 129 = some Xu) : BO Tryz.prog lib Ad 44 LM:=by
  refine BO.out (.inl rfl) (fun args s v h=>?_) (fun args s l h=>?_)
  · split at h
    · simp only [Option.bind_eq_some_iff] at h
      obtain ⟨vs,_,ls,_,h⟩:=h
      split at h <;> cases h
    · cases h
  · split at h
    · rename_i x
      simp only [Option.bind_eq_some_iff] at h
      obtain ⟨vs,hx,ls,hp,h⟩:=h
      split at h
      case isFalse=>cases h
      rename_i hc
      obtain ⟨hne,hb,hn⟩:=hc
      cases h
      have hx2 : cellsOf 1 x (frzS s) = some vs:=by rw [JH]; exact hx
      have hp2 : Cm (frzS s) vs = some ls:=J1 (fun v l h=>by rw [Bp]; exact h) hp
      have hpos : 0 < ls.flatten.length:=List.length_pos_iff.2 hne
      have h1:=Vh (R:=run Tryz.prog lib Ad) hx2 hp2 hb hn vs.length 0 (by omega)
      have e0 : (((ls.take 0).flatten.length : Nat) : Int) = 0:=rfl
      have e00 : ((0 : Nat) : Int) = 0:=rfl
      rw [e0,e00] at h1
      have hlen : ∀ (ty : TypeId) s2,AG (.slice ty) x s2 = some (.int .i64 ((vs.length : Nat) : Int)):=fun ty s2=>by
        obtain ⟨a,len,cap,rfl,e⟩:=Fs hx
        rw [Nat.mul_one] at e
        rw [e]; rfl
      have hext : Ext (frzS s).heap.length (frzS s) ((frzS s).push (.row 1 (bv (List.replicate ls.flatten.length 0)) .act)):=.push _ (Nat.le_refl _) _
      have hkeep : ∀ t : St,(∀ c,c ≠ (frzS s).heap.length→t.heap[c]? = ((frzS s).push (.row 1 (bv (List.replicate ls.flatten.length 0)) .act)).heap[c]?)→Ext (frzS s).heap.length (frzS s) t:=fun t ht =>
        Wf fun c hc=>by rw [ht c (by omega),Db hc]
      have hins : ∀ v l,bytesOf v (frzS s) = some l→∀ t : St,(∀ c,c ≠ (frzS s).heap.length→t.heap[c]? = ((frzS s).push (.row 1 (bv (List.replicate ls.flatten.length 0)) .act)).heap[c]?)→bytesOf v t = some l :=
        fun v l hv t ht=>(hkeep t ht).bytes hv
      have hcel : ∀ t : St,(∀ c,c ≠ (frzS s).heap.length→t.heap[c]? = ((frzS s).push (.row 1 (bv (List.replicate ls.flatten.length 0)) .act)).heap[c]?)→cellsOf 1 x t = some vs :=
        fun t ht=>(hkeep t ht).cells hx2
      obtain ⟨s3,q1,q2⟩:=Vi (R:=run Tryz.prog lib Ad) (x:=x) (N:=s.heap.length) hb hn (b:=(frzS s).heap.length) (by rw [Cp]; omega) vs.length 0 ((frzS s).push (.row 1 (bv (List.replicate ls.flatten.length 0)) .act)) (List.replicate ls.flatten.length 0) (by omega) (hext.cells hx2) (J1 (fun v l h=>hext.bytes h) hp2)
        (fun v l hv t ht hm=>by
          have hold : ∃ l',bytesOf v (frzS s) = some l':=by
            rcases hm with hm | hm
            · obtain ⟨j,hj,rfl⟩:=List.getElem_of_mem hm
              obtain ⟨l2,_,k2⟩:=FE hp2 hj
              exact ⟨l2,k2⟩
            · subst hm
              have:=hcel _ (fun c _=>rfl)
              unfold bytesOf at hv ⊢
              rw [this] at hv
              rw [hx2]
              exact ⟨l,hv⟩
          obtain ⟨l',hl'⟩:=hold
          have k1:=hins v l' hl' _ (fun c _=>rfl)
          rw [k1] at hv
          cases hv
          exact hins v _ hl' t ht)
        hcel AC (by simp)
      have e1 : ((ls.take 0).flatten.length) = 0:=rfl
      rw [e1,e00] at q1
      refine ⟨(frzS s).heap.length,s3,?_,by rw [Cp]; omega,q2⟩
      refine FK hl ?_
      unfold Av
      simp only [hlen,h1,FL,Bq (P:=Tryz.prog) (Ad:=Ad) hG,Za3 hpos hb,EVs]
      simp only [q1,Lp,EVs,retV]
      rfl
    · cases h
end Go.Proofs.YtmbhnbladmpnoaaGreat.Ab

/- Datagrams: what the functions do. -/
namespace Go.Proofs.YtmbhnbladmpnoaaGreat.Ab
open Go
def BS (l : List UInt8) : List UInt8:=83 :: (enc l.length ++ l)
def B8 (l : List UInt8) : List UInt8:=BS l ++ fixB (sumV (BS l))
def B4 (l : List UInt8) : List UInt8 × Int :=
  if 4103 < l.length then ([],2) else if l.length < 6 then ([],10)
  else if leN 0 (l.drop (l.length - 4)) ≠ sumV (l.take (l.length - 4)) then ([],50)
  else if (l.take (l.length - 4)).getD 0 0 ≠ 83 ∨ (Au ((l.take (l.length - 4)).drop 1)).2.2 ≠ 0 ∨ 4096 < (Au ((l.take (l.length - 4)).drop 1)).1 ∨ l.length - 4 ≠ 1 + (Au ((l.take (l.length - 4)).drop 1)).2.1 + (Au ((l.take (l.length - 4)).drop 1)).1 then ([],11)
  else ((l.take (l.length - 4)).drop (1 + (Au ((l.take (l.length - 4)).drop 1)).2.1),0)
theorem Wg {l : List UInt8} : B8 l ≠ []:=by simp [B8,BS]
theorem KX {n : Nat} : (fixB n).length = 4:=rfl
def nilE (e : Int) : Value:=.tuple #[.slice none 0 0,.int .i64 e]
def Q1 : Sum:=fun xs s=>(match xs with
  | [.slice none 0 0]=>some (Sum.inl (Value.slice none 0 0))
  | [.slice (some a) len cap]=>(bytesOf (.slice (some a) len cap) s).bind fun l=>if l.length ≤ 140737488355328 then some (Sum.inr l) else none
  | _=>(none : Option (Value ⊕ List UInt8))).map (outS id s)
theorem Y8 {a : Addr} {len cap : Nat} {s : St} {l : List UInt8} (h : bytesOf (.slice (some a) len cap) s = some l) (hl : l.length ≤ 140737488355328) : Q1 [.slice (some a) len cap] s = some (Af l s):=by
  simp only [Q1,h,Option.bind_some,if_pos hl]
  rfl
def Vj : Sum:=fun xs s=>(match xs with
  | [v]=>(bytesOf v s).bind fun l=>if l.length ≤ 140737488355328 then (if 4096 < l.length then some (Sum.inl (nilE 2)) else some (Sum.inr (B8 l))) else none
  | _=>(none : Option (Value ⊕ List UInt8))).map (outS pkE s)
theorem Za5 {v : Value} {s : St} {l : List UInt8} (h : bytesOf v s = some l) (hl : l.length ≤ 4096) : Vj [v] s = some (pkE (Af (B8 l) s).1,(Af (B8 l) s).2):=by
  simp only [Vj,h,Option.bind_some]
  rw [if_pos (by omega),if_neg (by omega)]
  rfl
def TV : Sum:=fun xs s=>(match xs with
  | [v]=>(bytesOf v s).bind fun l=>if l.length ≤ 140737488355328 then (if (B4 l).2 = 0 then some (Sum.inr (B4 l).1) else some (Sum.inl (nilE (B4 l).2))) else none
  | _=>(none : Option (Value ⊕ List UInt8))).map (outS pkE s)
theorem Za6 {v : Value} {s : St} {l : List UInt8} (h : bytesOf v s = some l) (hl : l.length ≤ 140737488355328) (h0 : (B4 l).2 = 0) : TV [v] s = some (pkE (Af (B4 l).1 s).1,(Af (B4 l).1 s).2):=by
  simp only [TV,h,Option.bind_some]
  rw [if_pos hl,if_pos h0]
  rfl
theorem Za7 {v : Value} {s : St} {l : List UInt8} (h : bytesOf v s = some l) (hl : l.length ≤ 140737488355328) (h0 : (B4 l).2 ≠ 0) : TV [v] s = some (nilE (B4 l).2,s):=by
  simp only [TV,h,Option.bind_some]
  rw [if_pos hl,if_neg h0]
  rfl
theorem ZeX {t e : TypeId} (ht : Tryz.prog.underlying t = some (.slice e)) {o1 o2 : Operand} {a : Addr} {len cap : Nat} : abin Tryz.prog .eql t o1 o2 (.slice (some a) len cap) (.slice none 0 0) = some (.bool false):=by
  unfold abin
  rw [ht]
  rfl
theorem Zdf {t e : TypeId} (ht : Tryz.prog.underlying t = some (.slice e)) {o1 o2 : Operand} : abin Tryz.prog .eql t o1 o2 (.slice none 0 0) (.slice none 0 0) = some (.bool true):=by
  unfold abin
  rw [ht]
  rfl
theorem Y9 {R : Aa} {a : Addr} {len cap : Nat} {s : St} {l : List UInt8} (h : bytesOf (.slice (some a) len cap) s = some l) (hl : l.length ≤ 140737488355328) :
    ∃ b t,B5 R (.slice (some a) len cap) s = some (.slice (some ⟨b,0,none⟩) l.length l.length,t)∧s.heap.length ≤ b∧t.heap[b]? = some (.row 1 (bv l) .act):=by
  have e1 : As 1 [(.int .u8 0)] 0 [] s = some (.slice (some ⟨s.heap.length,0,none⟩) 0 0,s.push (.row 1 [] .act)):=rfl
  have h2 : bytesOf (.slice (some a) len cap) (s.push (.row 1 [] .act)) = some l:=(Ext.push _ (Nat.le_refl _) _).bytes h
  unfold B5
  simp only [ZeX Tryz.underlying31,e1,EVs]
  unfold AD
  rw [if_pos (by omega),IN h2,Hf h2]
  simp only [Option.bind_some]
  rw [if_pos (.inl (by omega))]
  by_cases hm : l.length = 0
  · have : l = []:=List.eq_nil_of_length_eq_zero hm
    subst this
    refine ⟨s.heap.length,s.push (.row 1 [] .act),?_,Nat.le_refl _,AC⟩
    rfl
  · rw [if_neg (by omega),AC]
    simp only
    rw [if_pos ⟨trivial,trivial,rfl⟩]
    refine ⟨(s.push (.row 1 [] .act)).heap.length,((s.push (.row 1 [] .act)).putB s.heap.length (.row 1 [] .dead)).push (.row 1 (bv l) .act),?_,by rw [AL]; omega,?_⟩
    · simp only [Option.bind_some,retV,Nat.zero_add,List.nil_append]
      rfl
    · have : (s.push (.row 1 [] .act)).heap.length = ((s.push (.row 1 [] .act)).putB s.heap.length (.row 1 [] .dead)).heap.length:=by simp [St.putB]
      rw [this]
      exact AC
theorem Za {lib : Lib} (hl : lib 118 = none) : BO Tryz.prog lib Ad 118 Q1:=by
  refine BO.out (.inl rfl) (fun args s v h=>?_) (fun args s l h=>?_)
  · split at h
    · cases h
      refine ⟨rfl,frzS s,Du hl ?_⟩
      unfold B5
      simp only [Zdf Tryz.underlying31,EVs,retV]
      rfl
    · simp only [Option.bind_eq_some_iff] at h
      obtain ⟨l,_,h⟩:=h
      split at h <;> cases h
    · cases h
  · split at h
    · cases h
    · simp only [Option.bind_eq_some_iff] at h
      obtain ⟨l',h1,h⟩:=h
      split at h
      case isFalse=>cases h
      rename_i hle
      cases h
      obtain ⟨b,t,g1,g2,g3⟩:=Y9 (R:=run Tryz.prog lib Ad) (s:=frzS s) (by rw [Bp]; exact h1) hle
      rw [Cp] at g2
      exact ⟨b,t,Du hl g1,g2,g3⟩
    · cases h
theorem GS {v : Value} {s : St} {l : List UInt8} (h : bytesOf v s = some l) : AI v = true∧Ao v = [v]:=by
  unfold bytesOf cellsOf at h
  split at h
  · exact ⟨rfl,rfl⟩
  · exact ⟨rfl,rfl⟩
  · cases h
theorem ZeY {s : St} {a b c : Value} (ha : AI a = true∧Ao a = [a]) (hb : AI b = true∧Ao b = [b]) (hc : AI c = true∧Ao c = [c]) : As 1 [(.slice none 0 0)] 3 [(0,a),(1,b),(2,c)] s = some (.slice (some ⟨s.heap.length,0,none⟩) 3 3,s.push (.row 1 [a,b,c] .act)):=by
  unfold As
  rw [if_pos ⟨by decide,rfl,rfl⟩]
  simp [IR,LV,A5,AE,ha.1,ha.2,hb.1,hb.2,hc.1,hc.2]
theorem ZeZ {s : St} {a b : Value} (ha : AI a = true∧Ao a = [a]) (hb : AI b = true∧Ao b = [b]) : As 1 [(.slice none 0 0)] 2 [(0,a),(1,b)] s = some (.slice (some ⟨s.heap.length,0,none⟩) 2 2,s.push (.row 1 [a,b] .act)):=by
  unfold As
  rw [if_pos ⟨by decide,rfl,rfl⟩]
  simp [IR,LV,A5,AE,ha.1,ha.2,hb.1,hb.2]
theorem TW {s : St} {cs : List Value} : cellsOf 1 (.slice (some ⟨s.heap.length,0,none⟩) cs.length cs.length) (s.push (.row 1 cs .act)) = some cs:=by
  simp only [cellsOf,Nat.le_refl,if_true,readN,Ab.readRow,AC,Option.bind_some,Nat.mul_one,Nat.zero_add]
  rw [List.drop_zero,List.take_length]
theorem Zb {s : St} {n : Nat} : ∃ t,(anew [(.int .u8 0),(.int .u8 0),(.int .u8 0),(.int .u8 0)] s).bind (fun r=>(A4 4 r.1 (fixV n) r.2).bind fun t=>(Ff 4 1 r.1 none none none t).map fun v=>(v,t)) = some (.slice (some ⟨s.heap.length,0,none⟩) 4 4,t)∧bytesOf (.slice (some ⟨s.heap.length,0,none⟩) 4 4) t = some (fixB n)∧Ext s.heap.length s t:=by
  refine ⟨(s.push (.row 0 [(.int .u8 0),(.int .u8 0),(.int .u8 0),(.int .u8 0)] .act)).putB s.heap.length (.row 0 (bv (fixB n)) .act),?_,?_,?_⟩
  · have h1 : anew [(.int .u8 0),(.int .u8 0),(.int .u8 0),(.int .u8 0)] s = some (.pointer (some ⟨s.heap.length,0,none⟩),s.push (.row 0 [(.int .u8 0),(.int .u8 0),(.int .u8 0),(.int .u8 0)] .act)):=rfl
    have h2 : A4 4 (.pointer (some ⟨s.heap.length,0,none⟩)) (fixV n) (s.push (.row 0 [(.int .u8 0),(.int .u8 0),(.int .u8 0),(.int .u8 0)] .act)) = some ((s.push (.row 0 [(.int .u8 0),(.int .u8 0),(.int .u8 0),(.int .u8 0)] .act)).putB s.heap.length (.row 0 (bv (fixB n)) .act)):=by
      rw [Y1]
      unfold A4 Fe
      simp only [AC]
      rfl
    rw [h1]
    simp only [Option.bind_some]
    rw [h2]
    simp only [Option.bind_some]
    have h3 : ((s.push (.row 0 [(.int .u8 0),(.int .u8 0),(.int .u8 0),(.int .u8 0)] .act)).putB s.heap.length (.row 0 (bv (fixB n)) .act)).heap[s.heap.length]? = some (.row 0 (bv (fixB n)) .act):=by
      simp [St.putB,St.push]
    unfold Ff
    simp only [h3]
    rfl
  · have h3 : ((s.push (.row 0 [(.int .u8 0),(.int .u8 0),(.int .u8 0),(.int .u8 0)] .act)).putB s.heap.length (.row 0 (bv (fixB n)) .act)).heap[s.heap.length]? = some (.row 0 (bv (fixB n)) .act):=by
      simp [St.putB,St.push]
    have h4 : Ab.readRow ((s.push (.row 0 [(.int .u8 0),(.int .u8 0),(.int .u8 0),(.int .u8 0)] .act)).putB s.heap.length (.row 0 (bv (fixB n)) .act)) s.heap.length = some (bv (fixB n)):=by
      unfold Ab.readRow
      rw [h3]
    unfold bytesOf cellsOf
    simp only [Nat.le_refl,if_true]
    unfold readN
    rw [h4,Option.bind_some,if_pos (by rw [A3,KX]; decide),List.drop_zero,List.take_of_length_le (by rw [A3,KX]; decide),Option.bind_some]
    exact QO (fixB n)
  · refine Wf fun c hc=>?_
    simp only [St.putB]
    rw [List.getElem?_set_ne (by omega),Db hc]
theorem Zc : ∀ (l : List UInt8) {r : Nat},r < 4294967296→sumT r l < 4294967296
  | [],_,h=>h
  | c :: l,r,h=>by
    rw [SG,sumR,← SG]
    refine Zc l (SF ?_)
    exact Nat.xor_lt_two_pow (n:=32) h (Nat.lt_trans c.toNat_lt (by decide))
theorem Vk (l : List UInt8) : sumV l < 4294967296:=by
  unfold sumV
  exact Nat.xor_lt_two_pow (n:=32) (Zc l (by decide)) (by decide)
theorem Za8 {R : Aa} (hN : ∀ xs s,R 45 xs s = gNum xs s) (hC : ∀ xs s,R 44 xs s = LM xs s) (hS : ∀ xs s,R 47 xs s = gSum xs s) (hF : ∀ xs s,R 46 xs s = Iq xs s) {v : Value} {s : St} {l : List UInt8} (h : bytesOf v s = some l) (hl : l.length ≤ 4096) :
    ∃ b t,IE R v s = some (pkE (.slice (some ⟨b,0,none⟩) (B8 l).length (B8 l).length),t)∧s.heap.length ≤ b∧t.heap[b]? = some (.row 1 (bv (B8 l)) .act):=by
  have e1 : decide (((l.length : Nat) : Int) > 4096) = false:=by simp; omega
  have e2 : As 1 [(.int .u8 0)] 1 [(0,(.int .u8 83))] s = some (Af [83] s):=rfl
  have e3 : IntKind.wrap .u64 ((l.length : Nat) : Int) = ((l.length : Nat) : Int):=Em (by omega) (by omega)
  have hb1 : bytesOf (Af [83] s).1 (Af [83] s).2 = some [83]:=Bb
  have x1 : Ext s.heap.length s (Af [83] s).2:=AZ (Nat.le_refl _)
  have x2 : Ext (Af [83] s).2.heap.length (Af [83] s).2 (Af (enc l.length) (Af [83] s).2).2:=AZ (Nat.le_refl _)
  generalize hs1 : Af [83] s = r1 at e2 hb1 x1 x2
  have hb2 : bytesOf (Af (enc l.length) r1.2).1 (Af (enc l.length) r1.2).2 = some (enc l.length):=Bb
  have e5 : gNum [.int .u64 ((l.length : Nat) : Int)] r1.2 = some (Af (enc l.length) r1.2):=LJ (by omega)
  generalize Af (enc l.length) r1.2 = r2 at e5 hb2 x2
  have y1:=x2.bytes hb1
  have y2:=x2.bytes (x1.bytes h)
  have e6:=ZeY (s:=r2.2) (GS hb1) (GS hb2) (GS h)
  have x3 : Ext r2.2.heap.length r2.2 (r2.2.push (.row 1 [r1.1,r2.1,v] .act)):=.push _ (Nat.le_refl _) _
  have hc3 : cellsOf 1 (.slice (some ⟨r2.2.heap.length,0,none⟩) 3 3) (r2.2.push (.row 1 [r1.1,r2.1,v] .act)) = some [r1.1,r2.1,v]:=TW (s:=r2.2) (cs:=[r1.1,r2.1,v])
  have hp3 : Cm (r2.2.push (.row 1 [r1.1,r2.1,v] .act)) [r1.1,r2.1,v] = some [[83],enc l.length,l]:=by
    simp only [Cm,x3.bytes y1,x3.bytes hb2,x3.bytes y2,Option.bind_some,Option.map_some]
  have hfl : [[83],enc l.length,l].flatten = BS l:=by simp [BS]
  have hlen : (BS l).length ≤ 5000:=by simp [BS]; have:=@JX l.length; omega
  have e7:=Q0 hc3 hp3 (by rw [hfl]; simp [BS]) (by rw [hfl]; omega) (by simp)
  rw [hfl] at e7
  generalize r2.2.push (.row 1 [r1.1,r2.1,v] .act) = s3 at e6 x3 e7
  have hb4 : bytesOf (Af (BS l) s3).1 (Af (BS l) s3).2 = some (BS l):=Bb
  have x4 : Ext s3.heap.length s3 (Af (BS l) s3).2:=AZ (Nat.le_refl _)
  generalize Af (BS l) s3 = r4 at e7 hb4 x4
  have e8 : gSum [r4.1] r4.2 = some (.int .u32 ((sumV (BS l) : Nat) : Int),r4.2):=by
    unfold gSum; rw [Fa hb4 (by omega),Option.map_some]
  have hsum : sumV (BS l) < 4294967296:=Vk _
  have e9 : Iq [.int .u32 ((sumV (BS l) : Nat) : Int)] r4.2 = some (fixV (sumV (BS l)),r4.2):=TS hsum
  obtain ⟨t5,e10,hb5,x5⟩:=Zb (s:=r4.2) (n:=sumV (BS l))
  have y4:=x5.bytes hb4
  have e11:=ZeZ (s:=t5) (GS hb4) (GS hb5)
  have x6 : Ext t5.heap.length t5 (t5.push (.row 1 [r4.1,.slice (some ⟨r4.2.heap.length,0,none⟩) 4 4] .act)):=.push _ (Nat.le_refl _) _
  have hc6 : cellsOf 1 (.slice (some ⟨t5.heap.length,0,none⟩) 2 2) (t5.push (.row 1 [r4.1,.slice (some ⟨r4.2.heap.length,0,none⟩) 4 4] .act)) = some [r4.1,.slice (some ⟨r4.2.heap.length,0,none⟩) 4 4]:=TW (s:=t5) (cs:=[r4.1,.slice (some ⟨r4.2.heap.length,0,none⟩) 4 4])
  have hp6 : Cm (t5.push (.row 1 [r4.1,.slice (some ⟨r4.2.heap.length,0,none⟩) 4 4] .act)) [r4.1,.slice (some ⟨r4.2.heap.length,0,none⟩) 4 4] = some [BS l,fixB (sumV (BS l))]:=by
    simp only [Cm,x6.bytes y4,x6.bytes hb5,Option.bind_some,Option.map_some]
  have hfl6 : [BS l,fixB (sumV (BS l))].flatten = B8 l:=by simp [B8]
  have hlen6 : (B8 l).length ≤ 6000:=by simp [B8,KX]; omega
  have e12:=Q0 hc6 hp6 (by rw [hfl6]; exact Wg) (by rw [hfl6]; omega) (by simp)
  rw [hfl6] at e12
  have hle : s.heap.length ≤ (t5.push (.row 1 [r4.1,.slice (some ⟨r4.2.heap.length,0,none⟩) 4 4] .act)).heap.length:=by
    have:=x1.1; have:=x2.1; have:=x3.1; have:=x4.1; have:=x5.1; have:=x6.1
    omega
  generalize t5.push (.row 1 [r4.1,.slice (some ⟨r4.2.heap.length,0,none⟩) 4 4] .act) = s6 at e11 e12 hle
  generalize B8 l = L at e12 hlen6 hfl6 ⊢
  refine ⟨s6.heap.length,(Af L s6).2,?_,hle,AC⟩
  simp only [Option.bind_eq_some_iff,Option.map_eq_some_iff,Prod.mk.injEq] at e10
  obtain ⟨q,h10,t,h11,w,h12,rfl,rfl⟩:=e10
  have e3' : AM .u64 (.int .i64 ((l.length : Nat) : Int)) = some (.int .u64 ((l.length : Nat) : Int)):=by rw [Mg,e3]
  clear hp6 hfl6 hc6 hp3 hfl hc3 hb5 hlen6 hb4 hlen hsum hb2 hb1 x1 x2 x3 x4 x5 x6 y1 y2 y4 hs1
  generalize fixV (sumV (BS l)) = F at e9 h11
  generalize sumV (BS l) = S at e8 e9
  unfold IE
  simp only [AW h,e1,e2,e3',Option.bind_some,EI,EJ]
  simp only [Ck,hN,e5,Option.bind_some]
  simp only [e6,Option.bind_some]
  simp only [CV,hC,e7,Option.bind_some]
  simp only [Jd,hS,e8,Option.bind_some]
  simp only [MI,hF,e9,Option.bind_some]
  simp only [h10,Option.bind_some]
  simp only [h11,Option.bind_some]
  simp only [h12,Option.bind_some]
  simp only [e11,Option.bind_some]
  simp only [CV,hC,e12,Option.bind_some]
  rfl
theorem Za9 {lib : Lib} (hl : lib 17 = none) (hN : lib 45 = some gNum) (hC : lib 44 = some LM) (hS : lib 47 = some gSum) (hF : lib 46 = some Iq) : BO Tryz.prog lib Ad 17 Vj:=by
  refine BO.out (.inr rfl) (fun args s v h=>?_) (fun args s l h=>?_)
  · split at h
    · rename_i v0
      simp only [Option.bind_eq_some_iff] at h
      obtain ⟨l,h1,h⟩:=h
      split at h
      case isFalse=>cases h
      rename_i hle
      split at h
      case isFalse=>cases h
      rename_i hlong
      cases h
      refine ⟨rfl,frzS s,Kr hl ?_⟩
      have h2 : bytesOf v0 (frzS s) = some l:=by rw [Bp]; exact h1
      have e1 : decide (((l.length : Nat) : Int) > 4096) = true:=by simp; omega
      unfold IE
      simp only [AW h2,e1,EVs,retV]
      rfl
    · cases h
  · split at h
    · rename_i v0
      simp only [Option.bind_eq_some_iff] at h
      obtain ⟨l',h1,h⟩:=h
      split at h
      case isFalse=>cases h
      split at h
      case isTrue=>cases h
      cases h
      obtain ⟨b,t,g1,g2,g3⟩:=Za8 (R:=run Tryz.prog lib Ad) (fun xs s=>Bq hN) (fun xs s=>Bq hC) (fun xs s=>Bq hS) (fun xs s=>Bq hF) (s:=frzS s) (v:=v0) (l:=l') (by rw [Bp]; exact h1) (by omega)
      rw [Cp] at g2
      exact ⟨b,t,Kr hl g1,g2,g3⟩
    · cases h
end Go.Proofs.YtmbhnbladmpnoaaGreat.Ab

/- Datagrams: opening. -/
namespace Go.Proofs.YtmbhnbladmpnoaaGreat.Ab
open Go
theorem Xw {v : Value} {s : St} {l : List UInt8} (h : bytesOf v s = some l) (hl : l ≠ []) : ∃ a len cap,v = .slice (some a) len cap:=by
  unfold bytesOf cellsOf at h
  split at h
  · cases h; exact absurd rfl hl
  · exact ⟨_,_,_,rfl⟩
  · cases h
theorem Q2 {a : Addr} {len cap : Nat} {lo hi mx : Option Value} {u : Value} (h : Bn 1 (.slice (some a) len cap) lo hi mx = some u) : ∃ a' len' cap',u = .slice (some a') len' cap':=by
  unfold Bn DT at h
  simp only at h
  by_cases hc : (mx.isNone || hi.isSome) = true
  case neg=>rw [if_neg hc] at h; cases h
  rw [if_pos hc] at h
  simp only [Option.bind_eq_some_iff] at h
  obtain ⟨m,_,h',_,l,_,h⟩:=h
  split at h
  case isFalse=>cases h
  obtain ⟨b,o,sp⟩:=a
  cases sp with
  | none=>cases h; exact ⟨_,_,_,rfl⟩
  | some _=>cases h
theorem Zd {l : List UInt8} {i : Nat} (h : i < l.length) : l[i] = l.getD i 0:=by simp [h]
theorem Zch {c : UInt8} : ((((c.toNat : Nat) : Int) != 83)) = decide (c ≠ 83):=by
  by_cases h : c = 83
  · subst h; rfl
  · have : c.toNat ≠ 83:=fun e=>h (UInt8.toNat_inj.1 e)
    simp [h]
    omega
theorem Wh {l : List UInt8} (h : l.length = 4) : Gm l = (leN 0 l,0):=by
  unfold Gm
  rw [if_neg (by omega),List.take_of_length_le (by omega)]
theorem Zba {R : Aa} (hN : ∀ xs s,R 117 xs s = Ch xs s) (hC : ∀ xs s,R 118 xs s = Q1 xs s) (hS : ∀ xs s,R 47 xs s = gSum xs s) (hF : ∀ xs s,R 116 xs s = CP xs s) {v : Value} {s : St} {l : List UInt8} (h : bytesOf v s = some l) (hl : l.length ≤ 140737488355328) :
    if (B4 l).2 = 0 then IG R v s = some (pkE (Af (B4 l).1 s).1,(Af (B4 l).1 s).2) else IG R v s = some (nilE (B4 l).2,s):=by
  unfold B4 IG
  simp only [AW h,Option.bind_some,EJ,PS]
  by_cases c1 : 4103 < l.length
  · have e1 : decide (((l.length : Nat) : Int) > 4103) = true:=by simp; omega
    rw [if_pos c1,if_neg (by decide)]
    simp only [e1,C2]
    rfl
  have e1 : decide (((l.length : Nat) : Int) > 4103) = false:=by simp; omega
  rw [if_neg c1]
  by_cases c2 : l.length < 6
  · have e2 : decide (((l.length : Nat) : Int) < 6) = true:=by simp; omega
    rw [if_pos c2,if_neg (by decide)]
    simp only [e1,e2,C2,EI]
    rfl
  have e2 : decide (((l.length : Nat) : Int) < 6) = false:=by simp; omega
  rw [if_neg c2]
  have e3 : IntKind.wrap .i64 (((l.length : Nat) : Int) - 4) = ((l.length - 4 : Nat) : Int):=by rw [wrap_i64 (by omega) (by omega)]; omega
  obtain ⟨a,len,cap,rfl⟩:=Xw h (fun e=>by rw [e] at c2; simp at c2)
  obtain ⟨hd,g1,g2⟩:=BH h (lo:=none) (hi:=some (.int .i64 ((l.length - 4 : Nat) : Int))) (mx:=some (.int .i64 ((l.length - 4 : Nat) : Int))) (i:=0) (j:=l.length - 4) rfl (by simp [Bi]) (by omega) (by omega) (.inr ⟨rfl,fun c=>by simp [Bi]⟩)
  obtain ⟨tl,g3,g4⟩:=BH h (lo:=some (.int .i64 ((l.length - 4 : Nat) : Int))) (hi:=none) (mx:=none) (i:=l.length - 4) (j:=l.length) (by simp [Bi]) rfl (by omega) (by omega) (.inl rfl)
  obtain ⟨a2,len2,cap2,rfl⟩:=Q2 g1
  simp only [List.drop_zero,Nat.sub_zero] at g2
  rw [List.take_of_length_le (by simp)] at g4
  have f1 : CP [tl] s = some (tupF (leN 0 (l.drop (l.length - 4))) 0,s):=by
    unfold CP
    rw [Fa g4 (by simp; omega),Wh (by simp; omega),Option.map_some]
  have hlen : (l.take (l.length - 4)).length = l.length - 4:=by simp
  have f2 : gSum [.slice (some a2) len2 cap2] s = some (.int .u32 ((sumV (l.take (l.length - 4)) : Nat) : Int),s):=by
    unfold gSum; rw [Fa g2 (by omega),Option.map_some]
  have f3 : ∀ n,Al 0 (tupF n 0) = some (.int .u32 n)∧Al 1 (tupF n 0) = some (.int .i64 0):=fun n=>⟨rfl,rfl⟩
  have z0 : ((0 : Int) != 0) = false:=rfl
  simp only [e1,e2,e3,EI,W8,Option.bind_some,g1,g3,I1,hF,f1,(f3 _).1,(f3 _).2,ME,z0]
  simp only [C3,Jd,hS,f2,Option.bind_some,ME,BP,Fq]
  generalize hA : leN 0 (l.drop (l.length - 4)) = A
  generalize hB : sumV (l.take (l.length - 4)) = B
  by_cases c3 : A ≠ B
  · rw [if_pos c3,if_neg (by decide)]
    have e4 : (((A : Nat) : Int) != ((B : Nat) : Int)) = true:=by simp; omega
    simp only [e4,C2]
    rfl
  rw [if_neg c3]
  have e4 : (((A : Nat) : Int) != ((B : Nat) : Int)) = false:=by simp; omega
  clear f1 f2 hA hB
  generalize hH : l.take (l.length - 4) = H at g2 hlen
  obtain ⟨h1v,g5,g6⟩:=BH g2 (lo:=some (.int .i64 1)) (hi:=none) (mx:=none) (i:=1) (j:=H.length) (by simp [Bi]) rfl (by omega) (by omega) (.inl rfl)
  rw [List.take_of_length_le (by simp)] at g6
  have f4 : Ch [h1v] s = some (tup3 (Au (H.drop 1)).1 (Au (H.drop 1)).2.1 (Au (H.drop 1)).2.2,s):=FD g6
  have hk:=EC (H.drop 1)
  have hlt:=GR (H.drop 1)
  have hk0 : (Au (H.drop 1)).2.1 ≤ 100000:=by
    by_cases e : (Au (H.drop 1)).2.2 = 0
    · have:=(hk e).2
      simp only [List.length_drop] at this
      omega
    · have : (Au (H.drop 1)).2.1 = 0:=by
        unfold Au at e ⊢
        cases e5 : rdN 0 0 (H.drop 1) with
        | none=>rfl
        | some r=>rw [e5] at e; exact ((ZaO e5).2.1 e).2
      omega
  generalize Au (H.drop 1) = r at f4 hk hlt hk0
  obtain ⟨n,k,e⟩:=r
  simp only at f4 hk hlt hk0 ⊢
  obtain ⟨p,g7,g8⟩:=CU g2 (i:=0) (by omega) (k:=.i64)
  have z00 : ((0 : Nat) : Int) = 0:=rfl
  rw [z00] at g7
  rw [Zd (by omega)] at g8
  simp only [e4,EI,g5,Option.bind_some,CW,hN,f4,x3_0,x3_1,x3_2,g7,g8,ME,Zch]
  by_cases d1 : H.getD 0 0 ≠ 83
  · have e5 : decide (H.getD 0 0 ≠ 83) = true:=decide_eq_true d1
    rw [if_pos (c:=H.getD 0 0 ≠ 83 ∨ e ≠ 0 ∨ 4096 < n ∨ l.length - 4 ≠ 1 + k + n) (.inl d1),if_neg (by decide)]
    simp only [e5,EVs,AW g2]
    rfl
  have e5 : decide (H.getD 0 0 ≠ 83) = false:=decide_eq_false d1
  by_cases d2 : e ≠ 0
  · have e6 : (e != 0) = true:=by simp [d2]
    rw [if_pos (c:=H.getD 0 0 ≠ 83 ∨ e ≠ 0 ∨ 4096 < n ∨ l.length - 4 ≠ 1 + k + n) (.inr (.inl d2)),if_neg (by decide)]
    simp only [e5,e6,C3,Et,H2,Fq,Option.bind_some,BP,C2]
    rfl
  have e6 : (e != 0) = false:=by simpa using d2
  have e0 : e = 0:=by simpa using d2
  have hk2:=hk e0
  simp only [List.length_drop] at hk2
  by_cases d3 : 4096 < n
  · have e7 : decide (((n : Nat) : Int) > 4096) = true:=by simp; omega
    rw [if_pos (c:=H.getD 0 0 ≠ 83 ∨ e ≠ 0 ∨ 4096 < n ∨ l.length - 4 ≠ 1 + k + n) (.inr (.inr (.inl d3))),if_neg (by decide)]
    simp only [e5,e6,e7,C3,Et,H2,Fq,Option.bind_some,BP,C2,EJ]
    rfl
  have e7 : decide (((n : Nat) : Int) > 4096) = false:=by simp; omega
  have e8 : IntKind.wrap .i64 (1 + ((k : Nat) : Int)) = ((1 + k : Nat) : Int):=by rw [wrap_i64 (by omega) (by omega)]; omega
  have e9 : IntKind.wrap .i64 ((n : Nat) : Int) = ((n : Nat) : Int):=wrap_i64 (by omega) (by omega)
  have e10 : IntKind.wrap .i64 (((1 + k : Nat) : Int) + ((n : Nat) : Int)) = ((1 + k + n : Nat) : Int):=by rw [wrap_i64 (by omega) (by omega)]; omega
  by_cases d4 : l.length - 4 ≠ 1 + k + n
  · have e11 : (((H.length : Nat) : Int) != ((1 + k + n : Nat) : Int)) = true:=by simp; omega
    rw [if_pos (c:=H.getD 0 0 ≠ 83 ∨ e ≠ 0 ∨ 4096 < n ∨ l.length - 4 ≠ 1 + k + n) (.inr (.inr (.inr d4))),if_neg (by decide)]
    simp only [e5,e6,e7,e8,e9,e10,e11,C3,Et,H2,Fq,Option.bind_some,BP,C2,EJ,W7,Mg,ME,AW g2]
    rfl
  have e11 : (((H.length : Nat) : Int) != ((1 + k + n : Nat) : Int)) = false:=by simp; omega
  rw [if_neg (c:=H.getD 0 0 ≠ 83 ∨ e ≠ 0 ∨ 4096 < n ∨ l.length - 4 ≠ 1 + k + n) (by
    rintro (g | g | g | g)
    · exact d1 g
    · exact d2 g
    · exact d3 g
    · exact d4 g),if_pos rfl]
  obtain ⟨bd,g9,g10⟩:=BH g2 (lo:=some (.int .i64 ((1 + k : Nat) : Int))) (hi:=none) (mx:=none) (i:=1 + k) (j:=H.length) (by simp [Bi]; omega) rfl (by omega) (by omega) (.inl rfl)
  rw [List.take_of_length_le (by simp)] at g10
  obtain ⟨a3,len3,cap3,rfl⟩:=Q2 g9
  have f5:=Y8 g10 (by simp; omega)
  simp only [e5,e6,e7,e8,e9,e10,e11,C3,Fq,Option.bind_some,BP,EI,EJ,W7,Mg,ME,AW g2,g9]
  simp only [Fz,hC,f5,Option.bind_some]
  rfl
theorem Zbb {lib : Lib} (hl : lib 34 = none) (hN : lib 117 = some Ch) (hC : lib 118 = some Q1) (hS : lib 47 = some gSum) (hF : lib 116 = some CP) : BO Tryz.prog lib Ad 34 TV:=by
  have key : ∀ (v0 : Value) (s : St) (l : List UInt8),bytesOf v0 s = some l→l.length ≤ 140737488355328→_:=fun v0 s l h1 hle =>
    Zba (R:=run Tryz.prog lib Ad) (fun xs s=>Bq hN) (fun xs s=>Bq hC) (fun xs s=>Bq hS) (fun xs s=>Bq hF) (s:=frzS s) (v:=v0) (l:=l) (by rw [Bp]; exact h1) hle
  refine BO.out (.inr rfl) (fun args s v h=>?_) (fun args s l h=>?_)
  · split at h
    · rename_i v0
      simp only [Option.bind_eq_some_iff] at h
      obtain ⟨l,h1,h⟩:=h
      split at h
      case isFalse=>cases h
      rename_i hle
      split at h
      case isTrue=>cases h
      rename_i h0
      cases h
      have:=key v0 s l h1 hle
      rw [if_neg h0] at this
      exact ⟨rfl,_,Ku hl this⟩
    · cases h
  · split at h
    · rename_i v0
      simp only [Option.bind_eq_some_iff] at h
      obtain ⟨l',h1,h⟩:=h
      split at h
      case isFalse=>cases h
      rename_i hle
      split at h
      case isFalse=>cases h
      rename_i h0
      cases h
      have:=key v0 s l' h1 hle
      rw [if_pos h0] at this
      exact ⟨_,_,Ku hl this,by rw [Cp]; omega,AC⟩
    · cases h
end Go.Proofs.YtmbhnbladmpnoaaGreat.Ab

/- The sum's algebra: what turns it. -/
namespace Go.Proofs.YtmbhnbladmpnoaaGreat.Ab
open Go
end Go.Proofs.YtmbhnbladmpnoaaGreat.Ab

/- Datagrams: what is plain of sealing and opening. -/
namespace Go.Proofs.YtmbhnbladmpnoaaGreat.Ab
open Go
theorem leN4 (a b c d : UInt8) : leN 0 [a,b,c,d] = a.toNat + 256 * (b.toNat + 256 * (c.toNat + 256 * d.toNat)):=by
  simp only [leN,Nat.zero_add,Nat.mul_zero,Nat.pow_zero,Nat.mul_one,Nat.reduceAdd,Nat.reduceMul,Nat.reducePow,Nat.add_zero]
  omega
theorem Zgg {l : List UInt8} (h : l.length = 4) : ∃ a b c d,l = [a,b,c,d]:=by
  match l,h with
  | [a,b,c,d],_=>exact ⟨a,b,c,d,rfl⟩
theorem Zdg {n : Nat} (h : n < 4294967296) : leN 0 (fixB n) = n:=by
  unfold fixB
  rw [leN4]
  rw [BW (by omega),BW (by omega),BW (by omega),BW (by omega)]
  omega
theorem Zdh {l : List UInt8} (h : l.length = 4) : fixB (leN 0 l) = l:=by
  obtain ⟨a,b,c,d,rfl⟩:=Zgg h
  have h1:=a.toNat_lt; have h2:=b.toNat_lt; have h3:=c.toNat_lt; have h4:=d.toNat_lt
  rw [leN4]
  unfold fixB
  have e : ∀ (x : UInt8) (n : Nat),n = x.toNat→UInt8.ofNat n = x:=fun x n h=>by rw [h]; simp
  rw [e a _ (by omega),e b _ (by omega),e c _ (by omega),e d _ (by omega)]
theorem Ze {n : Nat} (h : n < 16384) : (enc n).length ≤ 2:=by
  have:=Za1 (a:=n) (b:=16383) (by omega)
  have e : (enc 16383).length = 2:=by decide +kernel
  omega
theorem TY (l : List UInt8) : (BS l).length = 1 + (enc l.length).length + l.length:=by simp [BS]; omega
theorem KY (l : List UInt8) : (B8 l).length = (BS l).length + 4:=by simp [B8,KX]
theorem Zf (l : List UInt8) : (B8 l).take ((B8 l).length - 4) = BS l:=by
  rw [KY,Nat.add_sub_cancel]
  unfold B8
  exact List.take_left
theorem Zg (l : List UInt8) : (B8 l).drop ((B8 l).length - 4) = fixB (sumV (BS l)):=by
  rw [KY,Nat.add_sub_cancel]
  unfold B8
  exact List.drop_left
theorem Zh (l rest : List UInt8) (h : l.length ≤ 4096) : Au ((BS l ++ rest).drop 1) = (l.length,(enc l.length).length,0):=by
  have : (BS l ++ rest).drop 1 = enc l.length ++ (l ++ rest):=by simp [BS]
  rw [this]
  exact JZ (by omega) _
theorem Xx (l : List UInt8) (h : l.length ≤ 4096) : Au ((BS l).drop 1) = (l.length,(enc l.length).length,0):=by
  have:=Zh l [] h
  rwa [List.append_nil] at this
theorem Zi {l : List UInt8} (h : l.length ≤ 4096) : B4 (B8 l) = (l,0):=by
  have h1:=TY l
  have h2:=KY l
  have h3:=Ze (n:=l.length) (by omega)
  have h4:=@Y6 l.length
  unfold B4
  rw [if_neg (by omega),if_neg (by omega),Zf,Zg,Zdg (Vk _),if_neg (by simp),Xx l h]
  have h5 : (BS l).getD 0 0 = 83:=rfl
  rw [if_neg (by rw [h5]; simp; omega)]
  simp only [Prod.mk.injEq,and_true]
  unfold BS
  rw [show 1 + (enc l.length).length = (enc l.length).length + 1 by omega,List.drop_succ_cons,List.drop_left]
theorem Zj {b : List UInt8} (h : (B4 b).2 = 0) : B8 (B4 b).1 = b∧(B4 b).1.length ≤ 4096:=by
  unfold B4 at h ⊢
  split at h
  · cases h
  · split at h
    · cases h
    · split at h
      · cases h
      · split at h
        · cases h
        · rename_i c1 c2 c3 c4
          rw [if_neg c1,if_neg c2,if_neg c3,if_neg c4]
          simp only [not_or,ne_eq,Decidable.not_not,Nat.not_lt] at c3 c4
          obtain ⟨d1,d2,d3,d4⟩:=c4
          have hlen : (b.take (b.length - 4)).length = b.length - 4:=by simp
          have htl : (b.drop (b.length - 4)).length = 4:=by simp; omega
          have hcat : b.take (b.length - 4) ++ b.drop (b.length - 4) = b:=List.take_append_drop _ _
          have hf:=Zdh htl
          rw [c3] at hf
          generalize b.take (b.length - 4) = H at *
          have he:=J0 d2
          have hk:=EC _ d2
          generalize Au (H.drop 1) = r at *
          obtain ⟨n,k,e⟩:=r
          simp only at *
          have hm : (H.drop (1 + k)).length = n:=by simp; omega
          refine ⟨?_,by rw [hm]; exact d3⟩
          have hB : BS (H.drop (1 + k)) = H:=by
            unfold BS
            rw [hm,he,show 1 + k = 1 + k from rfl,← List.drop_drop,List.take_append_drop]
            cases H with
            | nil=>simp at hlen hk; omega
            | cons c H =>
              simp at d1
              rw [d1]
              rfl
          unfold B8
          rw [hB,hf,hcat]
end Go.Proofs.YtmbhnbladmpnoaaGreat.Ab

/- Datagrams: what is Bq of the layers below. -/
namespace Go.Proofs.YtmbhnbladmpnoaaGreat.Ab
open Go
def fl1 : List (FuncId × Sum):=[(45,gNum)]
def fl2 : List (FuncId × Sum):=(117,Ch) :: fl1
def fl3 : List (FuncId × Sum):=(130,We tabV) :: fl2
def fl4 : List (FuncId × Sum):=(46,Iq) :: fl3
def fl5 : List (FuncId × Sum):=(116,CP) :: fl4
def fl6 : List (FuncId × Sum):=(47,gSum) :: fl5
def fl7 : List (FuncId × Sum):=(129,Xu) :: fl6
def fl8 : List (FuncId × Sum):=(44,LM) :: fl7
def fl9 : List (FuncId × Sum):=(118,Q1) :: fl8
def fl10 : List (FuncId × Sum):=(17,Vj) :: fl9
def fl11 : List (FuncId × Sum):=(34,TV) :: fl10
theorem Ze0 : Br Tryz.prog (libL fl1):=Ay progOk (To _) Mi (Zc9 rfl)
theorem Ze1 : Br Tryz.prog (libL fl2):=Ay progOk Ze0 Hx (Vc rfl)
theorem Ze2 : Br Tryz.prog (libL fl3):=Ay progOk Ze1 Jj (Y5 Xt fun s=>⟨s,Qu rfl (Y3 s)⟩)
theorem Ze3 : Br Tryz.prog (libL fl4):=Ay progOk Ze2 Jc (TT fun _ s h=>P2 rfl (Y2 h s))
theorem Ze4 : Br Tryz.prog (libL fl5):=Ay progOk Ze3 F0 (IO fun v s l r h _ e=>by cases e; exact ⟨rfl,s,KN rfl (SE h)⟩)
theorem Ze5 : Br Tryz.prog (libL fl6):=Ay progOk Ze4 Mj (IO fun v s l r h hl e=>by cases e; exact ⟨rfl,s,Tt rfl (Zdc (fun s=>(Bq (g:=We tabV) rfl).trans Y4) h hl)⟩)
theorem Ze6 : Br Tryz.prog (libL fl7):=Ay progOk Ze5 DR (Za4 rfl)
theorem Ze7 : Br Tryz.prog (libL fl8):=Ay progOk Ze6 Dg (Xv rfl rfl)
theorem Ze8 : Br Tryz.prog (libL fl9):=Ay progOk Ze7 Dv (Za rfl)
theorem Zdi : Br Tryz.prog (libL fl10):=Ay progOk Ze8 Ks (Za9 rfl rfl rfl rfl rfl)
theorem Zdj : Br Tryz.prog (libL fl11):=Ay progOk Zdi Kv (Zbb rfl rfl rfl rfl rfl)
abbrev flT:=fl11
theorem Zci : Br Tryz.prog (libL flT):=Zdj
end Go.Proofs.YtmbhnbladmpnoaaGreat.Ab

/- What a caller has to know where a message is looked at; what is Bq of the layers below (stage 1: all but Check itself). -/
namespace Go.Proofs.YtmbhnbladmpnoaaGreat.Ab
open Go
def gOf : Sum:=gP (G1O fun o=>rv (o.lo,o.hi))
def gCkO : Sum:=gP (G1O fun o=>.int .i64 (ckO o))
def gWr : Sum:=gP (G1O fun o=>.bool (wrt o.kind))
noncomputable def gEOr : Sum:=gL owC fun l=>.int .i64 (eO l)
def Zdk : Sum:=gP (G1I fun k=>.tuple #[frmV k,.bool (CI k).isSome])
theorem Zgh {o : OpT} {s : St} : gOf [oV o] s = some (rv (o.lo,o.hi),s):=rfl
theorem Zk {o : OpT} {s : St} : gCkO [oV o] s = some (.int .i64 (ckO o),s):=rfl
theorem Zgi {o : OpT} {s : St} : gWr [oV o] s = some (.bool (wrt o.kind),s):=rfl
theorem Zdl {k : Int} {s : St} : Zdk [.int .i64 k] s = some (.tuple #[frmV k,.bool (CI k).isSome],s):=rfl
theorem Zl (k : Int) : FZ (.tuple #[frmV k,.bool (CI k).isSome]) = true:=by
  unfold frmV
  cases CI k <;> rfl
noncomputable abbrev lib0 : List (FuncId × Sum):=flT
theorem Zdm : Br Tryz.prog (libL lib0):=Zci
noncomputable def lib1 : List (FuncId × Sum):=(133,gKey) :: lib0
theorem Zdn : Br Tryz.prog (libL lib1):=Ay progOk Zdm Hz (ZeF fun k s=>⟨rfl,s,Nm rfl (TB k s)⟩)
noncomputable def lib2 : List (FuncId × Sum):=(139,gAll) :: lib1
theorem Zdo : Br Tryz.prog (libL lib2):=Ay progOk Zdn OV (sum0 fun s=>⟨rfl,s,U4 rfl (ZcY s)⟩)
noncomputable def lib3 : List (FuncId × Sum):=(62,gChk) :: lib2
theorem Zdp : Br Tryz.prog (libL lib3):=Ay progOk Zdo KE (ZeG fun r s=>⟨rfl,s,RT rfl (YF (fun s=>(Bq (g:=gAll) rfl).trans ZeI) r s)⟩)
noncomputable def lib4 : List (FuncId × Sum):=(167,YL) :: lib3
theorem Zdq : Br Tryz.prog (libL lib4):=Ay progOk Zdp O4 (sum0 fun s=>⟨rfl,s,U5 rfl (YK s)⟩)
noncomputable def lib5 : List (FuncId × Sum):=(141,gFm) :: lib4
theorem Zdr : Br Tryz.prog (libL lib5):=Ay progOk Zdq Mq (ZeL fun k s=>⟨Xi k,s,TA rfl (Xh (fun s=>(Bq (g:=YL) rfl).trans ZaH) k s)⟩)
noncomputable def lib6 : List (FuncId × Sum):=(166,gOf) :: lib5
theorem Zds : Br Tryz.prog (libL lib6):=Ay progOk Zdr V6 (YJ fun o s=>⟨rfl,s,ZaB rfl (ZeN o s)⟩)
noncomputable def lib7 : List (FuncId × Sum):=(138,gCkO) :: lib6
theorem Zdt : Br Tryz.prog (libL lib7):=Ay progOk Zds KQ (YJ fun o s=>⟨rfl,s,Sh rfl (U8 (fun k s=>(Bq (g:=gFm) rfl).trans ZeM) (fun o s=>(Bq (g:=gOf) rfl).trans Zgh) (fun r s=>(Bq (g:=gChk) rfl).trans YG) (fun k s=>(Bq (g:=gKey) rfl).trans TD) o s)⟩)
noncomputable def lib8 : List (FuncId × Sum):=(66,gWr) :: lib7
theorem Zdu : Br Tryz.prog (libL lib8):=Ay progOk Zdt Mk (YJ fun o s=>⟨rfl,s,Tu rfl (Xj (fun k s=>(Bq (g:=gFm) rfl).trans ZeM) o s)⟩)
noncomputable def lib9 : List (FuncId × Sum):=(131,Va) :: lib8
theorem Zdv : Br Tryz.prog (libL lib9):=Ay progOk Zdu Tz (QV (fun _=>rfl) fun v s l h hl=>⟨s,YA rfl (ZaJ (fun o s=>(Bq (g:=gCkO) rfl).trans Zk) h hl)⟩)
noncomputable def Ze9 : List (FuncId × Sum):=(51,Zc4) :: lib9
theorem Zbc : Br Tryz.prog (libL Ze9):=Ay progOk Zdv Oz (QV (fun _=>rfl) fun v s l h hl=>⟨s,UY rfl (Zc5 (fun xs s=>Bq (g:=Va) rfl) h hl)⟩)
noncomputable def Zfa : List (FuncId × Sum):=(60,gEOr) :: Ze9
theorem Zbd : Br Tryz.prog (libL Zfa):=Ay progOk Zbc Je (QV (fun _=>rfl) fun v s l h hl=>⟨s,P5 rfl (O9 (fun k s=>(Bq (g:=gKey) rfl).trans TD) h hl)⟩)
noncomputable def Zfb : List (FuncId × Sum):=(19,Zdk) :: Zfa
theorem Zbe : Br Tryz.prog (libL Zfb):=Ay progOk Zbd Ja (ZeL fun k s=>let ⟨t,h⟩:=Pl k s; ⟨Zl k,t,PV rfl h⟩)
noncomputable def Zfc : List (FuncId × Sum):=(114,gKey) :: Zfb
theorem Zbf : Br Tryz.prog (libL Zfc):=Ay progOk Zbe GH (ZeF fun k s=>⟨rfl,s,Lz rfl (O7 k s)⟩)
noncomputable def Zfd : List (FuncId × Sum):=(32,gChk) :: Zfc
theorem Zbg : Br Tryz.prog (libL Zfd):=Ay progOk Zbf Jb (ZeG fun r s=>⟨rfl,s,P1 rfl (TC r s)⟩)
noncomputable def Zfe : List (FuncId × Sum):=(115,gCkO) :: Zfd
theorem Zbh : Br Tryz.prog (libL Zfe):=Ay progOk Zbg Hw (YJ fun o s=>⟨rfl,s,Ng rfl (Qv (fun r s=>(Bq (g:=gChk) rfl).trans YG) (fun k s=>(Bq (g:=gKey) rfl).trans TD) o s)⟩)
noncomputable def Zff : List (FuncId × Sum):=(33,gWr) :: Zfe
theorem Zbi : Br Tryz.prog (libL Zff):=Ay progOk Zbh Ot (YJ fun o s=>⟨rfl,s,Or rfl (Sw o s)⟩)
noncomputable def Zfg : List (FuncId × Sum):=(29,Va) :: Zff
theorem Zbj : Br Tryz.prog (libL Zfg):=Ay progOk Zbi Mh (QV (fun _=>rfl) fun v s l h hl=>⟨s,Tq rfl (Xk (fun o s=>(Bq (g:=gCkO) rfl).trans Zk) h hl)⟩)
noncomputable def Zfh : List (FuncId × Sum):=(27,Zc4) :: Zfg
theorem Zbk : Br Tryz.prog (libL Zfh):=Ay progOk Zbj PX (QV (fun _=>rfl) fun v s l h hl=>⟨s,PW rfl (Xl (fun xs s=>Bq (g:=Va) rfl) h hl)⟩)
noncomputable def Zfi : List (FuncId × Sum):=(30,gEOr) :: Zfh
theorem Zbl : Br Tryz.prog (libL Zfi):=Ay progOk Zbk P0 (QV (fun _=>rfl) fun v s l h hl=>⟨s,PZ rfl (Pb (fun k s=>(Bq (g:=gKey) rfl).trans TD) h hl)⟩)
noncomputable def Zfj : List (FuncId × Sum):=(103,gNum) :: Zfi
theorem Zbm : Br Tryz.prog (libL Zfj):=Ay progOk Zbl Mn (Xq rfl)
noncomputable def Zfk : List (FuncId × Sum):=(120,Ch) :: Zfj
theorem Zbn : Br Tryz.prog (libL Zfk):=Ay progOk Zbm Hy (Qx rfl rfl)
noncomputable def Zfl : List (FuncId × Sum):=(150,ED) :: Zfk
theorem Zbo : Br Tryz.prog (libL Zfl):=Ay progOk Zbn GJ (Qy rfl rfl)
noncomputable def Zfm : List (FuncId × Sum):=(149,TN) :: Zfl
theorem Zbp : Br Tryz.prog (libL Zfm):=Ay progOk Zbo KS (Xr rfl rfl)
noncomputable def Zfn : List (FuncId × Sum):=(161,TN) :: Zfm
theorem Zbq : Br Tryz.prog (libL Zfn):=Ay progOk Zbp Ss (SC rfl rfl)
noncomputable def Zfo : List (FuncId × Sum):=(162,ED) :: Zfn
theorem Zbr : Br Tryz.prog (libL Zfo):=Ay progOk Zbq LI (LL rfl rfl)
noncomputable abbrev libS:=Zfo
theorem Zm : Br Tryz.prog (libL libS):=Zbr
structure WrH (R : Aa) : Prop where
  key : ∀ k s,R 133 [sv k] s = some (.int .i64 (eK k),s)
  chk : ∀ r s,R 62 [rv r] s = some (.int .i64 (eR r),s)
  ckO : ∀ o s,R 138 [oV o] s = some (.int .i64 (ckO o),s)
  wr : ∀ o s,R 66 [oV o] s = some (.bool (wrt o.kind),s)
  chkE : ∀ {v s l},Bj opC v s = some l→l.length < 140737488355328→R 51 [v] s = some (.int .i64 (chkE l),s)
  chkW : ∀ {v s l},Bj owC v s = some l→l.length < 140737488355328→R 60 [v] s = some (.int .i64 (eO l),s)
  form : ∀ k s,R 19 [.int .i64 k] s = some (.tuple #[frmV k,.bool (CI k).isSome],s)
  wire_client : ∀ {x0 : Value} {s : St} {r : Value × St},Ab.wire_client R x0 s = some r→R 48 [x0] s = some r
  wire_coord : ∀ {x0 : Value} {s : St} {r : Value × St},Ab.wire_coord R x0 s = some r→R 49 [x0] s = some r
  wire_shard : ∀ {x0 : Value} {s : St} {r : Value × St},Ab.wire_shard R x0 s = some r→R 54 [x0] s = some r
  wire_whatever : ∀ {x0 : Value} {s : St} {r : Value × St},Ab.wire_whatever R x0 s = some r→R 58 [x0] s = some r
  wire_formOf_1 : ∀ {x0 : Value} {s : St} {r : Value × St},Ab.wire_formOf_1 R x0 s = some r→R 50 [x0] s = some r
  wire_formOf_2 : ∀ {x0 : Value} {s : St} {r : Value × St},Ab.wire_formOf_2 R x0 s = some r→R 52 [x0] s = some r
  wire_formOf_3 : ∀ {x0 : Value} {s : St} {r : Value × St},Ab.wire_formOf_3 R x0 s = some r→R 55 [x0] s = some r
  wire_formOf_4 : ∀ {x0 : Value} {s : St} {r : Value × St},Ab.wire_formOf_4 R x0 s = some r→R 57 [x0] s = some r
  wire_formOf_5 : ∀ {x0 : Value} {s : St} {r : Value × St},Ab.wire_formOf_5 R x0 s = some r→R 59 [x0] s = some r
  wire_formOf_6 : ∀ {x0 : Value} {s : St} {r : Value × St},Ab.wire_formOf_6 R x0 s = some r→R 61 [x0] s = some r
  wire_formOf_7 : ∀ {x0 : Value} {s : St} {r : Value × St},Ab.wire_formOf_7 R x0 s = some r→R 63 [x0] s = some r
  wire_formOf_7_1 : ∀ {x0 : Value} {s : St} {r : Value × St},Ab.wire_formOf_7_1 R x0 s = some r→R 65 [x0] s = some r
  wire_formOf_8 : ∀ {x0 : Value} {s : St} {r : Value × St},Ab.wire_formOf_8 R x0 s = some r→R 67 [x0] s = some r
  wire_results : ∀ {x0 x1 : Value} {s : St} {r : Value × St},Ab.wire_results R x0 x1 s = some r→R 53 [x0,x1] s = some r
  wire_results_1 : ∀ {x0 : Value} {s : St} {r : Value × St},Ab.wire_results_1 R x0 s = some r→R 132 [x0] s = some r
  wire_results_2 : ∀ {x0 x1 : Value} {s : St} {r : Value × St},Ab.wire_results_2 R x0 x1 s = some r→R 135 [x0,x1] s = some r
  wire_ops : ∀ {x0 x1 : Value} {s : St} {r : Value × St},Ab.wire_ops R x0 x1 s = some r→R 56 [x0,x1] s = some r
  wire_ops_1 : ∀ {x0 : Value} {s : St} {r : Value × St},Ab.wire_ops_1 R x0 s = some r→R 137 [x0] s = some r
  slices_ContainsFunc_api_Op_api_Op : ∀ {x0 x1 : Value} {s : St} {r : Value × St},Ab.slices_ContainsFunc_api_Op_api_Op R x0 x1 s = some r→R 64 [x0,x1] s = some r
  slices_IndexFunc_api_Op_api_Op : ∀ {x0 x1 : Value} {s : St} {r : Value × St},Ab.slices_IndexFunc_api_Op_api_Op R x0 x1 s = some r→R 140 [x0,x1] s = some r
  slices_ContainsFunc_api_Result_api_Result : ∀ {x0 x1 : Value} {s : St} {r : Value × St},Ab.slices_ContainsFunc_api_Result_api_Result R x0 x1 s = some r→R 134 [x0,x1] s = some r
  slices_IndexFunc_api_Result_api_Result : ∀ {x0 x1 : Value} {s : St} {r : Value × St},Ab.slices_IndexFunc_api_Result_api_Result R x0 x1 s = some r→R 164 [x0,x1] s = some r
  slices_ContainsFunc_api_Pair_api_Pair : ∀ {x0 x1 : Value} {s : St} {r : Value × St},Ab.slices_ContainsFunc_api_Pair_api_Pair R x0 x1 s = some r→R 136 [x0,x1] s = some r
  slices_IndexFunc_api_Pair_api_Pair : ∀ {x0 x1 : Value} {s : St} {r : Value × St},Ab.slices_IndexFunc_api_Pair_api_Pair R x0 x1 s = some r→R 165 [x0,x1] s = some r
  wire_num : ∀ {x0 : Value} {s : St} {r : Value × St},Ab.wire_num R x0 s = some r→R 68 [x0] s = some r
  wire_small : ∀ {x0 : Value} {s : St} {r : Value × St},Ab.wire_small R x0 s = some r→R 78 [x0] s = some r
  wire_list_api_Op : ∀ {x0 x1 x2 : Value} {s : St} {r : Value × St},Ab.wire_list_api_Op R x0 x1 x2 s = some r→R 91 [x0,x1,x2] s = some r
  wire_list_api_Result : ∀ {x0 x1 x2 : Value} {s : St} {r : Value × St},Ab.wire_list_api_Result R x0 x1 x2 s = some r→R 95 [x0,x1,x2] s = some r
  wire_list_api_Owner : ∀ {x0 x1 x2 : Value} {s : St} {r : Value × St},Ab.wire_list_api_Owner R x0 x1 x2 s = some r→R 99 [x0,x1,x2] s = some r
  wire_all : ∀ {s : St} {r : Value × St},Ab.wire_all R  s = some r→R 20 [] s = some r
  wire_all_1 : ∀ {x0 : Value} {s : St} {r : Value × St},Ab.wire_all_1 R x0 s = some r→R 69 [x0] s = some r
  wire_all_2 : ∀ {x0 : Value} {s : St} {r : Value × St},Ab.wire_all_2 R x0 s = some r→R 70 [x0] s = some r
  wire_all_3 : ∀ {x0 : Value} {s : St} {r : Value × St},Ab.wire_all_3 R x0 s = some r→R 71 [x0] s = some r
  wire_all_4 : ∀ {x0 : Value} {s : St} {r : Value × St},Ab.wire_all_4 R x0 s = some r→R 72 [x0] s = some r
  wire_all_5 : ∀ {x0 : Value} {s : St} {r : Value × St},Ab.wire_all_5 R x0 s = some r→R 73 [x0] s = some r
  wire_all_6 : ∀ {x0 : Value} {s : St} {r : Value × St},Ab.wire_all_6 R x0 s = some r→R 74 [x0] s = some r
  wire_all_7 : ∀ {x0 : Value} {s : St} {r : Value × St},Ab.wire_all_7 R x0 s = some r→R 75 [x0] s = some r
  wire_all_8 : ∀ {x0 : Value} {s : St} {r : Value × St},Ab.wire_all_8 R x0 s = some r→R 76 [x0] s = some r
  wire_all_9 : ∀ {x0 : Value} {s : St} {r : Value × St},Ab.wire_all_9 R x0 s = some r→R 77 [x0] s = some r
  wire_all_10 : ∀ {x0 : Value} {s : St} {r : Value × St},Ab.wire_all_10 R x0 s = some r→R 79 [x0] s = some r
  wire_all_11 : ∀ {x0 : Value} {s : St} {r : Value × St},Ab.wire_all_11 R x0 s = some r→R 80 [x0] s = some r
  wire_all_14 : ∀ {x0 : Value} {s : St} {r : Value × St},Ab.wire_all_14 R x0 s = some r→R 85 [x0] s = some r
  wire_all_17 : ∀ {x0 : Value} {s : St} {r : Value × St},Ab.wire_all_17 R x0 s = some r→R 90 [x0] s = some r
  wire_all_18 : ∀ {x0 : Value} {s : St} {r : Value × St},Ab.wire_all_18 R x0 s = some r→R 92 [x0] s = some r
  wire_all_19 : ∀ {x0 : Value} {s : St} {r : Value × St},Ab.wire_all_19 R x0 s = some r→R 96 [x0] s = some r
  wire_all_20 : ∀ {x0 : Value} {s : St} {r : Value × St},Ab.wire_all_20 R x0 s = some r→R 100 [x0] s = some r
  wire_num_3 : ∀ {x0 x1 : Value} {s : St} {r : Value × St},Ab.wire_num_3 R x0 x1 s = some r→R 145 [x0,x1] s = some r
  wire_small_3 : ∀ {x0 x1 : Value} {s : St} {r : Value × St},Ab.wire_small_3 R x0 x1 s = some r→R 148 [x0,x1] s = some r
  wire_list_api_Op_3 : ∀ {x0 x1 : Value} {s : St} {r : Value × St},Ab.wire_list_api_Op_3 R x0 x1 s = some r→R 154 [x0,x1] s = some r
  wire_list_api_Result_3 : ∀ {x0 x1 : Value} {s : St} {r : Value × St},Ab.wire_list_api_Result_3 R x0 x1 s = some r→R 157 [x0,x1] s = some r
  wire_list_api_Owner_3 : ∀ {x0 x1 : Value} {s : St} {r : Value × St},Ab.wire_list_api_Owner_3 R x0 x1 s = some r→R 160 [x0,x1] s = some r
  slices_Contains_rune_rune : ∀ {x0 x1 : Value} {s : St} {r : Value × St},Ab.slices_Contains_rune_rune R x0 x1 s = some r→R 23 [x0,x1] s = some r
  slices_Index_rune_rune : ∀ {x0 x1 : Value} {s : St} {r : Value × St},Ab.slices_Index_rune_rune R x0 x1 s = some r→R 111 [x0,x1] s = some r
def TZ : List FuncId:=[48,49,54,58,50,52,55,57,59,61,63,65,67,53,132,135,56,137,64,140,134,164,136,165,68,78,91,95,99,20,69,70,71,72,73,74,75,76,77,79,80,85,90,92,96,100,145,148,154,157,160,23,111]
theorem Zcj {L : List (FuncId × Sum)} (hn : ∀ f ∈ TZ,libL L f = none) (h1 : libL L 133 = some gKey) (h2 : libL L 62 = some gChk) (h3 : libL L 138 = some gCkO) (h4 : libL L 66 = some gWr) (h5 : libL L 51 = some Zc4) (h6 : libL L 60 = some gEOr) (h7 : libL L 19 = some Zdk) :
    WrH (run Tryz.prog (libL L) Ad) :=
  ⟨fun k s=>(Bq h1).trans TD,fun r s=>(Bq h2).trans YG,fun o s=>(Bq h3).trans Zk,fun o s=>(Bq h4).trans Zgi,fun h hl=>(Bq h5).trans (Zc3 h hl),fun h hl=>(Bq h6).trans (Zc3 h hl),fun k s=>(Bq h7).trans Zdl,
    fun h=>P3 (hn _ (by decide)) h,
    fun h=>RN (hn _ (by decide)) h,
    fun h=>RR (hn _ (by decide)) h,
    fun h=>MS (hn _ (by decide)) h,
    fun h=>MK (hn _ (by decide)) h,
    fun h=>MM (hn _ (by decide)) h,
    fun h=>MO (hn _ (by decide)) h,
    fun h=>MQ (hn _ (by decide)) h,
    fun h=>MU (hn _ (by decide)) h,
    fun h=>MX (hn _ (by decide)) h,
    fun h=>MZ (hn _ (by decide)) h,
    fun h=>KG (hn _ (by decide)) h,
    fun h=>M1 (hn _ (by decide)) h,
    fun h=>OA (hn _ (by decide)) h,
    fun h=>LA (hn _ (by decide)) h,
    fun h=>LC (hn _ (by decide)) h,
    fun h=>UZ (hn _ (by decide)) h,
    fun h=>Sf (hn _ (by decide)) h,
    fun h=>Dr (hn _ (by decide)) h,
    fun h=>D2 (hn _ (by decide)) h,
    fun h=>Cx (hn _ (by decide)) h,
    fun h=>CR (hn _ (by decide)) h,
    fun h=>CZ (hn _ (by decide)) h,
    fun h=>Dk (hn _ (by decide)) h,
    fun h=>U1 (hn _ (by decide)) h,
    fun h=>Sd (hn _ (by decide)) h,
    fun h=>JP (hn _ (by decide)) h,
    fun h=>Hb (hn _ (by decide)) h,
    fun h=>HF (hn _ (by decide)) h,
    fun h=>UW (hn _ (by decide)) h,
    fun h=>RV (hn _ (by decide)) h,
    fun h=>RX (hn _ (by decide)) h,
    fun h=>RZ (hn _ (by decide)) h,
    fun h=>R1 (hn _ (by decide)) h,
    fun h=>R3 (hn _ (by decide)) h,
    fun h=>R5 (hn _ (by decide)) h,
    fun h=>R7 (hn _ (by decide)) h,
    fun h=>R9 (hn _ (by decide)) h,
    fun h=>Sb (hn _ (by decide)) h,
    fun h=>P7 (hn _ (by decide)) h,
    fun h=>P9 (hn _ (by decide)) h,
    fun h=>Qf (hn _ (by decide)) h,
    fun h=>Ql (hn _ (by decide)) h,
    fun h=>Qn (hn _ (by decide)) h,
    fun h=>Qp (hn _ (by decide)) h,
    fun h=>Qr (hn _ (by decide)) h,
    fun h=>Sn (hn _ (by decide)) h,
    fun h=>O1 (hn _ (by decide)) h,
    fun h=>Ik (hn _ (by decide)) h,
    fun h=>Gj (hn _ (by decide)) h,
    fun h=>GO (hn _ (by decide)) h,
    fun h=>EX (hn _ (by decide)) h,
    fun h=>Gb (hn _ (by decide)) h⟩
theorem Zck : ∀ f ∈ TZ,libL libS f = none:=by
  intro f hf
  simp only [TZ,List.mem_cons,List.not_mem_nil,or_false] at hf
  rcases hf with rfl | rfl | rfl | rfl | rfl | rfl | rfl | rfl | rfl | rfl | rfl | rfl | rfl | rfl | rfl | rfl | rfl | rfl | rfl | rfl | rfl | rfl | rfl | rfl | rfl | rfl | rfl | rfl | rfl | rfl | rfl | rfl | rfl | rfl | rfl | rfl | rfl | rfl | rfl | rfl | rfl | rfl | rfl | rfl | rfl | rfl | rfl | rfl | rfl | rfl | rfl | rfl | rfl <;> rfl
theorem Zgj : WrH (run Tryz.prog (libL libS) Ad):=Zcj Zck rfl rfl rfl rfl rfl rfl rfl
end Go.Proofs.YtmbhnbladmpnoaaGreat.Ab

/- Which message may be: nodes,results,operations; what each kind asks. -/
namespace Go.Proofs.YtmbhnbladmpnoaaGreat.Ab
open Go
theorem Cq {R : Aa} {f : FuncId} (h : Aq Tryz.prog f = true) {fs cs xs : List Value} {s : St} : Ag Tryz.prog R (.func (.func f) fs.toArray cs.toArray) xs s = R f (fs ++ xs ++ cs) s:=by
  simp [Ag,h]
theorem Zdw {s t : St} {b : Nat} {B : Blk} (h : s.heap[b]? = some B) (hx : Ext s.heap.length s t) : t.heap[b]? = some B:=by
  rw [hx.2 b (List.getElem?_eq_some_iff.1 h).1]
  exact h
theorem Vl {cs : List Value} (h : cs.all AI = true) : lbox (.agg cs.toArray) = some (.agg cs.toArray):=by
  have hc : Ao (.agg cs.toArray) = cs:=by simp [Ao]
  unfold lbox
  rw [hc,if_pos h]
theorem Dw (b : Bool) (s : St) : retV [.bool b] s = some (.bool b,s):=ret1 rfl
theorem Zn {k : BL} {s : St} : AG .string (sv k) s = some (.int .i64 ((k.length : Nat) : Int)):=rfl
theorem Wi {o : OpT} {t : St} {u : Value} {cs : List Value} (h : (NCod.ofC opC fun _=>True).rel o t cs) (g : Nq true u cs) : u = oV o:=by
  obtain ⟨rfl,_⟩:=h
  exact g
theorem Zfp {r : Rs} {s : St} {cs : List Value} (h : rsN.rel r s cs) : ∃ l,cs = [.bool r.1,sv r.2.1,l]∧By (.ofC prC fun _=>True) 32 r.2.2 s l∧r.2.1.length ≤ reachBytes:=by
  obtain ⟨_,_,rfl,⟨rfl,_⟩,_,_,rfl,⟨rfl,w1⟩,_,_,rfl,⟨l,rfl,hl⟩,rfl⟩:=h
  exact ⟨l,rfl,hl,w1⟩
theorem DI {α : Type} {C : NCod α} {B : Nat} (hB : 2 ≤ B) {l : List α} {s : St} {v : Value} (h : By C B l s v) : l.length < 140737488355328:=by
  have h1 : l.length * B ≤ 140737488351232:=h.1
  have:=Nat.mul_le_mul_left l.length hB
  omega
def LN (f : Nat) (n : Int) : Bool:=if f = 48 then decide (n > 10) && decide (n ≤ 14) else if f = 49 then n == 0 else decide (n ≥ 1) && decide (n ≤ 4)
def My : List Nat:=[48,49,54]
variable {R : Aa} (H : WrH R)
include H
theorem Pp (n : Int) (s : St) : R 54 [.int .i64 n] s = some (.bool (decide (n ≥ 1) && decide (n ≤ 4)),s):=by
  refine H.wire_shard ?_
  unfold wire_shard
  rcases Bool.eq_false_or_eq_true (decide (n ≥ 1)) with c | c <;> simp only [EVs,c,Bool.true_and,Bool.false_and,Dw]
theorem Wj {f : Nat} (hf : f ∈ My) (n : Int) (s : St) : Ag Tryz.prog R (fnV f) [.int .i64 n] s = some (.bool (LN f n),s):=by
  simp only [My,List.mem_cons,List.not_mem_nil,or_false] at hf
  rcases hf with rfl | rfl | rfl
  · rw [MJ]
    refine H.wire_client ?_
    have e : LN 48 n = (decide (n > 10) && decide (n ≤ 14)):=rfl
    rw [e]
    unfold wire_client
    rcases Bool.eq_false_or_eq_true (decide (n > 10)) with c | c <;> simp only [EVs,c,Bool.true_and,Bool.false_and,Dw]
  · rw [Oy]
    refine H.wire_coord ?_
    have e : LN 49 n = (n == 0):=rfl
    rw [e]
    unfold wire_coord
    simp only [EVs,Dw]
  · rw [Fv]
    exact Pp H n s
omit H
def Zo (p : Rg) : Bool:=(eK p.1 != 0) || decide ((p.2.length : Int) > 16)
def Zp (r : Rs) : Bool:=(decide ((r.2.1.length : Int) > 16) || decide ((r.2.2.length : Int) > 4)) || r.2.2.any Zo
def QB (l : List Rs) (most : Int) : Bool:=decide ((l.length : Int) ≤ most) && !(l.any Zp)
def Pq (l : List OpT) (most : Int) : Bool:=decide ((l.length : Int) ≤ most) && !(l.any fun o=>ckO o != 0)
include H
theorem Xy {s0 : St} {l : List Rg} : Asks R (.ofC prC fun _=>True) true s0 l (fnV 132) Zo:=by
  intro p _ t u cs _ hr hs
  obtain ⟨rfl,_⟩:=hr
  have hs : u = rv p:=hs
  subst hs
  refine ⟨t,?_,.refl _ _⟩
  rw [JV]
  refine H.wire_results_1 ?_
  have hb : lbox (rv p) = some (rv p):=rfl
  have l0 : Ap false 1 lptr (rv p) = some (sv p.1):=rfl
  have l1 : Ap false 1 (.pointer (some ⟨0,1,none⟩)) (rv p) = some (sv p.2):=rfl
  unfold wire_results_1 Zo
  simp only [hb,l0,l1,Cf,H.key,Zn,EVs]
  exact ret1 rfl
theorem Vm {s : St} {v fv : Value} {l : List Rg} {p : Rg→Bool} (h : By (.ofC prC fun _=>True) 32 l s v) (hp : Asks R (.ofC prC fun _=>True) true s l fv p) : ∃ t,R 136 [v,fv] s = some (.bool (l.any p),t)∧Ext s.heap.length s t:=by
  obtain ⟨k,t,h1,h2,h3⟩:=Io (t1:=89) (n:=2) rfl (.inl rfl) h (DI (by decide) h) hp
  refine ⟨t,H.slices_ContainsFunc_api_Pair_api_Pair ?_,h3⟩
  have h4:=H.slices_IndexFunc_api_Pair_api_Pair h1
  unfold slices_ContainsFunc_api_Pair_api_Pair
  simp only [C7,h4,h2,EVs]
  exact ret1 rfl
theorem Vn {s : St} {v fv : Value} {l : List Rs} {p : Rs→Bool} (h : By rsN 48 l s v) (hp : Asks R rsN true s l fv p) : ∃ t,R 134 [v,fv] s = some (.bool (l.any p),t)∧Ext s.heap.length s t:=by
  obtain ⟨k,t,h1,h2,h3⟩:=Io (t1:=87) (n:=3) rfl (.inl rfl) h (DI (by decide) h) hp
  refine ⟨t,H.slices_ContainsFunc_api_Result_api_Result ?_,h3⟩
  have h4:=H.slices_IndexFunc_api_Result_api_Result h1
  unfold slices_ContainsFunc_api_Result_api_Result
  simp only [CH,h4,h2,EVs]
  exact ret1 rfl
theorem Ps {s : St} {v fv : Value} {l : List OpT} {p : OpT→Bool} (h : By (.ofC opC fun _=>True) 80 l s v) (hp : Asks R (.ofC opC fun _=>True) true s l fv p) : ∃ t,R 64 [v,fv] s = some (.bool (l.any p),t)∧Ext s.heap.length s t:=by
  obtain ⟨k,t,h1,h2,h3⟩:=Io (t1:=69) (n:=6) rfl (.inl rfl) h (DI (by decide) h) hp
  refine ⟨t,H.slices_ContainsFunc_api_Op_api_Op ?_,h3⟩
  have h4:=H.slices_IndexFunc_api_Op_api_Op h1
  unfold slices_ContainsFunc_api_Op_api_Op
  simp only [DG,h4,h2,EVs]
  exact ret1 rfl
theorem XA {s0 : St} {A : Nat} (hA : s0.heap[A]? = some (.row 0 [fnV 132] .act)) {l : List Rs} : Asks R rsN true s0 l (.func (.func 135) #[] #[.pointer (some ⟨A,0,none⟩)]) Zp:=by
  intro r _ t u cs hx hr hs
  have hs : u = .agg cs.toArray:=hs
  subst hs
  obtain ⟨o,rfl,ho,_⟩:=Zfp hr
  have hb:=Vl (cs:=[.bool r.1,sv r.2.1,o]) (by simp only [List.all_cons,Ek ho,List.all_nil]; rfl)
  have l1 : Ap false 1 (.pointer (some ⟨0,1,none⟩)) (.agg [.bool r.1,sv r.2.1,o].toArray) = some (sv r.2.1):=rfl
  have l2 : Ap false 1 (.pointer (some ⟨0,2,none⟩)) (.agg [.bool r.1,sv r.2.1,o].toArray) = some o:=rfl
  have fA : Aj false 1 (.pointer (some ⟨A,0,none⟩)) t = some (fnV 132):=Sz (Zdw hA hx) (by simp) rfl
  obtain ⟨t2,g1,g2⟩:=Vm H ho (Xy H (s0:=t) (l:=r.2.2))
  have hcall : Ag Tryz.prog R (.func (.func 135) #[] #[.pointer (some ⟨A,0,none⟩)]) [.agg [.bool r.1,sv r.2.1,o].toArray] t = R 135 [.agg [.bool r.1,sv r.2.1,o].toArray,.pointer (some ⟨A,0,none⟩)] t:=Cq (fs:=[]) (cs:=[.pointer (some ⟨A,0,none⟩)]) LD
  rw [hcall]
  have len:=A9 ho
  unfold Zp
  rcases Bool.eq_false_or_eq_true (decide ((r.2.1.length : Int) > 16) || decide ((r.2.2.length : Int) > 4)) with c | c
  · refine ⟨t,H.wire_results_2 ?_,.refl _ _⟩
    unfold wire_results_2
    simp only [hb,l1,l2,Zn,len,EVs,c,Dw,Bool.true_or]
  · refine ⟨t2,H.wire_results_2 ?_,g2⟩
    unfold wire_results_2
    simp only [hb,l1,l2,Zn,len,EVs,c,fA,CL,g1,Dw,Bool.false_or]
theorem Pu {s : St} {v : Value} {l : List Rs} (h : By rsN 48 l s v) (most : Int) : ∃ t,R 53 [v,.int .i64 most] s = some (.bool (QB l most),t)∧Ext s.heap.length s t:=by
  have hnw : anew [.nilFunc] s = some (.pointer (some ⟨s.heap.length,0,none⟩),s.push (.row 0 [.nilFunc] .act)):=rfl
  have hst : A4 1 (.pointer (some ⟨s.heap.length,0,none⟩)) (fnV 132) (s.push (.row 0 [.nilFunc] .act)) = some (s.push (.row 0 [fnV 132] .act)):=by
    have h1:=Dm (s:=s.push (.row 0 [.nilFunc] .act)) (B:=s.heap.length) (v:=fnV 132) AC (i:=0) (by simp) rfl rfl
    rw [h1]
    simp [St.push,St.putB]
  have hx : Ext s.heap.length s (s.push (.row 0 [fnV 132] .act)):=.push _ (Nat.le_refl _) _
  have hmk : BF 135 [] [.pointer (some ⟨s.heap.length,0,none⟩)] = some (.func (.func 135) #[] #[.pointer (some ⟨s.heap.length,0,none⟩)]):=rfl
  have len:=A9 h
  obtain ⟨t,g1,g2⟩:=Vn H (h.ext hx) (XA H (s0:=s.push (.row 0 [fnV 132] .act)) (A:=s.heap.length) AC)
  unfold QB
  rcases Bool.eq_false_or_eq_true (decide ((l.length : Int) ≤ most)) with c | c
  · refine ⟨t,H.wire_results ?_,hx.trans (g2.less hx.1)⟩
    unfold wire_results
    simp only [hnw,hst,len,hmk,Co,g1,EVs,c,Bool.true_and,Dw]
  · refine ⟨_,H.wire_results ?_,hx⟩
    unfold wire_results
    simp only [hnw,hst,len,hmk,EVs,c,Bool.false_and,Dw]
theorem Zbs {s0 : St} {l : List OpT} : Asks R (.ofC opC fun _=>True) true s0 l (fnV 137) fun o=>ckO o != 0:=by
  intro o _ t u cs _ hr hs
  obtain rfl:=Wi hr hs
  refine ⟨t,?_,.refl _ _⟩
  rw [OU]
  refine H.wire_ops_1 ?_
  have hb : lbox (oV o) = some (oV o):=rfl
  have hl : Ap true 6 lptr (oV o) = some (oV o):=rfl
  unfold wire_ops_1
  simp only [hb,hl,If,H.ckO,EVs]
  exact ret1 rfl
theorem Zdx {s0 : St} {l : List OpT} : Asks R (.ofC opC fun _=>True) true s0 l (fnV 65) fun o=>!wrt o.kind:=by
  intro o _ t u cs _ hr hs
  obtain rfl:=Wi hr hs
  refine ⟨t,?_,.refl _ _⟩
  rw [IV]
  refine H.wire_formOf_7_1 ?_
  have hb : lbox (oV o) = some (oV o):=rfl
  have hl : Ap true 6 lptr (oV o) = some (oV o):=rfl
  unfold wire_formOf_7_1
  simp only [hb,hl,P6,H.wr,EVs]
  exact ret1 rfl
theorem Zq {s : St} {v : Value} {l : List OpT} (h : By (.ofC opC fun _=>True) 80 l s v) (most : Int) : ∃ t,R 56 [v,.int .i64 most] s = some (.bool (Pq l most),t)∧Ext s.heap.length s t:=by
  have len:=A9 h
  obtain ⟨t,g1,g2⟩:=Ps H h (Zbs H)
  unfold Pq
  rcases Bool.eq_false_or_eq_true (decide ((l.length : Int) ≤ most)) with c | c
  · refine ⟨t,H.wire_ops ?_,g2⟩
    unfold wire_ops
    simp only [len,BU,g1,EVs,c,Bool.true_and,Dw]
  · refine ⟨s,H.wire_ops ?_,.refl _ _⟩
    unfold wire_ops
    simp only [len,EVs,c,Bool.false_and,Dw]
end Go.Proofs.YtmbhnbladmpnoaaGreat.Ab

/- Which message may be: what each kind asks of its fields. -/
namespace Go.Proofs.YtmbhnbladmpnoaaGreat.Ab
open Go
def Wk : List Nat:=[50,52,55,57,59,61,63,67,58]
def T4 (n : Int) : Bool:=decide (n ≥ 1) && decide (n ≤ 4)
def KZ (f : Nat) (m : Ms) : Bool :=
  if f = 50 then chkE m.ops == 0
  else if f = 52 then (m.code == 1 || m.code == 2) && QB m.res 4
  else if f = 55 then decide ((m.ops.length : Int) > 0) && Pq m.ops 24
  else if f = 57 then (decide (m.code ≥ 3) && decide (m.code ≤ 5)) && QB m.res 24
  else if f = 59 then eO m.own == 0
  else if f = 61 then T4 m.peer && eR m.rg == 0
  else if f = 63 then ((m.src != m.dst && Pq m.ops 6) && eR m.rg == 0) && !(m.ops.any fun o=>!wrt o.kind)
  else if f = 67 then m.src != m.dst
  else true
structure MsV (m : Ms) (s : St) (vo vr vw : Value) : Prop where
  wf : MsWf m
  o : By (.ofC opC fun _=>True) 80 m.ops s vo
  r : By rsN 48 m.res s vr
  w : By (.ofC owC fun _=>True) 24 m.own s vw
theorem MsV.ext {m : Ms} {s t : St} {vo vr vw : Value} (h : MsV m s vo vr vw) (hx : Ext s.heap.length s t) : MsV m t vo vr vw:=⟨h.wf,h.o.ext hx,h.r.ext hx,h.w.ext hx⟩
theorem MsV.leaf {m : Ms} {s : St} {vo vr vw : Value} (h : MsV m s vo vr vw) : (msC m vo vr vw).all AI = true:=by
  have h1:=Ek h.o
  have h2:=Ek h.r
  have h3:=Ek h.w
  simp only [msC,List.all_cons,h1,h2,h3,List.all_nil]
  rfl
abbrev mV (m : Ms) (vo vr vw : Value) : Value:=.agg (msC m vo vr vw).toArray
section
variable (m : Ms) (vo vr vw : Value)
theorem Zr : Ap false 1 (.pointer (some ⟨0,1,none⟩)) (mV m vo vr vw) = some (.int .i64 m.src):=rfl
theorem Zs : Ap false 1 (.pointer (some ⟨0,2,none⟩)) (mV m vo vr vw) = some (.int .i64 m.dst):=rfl
theorem Wl : Ap false 1 (.pointer (some ⟨0,4,none⟩)) (mV m vo vr vw) = some (.int .i64 m.code):=rfl
theorem Zcl : Ap false 1 (.pointer (some ⟨0,5,none⟩)) (mV m vo vr vw) = some (.int .i64 m.peer):=rfl
theorem l_rg : Ap true 2 (.pointer (some ⟨0,16,none⟩)) (mV m vo vr vw) = some (rv m.rg):=rfl
theorem Vo : Ap false 1 (.pointer (some ⟨0,18,none⟩)) (mV m vo vr vw) = some vo:=rfl
theorem Zbt : Ap false 1 (.pointer (some ⟨0,19,none⟩)) (mV m vo vr vw) = some vr:=rfl
theorem Zgk : Ap false 1 (.pointer (some ⟨0,20,none⟩)) (mV m vo vr vw) = some vw:=rfl
end
variable {R : Aa} (H : WrH R)
include H
theorem Zbu {f : Nat} (hf : f ∈ Wk) {m : Ms} {s : St} {vo vr vw : Value} (h : MsV m s vo vr vw) : ∃ t,Ag Tryz.prog R (fnV f) [mV m vo vr vw] s = some (.bool (KZ f m),t)∧Ext s.heap.length s t:=by
  have hb:=Vl h.leaf
  have ho:=(h.o.plain).1
  have hw:=(h.w.plain).1
  have so:=DI (by decide) h.o
  have sw:=DI (by decide) h.w
  have len:=A9 h.o
  simp only [Wk,List.mem_cons,List.not_mem_nil,or_false] at hf
  rcases hf with rfl | rfl | rfl | rfl | rfl | rfl | rfl | rfl | rfl
  · rw [Kx,show KZ 50 m = (chkE m.ops == 0) from rfl]
    refine ⟨s,H.wire_formOf_1 ?_,.refl _ _⟩
    unfold wire_formOf_1
    simp only [hb,Vo,RQ,H.chkE ho so,EVs,Dw]
  · rw [Ky,show KZ 52 m = ((m.code == 1 || m.code == 2) && QB m.res 4) from rfl]
    obtain ⟨t,g1,g2⟩:=Pu H h.r 4
    rcases Bool.eq_false_or_eq_true (m.code == 1 || m.code == 2) with c | c
    · refine ⟨t,H.wire_formOf_2 ?_,g2⟩
      unfold wire_formOf_2
      simp only [hb,Wl,Zbt,GE,g1,EVs,c,Bool.true_and,Dw]
    · refine ⟨s,H.wire_formOf_2 ?_,.refl _ _⟩
      unfold wire_formOf_2
      simp only [hb,Wl,Zbt,EVs,c,Bool.false_and,Dw]
  · rw [Kz,show KZ 55 m = (decide ((m.ops.length : Int) > 0) && Pq m.ops 24) from rfl]
    obtain ⟨t,g1,g2⟩:=Zq H h.o 24
    rcases Bool.eq_false_or_eq_true (decide ((m.ops.length : Int) > 0)) with c | c
    · refine ⟨t,H.wire_formOf_3 ?_,g2⟩
      unfold wire_formOf_3
      simp only [hb,Vo,len,EZ,g1,EVs,c,Bool.true_and,Dw]
    · refine ⟨s,H.wire_formOf_3 ?_,.refl _ _⟩
      unfold wire_formOf_3
      simp only [hb,Vo,len,EVs,c,Bool.false_and,Dw]
  · rw [KA,show KZ 57 m = ((decide (m.code ≥ 3) && decide (m.code ≤ 5)) && QB m.res 24) from rfl]
    obtain ⟨t,g1,g2⟩:=Pu H h.r 24
    rcases Bool.eq_false_or_eq_true (decide (m.code ≥ 3) && decide (m.code ≤ 5)) with c | c
    · refine ⟨t,H.wire_formOf_4 ?_,g2⟩
      unfold wire_formOf_4
      simp only [hb,Wl,Zbt,GE,g1,EVs,c,Bool.true_and,Dw]
    · refine ⟨s,H.wire_formOf_4 ?_,.refl _ _⟩
      unfold wire_formOf_4
      simp only [hb,Wl,Zbt,EVs,c,Bool.false_and,Dw]
  · rw [KC,show KZ 59 m = (eO m.own == 0) from rfl]
    refine ⟨s,H.wire_formOf_5 ?_,.refl _ _⟩
    unfold wire_formOf_5
    simp only [hb,Zgk,MW,H.chkW hw sw,EVs,Dw]
  · rw [KD,show KZ 61 m = (T4 m.peer && eR m.rg == 0) from rfl]
    refine ⟨s,H.wire_formOf_6 ?_,.refl _ _⟩
    unfold wire_formOf_6 T4
    rcases Bool.eq_false_or_eq_true (decide (m.peer ≥ 1) && decide (m.peer ≤ 4)) with c | c
    · simp only [hb,Zcl,l_rg,Fv,Pp H,C6,H.chk,c,EVs,Bool.true_and,Dw]
    · simp only [hb,Zcl,l_rg,Fv,Pp H,c,EVs,Bool.false_and,Dw]
  · rw [KF,show KZ 63 m = (((m.src != m.dst && Pq m.ops 6) && eR m.rg == 0) && !(m.ops.any fun o=>!wrt o.kind)) from rfl]
    obtain ⟨t,g1,g2⟩:=Zq H h.o 6
    obtain ⟨t2,k1,k2⟩:=Ps H (h.o.ext g2) (Zdx H)
    rcases Bool.eq_false_or_eq_true (m.src != m.dst) with c | c
    · rcases Bool.eq_false_or_eq_true (Pq m.ops 6) with c2 | c2
      · rcases Bool.eq_false_or_eq_true (eR m.rg == 0) with c3 | c3
        · refine ⟨t2,H.wire_formOf_7 ?_,g2.trans (k2.less g2.1)⟩
          unfold wire_formOf_7
          simp only [hb,Zr,Zs,Vo,l_rg,EZ,g1,C6,H.chk,BU,k1,EVs,c,c2,c3,Bool.true_and,Bool.and_self,Dw]
        · refine ⟨t,H.wire_formOf_7 ?_,g2⟩
          unfold wire_formOf_7
          simp only [hb,Zr,Zs,Vo,l_rg,EZ,g1,C6,H.chk,EVs,c,c2,c3,Bool.true_and,Bool.and_false,Bool.false_and,Dw]
      · refine ⟨t,H.wire_formOf_7 ?_,g2⟩
        unfold wire_formOf_7
        simp only [hb,Zr,Zs,Vo,l_rg,EZ,g1,EVs,c,c2,Bool.and_false,Bool.false_and,Dw]
    · refine ⟨s,H.wire_formOf_7 ?_,.refl _ _⟩
      unfold wire_formOf_7
      simp only [hb,Zr,Zs,Vo,l_rg,EVs,c,Bool.false_and,Dw]
  · rw [KI,show KZ 67 m = (m.src != m.dst) from rfl]
    refine ⟨s,H.wire_formOf_8 ?_,.refl _ _⟩
    unfold wire_formOf_8
    simp only [hb,Zr,Zs,EVs,Dw]
  · rw [KB,show KZ 58 m = true from rfl]
    refine ⟨s,H.wire_whatever ?_,.refl _ _⟩
    unfold wire_whatever
    simp only [hb,EVs,Dw]
end Go.Proofs.YtmbhnbladmpnoaaGreat.Ab

/- All fields of messages,by their letters: the map. -/
namespace Go.Proofs.YtmbhnbladmpnoaaGreat.Ab
open Go
set_option maxRecDepth 10000
def numV (p : Value) : Value:=.agg #[.func (.func 142) #[] #[p],.func (.func 143) #[] #[p],.func (.func 145) #[] #[p]]
def smlV (p : Value) : Value:=.agg #[.func (.func 146) #[] #[p],.func (.func 147) #[] #[p],.func (.func 148) #[] #[p]]
def lstV (a b c : Nat) (p q r : Value) : Value:=.agg #[.func (.func a) #[] #[p,q],.func (.func b) #[] #[p,r],.func (.func c) #[] #[p]]
def flgV : Value:=.agg #[fnV 81,fnV 83,fnV 85]
def rngV : Value:=.agg #[fnV 86,fnV 88,fnV 90]
abbrev ptA (N i : Nat) : Value:=.pointer (some ⟨N + 1 + i,0,none⟩)
def rowF (f : Nat) : Blk:=.row 0 [fnV f] .act
def Am : List Blk:=[rowF 69,rowF 70,rowF 71,rowF 72,rowF 73,rowF 74,rowF 75,rowF 76,rowF 77,rowF 79,rowF 80,rowF 92,rowF 93,rowF 94,rowF 96,rowF 97,rowF 98,rowF 100,rowF 101,rowF 102]
def AK (N : Nat) : List (Value × Value × Nat):=[(.int .i32 113,numV (ptA N 0),0),
  (.int .i32 98,numV (ptA N 1),1),
  (.int .i32 116,numV (ptA N 2),2),
  (.int .i32 108,numV (ptA N 3),3),
  (.int .i32 118,numV (ptA N 4),4),
  (.int .i32 101,numV (ptA N 5),5),
  (.int .i32 109,numV (ptA N 6),6),
  (.int .i32 97,numV (ptA N 7),7),
  (.int .i32 110,numV (ptA N 8),8),
  (.int .i32 99,smlV (ptA N 9),9),
  (.int .i32 112,smlV (ptA N 10),10),
  (.int .i32 102,flgV,11),
  (.int .i32 114,rngV,12),
  (.int .i32 111,lstV 151 152 154 (ptA N 11) (ptA N 12) (ptA N 13),13),
  (.int .i32 115,lstV 155 156 157 (ptA N 14) (ptA N 15) (ptA N 16),14),
  (.int .i32 119,lstV 158 159 160 (ptA N 17) (ptA N 18) (ptA N 19),15)]
theorem FF {H : List Blk} {m : Blk} {K : List Blk} {v : Value} (h1 : AI v = true) (h2 : Ao v = [v]) : anew (Ao v) ⟨H ++ (m :: K)⟩ = some (ptA H.length K.length,⟨H ++ (m :: (K ++ [.row 0 [v] .act]))⟩):=by
  rw [h2]
  unfold anew
  rw [if_pos (by simp [h1])]
  have e : H.length + (K.length + 1) = H.length + 1 + K.length:=by omega
  simp [St.push,e]
section
variable {R : Aa} {H : List Blk} {m : Blk} {K : List Blk}
theorem Hj (f : Nat) : wire_num R (fnV f) ⟨H ++ (m :: K)⟩ = some (numV (ptA H.length K.length),⟨H ++ (m :: (K ++ [rowF f]))⟩):=by
  have h1:=FF (H:=H) (m:=m) (K:=K) (v:=fnV f) rfl rfl
  have h2 : AV Tryz.prog 58 [(0,.func (.func 142) #[] #[ptA H.length K.length]),(1,.func (.func 143) #[] #[ptA H.length K.length]),(2,.func (.func 145) #[] #[ptA H.length K.length])] = some (numV (ptA H.length K.length)):=by kernel_rfl
  have h3 : ∀ g,BF g [] [ptA H.length K.length] = some (.func (.func g) #[] #[ptA H.length K.length]):=fun g=>rfl
  have h4 : AO 3 lptr (numV (ptA H.length K.length)) (.agg #[.nilFunc,.nilFunc,.nilFunc]) = some (numV (ptA H.length K.length)):=rfl
  have h5 : Ap true 3 lptr (numV (ptA H.length K.length)) = some (numV (ptA H.length K.length)):=rfl
  unfold wire_num
  simp only [h1,h2,h3,h4,h5,EVs]
  rfl
theorem T7 (f : Nat) : wire_small R (fnV f) ⟨H ++ (m :: K)⟩ = some (smlV (ptA H.length K.length),⟨H ++ (m :: (K ++ [rowF f]))⟩):=by
  have h1:=FF (H:=H) (m:=m) (K:=K) (v:=fnV f) rfl rfl
  have h2 : AV Tryz.prog 58 [(0,.func (.func 146) #[] #[ptA H.length K.length]),(1,.func (.func 147) #[] #[ptA H.length K.length]),(2,.func (.func 148) #[] #[ptA H.length K.length])] = some (smlV (ptA H.length K.length)):=by kernel_rfl
  have h3 : ∀ g,BF g [] [ptA H.length K.length] = some (.func (.func g) #[] #[ptA H.length K.length]):=fun g=>rfl
  have h4 : AO 3 lptr (smlV (ptA H.length K.length)) (.agg #[.nilFunc,.nilFunc,.nilFunc]) = some (smlV (ptA H.length K.length)):=rfl
  have h5 : Ap true 3 lptr (smlV (ptA H.length K.length)) = some (smlV (ptA H.length K.length)):=rfl
  unfold wire_small
  simp only [h1,h2,h3,h4,h5,EVs]
  rfl
theorem XB (f g h : Nat) : wire_list_api_Op R (fnV f) (fnV g) (fnV h) ⟨H ++ (m :: K)⟩ = some (lstV 151 152 154 (ptA H.length K.length) (ptA H.length (K.length + 1)) (ptA H.length (K.length + 2)),⟨H ++ (m :: (K ++ [rowF f,rowF g,rowF h]))⟩):=by
  have h1:=FF (H:=H) (m:=m) (K:=K) (v:=fnV f) rfl rfl
  have h2:=FF (H:=H) (m:=m) (K:=K ++ [rowF f]) (v:=fnV g) rfl rfl
  have h3:=FF (H:=H) (m:=m) (K:=K ++ [rowF f,rowF g]) (v:=fnV h) rfl rfl
  have e1 : (K ++ [rowF f]).length = K.length + 1:=by simp
  have e2 : (K ++ [rowF f,rowF g]).length = K.length + 2:=by simp
  have e3 : K ++ [rowF f] ++ [Blk.row 0 [fnV g] .act] = K ++ [rowF f,rowF g]:=by simp [rowF]
  have e4 : K ++ [rowF f,rowF g] ++ [Blk.row 0 [fnV h] .act] = K ++ [rowF f,rowF g,rowF h]:=by simp [rowF]
  have e0 : K ++ [Blk.row 0 [fnV f] .act] = K ++ [rowF f]:=rfl
  rw [e0] at h1
  rw [e1,e3] at h2
  rw [e2,e4] at h3
  have h6 : ∀ p q r : Nat,AV Tryz.prog 58 [(0,.func (.func 151) #[] #[ptA H.length p,ptA H.length q]),(1,.func (.func 152) #[] #[ptA H.length p,ptA H.length r]),(2,.func (.func 154) #[] #[ptA H.length p])] = some (lstV 151 152 154 (ptA H.length p) (ptA H.length q) (ptA H.length r)):=fun p q r=>by kernel_rfl
  have h7 : ∀ g p,BF g [] [ptA H.length p] = some (.func (.func g) #[] #[ptA H.length p]):=fun g p=>rfl
  have h8 : ∀ g p q,BF g [] [ptA H.length p,ptA H.length q] = some (.func (.func g) #[] #[ptA H.length p,ptA H.length q]):=fun g p q=>rfl
  have h4 : ∀ p q r : Nat,AO 3 lptr (lstV 151 152 154 (ptA H.length p) (ptA H.length q) (ptA H.length r)) (.agg #[.nilFunc,.nilFunc,.nilFunc]) = some (lstV 151 152 154 (ptA H.length p) (ptA H.length q) (ptA H.length r)):=fun p q r=>rfl
  have h5 : ∀ p q r : Nat,Ap true 3 lptr (lstV 151 152 154 (ptA H.length p) (ptA H.length q) (ptA H.length r)) = some (lstV 151 152 154 (ptA H.length p) (ptA H.length q) (ptA H.length r)):=fun p q r=>rfl
  unfold wire_list_api_Op
  simp only [h1,h2,h3,h4,h5,h6,h7,h8,EVs]
  rfl
theorem QC (f g h : Nat) : wire_list_api_Result R (fnV f) (fnV g) (fnV h) ⟨H ++ (m :: K)⟩ = some (lstV 155 156 157 (ptA H.length K.length) (ptA H.length (K.length + 1)) (ptA H.length (K.length + 2)),⟨H ++ (m :: (K ++ [rowF f,rowF g,rowF h]))⟩):=by
  have h1:=FF (H:=H) (m:=m) (K:=K) (v:=fnV f) rfl rfl
  have h2:=FF (H:=H) (m:=m) (K:=K ++ [rowF f]) (v:=fnV g) rfl rfl
  have h3:=FF (H:=H) (m:=m) (K:=K ++ [rowF f,rowF g]) (v:=fnV h) rfl rfl
  have e1 : (K ++ [rowF f]).length = K.length + 1:=by simp
  have e2 : (K ++ [rowF f,rowF g]).length = K.length + 2:=by simp
  have e3 : K ++ [rowF f] ++ [Blk.row 0 [fnV g] .act] = K ++ [rowF f,rowF g]:=by simp [rowF]
  have e4 : K ++ [rowF f,rowF g] ++ [Blk.row 0 [fnV h] .act] = K ++ [rowF f,rowF g,rowF h]:=by simp [rowF]
  have e0 : K ++ [Blk.row 0 [fnV f] .act] = K ++ [rowF f]:=rfl
  rw [e0] at h1
  rw [e1,e3] at h2
  rw [e2,e4] at h3
  have h6 : ∀ p q r : Nat,AV Tryz.prog 58 [(0,.func (.func 155) #[] #[ptA H.length p,ptA H.length q]),(1,.func (.func 156) #[] #[ptA H.length p,ptA H.length r]),(2,.func (.func 157) #[] #[ptA H.length p])] = some (lstV 155 156 157 (ptA H.length p) (ptA H.length q) (ptA H.length r)):=fun p q r=>by kernel_rfl
  have h7 : ∀ g p,BF g [] [ptA H.length p] = some (.func (.func g) #[] #[ptA H.length p]):=fun g p=>rfl
  have h8 : ∀ g p q,BF g [] [ptA H.length p,ptA H.length q] = some (.func (.func g) #[] #[ptA H.length p,ptA H.length q]):=fun g p q=>rfl
  have h4 : ∀ p q r : Nat,AO 3 lptr (lstV 155 156 157 (ptA H.length p) (ptA H.length q) (ptA H.length r)) (.agg #[.nilFunc,.nilFunc,.nilFunc]) = some (lstV 155 156 157 (ptA H.length p) (ptA H.length q) (ptA H.length r)):=fun p q r=>rfl
  have h5 : ∀ p q r : Nat,Ap true 3 lptr (lstV 155 156 157 (ptA H.length p) (ptA H.length q) (ptA H.length r)) = some (lstV 155 156 157 (ptA H.length p) (ptA H.length q) (ptA H.length r)):=fun p q r=>rfl
  unfold wire_list_api_Result
  simp only [h1,h2,h3,h4,h5,h6,h7,h8,EVs]
  rfl
theorem SH (f g h : Nat) : wire_list_api_Owner R (fnV f) (fnV g) (fnV h) ⟨H ++ (m :: K)⟩ = some (lstV 158 159 160 (ptA H.length K.length) (ptA H.length (K.length + 1)) (ptA H.length (K.length + 2)),⟨H ++ (m :: (K ++ [rowF f,rowF g,rowF h]))⟩):=by
  have h1:=FF (H:=H) (m:=m) (K:=K) (v:=fnV f) rfl rfl
  have h2:=FF (H:=H) (m:=m) (K:=K ++ [rowF f]) (v:=fnV g) rfl rfl
  have h3:=FF (H:=H) (m:=m) (K:=K ++ [rowF f,rowF g]) (v:=fnV h) rfl rfl
  have e1 : (K ++ [rowF f]).length = K.length + 1:=by simp
  have e2 : (K ++ [rowF f,rowF g]).length = K.length + 2:=by simp
  have e3 : K ++ [rowF f] ++ [Blk.row 0 [fnV g] .act] = K ++ [rowF f,rowF g]:=by simp [rowF]
  have e4 : K ++ [rowF f,rowF g] ++ [Blk.row 0 [fnV h] .act] = K ++ [rowF f,rowF g,rowF h]:=by simp [rowF]
  have e0 : K ++ [Blk.row 0 [fnV f] .act] = K ++ [rowF f]:=rfl
  rw [e0] at h1
  rw [e1,e3] at h2
  rw [e2,e4] at h3
  have h6 : ∀ p q r : Nat,AV Tryz.prog 58 [(0,.func (.func 158) #[] #[ptA H.length p,ptA H.length q]),(1,.func (.func 159) #[] #[ptA H.length p,ptA H.length r]),(2,.func (.func 160) #[] #[ptA H.length p])] = some (lstV 158 159 160 (ptA H.length p) (ptA H.length q) (ptA H.length r)):=fun p q r=>by kernel_rfl
  have h7 : ∀ g p,BF g [] [ptA H.length p] = some (.func (.func g) #[] #[ptA H.length p]):=fun g p=>rfl
  have h8 : ∀ g p q,BF g [] [ptA H.length p,ptA H.length q] = some (.func (.func g) #[] #[ptA H.length p,ptA H.length q]):=fun g p q=>rfl
  have h4 : ∀ p q r : Nat,AO 3 lptr (lstV 158 159 160 (ptA H.length p) (ptA H.length q) (ptA H.length r)) (.agg #[.nilFunc,.nilFunc,.nilFunc]) = some (lstV 158 159 160 (ptA H.length p) (ptA H.length q) (ptA H.length r)):=fun p q r=>rfl
  have h5 : ∀ p q r : Nat,Ap true 3 lptr (lstV 158 159 160 (ptA H.length p) (ptA H.length q) (ptA H.length r)) = some (lstV 158 159 160 (ptA H.length p) (ptA H.length q) (ptA H.length r)):=fun p q r=>rfl
  unfold wire_list_api_Owner
  simp only [h1,h2,h3,h4,h5,h6,h7,h8,EVs]
  rfl
end
theorem Ir {R : Aa} (Q : WrH R) (H : List Blk) : wire_all R ⟨H⟩ = some (.map (some H.length),⟨H ++ (.map (AK H.length) 16 :: Am)⟩):=by
  have m0 : GW none ⟨H⟩ = some (.map (some H.length),⟨H ++ (.map ((AK H.length).take 0) 0 :: Am.take 0)⟩):=rfl
  have n0 : R 68 [fnV 69] ⟨H ++ (.map ((AK H.length).take 0) 0 :: Am.take 0)⟩ = some (numV (ptA H.length 0),⟨H ++ (.map ((AK H.length).take 0) 0 :: Am.take 1)⟩):=Q.wire_num (Hj (H:=H) (K:=Am.take 0) 69)
  have n1 : R 68 [fnV 70] ⟨H ++ (.map ((AK H.length).take 1) 1 :: Am.take 1)⟩ = some (numV (ptA H.length 1),⟨H ++ (.map ((AK H.length).take 1) 1 :: Am.take 2)⟩):=Q.wire_num (Hj (H:=H) (K:=Am.take 1) 70)
  have n2 : R 68 [fnV 71] ⟨H ++ (.map ((AK H.length).take 2) 2 :: Am.take 2)⟩ = some (numV (ptA H.length 2),⟨H ++ (.map ((AK H.length).take 2) 2 :: Am.take 3)⟩):=Q.wire_num (Hj (H:=H) (K:=Am.take 2) 71)
  have n3 : R 68 [fnV 72] ⟨H ++ (.map ((AK H.length).take 3) 3 :: Am.take 3)⟩ = some (numV (ptA H.length 3),⟨H ++ (.map ((AK H.length).take 3) 3 :: Am.take 4)⟩):=Q.wire_num (Hj (H:=H) (K:=Am.take 3) 72)
  have n4 : R 68 [fnV 73] ⟨H ++ (.map ((AK H.length).take 4) 4 :: Am.take 4)⟩ = some (numV (ptA H.length 4),⟨H ++ (.map ((AK H.length).take 4) 4 :: Am.take 5)⟩):=Q.wire_num (Hj (H:=H) (K:=Am.take 4) 73)
  have n5 : R 68 [fnV 74] ⟨H ++ (.map ((AK H.length).take 5) 5 :: Am.take 5)⟩ = some (numV (ptA H.length 5),⟨H ++ (.map ((AK H.length).take 5) 5 :: Am.take 6)⟩):=Q.wire_num (Hj (H:=H) (K:=Am.take 5) 74)
  have n6 : R 68 [fnV 75] ⟨H ++ (.map ((AK H.length).take 6) 6 :: Am.take 6)⟩ = some (numV (ptA H.length 6),⟨H ++ (.map ((AK H.length).take 6) 6 :: Am.take 7)⟩):=Q.wire_num (Hj (H:=H) (K:=Am.take 6) 75)
  have n7 : R 68 [fnV 76] ⟨H ++ (.map ((AK H.length).take 7) 7 :: Am.take 7)⟩ = some (numV (ptA H.length 7),⟨H ++ (.map ((AK H.length).take 7) 7 :: Am.take 8)⟩):=Q.wire_num (Hj (H:=H) (K:=Am.take 7) 76)
  have n8 : R 68 [fnV 77] ⟨H ++ (.map ((AK H.length).take 8) 8 :: Am.take 8)⟩ = some (numV (ptA H.length 8),⟨H ++ (.map ((AK H.length).take 8) 8 :: Am.take 9)⟩):=Q.wire_num (Hj (H:=H) (K:=Am.take 8) 77)
  have n9 : R 78 [fnV 79] ⟨H ++ (.map ((AK H.length).take 9) 9 :: Am.take 9)⟩ = some (smlV (ptA H.length 9),⟨H ++ (.map ((AK H.length).take 9) 9 :: Am.take 10)⟩):=Q.wire_small (T7 (H:=H) (K:=Am.take 9) 79)
  have n10 : R 78 [fnV 80] ⟨H ++ (.map ((AK H.length).take 10) 10 :: Am.take 10)⟩ = some (smlV (ptA H.length 10),⟨H ++ (.map ((AK H.length).take 10) 10 :: Am.take 11)⟩):=Q.wire_small (T7 (H:=H) (K:=Am.take 10) 80)
  have n11 : AV Tryz.prog 58 [(0,fnV 81),(1,fnV 83),(2,fnV 85)] = some flgV:=by kernel_rfl
  have n12 : AV Tryz.prog 58 [(0,fnV 86),(1,fnV 88),(2,fnV 90)] = some rngV:=by kernel_rfl
  have n13 : R 91 [fnV 92,fnV 93,fnV 94] ⟨H ++ (.map ((AK H.length).take 13) 13 :: Am.take 11)⟩ = some (lstV 151 152 154 (ptA H.length 11) (ptA H.length 12) (ptA H.length 13),⟨H ++ (.map ((AK H.length).take 13) 13 :: Am.take 14)⟩):=Q.wire_list_api_Op (XB (H:=H) (K:=Am.take 11) 92 93 94)
  have n14 : R 95 [fnV 96,fnV 97,fnV 98] ⟨H ++ (.map ((AK H.length).take 14) 14 :: Am.take 14)⟩ = some (lstV 155 156 157 (ptA H.length 14) (ptA H.length 15) (ptA H.length 16),⟨H ++ (.map ((AK H.length).take 14) 14 :: Am.take 17)⟩):=Q.wire_list_api_Result (QC (H:=H) (K:=Am.take 14) 96 97 98)
  have n15 : R 99 [fnV 100,fnV 101,fnV 102] ⟨H ++ (.map ((AK H.length).take 15) 15 :: Am.take 17)⟩ = some (lstV 158 159 160 (ptA H.length 17) (ptA H.length 18) (ptA H.length 19),⟨H ++ (.map ((AK H.length).take 15) 15 :: Am.take 20)⟩):=Q.wire_list_api_Owner (SH (H:=H) (K:=Am.take 17) 100 101 102)
  have u0 : An Tryz.prog 21 (.map (some H.length)) (.int .i32 113) (numV (ptA H.length 0)) ⟨H ++ (.map ((AK H.length).take 0) 0 :: Am.take 1)⟩ = some ⟨H ++ (.map ((AK H.length).take 1) 1 :: Am.take 1)⟩:=Bu rfl rfl (by kernel_rfl) (by kernel_rfl)
  have u1 : An Tryz.prog 21 (.map (some H.length)) (.int .i32 98) (numV (ptA H.length 1)) ⟨H ++ (.map ((AK H.length).take 1) 1 :: Am.take 2)⟩ = some ⟨H ++ (.map ((AK H.length).take 2) 2 :: Am.take 2)⟩:=Bu rfl rfl (by kernel_rfl) (by kernel_rfl)
  have u2 : An Tryz.prog 21 (.map (some H.length)) (.int .i32 116) (numV (ptA H.length 2)) ⟨H ++ (.map ((AK H.length).take 2) 2 :: Am.take 3)⟩ = some ⟨H ++ (.map ((AK H.length).take 3) 3 :: Am.take 3)⟩:=Bu rfl rfl (by kernel_rfl) (by kernel_rfl)
  have u3 : An Tryz.prog 21 (.map (some H.length)) (.int .i32 108) (numV (ptA H.length 3)) ⟨H ++ (.map ((AK H.length).take 3) 3 :: Am.take 4)⟩ = some ⟨H ++ (.map ((AK H.length).take 4) 4 :: Am.take 4)⟩:=Bu rfl rfl (by kernel_rfl) (by kernel_rfl)
  have u4 : An Tryz.prog 21 (.map (some H.length)) (.int .i32 118) (numV (ptA H.length 4)) ⟨H ++ (.map ((AK H.length).take 4) 4 :: Am.take 5)⟩ = some ⟨H ++ (.map ((AK H.length).take 5) 5 :: Am.take 5)⟩:=Bu rfl rfl (by kernel_rfl) (by kernel_rfl)
  have u5 : An Tryz.prog 21 (.map (some H.length)) (.int .i32 101) (numV (ptA H.length 5)) ⟨H ++ (.map ((AK H.length).take 5) 5 :: Am.take 6)⟩ = some ⟨H ++ (.map ((AK H.length).take 6) 6 :: Am.take 6)⟩:=Bu rfl rfl (by kernel_rfl) (by kernel_rfl)
  have u6 : An Tryz.prog 21 (.map (some H.length)) (.int .i32 109) (numV (ptA H.length 6)) ⟨H ++ (.map ((AK H.length).take 6) 6 :: Am.take 7)⟩ = some ⟨H ++ (.map ((AK H.length).take 7) 7 :: Am.take 7)⟩:=Bu rfl rfl (by kernel_rfl) (by kernel_rfl)
  have u7 : An Tryz.prog 21 (.map (some H.length)) (.int .i32 97) (numV (ptA H.length 7)) ⟨H ++ (.map ((AK H.length).take 7) 7 :: Am.take 8)⟩ = some ⟨H ++ (.map ((AK H.length).take 8) 8 :: Am.take 8)⟩:=Bu rfl rfl (by kernel_rfl) (by kernel_rfl)
  have u8 : An Tryz.prog 21 (.map (some H.length)) (.int .i32 110) (numV (ptA H.length 8)) ⟨H ++ (.map ((AK H.length).take 8) 8 :: Am.take 9)⟩ = some ⟨H ++ (.map ((AK H.length).take 9) 9 :: Am.take 9)⟩:=Bu rfl rfl (by kernel_rfl) (by kernel_rfl)
  have u9 : An Tryz.prog 21 (.map (some H.length)) (.int .i32 99) (smlV (ptA H.length 9)) ⟨H ++ (.map ((AK H.length).take 9) 9 :: Am.take 10)⟩ = some ⟨H ++ (.map ((AK H.length).take 10) 10 :: Am.take 10)⟩:=Bu rfl rfl (by kernel_rfl) (by kernel_rfl)
  have u10 : An Tryz.prog 21 (.map (some H.length)) (.int .i32 112) (smlV (ptA H.length 10)) ⟨H ++ (.map ((AK H.length).take 10) 10 :: Am.take 11)⟩ = some ⟨H ++ (.map ((AK H.length).take 11) 11 :: Am.take 11)⟩:=Bu rfl rfl (by kernel_rfl) (by kernel_rfl)
  have u11 : An Tryz.prog 21 (.map (some H.length)) (.int .i32 102) (flgV) ⟨H ++ (.map ((AK H.length).take 11) 11 :: Am.take 11)⟩ = some ⟨H ++ (.map ((AK H.length).take 12) 12 :: Am.take 11)⟩:=Bu rfl rfl (by kernel_rfl) (by kernel_rfl)
  have u12 : An Tryz.prog 21 (.map (some H.length)) (.int .i32 114) (rngV) ⟨H ++ (.map ((AK H.length).take 12) 12 :: Am.take 11)⟩ = some ⟨H ++ (.map ((AK H.length).take 13) 13 :: Am.take 11)⟩:=Bu rfl rfl (by kernel_rfl) (by kernel_rfl)
  have u13 : An Tryz.prog 21 (.map (some H.length)) (.int .i32 111) (lstV 151 152 154 (ptA H.length 11) (ptA H.length 12) (ptA H.length 13)) ⟨H ++ (.map ((AK H.length).take 13) 13 :: Am.take 14)⟩ = some ⟨H ++ (.map ((AK H.length).take 14) 14 :: Am.take 14)⟩:=Bu rfl rfl (by kernel_rfl) (by kernel_rfl)
  have u14 : An Tryz.prog 21 (.map (some H.length)) (.int .i32 115) (lstV 155 156 157 (ptA H.length 14) (ptA H.length 15) (ptA H.length 16)) ⟨H ++ (.map ((AK H.length).take 14) 14 :: Am.take 17)⟩ = some ⟨H ++ (.map ((AK H.length).take 15) 15 :: Am.take 17)⟩:=Bu rfl rfl (by kernel_rfl) (by kernel_rfl)
  have u15 : An Tryz.prog 21 (.map (some H.length)) (.int .i32 119) (lstV 158 159 160 (ptA H.length 17) (ptA H.length 18) (ptA H.length 19)) ⟨H ++ (.map ((AK H.length).take 15) 15 :: Am.take 20)⟩ = some ⟨H ++ (.map ((AK H.length).take 16) 16 :: Am.take 20)⟩:=Bu rfl rfl (by kernel_rfl) (by kernel_rfl)
  unfold wire_all
  rw [m0]
  simp only [Option.bind_some,RU,OM,H8,Ga,GF]
  rw [n0]
  simp only [Option.bind_some]
  rw [u0]
  try simp only [Option.bind_some]
  rw [n1]
  simp only [Option.bind_some]
  rw [u1]
  try simp only [Option.bind_some]
  rw [n2]
  simp only [Option.bind_some]
  rw [u2]
  try simp only [Option.bind_some]
  rw [n3]
  simp only [Option.bind_some]
  rw [u3]
  try simp only [Option.bind_some]
  rw [n4]
  simp only [Option.bind_some]
  rw [u4]
  try simp only [Option.bind_some]
  rw [n5]
  simp only [Option.bind_some]
  rw [u5]
  try simp only [Option.bind_some]
  rw [n6]
  simp only [Option.bind_some]
  rw [u6]
  try simp only [Option.bind_some]
  rw [n7]
  simp only [Option.bind_some]
  rw [u7]
  try simp only [Option.bind_some]
  rw [n8]
  simp only [Option.bind_some]
  rw [u8]
  try simp only [Option.bind_some]
  rw [n9]
  simp only [Option.bind_some]
  rw [u9]
  try simp only [Option.bind_some]
  rw [n10]
  simp only [Option.bind_some]
  rw [u10]
  try simp only [Option.bind_some]
  rw [n11]
  simp only [Option.bind_some]
  rw [u11]
  try simp only [Option.bind_some]
  rw [n12]
  simp only [Option.bind_some]
  rw [u12]
  try simp only [Option.bind_some]
  rw [n13]
  simp only [Option.bind_some]
  rw [u13]
  try simp only [Option.bind_some]
  rw [n14]
  simp only [Option.bind_some]
  rw [u14]
  try simp only [Option.bind_some]
  rw [n15]
  simp only [Option.bind_some]
  rw [u15]
  try simp only [Option.bind_some]
  rfl
end Go.Proofs.YtmbhnbladmpnoaaGreat.Ab

/- Structs: whether two are the same. -/
namespace Go.Proofs.YtmbhnbladmpnoaaGreat.Ab
open Go
def SI (P : Program) (d : Nat) (xs ys : Array Value) : List Field→List Bool→Prop
  | [],[]=>True
  | f :: fs,e :: es=>f.name ≠ "_"∧(∃ p q,AP P (part f.type xs f.offset) = some p∧AP P (part f.type ys f.offset) = some q∧AP P (Op.equalIn d f.type p q) = some e)∧SI P d xs ys fs es
  | _,_=>False
theorem Mz {P : Program} {d : Nat} {xs ys : Array Value} : ∀ {fs : List Field} {es : List Bool},SI P d xs ys fs es →
    AP P (ForIn.forIn fs ((none,()) : Option Bool × Unit) (fun f __s =>
      if f.name ≠ "_" then do
        let __do_lift ← part f.type xs f.offset
        let __do_lift_1 ← part f.type ys f.offset
        let __do_lift ← Op.equalIn d f.type __do_lift __do_lift_1
        if (!__do_lift) = true then Pure.pure (ForInStep.done (some false,()))
        else Pure.pure (ForInStep.yield (none,()))
      else Pure.pure (ForInStep.yield (none,()))) : Sem (Option Bool × Unit)) = some (if es.all id = true then none else some false,())
  | [],[],_=>rfl
  | f :: fs,e :: es,⟨hn,⟨p,q,h1,h2,h3⟩,h⟩=>by
    have ih:=Mz h
    rw [List.forIn_cons,Bd,if_pos hn,Bd,h1,Option.bind_some,Bd,h2,Option.bind_some,Bd,h3,Option.bind_some]
    cases e with
    | false=>rfl
    | true =>
      simp only [Bool.not_true,Bool.false_eq_true,if_false,Ei,Option.bind_some]
      rw [ih]
      rfl
theorem Pv {P : Program} {t : TypeId} {fs : Array Field} {d : Nat} {xs ys : Array Value} (hu : P.underlying t = some (.struct fs)) (hh : P.stoodInHeld t = false) {es : List Bool} (h : SI P d xs ys fs.toList es) : AP P (Op.equalIn (d + 1) t (.agg xs) (.agg ys)) = some (es.all id):=by
  unfold Op.equalIn
  rw [Bd,O5 hu]
  simp only [Option.bind_some]
  rw [Bd,IK]
  simp only [Option.bind_some,hh,Bool.false_eq_true,if_false,Bd]
  have:=Mz h
  obtain ⟨l⟩:=fs
  simp only [List.forIn_toArray] at this ⊢
  rw [this]
  simp only [Option.bind_some]
  cases es.all id <;> rfl
theorem Zdy {P : Program} {t : TypeId} {ox oy : Operand} {xs ys : List Value} {b : Bool} (hx : xs.all AX = true) (hy : ys.all AX = true) (hg : AP P (eqGuard .eql t ox oy (.agg xs.toArray) (.agg ys.toArray)) = some ()) (h : AP P (Op.equal t (.agg xs.toArray) (.agg ys.toArray)) = some b) : abin P .eql t ox oy (.agg xs.toArray) (.agg ys.toArray) = some (.bool b):=by
  unfold abin LU
  simp only
  have hc : (A0 (.agg xs.toArray) && A0 (.agg ys.toArray)) = true:=by simp only [A0,hx,hy,Bool.and_self]
  rw [if_pos hc,Bd,hg]
  simp only [Option.bind_some,binOp,Bd,h,Ei]
theorem Zt {P : Program} {t : TypeId} {ox oy : Operand} {xs ys : List Value} {b : Bool} (hx : xs.all AX = true) (hy : ys.all AX = true) (hg : AP P (eqGuard .neq t ox oy (.agg xs.toArray) (.agg ys.toArray)) = some ()) (h : AP P (Op.equal t (.agg xs.toArray) (.agg ys.toArray)) = some b) : abin P .neq t ox oy (.agg xs.toArray) (.agg ys.toArray) = some (.bool (!b)):=by
  unfold abin LU
  simp only
  have hc : (A0 (.agg xs.toArray) && A0 (.agg ys.toArray)) = true:=by simp only [A0,hx,hy,Bool.and_self]
  rw [if_pos hc,Bd,hg]
  simp only [Option.bind_some,binOp,Bd,h,Ei]
theorem Pw (n : Nat) (x y : BL) : AP Tryz.prog (Op.equalIn (n + 1) 9 (sv x) (sv y)) = some (x == y):=by
  unfold sv
  rw [YB Tryz.underlying9,O6]
theorem Zu {n : Nat} {t : TypeId} {k : IntKind} {x y : Int} (h : Tryz.prog.underlying t = some (.int k)) : AP Tryz.prog (Op.equalIn (n + 1) t (.int k x) (.int k y)) = some (x == y):=by
  unfold Op.equalIn
  rw [Bd,O5 h]
  simp only [Option.bind_some,if_true,Ei]
end Go.Proofs.YtmbhnbladmpnoaaGreat.Ab
