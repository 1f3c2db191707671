/- Texts of this proof, packed: WrRead6, WrDec, FxEncT, WrBack, WrCan, SamePr, WrSame, WrSame2, WrDec2, WrDec3, WrLawK, BArg, BSized. -/
import Derived.Test.YtmbhnbladmpnoaaGreatPk6
import Derived.SizedLaws
import Derived.ChangeSlices
set_option linter.unusedVariables false
set_option linter.unusedSimpArgs false
set_option linter.unusedSectionVars false
/- Messages are read: all fields,by their letters. -/
namespace Go.Proofs.YtmbhnbladmpnoaaGreat.Ab
open Go
set_option maxRecDepth 10000
section
variable {N M : Nat} {t : St} {x : BL × Int} {cells : List Value} (hM : t.heap[M]? = some (.row 0 cells .act)) (hNM : N < M) (hx : Rd N t x)
include hM hNM hx
theorem ZbR {f ix C : Nat} (hf : (f,ix) ∈ D7) (hC : readRow t C = some [fnV f]) (hix : ix < cells.length) : ∃ (n : Nat) (s' : St) (y : BL × Int),Ag Tryz.prog (run Tryz.prog (libL libT) Ad) (.func (.func 143) #[] #[.pointer (some ⟨C,0,none⟩)]) [rp N,mp M] t = some (undef,s')∧Rd N s' y∧s'.heap[M]? = some (.row 0 (cells.set ix (.int .u64 (n : Int))) .act)∧BX N M t s'∧n ≤ 18446744073709551615∧Does GT x n y:=by
  rw [show (Value.func (.func 143) #[] #[.pointer (some ⟨C,0,none⟩)]) = .func (.func 143) ([] : List Value).toArray [.pointer (some ⟨C,0,none⟩)].toArray from rfl,Cq Sm]
  have hMl:=(List.getElem?_eq_some_iff.1 hM).1
  obtain ⟨n,u,c,s1,y,b1,b2,b3,b4,b5,b6⟩:=ER t x hx
  obtain ⟨rfl,hn⟩:=CY b5 b4
  have b1 : (run Tryz.prog (libL libT) Ad) 144 [rp N] t = some (.int .u64 (n : Int),s1):=b1
  have n1:=b3.1
  have hM1 : s1.heap[M]? = some (.row 0 cells .act):=by rw [b3.2 M hMl fun e=>by have:=Option.some.inj e; omega]; exact hM
  have hst:=Dm hM1 hix (v:=.int .u64 (n : Int)) rfl rfl
  have e : Ah (.pointer (some ⟨M,ix,none⟩)) = some (.pointer (some ⟨M,ix,none⟩)):=rfl
  refine ⟨n,s1.putB M (.row 0 (cells.set ix (.int .u64 (n : Int))) .act),y,Sl rfl ?_,b2.put hNM,CX (by omega),(BX.of1 b3).trans EG,hn,b6⟩
  unfold QT
  simp only [B6 hC,DJ I3 hf,Dj,b1,e,hst,ret0,EVs]
theorem XP {f ix C : Nat} (hf : (f,ix) ∈ D7) (hC : readRow t C = some [fnV f]) (hix : ix < cells.length) : ∃ (n : Nat) (s' : St) (y : BL × Int),Ag Tryz.prog (run Tryz.prog (libL libT) Ad) (.func (.func 147) #[] #[.pointer (some ⟨C,0,none⟩)]) [rp N,mp M] t = some (undef,s')∧Rd N s' y∧s'.heap[M]? = some (.row 0 (cells.set ix (.int .i64 (n : Int))) .act)∧BX N M t s'∧n ≤ 255∧Does Hl x n y:=by
  rw [show (Value.func (.func 147) #[] #[.pointer (some ⟨C,0,none⟩)]) = .func (.func 147) ([] : List Value).toArray [.pointer (some ⟨C,0,none⟩)].toArray from rfl,Cq O0]
  have hMl:=(List.getElem?_eq_some_iff.1 hM).1
  obtain ⟨n,u,c,s1,y,b1,b2,b3,b4,b5,b6⟩:=A8 t x hx
  obtain ⟨rfl,hn⟩:=CY b5 b4
  have b1 : (run Tryz.prog (libL libT) Ad) 35 [rp N] t = some (.int .i64 (n : Int),s1):=b1
  have n1:=b3.1
  have hM1 : s1.heap[M]? = some (.row 0 cells .act):=by rw [b3.2 M hMl fun e=>by have:=Option.some.inj e; omega]; exact hM
  have hst:=Dm hM1 hix (v:=.int .i64 (n : Int)) rfl rfl
  have e : Ah (.pointer (some ⟨M,ix,none⟩)) = some (.pointer (some ⟨M,ix,none⟩)):=rfl
  refine ⟨n,s1.putB M (.row 0 (cells.set ix (.int .i64 (n : Int))) .act),y,OZ rfl ?_,b2.put hNM,CX (by omega),(BX.of1 b3).trans EG,hn,b6⟩
  unfold Mt
  simp only [B6 hC,DJ I3 hf,Be,b1,e,hst,ret0,EVs]
theorem Z0 (hix : 15 < cells.length) : ∃ (b : Bool) (s' : St) (y : BL × Int),Ag Tryz.prog (run Tryz.prog (libL libT) Ad) (fnV 83) [rp N,mp M] t = some (undef,s')∧Rd N s' y∧s'.heap[M]? = some (.row 0 (cells.set 15 (.bool b)) .act)∧BX N M t s'∧Does Q6 x b y:=by
  rw [M6]
  have hMl:=(List.getElem?_eq_some_iff.1 hM).1
  obtain ⟨b,u,c,s1,y,b1,b2,b3,b4,b5,b6⟩:=EF t x hx
  obtain rfl:=Ul b5 b4
  have b1 : (run Tryz.prog (libL libT) Ad) 84 [rp N] t = some (.bool b,s1):=b1
  have n1:=b3.1
  have hM1 : s1.heap[M]? = some (.row 0 cells .act):=by rw [b3.2 M hMl fun e=>by have:=Option.some.inj e; omega]; exact hM
  have hst:=Dm hM1 hix (v:=.bool b) rfl rfl
  have h1 : Ah (mp M) = some (mp M):=rfl
  have h2 : Ac 15 (mp M) = some (.pointer (some ⟨M,15,none⟩)):=by simp [Ac]
  refine ⟨b,s1.putB M (.row 0 (cells.set 15 (.bool b)) .act),y,Qd rfl ?_,b2.put hNM,CX (by omega),(BX.of1 b3).trans EG,b6⟩
  unfold OP
  simp only [Ez,b1,h1,h2,hst,ret0,EVs]
theorem XQ (hr : ∀ j ∈ [16,17],∃ t : BL,cells[j]? = some (sv t)∧t.length ≤ 255) : ∃ (a b : BL) (s' : St) (y : BL × Int),Ag Tryz.prog (run Tryz.prog (libL libT) Ad) (fnV 88) [rp N,mp M] t = some (undef,s')∧Rd N s' y∧s'.heap[M]? = some (.row 0 ((cells.set 16 (sv a)).set 17 (sv b)) .act)∧BX N M t s'∧(a.length ≤ 255∧b.length ≤ 255)∧Does (pTx.rep 2) x [a,b] y:=by
  rw [M9]
  have hMl:=(List.getElem?_eq_some_iff.1 hM).1
  have hNl:=hx.lt
  obtain ⟨ns,s5,y5,a1,⟨a2,a9⟩,a3,a4,a6,a8⟩:=It (n:=2) (P:=t.heap.length) (B:=M) (N:=N) (full:=[16,17]) (s:=t.push (.row 1 (Is M [16,17]) .act)) (x:=x) (cells:=cells) rfl (by decide) hNM (by omega) (by omega) hx.push (by rw [Db hMl]; exact hM) AC hr
  match ns,a2 with
  | [a,b],_ =>
    have h1 : Ah (mp M) = some (mp M):=rfl
    have h2 : Ac 16 (mp M) = some (.pointer (some ⟨M,16,none⟩)):=by simp [Ac]
    have h3 : Ac 0 (.pointer (some ⟨M,16,none⟩)) = some (.pointer (some ⟨M,16,none⟩)):=rfl
    have h4 : Ac 1 (.pointer (some ⟨M,16,none⟩)) = some (.pointer (some ⟨M,17,none⟩)):=rfl
    have hsl : As 1 [(.pointer none)] 2 [(0,.pointer (some ⟨M,16,none⟩)),(1,.pointer (some ⟨M,17,none⟩))] t = some (.slice (some ⟨t.heap.length,0,none⟩) 2 2,t.push (.row 1 (Is M [16,17]) .act)):=rfl
    have o1 : ownR t (Value.slice (some ⟨t.heap.length,0,none⟩) 2 2,t.push (.row 1 (Is M [16,17]) .act)) = some (Value.slice (some ⟨t.heap.length,0,none⟩) 2 2,t.push (.row 1 (Is M [16,17]) .act)):=Jm (by rw [AL]; omega)
    have o2 : ownR (t.push (.row 1 (Is M [16,17]) .act)) (undef,s5) = some (undef,s5):=Jm a6.1
    refine ⟨a,b,s5,y5,Qj rfl ?_,a3,a4,CQ.trans a6,⟨a9 a (by simp),a9 b (by simp)⟩,a8⟩
    unfold OR
    simp only [h1,h2,h3,h4,hsl,o1,BD,a1,o2,ret0,EVs]
end
structure MsR (rest : List Int) (m : Ms) (lo M : Nat) (s : St) (vo vr vw : Value) : Prop where
  row : s.heap[M]? = some (.row 0 (msC m vo vr vw) .act)
  wf : MsWf m
  rg1 : m.rg.1.length ≤ 255
  rg2 : m.rg.2.length ≤ 255
  o : BJ oOp 80 lo s.heap.length m.ops s vo
  r : BJ oRs 48 lo s.heap.length m.res s vr
  w : BJ oOw 24 lo s.heap.length m.own s vw
  zo : 111 ∈ rest→vo = .slice none 0 0
  zr : 115 ∈ rest→vr = .slice none 0 0
  zw : 119 ∈ rest→vw = .slice none 0 0
def MsM (rest : List Int) (m : Ms) (lo M : Nat) (s : St) : Prop:=∃ vo vr vw,MsR rest m lo M s vo vr vw
def RAt (A : Nat) (s : St) : Prop:=∀ i f,Am[i]? = some (rowF f)→s.heap[A + 1 + i]? = some (rowF f)
section
variable {rest : List Int} {c : Int} {m : Ms} {lo M N : Nat} {s t : St} {vo vr vw : Value}
theorem Df {α : Type} {O : OCod α} {B : Nat} {l : List α} {v : Value} (h : BJ O B lo s.heap.length l s v) (k : BX N M s t) (hN : N < lo) (hM : M < lo) : BJ O B lo t.heap.length l t v :=
  (h.keep fun b h1 h2=>k.2 b h2 (by omega) (by omega)).mono (Nat.le_refl _) k.1
theorem MsR.step (h : MsR (c :: rest) m lo M s vo vr vw) (k : BX N M s t) (hN : N < lo) (hM : M < lo) {m' : Ms} (hrow : t.heap[M]? = some (.row 0 (msC m' vo vr vw) .act)) (hwf : MsWf m') (hr : m'.rg.1.length ≤ 255∧m'.rg.2.length ≤ 255) (ho : m'.ops = m.ops) (hs : m'.res = m.res) (hw : m'.own = m.own) : MsR rest m' lo M t vo vr vw :=
  ⟨hrow,hwf,hr.1,hr.2,ho ▸ Df h.o k hN hM,hs ▸ Df h.r k hN hM,hw ▸ Df h.w k hN hM,fun e=>h.zo (List.mem_cons_of_mem _ e),fun e=>h.zr (List.mem_cons_of_mem _ e),fun e=>h.zw (List.mem_cons_of_mem _ e)⟩
end
def rTab : List (Int × Par (Ms→Ms)):=[
  (113,GT.map fun n m=>{ m with req:=(n : Int) }),(98,GT.map fun n m=>{ m with boot:=(n : Int) }),(116,GT.map fun n m=>{ m with txn:=(n : Int) }),(108,GT.map fun n m=>{ m with low:=(n : Int) }),(118,GT.map fun n m=>{ m with ver:=(n : Int) }),(101,GT.map fun n m=>{ m with epoch:=(n : Int) }),(109,GT.map fun n m=>{ m with move:=(n : Int) }),(97,GT.map fun n m=>{ m with attempt:=(n : Int) }),(110,GT.map fun n m=>{ m with num:=(n : Int) }),
  (99,Hl.map fun n m=>{ m with code:=(n : Int) }),(112,Hl.map fun n m=>{ m with peer:=(n : Int) }),(102,Q6.map fun b m=>{ m with flag:=b }),(114,(pTx.rep 2).map fun l m=>{ m with rg:=(l.getD 0 [],l.getD 1 []) }),
  (111,(PG pOp).map fun l m=>{ m with ops:=l }),(115,(PG pRs).map fun l m=>{ m with res:=l }),(119,(PG pOw).map fun l m=>{ m with own:=l })]
def ROk (N M A lo : Nat) (e : Value × Value × Nat) (q : Int × Par (Ms→Ms)) : Prop :=
  e.1 = .int .i32 q.1∧∃ x y z,e.2.1 = .agg #[x,y,z]∧∀ rest m s xx,q.1 ∉ rest→RAt A s→Rd N s xx→MsM (q.1 :: rest) m lo M s→lo ≤ s.heap.length→∃ (g : Ms→Ms) (s' : St) (yy : BL × Int),Ag Tryz.prog (run Tryz.prog (libL libT) Ad) y [rp N,mp M] s = some (undef,s')∧Rd N s' yy∧MsM rest (g m) lo M s'∧BX N M s s'∧Does q.2 xx g yy
theorem wf_u {n : Nat} (h : n ≤ 18446744073709551615) : (Lit.int .u64 (n : Int)).wf = true:=by simp [Lit.wf,IntKind.signed,IntKind.bits,IntKind.min,IntKind.max]; omega
theorem wf_i {n : Nat} (h : n ≤ 255) : (Lit.int .i64 (n : Int)).wf = true:=by simp [Lit.wf,IntKind.signed,IntKind.bits,IntKind.min,IntKind.max]; omega
theorem ZfU {A : Nat} {s : St} (h : RAt A s) {i f : Nat} (hi : Am[i]? = some (rowF f)) : readRow s (A + 1 + i) = some [fnV f]:=D6 (h i f hi) (by simp)
theorem ZbS {N M A lo : Nat} (hNM : N < M) (hM : M < lo) (hA : M < A) : All2 (ROk N M A lo) (AK A) rTab:=by
  have num : ∀ {f ix i : Nat} {c : Int} {u : Int→Ms→Ms},(f,ix) ∈ D7→Am[i]? = some (rowF f)→ix < 21→(∀ n m vo vr vw,(msC m vo vr vw).set ix (.int .u64 n) = msC (u n m) vo vr vw)→(∀ n m,MsWf m→(Lit.int .u64 n).wf = true→MsWf (u n m))→(∀ n m,(u n m).rg = m.rg∧(u n m).ops = m.ops∧(u n m).res = m.res∧(u n m).own = m.own) →
      ∀ rest m s xx,c ∉ rest→RAt A s→Rd N s xx→MsM (c :: rest) m lo M s→lo ≤ s.heap.length→∃ (g : Ms→Ms) (s' : St) (yy : BL × Int),Ag Tryz.prog (run Tryz.prog (libL libT) Ad) (.func (.func 143) #[] #[ptA A i]) [rp N,mp M] s = some (undef,s')∧Rd N s' yy∧MsM rest (g m) lo M s'∧BX N M s s'∧Does (GT.map fun n m=>u (n : Int) m) xx g yy:=by
    intro f ix i c u hf hi hix hset hwf hsame rest m s xx _ hra hx ⟨vo,vr,vw,h⟩ hlo
    obtain ⟨n,s',y,b1,b2,b3,b4,b5,b6⟩:=ZbR h.row hNM hx hf (ZfU hra hi) hix
    rw [hset] at b3
    obtain ⟨e1,e2,e3,e4⟩:=hsame (n : Int) m
    exact ⟨fun m=>u (n : Int) m,s',y,b1,b2,⟨vo,vr,vw,h.step b4 (by omega) hM b3 (hwf _ _ h.wf (wf_u b5)) (by rw [e1]; exact ⟨h.rg1,h.rg2⟩) e2 e3 e4⟩,b4,b6.map⟩
  have sml : ∀ {f ix i : Nat} {c : Int} {u : Int→Ms→Ms},(f,ix) ∈ D7→Am[i]? = some (rowF f)→ix < 21→(∀ n m vo vr vw,(msC m vo vr vw).set ix (.int .i64 n) = msC (u n m) vo vr vw)→(∀ n m,MsWf m→(Lit.int .i64 n).wf = true→MsWf (u n m))→(∀ n m,(u n m).rg = m.rg∧(u n m).ops = m.ops∧(u n m).res = m.res∧(u n m).own = m.own) →
      ∀ rest m s xx,c ∉ rest→RAt A s→Rd N s xx→MsM (c :: rest) m lo M s→lo ≤ s.heap.length→∃ (g : Ms→Ms) (s' : St) (yy : BL × Int),Ag Tryz.prog (run Tryz.prog (libL libT) Ad) (.func (.func 147) #[] #[ptA A i]) [rp N,mp M] s = some (undef,s')∧Rd N s' yy∧MsM rest (g m) lo M s'∧BX N M s s'∧Does (Hl.map fun n m=>u (n : Int) m) xx g yy:=by
    intro f ix i c u hf hi hix hset hwf hsame rest m s xx _ hra hx ⟨vo,vr,vw,h⟩ hlo
    obtain ⟨n,s',y,b1,b2,b3,b4,b5,b6⟩:=XP h.row hNM hx hf (ZfU hra hi) hix
    rw [hset] at b3
    obtain ⟨e1,e2,e3,e4⟩:=hsame (n : Int) m
    exact ⟨fun m=>u (n : Int) m,s',y,b1,b2,⟨vo,vr,vw,h.step b4 (by omega) hM b3 (hwf _ _ h.wf (wf_i b5)) (by rw [e1]; exact ⟨h.rg1,h.rg2⟩) e2 e3 e4⟩,b4,b6.map⟩
  have same : ∀ {m : Ms},m.rg = m.rg∧m.ops = m.ops∧m.res = m.res∧m.own = m.own:=⟨rfl,rfl,rfl,rfl⟩
  refine ⟨⟨rfl,_,_,_,rfl,num (u:=fun n m=>{ m with req:=n }) (f:=69) (ix:=6) (i:=0) (by decide) rfl (by decide) (fun _ _ _ _ _=>rfl) (fun n m h g=>{ h with req:=g }) (fun n m=>⟨rfl,rfl,rfl,rfl⟩)⟩,
    ⟨rfl,_,_,_,rfl,num (u:=fun n m=>{ m with boot:=n }) (f:=70) (ix:=7) (i:=1) (by decide) rfl (by decide) (fun _ _ _ _ _=>rfl) (fun n m h g=>{ h with boot:=g }) (fun n m=>⟨rfl,rfl,rfl,rfl⟩)⟩,
    ⟨rfl,_,_,_,rfl,num (u:=fun n m=>{ m with txn:=n }) (f:=71) (ix:=8) (i:=2) (by decide) rfl (by decide) (fun _ _ _ _ _=>rfl) (fun n m h g=>{ h with txn:=g }) (fun n m=>⟨rfl,rfl,rfl,rfl⟩)⟩,
    ⟨rfl,_,_,_,rfl,num (u:=fun n m=>{ m with low:=n }) (f:=72) (ix:=9) (i:=3) (by decide) rfl (by decide) (fun _ _ _ _ _=>rfl) (fun n m h g=>{ h with low:=g }) (fun n m=>⟨rfl,rfl,rfl,rfl⟩)⟩,
    ⟨rfl,_,_,_,rfl,num (u:=fun n m=>{ m with ver:=n }) (f:=73) (ix:=10) (i:=4) (by decide) rfl (by decide) (fun _ _ _ _ _=>rfl) (fun n m h g=>{ h with ver:=g }) (fun n m=>⟨rfl,rfl,rfl,rfl⟩)⟩,
    ⟨rfl,_,_,_,rfl,num (u:=fun n m=>{ m with epoch:=n }) (f:=74) (ix:=11) (i:=5) (by decide) rfl (by decide) (fun _ _ _ _ _=>rfl) (fun n m h g=>{ h with epoch:=g }) (fun n m=>⟨rfl,rfl,rfl,rfl⟩)⟩,
    ⟨rfl,_,_,_,rfl,num (u:=fun n m=>{ m with move:=n }) (f:=75) (ix:=12) (i:=6) (by decide) rfl (by decide) (fun _ _ _ _ _=>rfl) (fun n m h g=>{ h with move:=g }) (fun n m=>⟨rfl,rfl,rfl,rfl⟩)⟩,
    ⟨rfl,_,_,_,rfl,num (u:=fun n m=>{ m with attempt:=n }) (f:=76) (ix:=13) (i:=7) (by decide) rfl (by decide) (fun _ _ _ _ _=>rfl) (fun n m h g=>{ h with attempt:=g }) (fun n m=>⟨rfl,rfl,rfl,rfl⟩)⟩,
    ⟨rfl,_,_,_,rfl,num (u:=fun n m=>{ m with num:=n }) (f:=77) (ix:=14) (i:=8) (by decide) rfl (by decide) (fun _ _ _ _ _=>rfl) (fun n m h g=>{ h with num:=g }) (fun n m=>⟨rfl,rfl,rfl,rfl⟩)⟩,
    ⟨rfl,_,_,_,rfl,sml (u:=fun n m=>{ m with code:=n }) (f:=79) (ix:=4) (i:=9) (by decide) rfl (by decide) (fun _ _ _ _ _=>rfl) (fun n m h g=>{ h with code:=g }) (fun n m=>⟨rfl,rfl,rfl,rfl⟩)⟩,
    ⟨rfl,_,_,_,rfl,sml (u:=fun n m=>{ m with peer:=n }) (f:=80) (ix:=5) (i:=10) (by decide) rfl (by decide) (fun _ _ _ _ _=>rfl) (fun n m h g=>{ h with peer:=g }) (fun n m=>⟨rfl,rfl,rfl,rfl⟩)⟩,
    ⟨rfl,_,_,_,rfl,?_⟩,⟨rfl,_,_,_,rfl,?_⟩,⟨rfl,_,_,_,rfl,?_⟩,⟨rfl,_,_,_,rfl,?_⟩,⟨rfl,_,_,_,rfl,?_⟩,trivial⟩
  · intro rest m s xx _ hra hx ⟨vo,vr,vw,h⟩ hlo
    obtain ⟨b,s',y,b1,b2,b3,b4,b6⟩:=Z0 h.row hNM hx (by simp [msC])
    exact ⟨fun m=>{ m with flag:=b },s',y,b1,b2,⟨vo,vr,vw,h.step (m':={ m with flag:=b }) b4 (by omega) hM b3 { h.wf with } ⟨h.rg1,h.rg2⟩ rfl rfl rfl⟩,b4,b6.map⟩
  · intro rest m s xx _ hra hx ⟨vo,vr,vw,h⟩ hlo
    obtain ⟨a,b,s',y,b1,b2,b3,b4,b5,b6⟩:=XQ h.row hNM hx (by
      intro j hj
      simp only [List.mem_cons,List.not_mem_nil,or_false] at hj
      rcases hj with rfl | rfl
      · exact ⟨m.rg.1,rfl,h.rg1⟩
      · exact ⟨m.rg.2,rfl,h.rg2⟩)
    exact ⟨fun m=>{ m with rg:=(a,b) },s',y,b1,b2,⟨vo,vr,vw,h.step (m':={ m with rg:=(a,b) }) b4 (by omega) hM b3 { h.wf with } b5 rfl rfl rfl⟩,b4,b6.map⟩
  · intro rest m s xx hc hra hx ⟨vo,vr,vw,h⟩ hlo
    obtain rfl:=h.zo (List.mem_cons_self ..)
    obtain ⟨acc,s',y,l',b1,b2,b3,b4,b5,b6⟩:=HK (fa:=92) (ix:=18) (C:=A + 1 + 11) (W:=A + 1 + 13) (by decide) hNM (by omega) ⟨by omega,by omega⟩ ⟨by omega,by omega⟩ hx h.row rfl (hra 11 _ rfl) (hra 13 _ rfl)
    exact ⟨fun m=>{ m with ops:=l' },s',y,b1,b2,⟨acc,vr,vw,b3,{ h.wf with },h.rg1,h.rg2,b4.mono hlo (Nat.le_refl _),Df h.r b5 (by omega) hM,Df h.w b5 (by omega) hM,fun e=>absurd e hc,fun e=>h.zr (List.mem_cons_of_mem _ e),fun e=>h.zw (List.mem_cons_of_mem _ e)⟩,b5,b6.map⟩
  · intro rest m s xx hc hra hx ⟨vo,vr,vw,h⟩ hlo
    obtain rfl:=h.zr (List.mem_cons_self ..)
    obtain ⟨acc,s',y,l',b1,b2,b3,b4,b5,b6⟩:=FO (fa:=96) (ix:=19) (C:=A + 1 + 14) (W:=A + 1 + 16) (by decide) hNM (by omega) ⟨by omega,by omega⟩ ⟨by omega,by omega⟩ hx h.row rfl (hra 14 _ rfl) (hra 16 _ rfl)
    exact ⟨fun m=>{ m with res:=l' },s',y,b1,b2,⟨vo,acc,vw,b3,{ h.wf with },h.rg1,h.rg2,Df h.o b5 (by omega) hM,b4.mono hlo (Nat.le_refl _),Df h.w b5 (by omega) hM,fun e=>h.zo (List.mem_cons_of_mem _ e),fun e=>absurd e hc,fun e=>h.zw (List.mem_cons_of_mem _ e)⟩,b5,b6.map⟩
  · intro rest m s xx hc hra hx ⟨vo,vr,vw,h⟩ hlo
    obtain rfl:=h.zw (List.mem_cons_self ..)
    obtain ⟨acc,s',y,l',b1,b2,b3,b4,b5,b6⟩:=Gp (fa:=100) (ix:=20) (C:=A + 1 + 17) (W:=A + 1 + 19) (by decide) hNM (by omega) ⟨by omega,by omega⟩ ⟨by omega,by omega⟩ hx h.row rfl (hra 17 _ rfl) (hra 19 _ rfl)
    exact ⟨fun m=>{ m with own:=l' },s',y,b1,b2,⟨vo,vr,acc,b3,{ h.wf with },h.rg1,h.rg2,Df h.o b5 (by omega) hM,Df h.r b5 (by omega) hM,b4.mono hlo (Nat.le_refl _),fun e=>h.zo (List.mem_cons_of_mem _ e),fun e=>h.zr (List.mem_cons_of_mem _ e),fun e=>absurd e hc⟩,b5,b6.map⟩
end Go.Proofs.YtmbhnbladmpnoaaGreat.Ab

/- Decode: the loop over the letters; what it ends with. -/
namespace Go.Proofs.YtmbhnbladmpnoaaGreat.Ab
open Go
set_option maxRecDepth 10000
def m0 : Ms:=⟨0,0,0,0,0,0,0,0,0,0,0,0,0,0,0,false,([],[]),[],[],[]⟩
def rOf (c : Int) : Par (Ms→Ms):=((rTab.find? fun p=>p.1 == c).map (·.2)).getD (.pure id)
def Iu : List Int→Ms→Par Ms
  | [],m=>.pure m
  | c :: rest,m=>(rOf c).bind fun g=>Iu rest (g m)
def pMsg : Par Ms:=Hl.bind fun k=>match CI k with
  | none=>.fail 11
  | some p=>Hl.bind fun a=>Hl.bind fun b=>Iu (lets p.1) { m0 with kind:=(k : Int),src:=(a : Int),dst:=(b : Int) }
def decB (b : BL) : Except Int Ms:=match pMsg b with
  | .error e=>.error e
  | .ok (m,[])=>if eMs m = 0 then .ok m else .error (eMs m)
  | .ok (_,_ :: _)=>.error 11
def decW (b : BL) : Except Int Ms:=if (B4 b).2 ≠ 0 then .error (B4 b).2 else decB (B4 b).1
theorem ZbT {k : Int} {p : BL × Nat × Nat × Nat} (hp : (k,p) ∈ AF) : ∀ c ∈ lets p.1,∃ q,rTab.find? (fun p=>p.1 == c) = some q:=by
  have key : ∀ q ∈ AF,∀ c ∈ lets q.2.1,c ∈ [113,98,116,108,118,101,109,97,110,99,112,102,114,111,115,119]:=by decide
  intro c hc
  have:=key _ hp c hc
  simp only [List.mem_cons,List.not_mem_nil,or_false] at this
  rcases this with rfl | rfl | rfl | rfl | rfl | rfl | rfl | rfl | rfl | rfl | rfl | rfl | rfl | rfl | rfl | rfl <;> exact ⟨_,rfl⟩
theorem Q8 {k : Int} {p : BL × Nat × Nat × Nat} (hp : (k,p) ∈ AF) : (lets p.1).Nodup:=by
  have key : ∀ q ∈ AF,(lets q.2.1).Nodup:=by decide
  exact key _ hp
theorem MsR.same {rest : List Int} {m : Ms} {lo M : Nat} {s t : St} {vo vr vw : Value} (h : MsR rest m lo M s vo vr vw) (hl : s.heap.length ≤ t.heap.length) (hM : t.heap[M]? = s.heap[M]?) (k : ∀ b,lo ≤ b→b < s.heap.length→t.heap[b]? = s.heap[b]?) : MsR rest m lo M t vo vr vw :=
  ⟨by rw [hM]; exact h.row,h.wf,h.rg1,h.rg2,(h.o.keep k).mono (Nat.le_refl _) hl,(h.r.keep k).mono (Nat.le_refl _) hl,(h.w.keep k).mono (Nat.le_refl _) hl,h.zo,h.zr,h.zw⟩
theorem MsR.msV {rest : List Int} {m : Ms} {lo M : Nat} {s : St} {vo vr vw : Value} (h : MsR rest m lo M s vo vr vw) : MsV m s vo vr vw:=⟨h.wf,h.o.listN,h.r.listN,h.w.listN⟩
theorem ZbU {N M A I lo : Nat} {k : Int} {p : BL × Nat × Nat × Nat} (hp : (k,p) ∈ AF) (hNM : N < M) (hMA : M < A) (hAI : A + 21 ≤ I) (hI : I < lo) {T0 T5 : Value} : ∀ (rest : List Int) (i : Nat) (m : Ms) (s : St) (x : BL × Int),(lets p.1).drop i = rest→i ≤ p.1.length→rest.Nodup→Rd N s x→MsM rest m lo M s→lo ≤ s.heap.length→RAt A s→s.heap[A]? = some (.map (AK A) 16)→s.heap[I]? = some (itB p.1 i) →
    ∃ (m' : Ms) (s' : St) (y : BL × Int),AS (AB.b0 (run Tryz.prog (libL libT) Ad)) [T0,rp N,mp M,.map (some A),.pointer (some ⟨I,0,none⟩),T5] s = some (.exit 0,[T0,rp N,mp M,T5],s')∧Rd N s' y∧MsM [] m' lo M s'∧s.heap.length ≤ s'.heap.length∧(∀ b,b < lo→b ≠ N→b ≠ M→b ≠ I→s'.heap[b]? = s.heap[b]?)∧Does (Iu rest m) x m' y:=by
  have hll : (lets p.1).length = p.1.length:=by simp [lets]
  intro rest
  induction rest with
  | nil =>
    intro i m s x hi hle hnd hx hm hlo hra hA hI2
    have hi2 : i = p.1.length:=by
      have:=List.drop_eq_nil_iff.1 hi
      omega
    subst hi2
    refine ⟨m,s,x,?_,hx,hm,Nat.le_refl _,fun _ _ _ _ _=>rfl,.pure⟩
    have e0 : Al 0 (.tuple #[.bool false]) = some (.bool false):=rfl
    rw [Ar]
    simp only [AB.b0,BP,CJ,Dq,DO,Kp,Mf,PF hI2,e0,EVs]
  | cons c rest ih =>
    intro i m s x hi hle hnd hx hm hlo hra hA hI2
    have hlt : i < (lets p.1).length:=by
      rcases Nat.lt_or_ge i (lets p.1).length with h | h
      · exact h
      · rw [List.drop_eq_nil_of_le h] at hi
        cases hi
    have hd:=List.drop_eq_getElem_cons hlt
    rw [hi] at hd
    have hc : (lets p.1).getD i 0 = c:=by
      rw [List.getD_eq_getElem?_getD,List.getElem?_eq_getElem hlt]
      exact (List.cons.inj hd).1.symm
    have hd2 : (lets p.1).drop (i + 1) = rest:=(List.cons.inj hd).2.symm
    have hn:=Ui hp hI2 (by omega)
    rw [hc] at hn
    have e0 : Al 0 (.tuple #[.bool true,goInt i,.int .i32 c]) = some (.bool true):=rfl
    have e2 : Al 2 (.tuple #[.bool true,goInt i,.int .i32 c]) = some (.int .i32 c):=rfl
    have hx1 : Rd N (s.putB I (itB p.1 (i + 1))) x:=hx.put (by omega)
    have hpn : ∀ b,b ≠ I→(s.putB I (itB p.1 (i + 1))).heap[b]? = s.heap[b]?:=fun b hb=>Cl hb
    have hlen1 : (s.putB I (itB p.1 (i + 1))).heap.length = s.heap.length:=BM
    have hI3 : (s.putB I (itB p.1 (i + 1))).heap[I]? = some (itB p.1 (i + 1)):=CX (by omega)
    generalize s.putB I (itB p.1 (i + 1)) = s1 at *
    have hm1 : MsM (c :: rest) m lo M s1:=by
      obtain ⟨vo,vr,vw,h⟩:=hm
      exact ⟨vo,vr,vw,h.same (by omega) (hpn M (by omega)) fun b h1 h2=>hpn b (by omega)⟩
    have hA1 : s1.heap[A]? = some (.map (AK A) 16):=by rw [hpn A (by omega)]; exact hA
    have hra1 : RAt A s1:=fun i f hi=>by
      have : i < 20:=by
        have:=(List.getElem?_eq_some_iff.1 hi).1
        simpa [Am] using this
      rw [hpn _ (by omega)]
      exact hra i f hi
    obtain ⟨q,hq⟩:=ZbT hp c (by rw [← hc,List.getD_eq_getElem?_getD,List.getElem?_eq_getElem hlt]; exact List.getElem_mem _)
    have hq1 : q.1 = c:=by simpa using List.find?_some hq
    have hw : rOf c = q.2:=by unfold rOf; rw [hq]; rfl
    obtain ⟨e,g1,_,wx,wy,wz,g2,g3⟩:=Wt (fun e q h=>h.1) hA1 (ZbS (lo:=lo) hNM (by omega) hMA) hq (z:=.agg #[.nilFunc,.nilFunc,.nilFunc])
    rw [g2] at g1
    have hfld : HM false 1 1 (.agg #[wx,wy,wz]) = some wy:=rfl
    have hcr : c ∉ rest:=(List.nodup_cons.1 hnd).1
    obtain ⟨g,s2,y,f1,f2,f3,f4,f5⟩:=g3 rest m s1 x (by rw [hq1]; exact hcr) hra1 hx1 (by rw [hq1]; exact hm1) (by omega)
    have k2 : ∀ b,b < lo→b ≠ N→b ≠ M→s2.heap[b]? = s1.heap[b]?:=fun b h1 h2 h3=>f4.2 b (by omega) h2 h3
    obtain ⟨m',s',y',k1,k3,k4,k5,k6,k7⟩:=ih (i + 1) (g m) s2 y hd2 (by omega) (List.nodup_cons.1 hnd).2 f2 f3 (by have:=f4.1; omega) (fun i f hi=>by
      have : i < 20:=by
        have:=(List.getElem?_eq_some_iff.1 hi).1
        simpa [Am] using this
      rw [k2 _ (by omega) (by omega) (by omega)]
      exact hra1 i f hi) (by rw [k2 A (by omega) (by omega) (by omega)]; exact hA1) (by rw [k2 I hI (by omega) (by omega)]; exact hI3)
    refine ⟨m',s',y',?_,k3,k4,by have:=f4.1; omega,fun b h1 h2 h3 h4=>by rw [k6 b h1 h2 h3 h4,k2 b h1 h2 h3,hpn b h4],?_⟩
    · rw [Ar]
      simp only [AB.b0,BP,CJ,Dq,DO,Kp,Mf,hn,e0,e2,g1,hfld,f1,EVs]
      exact k1
    · show Does ((rOf c).bind fun g=>Iu rest (g m)) x m' y'
      rw [hw]
      exact f5.bind k7
abbrev zMs : Value:=.agg #[(.int .i64 0),(.int .i64 0),(.int .i64 0),(.int .i64 0),(.int .i64 0),(.int .i64 0),(.int .u64 0),(.int .u64 0),(.int .u64 0),(.int .u64 0),(.int .u64 0),(.int .u64 0),(.int .u64 0),(.int .u64 0),(.int .u64 0),(.bool false),(.string ⟨#[]⟩),(.string ⟨#[]⟩),(.slice none 0 0),(.slice none 0 0),(.slice none 0 0)]
theorem zst {cs : List Value} (h : cs.length = 21) (hl : cs.all AI = true) : AO 21 lptr (.agg cs.toArray) zMs = some (.agg cs.toArray):=Lq (cs:=msC m0 (.slice none 0 0) (.slice none 0 0) (.slice none 0 0)) rfl h hl
section
variable {N M lo : Nat} {s : St} {y : BL × Int} {m : Ms} (hNM : N < M) (hM : M < lo)
include hNM hM
theorem Zcw (hx : Rd N s y) (hm : MsM [] m lo M s) : (y.2 ≠ 0→AB.j0 (run Tryz.prog (libL libT) Ad) [lptr,rp N,mp M,zMs] s = some (.tuple #[zMs,.int .i64 y.2],s))∧(y.2 = 0→∃ vo vr vw,MsR [] m lo M s vo vr vw∧AB.j0 (run Tryz.prog (libL libT) Ad) [lptr,rp N,mp M,zMs] s = some (.tuple #[mV m vo vr vw,.int .i64 0],s)):=by
  obtain ⟨v,h⟩:=hx
  constructor
  · intro hy
    have hz : (y.2 != 0) = true:=by simp [hy]
    have e1 : AO 21 lptr zMs zMs = some zMs:=rfl
    have e2 : Ap true 21 lptr zMs = some zMs:=rfl
    unfold AB.j0
    simp only [BP,CJ,Dq,DO,Cz,EB,h.ld1,hz,Wx,e1,e2,EVs]
    exact YH
  · intro hy
    obtain ⟨vo,vr,vw,hm⟩:=hm
    refine ⟨vo,vr,vw,hm,?_⟩
    have hz : (y.2 != 0) = false:=by simp [hy]
    have ld:=IL hm.row (by simp) (m:=21) rfl
    have e1 : AO 21 lptr (mV m vo vr vw) zMs = some (mV m vo vr vw):=zst rfl hm.msV.leaf
    have e2 : Ap true 21 lptr (mV m vo vr vw) = some (mV m vo vr vw):=G6 rfl
    unfold AB.j0
    simp only [BP,CJ,Dq,DO,Cz,EB,h.ld1,hz,ld,e1,e2,EVs]
    exact YH
theorem Z1 (hx : Rd N s y) (hm : MsM [] m lo M s) (hlo : lo ≤ s.heap.length) : ∃ u t,AB.j1 (run Tryz.prog (libL libT) Ad) [lptr,rp N,mp M,zMs] s = some (u,t)∧Keep (some N) s t∧(y.2 ≠ 0→u = .tuple #[zMs,.int .i64 y.2])∧(y.2 = 0→eMs m ≠ 0→u = .tuple #[zMs,.int .i64 (eMs m)])∧(y.2 = 0→eMs m = 0→∃ vo vr vw,MsR [] m lo M t vo vr vw∧u = .tuple #[mV m vo vr vw,.int .i64 0]):=by
  by_cases hy : y.2 = 0
  · obtain ⟨v,h⟩:=id hx
    obtain ⟨vo,vr,vw,hr⟩:=id hm
    have hz : (y.2 == 0) = true:=by simp [hy]
    have ld:=IL hr.row (by simp) (m:=21) rfl
    have hc:=PD hr.msV
    have hx2 : Rd N (setR N v (eMs m) s) (y.1,eMs m):=h.seterr _
    have hl : (setR N v (eMs m) s).heap.length = s.heap.length:=BM
    have hm2 : MsM [] m lo M (setR N v (eMs m) s):=⟨vo,vr,vw,hr.same (by omega) (Cl (by omega)) fun b h1 h2=>Cl (by omega)⟩
    obtain ⟨g1,g2⟩:=Zcw hNM hM hx2 hm2
    by_cases he : eMs m = 0
    · obtain ⟨vo2,vr2,vw2,k1,k2⟩:=g2 he
      refine ⟨_,setR N v (eMs m) s,?_,CM,fun e=>absurd hy e,fun _ e=>absurd he e,fun _ _=>⟨vo2,vr2,vw2,k1,rfl⟩⟩
      unfold AB.j1
      simp only [BP,CJ,Dq,DO,Cz,EB,h.ld1,hz,ld,Cu,hc,h.st1,BY,k2,EVs]
    · refine ⟨.tuple #[zMs,.int .i64 (eMs m)],setR N v (eMs m) s,?_,CM,fun e=>absurd hy e,fun _ _=>rfl,fun _ e=>absurd e he⟩
      unfold AB.j1
      simp only [BP,CJ,Dq,DO,Cz,EB,h.ld1,hz,ld,Cu,hc,h.st1,BY,g1 he,EVs]
  · obtain ⟨v,h⟩:=id hx
    have hz : (y.2 == 0) = false:=by simp [hy]
    obtain ⟨g1,_⟩:=Zcw hNM hM hx hm
    refine ⟨_,s,?_,.refl _ _,fun _=>rfl,fun e=>absurd e hy,fun e=>absurd e hy⟩
    unfold AB.j1
    simp only [BP,CJ,Dq,DO,Cz,EB,h.ld1,hz,BY,g1 hy,EVs]
end
end Go.Proofs.YtmbhnbladmpnoaaGreat.Ab

/- Texts: what is read behind them,and back. -/
namespace Go.Proofs.YtmbhnbladmpnoaaGreat.Ab
open Go
end Go.Proofs.YtmbhnbladmpnoaaGreat.Ab

/- What was written is read as what it was. -/
namespace Go.Proofs.YtmbhnbladmpnoaaGreat.Ab
open Go
set_option maxRecDepth 10000
def Inv {α : Type} (p : Par α) (e : BL) (a : α) : Prop:=∀ r,p (e ++ r) = .ok (a,r)
theorem Inv.pure {α : Type} {a : α} : Inv (.pure a) [] a:=fun r=>rfl
theorem Inv.bind {α β : Type} {p : Par α} {q : α→Par β} {e e' : BL} {a : α} {b : β} (h : Inv p e a) (g : Inv (q a) e' b) : Inv (p.bind q) (e ++ e') b:=fun r=>by
  unfold Par.bind
  rw [List.append_assoc,h]
  exact g r
theorem Inv.map {α β : Type} {p : Par α} {f : α→β} {e : BL} {a : α} (h : Inv p e a) : Inv (p.map f) e (f a):=by
  have:=h.bind (q:=fun a=>.pure (f a)) .pure
  rwa [List.append_nil] at this
theorem Inv.cons {α : Type} {p : Par α} {k : Nat} {e e' : BL} {a : α} {m : List α} (h : Inv p e a) (g : Inv (p.rep k) e' m) : Inv (p.rep (k + 1)) (e ++ e') (a :: m):=by
  refine h.bind ?_
  have:=g.bind (q:=fun l=>.pure (a :: l)) .pure
  rwa [List.append_nil] at this
theorem E4 (c : UInt8) : Inv Hl [c] c.toNat:=fun r=>rfl
theorem Uo {n : Int} (h : isB n) : ((bI n).toNat : Int) = n:=by
  rw [Zcq]
  exact Int.emod_eq_of_lt h.1 h.2
theorem Z2 {n : Nat} (h : n < 18446744073709551616) : Inv GT (enc n) n:=fun r=>by
  unfold GT
  rw [JZ h]
  simp
theorem inv_int {n : Nat} (h : n ≤ 255) : Inv ZbQ (enc n) n:=by
  have:=(Z2 (n:=n) (by omega)).bind (q:=fun n=>if 255 < n then .fail 11 else .pure n) (e':=[]) (b:=n) (by rw [if_neg (by omega)]; exact .pure)
  rwa [List.append_nil] at this
theorem Wy (b : Bool) : Inv Q6 [if b = true then 1 else 0] b:=by
  have:=(E4 (if b = true then 1 else 0)).bind (q:=fun n=>if 1 < n then .fail 11 else .pure (n == 1)) (e':=[]) (b:=b) (by cases b <;> exact .pure)
  rwa [List.append_nil] at this
theorem Vy {k : BL} (h : k.length ≤ 255) (r : BL) : AA (tB k ++ r) 255 = (k,(tB k).length,0):=by
  have h1:=JZ (n:=k.length) (by omega) (k ++ r)
  unfold AA tB
  rw [List.append_assoc,h1]
  simp only
  rw [if_neg (by simp),if_neg (by omega),if_neg (by simp only [List.length_append]; omega)]
  simp
theorem ZfV {k : BL} (h : k.length ≤ 255) : Inv pTx (tB k) k:=fun r=>by
  unfold pTx
  rw [Vy h]
  simp
theorem LT : ∀ {ks : List BL},(∀ k ∈ ks,k.length ≤ 255)→Inv (pTx.rep ks.length) (tBs ks) ks
  | [],_=>.pure
  | k :: ks,h=>(ZfV (h k (List.mem_cons_self ..))).cons (LT fun k hk=>h k (List.mem_cons_of_mem _ hk))
theorem Wz {α : Type} {p : Par α} {f : α→BL} : ∀ {l : List α},(∀ a ∈ l,Inv p (f a) a)→Inv (p.rep l.length) (l.flatMap f) l
  | [],_=>.pure
  | a :: l,h=>(h a (List.mem_cons_self ..)).cons (Wz fun b hb=>h b (List.mem_cons_of_mem _ hb))
theorem NH {α : Type} {p : Par α} {f : α→BL} {l : List α} (hl : l.length ≤ 255) (h : ∀ a ∈ l,Inv p (f a) a) : Inv (PG p) (E3 f l) l:=(inv_int hl).bind (Wz h)
theorem ZfW {p : Rg} (h : gPr p) : Inv pPr (ePr p) p:=by
  have:=(LT (ks:=[p.1,p.2]) fun k hk=>by
    simp only [List.mem_cons,List.not_mem_nil,or_false] at hk
    rcases hk with rfl | rfl
    · have:=h.1; omega
    · have:=h.2; omega).bind (q:=fun l=>.pure (l.getD 0 [],l.getD 1 [])) (e':=[]) .pure
  rwa [List.append_nil] at this
theorem ZfX {o : OpT} (h : gOp o) : Inv pOp (eOpW o) o:=by
  obtain ⟨h1,h2,h3,h4,h5,h6⟩:=h
  have key : Inv pOp ([bI o.kind] ++ (tBs [o.key,o.val,o.lo,o.hi] ++ ([bI o.most] ++ []))) (⟨((bI o.kind).toNat : Int),o.key,o.val,o.lo,o.hi,((bI o.most).toNat : Int)⟩ : OpT):=by
    refine (E4 _).bind ?_
    refine Inv.bind (a:=[o.key,o.val,o.lo,o.hi]) (LT (ks:=[o.key,o.val,o.lo,o.hi]) fun k hk=>?_) ?_
    · simp only [List.mem_cons,List.not_mem_nil,or_false] at hk
      rcases hk with rfl | rfl | rfl | rfl <;> omega
    · refine (E4 _).bind ?_
      exact .pure
  rw [Uo h1,Uo h6,List.append_nil] at key
  exact key
theorem ZfY {o : Ow} (h : gOw o) : Inv pOw (eOwW o) o:=by
  have key : Inv pOw (tBs [o.1] ++ ([bI o.2] ++ [])) ((o.1,((bI o.2).toNat : Int)) : Ow):=by
    refine Inv.bind (a:=[o.1]) (LT (ks:=[o.1]) fun k hk=>?_) ?_
    · simp only [List.mem_cons,List.not_mem_nil,or_false] at hk
      rw [hk]
      have:=h.1
      omega
    · refine (E4 _).bind ?_
      exact .pure
  rw [Uo h.2,List.append_nil] at key
  exact key
theorem ZfZ {r : Rs} (h : gRs r) : Inv pRs (eRs r) r:=by
  have:=(Wy r.1).bind (q:=fun f=>(pTx.rep 1).bind fun l=>(PG pPr).bind fun ps=>.pure ((f,l.getD 0 [],ps) : Rs)) ((LT (ks:=[r.2.1]) fun k hk=>by
    simp only [List.mem_cons,List.not_mem_nil,or_false] at hk
    rw [hk]
    have:=h.1
    omega).bind (q:=fun l=>(PG pPr).bind fun ps=>.pure ((r.1,l.getD 0 [],ps) : Rs)) ((NH (f:=ePr) (l:=r.2.2) (by have:=h.2.1; omega) fun p hp=>ZfW (h.2.2 p hp)).bind (q:=fun ps=>.pure ((r.1,r.2.1,ps) : Rs)) .pure))
  rw [List.append_nil] at this
  exact this
def setF (m : Ms) (m1 : Ms) (c : Int) : Ms :=
  if c = 113 then { m1 with req:=m.req } else if c = 98 then { m1 with boot:=m.boot } else if c = 116 then { m1 with txn:=m.txn } else if c = 108 then { m1 with low:=m.low } else if c = 118 then { m1 with ver:=m.ver } else if c = 101 then { m1 with epoch:=m.epoch } else if c = 109 then { m1 with move:=m.move } else if c = 97 then { m1 with attempt:=m.attempt } else if c = 110 then { m1 with num:=m.num }
  else if c = 99 then { m1 with code:=m.code } else if c = 112 then { m1 with peer:=m.peer } else if c = 102 then { m1 with flag:=m.flag } else if c = 114 then { m1 with rg:=m.rg } else if c = 111 then { m1 with ops:=m.ops } else if c = 115 then { m1 with res:=m.res } else { m1 with own:=m.own }
theorem K7 {n : Int} (h : (Lit.int .u64 n).wf = true) : ∃ k : Nat,(k : Int) = n∧Inv GT (eN n) k:=by
  obtain ⟨h1,h2⟩:=ZfI h
  exact ⟨n.toNat,Int.toNat_of_nonneg h1,Z2 (by omega)⟩
theorem Z3 {m : Ms} {p : BL × Nat × Nat × Nat} (h : MsGood m p) (hw : MsWf m) {c : Int} (hc : c ∈ [113,98,116,108,118,101,109,97,110,99,112,102,114,111,115,119]) : ∃ g : Ms→Ms,Inv (rOf c) (wOf m c) g∧∀ m1,g m1 = setF m m1 c:=by
  simp only [List.mem_cons,List.not_mem_nil,or_false] at hc
  rcases hc with rfl | rfl | rfl | rfl | rfl | rfl | rfl | rfl | rfl | rfl | rfl | rfl | rfl | rfl | rfl | rfl
  · obtain ⟨k,e,hk⟩:=K7 hw.req; exact ⟨_,hk.map,fun m1=>by simp only [e]; rfl⟩
  · obtain ⟨k,e,hk⟩:=K7 hw.boot; exact ⟨_,hk.map,fun m1=>by simp only [e]; rfl⟩
  · obtain ⟨k,e,hk⟩:=K7 hw.txn; exact ⟨_,hk.map,fun m1=>by simp only [e]; rfl⟩
  · obtain ⟨k,e,hk⟩:=K7 hw.low; exact ⟨_,hk.map,fun m1=>by simp only [e]; rfl⟩
  · obtain ⟨k,e,hk⟩:=K7 hw.ver; exact ⟨_,hk.map,fun m1=>by simp only [e]; rfl⟩
  · obtain ⟨k,e,hk⟩:=K7 hw.epoch; exact ⟨_,hk.map,fun m1=>by simp only [e]; rfl⟩
  · obtain ⟨k,e,hk⟩:=K7 hw.move; exact ⟨_,hk.map,fun m1=>by simp only [e]; rfl⟩
  · obtain ⟨k,e,hk⟩:=K7 hw.attempt; exact ⟨_,hk.map,fun m1=>by simp only [e]; rfl⟩
  · obtain ⟨k,e,hk⟩:=K7 hw.num; exact ⟨_,hk.map,fun m1=>by simp only [e]; rfl⟩
  · exact ⟨_,(E4 (bI m.code)).map,fun m1=>by simp only [Uo h.code]; rfl⟩
  · exact ⟨_,(E4 (bI m.peer)).map,fun m1=>by simp only [Uo h.peer]; rfl⟩
  · exact ⟨_,(Wy m.flag).map,fun m1=>rfl⟩
  · exact ⟨_,(LT (ks:=[m.rg.1,m.rg.2]) fun k hk=>by
      simp only [List.mem_cons,List.not_mem_nil,or_false] at hk
      rcases hk with rfl | rfl
      · have:=h.rg.1; omega
      · have:=h.rg.2; omega).map,fun m1=>rfl⟩
  · exact ⟨_,(NH (f:=eOpW) (by have:=h.ops.1; omega) fun o ho=>ZfX (h.ops.2 o ho)).map,fun m1=>rfl⟩
  · exact ⟨_,(NH (f:=eRs) (by have:=h.res.1; omega) fun o ho=>ZfZ (h.res.2 o ho)).map,fun m1=>rfl⟩
  · exact ⟨_,(NH (f:=eOwW) (by have:=h.own.1; omega) fun o ho=>ZfY (h.own.2 o ho)).map,fun m1=>rfl⟩
theorem Q9 {m : Ms} {p : BL × Nat × Nat × Nat} (h : MsGood m p) (hw : MsWf m) : ∀ (cs : List Int) (m1 : Ms),(∀ c ∈ cs,c ∈ [113,98,116,108,118,101,109,97,110,99,112,102,114,111,115,119])→Inv (Iu cs m1) (cs.flatMap (wOf m)) (cs.foldl (setF m) m1)
  | [],m1,_=>.pure
  | c :: cs,m1,hc=>by
    obtain ⟨g,h1,h2⟩:=Z3 h hw (hc c (List.mem_cons_self ..))
    rw [List.flatMap_cons,List.foldl_cons]
    refine h1.bind (q:=fun g=>Iu cs (g m1)) ?_
    rw [h2]
    exact Q9 h hw cs _ fun c h=>hc c (List.mem_cons_of_mem _ h)
theorem ZdY {m : Ms} {p : BL × Nat × Nat × Nat} (h : MsGood m p) : (lets p.1).foldl (setF m) { m0 with kind:=m.kind,src:=m.src,dst:=m.dst } = m:=by
  have hm:=D8 h.form
  have hz:=h.zero
  have hc:=h.client
  have z1:=hz (113,m.req == 0) (by simp [zTab])
  have z2:=hz (98,m.boot == 0) (by simp [zTab])
  have z3:=hz (116,m.txn == 0) (by simp [zTab])
  have z4:=hz (108,m.low == 0) (by simp [zTab])
  have z5:=hz (118,m.ver == 0) (by simp [zTab])
  have z6:=hz (101,m.epoch == 0) (by simp [zTab])
  have z7:=hz (109,m.move == 0) (by simp [zTab])
  have z8:=hz (97,m.attempt == 0) (by simp [zTab])
  have z9:=hz (110,m.num == 0) (by simp [zTab])
  have z10:=hz (99,m.code == 0) (by simp [zTab])
  have z11:=hz (112,m.peer == 0) (by simp [zTab])
  have z12:=hz (102,!m.flag) (by simp [zTab])
  have z13:=hz (114,m.rg.1 == [] && m.rg.2 == []) (by simp [zTab])
  have z14:=hz (111,(m.ops.length : Int) == 0) (by simp [zTab])
  have z15:=hz (115,(m.res.length : Int) == 0) (by simp [zTab])
  have z16:=hz (119,(m.own.length : Int) == 0) (by simp [zTab])
  clear hz h
  obtain ⟨kind,src,dst,client,code,peer,req,boot,txn,low,ver,epoch,move,attempt,num,flag,⟨rlo,rhi⟩,ops,res,own⟩:=m
  simp only at *
  subst hc
  simp only [AF,List.mem_cons,List.not_mem_nil,or_false,Prod.mk.injEq] at hm
  rcases hm with ⟨_,rfl⟩ | ⟨_,rfl⟩ | ⟨_,rfl⟩ | ⟨_,rfl⟩ | ⟨_,rfl⟩ | ⟨_,rfl⟩ | ⟨_,rfl⟩ | ⟨_,rfl⟩ | ⟨_,rfl⟩ | ⟨_,rfl⟩ | ⟨_,rfl⟩ | ⟨_,rfl⟩ | ⟨_,rfl⟩ | ⟨_,rfl⟩
  all_goals
    simp [lets] at z1 z2 z3 z4 z5 z6 z7 z8 z9 z10 z11 z12 z13 z14 z15 z16
    simp_all [lets,setF,m0]
theorem Z4 {m : Ms} (hw : MsWf m) (he : eMs m = 0) : pMsg (Dx m) = .ok (m,[]):=by
  obtain ⟨p,h⟩:=ZV he
  have hm:=D8 h.form
  have hl : ∀ c ∈ lets p.1,c ∈ [113,98,116,108,118,101,109,97,110,99,112,102,114,111,115,119]:=by
    have key : ∀ q ∈ AF,∀ c ∈ lets q.2.1,c ∈ [113,98,116,108,118,101,109,97,110,99,112,102,114,111,115,119]:=by decide
    exact key _ hm
  have hbd : Dx m = [bI m.kind] ++ ([bI m.src] ++ ([bI m.dst] ++ (lets p.1).flatMap (wOf m))):=by unfold Dx; rw [h.form]; rfl
  have hI : Inv pMsg (Dx m) m:=by
    rw [hbd]
    refine (E4 _).bind ?_
    rw [Uo h.kind,h.form]
    refine (E4 _).bind ((E4 _).bind ?_)
    rw [Uo h.src,Uo h.dst]
    have:=Q9 h hw (lets p.1) { m0 with kind:=m.kind,src:=m.src,dst:=m.dst } hl
    rwa [ZdY h] at this
  have:=hI []
  rwa [List.append_nil] at this
theorem Z5 {m : Ms} (hw : MsWf m) (he : eMs m = 0) : decB (Dx m) = .ok m:=by
  unfold decB
  rw [Z4 hw he]
  simp only
  rw [if_pos he]
end Go.Proofs.YtmbhnbladmpnoaaGreat.Ab

/- What is read is written as these bytes. -/
namespace Go.Proofs.YtmbhnbladmpnoaaGreat.Ab
open Go
set_option maxRecDepth 10000
def Can {α : Type} (p : Par α) (e : α→BL) : Prop:=∀ l a r,p l = .ok (a,r)→l = e a ++ r
theorem Cn {α β : Type} {p : Par α} {q : α→Par β} {l r : BL} {b : β} (h : p.bind q l = .ok (b,r)) : ∃ a r',p l = .ok (a,r')∧q a r' = .ok (b,r):=by
  unfold Par.bind at h
  cases hp : p l with
  | error e=>rw [hp] at h; cases h
  | ok t =>
    obtain ⟨a,r'⟩:=t
    rw [hp] at h
    exact ⟨a,r',rfl,h⟩
theorem DC {α : Type} {a b : α} {l r : BL} (h : Par.pure a l = .ok (b,r)) : a = b∧l = r:=by
  unfold Par.pure at h
  cases h
  exact ⟨rfl,rfl⟩
theorem ES {α β : Type} {p : Par α} {f : α→β} {l r : BL} {b : β} (h : p.map f l = .ok (b,r)) : ∃ a,p l = .ok (a,r)∧f a = b:=by
  obtain ⟨a,r',h1,h2⟩:=Cn h
  obtain ⟨h3,h4⟩:=DC h2
  exact ⟨a,by rw [h1,h4],h3⟩
theorem bI_c (c : UInt8) : bI ((c.toNat : Nat) : Int) = c:=by
  unfold bI
  have h:=c.toNat_lt
  have : ((((c.toNat : Nat) : Int) % 256).toNat) = c.toNat:=by omega
  rw [this]
  simp
theorem E5 : Can Hl fun n=>[bI (n : Int)]:=fun l a r h=>by
  cases l with
  | nil=>cases h
  | cons c l =>
    cases h
    show c :: r = [bI ((c.toNat : Nat) : Int)] ++ r
    rw [bI_c]
    rfl
theorem Gq : Can GT enc:=fun l a r h=>by
  unfold GT at h
  split at h
  · cases h
  · rename_i h0
    cases h
    rw [J0 (by simpa using h0),List.take_append_drop]
theorem ZdZ : Can ZbQ enc:=fun l a r h=>by
  obtain ⟨n,r',h1,h2⟩:=Cn h
  split at h2
  · cases h2
  · obtain ⟨rfl,rfl⟩:=DC h2
    exact Gq l n r' h1
theorem WA : Can Q6 fun b=>[if b = true then 1 else 0]:=fun l a r h=>by
  obtain ⟨n,r',h1,h2⟩:=Cn h
  split at h2
  · cases h2
  · rename_i hn
    obtain ⟨rfl,rfl⟩:=DC h2
    rw [E5 l n r' h1]
    have : n = 0 ∨ n = 1:=by omega
    rcases this with rfl | rfl <;> rfl
theorem Zcx : Can pTx tB:=fun l a r h=>by
  unfold pTx at h
  split at h
  · cases h
  rename_i h2
  split at h
  · cases h
  rename_i h0
  have h0 : (AA l 255).2.2 = 0:=by simpa using h0
  cases h
  unfold AA at h0 ⊢
  have hk:=EC l
  have he:=@J0 l
  generalize Au l = t at *
  obtain ⟨n,k,e⟩:=t
  simp only at h0 hk he ⊢
  split at h0
  · rename_i h1; exact absurd h0 h1
  rename_i h1
  have h1 : e = 0:=by simpa using h1
  split at h0
  · cases h0
  rename_i h3
  split at h0
  · cases h0
  rename_i h4
  rw [if_neg (by simpa using h1),if_neg h3,if_neg h4]
  simp only
  have hl:=(hk h1).2
  have hlen : ((l.drop k).take n).length = n:=by
    simp only [List.length_take,List.length_drop]
    simp only [Nat.not_lt] at h4
    omega
  unfold tB
  rw [hlen,he h1,List.append_assoc]
  have e2 : (l.drop k).take n ++ l.drop (k + n) = l.drop k:=by
    rw [← List.drop_drop,List.take_append_drop]
  rw [e2,List.take_append_drop]
theorem SO {α : Type} {p : Par α} {f : α→BL} (h : Can p f) : ∀ (k : Nat),Can (p.rep k) (fun l=>l.flatMap f)∧∀ l a r,p.rep k l = .ok (a,r)→a.length = k
  | 0=>⟨fun l a r h=>by obtain ⟨rfl,rfl⟩:=DC h; rfl,fun l a r h=>by obtain ⟨rfl,rfl⟩:=DC h; rfl⟩
  | k + 1=>by
    obtain ⟨g1,g2⟩:=SO h k
    refine ⟨fun l a r hh=>?_,fun l a r hh=>?_⟩
    · obtain ⟨x,r1,h1,h2⟩:=Cn hh
      obtain ⟨m,r2,h3,h4⟩:=Cn h2
      obtain ⟨rfl,rfl⟩:=DC h4
      show l = (x :: m).flatMap f ++ r2
      have e:=g1 r1 m r2 h3
      have e : r1 = m.flatMap f ++ r2:=e
      rw [List.flatMap_cons,List.append_assoc,← e]
      exact h l x r1 h1
    · obtain ⟨x,r1,h1,h2⟩:=Cn hh
      obtain ⟨m,r2,h3,h4⟩:=Cn h2
      obtain ⟨rfl,rfl⟩:=DC h4
      simp [g2 r1 m r2 h3]
theorem NI {α : Type} {p : Par α} {f : α→BL} (h : Can p f) : Can (PG p) (E3 f):=fun l a r hh=>by
  obtain ⟨k,r1,h1,h2⟩:=Cn hh
  obtain ⟨g1,g2⟩:=SO h k
  rw [E3,g2 r1 a r h2,List.append_assoc,← g1 r1 a r h2]
  exact ZdZ l k r1 h1
theorem PJ (k : Nat) : Can (pTx.rep k) tBs:=(SO Zcx k).1
theorem PK {k : Nat} {l r : BL} {a : List BL} (h : pTx.rep k l = .ok (a,r)) : a.length = k:=(SO Zcx k).2 l a r h
theorem Zf0 : Can pPr ePr:=fun l a r h=>by
  obtain ⟨ks,r1,h1,h2⟩:=Cn h
  obtain ⟨rfl,rfl⟩:=DC h2
  have:=PK h1
  match ks,this with
  | [a,b],_=>exact PJ 2 l _ r1 h1
theorem Zf1 : Can pOp eOpW:=fun l a r h=>by
  obtain ⟨k,r1,h1,h2⟩:=Cn h
  obtain ⟨ks,r2,h3,h4⟩:=Cn h2
  obtain ⟨m,r3,h5,h6⟩:=Cn h4
  obtain ⟨rfl,rfl⟩:=DC h6
  have:=PK h3
  match ks,this with
  | [a,b,c,d],_ =>
    rw [E5 l k r1 h1,PJ 4 r1 _ r2 h3,E5 r2 m r3 h5]
    simp [eOpW]
theorem Zf2 : Can pOw eOwW:=fun l a r h=>by
  obtain ⟨ks,r1,h1,h2⟩:=Cn h
  obtain ⟨m,r2,h3,h4⟩:=Cn h2
  obtain ⟨rfl,rfl⟩:=DC h4
  have:=PK h1
  match ks,this with
  | [a],_ =>
    rw [PJ 1 l _ r1 h1,E5 r1 m r2 h3]
    simp [eOwW]
theorem Zf3 : Can pRs eRs:=fun l a r h=>by
  obtain ⟨f,r1,h1,h2⟩:=Cn h
  obtain ⟨ks,r2,h3,h4⟩:=Cn h2
  obtain ⟨ps,r3,h5,h6⟩:=Cn h4
  obtain ⟨rfl,rfl⟩:=DC h6
  have:=PK h3
  match ks,this with
  | [a],_ =>
    rw [WA l f r1 h1,PJ 1 r1 _ r2 h3,NI Zf0 r2 ps r3 h5]
    simp [eRs]
theorem WB {β : Type} {c c' : Int} (hc : c' ≠ c) : ∀ {l1 l2 : List (Int × β)},All2 (fun p q=>p.1 = q.1∧(p.1 ≠ c→p = q)) l1 l2→l1.find? (fun p=>p.1 == c') = l2.find? (fun p=>p.1 == c')
  | [],[],_=>rfl
  | p :: l1,q :: l2,⟨⟨h1,h2⟩,h3⟩=>by
    have ih:=WB hc h3
    rw [List.find?_cons,List.find?_cons,← h1]
    cases he : p.1 == c' with
    | true =>
      have : p.1 = c':=by simpa using he
      rw [h2 (by rw [this]; exact hc)]
    | false=>simpa using ih
theorem Do {m m' : Ms} {c c' : Int} (hc : c' ≠ c) (h : All2 (fun p q=>p.1 = q.1∧(p.1 ≠ c→p = q)) (wTab m') (wTab m)) : wOf m' c' = wOf m c':=by
  unfold wOf
  rw [WB hc h]
structure Fld (c : Int) (l r : BL) (g : Ms→Ms) : Prop where
  byt : ∀ m,l = wOf (g m) c ++ r
  oth : ∀ m c',c' ≠ c→wOf (g m) c' = wOf m c'
  hd : ∀ m,(g m).kind = m.kind∧(g m).src = m.src∧(g m).dst = m.dst
theorem K8 (n : Nat) : eN (n : Int) = enc n:=by unfold eN; rw [Int.toNat_natCast]
theorem Z6 {c : Int} (hc : c ∈ [113,98,116,108,118,101,109,97,110,99,112,102,114,111,115,119]) {l r : BL} {g : Ms→Ms} (h : rOf c l = .ok (g,r)) : Fld c l r g:=by
  have oth : ∀ {c : Int} {g : Ms→Ms},(∀ m c',c' ≠ c→wOf (g m) c' = wOf m c')→∀ m c',c' ≠ c→wOf (g m) c' = wOf m c':=fun h=>h
  simp only [List.mem_cons,List.not_mem_nil,or_false] at hc
  rcases hc with rfl | rfl | rfl | rfl | rfl | rfl | rfl | rfl | rfl | rfl | rfl | rfl | rfl | rfl | rfl | rfl
  · obtain ⟨n,h1,rfl⟩:=ES h
    exact ⟨fun m=>(Gq l n r h1).trans (by rw [show wOf _ 113 = eN (n : Int) from rfl,K8]),fun m c' hc=>Do hc ⟨⟨rfl,fun h=>absurd rfl h⟩,⟨rfl,fun _=>rfl⟩,⟨rfl,fun _=>rfl⟩,⟨rfl,fun _=>rfl⟩,⟨rfl,fun _=>rfl⟩,⟨rfl,fun _=>rfl⟩,⟨rfl,fun _=>rfl⟩,⟨rfl,fun _=>rfl⟩,⟨rfl,fun _=>rfl⟩,⟨rfl,fun _=>rfl⟩,⟨rfl,fun _=>rfl⟩,⟨rfl,fun _=>rfl⟩,⟨rfl,fun _=>rfl⟩,⟨rfl,fun _=>rfl⟩,⟨rfl,fun _=>rfl⟩,⟨rfl,fun _=>rfl⟩,trivial⟩,fun m=>⟨rfl,rfl,rfl⟩⟩
  · obtain ⟨n,h1,rfl⟩:=ES h
    exact ⟨fun m=>(Gq l n r h1).trans (by rw [show wOf _ 98 = eN (n : Int) from rfl,K8]),fun m c' hc=>Do hc ⟨⟨rfl,fun _=>rfl⟩,⟨rfl,fun h=>absurd rfl h⟩,⟨rfl,fun _=>rfl⟩,⟨rfl,fun _=>rfl⟩,⟨rfl,fun _=>rfl⟩,⟨rfl,fun _=>rfl⟩,⟨rfl,fun _=>rfl⟩,⟨rfl,fun _=>rfl⟩,⟨rfl,fun _=>rfl⟩,⟨rfl,fun _=>rfl⟩,⟨rfl,fun _=>rfl⟩,⟨rfl,fun _=>rfl⟩,⟨rfl,fun _=>rfl⟩,⟨rfl,fun _=>rfl⟩,⟨rfl,fun _=>rfl⟩,⟨rfl,fun _=>rfl⟩,trivial⟩,fun m=>⟨rfl,rfl,rfl⟩⟩
  · obtain ⟨n,h1,rfl⟩:=ES h
    exact ⟨fun m=>(Gq l n r h1).trans (by rw [show wOf _ 116 = eN (n : Int) from rfl,K8]),fun m c' hc=>Do hc ⟨⟨rfl,fun _=>rfl⟩,⟨rfl,fun _=>rfl⟩,⟨rfl,fun h=>absurd rfl h⟩,⟨rfl,fun _=>rfl⟩,⟨rfl,fun _=>rfl⟩,⟨rfl,fun _=>rfl⟩,⟨rfl,fun _=>rfl⟩,⟨rfl,fun _=>rfl⟩,⟨rfl,fun _=>rfl⟩,⟨rfl,fun _=>rfl⟩,⟨rfl,fun _=>rfl⟩,⟨rfl,fun _=>rfl⟩,⟨rfl,fun _=>rfl⟩,⟨rfl,fun _=>rfl⟩,⟨rfl,fun _=>rfl⟩,⟨rfl,fun _=>rfl⟩,trivial⟩,fun m=>⟨rfl,rfl,rfl⟩⟩
  · obtain ⟨n,h1,rfl⟩:=ES h
    exact ⟨fun m=>(Gq l n r h1).trans (by rw [show wOf _ 108 = eN (n : Int) from rfl,K8]),fun m c' hc=>Do hc ⟨⟨rfl,fun _=>rfl⟩,⟨rfl,fun _=>rfl⟩,⟨rfl,fun _=>rfl⟩,⟨rfl,fun h=>absurd rfl h⟩,⟨rfl,fun _=>rfl⟩,⟨rfl,fun _=>rfl⟩,⟨rfl,fun _=>rfl⟩,⟨rfl,fun _=>rfl⟩,⟨rfl,fun _=>rfl⟩,⟨rfl,fun _=>rfl⟩,⟨rfl,fun _=>rfl⟩,⟨rfl,fun _=>rfl⟩,⟨rfl,fun _=>rfl⟩,⟨rfl,fun _=>rfl⟩,⟨rfl,fun _=>rfl⟩,⟨rfl,fun _=>rfl⟩,trivial⟩,fun m=>⟨rfl,rfl,rfl⟩⟩
  · obtain ⟨n,h1,rfl⟩:=ES h
    exact ⟨fun m=>(Gq l n r h1).trans (by rw [show wOf _ 118 = eN (n : Int) from rfl,K8]),fun m c' hc=>Do hc ⟨⟨rfl,fun _=>rfl⟩,⟨rfl,fun _=>rfl⟩,⟨rfl,fun _=>rfl⟩,⟨rfl,fun _=>rfl⟩,⟨rfl,fun h=>absurd rfl h⟩,⟨rfl,fun _=>rfl⟩,⟨rfl,fun _=>rfl⟩,⟨rfl,fun _=>rfl⟩,⟨rfl,fun _=>rfl⟩,⟨rfl,fun _=>rfl⟩,⟨rfl,fun _=>rfl⟩,⟨rfl,fun _=>rfl⟩,⟨rfl,fun _=>rfl⟩,⟨rfl,fun _=>rfl⟩,⟨rfl,fun _=>rfl⟩,⟨rfl,fun _=>rfl⟩,trivial⟩,fun m=>⟨rfl,rfl,rfl⟩⟩
  · obtain ⟨n,h1,rfl⟩:=ES h
    exact ⟨fun m=>(Gq l n r h1).trans (by rw [show wOf _ 101 = eN (n : Int) from rfl,K8]),fun m c' hc=>Do hc ⟨⟨rfl,fun _=>rfl⟩,⟨rfl,fun _=>rfl⟩,⟨rfl,fun _=>rfl⟩,⟨rfl,fun _=>rfl⟩,⟨rfl,fun _=>rfl⟩,⟨rfl,fun h=>absurd rfl h⟩,⟨rfl,fun _=>rfl⟩,⟨rfl,fun _=>rfl⟩,⟨rfl,fun _=>rfl⟩,⟨rfl,fun _=>rfl⟩,⟨rfl,fun _=>rfl⟩,⟨rfl,fun _=>rfl⟩,⟨rfl,fun _=>rfl⟩,⟨rfl,fun _=>rfl⟩,⟨rfl,fun _=>rfl⟩,⟨rfl,fun _=>rfl⟩,trivial⟩,fun m=>⟨rfl,rfl,rfl⟩⟩
  · obtain ⟨n,h1,rfl⟩:=ES h
    exact ⟨fun m=>(Gq l n r h1).trans (by rw [show wOf _ 109 = eN (n : Int) from rfl,K8]),fun m c' hc=>Do hc ⟨⟨rfl,fun _=>rfl⟩,⟨rfl,fun _=>rfl⟩,⟨rfl,fun _=>rfl⟩,⟨rfl,fun _=>rfl⟩,⟨rfl,fun _=>rfl⟩,⟨rfl,fun _=>rfl⟩,⟨rfl,fun h=>absurd rfl h⟩,⟨rfl,fun _=>rfl⟩,⟨rfl,fun _=>rfl⟩,⟨rfl,fun _=>rfl⟩,⟨rfl,fun _=>rfl⟩,⟨rfl,fun _=>rfl⟩,⟨rfl,fun _=>rfl⟩,⟨rfl,fun _=>rfl⟩,⟨rfl,fun _=>rfl⟩,⟨rfl,fun _=>rfl⟩,trivial⟩,fun m=>⟨rfl,rfl,rfl⟩⟩
  · obtain ⟨n,h1,rfl⟩:=ES h
    exact ⟨fun m=>(Gq l n r h1).trans (by rw [show wOf _ 97 = eN (n : Int) from rfl,K8]),fun m c' hc=>Do hc ⟨⟨rfl,fun _=>rfl⟩,⟨rfl,fun _=>rfl⟩,⟨rfl,fun _=>rfl⟩,⟨rfl,fun _=>rfl⟩,⟨rfl,fun _=>rfl⟩,⟨rfl,fun _=>rfl⟩,⟨rfl,fun _=>rfl⟩,⟨rfl,fun h=>absurd rfl h⟩,⟨rfl,fun _=>rfl⟩,⟨rfl,fun _=>rfl⟩,⟨rfl,fun _=>rfl⟩,⟨rfl,fun _=>rfl⟩,⟨rfl,fun _=>rfl⟩,⟨rfl,fun _=>rfl⟩,⟨rfl,fun _=>rfl⟩,⟨rfl,fun _=>rfl⟩,trivial⟩,fun m=>⟨rfl,rfl,rfl⟩⟩
  · obtain ⟨n,h1,rfl⟩:=ES h
    exact ⟨fun m=>(Gq l n r h1).trans (by rw [show wOf _ 110 = eN (n : Int) from rfl,K8]),fun m c' hc=>Do hc ⟨⟨rfl,fun _=>rfl⟩,⟨rfl,fun _=>rfl⟩,⟨rfl,fun _=>rfl⟩,⟨rfl,fun _=>rfl⟩,⟨rfl,fun _=>rfl⟩,⟨rfl,fun _=>rfl⟩,⟨rfl,fun _=>rfl⟩,⟨rfl,fun _=>rfl⟩,⟨rfl,fun h=>absurd rfl h⟩,⟨rfl,fun _=>rfl⟩,⟨rfl,fun _=>rfl⟩,⟨rfl,fun _=>rfl⟩,⟨rfl,fun _=>rfl⟩,⟨rfl,fun _=>rfl⟩,⟨rfl,fun _=>rfl⟩,⟨rfl,fun _=>rfl⟩,trivial⟩,fun m=>⟨rfl,rfl,rfl⟩⟩
  · obtain ⟨n,h1,rfl⟩:=ES h
    exact ⟨fun m=>E5 l n r h1,fun m c' hc=>Do hc ⟨⟨rfl,fun _=>rfl⟩,⟨rfl,fun _=>rfl⟩,⟨rfl,fun _=>rfl⟩,⟨rfl,fun _=>rfl⟩,⟨rfl,fun _=>rfl⟩,⟨rfl,fun _=>rfl⟩,⟨rfl,fun _=>rfl⟩,⟨rfl,fun _=>rfl⟩,⟨rfl,fun _=>rfl⟩,⟨rfl,fun h=>absurd rfl h⟩,⟨rfl,fun _=>rfl⟩,⟨rfl,fun _=>rfl⟩,⟨rfl,fun _=>rfl⟩,⟨rfl,fun _=>rfl⟩,⟨rfl,fun _=>rfl⟩,⟨rfl,fun _=>rfl⟩,trivial⟩,fun m=>⟨rfl,rfl,rfl⟩⟩
  · obtain ⟨n,h1,rfl⟩:=ES h
    exact ⟨fun m=>E5 l n r h1,fun m c' hc=>Do hc ⟨⟨rfl,fun _=>rfl⟩,⟨rfl,fun _=>rfl⟩,⟨rfl,fun _=>rfl⟩,⟨rfl,fun _=>rfl⟩,⟨rfl,fun _=>rfl⟩,⟨rfl,fun _=>rfl⟩,⟨rfl,fun _=>rfl⟩,⟨rfl,fun _=>rfl⟩,⟨rfl,fun _=>rfl⟩,⟨rfl,fun _=>rfl⟩,⟨rfl,fun h=>absurd rfl h⟩,⟨rfl,fun _=>rfl⟩,⟨rfl,fun _=>rfl⟩,⟨rfl,fun _=>rfl⟩,⟨rfl,fun _=>rfl⟩,⟨rfl,fun _=>rfl⟩,trivial⟩,fun m=>⟨rfl,rfl,rfl⟩⟩
  · obtain ⟨n,h1,rfl⟩:=ES h
    exact ⟨fun m=>WA l n r h1,fun m c' hc=>Do hc ⟨⟨rfl,fun _=>rfl⟩,⟨rfl,fun _=>rfl⟩,⟨rfl,fun _=>rfl⟩,⟨rfl,fun _=>rfl⟩,⟨rfl,fun _=>rfl⟩,⟨rfl,fun _=>rfl⟩,⟨rfl,fun _=>rfl⟩,⟨rfl,fun _=>rfl⟩,⟨rfl,fun _=>rfl⟩,⟨rfl,fun _=>rfl⟩,⟨rfl,fun _=>rfl⟩,⟨rfl,fun h=>absurd rfl h⟩,⟨rfl,fun _=>rfl⟩,⟨rfl,fun _=>rfl⟩,⟨rfl,fun _=>rfl⟩,⟨rfl,fun _=>rfl⟩,trivial⟩,fun m=>⟨rfl,rfl,rfl⟩⟩
  · obtain ⟨ks,h1,rfl⟩:=ES h
    have:=PK h1
    match ks,this with
    | [a,b],_=>exact ⟨fun m=>PJ 2 l _ r h1,fun m c' hc=>Do hc ⟨⟨rfl,fun _=>rfl⟩,⟨rfl,fun _=>rfl⟩,⟨rfl,fun _=>rfl⟩,⟨rfl,fun _=>rfl⟩,⟨rfl,fun _=>rfl⟩,⟨rfl,fun _=>rfl⟩,⟨rfl,fun _=>rfl⟩,⟨rfl,fun _=>rfl⟩,⟨rfl,fun _=>rfl⟩,⟨rfl,fun _=>rfl⟩,⟨rfl,fun _=>rfl⟩,⟨rfl,fun _=>rfl⟩,⟨rfl,fun h=>absurd rfl h⟩,⟨rfl,fun _=>rfl⟩,⟨rfl,fun _=>rfl⟩,⟨rfl,fun _=>rfl⟩,trivial⟩,fun m=>⟨rfl,rfl,rfl⟩⟩
  · obtain ⟨n,h1,rfl⟩:=ES h
    exact ⟨fun m=>NI Zf1 l n r h1,fun m c' hc=>Do hc ⟨⟨rfl,fun _=>rfl⟩,⟨rfl,fun _=>rfl⟩,⟨rfl,fun _=>rfl⟩,⟨rfl,fun _=>rfl⟩,⟨rfl,fun _=>rfl⟩,⟨rfl,fun _=>rfl⟩,⟨rfl,fun _=>rfl⟩,⟨rfl,fun _=>rfl⟩,⟨rfl,fun _=>rfl⟩,⟨rfl,fun _=>rfl⟩,⟨rfl,fun _=>rfl⟩,⟨rfl,fun _=>rfl⟩,⟨rfl,fun _=>rfl⟩,⟨rfl,fun h=>absurd rfl h⟩,⟨rfl,fun _=>rfl⟩,⟨rfl,fun _=>rfl⟩,trivial⟩,fun m=>⟨rfl,rfl,rfl⟩⟩
  · obtain ⟨n,h1,rfl⟩:=ES h
    exact ⟨fun m=>NI Zf3 l n r h1,fun m c' hc=>Do hc ⟨⟨rfl,fun _=>rfl⟩,⟨rfl,fun _=>rfl⟩,⟨rfl,fun _=>rfl⟩,⟨rfl,fun _=>rfl⟩,⟨rfl,fun _=>rfl⟩,⟨rfl,fun _=>rfl⟩,⟨rfl,fun _=>rfl⟩,⟨rfl,fun _=>rfl⟩,⟨rfl,fun _=>rfl⟩,⟨rfl,fun _=>rfl⟩,⟨rfl,fun _=>rfl⟩,⟨rfl,fun _=>rfl⟩,⟨rfl,fun _=>rfl⟩,⟨rfl,fun _=>rfl⟩,⟨rfl,fun h=>absurd rfl h⟩,⟨rfl,fun _=>rfl⟩,trivial⟩,fun m=>⟨rfl,rfl,rfl⟩⟩
  · obtain ⟨n,h1,rfl⟩:=ES h
    exact ⟨fun m=>NI Zf2 l n r h1,fun m c' hc=>Do hc ⟨⟨rfl,fun _=>rfl⟩,⟨rfl,fun _=>rfl⟩,⟨rfl,fun _=>rfl⟩,⟨rfl,fun _=>rfl⟩,⟨rfl,fun _=>rfl⟩,⟨rfl,fun _=>rfl⟩,⟨rfl,fun _=>rfl⟩,⟨rfl,fun _=>rfl⟩,⟨rfl,fun _=>rfl⟩,⟨rfl,fun _=>rfl⟩,⟨rfl,fun _=>rfl⟩,⟨rfl,fun _=>rfl⟩,⟨rfl,fun _=>rfl⟩,⟨rfl,fun _=>rfl⟩,⟨rfl,fun _=>rfl⟩,⟨rfl,fun h=>absurd rfl h⟩,trivial⟩,fun m=>⟨rfl,rfl,rfl⟩⟩
theorem Ra : ∀ {cs : List Int} {m1 m : Ms} {l r : BL},(∀ c ∈ cs,c ∈ [113,98,116,108,118,101,109,97,110,99,112,102,114,111,115,119])→cs.Nodup→Iu cs m1 l = .ok (m,r)→l = cs.flatMap (wOf m) ++ r∧(∀ c,c ∉ cs→wOf m c = wOf m1 c)∧m.kind = m1.kind∧m.src = m1.src∧m.dst = m1.dst
  | [],m1,m,l,r,_,_,h=>by
    obtain ⟨rfl,rfl⟩:=DC h
    exact ⟨rfl,fun _ _=>rfl,rfl,rfl,rfl⟩
  | c :: cs,m1,m,l,r,hc,hn,h=>by
    obtain ⟨g,r1,h1,h2⟩:=Cn h
    obtain ⟨n1,n2⟩:=List.nodup_cons.1 hn
    have F:=Z6 (hc c (List.mem_cons_self ..)) h1
    obtain ⟨e1,e2,e3,e4,e5⟩:=Ra (fun c h=>hc c (List.mem_cons_of_mem _ h)) n2 h2
    obtain ⟨d1,d2,d3⟩:=F.hd m1
    refine ⟨?_,fun c' hc'=>?_,e3.trans d1,e4.trans d2,e5.trans d3⟩
    · rw [List.flatMap_cons,List.append_assoc,← e1,e2 c n1]
      exact F.byt m1
    · rw [e2 c' fun h=>hc' (List.mem_cons_of_mem _ h)]
      exact F.oth m1 c' fun h=>hc' (by rw [h]; exact List.mem_cons_self ..)
theorem Zd0 {l : BL} {m : Ms} (h : pMsg l = .ok (m,[])) : l = Dx m:=by
  obtain ⟨k,r1,h1,h2⟩:=Cn h
  cases hf : CI (k : Int) with
  | none=>rw [hf] at h2; cases h2
  | some p =>
    rw [hf] at h2
    obtain ⟨a,r2,h3,h4⟩:=Cn h2
    obtain ⟨b,r3,h5,h6⟩:=Cn h4
    have hm:=D8 hf
    have hl : ∀ c ∈ lets p.1,c ∈ [113,98,116,108,118,101,109,97,110,99,112,102,114,111,115,119]:=by
      have key : ∀ q ∈ AF,∀ c ∈ lets q.2.1,c ∈ [113,98,116,108,118,101,109,97,110,99,112,102,114,111,115,119]:=by decide
      exact key _ hm
    obtain ⟨e1,_,e3,e4,e5⟩:=Ra hl (Q8 hm) h6
    have e3 : m.kind = (k : Int):=e3
    have e4 : m.src = (a : Int):=e4
    have e5 : m.dst = (b : Int):=e5
    unfold Dx
    rw [e3,e4,e5,hf,E5 l k r1 h1,E5 r1 a r2 h3,E5 r2 b r3 h5,e1]
    simp
theorem ZbV {b : BL} {m : Ms} (h : decW b = .ok m) : B8 (Dx m) = b∧eMs m = 0:=by
  unfold decW at h
  split at h
  · cases h
  rename_i h0
  have h0 : (B4 b).2 = 0:=by simpa using h0
  unfold decB at h
  split at h
  · cases h
  · rename_i m' hp
    split at h
    · rename_i he
      cases h
      rw [← Zd0 hp]
      exact ⟨(Zj h0).1,he⟩
    · cases h
  · cases h
end Go.Proofs.YtmbhnbladmpnoaaGreat.Ab

/- Pairs,maps: whether two are the same. -/
namespace Go.Proofs.YtmbhnbladmpnoaaGreat.Ab
open Go
theorem Zd1 (o1 o2 : Operand) (a b : Bool) : abin Tryz.prog .eql 4 o1 o2 (.bool a) (.bool b) = some (.bool (a == b)):=by
  unfold abin
  rw [Tryz.underlying4]
  rfl
theorem Zd2 (o1 o2 : Operand) (a b : Bool) : abin Tryz.prog .neq 4 o1 o2 (.bool a) (.bool b) = some (.bool (a != b)):=by
  unfold abin
  rw [Tryz.underlying4]
  rfl
theorem Zf4 (o1 o2 : Operand) (a b : Rg) : abin Tryz.prog .eql 89 o1 o2 (rv a) (rv b) = some (.bool (a.1 == b.1 && a.2 == b.2)):=by
  have hu:=O5 Tryz.underlying89
  have hg : AP Tryz.prog (eqGuard .eql 89 o1 o2 (.agg #[sv a.1,sv a.2]) (.agg #[sv b.1,sv b.2])) = some ():=by kernel_rfl
  have hh : Tryz.prog.stoodInHeld 89 = false:=by kernel_rfl
  have hp : ∀ x y : BL,AP Tryz.prog (part 9 #[sv x,sv y] 0) = some (sv x)∧AP Tryz.prog (part 9 #[sv x,sv y] 1) = some (sv y):=fun x y=>by
    refine ⟨?_,?_⟩ <;> kernel_rfl
  have he : ∀ (n : Nat) (x y : BL),AP Tryz.prog (Op.equalIn (n + 1) 9 (sv x) (sv y)) = some (x == y):=fun n x y=>by
    unfold sv
    rw [YB Tryz.underlying9,O6]
  unfold abin LU rv
  simp only
  have hc : (A0 (.agg #[sv a.1,sv a.2]) && A0 (.agg #[sv b.1,sv b.2])) = true:=rfl
  rw [if_pos hc,Bd,hg]
  simp only [Option.bind_some,binOp]
  rw [Bd]
  have key : AP Tryz.prog (Op.equal 89 (.agg #[sv a.1,sv a.2]) (.agg #[sv b.1,sv b.2])) = some (a.1 == b.1 && a.2 == b.2):=by
    unfold Op.equal Op.maxDepth Op.equalIn
    rw [Bd,hu]
    simp only [Option.bind_some]
    rw [Bd,IK]
    simp only [Option.bind_some,hh,Bool.false_eq_true,if_false,Bd]
    have hKey : ("Key" ≠ "_") = True:=by simp
    have hValue : ("Value" ≠ "_") = True:=by simp
    simp only [List.forIn_toArray,List.forIn_cons,List.forIn_nil]
    cases h1 : (a.1 == b.1)
    · simp only [Option.bind_some,Bd,Ei,Nat.reduceAdd,hKey,hValue,if_true,(hp _ _).1,(hp _ _).2,he,Bool.not_true,Bool.not_false,Bool.false_eq_true,if_false,Bool.true_and,Bool.false_and,Bool.and_true,h1]
    cases h2 : (a.2 == b.2)
    · simp only [Option.bind_some,Bd,Ei,Nat.reduceAdd,hKey,hValue,if_true,(hp _ _).1,(hp _ _).2,he,Bool.not_true,Bool.not_false,Bool.false_eq_true,if_false,Bool.true_and,Bool.false_and,Bool.and_true,h1,h2]
    · simp only [Option.bind_some,Bd,Ei,Nat.reduceAdd,hKey,hValue,if_true,(hp _ _).1,(hp _ _).2,he,Bool.not_true,Bool.not_false,Bool.false_eq_true,if_false,Bool.true_and,Bool.false_and,Bool.and_true,h1,h2]
  rw [key]
  rfl
theorem Zf5 (o1 o2 : Operand) (a b : Rg) : abin Tryz.prog .neq 89 o1 o2 (rv a) (rv b) = some (.bool (!(a.1 == b.1 && a.2 == b.2))):=by
  have hu:=O5 Tryz.underlying89
  have hg : AP Tryz.prog (eqGuard .neq 89 o1 o2 (.agg #[sv a.1,sv a.2]) (.agg #[sv b.1,sv b.2])) = some ():=by kernel_rfl
  have h0:=Zf4 o1 o2 a b
  have hg0 : AP Tryz.prog (eqGuard .eql 89 o1 o2 (.agg #[sv a.1,sv a.2]) (.agg #[sv b.1,sv b.2])) = some ():=by kernel_rfl
  unfold abin LU rv at h0 ⊢
  simp only at h0 ⊢
  have hc : (A0 (.agg #[sv a.1,sv a.2]) && A0 (.agg #[sv b.1,sv b.2])) = true:=rfl
  rw [if_pos hc,Bd,hg0] at h0
  rw [if_pos hc,Bd,hg]
  simp only [Option.bind_some,binOp,Bd,Ei] at h0 ⊢
  cases e : AP Tryz.prog (Op.equal 89 (.agg #[sv a.1,sv a.2]) (.agg #[sv b.1,sv b.2])) with
  | none=>rw [e] at h0; cases h0
  | some r =>
    rw [e] at h0
    simp only [Option.bind_some] at h0 ⊢
    cases h0
    rfl
theorem Z7 {R : Aa} {v w : Value} {s : St} {a b : List Rg} (ha : Bj prC v s = some a) (hb : Bj prC w s = some b) (hab : a.length = b.length) (hl : a.length < 140737488355328) : ∀ (ra rb : List Rg) (i : Nat),a.drop i = ra→b.drop i = rb→i ≤ a.length →
    AS (Ce.b0 R) [v,w,.int .i64 ((a.length : Nat) : Int),.int .i64 (i : Int)] s = some (if ra = rb then (.exit 0,[],s) else (.ret,[.bool false],s)):=by
  intro ra
  induction ra with
  | nil =>
    intro rb i h1 h2 hle
    have hge:=List.drop_eq_nil_iff.1 h1
    have hrb : rb = []:=by rw [← h2]; exact List.drop_eq_nil_of_le (by omega)
    have hd : decide ((i : Int) < ((a.length : Nat) : Int)) = false:=by simp; omega
    rw [hrb,if_pos rfl,Ar]
    simp only [Ce.b0,hd,EVs]
  | cons p ra ih =>
    intro rb i h1 h2 hle
    obtain ⟨hlt,he,hd⟩:=E1 h1
    have hdc : decide ((i : Int) < ((a.length : Nat) : Int)) = true:=by simp; omega
    cases rb with
    | nil =>
      have:=List.drop_eq_nil_iff.1 h2
      omega
    | cons q rb =>
      obtain ⟨hlt2,he2,hd2⟩:=E1 h2
      obtain ⟨x,a1,a2⟩:=Lr (s:=frzS s) (by rw [RG]; exact ha) hlt (k:=.i64) (n:=2) rfl
      obtain ⟨y,b1,b2⟩:=Lr (s:=frzS s) (by rw [RG]; exact hb) hlt2 (k:=.i64) (n:=2) rfl
      rw [Zce,he] at a2
      rw [Zce,he2] at b2
      have key:=ih rb (i + 1) hd hd2 (by omega)
      rw [Ar]
      simp only [Ce.b0,hdc,a1,a2,b1,b2,Zf5,EVs]
      by_cases e : p = q
      · subst e
        have e1 : (!(p.1 == p.1 && p.2 == p.2)) = false:=by simp
        simp only [e1,Ej (show i < 140737488355328 by omega),EVs]
        rw [key]
        simp
      · have e1 : (!(p.1 == q.1 && p.2 == q.2)) = true:=by
          simp only [Bool.not_eq_true',Bool.and_eq_false_iff,beq_eq_false_iff_ne]
          by_cases c : p.1 = q.1
          · exact .inr fun d=>e (Prod.ext c d)
          · exact .inl c
        simp only [e1,EVs]
        rw [if_neg fun c=>e (List.cons.inj c).1]
theorem ZbW {R : Aa} {v w : Value} {s : St} {a b : List Rg} (ha : Bj prC v s = some a) (hb : Bj prC w s = some b) (hl : a.length < 140737488355328) : Ce R v w s = some (.bool (decide (a = b)),s):=by
  unfold Ce
  simp only [Dd ha,Dd hb,EVs]
  by_cases e : a.length = b.length
  · have h1:=Z7 (R:=R) ha hb e hl a b 0 rfl rfl (Nat.zero_le _)
    rw [show ((0 : Nat) : Int) = 0 from rfl] at h1
    have e1 : (((a.length : Nat) : Int) != ((b.length : Nat) : Int)) = false:=by simp [e]
    simp only [e1,h1,EVs]
    by_cases c : a = b
    · rw [if_pos c]
      simp only [c,EVs,retV]
      rfl
    · rw [if_neg c]
      simp only [c,EVs,retV]
      rfl
  · have e1 : (((a.length : Nat) : Int) != ((b.length : Nat) : Int)) = true:=by simp; omega
    have e2 : ¬ a = b:=fun h=>e (by rw [h])
    simp only [e1,e2,EVs,retV]
    rfl
end Go.Proofs.YtmbhnbladmpnoaaGreat.Ab

/- Two that hold the same message are the same: the document's comparison. -/
namespace Go.Proofs.YtmbhnbladmpnoaaGreat.Ab
open Go
set_option maxRecDepth 10000
theorem Fd {α : Type} {C : NCod α} {B : Nat} {l : List α} {s : St} {v : Value} (h : By C B l s v) {i : Nat} (hi : i < l.length) {n : Nat} (hn : n = C.n) : ∃ (b : Nat) (cs : List Value),Az n v (.int .i64 (i : Int)) = some (.pointer (some ⟨b,i * n,none⟩))∧C.rel l[i] s cs∧cs.length = n∧Aj true n (.pointer (some ⟨b,i * n,none⟩)) s = some (.agg cs.toArray)∧Aj true n (.pointer (some ⟨b,i * n,none⟩)) (frzS s) = some (.agg cs.toArray)∧∀ j x,cs[j]? = some x→Aj false 1 (.pointer (some ⟨b,i * n + j,none⟩)) (frzS s) = some x:=by
  subst hn
  obtain ⟨b,cells,c,rfl,h1,h2,h3,h4⟩:=TG h hi
  have h1f : readRow (frzS s) b = some cells:=by rw [CD]; exact h1
  have hle : (i + 1) * C.n ≤ cells.length:=by rw [h2]; exact Nat.mul_le_mul_right _ hi
  rw [Nat.add_mul,Nat.one_mul] at hle
  have hcl:=C.len h4
  refine ⟨b,c,by simp [Az]; omega,h4,hcl,?_,?_,fun j x hx=>?_⟩
  · simp only [Aj,if_true,readN,h1,Option.bind_some]
    rw [if_pos hle,h3]
    rfl
  · simp only [Aj,if_true,readN,h1f,Option.bind_some]
    rw [if_pos hle,h3]
    rfl
  · simp only [Aj,h1f,Option.bind_some,Bool.false_eq_true,if_false]
    have hj : j < c.length:=(List.getElem?_eq_some_iff.1 hx).1
    rw [← h3,List.getElem?_take,if_pos (by omega),List.getElem?_drop] at hx
    exact hx
theorem Zd3 (o1 o2 : Operand) (a : OpT) : abin Tryz.prog .neq 69 o1 o2 (oV a) (oV a) = some (.bool false):=by
  have hg : AP Tryz.prog (eqGuard .neq 69 o1 o2 (.agg (opC.enc a).toArray) (.agg (opC.enc a).toArray)) = some ():=by kernel_rfl
  have key : ∀ m n,m = n + 2→AP Tryz.prog (Op.equalIn m 69 (oV a) (oV a)) = some ([a.kind == a.kind,a.key == a.key,a.val == a.val,a.lo == a.lo,a.hi == a.hi,a.most == a.most].all id):=fun m n h=>by
    subst h
    exact Pv Tryz.underlying69 (by kernel_rfl) ⟨by decide,⟨_,_,by kernel_rfl,by kernel_rfl,Zu Tryz.underlying3⟩,by decide,⟨_,_,by kernel_rfl,by kernel_rfl,Pw _ _ _⟩,by decide,⟨_,_,by kernel_rfl,by kernel_rfl,Pw _ _ _⟩,by decide,⟨_,_,by kernel_rfl,by kernel_rfl,Pw _ _ _⟩,by decide,⟨_,_,by kernel_rfl,by kernel_rfl,Pw _ _ _⟩,by decide,⟨_,_,by kernel_rfl,by kernel_rfl,Zu Tryz.underlying3⟩,trivial⟩
  have:=Zt (xs:=opC.enc a) (ys:=opC.enc a) (opC.leaf a) (opC.leaf a) hg (by unfold Op.equal; exact key _ 9998 Zv)
  exact this.trans (by simp)
theorem Zd4 (o1 o2 : Operand) (a : Ow) : abin Tryz.prog .neq 91 o1 o2 (owV a) (owV a) = some (.bool false):=by
  have hg : AP Tryz.prog (eqGuard .neq 91 o1 o2 (.agg (owC.enc a).toArray) (.agg (owC.enc a).toArray)) = some ():=by kernel_rfl
  have key : ∀ m n,m = n + 2→AP Tryz.prog (Op.equalIn m 91 (owV a) (owV a)) = some ([a.1 == a.1,a.2 == a.2].all id):=fun m n h=>by
    subst h
    exact Pv Tryz.underlying91 (by kernel_rfl) ⟨by decide,⟨_,_,by kernel_rfl,by kernel_rfl,Pw _ _ _⟩,by decide,⟨_,_,by kernel_rfl,by kernel_rfl,Zu Tryz.underlying3⟩,trivial⟩
  have:=Zt (xs:=owC.enc a) (ys:=owC.enc a) (owC.leaf a) (owC.leaf a) hg (by unfold Op.equal; exact key _ 9998 Zv)
  exact this.trans (by simp)
section
variable {v w : Value} {s : St}
theorem Up {l : List OpT} (hv : By (.ofC opC fun _=>True) 80 l s v) (hw : By (.ofC opC fun _=>True) 80 l s w) (hl : l.length < 140737488355328) : ∀ (rest : List OpT) (i : Nat),l.drop i = rest→i ≤ l.length →
    AS (Cc.b0 (run Tryz.prog (libL libT) Ad)) [v,w,.int .i64 ((l.length : Nat) : Int),.int .i64 (i : Int)] s = some (.exit 0,[],s):=by
  intro rest
  induction rest with
  | nil =>
    intro i h1 hle
    have:=List.drop_eq_nil_iff.1 h1
    have hd : decide ((i : Int) < ((l.length : Nat) : Int)) = false:=by simp; omega
    rw [Ar]
    simp only [Cc.b0,hd,EVs]
  | cons o rest ih =>
    intro i h1 hle
    obtain ⟨hi,he,hd⟩:=NG h1
    have hdc : decide ((i : Int) < ((l.length : Nat) : Int)) = true:=by simp; omega
    obtain ⟨b,cs,a1,a2,a3,a4,a5,a6⟩:=Fd hv hi (n:=6) rfl
    obtain ⟨b',cs',b1,b2,b3,b4,b5,b6⟩:=Fd hw hi (n:=6) rfl
    obtain ⟨rfl,_⟩:=a2
    obtain ⟨rfl,_⟩:=b2
    have hs : ∀ o1 o2,abin Tryz.prog .neq 69 o1 o2 (.agg (opC.enc l[i]).toArray) (.agg (opC.enc l[i]).toArray) = some (.bool false):=fun o1 o2=>Zd3 o1 o2 l[i]
    rw [Ar,← ih (i + 1) hd hi]
    simp only [Cc.b0,hdc,a1,a5,b1,b5,hs,Ej (show i < 140737488355328 by omega),EVs]
theorem Vz {l : List OpT} (hv : By (.ofC opC fun _=>True) 80 l s v) (hw : By (.ofC opC fun _=>True) 80 l s w) : (run Tryz.prog (libL libT) Ad) 41 [v,w] s = some (.bool true,s):=by
  have hl : l.length < 140737488355328:=DS (by decide) hv
  have h1 : AS (Cc.b0 (run Tryz.prog (libL libT) Ad)) [v,w,.int .i64 ((l.length : Nat) : Int),.int .i64 0] s = some (.exit 0,[],s):=Up hv hw hl l 0 rfl (Nat.zero_le _)
  have hr : retV [.bool true] s = some (.bool true,s):=ret1 rfl
  refine MG rfl ?_
  unfold Cc
  simp only [A9 hv,A9 hw,bne_self_eq_false,h1,hr,EVs]
theorem VB {l : List Ow} (hv : By (.ofC owC fun _=>True) 24 l s v) (hw : By (.ofC owC fun _=>True) 24 l s w) (hl : l.length < 140737488355328) : ∀ (rest : List Ow) (i : Nat),l.drop i = rest→i ≤ l.length →
    AS (DQ.b0 (run Tryz.prog (libL libT) Ad)) [v,w,.int .i64 ((l.length : Nat) : Int),.int .i64 (i : Int)] s = some (.exit 0,[],s):=by
  intro rest
  induction rest with
  | nil =>
    intro i h1 hle
    have:=List.drop_eq_nil_iff.1 h1
    have hd : decide ((i : Int) < ((l.length : Nat) : Int)) = false:=by simp; omega
    rw [Ar]
    simp only [DQ.b0,hd,EVs]
  | cons o rest ih =>
    intro i h1 hle
    obtain ⟨hi,he,hd⟩:=NG h1
    have hdc : decide ((i : Int) < ((l.length : Nat) : Int)) = true:=by simp; omega
    obtain ⟨b,cs,a1,a2,a3,a4,a5,a6⟩:=Fd hv hi (n:=2) rfl
    obtain ⟨b',cs',b1,b2,b3,b4,b5,b6⟩:=Fd hw hi (n:=2) rfl
    obtain ⟨rfl,_⟩:=a2
    obtain ⟨rfl,_⟩:=b2
    have hs : ∀ o1 o2,abin Tryz.prog .neq 91 o1 o2 (.agg (owC.enc l[i]).toArray) (.agg (owC.enc l[i]).toArray) = some (.bool false):=fun o1 o2=>Zd4 o1 o2 l[i]
    rw [Ar,← ih (i + 1) hd hi]
    simp only [DQ.b0,hdc,a1,a5,b1,b5,hs,Ej (show i < 140737488355328 by omega),EVs]
theorem XR {l : List Ow} (hv : By (.ofC owC fun _=>True) 24 l s v) (hw : By (.ofC owC fun _=>True) 24 l s w) : (run Tryz.prog (libL libT) Ad) 43 [v,w] s = some (.bool true,s):=by
  have hl : l.length < 140737488355328:=DS (by decide) hv
  have h1 : AS (DQ.b0 (run Tryz.prog (libL libT) Ad)) [v,w,.int .i64 ((l.length : Nat) : Int),.int .i64 0] s = some (.exit 0,[],s):=VB hv hw hl l 0 rfl (Nat.zero_le _)
  have hr : retV [.bool true] s = some (.bool true,s):=ret1 rfl
  refine RL rfl ?_
  unfold DQ
  simp only [A9 hv,A9 hw,bne_self_eq_false,h1,hr,EVs]
theorem Z8 {l : List Rg} (hv : By (.ofC prC fun _=>True) 32 l s v) (hw : By (.ofC prC fun _=>True) 32 l s w) : (run Tryz.prog (libL libT) Ad) 128 [v,w] s = some (.bool true,s):=by
  have hl : l.length < 140737488355328:=DS (by decide) hv
  have:=Nj (lib:=libL libT) rfl (ZbW (R:=(run Tryz.prog (libL libT) Ad)) (By.plain hv).1 (By.plain hw).1 hl)
  rw [decide_eq_true rfl] at this
  exact this
theorem VC {l : List Rs} (hv : By rsN 48 l s v) (hw : By rsN 48 l s w) (hl : l.length < 140737488355328) : ∀ (rest : List Rs) (i : Nat),l.drop i = rest→i ≤ l.length →
    AS (Bs.b0 (run Tryz.prog (libL libT) Ad)) [v,w,.int .i64 ((l.length : Nat) : Int),.int .i64 (i : Int)] s = some (.exit 0,[],s):=by
  intro rest
  induction rest with
  | nil =>
    intro i h1 hle
    have:=List.drop_eq_nil_iff.1 h1
    have hd : decide ((i : Int) < ((l.length : Nat) : Int)) = false:=by simp; omega
    rw [Ar]
    simp only [Bs.b0,hd,EVs]
  | cons o rest ih =>
    intro i h1 hle
    obtain ⟨hi,he,hd⟩:=NG h1
    have hdc : decide ((i : Int) < ((l.length : Nat) : Int)) = true:=by simp; omega
    obtain ⟨b,cs,a1,a2,a3,a4,a5,a6⟩:=Fd hv hi (n:=3) rfl
    obtain ⟨b',cs',b1,b2,b3,b4,b5,b6⟩:=Fd hw hi (n:=3) rfl
    obtain ⟨p,rfl,hp⟩:=Wu a2
    obtain ⟨q,rfl,hq⟩:=Wu b2
    have hm:=Z8 hp hq
    have e1 : ∀ o1 o2,abin Tryz.prog .neq 4 o1 o2 (.bool l[i].1) (.bool l[i].1) = some (.bool false):=fun o1 o2=>by rw [Zd2]; simp
    have e2 : ∀ o1 o2,abin Tryz.prog .neq 9 o1 o2 (sv l[i].2.1) (sv l[i].2.1) = some (.bool false):=fun o1 o2=>by
      have:=H3 (P:=Tryz.prog) (t:=9) (ox:=o1) (oy:=o2) (a:=l[i].2.1) (b:=l[i].2.1)
      rw [show (!(l[i].2.1 == l[i].2.1)) = false by simp] at this
      exact this
    rw [Ar,← ih (i + 1) hd hi]
    simp only [Bs.b0,hdc,a1,b1,Un,a6 0 _ rfl,a6 1 _ rfl,a6 2 _ rfl,b6 0 _ rfl,b6 1 _ rfl,b6 2 _ rfl,e1,e2,KP,hm,Wx,Bool.not_true,Ej (show i < 140737488355328 by omega),EVs]
theorem XS {l : List Rs} (hv : By rsN 48 l s v) (hw : By rsN 48 l s w) : (run Tryz.prog (libL libT) Ad) 42 [v,w] s = some (.bool true,s):=by
  have hl : l.length < 140737488355328:=DS (by decide) hv
  have h1 : AS (Bs.b0 (run Tryz.prog (libL libT) Ad)) [v,w,.int .i64 ((l.length : Nat) : Int),.int .i64 0] s = some (.exit 0,[],s):=VC hv hw hl l 0 rfl (Nat.zero_le _)
  have hr : retV [.bool true] s = some (.bool true,s):=ret1 rfl
  refine IT rfl ?_
  unfold Bs
  simp only [A9 hv,A9 hw,bne_self_eq_false,h1,hr,EVs]
end
end Go.Proofs.YtmbhnbladmpnoaaGreat.Ab

/- Two that hold the same message are the same: the whole. -/
namespace Go.Proofs.YtmbhnbladmpnoaaGreat.Ab
open Go
set_option maxRecDepth 10000
def L9 : BL:=[113,98,116,108,118,101,109,97,110]
def nums (m : Ms) : List Int:=[m.req,m.boot,m.txn,m.low,m.ver,m.epoch,m.move,m.attempt,m.num]
theorem Zd5 {R : Aa} {M : Nat} {t : St} : BQ R (mp M) (.int .u8 113) t = some (.pointer (some ⟨M,6,none⟩),t):=by
  kernel_rfl
theorem Zd6 {R : Aa} {M : Nat} {t : St} : BQ R (mp M) (.int .u8 98) t = some (.pointer (some ⟨M,7,none⟩),t):=by
  kernel_rfl
theorem Zd7 {R : Aa} {M : Nat} {t : St} : BQ R (mp M) (.int .u8 116) t = some (.pointer (some ⟨M,8,none⟩),t):=by
  kernel_rfl
theorem Zd8 {R : Aa} {M : Nat} {t : St} : BQ R (mp M) (.int .u8 108) t = some (.pointer (some ⟨M,9,none⟩),t):=by
  kernel_rfl
theorem Zd9 {R : Aa} {M : Nat} {t : St} : BQ R (mp M) (.int .u8 118) t = some (.pointer (some ⟨M,10,none⟩),t):=by
  kernel_rfl
theorem Zea {R : Aa} {M : Nat} {t : St} : BQ R (mp M) (.int .u8 101) t = some (.pointer (some ⟨M,11,none⟩),t):=by
  kernel_rfl
theorem Zeb {R : Aa} {M : Nat} {t : St} : BQ R (mp M) (.int .u8 109) t = some (.pointer (some ⟨M,12,none⟩),t):=by
  kernel_rfl
theorem Zec {R : Aa} {M : Nat} {t : St} : BQ R (mp M) (.int .u8 97) t = some (.pointer (some ⟨M,13,none⟩),t):=by
  kernel_rfl
theorem Zed {R : Aa} {M : Nat} {t : St} : BQ R (mp M) (.int .u8 110) t = some (.pointer (some ⟨M,14,none⟩),t):=by
  kernel_rfl
theorem XT {R : Aa} {M i : Nat} {t : St} (hi : i < 9) : BQ R (mp M) (.int .u8 (((L9.getD i 0).toNat : Nat) : Int)) t = some (.pointer (some ⟨M,6 + i,none⟩),t):=by
  match i,hi with
  | 0,_=>exact Zd5
  | 1,_=>exact Zd6
  | 2,_=>exact Zd7
  | 3,_=>exact Zd8
  | 4,_=>exact Zd9
  | 5,_=>exact Zea
  | 6,_=>exact Zeb
  | 7,_=>exact Zec
  | 8,_=>exact Zed
theorem Uq {m : Ms} {vo vr vw : Value} {i : Nat} (hi : i < 9) : (msC m vo vr vw)[6 + i]? = some (.int .u64 ((nums m).getD i 0)):=by
  match i,hi with
  | 0,_=>rfl
  | 1,_=>rfl
  | 2,_=>rfl
  | 3,_=>rfl
  | 4,_=>rfl
  | 5,_=>rfl
  | 6,_=>rfl
  | 7,_=>rfl
  | 8,_=>rfl
theorem XU {α : Type} {v : α} {s : St} : Dp s (v,frzS s) = (v,s):=by
  unfold Dp
  have : (frzS s).heap.length = s.heap.length:=by
    unfold frzS
    exact Bk
  simp only
  rw [List.drop_eq_nil_of_le (by omega),List.append_nil]
section
variable {m : Ms} {s : St} {A B : Nat} {vo vr vw vo' vr' vw' v : Value} (hA : readRow s A = some (msC m vo vr vw)) (hB : readRow s B = some (msC m vo' vr' vw')) (hv : bytesOf v s = some L9)
include hA hB hv
theorem VD : ∀ (d i : Nat),i + d = 9→AS (Eg.b0 (run Tryz.prog (libL libT) Ad)) [mp A,mp B,v,.int .i64 9,.int .i64 (i : Int)] s = some (.exit 0,[mp A,mp B],s):=by
  intro d
  induction d with
  | zero =>
    intro i hi
    have h1 : decide ((i : Int) < 9) = false:=by simp; omega
    rw [Ar]
    simp only [Eg.b0,h1,EVs]
  | succ d ih =>
    intro i hi
    have h1 : decide ((i : Int) < 9) = true:=by simp; omega
    have hi9 : i < 9:=by omega
    obtain ⟨p,f1,f2⟩:=CU hv (i:=i) hi9 (k:=.i64)
    have hg : L9[i]'hi9 = L9.getD i 0:=by rw [List.getD_eq_getElem?_getD,List.getElem?_eq_getElem hi9]; rfl
    rw [hg] at f2
    have n1 : ∀ M t,(run Tryz.prog (libL libT) Ad) 40 [mp M,.int .u8 (((L9.getD i 0).toNat : Nat) : Int)] t = some (.pointer (some ⟨M,6 + i,none⟩),t):=fun M t=>Ou rfl (XT hi9)
    have e : ∀ M,Ah (.pointer (some ⟨M,6 + i,none⟩)) = some (.pointer (some ⟨M,6 + i,none⟩)):=fun M=>rfl
    have lA : Aj false 1 (.pointer (some ⟨A,6 + i,none⟩)) (frzS s) = some (.int .u64 ((nums m).getD i 0)):=Cv (by rw [CD]; exact hA) (Uq hi9)
    have lB : Aj false 1 (.pointer (some ⟨B,6 + i,none⟩)) (frzS s) = some (.int .u64 ((nums m).getD i 0)):=Cv (by rw [CD]; exact hB) (Uq hi9)
    rw [Ar,← ih (i + 1) (by omega)]
    simp only [Eg.b0,h1,f1,f2,Lv,n1,Wx,e,lA,lB,XU,Option.map_some,bne_self_eq_false,Ej (show i < 140737488355328 by omega),EVs]
end
theorem ZbX {m : Ms} {s : St} {vo vr vw vo' vr' vw' : Value} (h : MsV m s vo vr vw) (h' : MsV m s vo' vr' vw') : ∃ t,(run Tryz.prog (libL libT) Ad) 15 [mV m vo vr vw,mV m vo' vr' vw'] s = some (.bool true,t)∧Ext s.heap.length s t:=by
  have hc : ∀ a b c,Ao (mV m a b c) = msC m a b c:=fun a b c=>by simp [Ao]
  have n1 : anew (msC m vo vr vw) s = some (mp s.heap.length,s.push (.row 0 (msC m vo vr vw) .act)):=by unfold anew; rw [if_pos h.leaf]
  have x1 : Ext s.heap.length s (s.push (.row 0 (msC m vo vr vw) .act)):=.push _ (Nat.le_refl _) _
  have hA : readRow (s.push (.row 0 (msC m vo vr vw) .act)) s.heap.length = some (msC m vo vr vw):=D6 AC (by simp)
  generalize s.push (.row 0 (msC m vo vr vw) .act) = s1 at *
  have n2 : anew (msC m vo' vr' vw') s1 = some (mp s1.heap.length,s1.push (.row 0 (msC m vo' vr' vw') .act)):=by unfold anew; rw [if_pos h'.leaf]
  have x2 : Ext s1.heap.length s1 (s1.push (.row 0 (msC m vo' vr' vw') .act)):=.push _ (Nat.le_refl _) _
  have hB : readRow (s1.push (.row 0 (msC m vo' vr' vw') .act)) s1.heap.length = some (msC m vo' vr' vw'):=D6 AC (by simp)
  have hA2:=BB x2 hA
  generalize s1.push (.row 0 (msC m vo' vr' vw') .act) = s2 at *
  have n3 : As 1 [(.int .u8 0)] 9 [(0,(.int .u8 113)),(1,(.int .u8 98)),(2,(.int .u8 116)),(3,(.int .u8 108)),(4,(.int .u8 118)),(5,(.int .u8 101)),(6,(.int .u8 109)),(7,(.int .u8 97)),(8,(.int .u8 110))] s2 = some (Af L9 s2):=rfl
  have x3 : Ext s2.heap.length s2 (Af L9 s2).2:=AZ (Nat.le_refl _)
  have n4 : SQ (Af L9 s2).1 (Af L9 s2).2 = some (Af L9 s2).1:=by
    simp only [Af,L9,SQ,List.length_cons,AC]
  have hv : bytesOf (Af L9 s2).1 (Af L9 s2).2 = some L9:=Bb
  have hlen : ∀ t s,AG (.slice t) (Af L9 s2).1 s = some (.int .i64 9):=fun _ _=>rfl
  have hA3:=BB x3 hA2
  have hB3:=BB x3 hB
  have xx : Ext s.heap.length s (Af L9 s2).2:=(x1.trans (x2.less x1.1)).trans (x3.less (Nat.le_trans x1.1 x2.1))
  generalize Af L9 s2 = r2 at *
  obtain ⟨v,t⟩:=r2
  have hl:=VD hA3 hB3 hv 9 0 rfl
  rw [show ((0 : Nat) : Int) = 0 from rfl] at hl
  have hm:=h.ext xx
  have hm':=h'.ext xx
  have a1 : ∀ b i,Ac i (mp b) = some (.pointer (some ⟨b,i,none⟩)):=fun b i=>by simp [Ac]
  have ld : ∀ {i : Nat} {c : Value},(msC m vo vr vw)[i]? = some c→Aj false 1 (.pointer (some ⟨s.heap.length,i,none⟩)) t = some c:=fun hi=>Cv hA3 hi
  have ld' : ∀ {i : Nat} {c : Value},(msC m vo' vr' vw')[i]? = some c→Aj false 1 (.pointer (some ⟨s1.heap.length,i,none⟩)) t = some c:=fun hi=>Cv hB3 hi
  have r1 : Aj true 2 (.pointer (some ⟨s.heap.length,16,none⟩)) t = some (rv m.rg):=Zw hA3 rfl rfl
  have r2 : Aj true 2 (.pointer (some ⟨s1.heap.length,16,none⟩)) t = some (rv m.rg):=Zw hB3 rfl rfl
  have b0 : Aj false 1 (.pointer (some ⟨s.heap.length,0,none⟩)) t = some (.int .i64 m.kind):=ld rfl
  have b1 : Aj false 1 (.pointer (some ⟨s.heap.length,1,none⟩)) t = some (.int .i64 m.src):=ld rfl
  have b2 : Aj false 1 (.pointer (some ⟨s.heap.length,2,none⟩)) t = some (.int .i64 m.dst):=ld rfl
  have b3 : Aj false 1 (.pointer (some ⟨s.heap.length,3,none⟩)) t = some (.int .i64 m.client):=ld rfl
  have b4 : Aj false 1 (.pointer (some ⟨s.heap.length,4,none⟩)) t = some (.int .i64 m.code):=ld rfl
  have b5 : Aj false 1 (.pointer (some ⟨s.heap.length,5,none⟩)) t = some (.int .i64 m.peer):=ld rfl
  have b15 : Aj false 1 (.pointer (some ⟨s.heap.length,15,none⟩)) t = some (.bool m.flag):=ld rfl
  have b18 : Aj false 1 (.pointer (some ⟨s.heap.length,18,none⟩)) t = some vo:=ld rfl
  have b19 : Aj false 1 (.pointer (some ⟨s.heap.length,19,none⟩)) t = some vr:=ld rfl
  have b20 : Aj false 1 (.pointer (some ⟨s.heap.length,20,none⟩)) t = some vw:=ld rfl
  have c0 : Aj false 1 (.pointer (some ⟨s1.heap.length,0,none⟩)) t = some (.int .i64 m.kind):=ld' rfl
  have c1 : Aj false 1 (.pointer (some ⟨s1.heap.length,1,none⟩)) t = some (.int .i64 m.src):=ld' rfl
  have c2 : Aj false 1 (.pointer (some ⟨s1.heap.length,2,none⟩)) t = some (.int .i64 m.dst):=ld' rfl
  have c3 : Aj false 1 (.pointer (some ⟨s1.heap.length,3,none⟩)) t = some (.int .i64 m.client):=ld' rfl
  have c4 : Aj false 1 (.pointer (some ⟨s1.heap.length,4,none⟩)) t = some (.int .i64 m.code):=ld' rfl
  have c5 : Aj false 1 (.pointer (some ⟨s1.heap.length,5,none⟩)) t = some (.int .i64 m.peer):=ld' rfl
  have c15 : Aj false 1 (.pointer (some ⟨s1.heap.length,15,none⟩)) t = some (.bool m.flag):=ld' rfl
  have c18 : Aj false 1 (.pointer (some ⟨s1.heap.length,18,none⟩)) t = some vo':=ld' rfl
  have c19 : Aj false 1 (.pointer (some ⟨s1.heap.length,19,none⟩)) t = some vr':=ld' rfl
  have c20 : Aj false 1 (.pointer (some ⟨s1.heap.length,20,none⟩)) t = some vw':=ld' rfl
  have e1 : ∀ o1 o2,abin Tryz.prog .eql 4 o1 o2 (.bool m.flag) (.bool m.flag) = some (.bool true):=fun o1 o2=>by rw [Zd1]; simp
  have e2 : ∀ o1 o2,abin Tryz.prog .eql 24 o1 o2 (rv m.rg) (rv m.rg) = some (.bool true):=fun o1 o2=>by rw [Zcm]; simp
  have q1:=Vz hm.o hm'.o
  have q2:=XS hm.r hm'.r
  have q3:=XR hm.w hm'.w
  refine ⟨t,RH rfl ?_,xx⟩
  unfold Eg
  simp only [hc,n1,n2,n3,n4,hlen,hl,a1,r1,r2,b0,b1,b2,b3,b4,b5,b15,b18,b19,b20,c0,c1,c2,c3,c4,c5,c15,c18,c19,c20,e1,e2,beq_self_eq_true,Kw,q1,HE,q2,Ox,q3,EVs]
  exact ret1 rfl
end Go.Proofs.YtmbhnbladmpnoaaGreat.Ab

/- Decode: its run. -/
namespace Go.Proofs.YtmbhnbladmpnoaaGreat.Ab
open Go
set_option maxRecDepth 10000
theorem Z9 {R : Aa} {H : List Blk} (i f : Nat) (hi : Am[i]? = some (rowF f)) : (H ++ (Blk.map (AK H.length) 16 :: Am))[H.length + 1 + i]? = some (rowF f):=by
  rw [List.getElem?_append_right (by omega),show H.length + 1 + i - H.length = i + 1 by omega,List.getElem?_cons_succ,hi]
def Zee (fs : BL) (rest : List Int) (pf : Ms→Par Ms) : Prop:=∀ (N M A I lo : Nat) (m : Ms) (s : St) (x : BL × Int),N < M→M < A→A + 21 ≤ I→I < lo→Rd N s x→MsM rest m lo M s→lo ≤ s.heap.length→RAt A s→s.heap[A]? = some (.map (AK A) 16)→s.heap[I]? = some (itB fs 0) →
    ∃ (m' : Ms) (s' : St) (y : BL × Int),AS (AB.b0 (run Tryz.prog (libL libT) Ad)) [lptr,rp N,mp M,.map (some A),.pointer (some ⟨I,0,none⟩),zMs] s = some (.exit 0,[lptr,rp N,mp M,zMs],s')∧Rd N s' y∧MsM [] m' lo M s'∧s.heap.length ≤ s'.heap.length∧(∀ b,b < lo→b ≠ N→b ≠ M→b ≠ I→s'.heap[b]? = s.heap[b]?)∧Does (pf m) x m' y
theorem Zaa {k : Int} {p : BL × Nat × Nat × Nat} (hp : (k,p) ∈ AF) : Zee p.1 (lets p.1) (Iu (lets p.1)):=fun N M A I lo m s x h1 h2 h3 h4 h5 h6 h7 h8 h9 h10=>ZbU hp h1 h2 h3 h4 (lets p.1) 0 m s x rfl (Nat.zero_le _) (Q8 hp) h5 h6 h7 h8 h9 h10
theorem Zab : Zee [] [] .pure:=fun N M A I lo m s x h1 h2 h3 h4 h5 h6 h7 h8 h9 h10=>by
  refine ⟨m,s,x,?_,h5,h6,Nat.le_refl _,fun _ _ _ _ _=>rfl,.pure⟩
  have e0 : Al 0 (.tuple #[.bool false]) = some (.bool false):=rfl
  have hn:=PF (p:=[]) h10
  rw [Ar]
  simp only [AB.b0,BP,CJ,Dq,DO,Kp,Mf,hn,e0,EVs]
theorem Zcy {fs : BL} {rest : List Int} {pf : Ms→Par Ms} {g1 g2 g3 : Value} (hL : Zee fs rest pf) {N M : Nat} {s : St} {x : BL × Int} {k : Nat} (hk : k ≤ 255) (hNM : N < M) (hx : Rd N s x) (hM : s.heap[M]? = some (.row 0 (msC { m0 with kind:=(k : Int) } (.slice none 0 0) (.slice none 0 0) (.slice none 0 0)) .act)) :
    ∃ (u : Value) (t : St) (m : Ms) (y : BL × Int),AB.j2 (run Tryz.prog (libL libT) Ad) [lptr,rp N,mp M,lptr,zMs,.agg #[sv fs,g1,g2,g3]] s = some (u,t)∧Does (Hl.bind fun a=>Hl.bind fun b=>pf { m0 with kind:=(k : Int),src:=(a : Int),dst:=(b : Int) }) x m y∧BX N M s t ∧
      (y.2 ≠ 0→u = .tuple #[zMs,.int .i64 y.2])∧(y.2 = 0→y.1 ≠ []→u = .tuple #[zMs,.int .i64 11])∧(y.2 = 0→y.1 = []→eMs m ≠ 0→u = .tuple #[zMs,.int .i64 (eMs m)])∧(y.2 = 0→y.1 = []→eMs m = 0→∃ vo vr vw,MsR [] m s.heap.length M t vo vr vw∧u = .tuple #[mV m vo vr vw,.int .i64 0]):=by
  have hMl:=(List.getElem?_eq_some_iff.1 hM).1
  obtain ⟨a,u1,c1,s1,y1,f1,f2,f3,f4,f5,f6⟩:=A8 s x hx
  obtain ⟨rfl,ha⟩:=CY f5 f4
  have f1 : (run Tryz.prog (libL libT) Ad) 35 [rp N] s = some (.int .i64 (a : Int),s1):=f1
  obtain ⟨b,u2,c2,s2,y2,b1,b2,b3,b4,b5,b6⟩:=A8 s1 y1 f2
  obtain ⟨rfl,hb⟩:=CY b5 b4
  have b1 : (run Tryz.prog (libL libT) Ad) 35 [rp N] s1 = some (.int .i64 (b : Int),s2):=b1
  have k2 : Keep (some N) s s2:=f3.trans b3
  have n2:=k2.1
  have hM2 : s2.heap[M]? = some (.row 0 (msC { m0 with kind:=(k : Int) } (.slice none 0 0) (.slice none 0 0) (.slice none 0 0)) .act):=by rw [k2.2 M hMl fun e=>by have:=Option.some.inj e; omega]; exact hM
  have st1 : A4 1 (.pointer (some ⟨M,1,none⟩)) (.int .i64 (a : Int)) s2 = some (s2.putB M (.row 0 (msC { m0 with kind:=(k : Int),src:=(a : Int) } (.slice none 0 0) (.slice none 0 0) (.slice none 0 0)) .act)):=Dm hM2 (by simp [msC]) rfl rfl
  have kp3 : BX N M s (s2.putB M (.row 0 (msC { m0 with kind:=(k : Int),src:=(a : Int) } (.slice none 0 0) (.slice none 0 0) (.slice none 0 0)) .act)):=(BX.of1 k2).trans EG
  have hM3 : (s2.putB M (.row 0 (msC { m0 with kind:=(k : Int),src:=(a : Int) } (.slice none 0 0) (.slice none 0 0) (.slice none 0 0)) .act)).heap[M]? = some (.row 0 (msC { m0 with kind:=(k : Int),src:=(a : Int) } (.slice none 0 0) (.slice none 0 0) (.slice none 0 0)) .act):=CX (by omega)
  have hx3:=b2.put (B:=.row 0 (msC { m0 with kind:=(k : Int),src:=(a : Int) } (.slice none 0 0) (.slice none 0 0) (.slice none 0 0)) .act) hNM
  generalize s2.putB M (.row 0 (msC { m0 with kind:=(k : Int),src:=(a : Int) } (.slice none 0 0) (.slice none 0 0) (.slice none 0 0)) .act) = s3 at *
  have st2 : A4 1 (.pointer (some ⟨M,2,none⟩)) (.int .i64 (b : Int)) s3 = some (s3.putB M (.row 0 (msC { m0 with kind:=(k : Int),src:=(a : Int),dst:=(b : Int) } (.slice none 0 0) (.slice none 0 0) (.slice none 0 0)) .act)):=Dm hM3 (by simp [msC]) rfl rfl
  have n3:=kp3.1
  have kp4 : BX N M s (s3.putB M (.row 0 (msC { m0 with kind:=(k : Int),src:=(a : Int),dst:=(b : Int) } (.slice none 0 0) (.slice none 0 0) (.slice none 0 0)) .act)):=kp3.trans EG
  have hM4 : (s3.putB M (.row 0 (msC { m0 with kind:=(k : Int),src:=(a : Int),dst:=(b : Int) } (.slice none 0 0) (.slice none 0 0) (.slice none 0 0)) .act)).heap[M]? = some (.row 0 (msC { m0 with kind:=(k : Int),src:=(a : Int),dst:=(b : Int) } (.slice none 0 0) (.slice none 0 0) (.slice none 0 0)) .act):=CX (by omega)
  have hx4:=hx3.put (B:=.row 0 (msC { m0 with kind:=(k : Int),src:=(a : Int),dst:=(b : Int) } (.slice none 0 0) (.slice none 0 0) (.slice none 0 0)) .act) hNM
  generalize s3.putB M (.row 0 (msC { m0 with kind:=(k : Int),src:=(a : Int),dst:=(b : Int) } (.slice none 0 0) (.slice none 0 0) (.slice none 0 0)) .act) = s4 at *
  obtain ⟨H⟩:=s4
  have hall:=I3.wire_all (Ir I3 H)
  have n4:=kp4.1
  have xa : Ext H.length (⟨H⟩ : St) ⟨H ++ (.map (AK H.length) 16 :: Am)⟩:=ext_app H _
  have hA : (⟨H ++ (Blk.map (AK H.length) 16 :: Am)⟩ : St).heap[H.length]? = some (.map (AK H.length) 16):=by
    simp only
    rw [List.getElem?_append_right (Nat.le_refl _),Nat.sub_self]
    rfl
  have hra : RAt H.length (⟨H ++ (Blk.map (AK H.length) 16 :: Am)⟩ : St):=fun i f hi=>Z9 (R:=(run Tryz.prog (libL libT) Ad)) i f hi
  have l5 : (⟨H ++ (Blk.map (AK H.length) 16 :: Am)⟩ : St).heap.length = H.length + 21:=by simp [Am]
  have nr : Jq (sv fs) (⟨H ++ (Blk.map (AK H.length) 16 :: Am)⟩ : St) = some (.pointer (some ⟨(⟨H ++ (Blk.map (AK H.length) 16 :: Am)⟩ : St).heap.length,0,none⟩),(⟨H ++ (Blk.map (AK H.length) 16 :: Am)⟩ : St).push (itB fs 0)):=rfl
  obtain ⟨s5,e5⟩ : ∃ s5,(⟨H ++ (Blk.map (AK H.length) 16 :: Am)⟩ : St) = s5:=⟨_,rfl⟩
  rw [e5] at hall xa hA hra l5 nr
  have l6 : (s5.push (itB fs 0)).heap.length = s5.heap.length + 1:=AL
  have o6 : ∀ b,b < s5.heap.length→(s5.push (itB fs 0)).heap[b]? = s5.heap[b]?:=fun b hb=>Db hb
  have hI : (s5.push (itB fs 0)).heap[s5.heap.length]? = some (itB fs 0):=AC
  generalize s5.push (itB fs 0) = s6 at *
  have n4' : s.heap.length ≤ H.length:=n4
  have hMH : M < H.length:=by omega
  have o56 : ∀ b,b < H.length→s6.heap[b]? = (⟨H⟩ : St).heap[b]?:=fun b hb=>(o6 b (by omega)).trans (xa.2 b hb)
  have hx6 : Rd N s6 (y2.1,y2.2):=hx4.keep fun b hb=>o56 b (by omega)
  have hm6 : MsM rest { m0 with kind:=(k : Int),src:=(a : Int),dst:=(b : Int) } s6.heap.length M s6:=by
    refine ⟨.slice none 0 0,.slice none 0 0,.slice none 0 0,by rw [o56 M hMH]; exact hM4,?_,by simp [m0],by simp [m0],.nil,.nil,.nil,fun _=>rfl,fun _=>rfl,fun _=>rfl⟩
    exact ⟨wf_i hk,wf_i ha,wf_i hb,rfl,rfl,rfl,rfl,rfl,rfl,rfl,rfl,rfl,rfl,rfl,rfl⟩
  obtain ⟨m,s7,y,p1,p2,p3,p4,p5,p6⟩:=hL N M H.length s5.heap.length s6.heap.length { m0 with kind:=(k : Int),src:=(a : Int),dst:=(b : Int) } s6 y2 hNM hMH (by omega) (by omega) hx6 hm6 (Nat.le_refl _) (fun i f hi=>by
    have : i < 20:=by
      have:=(List.getElem?_eq_some_iff.1 hi).1
      simpa [Am] using this
    rw [o6 _ (by omega)]
    exact hra i f hi) (by rw [o6 _ (by omega)]; exact hA) hI
  have hD : Does (Hl.bind fun a=>Hl.bind fun b=>pf { m0 with kind:=(k : Int),src:=(a : Int),dst:=(b : Int) }) x m y:=f6.bind (b6.bind p6)
  have kp7 : BX N M s s7:=⟨by omega,fun c h1 h2 h3=>by rw [p5 c (by omega) h2 h3 (by omega),o56 c (by omega),kp4.2 c h1 h2 h3]⟩
  have a1 : ∀ i,Ac i (mp M) = some (.pointer (some ⟨M,i,none⟩)):=fun i=>by simp [Ac]
  have a0 : Ac 0 lptr = some lptr:=rfl
  have ls : Ap false 1 lptr (.agg #[sv fs,g1,g2,g3]) = some (sv fs):=rfl
  obtain ⟨w,hw⟩:=id p2
  have hl2 : ∀ t s3,AG (.slice t) w s3 = some (.int .i64 ((y.1.length : Nat) : Int)):=fun t s3=>AW hw.byt
  have start : ∀ u t,(AB.j2 (run Tryz.prog (libL libT) Ad) [lptr,rp N,mp M,lptr,zMs,.agg #[sv fs,g1,g2,g3]] s = some (u,t)) = (((Ai (.bool (y.2 == 0)) true (some ([.bool (decide (((y.1.length : Nat) : Int) > 0))],s7)) (some ([undef],s7))).bind fun q46 =>
      (AJ (.bool (y.2 == 0)) (getL q46.1 0) (.bool false)).bind fun v47 =>
      Ax v47
       ((Ag Tryz.prog (run Tryz.prog (libL libT) Ad) (.func (.func 36) #[] #[]) [rp N,(.int .i64 11)] q46.2).bind fun r48 =>
      Dh (AB.j1 (run Tryz.prog (libL libT) Ad)) [lptr,rp N,mp M,zMs] r48.2)
       (Dh (AB.j1 (run Tryz.prog (libL libT) Ad)) [lptr,rp N,mp M,zMs] q46.2)) = some (u,t)):=fun u t=>by
    unfold AB.j2
    simp only [BP,CJ,Dq,DO,Kp,Mf,Be,f1,b1,a1,st1,st2,G9,hall,a0,ls,nr,p1,Cz,Sy,EB,hw.ld0,hw.ld1,hl2,EVs]
  by_cases hy : y.2 = 0
  · have hz : (y.2 == 0) = true:=by simp [hy]
    cases hr : y.1 with
    | nil =>
      have d1 : decide (((y.1.length : Nat) : Int) > 0) = false:=by rw [hr]; rfl
      obtain ⟨u,t,q1,q2,q3,q4,q5⟩:=Z1 hNM (by omega) p2 p3 p4
      refine ⟨u,t,m,y,?_,hD,kp7.trans (.of1 q2),fun e=>absurd hy e,fun _ e=>absurd hr e,fun _ _ e=>q4 hy e,fun _ _ e=>?_⟩
      · rw [start]
        simp only [hz,d1,BY,q1,EVs]
      · obtain ⟨vo,vr,vw,z1,z2⟩:=q5 hy e
        exact ⟨vo,vr,vw,⟨z1.row,z1.wf,z1.rg1,z1.rg2,z1.o.mono (by omega) (Nat.le_refl _),z1.r.mono (by omega) (Nat.le_refl _),z1.w.mono (by omega) (Nat.le_refl _),z1.zo,z1.zr,z1.zw⟩,z2⟩
    | cons c r =>
      have d1 : decide (((y.1.length : Nat) : Int) > 0) = true:=by rw [hr]; simp
      have hx8 : Rd N (setR N w 11 s7) (y.1,11):=hw.seterr 11
      have hl8 : (setR N w 11 s7).heap.length = s7.heap.length:=BM
      have hm8 : MsM [] m s6.heap.length M (setR N w 11 s7):=by
        obtain ⟨vo,vr,vw,hm⟩:=p3
        exact ⟨vo,vr,vw,hm.same (by omega) (Cl (by omega)) fun b h1 h2=>Cl (by omega)⟩
      obtain ⟨u,t,q1,q2,q3,q4,q5⟩:=Z1 hNM (by omega) hx8 hm8 (by omega)
      refine ⟨u,t,m,y,?_,hD,kp7.trans ((BX.of1 CM).trans (.of1 q2)),fun e=>absurd hy e,fun _ _=>q3 (by simp),fun _ e _=>by (rw [hr] at e; cases e),fun _ e _=>by (rw [hr] at e; cases e)⟩
      rw [start]
      simp only [hz,d1,A6,Bx hw hy 11,BY,q1,EVs]
  · have hz : (y.2 == 0) = false:=by simp [hy]
    obtain ⟨u,t,q1,q2,q3,q4,q5⟩:=Z1 hNM (by omega) p2 p3 p4
    refine ⟨u,t,m,y,?_,hD,kp7.trans (.of1 q2),fun e=>q3 e,fun e=>absurd e hy,fun e=>absurd e hy,fun e=>absurd e hy⟩
    rw [start]
    simp only [hz,BY,q1,EVs]
end Go.Proofs.YtmbhnbladmpnoaaGreat.Ab

/- Decode: what it gives. -/
namespace Go.Proofs.YtmbhnbladmpnoaaGreat.Ab
open Go
set_option maxRecDepth 10000
theorem Zf6 {v : Value} {s : St} {l : BL} (h : bytesOf v s = some l) (hl : l.length ≤ 140737488355328) (h0 : (B4 l).2 = 0) : (run Tryz.prog (libL libT) Ad) 34 [v] s = some (pkE (Af (B4 l).1 s).1,(Af (B4 l).1 s).2):=(Bq (g:=TV) rfl).trans (Za6 h hl h0)
theorem Zac {v : Value} {s : St} {l : BL} (h : bytesOf v s = some l) (hl : l.length ≤ 140737488355328) (h0 : (B4 l).2 ≠ 0) : (run Tryz.prog (libL libT) Ad) 34 [v] s = some (nilE (B4 l).2,s):=(Bq (g:=TV) rfl).trans (Za7 h hl h0)
theorem Zf7 {b o len cap : Nat} : AV Tryz.prog 73 [(0,.slice (some ⟨b,o,none⟩) len cap)] = some (.agg #[.slice (some ⟨b,o,none⟩) len cap,.int .i64 0]):=by kernel_rfl
theorem Zf8 (k : Int) : AV Tryz.prog 29 [(0,.int .i64 k)] = some (.agg (msC { m0 with kind:=k } (.slice none 0 0) (.slice none 0 0) (.slice none 0 0)).toArray):=by kernel_rfl
structure MsO (lo : Nat) (m : Ms) (s : St) (vo vr vw : Value) : Prop where
  wf : MsWf m
  o : BJ oOp 80 lo s.heap.length m.ops s vo
  r : BJ oRs 48 lo s.heap.length m.res s vr
  w : BJ oOw 24 lo s.heap.length m.own s vw
theorem MsO.msV {lo : Nat} {m : Ms} {s : St} {vo vr vw : Value} (h : MsO lo m s vo vr vw) : MsV m s vo vr vw:=⟨h.wf,h.o.listN,h.r.listN,h.w.listN⟩
theorem Zad {l : BL} : (B4 l).1.length ≤ l.length:=by
  unfold B4
  split
  · simp
  split
  · simp
  split
  · simp
  split
  · simp
  · simp only [List.length_drop,List.length_take]
    omega
theorem Rb {v : Value} {s : St} {b : BL} (hv : bytesOf v s = some b) (hl : b.length ≤ 140737488355328) :
    (∃ e t,decW b = .error e∧e ≠ 0∧(run Tryz.prog (libL libT) Ad) 13 [v] s = some (.tuple #[zMs,.int .i64 e],t)∧Ext s.heap.length s t) ∨ (∃ m vo vr vw t,decW b = .ok m∧eMs m = 0∧(run Tryz.prog (libL libT) Ad) 13 [v] s = some (.tuple #[mV m vo vr vw,.int .i64 0],t)∧Ext s.heap.length s t∧MsO s.heap.length m t vo vr vw):=by
  by_cases h0 : (B4 b).2 = 0
  case neg =>
    have hne : ((B4 b).2 != 0) = true:=by simp [h0]
    have x0 : Al 0 (nilE (B4 b).2) = some (.slice none 0 0):=rfl
    have x1 : Al 1 (nilE (B4 b).2) = some (.int .i64 (B4 b).2):=rfl
    refine .inl ⟨(B4 b).2,s,by unfold decW; rw [if_pos h0],h0,I9 rfl ?_,.refl _ _⟩
    unfold AB
    simp only [H7,Zac hv hl h0,x0,x1,hne,EVs]
    exact YH
  have hk:=Zf6 hv hl h0
  have hx0 : ∀ w : Value,PN w = false→Al 0 (pkE w) = some w∧Al 1 (pkE w) = some (.int .i64 0):=fun w h=>⟨by simp [pkE,Al,h],rfl⟩
  have hz : ((0 : Int) != 0) = false:=rfl
  have hdw : decW b = decB (B4 b).1:=by unfold decW; rw [if_neg (by simp [h0])]
  have hbl : (B4 b).1.length ≤ 140737488355328:=Nat.le_trans Zad hl
  generalize (B4 b).1 = body at *
  obtain ⟨y0,y1⟩:=hx0 (Af body s).1 rfl
  have hbb:=Bb (l:=body) (s:=s)
  have xb : Ext s.heap.length s (Af body s).2:=AZ (Nat.le_refl _)
  have hab : AV Tryz.prog 73 [(0,(Af body s).1)] = some (.agg #[(Af body s).1,.int .i64 0]):=Zf7
  have hcv : Ao (.agg #[(Af body s).1,.int .i64 0]) = [(Af body s).1,.int .i64 0]:=rfl
  have hnw : anew [(Af body s).1,.int .i64 0] (Af body s).2 = some (rp (Af body s).2.heap.length,(Af body s).2.push (.row 0 [(Af body s).1,.int .i64 0] .act)):=rfl
  have rd0:=ZeR hbb hbl
  have x2 : Ext (Af body s).2.heap.length (Af body s).2 ((Af body s).2.push (.row 0 [(Af body s).1,.int .i64 0] .act)):=.push _ (Nat.le_refl _) _
  have x3:=xb.trans (x2.less xb.1)
  have hNs : s.heap.length ≤ (Af body s).2.heap.length:=xb.1
  generalize hw : (Af body s).1 = w at *
  generalize (Af body s).2 = s1 at *
  generalize hN : s1.heap.length = N at *
  have l2 : (s1.push (.row 0 [w,.int .i64 0] .act)).heap.length = N + 1:=by rw [AL,hN]
  generalize s1.push (.row 0 [w,.int .i64 0] .act) = s2 at *
  obtain ⟨k,u3,c3,s3,z3,f1,f2,f3,f4,f5,f6⟩:=A8 s2 (body,0) rd0
  obtain ⟨rfl,hk3⟩:=CY f5 f4
  have f1 : (run Tryz.prog (libL libT) Ad) 35 [rp N] s2 = some (.int .i64 (k : Int),s3):=f1
  have n3:=f3.1
  have hnm : anew [(.int .i64 0),(.int .i64 0),(.int .i64 0),(.int .i64 0),(.int .i64 0),(.int .i64 0),(.int .u64 0),(.int .u64 0),(.int .u64 0),(.int .u64 0),(.int .u64 0),(.int .u64 0),(.int .u64 0),(.int .u64 0),(.int .u64 0),(.bool false),(.string ⟨#[]⟩),(.string ⟨#[]⟩),(.slice none 0 0),(.slice none 0 0),(.slice none 0 0)] s3 = some (mp s3.heap.length,s3.push (.row 0 (msC m0 (.slice none 0 0) (.slice none 0 0) (.slice none 0 0)) .act)):=rfl
  have hst : A4 21 (mp s3.heap.length) (.agg (msC { m0 with kind:=(k : Int) } (.slice none 0 0) (.slice none 0 0) (.slice none 0 0)).toArray) (s3.push (.row 0 (msC m0 (.slice none 0 0) (.slice none 0 0) (.slice none 0 0)) .act)) = some (s3.push (.row 0 (msC { m0 with kind:=(k : Int) } (.slice none 0 0) (.slice none 0 0) (.slice none 0 0)) .act)) :=
    (IM (vs:=msC { m0 with kind:=(k : Int) } (.slice none 0 0) (.slice none 0 0) (.slice none 0 0)) (cells:=msC m0 (.slice none 0 0) (.slice none 0 0) (.slice none 0 0)) AC rfl rfl rfl).trans (by rw [PH])
  have hM4 : (s3.push (.row 0 (msC { m0 with kind:=(k : Int) } (.slice none 0 0) (.slice none 0 0) (.slice none 0 0)) .act)).heap[s3.heap.length]? = some (.row 0 (msC { m0 with kind:=(k : Int) } (.slice none 0 0) (.slice none 0 0) (.slice none 0 0)) .act):=AC
  have rd4 : Rd N (s3.push (.row 0 (msC { m0 with kind:=(k : Int) } (.slice none 0 0) (.slice none 0 0) (.slice none 0 0)) .act)) z3:=f2.push
  have k4 : BX N s3.heap.length s2 (s3.push (.row 0 (msC { m0 with kind:=(k : Int) } (.slice none 0 0) (.slice none 0 0) (.slice none 0 0)) .act)):=(BX.of1 f3).trans CQ
  have l4 : (s3.push (.row 0 (msC { m0 with kind:=(k : Int) } (.slice none 0 0) (.slice none 0 0) (.slice none 0 0)) .act)).heap.length = s3.heap.length + 1:=AL
  generalize s3.push (.row 0 (msC { m0 with kind:=(k : Int) } (.slice none 0 0) (.slice none 0 0) (.slice none 0 0)) .act) = s4 at *
  generalize hMM : s3.heap.length = M at *
  have hNM : N < M:=by omega
  have a0 : Ac 0 (mp M) = some (mp M):=rfl
  have l0 : Aj false 1 (mp M) s4 = some (.int .i64 (k : Int)):=Sz hM4 (by simp) rfl
  have hfm:=I3.form (k : Int) s4
  have fin : ∀ {t : St},BX N M s4 t→Ext s.heap.length s t:=fun {t} h=>by
    have h2:=k4.trans h
    refine ⟨Nat.le_trans x3.1 h2.1,fun c hc=>?_⟩
    have:=x3.1
    rw [h2.2 c (by omega) (by omega) (by omega)]
    exact x3.2 c hc
  have start : ∀ (fs : BL) (g1 g2 g3 : Value) (u : Value) (t : St),frmV (k : Int) = .agg #[sv fs,g1,g2,g3]→AO 4 lptr (.agg #[sv fs,g1,g2,g3]) (.agg #[(.string ⟨#[]⟩),.nilFunc,.nilFunc,.nilFunc]) = some (.agg #[sv fs,g1,g2,g3]) →
      (Ax (.bool (!(CI (k : Int)).isSome)) (((run Tryz.prog (libL libT) Ad) 36 [rp N,.int .i64 11] s4).bind fun r18=>AB.j2 (run Tryz.prog (libL libT) Ad) [lptr,rp N,mp M,lptr,zMs,.agg #[sv fs,g1,g2,g3]] r18.2) (AB.j2 (run Tryz.prog (libL libT) Ad) [lptr,rp N,mp M,lptr,zMs,.agg #[sv fs,g1,g2,g3]] s4) = some (u,t))→(run Tryz.prog (libL libT) Ad) 13 [v] s = some (u,t):=fun fs g1 g2 g3 u t hf hs h=>by
    refine I9 rfl ?_
    have e0 : Al 0 (.tuple #[frmV (k : Int),.bool (CI (k : Int)).isSome]) = some (.agg #[sv fs,g1,g2,g3]):=by rw [hf]; rfl
    have e1 : Al 1 (.tuple #[frmV (k : Int),.bool (CI (k : Int)).isSome]) = some (.bool (CI (k : Int)).isSome):=rfl
    unfold AB
    simp only [H7,hk,y0,y1,hz,hab,hcv,hnw,Be,f1,Zf8,hnm,hst,a0,l0,DA,hfm,e0,e1,hs,A6,BY,EVs]
    exact h
  cases hp : CI (k : Int) with
  | none =>
    have hf : frmV (k : Int) = .agg #[sv [],.nilFunc,.nilFunc,.nilFunc]:=by unfold frmV; rw [hp]
    obtain ⟨v4,hv4⟩:=rd4
    obtain ⟨s5,y5,g1,g2,g3,g4⟩:=Dn hv4 11 (by decide)
    have hMl : M < s4.heap.length:=by omega
    obtain ⟨u,t,m,y,q1,q2,q3,q4,_⟩:=Zcy (fs:=[]) (g1:=.nilFunc) (g2:=.nilFunc) (g3:=.nilFunc) Zab hk3 hNM g2 (by rw [g3.2 M hMl fun e=>by have:=Option.some.inj e; omega]; exact hM4)
    have hy5 : y5.2 ≠ 0:=by
      rw [g4]
      split
      · decide
      · assumption
    have hye : y.2 = y5.2:=q2.err hy5
    have hD : Does pMsg (body,0) m y:=f6.bind (by
      rw [hp]
      exact .fail (by decide) (by rw [hye,g4]))
    have hyn : y.2 ≠ 0:=by rw [hye]; exact hy5
    refine .inl ⟨y.2,t,by rw [hdw]; unfold decB; rw [hD.err_of rfl hyn],hyn,start [] _ _ _ _ _ hf rfl ?_,fin ((BX.of1 g3).trans q3)⟩
    rw [hp]
    simp only [Option.isSome_none,Bool.not_false,g1,q1,EVs]
    rw [q4 hyn]
  | some p =>
    have hf : frmV (k : Int) = .agg #[sv p.1,fnV p.2.1,fnV p.2.2.1,fnV p.2.2.2]:=by unfold frmV; rw [hp]; rfl
    have hpm:=D8 hp
    obtain ⟨u,t,m,y,q1,q2,q3,q4,q5,q6,q7⟩:=Zcy (fs:=p.1) (g1:=fnV p.2.1) (g2:=fnV p.2.2.1) (g3:=fnV p.2.2.2) (Zaa hpm) hk3 hNM rd4 hM4
    have hD : Does pMsg (body,0) m y:=f6.bind (by rw [hp]; exact q2)
    have hgo : ∀ u',u = u'→(run Tryz.prog (libL libT) Ad) 13 [v] s = some (u',t):=fun u' e=>start p.1 _ _ _ _ _ hf rfl (by
      rw [hp]
      simp only [Option.isSome_some,Bool.not_true,q1,EVs]
      rw [e])
    have hfin:=fin q3
    by_cases hy : y.2 = 0
    · have hok:=hD.ok_of rfl hy
      cases hr : y.1 with
      | nil =>
        rw [hr] at hok
        by_cases he : eMs m = 0
        · obtain ⟨vo,vr,vw,h1,h2⟩:=q7 hy hr he
          exact .inr ⟨m,vo,vr,vw,t,by rw [hdw]; unfold decB; rw [hok]; simp only; rw [if_pos he],he,hgo _ h2,hfin,h1.wf,h1.o.mono (by have:=x3.1; omega) (Nat.le_refl _),h1.r.mono (by have:=x3.1; omega) (Nat.le_refl _),h1.w.mono (by have:=x3.1; omega) (Nat.le_refl _)⟩
        · exact .inl ⟨eMs m,t,by rw [hdw]; unfold decB; rw [hok]; simp only; rw [if_neg he],he,hgo _ (q6 hy hr he),hfin⟩
      | cons c r =>
        rw [hr] at hok
        exact .inl ⟨11,t,by rw [hdw]; unfold decB; rw [hok],by decide,hgo _ (q5 hy (by rw [hr]; simp)),hfin⟩
    · exact .inl ⟨y.2,t,by rw [hdw]; unfold decB; rw [hD.err_of rfl hy],hy,hgo _ (q4 hy),hfin⟩
end Go.Proofs.YtmbhnbladmpnoaaGreat.Ab

/- WireBack: what the law says. -/
namespace Go.Proofs.YtmbhnbladmpnoaaGreat.Ab
open Go
set_option maxRecDepth 10000
theorem Zef {m : Ms} {s : St} {v : Value} (h : NArg msN m s v) : ∃ vo vr vw,v = mV m vo vr vw∧MsV m s vo vr vw:=by
  obtain ⟨cs,rfl,hr⟩:=h
  obtain ⟨vo,vr,vw,rfl,h1,h2,h3,h4⟩:=ZaL hr
  exact ⟨vo,vr,vw,rfl,h1,h2,h3,h4⟩
theorem Zae {x : Value} {b : BL} {s : St} (hb : bytesOf x s = some b) (hl : b.length ≤ 100000) : ∃ t,BK.j0 (run Tryz.prog (libL libT) Ad) [x,.bool true] s = some (.bool true,t):=by
  have hr1 : ∀ (b : Bool) (s : St),retV [.bool b] s = some (.bool b,s):=fun n s=>ret1 rfl
  rcases Rb hb (by omega) with ⟨e,t,h1,h2,h3,_⟩ | ⟨n,vo,vr,vw,t,h1,h2,h3,h4,h5⟩
  · have x0 : Al 0 (.tuple #[zMs,.int .i64 e]) = some zMs:=rfl
    have x1 : Al 1 (.tuple #[zMs,.int .i64 e]) = some (.int .i64 e):=rfl
    have st : AO 21 lptr zMs zMs = some zMs:=rfl
    have hz : (e != 0) = true:=by simp [h2]
    refine ⟨t,?_⟩
    unfold BK.j0
    simp only [BP,CJ,EL,h3,x0,x1,st,hz,hr1,EVs]
  · have x0 : Al 0 (.tuple #[mV n vo vr vw,.int .i64 0]) = some (mV n vo vr vw):=rfl
    have x1 : Al 1 (.tuple #[mV n vo vr vw,.int .i64 0]) = some (.int .i64 0):=rfl
    have hv:=h5.msV
    have st : AO 21 lptr (mV n vo vr vw) zMs = some (mV n vo vr vw):=zst rfl hv.leaf
    have ld : Ap true 21 lptr (mV n vo vr vw) = some (mV n vo vr vw):=G6 rfl
    have hz : ((0 : Int) != 0) = false:=rfl
    have hz2 : ((0 : Int) == 0) = true:=rfl
    obtain ⟨hs,_⟩:=ZbV h1
    obtain ⟨t2,g1,g2⟩:=Uj hv h2 (Ww h2)
    rw [hs] at g1
    have x2 : Al 0 (pkE (Af b t2).1) = some (Af b t2).1:=rfl
    have x3 : Al 1 (pkE (Af b t2).1) = some (.int .i64 0):=rfl
    have s1 : BE (Af b t2).1 (Af b t2).2 = some (sv b):=GA Bb
    have hx : Ext s.heap.length s (Af b t2).2:=(h4.trans (g2.less h4.1)).trans ((AZ (Nat.le_refl _)).less (Nat.le_trans h4.1 g2.1))
    have s2 : BE x (Af b t2).2 = some (sv b):=GA (hx.bytes hb)
    refine ⟨(Af b t2).2,?_⟩
    unfold BK.j0
    simp only [BP,CJ,EL,h3,x0,x1,st,ld,hz,hz2,EK,g1,x2,x3,s1,s2,Zb7,beq_self_eq_true,hr1,EVs]
theorem WireBack_law (s : St) (m : Ms) (v : Value) (h : NArg msN m s v) (x : Value) (b : BL) (hb : bytesOf x s = some b) (hbl : b.length ≤ 140737488351232) : ∃ s',(run Tryz.prog (libL libT) Ad) 6 [v,x] s = some (.bool true,s'):=by
  obtain ⟨vo,vr,vw,rfl,hm⟩:=Zef h
  have hbx : lbox (mV m vo vr vw) = some (mV m vo vr vw):=Vl hm.leaf
  have hl : Ap true 21 lptr (mV m vo vr vw) = some (mV m vo vr vw):=G6 rfl
  have hr1 : ∀ (b : Bool) (s : St),retV [.bool b] s = some (.bool b,s):=fun n s=>ret1 rfl
  suffices key : ∃ s',BK (run Tryz.prog (libL libT) Ad) (mV m vo vr vw) x s = some (.bool true,s') by
    obtain ⟨s',h⟩:=key
    exact ⟨s',Lt rfl h⟩
  unfold BK
  by_cases c1 : 100000 < b.length
  · have e1 : decide (((b.length : Nat) : Int) > 100000) = true:=by simp; omega
    refine ⟨s,?_⟩
    simp only [hbx,Ft,ZK,AW hb,e1,hr1,EVs]
  have e1 : decide (((b.length : Nat) : Int) > 100000) = false:=by simp; omega
  by_cases he : eMs m = 0
  case neg =>
    obtain ⟨t,g1,g2⟩:=ZS hm he
    have x0 : Al 0 (.tuple #[.slice none 0 0,.int .i64 180]) = some (.slice none 0 0):=rfl
    have x1 : Al 1 (.tuple #[.slice none 0 0,.int .i64 180]) = some (.int .i64 180):=rfl
    have hz : (eMs m == 0) = false:=by simp [he]
    have hc:=PD (hm.ext g2)
    obtain ⟨t2,k1⟩:=Zae (g2.bytes hb) (by omega)
    refine ⟨t2,?_⟩
    simp only [hbx,Ft,ZK,AW hb,e1,hl,EK,g1,x0,x1,Cu,hc,hz,BY,k1,EVs]
  have hlen:=Ww he
  obtain ⟨t,g1,g2⟩:=Uj hm he hlen
  have y1 : bytesOf (Af (B8 (Dx m)) t).1 (Af (B8 (Dx m)) t).2 = some (B8 (Dx m)):=Bb
  have xx0 : Al 0 (pkE (Af (B8 (Dx m)) t).1) = some (Af (B8 (Dx m)) t).1:=rfl
  have xx1 : Al 1 (pkE (Af (B8 (Dx m)) t).1) = some (.int .i64 0):=rfl
  have x1 : Ext s.heap.length s (Af (B8 (Dx m)) t).2:=g2.trans ((AZ (Nat.le_refl _)).less g2.1)
  have hl6 : 6 ≤ (B8 (Dx m)).length∧(B8 (Dx m)).length ≤ 4103:=by
    have:=KY (Dx m); have:=TY (Dx m); have:=Ze (n:=(Dx m).length) (by omega); have:=@Y6 (Dx m).length; omega
  have e3 : decide ((((B8 (Dx m)).length : Nat) : Int) > 4103) = false:=by simp; omega
  generalize Af (B8 (Dx m)) t = r1 at *
  have hc:=PD (hm.ext x1)
  have hdw : decW (B8 (Dx m)) = .ok m:=by
    unfold decW
    rw [Zi hlen]
    simp only
    rw [if_neg (by simp),Z5 hm.wf he]
  have zn : ((0 : Int) != 0) = false:=rfl
  have ze : ((0 : Int) == 0) = true:=rfl
  rcases Rb y1 (by omega) with ⟨e4,t4,h1,_⟩ | ⟨m4,vo4,vr4,vw4,t4,h1,h2,h3,h4,h5⟩
  · rw [hdw] at h1
    cases h1
  · rw [hdw] at h1
    cases h1
    have z0 : Al 0 (.tuple #[mV m vo4 vr4 vw4,.int .i64 0]) = some (mV m vo4 vr4 vw4):=rfl
    have z1 : Al 1 (.tuple #[mV m vo4 vr4 vw4,.int .i64 0]) = some (.int .i64 0):=rfl
    have st : AO 21 lptr (mV m vo4 vr4 vw4) zMs = some (mV m vo4 vr4 vw4):=zst rfl h5.msV.leaf
    have ld : Ap true 21 lptr (mV m vo4 vr4 vw4) = some (mV m vo4 vr4 vw4):=G6 rfl
    have x4 : Ext s.heap.length s t4:=x1.trans (h4.less x1.1)
    obtain ⟨t5,q1,q2⟩:=ZbX h5.msV (hm.ext x4)
    have hlen5 : ∀ ty st,AG (.slice ty) r1.1 st = some (.int .i64 (((B8 (Dx m)).length : Nat) : Int)):=fun _ _=>AW y1
    have x5 : Ext s.heap.length s t5:=x4.trans (q2.less x4.1)
    obtain ⟨t2,k1⟩:=Zae (x5.bytes hb) (by omega)
    refine ⟨t2,?_⟩
    simp only [hbx,Ft,ZK,AW hb,e1,hl,EK,g1,xx0,xx1,Cu,hc,he,ze,zn,EL,h3,z0,z1,st,ld,Oo,q1,Bool.not_true,hlen5,e3,BY,k1,EVs]
end Go.Proofs.YtmbhnbladmpnoaaGreat.Ab

/- A law's arguments in memory,as the abstract machine has them: bytes. -/
namespace Go.Proofs.YtmbhnbladmpnoaaGreat.Ab
open Go
theorem K9 : ∀ {l : List Int},(∀ n ∈ l,(Lit.int .u8 n).wf = true)→∃ u : List UInt8,ints .u8 l = bv u∧u.length = l.length
  | [],_=>⟨[],rfl,rfl⟩
  | n :: l,h=>by
    obtain ⟨u,h1,h2⟩:=K9 (l:=l) fun m hm=>h m (List.mem_cons_of_mem _ hm)
    have hw:=h n (List.mem_cons_self ..)
    simp only [Lit.wf,Bool.and_eq_true,decide_eq_true_eq] at hw
    have hlo : (0 : Int) ≤ n:=hw.1
    have hhi : n ≤ 255:=hw.2
    obtain ⟨m,rfl⟩:=Int.eq_ofNat_of_zero_le hlo
    refine ⟨UInt8.ofNat m :: u,?_,by simp [h2]⟩
    have e : (UInt8.ofNat m).toNat = m:=by
      rw [UInt8.toNat_ofNat']
      exact Nat.mod_eq_of_lt (by omega)
    have h1' : List.map (Value.int IntKind.u8) l = bv u:=h1
    show Value.int IntKind.u8 (m : Int) :: List.map (Value.int IntKind.u8) l = Value.int .u8 (((UInt8.ofNat m).toNat : Nat) : Int) :: bv u
    rw [h1',e]
theorem Zaf {H : List Blk} {a : Option Addr} {len : Nat} {u : List UInt8} (hl : u.length = len) (hn : a = none→u = []) : bytesOf (G5 H.length a len) ⟨H ++ [Blk.row 0 (bv u) .ro]⟩ = some u:=by
  cases a with
  | none=>rw [hn rfl]; rfl
  | some x =>
    subst hl
    unfold bytesOf G5
    simp only [cellsOf,Nat.le_refl,if_true,readN,Ab.readRow,List.getElem?_append_right (Nat.le_refl _),Nat.sub_self,List.getElem?_cons_zero,Option.bind_some,Nat.mul_one,Nat.zero_add,A3]
    rw [List.drop_zero,← A3,List.take_length]
    exact QO u
theorem sim_bytes {W : World} {ι : Emb} {H : List Blk} (h : Sim W.heap.size ι H W) (hro : H.all roB = true) {a : Option Addr} {len cap : Nat} {zs : List Int} (hr : IsRow .u8 W a len cap zs) :
    ∃ (u : List UInt8) (B : Blk),u.length = len∧bytesOf (G5 H.length a len) ⟨H ++ [B]⟩ = some u ∧
    ∃ κ,ι.le κ∧Sim W.heap.size κ (H ++ [B]) W∧(H ++ [B]).all roB = true∧VRel κ (G5 H.length a len) (.slice a len cap):=by
  obtain ⟨l,h1,h2,h3,h4⟩:=Zay h hro hr
  obtain ⟨u,h5,h6⟩:=K9 h2
  rw [h5] at h4
  refine ⟨u,_,h6.trans h1,Zaf (h6.trans h1) (fun e=>?_),h4⟩
  have:=h3 e
  rw [this] at h6
  exact List.eq_nil_of_length_eq_zero h6
end Go.Proofs.YtmbhnbladmpnoaaGreat.Ab

/- A row's slice of whole numbers is no longer than its weight allows. (Began as the words that print.sh lays for rows over slices.) -/
namespace Go.Proofs.YtmbhnbladmpnoaaGreat.Ab
open Go Go.ChangeShapes Go.WideShapes
theorem sized_ints {H : Type} {enc : TypeId × Value→H} {P : Program} {W : World} {base : Nat} {spare : Nat→Bool} {held : Bool} {t e : TypeId} {k : IntKind} {a : Option Addr} {len cap : Nat} {d : DataW H} {ps : List MemPlace} {ts : List TypeId} {ds : List (DataW H)} {j : Nat}
    (hsz : (DataW.weightsEach P ts ds).all (· ≤ reachBytes) = true) (ht : ts[j]? = some t) (hd : ds[j]? = some d) (hu : P.underlying t = some (.slice e)) (he : P.underlying e = some (.int k)) (hc : P.cellsOf e = 1) {B : Nat} (hB : P.bytesOf e = B)
    (h : DataW.Trod enc P W base spare held t (.slice a len cap) d ps) : len * B ≤ 140737488351232:=by
  obtain ⟨fuel,hf⟩:=h
  rcases open_ints hu he hc hf with ⟨hcs,_⟩ | ⟨x,l,c,zs,hcs,_,hl,_,hz,hx,_,_⟩
  · simp [Value.cells] at hcs
    obtain ⟨rfl,rfl,rfl⟩:=hcs
    simp
  · simp [Value.cells] at hcs
    obtain ⟨rfl,rfl,rfl⟩:=hcs
    obtain ⟨hx,_⟩:=Prod.mk.inj hx
    subst hx
    have z:=sized_slice hsz ht hd hu
    rw [hB] at z
    have hl2 : len ≤ zs.length:=by
      rw [hz]
      split
      · exact hl
      · exact Nat.le_refl _
    have h1 : (lits (H:=H) k (zs.take len)).length + (lits (H:=H) k (zs.drop len)).length = zs.length:=by
      simp [lits]
      omega
    rw [h1] at z
    exact Nat.le_trans (Nat.mul_le_mul_right _ hl2) z
end Go.Proofs.YtmbhnbladmpnoaaGreat.Ab
