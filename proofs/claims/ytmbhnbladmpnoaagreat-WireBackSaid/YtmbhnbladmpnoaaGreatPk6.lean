/- Texts of this proof, packed: WrZero, WrMap, BLive, WrMap2, WrChk, WrChk2, WrLive, FrRef, WrLib, AppG, StrVal, WrApp, WrApp2, WrApp3, WrEnc, WrEnc2, WrSize, WrRead, WrRead2, WrRead3, WrRead4, WrRead5. -/
import Derived.Test.YtmbhnbladmpnoaaGreatPk5
import Derived.Maps.RangeRun
set_option linter.unusedVariables false
set_option linter.unusedSimpArgs false
set_option linter.unusedSectionVars false
/- Which field of a message is zero. -/
namespace Go.Proofs.YtmbhnbladmpnoaaGreat.Ab
open Go
set_option maxRecDepth 10000
theorem Zgl (n : Nat) (a b : Rg) : AP Tryz.prog (Op.equalIn (n + 2) 24 (rv a) (rv b)) = some ([a.1 == b.1,a.2 == b.2].all id) :=
  Pv Tryz.underlying24 (by kernel_rfl) ⟨by decide,⟨_,_,by kernel_rfl,by kernel_rfl,Pw _ _ _⟩,by decide,⟨_,_,by kernel_rfl,by kernel_rfl,Pw _ _ _⟩,trivial⟩
theorem Zfq (m n : Nat) (h : m = n + 2) (a b : Rg) : AP Tryz.prog (Op.equalIn m 24 (rv a) (rv b)) = some ([a.1 == b.1,a.2 == b.2].all id):=by
  subst h
  exact Zgl n a b
theorem Zv : Op.maxDepth = 9998 + 2:=by decide
theorem Zcm (o1 o2 : Operand) (a b : Rg) : abin Tryz.prog .eql 24 o1 o2 (rv a) (rv b) = some (.bool (a.1 == b.1 && a.2 == b.2)):=by
  have hg : AP Tryz.prog (eqGuard .eql 24 o1 o2 (.agg (prC.enc a).toArray) (.agg (prC.enc b).toArray)) = some ():=by kernel_rfl
  have he : AP Tryz.prog (Op.equal 24 (rv a) (rv b)) = some ([a.1 == b.1,a.2 == b.2].all id):=by
    unfold Op.equal
    exact Zfq _ 9998 Zv a b
  have:=Zdy (xs:=prC.enc a) (ys:=prC.enc b) (prC.leaf a) (prC.leaf b) hg he
  rw [show ([a.1 == b.1,a.2 == b.2].all id) = (a.1 == b.1 && a.2 == b.2) by simp] at this
  exact this
theorem Cv {t : St} {B i : Nat} {cells : List Value} {c : Value} (h : readRow t B = some cells) (hc : cells[i]? = some c) : Aj false 1 (.pointer (some ⟨B,i,none⟩)) t = some c:=by simp [Aj,h,hc]
theorem B6 {t : St} {B : Nat} {c : Value} (h : readRow t B = some [c]) : Aj false 1 (.pointer (some ⟨B,0,none⟩)) t = some c:=Cv h rfl
theorem Zw {t : St} {B i : Nat} {cells : List Value} {a b : Value} (h : readRow t B = some cells) (ha : cells[i]? = some a) (hb : cells[i + 1]? = some b) : Aj true 2 (.pointer (some ⟨B,i,none⟩)) t = some (.agg #[a,b]):=by
  obtain ⟨h1,h2⟩:=List.getElem?_eq_some_iff.1 hb
  obtain ⟨h3,h4⟩:=List.getElem?_eq_some_iff.1 ha
  simp only [Aj,if_true,readN,h,Option.bind_some]
  rw [if_pos (by omega)]
  have : (cells.drop i).take 2 = [a,b]:=by
    rw [List.drop_eq_getElem_cons h3,List.drop_eq_getElem_cons h1,h4,h2]
    rfl
  rw [this]
  rfl
theorem Zx {t : St} {B n : Nat} {cells : List Value} (h : readRow t B = some cells) (hn : cells.length = n) : Aj true n (.pointer (some ⟨B,0,none⟩)) t = some (.agg cells.toArray):=by
  subst hn
  simp [Aj,readN,h]
theorem BB {s t : St} (hx : Ext s.heap.length s t) {B : Nat} {cells : List Value} (h : readRow s B = some cells) : readRow t B = some cells:=by
  rw [← h]
  unfold Ab.readRow
  rw [hx.2 B (Ef h)]
theorem D6 {s : St} {B n : Nat} {cells : List Value} {st : Stat} (h : s.heap[B]? = some (.row n cells st)) (hst : st ≠ .dead) : readRow s B = some cells:=by
  unfold Ab.readRow
  rw [h]
  cases st with
  | dead=>exact absurd rfl hst
  | act=>rfl
  | ro=>rfl
abbrev mp (M : Nat) : Value:=.pointer (some ⟨M,0,none⟩)
def D7 : List (Nat × Nat):=[(69,6),(70,7),(71,8),(72,9),(73,10),(74,11),(75,12),(76,13),(77,14),(79,4),(80,5),(92,18),(96,19),(100,20)]
variable {R : Aa} (Q : WrH R)
include Q
theorem DJ {f ix : Nat} (h : (f,ix) ∈ D7) {M : Nat} {s : St} : Ag Tryz.prog R (fnV f) [mp M] s = some (.pointer (some ⟨M,ix,none⟩),s):=by
  have h1 : Ah (mp M) = some (mp M):=rfl
  have h2 : ∀ i,Ac i (mp M) = some (.pointer (some ⟨M,i,none⟩)):=fun i=>by simp [Ac]
  have h3 : ∀ i,retV [.pointer (some ⟨M,i,none⟩)] s = some (.pointer (some ⟨M,i,none⟩),s):=fun i=>ret1 rfl
  simp only [D7,List.mem_cons,List.not_mem_nil,or_false,Prod.mk.injEq] at h
  rcases h with ⟨rfl,rfl⟩ | ⟨rfl,rfl⟩ | ⟨rfl,rfl⟩ | ⟨rfl,rfl⟩ | ⟨rfl,rfl⟩ | ⟨rfl,rfl⟩ | ⟨rfl,rfl⟩ | ⟨rfl,rfl⟩ | ⟨rfl,rfl⟩ | ⟨rfl,rfl⟩ | ⟨rfl,rfl⟩ | ⟨rfl,rfl⟩ | ⟨rfl,rfl⟩ | ⟨rfl,rfl⟩
  · rw [OD]; refine Q.wire_all_1 ?_; unfold wire_all_1; simp only [h1,h2,h3,Option.bind_some]
  · rw [OE]; refine Q.wire_all_2 ?_; unfold wire_all_2; simp only [h1,h2,h3,Option.bind_some]
  · rw [OF]; refine Q.wire_all_3 ?_; unfold wire_all_3; simp only [h1,h2,h3,Option.bind_some]
  · rw [OG]; refine Q.wire_all_4 ?_; unfold wire_all_4; simp only [h1,h2,h3,Option.bind_some]
  · rw [OH]; refine Q.wire_all_5 ?_; unfold wire_all_5; simp only [h1,h2,h3,Option.bind_some]
  · rw [OI]; refine Q.wire_all_6 ?_; unfold wire_all_6; simp only [h1,h2,h3,Option.bind_some]
  · rw [OJ]; refine Q.wire_all_7 ?_; unfold wire_all_7; simp only [h1,h2,h3,Option.bind_some]
  · rw [OK]; refine Q.wire_all_8 ?_; unfold wire_all_8; simp only [h1,h2,h3,Option.bind_some]
  · rw [OL]; refine Q.wire_all_9 ?_; unfold wire_all_9; simp only [h1,h2,h3,Option.bind_some]
  · rw [M3]; refine Q.wire_all_10 ?_; unfold wire_all_10; simp only [h1,h2,h3,Option.bind_some]
  · rw [M4]; refine Q.wire_all_11 ?_; unfold wire_all_11; simp only [h1,h2,h3,Option.bind_some]
  · rw [Nb]; refine Q.wire_all_18 ?_; unfold wire_all_18; simp only [h1,h2,h3,Option.bind_some]
  · rw [Nc]; refine Q.wire_all_19 ?_; unfold wire_all_19; simp only [h1,h2,h3,Option.bind_some]
  · rw [Nd]; refine Q.wire_all_20 ?_; unfold wire_all_20; simp only [h1,h2,h3,Option.bind_some]
section
variable {f ix M C : Nat} {t : St} {cells : List Value} (hf : (f,ix) ∈ D7) (hM : readRow t M = some cells) (hC : readRow t C = some [fnV f])
include hf hM hC
theorem E2 {n : Int} (hi : cells[ix]? = some (.int .u64 n)) : Ag Tryz.prog R (.func (.func 145) #[] #[.pointer (some ⟨C,0,none⟩)]) [mp M] t = some (.bool (n == 0),t):=by
  rw [show (Value.func (.func 145) #[] #[.pointer (some ⟨C,0,none⟩)]) = .func (.func 145) ([] : List Value).toArray [.pointer (some ⟨C,0,none⟩)].toArray from rfl,Cq So]
  refine Q.wire_num_3 ?_
  have e : Ah (.pointer (some ⟨M,ix,none⟩)) = some (.pointer (some ⟨M,ix,none⟩)):=rfl
  unfold wire_num_3
  simp only [B6 hC,DJ Q hf,e,Cv hM hi,EVs,Dw]
theorem Q3 {n : Int} (hi : cells[ix]? = some (.int .i64 n)) : Ag Tryz.prog R (.func (.func 148) #[] #[.pointer (some ⟨C,0,none⟩)]) [mp M] t = some (.bool (n == 0),t):=by
  rw [show (Value.func (.func 148) #[] #[.pointer (some ⟨C,0,none⟩)]) = .func (.func 148) ([] : List Value).toArray [.pointer (some ⟨C,0,none⟩)].toArray from rfl,Cq O2]
  refine Q.wire_small_3 ?_
  have e : Ah (.pointer (some ⟨M,ix,none⟩)) = some (.pointer (some ⟨M,ix,none⟩)):=rfl
  unfold wire_small_3
  simp only [B6 hC,DJ Q hf,e,Cv hM hi,EVs,Dw]
theorem Vp {v : Value} {n : Int} (hi : cells[ix]? = some v) (hv : ∀ ty s,AG (.slice ty) v s = some (.int .i64 n)) : Ag Tryz.prog R (.func (.func 154) #[] #[.pointer (some ⟨C,0,none⟩)]) [mp M] t = some (.bool (n == 0),t):=by
  rw [show (Value.func (.func 154) #[] #[.pointer (some ⟨C,0,none⟩)]) = .func (.func 154) ([] : List Value).toArray [.pointer (some ⟨C,0,none⟩)].toArray from rfl,Cq Il]
  refine Q.wire_list_api_Op_3 ?_
  have e : Ah (.pointer (some ⟨M,ix,none⟩)) = some (.pointer (some ⟨M,ix,none⟩)):=rfl
  unfold wire_list_api_Op_3
  simp only [B6 hC,DJ Q hf,e,Cv hM hi,hv,EVs,Dw]
theorem Px {v : Value} {n : Int} (hi : cells[ix]? = some v) (hv : ∀ ty s,AG (.slice ty) v s = some (.int .i64 n)) : Ag Tryz.prog R (.func (.func 157) #[] #[.pointer (some ⟨C,0,none⟩)]) [mp M] t = some (.bool (n == 0),t):=by
  rw [show (Value.func (.func 157) #[] #[.pointer (some ⟨C,0,none⟩)]) = .func (.func 157) ([] : List Value).toArray [.pointer (some ⟨C,0,none⟩)].toArray from rfl,Cq Gk]
  refine Q.wire_list_api_Result_3 ?_
  have e : Ah (.pointer (some ⟨M,ix,none⟩)) = some (.pointer (some ⟨M,ix,none⟩)):=rfl
  unfold wire_list_api_Result_3
  simp only [B6 hC,DJ Q hf,e,Cv hM hi,hv,EVs,Dw]
theorem QD {v : Value} {n : Int} (hi : cells[ix]? = some v) (hv : ∀ ty s,AG (.slice ty) v s = some (.int .i64 n)) : Ag Tryz.prog R (.func (.func 160) #[] #[.pointer (some ⟨C,0,none⟩)]) [mp M] t = some (.bool (n == 0),t):=by
  rw [show (Value.func (.func 160) #[] #[.pointer (some ⟨C,0,none⟩)]) = .func (.func 160) ([] : List Value).toArray [.pointer (some ⟨C,0,none⟩)].toArray from rfl,Cq GP]
  refine Q.wire_list_api_Owner_3 ?_
  have e : Ah (.pointer (some ⟨M,ix,none⟩)) = some (.pointer (some ⟨M,ix,none⟩)):=rfl
  unfold wire_list_api_Owner_3
  simp only [B6 hC,DJ Q hf,e,Cv hM hi,hv,EVs,Dw]
end
section
variable {M : Nat} {t : St} {cells : List Value} (hM : readRow t M = some cells)
include hM
theorem Zy {b : Bool} (hi : cells[15]? = some (.bool b)) : Ag Tryz.prog R (fnV 85) [mp M] t = some (.bool (!b),t):=by
  rw [M7]
  refine Q.wire_all_14 ?_
  have h1 : Ah (mp M) = some (mp M):=rfl
  have h2 : Ac 15 (mp M) = some (.pointer (some ⟨M,15,none⟩)):=by simp [Ac]
  unfold wire_all_14
  simp only [h1,h2,Cv hM hi,EVs,Dw]
theorem XC {r : Rg} (hi : cells[16]? = some (sv r.1)) (hj : cells[17]? = some (sv r.2)) : Ag Tryz.prog R (fnV 90) [mp M] t = some (.bool (r.1 == [] && r.2 == []),t):=by
  rw [Na]
  refine Q.wire_all_17 ?_
  have h1 : Ah (mp M) = some (mp M):=rfl
  have h2 : Ac 16 (mp M) = some (.pointer (some ⟨M,16,none⟩)):=by simp [Ac]
  have h3 : (.agg #[(.string ⟨#[]⟩),(.string ⟨#[]⟩)] : Value) = rv ([],[]):=rfl
  have h4 : (.agg #[sv r.1,sv r.2] : Value) = rv r:=rfl
  unfold wire_all_17
  simp only [h1,h2,Zw hM hi hj,h3,h4,Zcm,EVs,Dw]
end
omit Q
def zTab (m : Ms) : List (Int × Bool):=[(113,m.req == 0),(98,m.boot == 0),(116,m.txn == 0),(108,m.low == 0),(118,m.ver == 0),(101,m.epoch == 0),(109,m.move == 0),(97,m.attempt == 0),(110,m.num == 0),(99,m.code == 0),(112,m.peer == 0),(102,!m.flag),(114,m.rg.1 == [] && m.rg.2 == []),(111,(m.ops.length : Int) == 0),(115,(m.res.length : Int) == 0),(119,(m.own.length : Int) == 0)]
def ZOk (R : Aa) (M : Nat) (Pt : St→Prop) (e : Value × Value × Nat) (p : Int × Bool) : Prop :=
  e.1 = .int .i32 p.1∧∃ x y z,e.2.1 = .agg #[x,y,z]∧[x,y,z].all AI = true∧∀ t,Pt t→Ag Tryz.prog R z [mp M] t = some (.bool p.2,t)
def ZAt (m : Ms) (vo vr vw : Value) (M N : Nat) (t : St) : Prop:=readRow t M = some (msC m vo vr vw)∧∀ i f,Am[i]? = some (rowF f)→readRow t (N + 1 + i) = some [fnV f]
theorem ZAt.ext {m : Ms} {vo vr vw : Value} {M N : Nat} {s t : St} (h : ZAt m vo vr vw M N s) (hx : Ext s.heap.length s t) : ZAt m vo vr vw M N t:=⟨BB hx h.1,fun i f hi=>BB hx (h.2 i f hi)⟩
include Q
theorem Zbv {m : Ms} {s0 : St} {vo vr vw : Value} (h : MsV m s0 vo vr vw) (M N : Nat) : All2 (ZOk R M (ZAt m vo vr vw M N)) (AK N) (zTab m):=by
  have lo:=A9 h.o
  have lr:=A9 h.r
  have lw:=A9 h.w
  refine ⟨⟨rfl,_,_,_,rfl,rfl,fun t ht=>E2 Q (f:=69) (ix:=6) (by decide) ht.1 (ht.2 0 _ rfl) rfl⟩,
    ⟨rfl,_,_,_,rfl,rfl,fun t ht=>E2 Q (f:=70) (ix:=7) (by decide) ht.1 (ht.2 1 _ rfl) rfl⟩,
    ⟨rfl,_,_,_,rfl,rfl,fun t ht=>E2 Q (f:=71) (ix:=8) (by decide) ht.1 (ht.2 2 _ rfl) rfl⟩,
    ⟨rfl,_,_,_,rfl,rfl,fun t ht=>E2 Q (f:=72) (ix:=9) (by decide) ht.1 (ht.2 3 _ rfl) rfl⟩,
    ⟨rfl,_,_,_,rfl,rfl,fun t ht=>E2 Q (f:=73) (ix:=10) (by decide) ht.1 (ht.2 4 _ rfl) rfl⟩,
    ⟨rfl,_,_,_,rfl,rfl,fun t ht=>E2 Q (f:=74) (ix:=11) (by decide) ht.1 (ht.2 5 _ rfl) rfl⟩,
    ⟨rfl,_,_,_,rfl,rfl,fun t ht=>E2 Q (f:=75) (ix:=12) (by decide) ht.1 (ht.2 6 _ rfl) rfl⟩,
    ⟨rfl,_,_,_,rfl,rfl,fun t ht=>E2 Q (f:=76) (ix:=13) (by decide) ht.1 (ht.2 7 _ rfl) rfl⟩,
    ⟨rfl,_,_,_,rfl,rfl,fun t ht=>E2 Q (f:=77) (ix:=14) (by decide) ht.1 (ht.2 8 _ rfl) rfl⟩,
    ⟨rfl,_,_,_,rfl,rfl,fun t ht=>Q3 Q (f:=79) (ix:=4) (by decide) ht.1 (ht.2 9 _ rfl) rfl⟩,
    ⟨rfl,_,_,_,rfl,rfl,fun t ht=>Q3 Q (f:=80) (ix:=5) (by decide) ht.1 (ht.2 10 _ rfl) rfl⟩,
    ⟨rfl,_,_,_,rfl,rfl,fun t ht=>Zy Q ht.1 rfl⟩,
    ⟨rfl,_,_,_,rfl,rfl,fun t ht=>XC Q ht.1 rfl rfl⟩,
    ⟨rfl,_,_,_,rfl,rfl,fun t ht=>Vp Q (f:=92) (ix:=18) (by decide) ht.1 (ht.2 11 _ rfl) rfl lo⟩,
    ⟨rfl,_,_,_,rfl,rfl,fun t ht=>Px Q (f:=96) (ix:=19) (by decide) ht.1 (ht.2 14 _ rfl) rfl lr⟩,
    ⟨rfl,_,_,_,rfl,rfl,fun t ht=>QD Q (f:=100) (ix:=20) (by decide) ht.1 (ht.2 17 _ rfl) rfl lw⟩,trivial⟩
end Go.Proofs.YtmbhnbladmpnoaaGreat.Ab

/- A message is looked at: the one function that ranges over a map (of all fields),told by a run of its pieces. -/
namespace Go.Proofs.YtmbhnbladmpnoaaGreat.Ab
open Go Go.RowKit
open Go.ChangeMaps (setBlock)
def pc (F : List Value→St→Res) (X : List Value) (s : St) : Option (List Value × St):=(F X s).bind fun r=>match r.1 with
  | .normal=>some r.2
  | _=>none
theorem Vq {F : List Value→St→Res} {X : List Value} {s : St} {r : List Value × St} (h : pc F X s = some r) : F X s = some (.normal,r.1,r.2):=by
  unfold pc at h
  obtain ⟨⟨e,y⟩,h1,h2⟩:=Option.bind_eq_some_iff.1 h
  cases e with
  | normal=>cases h2; exact h1
  | ret=>cases h2
  | exit=>cases h2
theorem FS.start {n wb : Nat} {ι : Emb} {s : St} {w : World} {args : List Value} {args' : Array Value} (hs : Sim wb ι s.heap w) (ha : All2 (VRel ι) args args'.toList) (hn : args.length ≤ n) :
    FS n wb ι (LX args) s.heap (args' ++ Array.replicate (n - args'.size) undef) w∧(args' ++ Array.replicate (n - args'.size) undef).size = n:=by
  have hsz : args'.size = args.length:=by simpa using ha.length.symm
  exact ⟨⟨hs,fun x _=>VV ha _ x⟩,by simp; omega⟩
theorem Py {P : Program} {X : Option Nat × Nat} {ops : Array Oper} {i : Nat} {o : Oper} {rest : List Nat} {Q : Exit→Act→World→Prop} {a : Act} {w : World} {R : Value→World→Prop} (ho : ops[i]? = some o) (hg : o.guard = none) (h : OpOk P o a w R)
    (hQ : ∀ v' w',R v' w'→wpOpsIn (FR X) X.2 P ops Q rest (a.put o.dst v') w') : wpOpsIn (FR X) X.2 P ops Q (i :: rest) a w:=by
  rw [wpOpsIn_cons]
  unfold wpOpIn
  simp only [ho]
  have hw : Region.wanted o (yielded ops a.tmps) = true:=by unfold Region.wanted; rw [hg]
  rw [if_pos hw]
  exact h.wp fun v' w' hr=>hQ v' w' hr
theorem Wm {a : Act} {d x : Nat} {v : Value} (hd : d < a.tmps.size) : (a.put (some d) v).tmps.getD x undef = if x = d then v else a.tmps.getD x undef:=by
  by_cases e : x = d
  · subst e; rw [if_pos rfl]; exact G1 hd
  · rw [if_neg e]; exact Lf (by simpa using e)
theorem FS.put {n wb : Nat} {ι : Emb} {T : Fr} {H : List Blk} {a : Act} {w : World} (h : FS n wb ι T H a.tmps w) (hz : a.tmps.size = n) {d : Nat} (hd : d < n) {v v' : Value} (hv : VRel ι v v') : FS n wb ι (setT T d v) H (a.put (some d) v').tmps w:=by
  refine ⟨h.sim,fun x hx=>?_⟩
  rw [Wm (by omega)]
  unfold setT
  by_cases e : x = d
  · subst e
    rw [if_pos rfl,Nat.beq_refl,cond_true]
    exact hv
  · have hb : Nat.beq x d = false:=by
      cases hb : Nat.beq x d with
      | false=>rfl
      | true=>exact absurd (Nat.eq_of_beq_eq_true hb) e
    rw [if_neg e,hb,cond_false]
    exact h.nm x hx
theorem FS.poke {n wb : Nat} {ι : Emb} {T : Fr} {H : List Blk} {a : Act} {w : World} (h : FS n wb ι T H a.tmps w) (hz : a.tmps.size = n) {d : Nat} (hd : d < n) (hT : T d = CB) {v' : Value} : FS n wb ι T H (a.put (some d) v').tmps w:=by
  refine ⟨h.sim,fun x hx=>?_⟩
  rw [Wm (by omega)]
  by_cases e : x = d
  · subst e
    rw [if_pos rfl,hT]
    exact .poison _
  · rw [if_neg e]; exact h.nm x hx
theorem FS.weak {n wb : Nat} {ι : Emb} {T T' : Fr} {H : List Blk} {tmps : Array Value} {w : World} (h : FS n wb ι T H tmps w) (hw : ∀ x,T' x = T x ∨ T' x = CB) : FS n wb ι T' H tmps w:=⟨h.sim,fun x hx=>by
  rcases hw x with e | e
  · rw [e]; exact h.nm x hx
  · rw [e]; exact .poison _⟩
def Zz (D : Nat) (v : Value) : Prop:=v = CB ∨ A0 v = true ∨ ∃ b off,v = .pointer (some ⟨b,off,none⟩)∧b < D
theorem Zz.rel {D : Nat} {ι κ : Emb} {v v' : Value} (h : Zz D v) (hold : ∀ b,b < D→κ b = ι b) (g : VRel κ v v') : VRel ι v v':=by
  rcases h with rfl | h | ⟨b,off,rfl,hb⟩
  · exact .poison _
  · rw [Gs h g]
    exact Ju h
  · obtain ⟨_,l,hl,rfl⟩:=g.inv_ptr
    exact .of0 (.ptr off (by rw [← hold b hb]; exact hl))
theorem Pz {P : Program} {o : Oper} {a : Act} {w w' : World} {x : Operand} {str : Bool} {v : Value} (ho : o.op = .next x str) (h : (Instr.next (a.eval x) str o.type).run P w = .ok v w') : OpOk P o a w fun v' u=>v' = v∧u = w':=by
  refine .inl ⟨v,w',?_,rfl,rfl⟩
  simp [execOp,ho,h,Result.andThen]
theorem T8 {P : Program} {o : Oper} {a : Act} {w w' : World} {x : Operand} {v : Value} (ho : o.op = .entry x) (h : (Instr.entry (a.eval x)).run P w = .ok v w') : OpOk P o a w fun v' u=>v' = v∧u = w':=by
  refine .inl ⟨v,w',?_,rfl,rfl⟩
  simp [execOp,ho,h,Result.andThen]
theorem Jl {P : Program} {o : Oper} {a : Act} {w : World} {x : Operand} {i : Nat} {vs : Array Value} {v : Value} (ho : o.op = .extract x i) (e : a.eval x = .tuple vs) (h : vs[i]? = some v) : OpOk P o a w fun v' u=>v' = v∧u = w:=by
  refine .inl ⟨v,w,?_,rfl,rfl⟩
  simp [execOp,ho,e,Instr.extract,h,Result.andThen]
def Zcn : Code→Array Oper
  | .region _ ops _=>ops
  | _=>#[]
noncomputable abbrev cB : Code:=GD Tryz.f11
noncomputable def ops5 : Array Oper:=Zcn (sel [1,1,1,0,1,2,2,0] cB)
noncomputable def ops6 : Array Oper:=Zcn (sel [1,1,1,0,1,2,2,1,1,2,0] cB)
theorem ZA : cB = .seq (sel [0] cB) (.seq (sel [1,0] cB) (.seq (sel [1,1,0] cB) (.seq (.seq (sel [1,1,1,0,0] cB) (.block 0 (.loop (.seq (.region 5 ops5 false) (.seq (.cond (.tmp 46) .skip (.exit 0)) (.block 1 (.seq (.region 6 ops6 false) (sel [1,1,1,0,1,2,2,1,1,2,1] cB)))))))) (sel [1,1,1,1] cB)))):=by kernel_rfl
theorem Zbw : Tryz.f11.body = some cB:=by kernel_rfl
theorem Zgm : Tryz.f11.ntmps = 62:=by kernel_rfl
theorem ZB : Tryz.f11.results.toList = [.tmp 2]:=by kernel_rfl
theorem Zfr : (ops5[0]?).map (fun o=>(o.op,o.dst,o.guard)) = some (.next (.tmp 44) false,some 45,none):=by kernel_rfl
theorem Zfs : (ops5[1]?).map (fun o=>(o.op,o.dst,o.guard)) = some (.extract (.tmp 45) 0,some 46,none):=by kernel_rfl
theorem Zft : ops5.size = 2:=by kernel_rfl
theorem Zfu : (ops6[0]?).map (fun o=>(o.op,o.dst,o.guard)) = some (.entry (.tmp 44),some 47,none):=by kernel_rfl
theorem Zco : ops6.size = 6:=by kernel_rfl
theorem Zfv : (ops6.toList.drop 1).all (fun o=>EQ 62 ops6 o && o.guard.isNone) = true:=by kernel_rfl
theorem SJ {ops : Array Oper} {i : Nat} {x : Op} {d : Option Tmp} (h : (ops[i]?).map (fun o=>(o.op,o.dst,o.guard)) = some (x,d,none)) : ∃ o,ops[i]? = some o∧o.op = x∧o.dst = d∧o.guard = none:=by
  obtain ⟨o,h1,h2⟩:=Option.map_eq_some_iff.1 h
  simp only [Prod.mk.injEq] at h2
  exact ⟨o,h1,h2.1,h2.2.1,h2.2.2⟩
noncomputable def F6 (T : List Value) (s : St) : Option (List Value × St) :=
  (Al 0 (getL T 4)).bind fun v48=>(Al 1 (getL T 4)).bind fun v49=>(anew [.nilFunc,.nilFunc,.nilFunc] s).bind fun r=>(A4 3 r.1 v49 r.2).bind fun s'=>some ([getL T 0,getL T 1,getL T 2,v48,r.1,getL T 3],s')
theorem Zgn (R : Aa) (T : List Value) (s : St) : seqB Tryz.prog R [] (ops6.toList.drop 1) (ofL [1,2,3,44,47] 0 T noT) s (fun T s=>some (toL [1,2,3,5,6,44] T,s)) = F6 T s:=by kernel_rfl
noncomputable def oneC (R : Aa) (X : List Value) (e : Value × Value × Nat) (s : St) : Option (Ex × Value) :=
  (F6 [getL X 0,getL X 1,getL X 2,getL X 3,.tuple #[e.1,e.2.1]] s).bind fun u=>(wire_Check.bd R u.1 u.2).bind fun z=>some (z.1,getL z.2.1 1)
noncomputable def allC (R : Aa) (X : List Value) (s : St) : List (Value × Value × Nat)→Option Bool
  | []=>some true
  | e :: es=>(oneC R X e s).bind fun z=>match z with
    | (.normal,_)=>allC R X s es
    | (.ret,.int .i64 180)=>(allC R X s es).map fun _=>false
    | _=>none
def J2 (c : Nat) : List (Value × Value × Nat)→Bool
  | []=>true
  | e :: es=>Nat.ble (e.2.2 + 1) c && (es.all fun x=>!Nat.beq x.2.2 e.2.2) && J2 c es
def T9 (v : Value) (s : St) : Option (Nat × Nat × Nat × List (Value × Value × Nat)) :=
  match v with
  | .pointer (some ⟨bi,0,none⟩)=>match s.heap[bi]? with
    | some (.map [(.tuple _,.map (some bm),c)] _)=>match s.heap[bm]? with
      | some (.map es c')=>cond (Nat.beq c c' && !Fh es && J2 c es) (some (bi,bm,c,es)) none
      | _=>none
    | _=>none
  | _=>none
def J3 (D : Nat) (v : Value) : Bool:=match v with
  | .pointer (some ⟨b,_,none⟩)=>Nat.ble (b + 1) D
  | v=>A0 v
def Zdz : Value→Option Int
  | .int .i64 n=>some n
  | _=>none
noncomputable def J4 (R : Aa) (x0 : Value) (s : St) : Option Int :=
  (pc (wire_Check.A R) [x0] s).bind fun a =>
  (pc (wire_Check.B R) a.1 a.2).bind fun b =>
  (wire_Check.C R b.1 b.2).bind fun c=>match c.1 with
  | .ret=>Zdz (getL c.2.1 1)
  | .normal=>(pc (wire_Check.D R) c.2.1 c.2.2).bind fun d=>(T9 (getL d.1 3) d.2).bind fun i =>
    cond (Nat.ble s.heap.length i.1 && J3 d.2.heap.length (getL d.1 0) && J3 d.2.heap.length (getL d.1 1) && J3 d.2.heap.length (getL d.1 2) && J3 d.2.heap.length (getL d.1 3))
      ((allC R d.1 (frzS d.2) i.2.2.2).map fun g=>cond g 0 180) none
  | _=>none
theorem ZdA {R : Aa} {T : List Value} {s : St} {r : Ex × List Value × St} (h : wire_Check.bd R T s = some r) : (r.1 = .normal∧r.2.1 = [getL T 0,getL T 1,getL T 2,getL T 5]) ∨ (r.1 = .ret∧r.2.1 = [getL T 0,.int .i64 180,getL T 2,getL T 5]):=by
  unfold wire_Check.bd at h
  simp only [Option.bind_eq_some_iff] at h
  obtain ⟨_,_,_,_,_,_,_,_,_,_,_,_,v10,_,h⟩:=h
  unfold Ax at h
  split at h
  · split at h
    · cases h; exact .inr ⟨rfl,rfl⟩
    · cases h; exact .inl ⟨rfl,rfl⟩
  · cases h
theorem PA {R : Aa} {X : List Value} {s : St} : ∀ {es : List (Value × Value × Nat)} {g : Bool},allC R X s es = some g →
    (∀ e ∈ es,(∃ v,oneC R X e s = some (.normal,v)) ∨ (oneC R X e s = some (.ret,.int .i64 180)∧g = false))∧((∀ e ∈ es,∃ v,oneC R X e s = some (.normal,v))→g = true)
  | [],g,h=>by
    cases h
    exact ⟨fun e he=>(by cases he),fun _=>rfl⟩
  | e :: es,g,h=>by
    simp only [allC,Option.bind_eq_some_iff] at h
    obtain ⟨⟨ex,v⟩,h1,h⟩:=h
    split at h
    · rename_i v' heq
      cases heq
      obtain ⟨g1,g2⟩:=PA h
      refine ⟨fun x hx=>?_,fun hh=>g2 fun x hx=>hh x (List.mem_cons_of_mem _ hx)⟩
      rcases List.mem_cons.1 hx with rfl | hx
      · exact .inl ⟨_,h1⟩
      · exact g1 x hx
    · rename_i heq
      cases heq
      obtain ⟨g0,h2,rfl⟩:=Option.map_eq_some_iff.1 h
      obtain ⟨g1,g2⟩:=PA h2
      refine ⟨fun x hx=>?_,fun hh=>?_⟩
      · rcases List.mem_cons.1 hx with rfl | hx
        · exact .inr ⟨h1,rfl⟩
        · rcases g1 x hx with hx | hx
          · exact .inl hx
          · exact .inr ⟨hx.1,rfl⟩
      · obtain ⟨v,hv⟩:=hh e (List.mem_cons_self ..)
        rw [h1] at hv
        cases hv
    · cases h
theorem Wn {c : Nat} : ∀ {es : List (Value × Value × Nat)},J2 c es = true→(∀ e ∈ es,e.2.2 < c)∧(es.map (·.2.2)).Nodup
  | [],_=>⟨fun e he=>(by cases he),List.nodup_nil⟩
  | e :: es,h=>by
    simp only [J2,Bool.and_eq_true,List.all_eq_true,Bool.not_eq_true'] at h
    obtain ⟨⟨h1,h2⟩,h3⟩:=h
    obtain ⟨g1,g2⟩:=Wn h3
    refine ⟨fun x hx=>?_,?_⟩
    · rcases List.mem_cons.1 hx with rfl | hx
      · exact Nat.le_of_ble_eq_true h1
      · exact g1 x hx
    · rw [List.map_cons,List.nodup_cons]
      refine ⟨fun hm=>?_,g2⟩
      obtain ⟨x,hx,he⟩:=List.mem_map.1 hm
      have:=h2 x hx
      rw [he,Nat.beq_refl] at this
      cases this
theorem Ua {ι : Emb} : ∀ {es : List (Value × Value × Nat)} {es' : List MapEntry},All2 (Hu ι) es es'→es'.map (·.born) = es.map (·.2.2)
  | [],[],_=>rfl
  | x :: es,e :: es',⟨h1,h2⟩=>by simp [h1.2.2.2,Ua h2]
theorem SK {α β : Type} {R : α→β→Prop} : ∀ {l : List α} {m : List β} {b : β},All2 R l m→b ∈ m→∃ a ∈ l,R a b
  | [],[],_,_,h=>by cases h
  | a :: l,c :: m,b,⟨h1,h2⟩,h=>by
    rcases List.mem_cons.1 h with rfl | h
    · exact ⟨a,List.mem_cons_self ..,h1⟩
    · obtain ⟨x,hx,hr⟩:=SK h2 h
      exact ⟨x,List.mem_cons_of_mem _ hx,hr⟩
theorem Ub {α β : Type} {R : α→β→Prop} : ∀ {l : List α} {m : List β} {a : α},All2 R l m→a ∈ l→∃ b ∈ m,R a b
  | [],[],_,_,h=>by cases h
  | a :: l,c :: m,b,⟨h1,h2⟩,h=>by
    rcases List.mem_cons.1 h with rfl | h
    · exact ⟨c,List.mem_cons_self ..,h1⟩
    · obtain ⟨x,hx,hr⟩:=Ub h2 h
      exact ⟨x,List.mem_cons_of_mem _ hx,hr⟩
structure Kept (rb : Nat) (w v : World) : Prop where
  size : w.heap.size ≤ v.heap.size
  keep : ∀ c,c < w.heap.size→c ≠ rb→v.heap[c]? = w.heap[c]?
  os : v.os = w.os
  tape : v.tape = w.tape
  output : v.output = w.output
theorem Kept.trans {rb : Nat} {w v u : World} (h : Kept rb w v) (g : Kept rb v u) : Kept rb w u:=⟨Nat.le_trans h.size g.size,fun c hc hn=>(g.keep c (Nat.lt_of_lt_of_le hc h.size) hn).trans (h.keep c hc hn),g.os.trans h.os,g.tape.trans h.tape,g.output.trans h.output⟩
theorem ZC (s : St) : ZcW (frzS s).heap:=fun b es c h=>by
  rw [G3] at h
  cases hx : s.heap[b]? with
  | none=>rw [hx] at h; cases h
  | some x =>
    rw [hx] at h
    cases x with
    | row n c st=>cases st <;> simp [frzB] at h
    | map=>simp [frzB] at h
structure Rnd (d : St) (X : List Value) (κ : Emb) (rb mb cl : Nat) (es : List (Value × Value × Nat)) (es' : Array MapEntry) (w4 : World) : Prop where
  ents : All2 (Hu κ) es es'.toList
  map : w4.heap[mb]? = some (.map es' cl)
  ne : mb ≠ rb
  lt : rb < w4.heap.size
  borns : J2 cl es = true
  back : ∀ i,i < 4→Zz d.heap.length (getL X i)
  it : ∃ bi l,getL X 3 = .pointer (some ⟨bi,0,none⟩)∧κ bi = some l∧l.blk = rb∧l.off = 0
abbrev TX (X : List Value) : Fr:=ofL [1,2,3,44] 0 X noT
def LInv (R : Aa) (d : St) (X : List Value) (κ : Emb) (rb mb cl : Nat) (es : List (Value × Value × Nat)) (es' : Array MapEntry) (w4 : World) (a : Act) (w : World) : Prop :=
  ∃ seen c0,cl ≤ c0∧w.heap[rb]? = some (.mapIter (some mb) cl seen c0)∧(∀ x ∈ es'.toList,seen.contains x.born = true→∀ e ∈ es,Hu κ e x→∃ v,oneC R X e (frzS d) = some (.normal,v)) ∧
    FS 62 w4.heap.size κ (TX X) (frzS d).heap a.tmps w∧a.tmps.size = 62∧a.defers = []∧Kept rb w4 w
theorem ZD {es : List (Value × Value × Nat)} (h : (es.map (·.2.2)).Nodup) {x y : Value × Value × Nat} (hx : x ∈ es) (hy : y ∈ es) (e : x.2.2 = y.2.2) : x = y:=by
  induction es with
  | nil=>cases hx
  | cons z es ih =>
    rw [List.map_cons,List.nodup_cons] at h
    rcases List.mem_cons.1 hx with hx | hx
    · rcases List.mem_cons.1 hy with hy | hy
      · rw [hx,hy]
      · exact absurd (List.mem_map.2 ⟨y,hy,by rw [← e,hx]⟩) h.1
    · rcases List.mem_cons.1 hy with hy | hy
      · exact absurd (List.mem_map.2 ⟨x,hx,by rw [e,hy]⟩) h.1
      · exact ih h.2 hx hy
theorem ZE {R : Aa} (hR : DZ Tryz.prog R) {d : St} {X : List Value} {κ : Emb} {rb mb cl : Nat} {es : List (Value × Value × Nat)} {es' : Array MapEntry} {w4 : World} (hd : Rnd d X κ rb mb cl es es' w4)
    (hall : ∀ e ∈ es,(∃ v,oneC R X e (frzS d) = some (.normal,v)) ∨ oneC R X e (frzS d) = some (.ret,.int .i64 180)) {Q : Exit→Act→World→Prop}
    (hdone : (∀ e ∈ es,∃ v,oneC R X e (frzS d) = some (.normal,v))→∀ a w,FS 62 w4.heap.size κ (TX X) (frzS d).heap a.tmps w→a.tmps.size = 62→a.defers = []→Kept rb w4 w→Q (.exit 0) a w)
    (hret : (∃ e ∈ es,oneC R X e (frzS d) = some (.ret,.int .i64 180))→∀ a w,a.tmps.getD 2 undef = .int .i64 180→a.tmps.size = 62→a.defers = []→Kept rb w4 w→Q .ret a w)
    {a : Act} {w : World} (hI : LInv R d X κ rb mb cl es es' w4 a w) :
    (Code.seq (.region 5 ops5 false) (.seq (.cond (.tmp 46) .skip (.exit 0)) (.block 1 (.seq (.region 6 ops6 false) (sel [1,1,1,0,1,2,2,1,1,2,1] cB))))).wpIn (FR (none,0)) 0 Tryz.prog (Exit.then (fun a' w'=>LInv R d X κ rb mb cl es es' w4 a' w'∧(leftOf es' (w'.iterSeen rb)).size < (leftOf es' (w.iterSeen rb)).size) Q) a w:=by
  obtain ⟨seen,c0,hc0,hit,hgood,hfs,hz,hdef,hk⟩:=hI
  have hmlt : mb < w4.heap.size:=(Array.getElem?_eq_some_iff.1 hd.map).1
  have hb : w.heap[mb]? = some (.map es' cl):=(hk.keep mb hmlt hd.ne).trans hd.map
  obtain ⟨hbl,hnd⟩:=Wn hd.borns
  have hold : ∀ x ∈ es'.toList,x.born < cl:=fun x hx=>by
    obtain ⟨e,he,hr⟩:=SK hd.ents hx
    rw [hr.2.2.2]
    exact hbl e he
  have hnd' : (es'.toList.map (·.born)).Nodup:=by rw [Ua hd.ents]; exact hnd
  obtain ⟨bi,lb,hx3,hlb,rfl,hoff⟩:=hd.it
  have hev : a.eval (.tmp 44) = .pointer (some ⟨lb.blk,0,none⟩):=by
    have h44 : VRel κ (getL X 3) (a.tmps.getD 44 undef):=hfs.nm 44 (by decide)
    rw [hx3] at h44
    obtain ⟨_,l,hl,e⟩:=h44.inv_ptr
    rw [hlb] at hl
    cases hl
    rw [hoff] at e
    exact e
  obtain ⟨o0,p0,q0,r0,g0⟩:=SJ Zfr
  obtain ⟨o1,p1,q1,r1,g1⟩:=SJ Zfs
  have hT : ∀ x,x ≠ 1→x ≠ 2→x ≠ 3→x ≠ 44→TX X x = CB:=fun x h1 h2 h3 h4=>by
    rcases Rx (L:=[1,2,3,44]) (T2:=TX X) (T0:=noT) x with ⟨hm,_⟩ | ⟨hm,he⟩
    · simp at hm; omega
    · exact he
  refine wpIn_seq (wpIn_region ?_)
  rw [Zft,show List.range 2 = [0,1] from rfl]
  rcases run_next_at (P:=Tryz.prog) w o0.type lb.blk mb cl c0 seen es' cl hit hb hold hc0 with ⟨h0,hrun⟩ | ⟨e0,he0,w1,hal,hrun⟩
  · have k0:=Pz (a:=a) (w:=w) (w':=w) (v:=.tuple #[.bool false]) q0 (by rw [hev]; exact hrun)
    refine Py (X:=(none,0)) p0 g0 k0 ?_
    intro v' u hh
    rw [hh.1,hh.2,r0]
    have hz1 : (a.put (some 45) (.tuple #[.bool false])).tmps.size = 62:=by rw [FU]; exact hz
    have k1:=Jl (P:=Tryz.prog) (a:=a.put (some 45) (.tuple #[.bool false])) (w:=w) q1 (vs:=#[.bool false]) (v:=.bool false) (by show (a.put (some 45) _).tmps.getD 45 undef = _; exact G1 (by omega)) rfl
    refine Py (X:=(none,0)) p1 g1 k1 ?_
    intro v' u hh
    rw [hh.1,hh.2,r1]
    have hz2 : ((a.put (some 45) (.tuple #[.bool false])).put (some 46) (.bool false)).tmps.size = 62:=by rw [FU]; exact hz1
    have f1:=hfs.poke hz (d:=45) (by decide) (hT 45 (by decide) (by decide) (by decide) (by decide)) (v':=.tuple #[.bool false])
    have f2:=f1.poke hz1 (d:=46) (by decide) (hT 46 (by decide) (by decide) (by decide) (by decide)) (v':=.bool false)
    refine wpIn_seq (wpIn_cond_false (by show Array.getD _ 46 undef = _; exact G1 (by omega)) (wpIn_exit ?_))
    refine hdone (fun e he=>?_) _ _ f2 hz2 (by rw [DM,DM]; exact hdef) hk
    obtain ⟨x,hx,hr⟩:=Ub hd.ents he
    exact hgood x hx (all_seen es' seen h0 x hx) e he hr
  · have hem:=(mem_left he0).1
    obtain ⟨e1,he1,hent⟩:=SK hd.ents hem
    have hrb1 : w1.heap[lb.blk]? = some (.mapIter (some mb) cl seen c0):=by rcases hal with rfl | rfl <;> exact hit
    have hset : (setBlock w1 lb.blk (.mapIter (some mb) cl (seen.push e0.born) cl)).heap[lb.blk]? = some (.mapIter (some mb) cl (seen.push e0.born) cl)∧∀ r',r' ≠ lb.blk→(setBlock w1 lb.blk (.mapIter (some mb) cl (seen.push e0.born) cl)).heap[r']? = w1.heap[r']?:=MapKept.heap_set hrb1
    obtain ⟨w2,hw2⟩ : ∃ w2,setBlock w1 lb.blk (.mapIter (some mb) cl (seen.push e0.born) cl) = w2:=⟨_,rfl⟩
    rw [hw2] at hrun hset
    have hgr : w.grownBy w2 (some lb.blk):=by
      rw [← hw2]
      rcases hal with rfl | rfl
      · exact ⟨rfl,rfl,rfl,by simp [setBlock],fun i _ hi=>by rw [hw2]; exact hset.2 i (fun e=>hi (by rw [e]))⟩
      · exact ⟨rfl,rfl,rfl,by simp [setBlock],fun i _ hi=>by rw [hw2]; exact hset.2 i (fun e=>hi (by rw [e]))⟩
    have hit2:=hset.1
    have hb2 : w2.heap[mb]? = some (.map es' cl):=by rw [hgr.block mb (Array.getElem?_eq_some_iff.1 hb).1 (fun e=>hd.ne (by cases e; rfl))]; exact hb
    have hk2 : Kept lb.blk w4 w2:=hk.trans ⟨hgr.size,fun c hc hn=>hgr.block c hc (fun e=>hn (by cases e; rfl)),hgr.os,hgr.tape,hgr.output⟩
    have hfs2 : FS 62 w4.heap.size κ (TX X) (frzS d).heap a.tmps w2:=hfs.grown (ZC d) hgr fun r e=>by cases e; exact ⟨_,hit,fun _ _ _ e=>by cases e⟩
    have k0:=Pz (a:=a) (w:=w) (w':=w2) (v:=.tuple #[.bool true,e0.key,e0.val]) q0 (by rw [hev]; exact hrun)
    refine Py (X:=(none,0)) p0 g0 k0 ?_
    intro v' u hh
    rw [hh.1,hh.2,r0]
    obtain ⟨a1,ha1⟩ : ∃ a1,a.put (some 45) (.tuple #[.bool true,e0.key,e0.val]) = a1:=⟨_,rfl⟩
    have hz1 : a1.tmps.size = 62:=by rw [← ha1,FU]; exact hz
    have k1:=Jl (P:=Tryz.prog) (a:=a1) (w:=w2) q1 (vs:=#[.bool true,e0.key,e0.val]) (v:=.bool true) (by rw [← ha1]; show (a.put (some 45) _).tmps.getD 45 undef = _; exact G1 (by omega)) rfl
    rw [ha1]
    refine Py (X:=(none,0)) p1 g1 k1 ?_
    intro v' u hh
    rw [hh.1,hh.2,r1]
    obtain ⟨a2,ha2⟩ : ∃ a2,a1.put (some 46) (.bool true) = a2:=⟨_,rfl⟩
    have hz2 : a2.tmps.size = 62:=by rw [← ha2,FU]; exact hz1
    have f1 : FS 62 w4.heap.size κ (TX X) (frzS d).heap a1.tmps w2:=by rw [← ha1]; exact hfs2.poke hz (d:=45) (by decide) (hT 45 (by decide) (by decide) (by decide) (by decide))
    have f2 : FS 62 w4.heap.size κ (TX X) (frzS d).heap a2.tmps w2:=by rw [← ha2]; exact f1.poke hz1 (d:=46) (by decide) (hT 46 (by decide) (by decide) (by decide) (by decide))
    have hdef2 : a2.defers = []:=by rw [← ha2,← ha1,DM,DM]; exact hdef
    have hev2 : a2.eval (.tmp 44) = .pointer (some ⟨lb.blk,0,none⟩):=by
      have h44 : VRel κ (getL X 3) (a2.tmps.getD 44 undef):=f2.nm 44 (by decide)
      rw [hx3] at h44
      obtain ⟨_,l,hl,e⟩:=h44.inv_ptr
      rw [hlb] at hl
      cases hl
      rw [hoff] at e
      exact e
    rw [ha2]
    refine wpIn_seq (wpIn_cond_true (by rw [← ha2]; show Array.getD _ 46 undef = _; exact G1 (by omega)) (wpIn_skip ?_))
    refine wpIn_block (wpIn_seq (wpIn_region ?_))
    rw [Zco,show List.range 6 = 0 :: (List.range' 1 5 ++ []) from rfl]
    obtain ⟨o6,p6,q6,r6,g6⟩:=SJ Zfu
    have k6:=T8 (P:=Tryz.prog) (a:=a2) (w:=w2) (w':=w2) (v:=.tuple #[e0.key,e0.val]) q6 (by rw [hev2]; exact run_entry_at w2 lb.blk mb cl seen es' cl e0 hit2 hb2 hem hnd')
    refine Py (X:=(none,0)) p6 g6 k6 ?_
    intro v' u hh
    rw [hh.1,hh.2,r6]
    obtain ⟨a3,ha3⟩ : ∃ a3,a2.put (some 47) (.tuple #[e0.key,e0.val]) = a3:=⟨_,rfl⟩
    have hz3 : a3.tmps.size = 62:=by rw [← ha3,FU]; exact hz2
    have hvt : VRel κ (.tuple #[e1.1,e1.2.1]) (.tuple #[e0.key,e0.val]):=by
      rw [hent.1]
      exact .tuple ⟨Kd hent.2.1,hent.2.2.1,trivial⟩
    have f3 : FS 62 w4.heap.size κ (setT (TX X) 47 (.tuple #[e1.1,e1.2.1])) (frzS d).heap a3.tmps w2:=by rw [← ha3]; exact f2.put hz2 (by decide) hvt
    rw [ha3]
    have hout:=hall e1 he1
    have hone : ∃ z,oneC R X e1 (frzS d) = some z:=by
      rcases hout with ⟨v,h⟩ | h <;> exact ⟨_,h⟩
    obtain ⟨⟨ex,vx⟩,hone⟩:=hone
    have hone':=hone
    unfold oneC at hone'
    simp only [Option.bind_eq_some_iff] at hone'
    obtain ⟨⟨u1,s1⟩,hF6,⟨ez,Xz,sz⟩,hbd,hzz⟩:=hone'
    have hu1 : ∃ v5 v6,u1 = [getL X 0,getL X 1,getL X 2,v5,v6,getL X 3]:=by
      have h:=hF6
      simp only [F6,Option.bind_eq_some_iff] at h
      obtain ⟨v48,_,v49,_,r,_,s',_,h⟩:=h
      cases h
      exact ⟨_,_,rfl⟩
    have hop:=Zgn R [getL X 0,getL X 1,getL X 2,getL X 3,.tuple #[e1.1,e1.2.1]] (frzS d)
    rw [hF6] at hop
    obtain ⟨T6,s6,hk6,hdo6,_⟩:=Kh (P:=Tryz.prog) (n:=62) (m:=0) (wb:=w4.heap.size) hR (tn:=[]) rfl (ops:=ops6) (G:=none) (.inl rfl) (l:=ops6.toList.drop 1) (i:=1) (fun j hj=>by rw [List.getElem?_drop]; simp) (fun o ho=>by
      have:=List.all_eq_true.1 Zfv o ho
      simp only [Bool.and_eq_true,Option.isNone_iff_eq_none] at this
      exact this) (fun g t e=>by cases e) hop
    cases hk6
    have hlen : (ops6.toList.drop 1).length = 5:=by simp [Zco]
    rw [hlen] at hdo6
    have hfr : [getL X 0,getL X 1,getL X 2,getL X 3,.tuple #[e1.1,e1.2.1]] = toL [1,2,3,44,47] (cutF 62 (setT (TX X) 47 (.tuple #[e1.1,e1.2.1]))):=rfl
    refine hdo6 (none,0) κ (frzS d).heap w2 κ (fun _=>none) a3 w2 hk2.size (f3.b.weak fun x=>by rw [hfr]; exact kept _ _ x) hz3 _ [] fun ι' lam' a' w' g1 g2 g3=>?_
    have hF : FS 62 w4.heap.size ι' T6 s1.heap a'.tmps w':=g1.fs
    have hS : Step κ (frzS d).heap w2 ι' s1.heap w':=g1.step
    refine seg (X:=(none,0)) wire_Check.bd_w (ID hR wire_Check.bd_w (wire_Check.bd_eq R) (T:=T6) hbd) hF g2 fun ι2 f4 w3 k1 k2 k3 k4=>?_
    have hst:=hS.trans k2
    have hkeep : ∀ c,c < w2.heap.size→w3.heap[c]? = w2.heap[c]?:=fun c hc=>hst.keep c hc fun b y hb=>by rw [G4] at hb; cases hb
    have hdef4 : f4.defers = []:=by rw [k4,g3,← ha3,DM]; exact hdef2
    have hk3 : Kept lb.blk w4 w3:=hk2.trans ⟨hst.size,fun c hc _=>hkeep c hc,hst.os,hst.tape,hst.output⟩
    have hrlt : lb.blk < w2.heap.size:=Nat.lt_of_lt_of_le hd.lt hk2.size
    obtain ⟨v5,v6,hu⟩:=hu1
    cases hzz
    rcases ZdA hbd with ⟨hz1',hx'⟩ | ⟨hz1',hx'⟩
    · simp only at hz1' hx'
      subst hz1'
      rw [hu] at hx'
      show LInv R d X κ lb.blk mb cl es es' w4 f4 w3∧_
      have hitx : w3.heap[lb.blk]? = some (.mapIter (some mb) cl (seen.push e0.born) cl):=(hkeep _ hrlt).trans hit2
      refine ⟨⟨seen.push e0.born,cl,Nat.le_refl _,hitx,fun x hx hs e he hr=>?_,⟨hfs2.sim.later hkeep hst.size,fun x hx=>?_⟩,k3,hdef4,hk3⟩,?_⟩
      · rw [contains_push] at hs
        rcases Bool.or_eq_true _ _ ▸ hs with h1 | h1
        · exact hgood x hx h1 e he hr
        · have h1 : x.born = e0.born:=beq_iff_eq.1 h1
          have : e = e1:=ZD hnd he he1 (by rw [← hr.2.2.2,h1,hent.2.2.2])
          rw [this]
          exact ⟨_,hone⟩
      · have hv:=k1.nm x hx
        have hfx : ofL [1,2,3,44] 0 Xz noT = TX X:=by rw [hx']; rfl
        rw [hfx] at hv
        refine Zz.rel (D:=d.heap.length) (κ:=ι2) ?_ (fun b hb=>hst.old b (by rw [Cp]; exact hb)) hv
        by_cases c1 : x = 1
        · subst c1; exact hd.back 0 (by decide)
        by_cases c2 : x = 2
        · subst c2; exact hd.back 1 (by decide)
        by_cases c3 : x = 3
        · subst c3; exact hd.back 2 (by decide)
        by_cases c4 : x = 44
        · subst c4; exact hd.back 3 (by decide)
        · exact .inl (hT x c1 c2 c3 c4)
      · have e3 : w3.iterSeen lb.blk = seen.push e0.born:=by simp [World.iterSeen,hitx]
        have e4 : w.iterSeen lb.blk = seen:=by simp [World.iterSeen,hit]
        rw [e3,e4]
        exact left_shrinks es' seen e0 he0
    · simp only at hz1' hx'
      subst hz1'
      rw [hu] at hx'
      have hv:=k1.nm 2 (by decide)
      rw [hx'] at hv
      have hv : VRel ι2 (.int .i64 180) (f4.tmps.getD 2 undef):=hv
      refine hret ⟨e1,he1,?_⟩ f4 w3 hv.inv_int k3 hdef4 hk3
      rw [hone,hx']
      rfl
end Go.Proofs.YtmbhnbladmpnoaaGreat.Ab

/- A function of no arguments,run by the kernel on an empty heap. -/
namespace Go.Proofs.YtmbhnbladmpnoaaGreat.Ab
open Go
theorem Sim.empty (w : World) : Sim w.heap.size (fun _=>none) [] w where
  dom b x h:=by cases h
  row b n cells st h:=by simp at h
  map b es clock h:=by simp at h
  excl a b h:=by simp [ownB] at h
  size:=Nat.le_refl _
  loc b n cells st h:=by simp at h
def SL (r : Option (Value × St)) : Bool:=match r with
  | some (.bool true,_)=>true
  | _=>false
theorem Uc {P : Program} {lib : Lib} {Ad : HC} (hprog : RC P = true) (hlib : Br P lib) {f : FuncId} (hok : Aq P f = true) {j : Nat} (h : SL (fnB P lib Ad j f [] ⟨[]⟩) = true)
    {s : St} {wb : Nat} {ι : Emb} {w : World} {args' : Array Value} (hs : Sim wb ι s.heap w) (ha : All2 (VRel ι) [] args'.toList) : Calls P f args' w fun e w'=>∃ v',e = .returned v'∧Ba wb ι s.heap w s.heap (.bool true) v' w':=by
  unfold SL at h
  split at h
  case h_2=>cases h
  rename_i t hr
  refine (Oe hprog hlib j f [] ⟨[]⟩ _ _ hr hok w.heap.size (fun _=>none) w args' (Sim.empty w) (by
    obtain ⟨l⟩:=args'
    cases l with
    | nil=>trivial
    | cons=>exact ha.elim)).mono fun e w' ⟨v',he,κ,h1,h2,h3⟩=>⟨v',he,?_⟩
  have hsame : ∀ c,c < w.heap.size→w'.heap[c]? = w.heap[c]?:=fun c hc=>h2.keep c hc fun a y ha=>by simp [ownB] at ha
  refine ⟨ι,hs.later hsame h2.size,⟨.refl _,fun _ _=>rfl,fun b x hx hb=>absurd (hs.dom b x hx) (by omega),fun c hc _=>hsame c hc,h2.size,h2.os,h2.tape,h2.output,Nat.le_refl _,fun _ _ h=>h⟩,?_⟩
  have : v' = .bool true:=h3.inv_bool
  subst this
  exact .va (.l2 (.l1 (.l0 (.bool _))))
end Go.Proofs.YtmbhnbladmpnoaaGreat.Ab

/- The function that ranges over the map of all fields: what its pieces say is what it says. -/
namespace Go.Proofs.YtmbhnbladmpnoaaGreat.Ab
open Go Go.RowKit
open Go.ChangeMaps (setBlock)
theorem Vr {v : Value} {s : St} {bi bm cl : Nat} {es : List (Value × Value × Nat)} (h : T9 v s = some (bi,bm,cl,es)) :
    v = .pointer (some ⟨bi,0,none⟩)∧(∃ t k,s.heap[bi]? = some (.map [(.tuple t,.map (some bm),cl)] k))∧s.heap[bm]? = some (.map es cl)∧Fh es = false∧J2 cl es = true:=by
  unfold T9 at h
  split at h
  case h_2=>cases h
  rename_i b
  split at h
  case h_2=>cases h
  rename_i t m c k hb
  split at h
  case h_2=>cases h
  rename_i es' c' hm
  cases hc : (Nat.beq c c' && !Fh es' && J2 c es') with
  | false=>rw [hc] at h; cases h
  | true =>
    rw [hc] at h
    cases h
    simp only [Bool.and_eq_true,Bool.not_eq_true'] at hc
    rw [← Nat.eq_of_beq_eq_true hc.1.1] at hm
    exact ⟨rfl,⟨t,k,hb⟩,hm,hc.1.2,hc.2⟩
theorem NB {D : Nat} {v : Value} (h : J3 D v = true) : Zz D v:=by
  unfold J3 at h
  split at h
  · rename_i b off
    exact .inr (.inr ⟨b,off,rfl,Nat.le_of_ble_eq_true h⟩)
  · exact .inr (.inl h)
theorem XD {v : Value} {n : Int} (h : Zdz v = some n) : v = .int .i64 n:=by
  unfold Zdz at h
  split at h
  · cases h; rfl
  · cases h
theorem LO {wb : Nat} {ι : Emb} {s : St} {w : World} (hs : Sim wb ι s.heap w) {r : Int} {a : Act} {w' : World} (h2 : a.tmps.getD 2 undef = .int .i64 r) (hz : a.tmps.size = 62) (hdef : a.defers = []) (hsame : ∀ c,c < w.heap.size→w'.heap[c]? = w.heap[c]?) (hsize : w.heap.size ≤ w'.heap.size) (hos : w'.os = w.os) (htape : w'.tape = w.tape) (hout : w'.output = w.output) :
    bodyPost Tryz.prog Tryz.f11 (fun e w'=>∃ v',e = .returned v'∧Ba wb ι s.heap w s.heap (.int .i64 r) v' w') .ret a w':=by
  have hfs : FS 62 w'.heap.size (fun _=>none) (setT noT 2 (.int .i64 r)) (⟨[]⟩ : St).heap a.tmps w':=by
    refine ⟨Sim.empty w',fun x hx=>?_⟩
    by_cases e : x = 2
    · subst e
      rw [h2]
      exact .of0 (.int _ _)
    · have : setT noT 2 (.int .i64 r) x = CB:=by
        unfold setT
        have hb : Nat.beq x 2 = false:=by
          cases hb : Nat.beq x 2 with
          | false=>rfl
          | true=>exact absurd (Nat.eq_of_beq_eq_true hb) e
        rw [hb]
        rfl
      rw [this]
      exact .poison _
  obtain ⟨v',h6,h7⟩:=Ko (P:=Tryz.prog) (fn:=Tryz.f11) (s:=⟨[]⟩) (m:=0) rfl hfs.b (vs:=[.int .i64 r]) (by rw [ZB]; rfl) rfl (by rw [ZB]; rfl)
  have h7 : VRel (fun _=>none) (.int .i64 r) v':=h7
  rw [h7.inv_int] at h6
  exact ⟨hdef,_,h6,_,rfl,ι,hs.later hsame hsize,⟨.refl _,fun _ _=>rfl,fun b x hx hb=>absurd (hs.dom b x hx) (by omega),fun c hc _=>hsame c hc,hsize,hos,htape,hout,Nat.le_refl _,fun _ _ h=>h⟩,.of0 (.int _ _)⟩
theorem PB {R : Aa} (hR : DZ Tryz.prog R) {x0 : Value} {s : St} {r : Int} (h : J4 R x0 (frzS s) = some r) {wb : Nat} {ι : Emb} {w : World} {args' : Array Value} (hs : Sim wb ι s.heap w) (ha : All2 (VRel ι) [x0] args'.toList) :
    Calls Tryz.prog 11 args' w fun e w'=>∃ v',e = .returned v'∧Ba wb ι s.heap w s.heap (.int .i64 r) v' w':=by
  unfold J4 at h
  obtain ⟨a1,hA,h⟩:=Option.bind_eq_some_iff.1 h
  obtain ⟨b1,hB,h⟩:=Option.bind_eq_some_iff.1 h
  obtain ⟨⟨ec,Xc,sc⟩,hC,h⟩:=Option.bind_eq_some_iff.1 h
  have hA':=Vq hA
  have hB':=Vq hB
  refine (callsIn_wide (n:=0)).1 (callsIn_of_wp (F:=FR (none,0)) Tryz.func11 Zbw trivial ?_ rfl)
  rw [Zgm]
  obtain ⟨hf0,hz0⟩:=FS.start (n:=62) hs.frz ha (by simp)
  rw [ZA]
  refine wpIn_seq ?_
  refine seg (X:=(none,0)) wire_Check.A_w (ID hR wire_Check.A_w (wire_Check.A_eq R) (T:=LX [x0]) hA') hf0 hz0 fun ι1 f1 w1 g1 g2 g3 g4=>?_
  refine wpIn_seq ?_
  refine seg (X:=(none,0)) wire_Check.B_w (ID hR wire_Check.B_w (wire_Check.B_eq R) (T:=ofL [1,2] 0 a1.1 noT) hB') g1 g3 fun ι2 f2 w2 k1 k2 k3 k4=>?_
  refine wpIn_seq ?_
  refine seg (X:=(none,0)) wire_Check.C_w (ID hR wire_Check.C_w (wire_Check.C_eq R) (T:=ofL [1,2,3,4] 0 b1.1 noT) hC) k1 k3 fun ι3 f3 w3 l1 l2 l3 l4=>?_
  have hst3:=(g2.trans k2).trans l2
  have own0 : ∀ b y,ownB (frzS s).heap[b]? = true→ι b = some y→∀ c,y.blk ≠ c:=fun b y hb=>by rw [G4] at hb; cases hb
  have hdef3 : f3.defers = []:=by rw [l4,k4,g4]
  cases ec with
  | exit=>cases h
  | ret =>
    have hv : VRel ι3 (getL Xc 1) (f3.tmps.getD 2 undef):=l1.nm 2 (by decide)
    rw [XD h] at hv
    exact LO hs hv.inv_int l3 hdef3 (fun c hc=>hst3.keep c hc fun b y hb hy=>own0 b y hb hy c) hst3.size hst3.os hst3.tape hst3.output
  | normal =>
    simp only at h
    obtain ⟨d1,hD,h⟩:=Option.bind_eq_some_iff.1 h
    obtain ⟨⟨bi,bm,cl,es⟩,hit,h⟩:=Option.bind_eq_some_iff.1 h
    have hD':=Vq hD
    cases hcc : (Nat.ble (frzS s).heap.length bi && J3 d1.2.heap.length (getL d1.1 0) && J3 d1.2.heap.length (getL d1.1 1) && J3 d1.2.heap.length (getL d1.1 2) && J3 d1.2.heap.length (getL d1.1 3)) with
    | false=>simp only [hcc] at h; cases h
    | true =>
    simp only [hcc,cond_true] at h
    obtain ⟨g,hg,rfl⟩:=Option.map_eq_some_iff.1 h
    simp only [Bool.and_eq_true] at hcc
    obtain ⟨⟨⟨⟨hbi,hb0⟩,hb1⟩,hb2⟩,hb3⟩:=hcc
    obtain ⟨hx3,⟨tt,kk,hbit⟩,hbm,hni,hbo⟩:=Vr hit
    show Code.wpIn _ _ _ _ _ _ _
    refine wpIn_seq ?_
    refine wpIn_seq ?_
    refine seg (X:=(none,0)) wire_Check.D_w (ID hR wire_Check.D_w (wire_Check.D_eq R) (T:=ofL [1,2,3] 0 Xc noT) hD') l1 l3 fun ι4 f4 w4 m1 m2 m3 m4=>?_
    have hst4:=hst3.trans m2
    have hdef4 : f4.defers = []:=by rw [m4]; exact hdef3
    have h44 : VRel ι4 (getL d1.1 3) (f4.tmps.getD 44 undef):=m1.nm 44 (by decide)
    rw [hx3] at h44
    obtain ⟨_,lb,hlb,_⟩:=h44.inv_ptr
    obtain ⟨_,⟨_,hoff⟩,ob,hob,hm⟩:=m1.sim.map bi _ kk hbit lb hlb
    obtain ⟨lm,hlm,rfl⟩ : ∃ lm,ι4 bm = some lm∧ob = .mapIter (some lm.blk) cl #[] cl:=by
      rcases hm with ⟨es',rfl,hm⟩ | ⟨_,_,e,_⟩ | ⟨rr,cc,l,e,hl,rfl⟩
      · obtain ⟨e,_,hm⟩:=hm.get 0 _ rfl
        exact absurd hm.2.1 (by simp [A0,AX])
      · cases e
      · simp only [List.cons.injEq,Prod.mk.injEq,Value.map.injEq,Option.some.injEq,and_true] at e
        obtain ⟨_,rfl,rfl⟩:=e
        exact ⟨l,hl,rfl⟩
    obtain ⟨_,_,om,hom,hm2⟩:=m1.sim.map bm es cl hbm lm hlm
    obtain ⟨es',rfl,hents⟩:=hm2.map (by rw [hni]; simp)
    have hne : lm.blk ≠ lb.blk:=fun e=>by rw [e,hob] at hom; cases hom
    have hblt : lb.blk < w4.heap.size:=(Array.getElem?_eq_some_iff.1 hob).1
    have hnew : w.heap.size ≤ lb.blk:=by
      rcases hst4.img bi lb hlb (Nat.le_of_ble_eq_true hbi) with h1 | ⟨a,y,hy,_⟩
      · exact h1
      · rw [G4] at hy; cases hy
    obtain ⟨hall,hall2⟩:=PA hg
    have hd : Rnd d1.2 d1.1 ι4 lb.blk lm.blk cl es es' w4:=by
      refine ⟨hents,hom,hne,hblt,hbo,fun i hi=>?_,bi,lb,hx3,hlb,rfl,hoff⟩
      match i,hi with
      | 0,_=>exact NB hb0
      | 1,_=>exact NB hb1
      | 2,_=>exact NB hb2
      | 3,_=>exact NB hb3
      | i + 4,hi=>omega
    have hsame : ∀ w',Kept lb.blk w4 w'→∀ c,c < w.heap.size→w'.heap[c]? = w.heap[c]?:=fun w' hk c hc=>(hk.keep c (Nat.lt_of_lt_of_le hc hst4.size) (by omega)).trans (hst4.keep c hc fun b y hb hy=>own0 b y hb hy c)
    refine wpIn_block (wpIn_loop (LInv R d1.2 d1.1 ι4 lb.blk lm.blk cl es es' w4) (fun _ w'=>(leftOf es' (w'.iterSeen lb.blk)).size) ⟨#[],cl,Nat.le_refl _,hob,fun x _ hx=>by simp at hx,⟨m1.sim.frz,m1.nm⟩,m3,hdef4,⟨Nat.le_refl _,fun _ _ _=>rfl,rfl,rfl,rfl⟩⟩ fun a5 w5 hI=>?_)
    refine ZE hR hd (fun e he=>(hall e he).imp id (·.1)) ?_ ?_ hI
    · intro hn a6 w6 n1 n2 n3 n4
      have hgt : g = true:=hall2 hn
      subst hgt
      show Code.wpIn _ _ _ _ _ _ _
      refine seg (X:=(none,0)) wire_Check.E_w (ID hR wire_Check.E_w (wire_Check.E_eq R) (T:=TX d1.1) (e:=.ret) (s':=frzS d1.2) (X':=[.int .i64 0]) rfl) n1 n2 fun ι7 f7 w7 p1 p2 p3 p4=>?_
      have hv : VRel ι7 (.int .i64 0) (f7.tmps.getD 2 undef):=p1.nm 2 (by decide)
      have hk7 : Kept lb.blk w4 w7:=n4.trans ⟨p2.size,fun c hc _=>p2.keep c hc (fun b y hb=>by rw [G4] at hb; cases hb),p2.os,p2.tape,p2.output⟩
      exact LO hs hv.inv_int p3 (by rw [p4]; exact n3) (hsame _ hk7) (Nat.le_trans hst4.size hk7.size) (hk7.os.trans hst4.os) (hk7.tape.trans hst4.tape) (hk7.output.trans hst4.output)
    · intro ⟨e,he,hr⟩ a6 w6 n1 n2 n3 n4
      have hgf : g = false:=by
        rcases hall e he with ⟨v,hv⟩ | hv
        · rw [hr] at hv; cases hv
        · exact hv.2
      subst hgf
      exact LO hs n1 n2 n3 (hsame _ n4) (Nat.le_trans hst4.size n4.size) (n4.os.trans hst4.os) (n4.tape.trans hst4.tape) (n4.output.trans hst4.output)
end Go.Proofs.YtmbhnbladmpnoaaGreat.Ab

/- Check: what it says of a message. -/
namespace Go.Proofs.YtmbhnbladmpnoaaGreat.Ab
open Go
set_option maxRecDepth 10000
def lets (l : BL) : List Int:=l.map fun b=>((b.toNat : Nat) : Int)
theorem Zbx : ∀ p ∈ AF,(Conv.runesFrom ⟨p.2.1.toArray⟩ (⟨p.2.1.toArray⟩ : ByteArray).size 0 #[]).toList = (lets p.2.1).map fun c=>.int .i32 c:=by
  intro p hp
  simp only [AF,List.mem_cons,List.not_mem_nil,or_false] at hp
  rcases hp with rfl | rfl | rfl | rfl | rfl | rfl | rfl | rfl | rfl | rfl | rfl | rfl | rfl | rfl <;> kernel_rfl
abbrev ZdB : NCod Int:=.ofC (intC .i32) fun _=>True
theorem XE {s : St} {b : Nat} {l : List Int} (h : s.heap[b]? = some (.row 1 (l.map fun c=>.int .i32 c) .act)) (hl : l.length ≤ 1000) : By ZdB 4 l s (.slice (some ⟨b,0,none⟩) l.length l.length):=by
  refine ⟨by unfold reachBytes; omega,.inr ⟨b,l.map fun c=>[.int .i32 c],.act,1,rfl,?_,by simp,?_⟩⟩
  · rw [h]
    congr 2
    clear h hl
    induction l with
    | nil=>rfl
    | cons a l ih=>simp only [List.map_cons,List.flatten_cons,← ih]; rfl
  · clear h hl
    induction l with
    | nil=>trivial
    | cons a l ih=>exact ⟨⟨rfl,trivial⟩,ih⟩
theorem XF {R : Aa} {s : St} {v : Value} {l : List Int} {x : Int} (h : By ZdB 4 l s v) (hl : l.length < 140737488355328) : ∀ (rest : List Int) (i : Nat),l.drop i = rest→i ≤ l.length →
    AS (slices_Index_rune_rune.b0 R) [v,.int .i32 x,.int .i64 ((l.length : Nat) : Int),.int .i64 (i : Int)] s = match idxP (fun n=>x == n) i rest with | some k=>some (.ret,[.int .i64 (k : Int)],s) | none=>some (.exit 0,[],s):=by
  intro rest
  induction rest with
  | nil =>
    intro i hi hle
    have h1 : decide ((i : Int) < ((l.length : Nat) : Int)) = false:=by
      have:=List.drop_eq_nil_iff.1 hi
      simp; omega
    rw [Ar]
    simp only [slices_Index_rune_rune.b0,h1,idxP,EVs]
  | cons a rest ih =>
    intro i hi hle
    obtain ⟨hlt,he,hd⟩:=Sv hi
    have h1 : decide ((i : Int) < ((l.length : Nat) : Int)) = true:=by simp; omega
    obtain ⟨q,u,cs,h2,h3,_,h4,h5⟩:=Pg h hlt (n:=1) rfl (ag:=false) (.inr rfl)
    rw [he] at h5
    have hu : u = .int .i32 a:=by
      obtain ⟨e,_⟩:=h5
      have h4 : cs = [u]:=h4
      rw [h4] at e
      exact (List.cons.inj e).1
    subst hu
    have nx:=ih (i + 1) hd (by omega)
    rw [Ar]
    rcases Bool.eq_false_or_eq_true (x == a) with c | c
    · simp only [slices_Index_rune_rune.b0,h1,h2,h3,c,idxP,if_true,EVs]
    · simp only [slices_Index_rune_rune.b0,h1,h2,h3,c,idxP,Bool.false_eq_true,if_false,Xf (show i < 140737488355328 by omega),EVs]
      exact nx
variable {R : Aa} (Q : WrH R)
include Q
theorem XG {s : St} {v : Value} {l : List Int} {x : Int} (h : By ZdB 4 l s v) : R 23 [v,.int .i32 x] s = some (.bool (l.any fun n=>x == n),s):=by
  have hl:=DI (by decide) h
  have k1:=XF (R:=R) (x:=x) h hl l 0 rfl (Nat.zero_le _)
  rw [show ((0 : Nat) : Int) = 0 from rfl] at k1
  have ha:=SA (p:=fun n=>x == n) (l:=l) (i:=0)
  have hidx : ∃ k : Int,R 111 [v,.int .i32 x] s = some (.int .i64 k,s)∧decide (k ≥ 0) = l.any fun n=>x == n:=by
    cases hk : idxP (fun n=>x == n) 0 l with
    | none =>
      rw [hk] at k1 ha
      refine ⟨-1,Q.slices_Index_rune_rune ?_,by rw [← ha]; rfl⟩
      unfold slices_Index_rune_rune
      simp only [A9 h,k1,ZaE (v:=.int .i64 (-1)) rfl,EVs]
    | some k =>
      rw [hk] at k1 ha
      refine ⟨(k : Int),Q.slices_Index_rune_rune ?_,by rw [← ha]; simp⟩
      unfold slices_Index_rune_rune
      simp only [A9 h,k1,ZaE (v:=.int .i64 (k : Int)) rfl,EVs]
  obtain ⟨k,h1,h2⟩:=hidx
  refine Q.slices_Contains_rune_rune ?_
  unfold slices_Contains_rune_rune
  simp only [Fy,h1,h2,EVs]
  exact ret1 rfl
theorem ZdC {p : Int × BL × Nat × Nat × Nat} (hp : p ∈ AF) {Pt : St→Prop} (hPt : ∀ s t,Pt s→Ext s.heap.length s t→Pt t) {M F : Nat} {t2 t44 : Value} {s : St} (hs : Pt s) {g1 g2 g3 : Value} (hF : readRow s F = some [sv p.2.1,g1,g2,g3]) {e : Value × Value × Nat} {q : Int × Bool} (he : ZOk R M Pt e q) :
    oneC R [mp M,t2,.pointer (some ⟨F,0,none⟩),t44] e s = some (if ((lets p.2.1).any (fun n=>q.1 == n) || q.2) = true then (.normal,t2) else (.ret,.int .i64 180)):=by
  obtain ⟨h1,x,y,z,h2,h3,h4⟩:=he
  have hlen : p.2.1.length ≤ 1000:=by
    simp only [AF,List.mem_cons,List.not_mem_nil,or_false] at hp
    rcases hp with rfl | rfl | rfl | rfl | rfl | rfl | rfl | rfl | rfl | rfl | rfl | rfl | rfl | rfl <;> decide
  have hll : (lets p.2.1).length = p.2.1.length:=by simp [lets]
  -- the struct of the field
  have n1 : anew [.nilFunc,.nilFunc,.nilFunc] s = some (.pointer (some ⟨s.heap.length,0,none⟩),s.push (.row 0 [.nilFunc,.nilFunc,.nilFunc] .act)):=rfl
  have n2 : A4 3 (.pointer (some ⟨s.heap.length,0,none⟩)) (.agg #[x,y,z]) (s.push (.row 0 [.nilFunc,.nilFunc,.nilFunc] .act)) = some (s.push (.row 0 [x,y,z] .act)):=by
    have:=IM (s:=s.push (.row 0 [.nilFunc,.nilFunc,.nilFunc] .act)) (B:=s.heap.length) (m:=3) (vs:=[x,y,z]) AC rfl rfl h3
    rw [show (Value.agg #[x,y,z]) = .agg [x,y,z].toArray from rfl,this]
    simp [St.push,St.putB]
  have hx1 : Ext s.heap.length s (s.push (.row 0 [x,y,z] .act)):=.push _ (Nat.le_refl _) _
  have e6 : F6 [mp M,t2,.pointer (some ⟨F,0,none⟩),t44,.tuple #[e.1,e.2.1]] s = some ([mp M,t2,.pointer (some ⟨F,0,none⟩),.int .i32 q.1,.pointer (some ⟨s.heap.length,0,none⟩),t44],s.push (.row 0 [x,y,z] .act)):=by
    have a0 : Al 0 (.tuple #[e.1,e.2.1]) = some (.int .i32 q.1):=by rw [h1,h2]; rfl
    have a1 : Al 1 (.tuple #[e.1,e.2.1]) = some (.agg #[x,y,z]):=by rw [h2]; rfl
    unfold F6
    simp only [BP,CJ,Dq,DO,Kp,a0,a1,n1,n2,Option.bind_some]
  have hc : readRow (s.push (.row 0 [x,y,z] .act)) s.heap.length = some [x,y,z]:=D6 AC (by simp)
  have hFf:=BB hx1 hF
  obtain ⟨s1,hs1⟩ : ∃ s1,s.push (.row 0 [x,y,z] .act) = s1:=⟨_,rfl⟩
  rw [hs1] at e6 hc hFf hx1
  -- the letters
  have r1 : J9 (sv p.2.1) s1 = some (.slice (some ⟨s1.heap.length,0,none⟩) (lets p.2.1).length (lets p.2.1).length,s1.push (.row 1 ((lets p.2.1).map fun c=>.int .i32 c) .act)):=by
    have:=Zbx p hp
    have hsz : (Conv.runesFrom ⟨p.2.1.toArray⟩ (⟨p.2.1.toArray⟩ : ByteArray).size 0 #[]).size = (lets p.2.1).length:=by rw [← Array.length_toList,this]; simp
    show some (Value.slice _ (Conv.runesFrom ⟨p.2.1.toArray⟩ (⟨p.2.1.toArray⟩ : ByteArray).size 0 #[]).size (Conv.runesFrom ⟨p.2.1.toArray⟩ (⟨p.2.1.toArray⟩ : ByteArray).size 0 #[]).size,s1.push (.row 1 (Conv.runesFrom ⟨p.2.1.toArray⟩ (⟨p.2.1.toArray⟩ : ByteArray).size 0 #[]).toList .act)) = _
    rw [this,hsz]
  have hx2 : Ext s1.heap.length s1 (s1.push (.row 1 ((lets p.2.1).map fun c=>.int .i32 c) .act)):=.push _ (Nat.le_refl _) _
  have hcon:=XG Q (x:=q.1) (XE (s:=s1.push (.row 1 ((lets p.2.1).map fun c=>.int .i32 c) .act)) AC (by omega))
  have hc2:=BB hx2 hc
  have hz:=h4 _ (hPt _ _ (hPt _ _ hs hx1) hx2)
  generalize s1.push (.row 1 ((lets p.2.1).map fun c=>.int .i32 c) .act) = s2 at *
  have a1 : Ac 0 (.pointer (some ⟨F,0,none⟩)) = some (.pointer (some ⟨F,0,none⟩)):=rfl
  have a2 : ∀ b,Ac 2 (.pointer (some ⟨b,0,none⟩)) = some (.pointer (some ⟨b,2,none⟩)):=fun b=>by simp [Ac]
  have l1 : Aj false 1 (.pointer (some ⟨F,0,none⟩)) s1 = some (sv p.2.1):=Cv hFf rfl
  have l2 : Aj false 1 (.pointer (some ⟨s.heap.length,2,none⟩)) s2 = some z:=Cv hc2 rfl
  unfold oneC
  simp only [BP,CJ,Dq,DO,e6,Option.bind_some]
  unfold wire_Check.bd
  simp only [BP,CJ,Dq,DO,Kp,Mf,a1,l1,r1,Option.bind_some,Ew,hcon,EVs]
  cases hb : (lets p.2.1).any (fun n=>q.1 == n) with
  | true=>simp only [Bool.not_true,EVs,Bool.true_or,if_true]
  | false =>
    simp only [Bool.not_false,a2,l2,hz,EVs,Bool.false_or]
    cases q.2 with
    | true=>simp only [Bool.not_true,EVs,if_true]
    | false=>simp only [Bool.not_false,EVs,Bool.false_eq_true,if_false]
theorem Q4 {p : Int × BL × Nat × Nat × Nat} (hp : p ∈ AF) {Pt : St→Prop} (hPt : ∀ s t,Pt s→Ext s.heap.length s t→Pt t) {M F : Nat} {t2 t44 : Value} {s : St} (hs : Pt s) {g1 g2 g3 : Value} (hF : readRow s F = some [sv p.2.1,g1,g2,g3]) : ∀ {es : List (Value × Value × Nat)} {qs : List (Int × Bool)},All2 (ZOk R M Pt) es qs →
    allC R [mp M,t2,.pointer (some ⟨F,0,none⟩),t44] s es = some (qs.all fun q=>(lets p.2.1).any (fun n=>q.1 == n) || q.2)
  | [],[],_=>rfl
  | e :: es,q :: qs,⟨h1,h2⟩=>by
    have ih:=Q4 hp hPt (t2:=t2) (t44:=t44) hs hF h2
    have h:=ZdC Q hp hPt (t2:=t2) (t44:=t44) hs hF h1
    simp only [allC,h,Option.bind_some,List.all_cons]
    cases hb : ((lets p.2.1).any (fun n=>q.1 == n) || q.2) with
    | true=>simp only [if_true,ih,Bool.true_and]
    | false=>simp only [Bool.false_eq_true,if_false,ih,Option.map_some,Bool.false_and]
omit Q
def Ns (m : Ms) : Bool:=match CI m.kind with
  | none=>true
  | some p=>((!LN p.2.1 m.src || !LN p.2.2.1 m.dst) || m.client != 0) || !KZ p.2.2.2 m
def PC (m : Ms) : Bool:=match CI m.kind with
  | none=>true
  | some p=>!(zTab m).all fun q=>(lets p.1).any (fun n=>q.1 == n) || q.2
def eMs (m : Ms) : Int:=if (Ns m || PC m) = true then 180 else 0
theorem D8 {k : Int} {p : BL × Nat × Nat × Nat} (h : CI k = some p) : (k,p) ∈ AF:=by
  unfold CI at h
  obtain ⟨q,h1,rfl⟩:=Option.map_eq_some_iff.1 h
  have h2:=List.mem_of_find?_eq_some h1
  have h3:=List.find?_some h1
  have : q.1 = k:=by simpa using h3
  rw [← this]
  exact h2
theorem ZF {k : Int} {p : BL × Nat × Nat × Nat} (h : CI k = some p) : p.2.1 ∈ My∧p.2.2.1 ∈ My∧p.2.2.2 ∈ Wk:=by
  have hm:=D8 h
  have key : ∀ q ∈ AF,q.2.2.1 ∈ My∧q.2.2.2.1 ∈ My∧q.2.2.2.2 ∈ Wk:=by decide
  exact key _ hm
end Go.Proofs.YtmbhnbladmpnoaaGreat.Ab

/- Check: the run of its pieces; what is Bq of it. -/
namespace Go.Proofs.YtmbhnbladmpnoaaGreat.Ab
open Go
set_option maxRecDepth 10000
theorem ZdD {s : St} {b n : Nat} {cells : List Value} {st : Stat} (h : s.heap[b]? = some (.row n cells st)) (hst : st ≠ .dead) : ∃ st',(frzS s).heap[b]? = some (.row n cells st')∧st' ≠ .dead:=by
  rw [G3,h]
  cases st with
  | dead=>exact absurd rfl hst
  | act=>exact ⟨.ro,rfl,by simp⟩
  | ro=>exact ⟨.ro,rfl,by simp⟩
theorem K3 {α : Type} {C : NCod α} (hC : ∀ a s cs,C.rel a s cs→C.rel a (frzS s) cs) {B : Nat} {l : List α} {s : St} {v : Value} (h : By C B l s v) : By C B l (frzS s) v:=by
  obtain ⟨h1,h2⟩:=h
  refine ⟨h1,?_⟩
  rcases h2 with h2 | ⟨b,css,st,k,g1,g2,g3,g4⟩
  · exact .inl h2
  · obtain ⟨st',k1,k2⟩:=ZdD g2 g3
    exact .inr ⟨b,css,st',k,g1,k1,k2,g4.mono fun a c h=>hC a s c h⟩
theorem Zfw (a : Rs) (s : St) (cs : List Value) (h : rsN.rel a s cs) : rsN.rel a (frzS s) cs:=by
  obtain ⟨_,_,rfl,h1,_,_,rfl,h2,_,_,rfl,⟨l,rfl,hl⟩,rfl⟩:=h
  exact ⟨_,_,rfl,h1,_,_,rfl,h2,_,_,rfl,⟨l,rfl,K3 (fun _ _ _ h=>h) hl⟩,rfl⟩
theorem MsV.frz {m : Ms} {s : St} {vo vr vw : Value} (h : MsV m s vo vr vw) : MsV m (frzS s) vo vr vw:=⟨h.wf,K3 (fun _ _ _ h=>h) h.o,K3 Zfw h.r,K3 (fun _ _ _ h=>h) h.w⟩
section
variable {R : Aa} (Q : WrH R)
include Q
theorem ZG {m : Ms} {s : St} {vo vr vw : Value} (h : MsV m s vo vr vw) {p : BL × Nat × Nat × Nat} (hp : CI m.kind = some p) {M F : Nat} (hM : readRow s M = some (msC m vo vr vw)) (hF : readRow s F = some [sv p.1,fnV p.2.1,fnV p.2.2.1,fnV p.2.2.2]) :
    ∃ t,Ext s.heap.length s t∧wire_Check.C R [mp M,.int .i64 0,.pointer (some ⟨F,0,none⟩),.bool true] s = some (if Ns m = true then (.ret,[mp M,.int .i64 180,.pointer (some ⟨F,0,none⟩)],t) else (.normal,[mp M,.int .i64 0,.pointer (some ⟨F,0,none⟩)],t)):=by
  obtain ⟨f1,f2,f3⟩:=ZF hp
  have a1 : ∀ b i,Ac i (.pointer (some ⟨b,0,none⟩)) = some (.pointer (some ⟨b,i,none⟩)):=fun b i=>by simp [Ac]
  have lF1 : Aj false 1 (.pointer (some ⟨F,1,none⟩)) s = some (fnV p.2.1):=Cv hF rfl
  have lF2 : Aj false 1 (.pointer (some ⟨F,2,none⟩)) s = some (fnV p.2.2.1):=Cv hF rfl
  have lF3 : Aj false 1 (.pointer (some ⟨F,3,none⟩)) s = some (fnV p.2.2.2):=Cv hF rfl
  have lM1 : Aj false 1 (.pointer (some ⟨M,1,none⟩)) s = some (.int .i64 m.src):=Cv hM rfl
  have lM2 : Aj false 1 (.pointer (some ⟨M,2,none⟩)) s = some (.int .i64 m.dst):=Cv hM rfl
  have lM3 : Aj false 1 (.pointer (some ⟨M,3,none⟩)) s = some (.int .i64 m.client):=Cv hM rfl
  have lM : Aj true 21 (.pointer (some ⟨M,0,none⟩)) s = some (mV m vo vr vw):=Zx hM rfl
  have c1:=Wj Q f1 m.src s
  have c2:=Wj Q f2 m.dst s
  obtain ⟨t,c3,hx⟩:=Zbu Q f3 h
  have hbad : Ns m = (((!LN p.2.1 m.src || !LN p.2.2.1 m.dst) || m.client != 0) || !KZ p.2.2.2 m):=by unfold Ns; rw [hp]
  rw [hbad]
  unfold wire_Check.C
  simp only [BP,CJ,Dq,DO]
  cases b1 : LN p.2.1 m.src with
  | false =>
    refine ⟨s,.refl _ _,?_⟩
    simp only [a1,lF1,lM1,c1,b1,Bool.not_true,Bool.not_false,Bool.true_or,if_true,EVs]
  | true =>
    cases b2 : LN p.2.2.1 m.dst with
    | false =>
      refine ⟨s,.refl _ _,?_⟩
      simp only [a1,lF1,lM1,lF2,lM2,c1,c2,b1,b2,Bool.not_true,Bool.not_false,Bool.true_or,Bool.or_true,Bool.false_or,if_true,EVs]
    | true =>
      cases b3 : m.client != 0 with
      | true =>
        refine ⟨s,.refl _ _,?_⟩
        simp only [a1,lF1,lM1,lF2,lM2,lM3,c1,c2,b1,b2,b3,Bool.not_true,Bool.not_false,Bool.true_or,Bool.or_true,Bool.false_or,Bool.or_false,if_true,EVs]
      | false =>
        cases b4 : KZ p.2.2.2 m with
        | false =>
          refine ⟨t,hx,?_⟩
          rw [b4] at c3
          simp only [a1,lF1,lM1,lF2,lM2,lM3,lF3,lM,c1,c2,c3,b1,b2,b3,Bool.not_true,Bool.not_false,Bool.true_or,Bool.or_true,Bool.false_or,Bool.or_false,if_true,EVs]
        | true =>
          refine ⟨t,hx,?_⟩
          rw [b4] at c3
          simp only [a1,lF1,lM1,lF2,lM2,lM3,lF3,lM,c1,c2,c3,b1,b2,b3,Bool.not_true,Bool.not_false,Bool.true_or,Bool.or_true,Bool.false_or,Bool.or_false,Bool.false_eq_true,if_false,EVs]
theorem Zby {m : Ms} {s : St} {vo vr vw : Value} (h : MsV m s vo vr vw) : J4 R (mV m vo vr vw) s = some (eMs m):=by
  have hc : Ao (mV m vo vr vw) = msC m vo vr vw:=by simp [Ao]
  have n1 : anew (msC m vo vr vw) s = some (mp s.heap.length,s.push (.row 0 (msC m vo vr vw) .act)):=by unfold anew; rw [if_pos h.leaf]
  have hx1 : Ext s.heap.length s (s.push (.row 0 (msC m vo vr vw) .act)):=.push _ (Nat.le_refl _) _
  have h1:=h.ext hx1
  have hM1 : readRow (s.push (.row 0 (msC m vo vr vw) .act)) s.heap.length = some (msC m vo vr vw):=D6 AC (by simp)
  have hlen1 : (s.push (.row 0 (msC m vo vr vw) .act)).heap.length = s.heap.length + 1:=AL
  obtain ⟨s1,e1⟩ : ∃ s1,s.push (.row 0 (msC m vo vr vw) .act) = s1:=⟨_,rfl⟩
  rw [e1] at n1 hx1 h1 hM1 hlen1
  have a0 : ∀ b,Ac 0 (.pointer (some ⟨b,0,none⟩)) = some (.pointer (some ⟨b,0,none⟩)):=fun b=>rfl
  have l0 : Aj false 1 (mp s.heap.length) s1 = some (.int .i64 m.kind):=Cv hM1 rfl
  have n2 : anew [(.string ⟨#[]⟩),.nilFunc,.nilFunc,.nilFunc] s1 = some (.pointer (some ⟨s1.heap.length,0,none⟩),s1.push (.row 0 [(.string ⟨#[]⟩),.nilFunc,.nilFunc,.nilFunc] .act)):=rfl
  have hA : pc (wire_Check.A R) [mV m vo vr vw] s = some ([mp s.heap.length,.int .i64 0],s1):=by
    unfold pc wire_Check.A
    simp only [BP,hc,n1,Option.bind_some]
  cases hp : CI m.kind with
  | none =>
    have hB : pc (wire_Check.B R) [mp s.heap.length,.int .i64 0] s1 = some ([mp s.heap.length,.int .i64 0,.pointer (some ⟨s1.heap.length,0,none⟩),.bool false],s1.push (.row 0 [(.string ⟨#[]⟩),.nilFunc,.nilFunc,.nilFunc] .act)):=by
      have hf : frmV m.kind = .agg #[sv [],.nilFunc,.nilFunc,.nilFunc]:=by unfold frmV; rw [hp]
      have x0 : Al 0 (.tuple #[frmV m.kind,.bool (CI m.kind).isSome]) = some (.agg #[sv [],.nilFunc,.nilFunc,.nilFunc]):=by rw [hf]; rfl
      have x1 : Al 1 (.tuple #[frmV m.kind,.bool (CI m.kind).isSome]) = some (.bool false):=by rw [hp]; rfl
      have st : A4 4 (.pointer (some ⟨s1.heap.length,0,none⟩)) (.agg #[sv [],.nilFunc,.nilFunc,.nilFunc]) (s1.push (.row 0 [(.string ⟨#[]⟩),.nilFunc,.nilFunc,.nilFunc] .act)) = some (s1.push (.row 0 [(.string ⟨#[]⟩),.nilFunc,.nilFunc,.nilFunc] .act)):=by
        have:=IM (s:=s1.push (.row 0 [(.string ⟨#[]⟩),.nilFunc,.nilFunc,.nilFunc] .act)) (B:=s1.heap.length) (m:=4) (vs:=[sv [],.nilFunc,.nilFunc,.nilFunc]) AC rfl rfl rfl
        rw [show (Value.agg #[sv [],.nilFunc,.nilFunc,.nilFunc]) = .agg [sv [],.nilFunc,.nilFunc,.nilFunc].toArray from rfl,this]
        simp [St.push,St.putB,sv]
      unfold pc wire_Check.B
      simp only [BP,CJ,a0,l0,DA,Q.form,x0,x1,n2,st,Option.bind_some]
    have he : eMs m = 180:=by
      have : Ns m = true:=by unfold Ns; rw [hp]
      unfold eMs
      rw [this]
      rfl
    unfold J4
    simp only [hA,hB,Option.bind_some]
    unfold wire_Check.C
    simp only [BP,CJ,Dq,DO,Bool.not_false,EVs]
    rw [he]
    rfl
  | some p =>
    have hpm:=D8 hp
    have hlf : [sv p.1,fnV p.2.1,fnV p.2.2.1,fnV p.2.2.2].all AI = true:=rfl
    have hB : pc (wire_Check.B R) [mp s.heap.length,.int .i64 0] s1 = some ([mp s.heap.length,.int .i64 0,.pointer (some ⟨s1.heap.length,0,none⟩),.bool true],s1.push (.row 0 [sv p.1,fnV p.2.1,fnV p.2.2.1,fnV p.2.2.2] .act)):=by
      have hf : frmV m.kind = fmB p:=by unfold frmV; rw [hp]
      have x0 : Al 0 (.tuple #[frmV m.kind,.bool (CI m.kind).isSome]) = some (.agg [sv p.1,fnV p.2.1,fnV p.2.2.1,fnV p.2.2.2].toArray):=by rw [hf]; rfl
      have x1 : Al 1 (.tuple #[frmV m.kind,.bool (CI m.kind).isSome]) = some (.bool true):=by rw [hp]; rfl
      have st : A4 4 (.pointer (some ⟨s1.heap.length,0,none⟩)) (.agg [sv p.1,fnV p.2.1,fnV p.2.2.1,fnV p.2.2.2].toArray) (s1.push (.row 0 [(.string ⟨#[]⟩),.nilFunc,.nilFunc,.nilFunc] .act)) = some (s1.push (.row 0 [sv p.1,fnV p.2.1,fnV p.2.2.1,fnV p.2.2.2] .act)):=by
        have:=IM (s:=s1.push (.row 0 [(.string ⟨#[]⟩),.nilFunc,.nilFunc,.nilFunc] .act)) (B:=s1.heap.length) (m:=4) (vs:=[sv p.1,fnV p.2.1,fnV p.2.2.1,fnV p.2.2.2]) AC rfl rfl rfl
        rw [this]
        simp [St.push,St.putB]
      unfold pc wire_Check.B
      simp only [BP,CJ,a0,l0,DA,Q.form,x0,x1,n2,st,Option.bind_some]
    have hx2 : Ext s1.heap.length s1 (s1.push (.row 0 [sv p.1,fnV p.2.1,fnV p.2.2.1,fnV p.2.2.2] .act)):=.push _ (Nat.le_refl _) _
    have h2:=h1.ext hx2
    have hM2:=BB hx2 hM1
    have hF2 : readRow (s1.push (.row 0 [sv p.1,fnV p.2.1,fnV p.2.2.1,fnV p.2.2.2] .act)) s1.heap.length = some [sv p.1,fnV p.2.1,fnV p.2.2.1,fnV p.2.2.2]:=D6 AC (by simp)
    have hlen2 : (s1.push (.row 0 [sv p.1,fnV p.2.1,fnV p.2.2.1,fnV p.2.2.2] .act)).heap.length = s1.heap.length + 1:=AL
    generalize s1.push (.row 0 [sv p.1,fnV p.2.1,fnV p.2.2.1,fnV p.2.2.2] .act) = s2 at *
    obtain ⟨t,hxt,hC⟩:=ZG Q h2 hp hM2 hF2
    unfold J4
    simp only [hA,hB,hC,Option.bind_some]
    unfold eMs
    cases hb : Ns m with
    | true =>
      simp only [if_true,Bool.true_or]
      rfl
    | false =>
      simp only [Bool.false_eq_true,if_false,Bool.false_or]
      obtain ⟨Ht⟩:=t
      have hall:=Ir Q Ht
      have hg : (Ht ++ (Blk.map (AK Ht.length) 16 :: Am))[Ht.length]? = some (.map (AK Ht.length) 16):=by rw [List.getElem?_append_right (Nat.le_refl _),Nat.sub_self]; rfl
      have har : Lb (.map (some Ht.length)) ⟨Ht ++ (.map (AK Ht.length) 16 :: Am)⟩ = some (.pointer (some ⟨(Ht ++ (Blk.map (AK Ht.length) 16 :: Am)).length,0,none⟩),(⟨Ht ++ (.map (AK Ht.length) 16 :: Am)⟩ : St).push (.map [(.tuple #[],.map (some Ht.length),16)] 0)):=by
        unfold Lb
        simp only [hg]
        rfl
      have hxa : Ext (⟨Ht⟩ : St).heap.length ⟨Ht⟩ ⟨Ht ++ (.map (AK Ht.length) 16 :: Am)⟩:=ext_app Ht _
      have hxb : Ext (⟨Ht ++ (Blk.map (AK Ht.length) 16 :: Am)⟩ : St).heap.length ⟨Ht ++ (.map (AK Ht.length) 16 :: Am)⟩ ((⟨Ht ++ (.map (AK Ht.length) 16 :: Am)⟩ : St).push (.map [(.tuple #[],.map (some Ht.length),16)] 0)):=.push _ (Nat.le_refl _) _
      have hrows : ∀ i f,Am[i]? = some (rowF f)→readRow (⟨Ht ++ (Blk.map (AK Ht.length) 16 :: Am)⟩ : St) (Ht.length + 1 + i) = some [fnV f]:=fun i f hi=>by
        refine D6 (st:=.act) (n:=0) ?_ (by simp)
        rw [List.getElem?_append_right (by omega),show Ht.length + 1 + i - Ht.length = i + 1 by omega,List.getElem?_cons_succ,hi]
        rfl
      obtain ⟨s4,e4⟩ : ∃ s4,(⟨Ht ++ (.map (AK Ht.length) 16 :: Am)⟩ : St).push (.map [(.tuple #[],.map (some Ht.length),16)] 0) = s4:=⟨_,rfl⟩
      have hlen4 : s4.heap.length = (Ht ++ (Blk.map (AK Ht.length) 16 :: Am)).length + 1:=by rw [← e4,AL]
      have hbi : s4.heap[(Ht ++ (Blk.map (AK Ht.length) 16 :: Am)).length]? = some (.map [(.tuple #[],.map (some Ht.length),16)] 0):=by rw [← e4]; exact AC
      have hbm : s4.heap[Ht.length]? = some (.map (AK Ht.length) 16):=by
        rw [← e4,Db (by simp)]
        exact hg
      rw [e4] at har hxb
      have hD : pc (wire_Check.D R) [mp s.heap.length,.int .i64 0,.pointer (some ⟨s1.heap.length,0,none⟩)] ⟨Ht⟩ = some ([mp s.heap.length,.int .i64 0,.pointer (some ⟨s1.heap.length,0,none⟩),.pointer (some ⟨(Ht ++ (Blk.map (AK Ht.length) 16 :: Am)).length,0,none⟩)],s4):=by
        unfold pc wire_Check.D
        simp only [BP,CJ,Dq,G9,Q.wire_all hall,har,Option.bind_some]
      have hit : T9 (.pointer (some ⟨(Ht ++ (Blk.map (AK Ht.length) 16 :: Am)).length,0,none⟩)) s4 = some ((Ht ++ (Blk.map (AK Ht.length) 16 :: Am)).length,Ht.length,16,AK Ht.length):=by
        unfold T9
        simp only [hbi,hbm]
        rfl
      have hlt : s2.heap.length ≤ Ht.length:=hxt.1
      have hZ : ZAt m vo vr vw s.heap.length Ht.length (frzS s4):=by
        refine ⟨by rw [CD]; exact BB hxb (BB hxa (BB hxt hM2)),fun i f hi=>by rw [CD]; exact BB hxb (hrows i f hi)⟩
      have hF4 : readRow (frzS s4) s1.heap.length = some [sv p.1,fnV p.2.1,fnV p.2.2.1,fnV p.2.2.2]:=by rw [CD]; exact BB hxb (BB hxa (BB hxt hF2))
      have hrd:=Q4 Q hpm (fun _ _=>ZAt.ext) (t2:=.int .i64 0) (t44:=.pointer (some ⟨(Ht ++ (Blk.map (AK Ht.length) 16 :: Am)).length,0,none⟩)) hZ hF4 (Zbv Q h s.heap.length Ht.length)
      have hex : PC m = !(zTab m).all fun q=>(lets p.1).any (fun n=>q.1 == n) || q.2:=by unfold PC; rw [hp]
      have hL : (Ht ++ (Blk.map (AK Ht.length) 16 :: Am)).length = Ht.length + 21:=by simp [Am]
      have hcond : (Nat.ble s.heap.length (Ht ++ (Blk.map (AK Ht.length) 16 :: Am)).length && J3 s4.heap.length (mp s.heap.length) && J3 s4.heap.length (.int .i64 0) && J3 s4.heap.length (.pointer (some ⟨s1.heap.length,0,none⟩)) && J3 s4.heap.length (.pointer (some ⟨(Ht ++ (Blk.map (AK Ht.length) 16 :: Am)).length,0,none⟩))) = true:=by
        simp only [J3,Bool.and_eq_true,Nat.ble_eq]
        refine ⟨⟨⟨⟨by omega,by omega⟩,rfl⟩,by omega⟩,by omega⟩
      simp only [hD,hit,BP,CJ,Dq,DO,hcond,cond_true,hrd,Option.bind_some,Option.map_some,hex]
      cases (zTab m).all fun q=>(lets p.1).any (fun n=>q.1 == n) || q.2 <;> rfl
end
noncomputable def ZH : Sum
  | [x0],s=>(J4 (run Tryz.prog (libL libS) Ad) x0 (frzS s)).map fun r=>(.int .i64 r,s)
  | _,_=>none
noncomputable def libU : List (FuncId × Sum):=(11,ZH) :: libS
theorem ZdE : Br Tryz.prog (libL libU):=Im progOk Zm G8 fun _ args s v s' h wb ι w args' hs ha=>by
  unfold ZH at h
  split at h
  · obtain ⟨r,h1,h2⟩:=Option.map_eq_some_iff.1 h
    cases h2
    exact PB (Oj progOk Zm) h1 hs ha
  · cases h
theorem Zbz {m : Ms} {s : St} {vo vr vw : Value} (h : MsV m s vo vr vw) : ZH [mV m vo vr vw] s = some (.int .i64 (eMs m),s):=by
  simp only [ZH,Zby Zgj h.frz,Option.map_some]
end Go.Proofs.YtmbhnbladmpnoaaGreat.Ab

/- The chapter's examples: run by the kernel. -/
namespace Go.Proofs.YtmbhnbladmpnoaaGreat.Ab
open Go Go.RowKit
noncomputable def Zfx : Aa:=fnB Tryz.prog (libL []) Ad 40
theorem ZbA : DZ Tryz.prog Zfx:=Oe progOk (To _) 40
noncomputable def Zfy : Sum
  | [x0],s=>(J4 Zfx x0 (frzS s)).map fun r=>(.int .i64 r,s)
  | _,_=>none
noncomputable def libC : List (FuncId × Sum):=(11,Zfy) :: flT
theorem ZdF : Br Tryz.prog (libL libC):=Im progOk Zci G8 fun _ args s v s' h wb ι w args' hs ha=>by
  unfold Zfy at h
  split at h
  · obtain ⟨r,h1,h2⟩:=Option.map_eq_some_iff.1 h
    cases h2
    exact PB ZbA h1 hs ha
  · cases h
theorem ZI : SL (fnB Tryz.prog (libL libC) Ad 60 8 [] ⟨[]⟩) = true:=by kernel_rfl
def ZJ : Sum:=gP (G0 (.bool true))
theorem ZdG {s : St} : ZJ [] s = some (.bool true,s):=rfl
theorem XH {l : List (FuncId × Sum)} (_ : Br Tryz.prog (libL l)) : ∀ args s v s',ZJ args s = some (v,s')→∀ wb ι w (args' : Array Value),Sim wb ι s.heap w→All2 (VRel ι) args args'.toList→Calls Tryz.prog 8 args' w fun e w'=>∃ v',e = .returned v'∧Ba wb ι s.heap w s'.heap v v' w':=by
  intro args s v s' h wb ι w args' hs ha
  unfold ZJ gP G0 at h
  simp only [Option.map_eq_some_iff] at h
  obtain ⟨u,h,e⟩:=h
  cases e
  split at h
  · cases h
    exact Uc progOk ZdF G7 ZI hs ha
  · cases h
end Go.Proofs.YtmbhnbladmpnoaaGreat.Ab

/- Datagrams: the document's answer. -/
namespace Go.Proofs.YtmbhnbladmpnoaaGreat.Ab
open Go
theorem ZdH : ∀ {l : List UInt8},l.length = 4→∃ a b c d,l = [a,b,c,d]
  | [a,b,c,d],_=>⟨a,b,c,d,rfl⟩
  | [],h=>by simp at h
  | [_],h=>by simp at h
  | [_,_],h=>by simp at h
  | [_,_,_],h=>by simp at h
  | _ :: _ :: _ :: _ :: _ :: _,h=>by simp at h
theorem Vs {R : Aa} (hN : ∀ xs s,R 103 xs s = gNum xs s) (hS : ∀ xs s,R 105 xs s = gSum xs s) (hF : ∀ xs s,R 104 xs s = Iq xs s) {v : Value} {s : St} {l : List UInt8} (h : bytesOf v s = some l) (hl : l.length ≤ 4096) :
    ∃ w t,IF R v s = some (pkE w,t)∧Own s.heap.length 1 t w (bv (B8 l)):=by
  have e1 : decide (((l.length : Nat) : Int) > 4096) = false:=by simp; omega
  have e2 : As 1 [(.int .u8 0)] 1 [(0,(.int .u8 83))] s = some (Af [83] s):=rfl
  have e3 : IntKind.wrap .u64 ((l.length : Nat) : Int) = ((l.length : Nat) : Int):=Em (by omega) (by omega)
  have o1 : Own s.heap.length 1 (Af [83] s).2 (Af [83] s).1 (bv [83]):=DP (Nat.le_refl _) (by simp)
  have x1 : Ext s.heap.length s (Af [83] s).2:=AZ (Nat.le_refl _)
  generalize Af [83] s = r1 at e2 o1 x1
  have e5 : gNum [.int .u64 ((l.length : Nat) : Int)] r1.2 = some (Af (enc l.length) r1.2):=LJ (by omega)
  have x2 : Ext r1.2.heap.length r1.2 (Af (enc l.length) r1.2).2:=AZ (Nat.le_refl _)
  have hb2 : bytesOf (Af (enc l.length) r1.2).1 (Af (enc l.length) r1.2).2 = some (enc l.length):=Bb
  generalize Af (enc l.length) r1.2 = r2 at e5 x2 hb2
  have hlen : (BS l).length ≤ 5000:=by simp [BS]; have:=@JX l.length; omega
  have o2 : Own s.heap.length 1 r2.2 r1.1 (bv [83]):=by
    rcases o1 with h | ⟨b,len,q1,q2,q3,q4,q5⟩
    · exact .inl h
    · exact .inr ⟨b,len,q1,q2,by rw [x2.2 b (List.getElem?_eq_some_iff.1 q3).1]; exact q3,q4,q5⟩
  have hlb : (BS l).length = 1 + (enc l.length).length + l.length:=by simp [BS]; omega
  obtain ⟨v3,s3,e6,o3,x3⟩:=KW o2 (Nat.le_trans x1.1 x2.1) hb2 (by simp only [List.length_singleton]; omega)
  have hv3 : bytesOf v s3 = some l:=Ext.old x3 (x1.trans (x2.less x1.1)) rfl h
  obtain ⟨v4,s4,e7,o4,x4⟩:=KW o3 (Nat.le_trans (Nat.le_trans x1.1 x2.1) x3.1) hv3 (by rw [List.length_append,List.length_singleton]; omega)
  have hB : [83] ++ enc l.length ++ l = BS l:=by simp [BS]
  rw [hB] at o4
  have e8 : gSum [v4] s4 = some (.int .u32 ((sumV (BS l) : Nat) : Int),s4):=by
    unfold gSum; rw [Fa o4.bytes (by omega),Option.map_some]
  have hsum : sumV (BS l) < 4294967296:=Vk _
  have e9 : Iq [.int .u32 ((sumV (BS l) : Nat) : Int)] s4 = some (fixV (sumV (BS l)),s4):=TS hsum
  obtain ⟨a,b,c,d,hfb⟩:=ZdH (KX (n:=sumV (BS l)))
  have hfv : fixV (sumV (BS l)) = .agg #[.int .u8 a.toNat,.int .u8 b.toNat,.int .u8 c.toNat,.int .u8 d.toNat]:=by rw [Y1,hfb]; rfl
  rw [hfv] at e9
  have f0 : AO 4 lptr (.agg #[.int .u8 a.toNat,.int .u8 b.toNat,.int .u8 c.toNat,.int .u8 d.toNat]) (.agg #[(.int .u8 0),(.int .u8 0),(.int .u8 0),(.int .u8 0)]) = some (.agg #[.int .u8 a.toNat,.int .u8 b.toNat,.int .u8 c.toNat,.int .u8 d.toNat]):=rfl
  have f1 : Ap false 1 lptr (.agg #[.int .u8 a.toNat,.int .u8 b.toNat,.int .u8 c.toNat,.int .u8 d.toNat]) = some (.int .u8 a.toNat):=rfl
  have f2 : Ap false 1 (.pointer (some ⟨0,1,none⟩)) (.agg #[.int .u8 a.toNat,.int .u8 b.toNat,.int .u8 c.toNat,.int .u8 d.toNat]) = some (.int .u8 b.toNat):=rfl
  have f3 : Ap false 1 (.pointer (some ⟨0,2,none⟩)) (.agg #[.int .u8 a.toNat,.int .u8 b.toNat,.int .u8 c.toNat,.int .u8 d.toNat]) = some (.int .u8 c.toNat):=rfl
  have f4 : Ap false 1 (.pointer (some ⟨0,3,none⟩)) (.agg #[.int .u8 a.toNat,.int .u8 b.toNat,.int .u8 c.toNat,.int .u8 d.toNat]) = some (.int .u8 d.toNat):=rfl
  have e10 : As 1 [(.int .u8 0)] 4 [(0,.int .u8 a.toNat),(1,.int .u8 b.toNat),(2,.int .u8 c.toNat),(3,.int .u8 d.toNat)] s4 = some (Af [a,b,c,d] s4):=rfl
  have x5 : Ext s4.heap.length s4 (Af [a,b,c,d] s4).2:=AZ (Nat.le_refl _)
  have hb5 : bytesOf (Af [a,b,c,d] s4).1 (Af [a,b,c,d] s4).2 = some [a,b,c,d]:=Bb
  generalize Af [a,b,c,d] s4 = r5 at e10 x5 hb5
  have o5 : Own s.heap.length 1 r5.2 v4 (bv (BS l)):=by
    rcases o4 with h | ⟨b,len,q1,q2,q3,q4,q5⟩
    · exact .inl h
    · exact .inr ⟨b,len,q1,q2,by rw [x5.2 b (List.getElem?_eq_some_iff.1 q3).1]; exact q3,q4,q5⟩
  obtain ⟨v6,s6,e11,o6,x6⟩:=KW o5 (Nat.le_trans (Nat.le_trans (Nat.le_trans (Nat.le_trans x1.1 x2.1) x3.1) x4.1) x5.1) hb5 (by simp only [List.length_cons,List.length_nil]; omega)
  have hL : BS l ++ [a,b,c,d] = B8 l:=by unfold B8; rw [hfb]
  rw [hL] at o6
  have hnt : Fk v6 = true:=o6.notup
  refine ⟨v6,s6,?_,o6⟩
  clear o6 o5 o4 o3 o2 o1 hL hfv hfb hsum hlb hlen hB x1 x2 x3 x4 x5 x6 hb2 hb5 hv3
  generalize sumV (BS l) = S at e8 e9
  have e3' : AM .u64 (.int .i64 ((l.length : Nat) : Int)) = some (.int .u64 ((l.length : Nat) : Int)):=by rw [Mg,e3]
  have l2 : ∀ ty s',AG (.slice ty) v s' = some (.int .i64 ((l.length : Nat) : Int)):=fun ty s'=>AW h
  unfold IF
  simp only [l2,e1,e2,e3',Option.bind_some,EI,EJ]
  simp only [En,hN,e5,Option.bind_some]
  simp only [e6,Option.bind_some]
  simp only [e7,Option.bind_some]
  simp only [Ji,hS,e8,Option.bind_some]
  simp only [Nf,hF,e9,Option.bind_some]
  simp only [f0,Option.bind_some]
  simp only [f1,f2,f3,f4,Option.bind_some]
  simp only [e10,Option.bind_some]
  simp only [e11,Option.bind_some]
  unfold retV
  rw [if_pos (show [v6,.int .i64 0].all Fk = true by simp only [List.all_cons,hnt]; rfl)]
  rfl
theorem Vt {lib : Lib} (hl : lib 21 = none) (hN : lib 103 = some gNum) (hS : lib 105 = some gSum) (hF : lib 104 = some Iq) : BO Tryz.prog lib Ad 21 Vj:=by
  refine BO.out (.inr rfl) (fun args s v h=>?_) (fun args s l h=>?_)
  · split at h
    · rename_i v0
      simp only [Option.bind_eq_some_iff] at h
      obtain ⟨l,h1,h⟩:=h
      split at h
      case isFalse=>cases h
      rename_i hle
      split at h
      case isFalse=>cases h
      rename_i hlong
      cases h
      refine ⟨rfl,frzS s,Kt hl ?_⟩
      have h2 : bytesOf v0 (frzS s) = some l:=by rw [Bp]; exact h1
      have e1 : decide (((l.length : Nat) : Int) > 4096) = true:=by simp; omega
      unfold IF
      simp only [AW h2,e1,EVs,retV]
      rfl
    · cases h
  · split at h
    · rename_i v0
      simp only [Option.bind_eq_some_iff] at h
      obtain ⟨l',h1,h⟩:=h
      split at h
      case isFalse=>cases h
      split at h
      case isTrue=>cases h
      cases h
      obtain ⟨w,t,g1,g2⟩:=Vs (R:=run Tryz.prog lib Ad) (fun xs s=>Bq hN) (fun xs s=>Bq hS) (fun xs s=>Bq hF) (s:=frzS s) (v:=v0) (l:=l') (by rw [Bp]; exact h1) (by omega)
      obtain ⟨b,rfl,g3,g4⟩:=g2.row Wg
      rw [Cp] at g3
      exact ⟨b,t,Kt hl g1,g3,g4⟩
    · cases h
theorem Vu {R : Aa} (hN : ∀ xs s,R 120 xs s = Ch xs s) (hS : ∀ xs s,R 105 xs s = gSum xs s) (hF : ∀ xs s,R 119 xs s = CP xs s) {v : Value} {s : St} {l : List UInt8} (h : bytesOf v s = some l) (hl : l.length ≤ 140737488355328) :
    if (B4 l).2 = 0 then ∃ w t,II R v s = some (pkE w,t)∧Own s.heap.length 1 t w (bv (B4 l).1)∧Ext s.heap.length s t else II R v s = some (nilE (B4 l).2,s):=by
  have l2 : ∀ ty s',AG (.slice ty) v s' = some (.int .i64 ((l.length : Nat) : Int)):=fun ty s'=>AW h
  unfold B4 II
  simp only [l2,Option.bind_some,EJ,PS]
  by_cases c1 : 4103 < l.length
  · have e1 : decide (((l.length : Nat) : Int) > 4103) = true:=by simp; omega
    rw [if_pos c1,if_neg (by decide)]
    simp only [e1,C2]
    rfl
  have e1 : decide (((l.length : Nat) : Int) > 4103) = false:=by simp; omega
  rw [if_neg c1]
  by_cases c2 : l.length < 6
  · have e2 : decide (((l.length : Nat) : Int) < 6) = true:=by simp; omega
    rw [if_pos c2,if_neg (by decide)]
    simp only [e1,e2,C2,EI]
    rfl
  have e2 : decide (((l.length : Nat) : Int) < 6) = false:=by simp; omega
  rw [if_neg c2]
  have e3 : IntKind.wrap .i64 (((l.length : Nat) : Int) - 4) = ((l.length - 4 : Nat) : Int):=by rw [wrap_i64 (by omega) (by omega)]; omega
  obtain ⟨hd,g1,g2⟩:=BH h (lo:=none) (hi:=some (.int .i64 ((l.length - 4 : Nat) : Int))) (mx:=none) (i:=0) (j:=l.length - 4) rfl (by simp [Bi]) (by omega) (by omega) (.inl rfl)
  obtain ⟨tl,g3,g4⟩:=BH h (lo:=some (.int .i64 ((l.length - 4 : Nat) : Int))) (hi:=none) (mx:=none) (i:=l.length - 4) (j:=l.length) (by simp [Bi]) rfl (by omega) (by omega) (.inl rfl)
  simp only [List.drop_zero,Nat.sub_zero] at g2
  rw [List.take_of_length_le (by simp)] at g4
  have f1 : CP [tl] s = some (tupF (leN 0 (l.drop (l.length - 4))) 0,s):=by
    unfold CP
    rw [Fa g4 (by simp; omega),Wh (by simp; omega),Option.map_some]
  have hlen : (l.take (l.length - 4)).length = l.length - 4:=by simp
  have f2 : gSum [hd] s = some (.int .u32 ((sumV (l.take (l.length - 4)) : Nat) : Int),s):=by
    unfold gSum; rw [Fa g2 (by omega),Option.map_some]
  have f3 : ∀ n,Al 0 (tupF n 0) = some (.int .u32 n)∧Al 1 (tupF n 0) = some (.int .i64 0):=fun n=>⟨rfl,rfl⟩
  simp only [e1,e2,e3,EI,W8,Option.bind_some,g1,g3,I2,hF,f1,(f3 _).1,(f3 _).2,ME]
  simp only [Ji,hS,f2,Option.bind_some,ME]
  generalize hA : leN 0 (l.drop (l.length - 4)) = A
  generalize hB : sumV (l.take (l.length - 4)) = B
  by_cases c3 : A ≠ B
  · rw [if_pos c3,if_neg (by decide)]
    have e4 : (((A : Nat) : Int) != ((B : Nat) : Int)) = true:=by simp; omega
    simp only [e4,C2]
    rfl
  rw [if_neg c3]
  have e4 : (((A : Nat) : Int) != ((B : Nat) : Int)) = false:=by simp; omega
  clear f1 f2 hA hB
  obtain ⟨h1v,g5,g6⟩:=BH h (lo:=some (.int .i64 1)) (hi:=some (.int .i64 ((l.length - 4 : Nat) : Int))) (mx:=none) (i:=1) (j:=l.length - 4) (by simp [Bi]) (by simp [Bi]) (by omega) (by omega) (.inl rfl)
  have hdt : (l.drop 1).take (l.length - 4 - 1) = (l.take (l.length - 4)).drop 1:=by rw [List.drop_take]
  rw [hdt] at g6
  obtain ⟨p,g7,g8⟩:=CU h (i:=0) (by omega) (k:=.i64)
  have z00 : ((0 : Nat) : Int) = 0:=rfl
  rw [z00] at g7
  rw [Zd (by omega)] at g8
  have h00 : l.getD 0 0 = (l.take (l.length - 4)).getD 0 0:=by
    simp only [List.getD_eq_getElem?_getD]
    rw [List.getElem?_take,if_pos (by omega)]
  rw [h00] at g8
  generalize hH : l.take (l.length - 4) = H at g2 hlen g6 g8
  have f4 : Ch [h1v] s = some (tup3 (Au (H.drop 1)).1 (Au (H.drop 1)).2.1 (Au (H.drop 1)).2.2,s):=FD g6
  have hk:=EC (H.drop 1)
  have hlt:=GR (H.drop 1)
  have hk0 : (Au (H.drop 1)).2.1 ≤ 100000:=by
    by_cases e : (Au (H.drop 1)).2.2 = 0
    · have:=(hk e).2
      simp only [List.length_drop] at this
      omega
    · have : (Au (H.drop 1)).2.1 = 0:=by
        unfold Au at e ⊢
        cases e5 : rdN 0 0 (H.drop 1) with
        | none=>rfl
        | some r=>rw [e5] at e; exact ((ZaO e5).2.1 e).2
      omega
  generalize hrr : Au (H.drop 1) = r at f4 hk hlt hk0
  obtain ⟨n,k,e⟩:=r
  simp only at f4 hk hlt hk0 ⊢
  simp only [e4,EI,g5,Option.bind_some,F2,hN,f4,x3_0,x3_1,x3_2,g7,g8,ME,Zch]
  by_cases d1 : H.getD 0 0 ≠ 83
  · have e5 : decide (H.getD 0 0 ≠ 83) = true:=decide_eq_true d1
    rw [if_pos (c:=H.getD 0 0 ≠ 83 ∨ e ≠ 0 ∨ 4096 < n ∨ l.length - 4 ≠ 1 + k + n) (.inl d1),if_neg (by decide)]
    simp only [e5,EVs]
    rfl
  have e5 : decide (H.getD 0 0 ≠ 83) = false:=decide_eq_false d1
  by_cases d2 : e ≠ 0
  · have e6 : (e != 0) = true:=by simp [d2]
    rw [if_pos (c:=H.getD 0 0 ≠ 83 ∨ e ≠ 0 ∨ 4096 < n ∨ l.length - 4 ≠ 1 + k + n) (.inr (.inl d2)),if_neg (by decide)]
    simp only [e5,e6,C3,Et,H2,Fq,Option.bind_some,BP,C2]
    rfl
  have e6 : (e != 0) = false:=by simpa using d2
  have e0 : e = 0:=by simpa using d2
  have hk2:=hk e0
  simp only [List.length_drop] at hk2
  by_cases d3 : 4096 < n
  · have e7 : decide (((n : Nat) : Int) > 4096) = true:=by simp; omega
    rw [if_pos (c:=H.getD 0 0 ≠ 83 ∨ e ≠ 0 ∨ 4096 < n ∨ l.length - 4 ≠ 1 + k + n) (.inr (.inr (.inl d3))),if_neg (by decide)]
    simp only [e5,e6,e7,C3,Et,H2,Fq,Option.bind_some,BP,C2,EJ]
    rfl
  have e7 : decide (((n : Nat) : Int) > 4096) = false:=by simp; omega
  have e8 : IntKind.wrap .i64 (1 + ((k : Nat) : Int)) = ((1 + k : Nat) : Int):=by rw [wrap_i64 (by omega) (by omega)]; omega
  have e9 : IntKind.wrap .i64 ((n : Nat) : Int) = ((n : Nat) : Int):=wrap_i64 (by omega) (by omega)
  have e10 : IntKind.wrap .i64 (((l.length - 4 : Nat) : Int) - 1) = ((l.length - 4 - 1 : Nat) : Int):=by rw [wrap_i64 (by omega) (by omega)]; omega
  have e12 : IntKind.wrap .i64 (((l.length - 4 - 1 : Nat) : Int) - ((k : Nat) : Int)) = ((l.length - 4 - 1 - k : Nat) : Int):=by rw [wrap_i64 (by omega) (by omega)]; omega
  by_cases d4 : l.length - 4 ≠ 1 + k + n
  · have e11 : (((n : Nat) : Int) != ((l.length - 4 - 1 - k : Nat) : Int)) = true:=by simp; omega
    rw [if_pos (c:=H.getD 0 0 ≠ 83 ∨ e ≠ 0 ∨ 4096 < n ∨ l.length - 4 ≠ 1 + k + n) (.inr (.inr (.inr d4))),if_neg (by decide)]
    simp only [e5,e6,e7,e9,e10,e11,e12,C3,Et,H2,Fq,Option.bind_some,BP,C2,EJ,W8,Mg,ME]
    rfl
  have e11 : (((n : Nat) : Int) != ((l.length - 4 - 1 - k : Nat) : Int)) = false:=by simp; omega
  rw [if_neg (c:=H.getD 0 0 ≠ 83 ∨ e ≠ 0 ∨ 4096 < n ∨ l.length - 4 ≠ 1 + k + n) (by
    rintro (g | g | g | g)
    · exact d1 g
    · exact d2 g
    · exact d3 g
    · exact d4 g),if_pos rfl]
  obtain ⟨bd,g9,g10⟩:=BH h (lo:=some (.int .i64 ((1 + k : Nat) : Int))) (hi:=some (.int .i64 ((l.length - 4 : Nat) : Int))) (mx:=none) (i:=1 + k) (j:=l.length - 4) (by simp [Bi]; omega) (by simp [Bi]) (by omega) (by omega) (.inl rfl)
  have hdt2 : (l.drop (1 + k)).take (l.length - 4 - (1 + k)) = H.drop (1 + k):=by rw [← hH,List.drop_take]
  rw [hdt2] at g10
  obtain ⟨w,t,f5,f6,f7⟩:=ZaS g10 (by simp; omega)
  refine ⟨w,t,?_,f6,f7⟩
  have hnt : Fk w = true:=f6.notup
  simp only [e5,e6,e7,e8,e9,e10,e11,e12,C3,Fq,Option.bind_some,BP,EI,EJ,W7,W8,Mg,ME,g9]
  simp only [f5,Option.bind_some]
  unfold retV
  rw [if_pos (show [w,.int .i64 0].all Fk = true by simp only [List.all_cons,hnt]; rfl)]
  rfl
def Zcp : Sum:=fun xs s=>(match xs with
  | [v]=>(bytesOf v s).bind fun l=>if l.length ≤ 140737488355328 then (if (B4 l).2 = 0 then (if (B4 l).1 = [] then some (Sum.inl (nilE 0)) else some (Sum.inr (B4 l).1)) else some (Sum.inl (nilE (B4 l).2))) else none
  | _=>(none : Option (Value ⊕ List UInt8))).map (outS pkE s)
theorem Vv {lib : Lib} (hl : lib 37 = none) (hN : lib 120 = some Ch) (hS : lib 105 = some gSum) (hF : lib 119 = some CP) : BO Tryz.prog lib Ad 37 Zcp:=by
  have key : ∀ (v0 : Value) (s : St) (l : List UInt8),bytesOf v0 s = some l→l.length ≤ 140737488355328→_:=fun v0 s l h1 hle =>
    Vu (R:=run Tryz.prog lib Ad) (fun xs s=>Bq hN) (fun xs s=>Bq hS) (fun xs s=>Bq hF) (s:=frzS s) (v:=v0) (l:=l) (by rw [Bp]; exact h1) hle
  refine BO.out (.inr rfl) (fun args s v h=>?_) (fun args s l h=>?_)
  · split at h
    · rename_i v0
      simp only [Option.bind_eq_some_iff] at h
      obtain ⟨l,h1,h⟩:=h
      split at h
      case isFalse=>cases h
      rename_i hle
      have hk:=key v0 s l h1 hle
      split at h
      · rename_i h0
        rw [if_pos h0] at hk
        split at h
        case isFalse=>cases h
        rename_i he
        cases h
        obtain ⟨w,t,g1,g2,_⟩:=hk
        rw [he] at g2
        rcases g2 with ⟨rfl,_⟩ | ⟨b,len,_,_,_,g5,g6⟩
        · exact ⟨rfl,_,Ha hl g1⟩
        · simp [bv] at g5
          omega
      · rename_i h0
        rw [if_neg h0] at hk
        cases h
        exact ⟨rfl,_,Ha hl hk⟩
    · cases h
  · split at h
    · rename_i v0
      simp only [Option.bind_eq_some_iff] at h
      obtain ⟨l',h1,h⟩:=h
      split at h
      case isFalse=>cases h
      rename_i hle
      have hk:=key v0 s l' h1 hle
      split at h
      case isFalse=>cases h
      rename_i h0
      rw [if_pos h0] at hk
      split at h
      case isTrue=>cases h
      rename_i he
      cases h
      obtain ⟨w,t,g1,g2,_⟩:=hk
      obtain ⟨b,rfl,g3,g4⟩:=g2.row he
      rw [Cp] at g3
      exact ⟨b,t,Ha hl g1,g3,g4⟩
    · cases h
end Go.Proofs.YtmbhnbladmpnoaaGreat.Ab

/- What is Bq at layer 18. -/
namespace Go.Proofs.YtmbhnbladmpnoaaGreat.Ab
open Go
noncomputable def Zfz : List (FuncId × Sum):=(105,gSum) :: libU
noncomputable def ZfA : List (FuncId × Sum):=(104,Iq) :: Zfz
noncomputable def ZfB : List (FuncId × Sum):=(119,CP) :: ZfA
noncomputable def ZfC : List (FuncId × Sum):=(21,Vj) :: ZfB
noncomputable def ZfD : List (FuncId × Sum):=(37,Zcp) :: ZfC
noncomputable def ZfE : List (FuncId × Sum):=(8,ZJ) :: ZfD
noncomputable abbrev libT:=ZfE
theorem ZbB : Br Tryz.prog (libL Zfz):=Ay progOk ZdE Mo (IO fun v s l r h hl e=>by cases e; rw [← Zde]; exact ⟨rfl,s,Ty rfl (Xs h hl)⟩)
theorem ZbC : Br Tryz.prog (libL ZfA):=Ay progOk ZbB Jh (TT fun _ s h=>Qt rfl (TP h s))
theorem ZbD : Br Tryz.prog (libL ZfB):=Ay progOk ZbC F1 (IO fun v s l r h _ e=>by cases e; exact ⟨rfl,s,KO rfl (Nr h)⟩)
theorem ZbE : Br Tryz.prog (libL ZfC):=Ay progOk ZbD RJ (Vt rfl rfl rfl rfl)
theorem ZbF : Br Tryz.prog (libL ZfD):=Ay progOk ZbE RK (Vv rfl rfl rfl rfl)
theorem ZbG : Br Tryz.prog (libL ZfE):=Im progOk ZbF G7 XH
theorem libT_ok : Br Tryz.prog (libL libT):=ZbG
theorem ZfF : ∀ f ∈ TZ,libL libT f = none:=by
  intro f hf
  have h:=Zck f hf
  simp only [TZ,List.mem_cons,List.not_mem_nil,or_false] at hf
  rcases hf with rfl | rfl | rfl | rfl | rfl | rfl | rfl | rfl | rfl | rfl | rfl | rfl | rfl | rfl | rfl | rfl | rfl | rfl | rfl | rfl | rfl | rfl | rfl | rfl | rfl | rfl | rfl | rfl | rfl | rfl | rfl | rfl | rfl | rfl | rfl | rfl | rfl | rfl | rfl | rfl | rfl | rfl | rfl | rfl | rfl | rfl | rfl | rfl | rfl | rfl | rfl | rfl | rfl <;> rfl
theorem I3 : WrH (run Tryz.prog (libL libT) Ad):=Zcj ZfF rfl rfl rfl rfl rfl rfl rfl
theorem ZK {s : St} : (run Tryz.prog (libL libT) Ad) 8 [] s = some (.bool true,s):=(Bq (g:=ZJ) rfl).trans ZdG
theorem PD {m : Ms} {s : St} {vo vr vw : Value} (h : MsV m s vo vr vw) : (run Tryz.prog (libL libT) Ad) 11 [mV m vo vr vw] s = some (.int .i64 (eMs m),s):=(Bq (g:=ZH) rfl).trans (Zbz h)
theorem ZfG {v : Value} {s : St} {l : BL} (h : bytesOf v s = some l) (hl : l.length ≤ 4096) : (run Tryz.prog (libL libT) Ad) 17 [v] s = some (pkE (Af (B8 l) s).1,(Af (B8 l) s).2):=(Bq (g:=Vj) rfl).trans (Za5 h hl)
theorem Ud {n : Nat} (hn : n < 18446744073709551616) {s : St} : (run Tryz.prog (libL libT) Ad) 45 [.int .u64 (n : Int)] s = some (Af (enc n) s):=(Bq (g:=gNum) rfl).trans (LJ hn)
def tB (k : BL) : BL:=enc k.length ++ k
theorem ZdI {k : BL} (hk : k.length ≤ 140737488300000) {s : St} : (run Tryz.prog (libL libT) Ad) 149 [sv k] s = some (Af (tB k) s):=(Bq (g:=TN) rfl).trans (ZaR (t:=⟨k.toArray⟩) (s:=s) hk)
theorem kRN {s : St} {v : Value} {l : BL} (h : bytesOf v s = some l) : (run Tryz.prog (libL libT) Ad) 117 [v] s = some (tup3 (Au l).1 (Au l).2.1 (Au l).2.2,s):=(Bq (g:=Ch) rfl).trans (FD h)
theorem kRT {s : St} {v : Value} {l : BL} (h : bytesOf v s = some l) (hl : l.length ≤ 140737488355328) : (run Tryz.prog (libL libT) Ad) 150 [v,.int .i64 255] s = some (tupT (AA l 255).1 (AA l 255).2.1 (AA l 255).2.2,s):=(Bq (g:=ED) rfl).trans (TM h (by omega) (by omega) (by omega))
end Go.Proofs.YtmbhnbladmpnoaaGreat.Ab

/- Bytes that are appended to bytes of one's own,one after another. -/
namespace Go.Proofs.YtmbhnbladmpnoaaGreat.Ab
open Go
theorem EE {N : Nat} {s : St} {x : Value} {cs : List Value} {B : Blk} (h : Own N 1 s x cs) : Own N 1 (s.push B) x cs:=by
  rcases h with h | ⟨b,len,rfl,h1,h2,h3,h4⟩
  · exact .inl h
  · refine .inr ⟨b,len,rfl,h1,?_,h3,h4⟩
    simp only [St.push]
    rw [List.getElem?_append_left (List.getElem?_eq_some_iff.1 h2).1]
    exact h2
theorem ZL {s0 t : St} (hx : Ext s0.heap.length s0 t) {ag : Bool} {n : Nat} {p u : Value} (h : Aj ag n p s0 = some u) : Aj ag n p t = some u:=by
  unfold Aj at h ⊢
  split at h
  · rename_i b off
    cases ag with
    | true =>
      simp only [if_true,Option.map_eq_some_iff] at h ⊢
      obtain ⟨cs,h1,h2⟩:=h
      refine ⟨cs,?_,h2⟩
      unfold Ab.readN at h1 ⊢
      simp only [Option.bind_eq_some_iff] at h1 ⊢
      obtain ⟨r,g1,g2⟩:=h1
      exact ⟨r,by rw [Ext.readRow hx (Ef g1)]; exact g1,g2⟩
    | false =>
      simp only [Bool.false_eq_true,if_false,Option.bind_eq_some_iff] at h ⊢
      obtain ⟨r,g1,g2⟩:=h
      exact ⟨r,by rw [Ext.readRow hx (Ef g1)]; exact g1,g2⟩
  · cases h
def App (N : Nat) (s : St) (x : Value) (m : List UInt8) (r : Value × St) : Prop :=
  Own N 1 r.2 r.1 (bv m)∧Keep (B2 x) s r.2∧ZeQ s x r.1
theorem App.len {N : Nat} {s : St} {x : Value} {m : List UInt8} {r : Value × St} (h : App N s x m r) : s.heap.length ≤ r.2.heap.length:=h.2.1.1
theorem App.start {N : Nat} {s : St} {x : Value} {l : List UInt8} (h : Own N 1 s x (bv l)) : App N s x l (x,s):=⟨h,.refl _ _,.inl rfl⟩
theorem App.trans {N : Nat} {s : St} {x : Value} {m m2 : List UInt8} {r r2 : Value × St} (h : App N s x m r) (g : App N r.2 r.1 m2 r2) : App N s x m2 r2:=by
  refine ⟨g.1,⟨Nat.le_trans h.2.1.1 g.2.1.1,fun c hc hB=>?_⟩,?_⟩
  · rw [g.2.1.2 c (Nat.lt_of_lt_of_le hc h.2.1.1) fun e=>?_,h.2.1.2 c hc hB]
    rcases h.2.2 with h3 | h3
    · exact hB (by rw [← h3]; exact e)
    · exact absurd (h3 c e) (by omega)
  · rcases g.2.2 with g3 | g3
    · rcases h.2.2 with h3 | h3
      · exact .inl (g3.trans h3)
      · exact .inr fun c hc=>h3 c (by rw [← g3]; exact hc)
    · exact .inr fun c hc=>Nat.le_trans h.2.1.1 (g3 c hc)
theorem App.ext {N : Nat} {s : St} {x : Value} {l m : List UInt8} {r : Value × St} (h : App N s x m r) (ho : Own N 1 s x (bv l)) (hN : N ≤ s.heap.length) : Ext N s r.2:=h.2.1.ext hN fun c hc=>(ho.blk c hc).1
theorem App.list {α : Type} {C : Cod α} {N : Nat} {s : St} {x v : Value} {m : List UInt8} {l : List α} {r : Value × St} (h : App N s x m r) (hv : Bj C v s = some l) (hne : ∀ c,B2 v = some c→B2 x ≠ some c) : Bj C v r.2 = some l:=h.2.1.list hv hne
theorem App.ne {N : Nat} {s : St} {x : Value} {m : List UInt8} {r : Value × St} (h : App N s x m r) {c : Nat} (hc : c < s.heap.length) (hne : B2 x ≠ some c) : B2 r.1 ≠ some c:=fun e=>by
  rcases h.2.2 with h3 | h3
  · exact hne (by rw [← h3]; exact e)
  · exact absurd (h3 c e) (by omega)
theorem App.push {N : Nat} {s : St} {x : Value} {m : List UInt8} {r : Value × St} {B : Blk} (h : App N (s.push B) x m r) : App N s x m r:=by
  refine ⟨h.1,⟨by have:=h.2.1.1; rw [AL] at this; omega,fun c hc hB=>?_⟩,?_⟩
  · rw [h.2.1.2 c (by rw [AL]; omega) hB]
    simp only [St.push]
    rw [List.getElem?_append_left hc]
  · rcases h.2.2 with h3 | h3
    · exact .inl h3
    · exact .inr fun c hc=>by have:=h3 c hc; rw [AL] at this; omega
theorem Ue {N : Nat} {s : St} {x v : Value} {l m : List UInt8} (h : Own N 1 s x (bv l)) (hN : N ≤ s.heap.length) (hv : bytesOf v s = some m) (hb : l.length + m.length ≤ 140737488355328) : ∃ r,AD 1 1 x v s = some r∧App N s x (l ++ m) r:=by
  obtain ⟨v',s',h1,h2,_⟩:=KW h hN hv hb
  obtain ⟨k1,k2⟩:=F3 h1
  exact ⟨(v',s'),h1,h2,k1,k2⟩
theorem PE {N : Nat} {s : St} {x : Value} {l m : List UInt8} (h : Own N 1 s x (bv l)) (hN : N ≤ s.heap.length) (hb : l.length + m.length ≤ 140737488355328) : ∃ r,AD 1 1 x (Af m s).1 (Af m s).2 = some r∧App N s x (l ++ m) r:=by
  have h1 : Own N 1 (Af m s).2 x (bv l):=EE h
  obtain ⟨r,g1,g2⟩:=Ue h1 (Nat.le_trans hN (AZ (N:=s.heap.length) (Nat.le_refl _)).1) Bb hb
  exact ⟨r,g1,g2.push⟩
theorem El {N : Nat} {r : Value × St} {m : List UInt8} (h : Own N 1 r.2 r.1 (bv m)) : retV [r.1] r.2 = some (r.1,r.2):=ret1 h.notup
theorem LP {s : St} {r : Value × St} (h : s.heap.length ≤ r.2.heap.length) : ownR s (r.1,r.2) = some (r.1,r.2):=by unfold ownR; rw [if_pos h]
theorem ZM {N : Nat} {s : St} {x w : Value} {l m : List UInt8} {f : St→Option (Value × St)} (ho : Own N 1 s x (bv l)) (hN : N ≤ s.heap.length) (hf : ∀ s',Own N 1 s' x (bv l)→N ≤ s'.heap.length→(∀ b ∈ blkV w,s'.heap[b]? = s.heap[b]?)→∃ r,f s' = some r∧App N s' x m r) :
    ∃ r,((f (⟨Er (BN [x,w]) 0 s.heap⟩ : St)).bind fun r=>some (r.1,r.2)).bind (appR (BN [x,w]) [] s) = some r∧App N s x m r∧∃ s' r0,s'.heap.length = s.heap.length∧Own N 1 s' x (bv l)∧(∀ b ∈ blkV w,s'.heap[b]? = s.heap[b]?)∧f s' = some r0∧r.1 = r0.1∧r.2.heap.length = r0.2.heap.length:=by
  have hB : ∀ b,(BN [x,w]).contains b = true ↔ (B2 x = some b ∨ b ∈ blkV w):=fun b=>by
    rw [show BN [x,w] = blkV x ++ (blkV w ++ []) from rfl,List.append_nil,List.contains_iff_mem,List.mem_append]
    rcases ho with ⟨rfl,_⟩ | ⟨c,len,rfl,_⟩
    · simp [blkV,B2]
    · simp only [blkV,B2,List.mem_cons,List.not_mem_nil,or_false,Option.some.injEq]
      constructor
      · rintro (h | h)
        · exact .inl h.symm
        · exact .inr h
      · rintro (h | h)
        · exact .inl h.symm
        · exact .inr h
  generalize BN [x,w] = B at *
  have hxN : ∀ b,B2 x = some b→N ≤ b:=fun b hb=>(ho.blk b hb).1
  have ho1 : Own N 1 (⟨Er B 0 s.heap⟩ : St) x (bv l):=by
    rcases ho with h | ⟨c,len,rfl,h1,h2,h3,h4⟩
    · exact .inl h
    · refine .inr ⟨c,len,rfl,h1,?_,h3,h4⟩
      have hc : B.contains c = true:=(hB c).2 (.inl rfl)
      simp only
      rw [HZ,Nat.zero_add,if_pos hc,h2]
      rfl
  have hw1 : ∀ b ∈ blkV w,(⟨Er B 0 s.heap⟩ : St).heap[b]? = s.heap[b]?:=fun b hb=>by
    have hc : B.contains b = true:=(hB b).2 (.inr hb)
    simp only
    rw [HZ,Nat.zero_add,if_pos hc]
    cases s.heap[b]? with
    | none=>rfl
    | some X=>cases X <;> rfl
  obtain ⟨r,g1,g2,g3,g4⟩:=hf _ ho1 (by simp only; rw [BZ]; exact hN) hw1
  have hlen : s.heap.length ≤ r.2.heap.length:=by
    have:=g3.1
    simp only at this
    rwa [BZ] at this
  simp only [g1,Option.bind_some]
  have hc : (B.all (fun b=>!([] : List Nat).contains b) && Nat.ble s.heap.length r.2.heap.length && Hs [] s.heap.length r.2.heap.length) = true:=by
    simp only [Bool.and_eq_true,List.all_eq_true,Nat.ble_eq,Hs,List.all_nil,and_true]
    exact ⟨fun b _=>rfl,hlen⟩
  have g4' : B2 r.1 = B2 x ∨ ∀ c,B2 r.1 = some c→s.heap.length ≤ c:=by
    rcases g4 with h | h
    · exact .inl h
    · exact .inr fun c hc=>by have:=h c hc; simp only at this; rwa [BZ] at this
  refine ⟨(r.1,⟨FT B r.2.heap 0 s.heap ++ r.2.heap.drop s.heap.length⟩),by unfold appR; rw [if_pos hc],⟨?_,⟨by simp [AY],fun c hc hne=>?_⟩,g4'⟩,_,r,BZ,ho1,hw1,g1,rfl,by simp only [List.length_append,AY,List.length_drop]; omega⟩
  · rcases g2 with h | ⟨c,len,e,h1,h2,h3,h4⟩
    · exact .inl h
    · refine .inr ⟨c,len,e,h1,?_,h3,h4⟩
      simp only
      by_cases hcs : c < s.heap.length
      · rw [List.getElem?_append_left (by rw [AY]; exact hcs),E8,Nat.zero_add,List.getElem?_eq_getElem hcs,Option.map_some]
        have : B.contains c = true:=(hB c).2 (.inl (by
          have hb : B2 r.1 = some c:=by rw [e]; rfl
          rcases g4' with h | h
          · rw [← h]; exact hb
          · exact absurd (h c hb) (by omega)))
        rw [if_pos this,h2,Option.getD_some]
      · rw [List.getElem?_append_right (by rw [AY]; omega),AY,List.getElem?_drop,show s.heap.length + (c - s.heap.length) = c by omega]
        exact h2
  · simp only
    rw [List.getElem?_append_left (by rw [AY]; exact hc),E8,Nat.zero_add,List.getElem?_eq_getElem hc,Option.map_some]
    by_cases hb : B.contains c = true
    · rw [if_pos hb]
      rcases (hB c).1 hb with h | h
      · exact absurd h hne
      · have h1:=hw1 c h
        have h2:=g3.2 c (by simp only; rw [BZ]; exact hc) hne
        rw [h2,h1,List.getElem?_eq_getElem hc,Option.getD_some]
    · rw [if_neg hb]
theorem IP {α : Type} {K : List Nat} {s : St} {v : α} : Bz K s (v,(⟨frzK K 0 s.heap⟩ : St)) = some (v,s):=by
  unfold Bz
  have : Hs K s.heap.length (⟨frzK K 0 s.heap⟩ : St).heap.length = true:=by
    simp only [Hs,List.all_eq_true,Bool.or_eq_true,decide_eq_true_eq,Bk]
    intro x _
    omega
  rw [if_pos this]
  unfold Dp
  simp only
  rw [List.drop_eq_nil_of_le (by rw [Bk]; exact Nat.le_refl _),List.append_nil]
def ElsA {α : Type} (N : Nat) (s1 : St) (x : Value) (n : Nat) (ag : Bool) (v : Value) (l : List α) (Rel : α→List Value→Prop) : Prop :=
  (∀ ty t,AG (.slice ty) v t = some (.int .i64 ((l.length : Nat) : Int)))∧∀ (i : Nat) (hi : i < l.length),∃ p u cs,Az n v (.int .i64 (i : Int)) = some p∧Nq ag u cs∧Rel l[i] cs∧∀ m r,App N s1 x m r→Aj ag n p r.2 = some u
theorem NC {α : Type} {C : NCod α} {B N n : Nat} {ag : Bool} {s0 s1 : St} {x v : Value} {l : List α} {m0 : BL} (h : By C B l s0 v) (hlo : s0.heap.length = N) (hx : Ext N s0 s1) (ho : Own N 1 s1 x (bv m0)) (hn : n = C.n) (hag : ag = true ∨ n = 1) : ElsA N s1 x n ag v l fun a cs=>C.rel a s0 cs:=by
  refine ⟨fun ty t=>A9 h ty t,fun i hi=>?_⟩
  obtain ⟨p,u,cs,h1,h2,_,h3,h4⟩:=Pg h hi hn hag
  subst hlo
  exact ⟨p,u,cs,h1,h3,h4,fun m r hr=>ZL (hx.trans (hr.ext ho hx.1)) h2⟩
theorem ZdJ {N : Nat} {s : St} {x v : Value} {l m : List UInt8} (h : Own N 1 s x (bv l)) (hv : bytesOf v s = some m) (hm : m ≠ []) (hb : l.length + m.length ≤ 140737488355328) : ∃ t,AD 1 1 x v s = some (.slice (some ⟨s.heap.length,0,none⟩) (l.length + m.length) (l.length + m.length),t)∧t.heap.length = s.heap.length + 1:=by
  have hpos : 0 < m.length:=List.length_pos_iff.2 hm
  unfold AD
  rw [if_pos (by decide)]
  simp only [IN hv,Hf hv,Option.bind_some]
  rcases h with ⟨rfl,h2⟩ | ⟨b,len,rfl,h1,h2,h3,h4⟩
  · have hl : l = []:=V1 (m:=[]) h2
    subst hl
    simp only
    rw [if_pos (show NO m.length 1 from .inl (by simp only [List.length_nil] at hb; omega)),if_neg (by omega)]
    exact ⟨s.push (.row 1 (bv m) .act),by simp,AL⟩
  · rw [A3,Nat.mul_one] at h3
    simp only
    rw [if_pos (show NO (len + m.length) 1 from .inl (by omega)),if_neg (by omega),h2]
    simp only
    rw [if_pos ⟨trivial,trivial,by rw [A3]; omega⟩]
    refine ⟨(s.putB b (.row 1 (bv l) .dead)).push (.row 1 (bv l ++ bv m) .act),by rw [h3],?_⟩
    rw [AL]
    simp [St.putB]
theorem CA {m : List UInt8} {s : St} : (Af m s).2.heap.length = s.heap.length + 1:=AL
def AppK (N : Nat) (s : St) (x : Value) (m : List UInt8) (k : Nat) (r : Value × St) : Prop :=
  App N s x m r∧r.2.heap.length = s.heap.length + k∧(k = 0→r.1 = x)∧(k ≠ 0→r.1 = .slice (some ⟨s.heap.length + k - 1,0,none⟩) m.length m.length)
theorem AppK.start {N : Nat} {s : St} {x : Value} {l : List UInt8} (h : Own N 1 s x (bv l)) : AppK N s x l 0 (x,s):=⟨.start h,rfl,fun _=>rfl,fun h=>absurd rfl h⟩
theorem AppK.trans {N : Nat} {s : St} {x : Value} {m m2 : List UInt8} {k k2 : Nat} {r r2 : Value × St} (h : AppK N s x m k r) (g : AppK N r.2 r.1 m2 k2 r2) (hk : k2 ≠ 0) : AppK N s x m2 (k + k2) r2:=by
  refine ⟨h.1.trans g.1,by rw [g.2.1,h.2.1]; omega,fun e=>absurd (show k2 = 0 by omega) hk,fun _=>?_⟩
  rw [g.2.2.2 hk,h.2.1]
  congr 3
  omega
theorem AppK.push {N : Nat} {s : St} {x : Value} {m : List UInt8} {r : Value × St} {B : Blk} {k : Nat} (h : AppK N (s.push B) x m k r) (hk : k ≠ 0) : AppK N s x m (k + 1) r:=by
  refine ⟨h.1.push,by rw [h.2.1,AL]; omega,fun e=>by omega,fun _=>?_⟩
  rw [h.2.2.2 hk,AL]
  congr 3
  omega
theorem AppK.det {N : Nat} {s s' : St} {x : Value} {m : List UInt8} {r r' : Value × St} {k : Nat} (h : AppK N s x m k r) (g : AppK N s' x m k r') (he : s'.heap.length = s.heap.length) : r'.1 = r.1∧r'.2.heap.length = r.2.heap.length:=by
  refine ⟨?_,by rw [h.2.1,g.2.1,he]⟩
  by_cases hk : k = 0
  · rw [h.2.2.1 hk,g.2.2.1 hk]
  · rw [h.2.2.2 hk,g.2.2.2 hk,he]
theorem Q5 {N : Nat} {s : St} {x v : Value} {l m : List UInt8} (h : Own N 1 s x (bv l)) (hN : N ≤ s.heap.length) (hv : bytesOf v s = some m) (hm : m ≠ []) (hb : l.length + m.length ≤ 140737488355328) : ∃ r,AD 1 1 x v s = some r∧AppK N s x (l ++ m) 1 r:=by
  obtain ⟨r,h1,h2⟩:=Ue h hN hv hb
  obtain ⟨t,h3,h4⟩:=ZdJ h hv hm hb
  obtain rfl:=Option.some.inj (h1.symm.trans h3)
  exact ⟨_,h1,h2,h4,fun e=>by omega,fun _=>by rw [List.length_append]; rfl⟩
theorem Eo {N : Nat} {s : St} {x : Value} {l m : List UInt8} (h : Own N 1 s x (bv l)) (hN : N ≤ s.heap.length) (hm : m ≠ []) (hb : l.length + m.length ≤ 140737488355328) : ∃ r,AD 1 1 x (Af m s).1 (Af m s).2 = some r∧AppK N s x (l ++ m) 2 r:=by
  have h1 : Own N 1 (Af m s).2 x (bv l):=EE h
  obtain ⟨r,g1,g2⟩:=Q5 h1 (Nat.le_trans hN (AZ (N:=s.heap.length) (Nat.le_refl _)).1) Bb hm hb
  exact ⟨r,g1,g2.push (by decide)⟩
theorem LQ {N : Nat} {s : St} {x w : Value} {l m : List UInt8} {k : Nat} {f : St→Option (Value × St)} (ho : Own N 1 s x (bv l)) (hN : N ≤ s.heap.length) (hf : ∀ s',Own N 1 s' x (bv l)→N ≤ s'.heap.length→(∀ b ∈ blkV w,s'.heap[b]? = s.heap[b]?)→∃ r,f s' = some r∧AppK N s' x m k r) :
    ∃ r,((f (⟨Er (BN [x,w]) 0 s.heap⟩ : St)).bind fun r=>some (r.1,r.2)).bind (appR (BN [x,w]) [] s) = some r∧AppK N s x m k r:=by
  obtain ⟨r,h1,h2,s',r0,e1,o1,o2,e2,e3,e4⟩:=ZM ho hN fun s' a b c=>by
    obtain ⟨r,g1,g2⟩:=hf s' a b c
    exact ⟨r,g1,g2.1⟩
  obtain ⟨r1,g1,g2⟩:=hf s' o1 (by omega) o2
  obtain rfl:=Option.some.inj (g1.symm.trans e2)
  refine ⟨r,h1,h2,by rw [e4,g2.2.1,e1],fun e=>by rw [e3,g2.2.2.1 e],fun e=>by rw [e3,g2.2.2.2 e,e1]⟩
theorem ZdK {v : Value} {c : Nat} (h : B2 v = some c) : c ∈ blkV v:=by
  unfold B2 at h
  split at h
  · cases h
    simp [blkV]
  · cases h
theorem Uf {n : Nat} {v : Value} {s t : St} {cs : List Value} (h : cellsOf n v s = some cs) (hb : ∀ b ∈ blkV v,t.heap[b]? = s.heap[b]?) : cellsOf n v t = some cs:=by
  unfold cellsOf at h ⊢
  split at h
  · exact h
  · rename_i b o len cap
    have:=hb b (by simp [blkV])
    unfold Ab.readN Ab.readRow at h ⊢
    rw [this]
    exact h
  · cases h
theorem XI {v : Value} {s t : St} {m : List UInt8} (h : bytesOf v s = some m) (hb : ∀ b ∈ blkV v,t.heap[b]? = s.heap[b]?) : bytesOf v t = some m:=by
  unfold bytesOf at h ⊢
  simp only [Option.bind_eq_some_iff] at h ⊢
  obtain ⟨cs,h1,h2⟩:=h
  exact ⟨cs,Uf h1 hb,h2⟩
theorem ZbH {α : Type} {C : Cod α} {v : Value} {s t : St} {l : List α} (h : Bj C v s = some l) (hb : ∀ b ∈ blkV v,t.heap[b]? = s.heap[b]?) : Bj C v t = some l:=(Ct _).2 (Uf ((Ct _).1 h) hb)
theorem Vx {N : Nat} {s : St} {x v : Value} {l m : List UInt8} (h : Own N 1 s x (bv l)) (hN : N ≤ s.heap.length) (hv : bytesOf v s = some m) (hm : m ≠ []) (hb : l.length + m.length ≤ 140737488355328) :
    ∃ r,((AD 1 1 x v (⟨Er (BN [x,v]) 0 s.heap⟩ : St)).bind fun r=>some (r.1,r.2)).bind (appR (BN [x,v]) [] s) = some r∧AppK N s x (l ++ m) 1 r :=
  LQ (f:=fun s'=>AD 1 1 x v s') h hN fun s' h1 h2 h3=>Q5 h1 h2 (XI hv h3) hm hb
theorem C9 {K : List Nat} {s : St} {v : Value} {n : Nat} {cs : List Value} (hK : ∀ b,K.contains b = true→b < s.heap.length) : Bz K s (v,(⟨frzK K 0 s.heap⟩ : St).push (.row n cs .act)) = some (v,s.push (.row n cs .act)):=by
  unfold Bz
  have h1 : (frzK K 0 s.heap).length = s.heap.length:=Bk
  have h2 : Hs K s.heap.length ((⟨frzK K 0 s.heap⟩ : St).push (.row n cs .act)).heap.length = true:=by
    simp only [Hs,List.all_eq_true,Bool.or_eq_true,decide_eq_true_eq]
    intro x hx
    exact .inl (hK x (by simpa using hx))
  simp only [if_pos h2]
  simp [Dp,St.push,h1]
theorem ZdL {K : List Nat} {s : St} : (⟨frzK K 0 s.heap⟩ : St).heap.length = s.heap.length:=Bk
theorem J5 {K : List Nat} {s : St} {m : List UInt8} (hK : ∀ b,K.contains b = true→b < s.heap.length) : Bz K s ((Af m (⟨frzK K 0 s.heap⟩ : St)).1,(Af m (⟨frzK K 0 s.heap⟩ : St)).2) = some (Af m s):=by
  have:=C9 (v:=(Af m s).1) (n:=1) (cs:=bv m) hK
  unfold Af at this ⊢
  rw [ZdL]
  exact this
theorem ND {N n : Nat} {s : St} {x : Value} {cs : List Value} (h : Own N n s x cs) : ∀ b ∈ blkV x,b < s.heap.length:=by
  rcases h with ⟨rfl,_⟩ | ⟨c,len,rfl,h1,h2,_⟩
  · intro b hb; cases hb
  · intro b hb
    simp only [blkV,List.mem_cons,List.not_mem_nil,or_false] at hb
    rw [hb]
    exact (List.getElem?_eq_some_iff.1 h2).1
theorem NE {n : Nat} {vs : List Value} (h : ∀ v ∈ vs,∀ b ∈ blkV v,b < n) : ∀ b,(BN vs).contains b = true→b < n:=by
  induction vs with
  | nil=>intro b hb; cases hb
  | cons v vs ih =>
    intro b hb
    rw [show BN (v :: vs) = blkV v ++ BN vs from rfl,List.contains_iff_mem,List.mem_append] at hb
    rcases hb with hb | hb
    · exact h v (List.mem_cons_self ..) b hb
    · exact ih (fun u hu=>h u (List.mem_cons_of_mem _ hu)) b (List.contains_iff_mem.2 hb)
theorem Ug {n : Nat} {A B : List Nat} (ha : ∀ b,A.contains b = true→b < n) (hb : ∀ b,B.contains b = true→b < n) : ∀ b,(A ++ B).contains b = true→b < n:=by
  intro b h
  rw [List.contains_iff_mem,List.mem_append] at h
  rcases h with h | h
  · exact ha b (List.contains_iff_mem.2 h)
  · exact hb b (List.contains_iff_mem.2 h)
theorem K4 {n : Nat} : ∀ b,([] : List Nat).contains b = true→b < n:=fun b h=>by cases h
end Go.Proofs.YtmbhnbladmpnoaaGreat.Ab

/- Texts in lists. -/
namespace Go.Proofs.YtmbhnbladmpnoaaGreat.Ab
open Go
def strC : Cod BL where
  n:=1
  enc k:=[sv k]
  pos:=by decide
  len _:=rfl
  inj a b h:=by
    simp only [List.cons.injEq,and_true] at h
    exact Pe h
  leaf _:=rfl
theorem ZfH {v : Value} {s : St} {l : List BL} (h : Bj strC v s = some l) {i : Nat} (hi : i < l.length) : ∃ p,Az 1 v (.int .i64 (i : Int)) = some p∧Aj false 1 p s = some (sv l[i]):=by
  obtain ⟨p,h1,q,h2,h3⟩:=GC h hi (j:=0) (c:=sv l[i]) rfl (k:=.i64) (n:=1) rfl
  refine ⟨p,h1,?_⟩
  have : q = p:=by
    unfold Ac at h2
    split at h2
    · cases h2; rfl
    · cases h2
  rw [← this]
  exact h3
end Go.Proofs.YtmbhnbladmpnoaaGreat.Ab

/- Messages are written: bytes,numbers,texts,flags. -/
namespace Go.Proofs.YtmbhnbladmpnoaaGreat.Ab
open Go
set_option maxRecDepth 10000
def bI (n : Int) : UInt8:=UInt8.ofNat (n % 256).toNat
theorem Zcq (n : Int) : (((bI n).toNat : Nat) : Int) = n % 256:=by
  unfold bI
  have h1 : 0 ≤ n % 256:=Int.emod_nonneg _ (by decide)
  have h2 : n % 256 < 256:=Int.emod_lt_of_pos _ (by decide)
  have : (UInt8.ofNat (n % 256).toNat).toNat = (n % 256).toNat:=by
    rw [UInt8.toNat_ofNat']
    omega
  rw [this]
  omega
theorem Wo (n : Int) : IntKind.wrap .u8 n = (((bI n).toNat : Nat) : Int):=by
  rw [Zcq]
  simp [IntKind.wrap,IntKind.signed,IntKind.bits]
theorem ZdM (b : UInt8) (s : St) : As 1 [(.int .u8 0)] 1 [(0,.int .u8 (b.toNat : Int))] s = some (Af [b] s):=rfl
def eN (n : Int) : BL:=enc n.toNat
def ZdN (n : Int) : Prop:=0 ≤ n∧n < 18446744073709551616
theorem ZfI {n : Int} (h : (Lit.int .u64 n).wf = true) : ZdN n:=by
  simp [Lit.wf,IntKind.signed,IntKind.bits,IntKind.min,IntKind.max] at h
  exact ⟨by omega,by omega⟩
theorem ZdO {n : Int} (hn : ZdN n) {s : St} : (run Tryz.prog (libL libT) Ad) 45 [.int .u64 n] s = some (Af (eN n) s):=by
  have:=Ud (n:=n.toNat) (s:=s) (by have:=hn.1; have:=hn.2; omega)
  rwa [Int.toNat_of_nonneg hn.1] at this
theorem Zgo (k : BL) : tB k ≠ []:=by unfold tB; simp [KV]
def tBs (l : List BL) : BL:=l.flatMap tB
theorem Wp (k : BL) (l : List BL) : tBs (k :: l) = tB k ++ tBs l:=rfl
theorem ZN {y : Value} {ks : List BL} (hl : ks.length < 140737488355328) : ∀ (rest : List BL) (i : Nat) (N : Nat) (s : St) (x : Value) (l : List UInt8),ks.drop i = rest→i ≤ ks.length→Own N 1 s x (bv l)→N ≤ s.heap.length→Bj strC y s = some ks→(∀ c,B2 y = some c→c < s.heap.length∧B2 x ≠ some c)→l.length + (tBs rest).length ≤ 140737488300000 →
    ∃ r,AS (Fx.b0 (run Tryz.prog (libL libT) Ad)) [x,y,.int .i64 ((ks.length : Nat) : Int),.int .i64 (i : Int)] s = some (.exit 0,[r.1],r.2)∧AppK N s x (l ++ tBs rest) (2 * rest.length) r:=by
  intro rest
  induction rest with
  | nil =>
    intro i N s x l hi hle ho hN hy hne hb
    have h1 : decide ((i : Int) < ((ks.length : Nat) : Int)) = false:=by
      have:=List.drop_eq_nil_iff.1 hi
      simp; omega
    refine ⟨(x,s),?_,by rw [show tBs [] = [] from rfl,List.append_nil]; exact .start ho⟩
    rw [Ar]
    simp only [Fx.b0,h1,EVs]
  | cons k rest ih =>
    intro i N s x l hi hle ho hN hy hne hb
    obtain ⟨hlt,he,hd⟩:=E1 hi
    have h1 : decide ((i : Int) < ((ks.length : Nat) : Int)) = true:=by simp; omega
    obtain ⟨a,h2,h3⟩:=ZfH hy hlt
    rw [he] at h3
    rw [Wp,List.length_append] at hb
    have hk : k.length ≤ 140737488300000:=by unfold tB at hb; rw [List.length_append] at hb; omega
    obtain ⟨r,g1,g3⟩:=Eo (m:=tB k) ho hN (Zgo k) (by omega)
    have g2:=g3.1
    obtain ⟨r2,f1,f2⟩:=ih (i + 1) N r.2 r.1 (l ++ tB k) hd (by omega) g2.1 (Nat.le_trans hN g2.len) (g2.list hy fun c hc=>(hne c hc).2) (fun c hc=>⟨Nat.lt_of_lt_of_le (hne c hc).1 g2.len,g2.ne (hne c hc).1 (hne c hc).2⟩) (by rw [List.length_append]; omega)
    refine ⟨r2,?_,?_⟩
    · rw [Ar]
      simp only [Fx.b0,h1,h2,h3,O3,ZdI hk,g1,Ej (show i < 140737488355328 by omega),EVs]
      exact f1
    · rw [Wp,← List.append_assoc]
      cases rest with
      | nil =>
        obtain ⟨a1,a2,a3,_⟩:=f2
        refine ⟨g2.trans a1,by rw [a2,g3.2.1]; rfl,fun e=>by simp at e,fun _=>?_⟩
        rw [a3 rfl,g3.2.2.2 (by decide)]
        simp [show tBs [] = [] from rfl]
      | cons k2 rest =>
        have:=g3.trans f2 (by simp)
        rwa [show 2 + 2 * (k2 :: rest).length = 2 * (k :: k2 :: rest).length by simp only [List.length_cons]; omega] at this
theorem Wq {N : Nat} {s : St} {x y : Value} {l : List UInt8} {ks : List BL} (ho : Own N 1 s x (bv l)) (hN : N ≤ s.heap.length) (hy : Bj strC y s = some ks) (hl : ks.length < 140737488355328) (hne : ∀ c,B2 y = some c→c < s.heap.length∧B2 x ≠ some c) (hb : l.length + (tBs ks).length ≤ 140737488300000) :
    ∃ r,(run Tryz.prog (libL libT) Ad) 87 [x,y] s = some r∧AppK N s x (l ++ tBs ks) (2 * ks.length) r:=by
  obtain ⟨r,f1,f2⟩:=ZN hl ks 0 N s x l rfl (Nat.zero_le _) ho hN hy hne hb
  refine ⟨r,Tw rfl ?_,f2⟩
  rw [show ((0 : Nat) : Int) = 0 from rfl] at f1
  unfold Fx
  simp only [Dd hy,f1,El f2.1.1,EVs]
theorem NF {ks : List BL} {s : St} {n : Nat} (hn : ks.length = n) : Bj strC (.slice (some ⟨s.heap.length,0,none⟩) n n) (s.push (.row 1 (ks.map sv) .act)) = some ks:=by
  subst hn
  refine (Ct _).2 ?_
  have he : encL strC ks = ks.map sv:=by
    induction ks with
    | nil=>rfl
    | cons k ks ih=>rw [Eu,ih]; rfl
  have hn1 : strC.n = 1:=rfl
  simp only [cellsOf,Nat.le_refl,if_true,readN,Ab.readRow,AC,Option.bind_some,hn1,Nat.mul_one,Nat.zero_add,List.length_map]
  rw [he,List.drop_zero,List.take_of_length_le (by simp)]
theorem K5 {N : Nat} {s : St} {x : Value} {l : List UInt8} {ks : List BL} {n : Nat} (hn : ks.length = n) (h10 : n ≤ 10) (ho : Own N 1 s x (bv l)) (hN : N ≤ s.heap.length) (hb : l.length + (tBs ks).length ≤ 140737488300000) :
    ∃ r,(run Tryz.prog (libL libT) Ad) 87 [x,.slice (some ⟨s.heap.length,0,none⟩) n n] (s.push (.row 1 (ks.map sv) .act)) = some r∧AppK N (s.push (.row 1 (ks.map sv) .act)) x (l ++ tBs ks) (2 * n) r:=by
  have ho1 : Own N 1 (s.push (.row 1 (ks.map sv) .act)) x (bv l):=EE ho
  obtain ⟨r,g1,g2⟩:=Wq ho1 (by rw [AL]; omega) (NF hn) (by omega) (fun c hc=>by
    have hc' : s.heap.length = c:=Option.some.inj hc
    subst hc'
    exact ⟨by rw [AL]; omega,fun e=>by have:=(ho.blk _ e).2; omega⟩) hb
  subst hn
  exact ⟨r,g1,g2⟩
theorem Wr {N : Nat} {s : St} {x : Value} {l : List UInt8} {ks : List BL} {n : Nat} (hn : ks.length = n) (h10 : n ≤ 10) (ho : Own N 1 s x (bv l)) (hN : N ≤ s.heap.length) (hb : l.length + (tBs ks).length ≤ 140737488300000) :
    ∃ r,(run Tryz.prog (libL libT) Ad) 87 [x,.slice (some ⟨s.heap.length,0,none⟩) n n] (s.push (.row 1 (ks.map sv) .act)) = some r∧App N s x (l ++ tBs ks) r∧(s.push (.row 1 (ks.map sv) .act)).heap.length ≤ r.2.heap.length:=by
  obtain ⟨r,g1,g2⟩:=K5 hn h10 ho hN hb
  exact ⟨r,g1,g2.1.push,g2.1.len⟩
theorem LR {N : Nat} {s : St} {x y : Value} {l : List UInt8} {ks : List BL} {n : Nat} (hn : ks.length = n) (h10 : n ≤ 10) (ho : Own N 1 s x (bv l)) (hN : N ≤ s.heap.length) (hy : Bj strC y s = some ks) (hne : ∀ c,B2 y = some c→c < s.heap.length∧B2 x ≠ some c) (hb : l.length + (tBs ks).length ≤ 140737488300000) :
    ∃ r,(((run Tryz.prog (libL libT) Ad) 87 [x,y] (⟨Er (BN [x,y]) 0 s.heap⟩ : St)).bind fun r=>some (r.1,r.2)).bind (appR (BN [x,y]) [] s) = some r∧AppK N s x (l ++ tBs ks) (2 * n) r:=by
  subst hn
  refine LQ (f:=fun s'=>(run Tryz.prog (libL libT) Ad) 87 [x,y] s') ho hN fun s' h1 h2 h3=>?_
  refine Wq h1 h2 (ZbH hy h3) (by omega) (fun c hc=>⟨?_,(hne c hc).2⟩) hb
  have hc2:=(hne c hc).1
  have h4:=h3 c (ZdK hc)
  rw [List.getElem?_eq_getElem hc2] at h4
  exact (List.getElem?_eq_some_iff.1 h4).1
theorem SM {N : Nat} {s : St} {x : Value} {l : BL} (b : Bool) (ho : Own N 1 s x (bv l)) (hN : N ≤ s.heap.length) (hb : l.length + 1 ≤ 140737488300000) : ∃ r,(run Tryz.prog (libL libT) Ad) 82 [x,.bool b] s = some r∧AppK N s x (l ++ [if b = true then 1 else 0]) 2 r:=by
  cases b with
  | true =>
    obtain ⟨r,g1,g2⟩:=Eo (m:=[1]) ho hN (by simp) (by simp only [List.length_singleton]; omega)
    have hn : As 1 [(.int .u8 0)] 1 [(0,(.int .u8 1))] s = some (Af [1] s):=rfl
    refine ⟨r,Ml rfl ?_,g2⟩
    unfold OO
    simp only [hn,g1,El g2.1.1,EVs]
  | false =>
    obtain ⟨r,g1,g2⟩:=Eo (m:=[0]) ho hN (by simp) (by simp only [List.length_singleton]; omega)
    have hn : As 1 [(.int .u8 0)] 1 [(0,(.int .u8 0))] s = some (Af [0] s):=rfl
    refine ⟨r,Ml rfl ?_,g2⟩
    unfold OO
    simp only [hn,g1,El g2.1.1,EVs]
theorem XJ {N : Nat} {s : St} {x : Value} {l : BL} (b : Bool) (ho : Own N 1 s x (bv l)) (hN : N ≤ s.heap.length) (hb : l.length + 1 ≤ 140737488300000) : ∃ r,(((run Tryz.prog (libL libT) Ad) 82 [x,.bool b] (⟨Er (BN [x,.bool b]) 0 s.heap⟩ : St)).bind fun r=>some (r.1,r.2)).bind (appR (BN [x,.bool b]) [] s) = some r∧AppK N s x (l ++ [if b = true then 1 else 0]) 2 r :=
  LQ (f:=fun s'=>(run Tryz.prog (libL libT) Ad) 82 [x,.bool b] s') ho hN fun s' h1 h2 h3=>SM b h1 h2 hb
section
variable {f ix M C N : Nat} {t : St} {cells : List Value} {x : Value} {l : BL} (hf : (f,ix) ∈ D7) (hM : readRow t M = some cells) (hC : readRow t C = some [fnV f]) (ho : Own N 1 t x (bv l)) (hN : N ≤ t.heap.length)
include hf hM hC ho hN
theorem ZbI {n : Int} (hn : ZdN n) (hi : cells[ix]? = some (.int .u64 n)) (hb : l.length + (eN n).length ≤ 140737488300000) : ∃ r,Ag Tryz.prog (run Tryz.prog (libL libT) Ad) (.func (.func 142) #[] #[.pointer (some ⟨C,0,none⟩)]) [x,mp M] t = some r∧App N t x (l ++ eN n) r:=by
  rw [show (Value.func (.func 142) #[] #[.pointer (some ⟨C,0,none⟩)]) = .func (.func 142) ([] : List Value).toArray [.pointer (some ⟨C,0,none⟩)].toArray from rfl,Cq Sk]
  obtain ⟨r,g1,g2⟩:=PE (m:=eN n) ho hN (by omega)
  refine ⟨r,Sj rfl ?_,g2⟩
  have e : Ah (.pointer (some ⟨M,ix,none⟩)) = some (.pointer (some ⟨M,ix,none⟩)):=rfl
  unfold QS
  simp only [B6 hC,DJ I3 hf,e,Cv hM hi,Ck,ZdO hn,g1,El g2.1,EVs]
theorem XK {n : Int} (hi : cells[ix]? = some (.int .i64 n)) (hb : l.length + 1 ≤ 140737488300000) : ∃ r,Ag Tryz.prog (run Tryz.prog (libL libT) Ad) (.func (.func 146) #[] #[.pointer (some ⟨C,0,none⟩)]) [x,mp M] t = some r∧App N t x (l ++ [bI n]) r:=by
  rw [show (Value.func (.func 146) #[] #[.pointer (some ⟨C,0,none⟩)]) = .func (.func 146) ([] : List Value).toArray [.pointer (some ⟨C,0,none⟩)].toArray from rfl,Cq OY]
  obtain ⟨r,g1,g2⟩:=PE (m:=[bI n]) ho hN (by simp only [List.length_singleton]; omega)
  refine ⟨r,OX rfl ?_,g2⟩
  have e : Ah (.pointer (some ⟨M,ix,none⟩)) = some (.pointer (some ⟨M,ix,none⟩)):=rfl
  unfold Mr
  simp only [B6 hC,DJ I3 hf,e,Cv hM hi,Wo,ZdM,g1,El g2.1,EVs]
end
section
variable {M N : Nat} {t : St} {cells : List Value} {x : Value} {l : BL} (hM : readRow t M = some cells) (ho : Own N 1 t x (bv l)) (hN : N ≤ t.heap.length)
include hM ho hN
theorem ZO {b : Bool} (hi : cells[15]? = some (.bool b)) (hb : l.length + 1 ≤ 140737488300000) : ∃ r,Ag Tryz.prog (run Tryz.prog (libL libT) Ad) (fnV 81) [x,mp M] t = some r∧App N t x (l ++ [if b = true then 1 else 0]) r:=by
  obtain ⟨r,g1,g2⟩:=SM b ho hN hb
  rw [M5]
  refine ⟨r,Qb rfl ?_,g2.1⟩
  have h1 : Ah (mp M) = some (mp M):=rfl
  have h2 : Ac 15 (mp M) = some (.pointer (some ⟨M,15,none⟩)):=by simp [Ac]
  unfold ON
  simp only [h1,h2,Cv hM hi,Jf,g1,El g2.1.1,EVs]
theorem XL {r0 : Rg} (hi : cells[16]? = some (sv r0.1)) (hj : cells[17]? = some (sv r0.2)) (hb : l.length + (tBs [r0.1,r0.2]).length ≤ 140737488300000) : ∃ r,Ag Tryz.prog (run Tryz.prog (libL libT) Ad) (fnV 86) [x,mp M] t = some r∧App N t x (l ++ tBs [r0.1,r0.2]) r:=by
  obtain ⟨r,g1,g2,g3⟩:=Wr (ks:=[r0.1,r0.2]) (n:=2) rfl (by decide) ho hN hb
  rw [M8]
  refine ⟨r,Qh rfl ?_,g2⟩
  have h1 : Ah (mp M) = some (mp M):=rfl
  have h2 : Ac 16 (mp M) = some (.pointer (some ⟨M,16,none⟩)):=by simp [Ac]
  have h3 : Ac 0 (.pointer (some ⟨M,16,none⟩)) = some (.pointer (some ⟨M,16,none⟩)):=rfl
  have h4 : Ac 1 (.pointer (some ⟨M,16,none⟩)) = some (.pointer (some ⟨M,17,none⟩)):=rfl
  have hMf : readRow (frzS t) M = some cells:=by rw [CD]; exact hM
  have hn : As 1 [(.string ⟨#[]⟩)] 2 [(0,sv r0.1),(1,sv r0.2)] t = some (.slice (some ⟨t.heap.length,0,none⟩) 2 2,t.push (.row 1 ([r0.1,r0.2].map sv) .act)):=rfl
  have o1 : ownR t (Value.slice (some ⟨t.heap.length,0,none⟩) 2 2,t.push (.row 1 ([r0.1,r0.2].map sv) .act)) = some (Value.slice (some ⟨t.heap.length,0,none⟩) 2 2,t.push (.row 1 ([r0.1,r0.2].map sv) .act)):=LP (r:=(_,_)) (by simp [St.push])
  unfold OQ
  simp only [h1,h2,h3,h4,Cv hMf hi,Cv hMf hj,hn,o1,Dt,g1,LP g3,El g2.1,EVs]
end
end Go.Proofs.YtmbhnbladmpnoaaGreat.Ab

/- Messages are written: operations,owners,results. -/
namespace Go.Proofs.YtmbhnbladmpnoaaGreat.Ab
open Go
set_option maxRecDepth 10000
def eOpW (o : OpT) : BL:=[bI o.kind] ++ (tBs [o.key,o.val,o.lo,o.hi] ++ [bI o.most])
def eOwW (o : Ow) : BL:=tBs [o.1] ++ [bI o.2]
def ePr (p : Rg) : BL:=tBs [p.1,p.2]
def E3 {α : Type} (f : α→BL) (l : List α) : BL:=enc l.length ++ l.flatMap f
def eRs (r : Rs) : BL:=[if r.1 = true then 1 else 0] ++ (tBs [r.2.1] ++ E3 ePr r.2.2)
theorem ZbJ (a b c d : BL) (s : St) : As 1 [(.string ⟨#[]⟩)] 4 [(0,sv a),(1,sv b),(2,sv c),(3,sv d)] s = some (.slice (some ⟨s.heap.length,0,none⟩) 4 4,s.push (.row 1 ([a,b,c,d].map sv) .act)):=rfl
theorem ZbK (a b : BL) (s : St) : As 1 [(.string ⟨#[]⟩)] 2 [(0,sv a),(1,sv b)] s = some (.slice (some ⟨s.heap.length,0,none⟩) 2 2,s.push (.row 1 ([a,b].map sv) .act)):=rfl
theorem Ws (a : BL) (s : St) : As 1 [(.string ⟨#[]⟩)] 1 [(0,sv a)] s = some (.slice (some ⟨s.heap.length,0,none⟩) 1 1,s.push (.row 1 ([a].map sv) .act)):=rfl
theorem ZdP (b n : Nat) : blkV (.slice (some ⟨b,0,none⟩) n n) = [b]:=rfl
theorem ZP {N n : Nat} {s : St} {x : Value} {l : BL} {B : Blk} (ho : Own N 1 s x (bv l)) : ∀ c,B2 (.slice (some ⟨s.heap.length,0,none⟩) n n) = some c→c < (s.push B).heap.length∧B2 x ≠ some c:=fun c hc=>by
  have hc' : s.heap.length = c:=Option.some.inj hc
  subst hc'
  exact ⟨by rw [AL]; omega,fun e=>by have:=(ho.blk _ e).2; omega⟩
theorem AppK.le {N k : Nat} {s : St} {x : Value} {m : BL} {r : Value × St} (h : AppK N s x m k r) : s.heap.length ≤ r.2.heap.length:=h.1.len
theorem SN {b n : Nat} {s : St} (h : b < s.heap.length) : ∀ c ∈ blkV (.slice (some ⟨b,0,none⟩) n n),c < s.heap.length:=fun c hc=>by
  rw [ZdP] at hc
  simp only [List.mem_cons,List.not_mem_nil,or_false] at hc
  omega
theorem ZfJ {N : Nat} {s : St} {x : Value} {l : BL} (o : OpT) (ho : Own N 1 s x (bv l)) (hN : N ≤ s.heap.length) (hb : l.length + (eOpW o).length ≤ 140737488300000) : ∃ r,(run Tryz.prog (libL libT) Ad) 93 [x,oV o] s = some r∧App N s x (l ++ eOpW o) r:=by
  simp only [eOpW,List.length_append,List.length_singleton] at hb
  have hl1 : (l ++ [bI o.kind]).length = l.length + 1:=by simp
  -- the dry run
  obtain ⟨r4,a1,a2⟩:=Eo (m:=[bI o.kind]) ho hN (by simp) (by simp only [List.length_singleton]; omega)
  have hN4:=Nat.le_trans hN a2.le
  obtain ⟨r10,b1,b2⟩:=K5 (ks:=[o.key,o.val,o.lo,o.hi]) (n:=4) rfl (by decide) a2.1.1 hN4 (by rw [hl1]; omega)
  obtain ⟨r14,c1,c2⟩:=Eo (m:=[bI o.most]) b2.1.1 (Nat.le_trans (by rw [AL]; omega) b2.le) (by simp) (by simp only [List.length_append,List.length_singleton]; omega)
  -- the first byte
  have p1 : Bz [] s ((Af [bI o.kind] (⟨frzK [] 0 s.heap⟩ : St)).1,(Af [bI o.kind] (⟨frzK [] 0 s.heap⟩ : St)).2) = some (Af [bI o.kind] s):=J5 K4
  have hoA : Own N 1 (Af [bI o.kind] s).2 x (bv l):=EE ho
  have hNA : N ≤ (Af [bI o.kind] s).2.heap.length:=by rw [CA]; omega
  obtain ⟨r19,d1,d2⟩:=Vx hoA hNA (Bb (l:=[bI o.kind])) (by simp) (by simp only [List.length_singleton]; omega)
  have d3 : AppK N s x (l ++ [bI o.kind]) 2 r19:=d2.push (by decide)
  obtain ⟨e1,e2⟩:=d3.det a2 rfl
  rw [e1,e2] at b1
  -- the texts
  have k1 : ∀ b,(BN [x,(Af [bI o.kind] s).1]).contains b = true→b < r19.2.heap.length:=NE fun v hv b hb=>by
    simp only [List.mem_cons,List.not_mem_nil,or_false] at hv
    have:=d3.2.1
    rcases hv with rfl | rfl
    · have:=ND ho b hb
      omega
    · have : b < (Af [bI o.kind] s).2.heap.length:=SN (by rw [CA]; omega) b hb
      rw [CA] at this
      omega
  generalize hK1 : BN [x,(Af [bI o.kind] s).1] = K1 at *
  have p2:=C9 (K:=K1 ++ []) (s:=r19.2) (v:=.slice (some ⟨r19.2.heap.length,0,none⟩) 4 4) (n:=1) (cs:=[o.key,o.val,o.lo,o.hi].map sv) (Ug k1 K4)
  have hN19:=Nat.le_trans hN d3.le
  have hoB : Own N 1 (r19.2.push (.row 1 ([o.key,o.val,o.lo,o.hi].map sv) .act)) r19.1 (bv (l ++ [bI o.kind])):=EE d3.1.1
  obtain ⟨r25,f1,f2⟩:=LR (ks:=[o.key,o.val,o.lo,o.hi]) (n:=4) rfl (by decide) hoB (by rw [AL]; omega) (NF (n:=4) rfl) (ZP d3.1.1) (by rw [hl1]; omega)
  have k2 : ∀ b,(BN [r19.1,.slice (some ⟨r19.2.heap.length,0,none⟩) 4 4]).contains b = true→b < r25.2.heap.length:=NE fun v hv b hb=>by
    simp only [List.mem_cons,List.not_mem_nil,or_false] at hv
    have h25:=f2.2.1
    rw [AL] at h25
    rcases hv with rfl | rfl
    · have:=ND d3.1.1 b hb
      omega
    · have : b < r25.2.heap.length:=SN (by omega) b hb
      exact this
  generalize hK2 : BN [r19.1,.slice (some ⟨r19.2.heap.length,0,none⟩) 4 4] = K2 at *
  have p3:=J5 (K:=K1 ++ (K2 ++ [])) (s:=r25.2) (m:=[bI o.most]) (Ug (fun b hb=>Nat.lt_of_lt_of_le (k1 b hb) (by have:=f2.2.1; rw [AL] at this; omega)) (Ug k2 K4))
  have hN25 : N ≤ r25.2.heap.length:=Nat.le_trans hN19 (by have:=f2.2.1; rw [AL] at this; omega)
  obtain ⟨r29,g1,g2⟩:=Eo (m:=[bI o.most]) f2.1.1 hN25 (by simp) (by simp only [List.length_append,List.length_singleton]; omega)
  have o1 : ownR (Af [bI o.most] r25.2).2 (r29.1,r29.2) = some (r29.1,r29.2):=LP (by have:=g2.2.1; rw [CA]; omega)
  refine ⟨r29,OS rfl ?_,?_⟩
  · unfold Mm
    simp only [U7,o_0,o_1,o_2,o_3,o_4,o_5,Wo,ZdM,a1,ZbJ,Dt,b1,c1,p1,d1,hK1,e1,e2,Bk,p2,f1,hK2,p3,g1,o1,El g2.1.1,EVs]
  · have:=(d3.1.trans f2.1.push).trans g2.1
    simpa only [eOpW,List.append_assoc] using this
theorem ZfK {N : Nat} {s : St} {x : Value} {l : BL} (o : Ow) (ho : Own N 1 s x (bv l)) (hN : N ≤ s.heap.length) (hb : l.length + (eOwW o).length ≤ 140737488300000) : ∃ r,(run Tryz.prog (libL libT) Ad) 101 [x,owV o] s = some r∧App N s x (l ++ eOwW o) r:=by
  simp only [eOwW,List.length_append,List.length_singleton] at hb
  -- the dry run
  obtain ⟨r3,a1,a2⟩:=K5 (ks:=[o.1]) (n:=1) rfl (by decide) ho hN (by omega)
  obtain ⟨r7,c1,c2⟩:=Eo (m:=[bI o.2]) a2.1.1 (Nat.le_trans (by rw [AL]; omega) a2.le) (by simp) (by simp only [List.length_append,List.length_singleton]; omega)
  -- the text
  have p2:=C9 (K:=[]) (s:=s) (v:=.slice (some ⟨s.heap.length,0,none⟩) 1 1) (n:=1) (cs:=[o.1].map sv) K4
  have hoB : Own N 1 (s.push (.row 1 ([o.1].map sv) .act)) x (bv l):=EE ho
  obtain ⟨r11,f1,f2⟩:=LR (ks:=[o.1]) (n:=1) rfl (by decide) hoB (by rw [AL]; omega) (NF (n:=1) rfl) (ZP ho) (by omega)
  have k2 : ∀ b,(BN [x,.slice (some ⟨s.heap.length,0,none⟩) 1 1]).contains b = true→b < r11.2.heap.length:=NE fun v hv b hb=>by
    simp only [List.mem_cons,List.not_mem_nil,or_false] at hv
    have h25:=f2.2.1
    rw [AL] at h25
    rcases hv with rfl | rfl
    · have:=ND ho b hb
      omega
    · have : b < r11.2.heap.length:=SN (by omega) b hb
      exact this
  generalize hK2 : BN [x,.slice (some ⟨s.heap.length,0,none⟩) 1 1] = K2 at *
  have p3:=J5 (K:=K2 ++ []) (s:=r11.2) (m:=[bI o.2]) (Ug k2 K4)
  have hN11 : N ≤ r11.2.heap.length:=Nat.le_trans hN (by have:=f2.2.1; rw [AL] at this; omega)
  obtain ⟨r15,g1,g2⟩:=Eo (m:=[bI o.2]) f2.1.1 hN11 (by simp) (by simp only [List.length_append,List.length_singleton]; omega)
  have o1 : ownR (Af [bI o.2] r11.2).2 (r15.1,r15.2) = some (r15.1,r15.2):=LP (by have:=g2.2.1; rw [CA]; omega)
  refine ⟨r15,KJ rfl ?_,?_⟩
  · unfold Ic
    simp only [Zgb,w_0,w_1,Wo,ZdM,Ws,Dt,a1,c1,Bk,p2,f1,hK2,p3,g1,o1,El g2.1.1,EVs]
  · have:=f2.1.push.trans g2.1
    simpa only [eOwW,List.append_assoc] using this
def rsV (f : Bool) (v : BL) (vp : Value) : Value:=.agg #[.bool f,sv v,vp]
theorem ZfL {f : Bool} {v : BL} {vp : Value} (h : AI vp = true) : lbox (rsV f v vp) = some (rsV f v vp):=by
  have e : Ao (rsV f v vp) = [.bool f,sv v,vp]:=rfl
  have hs : AI (sv v) = true:=rfl
  have hb : AI (.bool f) = true:=rfl
  unfold lbox
  rw [e,if_pos (by simp [h,hs,hb])]
  rfl
theorem rs_0 (f : Bool) (v : BL) (vp : Value) : Ap false 1 lptr (rsV f v vp) = some (.bool f):=rfl
theorem rs_1 (f : Bool) (v : BL) (vp : Value) : Ap false 1 (.pointer (some ⟨0,1,none⟩)) (rsV f v vp) = some (sv v):=rfl
theorem rs_2 (f : Bool) (v : BL) (vp : Value) : Ap false 1 (.pointer (some ⟨0,2,none⟩)) (rsV f v vp) = some vp:=rfl
theorem ZfM (x : Rg) : AO 2 lptr (rv x) (.agg #[(.string ⟨#[]⟩),(.string ⟨#[]⟩)]) = some (rv x):=rfl
theorem ZQ {N : Nat} {s1 : St} {x0 vp : Value} {ps : List Rg} (he : ElsA N s1 x0 2 true vp ps fun p cs=>cs = prC.enc p) (hN : N ≤ s1.heap.length) (hl : ps.length < 140737488355328) : ∀ (rest : List Rg) (i : Nat) (r : Value × St) (l : BL),ps.drop i = rest→i ≤ ps.length→App N s1 x0 l r→l.length + (rest.flatMap ePr).length ≤ 140737488300000 →
    ∃ r2,AS (BV.b0 (run Tryz.prog (libL libT) Ad)) [r.1,vp,.int .i64 ((ps.length : Nat) : Int),.int .i64 (i : Int)] r.2 = some (.exit 0,[r2.1],r2.2)∧App N s1 x0 (l ++ rest.flatMap ePr) r2:=by
  intro rest
  induction rest with
  | nil =>
    intro i r l hi hle ho hb
    have h1 : decide ((i : Int) < ((ps.length : Nat) : Int)) = false:=by
      have:=List.drop_eq_nil_iff.1 hi
      simp; omega
    refine ⟨r,?_,by rw [List.flatMap_nil,List.append_nil]; exact ho⟩
    rw [Ar]
    simp only [BV.b0,h1,EVs]
  | cons p rest ih =>
    intro i r l hi hle ho hb
    obtain ⟨hlt,hp,hd⟩:=E1 hi
    have h1 : decide ((i : Int) < ((ps.length : Nat) : Int)) = true:=by simp; omega
    obtain ⟨a,u,cs,h2,h3,h4,h5⟩:=he.2 i hlt
    rw [hp] at h4
    subst h4
    have h3 : u = rv p:=h3
    subst h3
    have h6:=h5 l r ho
    rw [List.flatMap_cons,List.length_append] at hb
    have hN2 : N ≤ r.2.heap.length:=Nat.le_trans hN ho.len
    obtain ⟨r2,g1,g2,_⟩:=Wr (ks:=[p.1,p.2]) (n:=2) rfl (by decide) ho.1 hN2 (by unfold ePr at hb; omega)
    obtain ⟨r3,f1,f2⟩:=ih (i + 1) r2 (l ++ ePr p) hd (by omega) (ho.trans g2) (by rw [List.length_append]; omega)
    refine ⟨r3,?_,by rw [List.flatMap_cons,← List.append_assoc]; exact f2⟩
    rw [Ar]
    simp only [BV.b0,h1,h2,h6,ZfM,ld_0,ld_1,ZbK,Dt,g1,Ej (show i < 140737488355328 by omega),EVs]
    exact f1
theorem ZdQ {N : Nat} {s0 s : St} {x vp : Value} {l : BL} (f : Bool) (v : BL) (ps : List Rg) {B : Nat} (hp : By (.ofC prC fun _=>True) B ps s0 vp) (hl : ps.length < 140737488355328) (hN0 : s0.heap.length = N) (hx : Ext N s0 s) (ho : Own N 1 s x (bv l)) (hb : l.length + (eRs (f,v,ps)).length ≤ 140737488300000) : ∃ r,(run Tryz.prog (libL libT) Ad) 97 [x,rsV f v vp] s = some r∧App N s x (l ++ eRs (f,v,ps)) r:=by
  simp only [eRs,E3,List.length_append,List.length_singleton] at hb
  have hN : N ≤ s.heap.length:=hN0 ▸ hx.1
  have hlen : ∀ ty t,AG (.slice ty) vp t = some (.int .i64 ((ps.length : Nat) : Int)):=A9 hp
  have hw : IntKind.wrap .u64 ((ps.length : Nat) : Int) = ((ps.length : Nat) : Int):=Tl rfl (Nat.lt_trans hl (by decide))
  have hl1 : ∀ c : UInt8,(l ++ [c]).length = l.length + 1:=fun c=>by simp
  -- the dry run
  obtain ⟨r2,a1,a2⟩:=SM f ho hN (by omega)
  have hN2:=Nat.le_trans hN a2.le
  obtain ⟨r5,b1,b2⟩:=K5 (ks:=[v]) (n:=1) rfl (by decide) a2.1.1 hN2 (by rw [hl1]; omega)
  obtain ⟨r10,c1,c2⟩:=Eo (m:=enc ps.length) b2.1.1 (Nat.le_trans (by rw [AL]; omega) b2.le) KV (by simp only [List.length_append,List.length_singleton]; omega)
  -- the flag
  obtain ⟨r13,d1,d2⟩:=XJ f ho hN (by omega)
  obtain ⟨e1,e2⟩:=d2.det a2 rfl
  rw [e1,e2] at b1
  have k1 : ∀ b,(BN [x,.bool f]).contains b = true→b < r13.2.heap.length:=NE fun v hv b hb=>by
    simp only [List.mem_cons,List.not_mem_nil,or_false] at hv
    have:=d2.2.1
    rcases hv with rfl | rfl
    · have:=ND ho b hb
      omega
    · cases hb
  generalize hK1 : BN [x,.bool f] = K1 at *
  -- the text
  have p2:=C9 (K:=K1 ++ []) (s:=r13.2) (v:=.slice (some ⟨r13.2.heap.length,0,none⟩) 1 1) (n:=1) (cs:=[v].map sv) (Ug k1 K4)
  have hN13:=Nat.le_trans hN d2.le
  have hoB : Own N 1 (r13.2.push (.row 1 ([v].map sv) .act)) r13.1 (bv (l ++ [if f = true then 1 else 0])):=EE d2.1.1
  obtain ⟨r16,f1,f2⟩:=LR (ks:=[v]) (n:=1) rfl (by decide) hoB (by rw [AL]; omega) (NF (n:=1) rfl) (ZP d2.1.1) (by rw [hl1]; omega)
  generalize hK2 : BN [r13.1,.slice (some ⟨r13.2.heap.length,0,none⟩) 1 1] = K2 at *
  have hN16 : N ≤ r16.2.heap.length:=Nat.le_trans hN13 (by have:=f2.2.1; rw [AL] at this; omega)
  obtain ⟨r21,g1,g2⟩:=Eo (m:=enc ps.length) f2.1.1 hN16 KV (by simp only [List.length_append,List.length_singleton]; omega)
  have o0 : ownR r16.2 ((Af (enc ps.length) r16.2).1,(Af (enc ps.length) r16.2).2) = some (Af (enc ps.length) r16.2):=LP (r:=Af (enc ps.length) r16.2) (by rw [CA]; omega)
  have o1 : ownR (Af (enc ps.length) r16.2).2 (r21.1,r21.2) = some (r21.1,r21.2):=LP (by have:=g2.2.1; rw [CA]; omega)
  have h3 : App N s x (l ++ [if f = true then 1 else 0] ++ tBs [v] ++ enc ps.length) r21:=(d2.1.trans f2.1.push).trans g2.1
  have hE : ElsA N r21.2 r21.1 2 true vp ps fun p cs=>cs = prC.enc p:=by
    have:=NC (x:=r21.1) hp hN0 (hx.trans (h3.ext ho hN)) g2.1.1 rfl (.inl rfl)
    refine ⟨this.1,fun i hi=>?_⟩
    obtain ⟨p,u,cs,q1,q2,q3,q4⟩:=this.2 i hi
    exact ⟨p,u,cs,q1,q2,q3.1,q4⟩
  obtain ⟨r33,m1,m2⟩:=ZQ hE (Nat.le_trans hN h3.len) hl ps 0 (r21.1,r21.2) _ rfl (Nat.zero_le _) (.start g2.1.1) (by simp only [List.length_append,List.length_singleton]; omega)
  rw [show ((0 : Nat) : Int) = 0 from rfl] at m1
  have hfin:=h3.trans m2
  refine ⟨r33,JS rfl ?_,?_⟩
  · unfold BV
    simp only [ZfL (Ek hp),rs_0,rs_1,rs_2,Jf,a1,Ws,Dt,b1,hlen,hw,Ck,Ud (show ps.length < 18446744073709551616 by omega),c1,d1,hK1,e1,e2,Bk,p2,f1,hK2,IP,o0,g1,o1,m1,El m2.1,EVs]
  · simpa only [eRs,E3,List.append_assoc] using hfin
end Go.Proofs.YtmbhnbladmpnoaaGreat.Ab

/- Messages are written: lists; all fields. -/
namespace Go.Proofs.YtmbhnbladmpnoaaGreat.Ab
open Go
set_option maxRecDepth 10000
theorem ZdR {n : Nat} {cs z : List Value} (h : cs.length = n) (hl : cs.all AI = true) (hz : z.length = n) : AO n lptr (.agg cs.toArray) (.agg z.toArray) = some (.agg cs.toArray):=by
  have hc:=(Nq.cells (ag:=true) (u:=.agg cs.toArray) rfl hl).1
  subst h
  unfold AO lptr
  simp only [hc,hl,List.size_toArray,Nat.zero_add,hz,Nat.le_refl,and_self,if_true]
  congr 2
  have : AE z 0 cs = cs:=by
    unfold AE
    simp only [List.take_zero,List.nil_append,Nat.zero_add]
    rw [List.drop_eq_nil_of_le (by omega),List.append_nil]
  simp [this]
theorem Zgp {cs : List Value} (h : cs.length = 6) (hl : cs.all AI = true) (a b c d e f : Value) : AO 6 lptr (.agg cs.toArray) (.agg #[a,b,c,d,e,f]) = some (.agg cs.toArray):=ZdR h hl rfl
theorem Zgq {cs : List Value} (h : cs.length = 3) (hl : cs.all AI = true) (a b c : Value) : AO 3 lptr (.agg cs.toArray) (.agg #[a,b,c]) = some (.agg cs.toArray):=ZdR h hl rfl
theorem Zgr {cs : List Value} (h : cs.length = 2) (hl : cs.all AI = true) (a b : Value) : AO 2 lptr (.agg cs.toArray) (.agg #[a,b]) = some (.agg cs.toArray):=ZdR h hl rfl
theorem ZdS {n : Nat} {cs : List Value} (h : cs.length = n) : Ap true n lptr (.agg cs.toArray) = some (.agg cs.toArray):=by
  subst h
  unfold Ap lptr
  simp
section
variable {α : Type} {C : NCod α} {B : Nat} {aL : List α} {t0 : St} {y : Value} {f : α→BL} {acc ix wf M K W : Nat} {cells : List Value}
theorem Hk {s1 : St} {x0 : Value} {m0 : BL} (hL : By C B aL t0 y) (h_n : C.n = (6)) (hl : aL.length < 140737488355328) (hlf : ∀ a cs,C.rel a t0 cs→cs.all AI = true)
    (hW : readRow t0 W = some [fnV wf]) (hw : ∀ a cs,C.rel a t0 cs→∀ t x l,Own t0.heap.length 1 t x (bv l)→Ext t0.heap.length t0 t→l.length + (f a).length ≤ 140737488300000→∃ r,Ag Tryz.prog (run Tryz.prog (libL libT) Ad) (fnV wf) [x,.agg cs.toArray] t = some r∧App t0.heap.length t x (l ++ f a) r)
    (ho : Own t0.heap.length 1 s1 x0 (bv m0)) (hx : Ext t0.heap.length t0 s1) : ∀ (rest : List α) (i : Nat) (r : Value × St) (l : BL),aL.drop i = rest→i ≤ aL.length→App t0.heap.length s1 x0 l r→l.length + (rest.flatMap f).length ≤ 140737488300000 →
    ∃ r2,AS (Bw.b0 (run Tryz.prog (libL libT) Ad)) [r.1,.pointer (some ⟨W,0,none⟩),y,.int .i64 ((aL.length : Nat) : Int),.int .i64 (i : Int)] r.2 = some (.exit 0,[r2.1],r2.2)∧App t0.heap.length s1 x0 (l ++ rest.flatMap f) r2:=by
  have he:=NC (ag:=true) hL rfl hx ho h_n.symm (.inl rfl)
  intro rest
  induction rest with
  | nil =>
    intro i r l hi hle ha hb
    have h1 : decide ((i : Int) < ((aL.length : Nat) : Int)) = false:=by
      have:=List.drop_eq_nil_iff.1 hi
      simp; omega
    refine ⟨r,?_,by rw [List.flatMap_nil,List.append_nil]; exact ha⟩
    rw [Ar]
    simp only [Bw.b0,h1,EVs]
  | cons p rest ih =>
    intro i r l hi hle ha hb
    obtain ⟨hlt,hp,hd⟩:=E1 hi
    have h1 : decide ((i : Int) < ((aL.length : Nat) : Int)) = true:=by simp; omega
    obtain ⟨a,u,cs,h2,h3,h4,h5⟩:=he.2 i hlt
    rw [hp] at h4
    have h3 : u = .agg cs.toArray:=h3
    subst h3
    have h6:=h5 l r ha
    have hlen : cs.length = (6):=(C.len h4).trans h_n
    rw [List.flatMap_cons,List.length_append] at hb
    have hx2 : Ext t0.heap.length t0 r.2:=hx.trans (ha.ext ho hx.1)
    have h7 : Aj false 1 (.pointer (some ⟨W,0,none⟩)) r.2 = some (fnV wf):=B6 (BB hx2 hW)
    obtain ⟨r2,g1,g2⟩:=hw p cs h4 r.2 r.1 l ha.1 hx2 (by omega)
    obtain ⟨r3,f1,f2⟩:=ih (i + 1) r2 (l ++ f p) hd (by omega) (ha.trans g2) (by rw [List.length_append]; omega)
    refine ⟨r3,?_,by rw [List.flatMap_cons,← List.append_assoc]; exact f2⟩
    rw [Ar]
    simp only [Bw.b0,h1,h2,h6,Zgp hlen (hlf p cs h4),h7,ZdS hlen,g1,Ej (show i < 140737488355328 by omega),EVs]
    exact f1
theorem HJ (hL : By C B aL t0 y) (h_n : C.n = (6)) (hl : aL.length < 140737488355328) (hlf : ∀ a cs,C.rel a t0 cs→cs.all AI = true)
    (hf : (acc,ix) ∈ D7) (hM : readRow t0 M = some cells) (hi : cells[ix]? = some y) (hK : readRow t0 K = some [fnV acc])
    (hW : readRow t0 W = some [fnV wf]) (hw : ∀ a cs,C.rel a t0 cs→∀ t x l,Own t0.heap.length 1 t x (bv l)→Ext t0.heap.length t0 t→l.length + (f a).length ≤ 140737488300000→∃ r,Ag Tryz.prog (run Tryz.prog (libL libT) Ad) (fnV wf) [x,.agg cs.toArray] t = some r∧App t0.heap.length t x (l ++ f a) r)
    (t : St) (x : Value) (l : BL) (ho : Own t0.heap.length 1 t x (bv l)) (hx : Ext t0.heap.length t0 t) (hb : l.length + (E3 f aL).length ≤ 140737488300000) :
    ∃ r,Ag Tryz.prog (run Tryz.prog (libL libT) Ad) (.func (.func 151) #[] #[.pointer (some ⟨K,0,none⟩),.pointer (some ⟨W,0,none⟩)]) [x,mp M] t = some r∧App t0.heap.length t x (l ++ E3 f aL) r:=by
  rw [show (Value.func (.func 151) #[] #[.pointer (some ⟨K,0,none⟩),.pointer (some ⟨W,0,none⟩)]) = .func (.func 151) ([] : List Value).toArray [.pointer (some ⟨K,0,none⟩),.pointer (some ⟨W,0,none⟩)].toArray from rfl,Cq Ih]
  simp only [E3,List.length_append] at hb
  have hN:=hx.1
  have hlen : ∀ ty t,AG (.slice ty) y t = some (.int .i64 ((aL.length : Nat) : Int)):=A9 hL
  have hwr : IntKind.wrap .u64 ((aL.length : Nat) : Int) = ((aL.length : Nat) : Int):=Tl rfl (Nat.lt_trans hl (by decide))
  have e : Ah (.pointer (some ⟨M,ix,none⟩)) = some (.pointer (some ⟨M,ix,none⟩)):=rfl
  obtain ⟨r7,g1,g2⟩:=PE (m:=enc aL.length) ho hN (by omega)
  have hx7 : Ext t0.heap.length t0 r7.2:=hx.trans (g2.ext ho hN)
  obtain ⟨r,m1,m2⟩:=Hk hL h_n hl hlf hW hw g2.1 hx7 aL 0 (r7.1,r7.2) _ rfl (Nat.zero_le _) (.start g2.1) (by rw [List.length_append]; omega)
  rw [show ((0 : Nat) : Int) = 0 from rfl] at m1
  refine ⟨r,Ig rfl ?_,by rw [E3,← List.append_assoc]; exact g2.trans m2⟩
  unfold Bw
  simp only [B6 (BB hx hK),DJ I3 hf,e,Cv (BB hx hM) hi,hlen,hwr,Ck,Ud (show aL.length < 18446744073709551616 by omega),g1,B6 (BB hx7 hK),Cv (BB hx7 hM) hi,m1,El m2.1,EVs]
theorem FG {s1 : St} {x0 : Value} {m0 : BL} (hL : By C B aL t0 y) (h_n : C.n = (3)) (hl : aL.length < 140737488355328) (hlf : ∀ a cs,C.rel a t0 cs→cs.all AI = true)
    (hW : readRow t0 W = some [fnV wf]) (hw : ∀ a cs,C.rel a t0 cs→∀ t x l,Own t0.heap.length 1 t x (bv l)→Ext t0.heap.length t0 t→l.length + (f a).length ≤ 140737488300000→∃ r,Ag Tryz.prog (run Tryz.prog (libL libT) Ad) (fnV wf) [x,.agg cs.toArray] t = some r∧App t0.heap.length t x (l ++ f a) r)
    (ho : Own t0.heap.length 1 s1 x0 (bv m0)) (hx : Ext t0.heap.length t0 s1) : ∀ (rest : List α) (i : Nat) (r : Value × St) (l : BL),aL.drop i = rest→i ≤ aL.length→App t0.heap.length s1 x0 l r→l.length + (rest.flatMap f).length ≤ 140737488300000 →
    ∃ r2,AS (Bc.b0 (run Tryz.prog (libL libT) Ad)) [r.1,.pointer (some ⟨W,0,none⟩),y,.int .i64 ((aL.length : Nat) : Int),.int .i64 (i : Int)] r.2 = some (.exit 0,[r2.1],r2.2)∧App t0.heap.length s1 x0 (l ++ rest.flatMap f) r2:=by
  have he:=NC (ag:=true) hL rfl hx ho h_n.symm (.inl rfl)
  intro rest
  induction rest with
  | nil =>
    intro i r l hi hle ha hb
    have h1 : decide ((i : Int) < ((aL.length : Nat) : Int)) = false:=by
      have:=List.drop_eq_nil_iff.1 hi
      simp; omega
    refine ⟨r,?_,by rw [List.flatMap_nil,List.append_nil]; exact ha⟩
    rw [Ar]
    simp only [Bc.b0,h1,EVs]
  | cons p rest ih =>
    intro i r l hi hle ha hb
    obtain ⟨hlt,hp,hd⟩:=E1 hi
    have h1 : decide ((i : Int) < ((aL.length : Nat) : Int)) = true:=by simp; omega
    obtain ⟨a,u,cs,h2,h3,h4,h5⟩:=he.2 i hlt
    rw [hp] at h4
    have h3 : u = .agg cs.toArray:=h3
    subst h3
    have h6:=h5 l r ha
    have hlen : cs.length = (3):=(C.len h4).trans h_n
    rw [List.flatMap_cons,List.length_append] at hb
    have hx2 : Ext t0.heap.length t0 r.2:=hx.trans (ha.ext ho hx.1)
    have h7 : Aj false 1 (.pointer (some ⟨W,0,none⟩)) r.2 = some (fnV wf):=B6 (BB hx2 hW)
    obtain ⟨r2,g1,g2⟩:=hw p cs h4 r.2 r.1 l ha.1 hx2 (by omega)
    obtain ⟨r3,f1,f2⟩:=ih (i + 1) r2 (l ++ f p) hd (by omega) (ha.trans g2) (by rw [List.length_append]; omega)
    refine ⟨r3,?_,by rw [List.flatMap_cons,← List.append_assoc]; exact f2⟩
    rw [Ar]
    simp only [Bc.b0,h1,h2,h6,Zgq hlen (hlf p cs h4),h7,ZdS hlen,g1,Ej (show i < 140737488355328 by omega),EVs]
    exact f1
theorem FM (hL : By C B aL t0 y) (h_n : C.n = (3)) (hl : aL.length < 140737488355328) (hlf : ∀ a cs,C.rel a t0 cs→cs.all AI = true)
    (hf : (acc,ix) ∈ D7) (hM : readRow t0 M = some cells) (hi : cells[ix]? = some y) (hK : readRow t0 K = some [fnV acc])
    (hW : readRow t0 W = some [fnV wf]) (hw : ∀ a cs,C.rel a t0 cs→∀ t x l,Own t0.heap.length 1 t x (bv l)→Ext t0.heap.length t0 t→l.length + (f a).length ≤ 140737488300000→∃ r,Ag Tryz.prog (run Tryz.prog (libL libT) Ad) (fnV wf) [x,.agg cs.toArray] t = some r∧App t0.heap.length t x (l ++ f a) r)
    (t : St) (x : Value) (l : BL) (ho : Own t0.heap.length 1 t x (bv l)) (hx : Ext t0.heap.length t0 t) (hb : l.length + (E3 f aL).length ≤ 140737488300000) :
    ∃ r,Ag Tryz.prog (run Tryz.prog (libL libT) Ad) (.func (.func 155) #[] #[.pointer (some ⟨K,0,none⟩),.pointer (some ⟨W,0,none⟩)]) [x,mp M] t = some r∧App t0.heap.length t x (l ++ E3 f aL) r:=by
  rw [show (Value.func (.func 155) #[] #[.pointer (some ⟨K,0,none⟩),.pointer (some ⟨W,0,none⟩)]) = .func (.func 155) ([] : List Value).toArray [.pointer (some ⟨K,0,none⟩),.pointer (some ⟨W,0,none⟩)].toArray from rfl,Cq Gg]
  simp only [E3,List.length_append] at hb
  have hN:=hx.1
  have hlen : ∀ ty t,AG (.slice ty) y t = some (.int .i64 ((aL.length : Nat) : Int)):=A9 hL
  have hwr : IntKind.wrap .u64 ((aL.length : Nat) : Int) = ((aL.length : Nat) : Int):=Tl rfl (Nat.lt_trans hl (by decide))
  have e : Ah (.pointer (some ⟨M,ix,none⟩)) = some (.pointer (some ⟨M,ix,none⟩)):=rfl
  obtain ⟨r7,g1,g2⟩:=PE (m:=enc aL.length) ho hN (by omega)
  have hx7 : Ext t0.heap.length t0 r7.2:=hx.trans (g2.ext ho hN)
  obtain ⟨r,m1,m2⟩:=FG hL h_n hl hlf hW hw g2.1 hx7 aL 0 (r7.1,r7.2) _ rfl (Nat.zero_le _) (.start g2.1) (by rw [List.length_append]; omega)
  rw [show ((0 : Nat) : Int) = 0 from rfl] at m1
  refine ⟨r,Gf rfl ?_,by rw [E3,← List.append_assoc]; exact g2.trans m2⟩
  unfold Bc
  simp only [B6 (BB hx hK),DJ I3 hf,e,Cv (BB hx hM) hi,hlen,hwr,Ck,Ud (show aL.length < 18446744073709551616 by omega),g1,B6 (BB hx7 hK),Cv (BB hx7 hM) hi,m1,El m2.1,EVs]
theorem FN {s1 : St} {x0 : Value} {m0 : BL} (hL : By C B aL t0 y) (h_n : C.n = (2)) (hl : aL.length < 140737488355328) (hlf : ∀ a cs,C.rel a t0 cs→cs.all AI = true)
    (hW : readRow t0 W = some [fnV wf]) (hw : ∀ a cs,C.rel a t0 cs→∀ t x l,Own t0.heap.length 1 t x (bv l)→Ext t0.heap.length t0 t→l.length + (f a).length ≤ 140737488300000→∃ r,Ag Tryz.prog (run Tryz.prog (libL libT) Ad) (fnV wf) [x,.agg cs.toArray] t = some r∧App t0.heap.length t x (l ++ f a) r)
    (ho : Own t0.heap.length 1 s1 x0 (bv m0)) (hx : Ext t0.heap.length t0 s1) : ∀ (rest : List α) (i : Nat) (r : Value × St) (l : BL),aL.drop i = rest→i ≤ aL.length→App t0.heap.length s1 x0 l r→l.length + (rest.flatMap f).length ≤ 140737488300000 →
    ∃ r2,AS (Bf.b0 (run Tryz.prog (libL libT) Ad)) [r.1,.pointer (some ⟨W,0,none⟩),y,.int .i64 ((aL.length : Nat) : Int),.int .i64 (i : Int)] r.2 = some (.exit 0,[r2.1],r2.2)∧App t0.heap.length s1 x0 (l ++ rest.flatMap f) r2:=by
  have he:=NC (ag:=true) hL rfl hx ho h_n.symm (.inl rfl)
  intro rest
  induction rest with
  | nil =>
    intro i r l hi hle ha hb
    have h1 : decide ((i : Int) < ((aL.length : Nat) : Int)) = false:=by
      have:=List.drop_eq_nil_iff.1 hi
      simp; omega
    refine ⟨r,?_,by rw [List.flatMap_nil,List.append_nil]; exact ha⟩
    rw [Ar]
    simp only [Bf.b0,h1,EVs]
  | cons p rest ih =>
    intro i r l hi hle ha hb
    obtain ⟨hlt,hp,hd⟩:=E1 hi
    have h1 : decide ((i : Int) < ((aL.length : Nat) : Int)) = true:=by simp; omega
    obtain ⟨a,u,cs,h2,h3,h4,h5⟩:=he.2 i hlt
    rw [hp] at h4
    have h3 : u = .agg cs.toArray:=h3
    subst h3
    have h6:=h5 l r ha
    have hlen : cs.length = (2):=(C.len h4).trans h_n
    rw [List.flatMap_cons,List.length_append] at hb
    have hx2 : Ext t0.heap.length t0 r.2:=hx.trans (ha.ext ho hx.1)
    have h7 : Aj false 1 (.pointer (some ⟨W,0,none⟩)) r.2 = some (fnV wf):=B6 (BB hx2 hW)
    obtain ⟨r2,g1,g2⟩:=hw p cs h4 r.2 r.1 l ha.1 hx2 (by omega)
    obtain ⟨r3,f1,f2⟩:=ih (i + 1) r2 (l ++ f p) hd (by omega) (ha.trans g2) (by rw [List.length_append]; omega)
    refine ⟨r3,?_,by rw [List.flatMap_cons,← List.append_assoc]; exact f2⟩
    rw [Ar]
    simp only [Bf.b0,h1,h2,h6,Zgr hlen (hlf p cs h4),h7,ZdS hlen,g1,Ej (show i < 140737488355328 by omega),EVs]
    exact f1
theorem Gn (hL : By C B aL t0 y) (h_n : C.n = (2)) (hl : aL.length < 140737488355328) (hlf : ∀ a cs,C.rel a t0 cs→cs.all AI = true)
    (hf : (acc,ix) ∈ D7) (hM : readRow t0 M = some cells) (hi : cells[ix]? = some y) (hK : readRow t0 K = some [fnV acc])
    (hW : readRow t0 W = some [fnV wf]) (hw : ∀ a cs,C.rel a t0 cs→∀ t x l,Own t0.heap.length 1 t x (bv l)→Ext t0.heap.length t0 t→l.length + (f a).length ≤ 140737488300000→∃ r,Ag Tryz.prog (run Tryz.prog (libL libT) Ad) (fnV wf) [x,.agg cs.toArray] t = some r∧App t0.heap.length t x (l ++ f a) r)
    (t : St) (x : Value) (l : BL) (ho : Own t0.heap.length 1 t x (bv l)) (hx : Ext t0.heap.length t0 t) (hb : l.length + (E3 f aL).length ≤ 140737488300000) :
    ∃ r,Ag Tryz.prog (run Tryz.prog (libL libT) Ad) (.func (.func 158) #[] #[.pointer (some ⟨K,0,none⟩),.pointer (some ⟨W,0,none⟩)]) [x,mp M] t = some r∧App t0.heap.length t x (l ++ E3 f aL) r:=by
  rw [show (Value.func (.func 158) #[] #[.pointer (some ⟨K,0,none⟩),.pointer (some ⟨W,0,none⟩)]) = .func (.func 158) ([] : List Value).toArray [.pointer (some ⟨K,0,none⟩),.pointer (some ⟨W,0,none⟩)].toArray from rfl,Cq GL]
  simp only [E3,List.length_append] at hb
  have hN:=hx.1
  have hlen : ∀ ty t,AG (.slice ty) y t = some (.int .i64 ((aL.length : Nat) : Int)):=A9 hL
  have hwr : IntKind.wrap .u64 ((aL.length : Nat) : Int) = ((aL.length : Nat) : Int):=Tl rfl (Nat.lt_trans hl (by decide))
  have e : Ah (.pointer (some ⟨M,ix,none⟩)) = some (.pointer (some ⟨M,ix,none⟩)):=rfl
  obtain ⟨r7,g1,g2⟩:=PE (m:=enc aL.length) ho hN (by omega)
  have hx7 : Ext t0.heap.length t0 r7.2:=hx.trans (g2.ext ho hN)
  obtain ⟨r,m1,m2⟩:=FN hL h_n hl hlf hW hw g2.1 hx7 aL 0 (r7.1,r7.2) _ rfl (Nat.zero_le _) (.start g2.1) (by rw [List.length_append]; omega)
  rw [show ((0 : Nat) : Int) = 0 from rfl] at m1
  refine ⟨r,GK rfl ?_,by rw [E3,← List.append_assoc]; exact g2.trans m2⟩
  unfold Bf
  simp only [B6 (BB hx hK),DJ I3 hf,e,Cv (BB hx hM) hi,hlen,hwr,Ck,Ud (show aL.length < 18446744073709551616 by omega),g1,B6 (BB hx7 hK),Cv (BB hx7 hM) hi,m1,El m2.1,EVs]
end
end Go.Proofs.YtmbhnbladmpnoaaGreat.Ab

/- Messages are written: all fields,by their letters. -/
namespace Go.Proofs.YtmbhnbladmpnoaaGreat.Ab
open Go
set_option maxRecDepth 10000
theorem Uh {β : Type} {Rl : (Value × Value × Nat)→(Int × β)→Prop} (hk : ∀ e q,Rl e q→e.1 = .int .i32 q.1) (c : Int) : ∀ {es : List (Value × Value × Nat)} {qs : List (Int × β)},All2 Rl es qs→∀ (j : Nat) (q : Int × β),qs.find? (fun p=>p.1 == c) = some q→∃ k e,FQ (.int .i32) (.int .i32 c) (es.map (·.1)) j = some (some (j + k))∧es[k]? = some e∧Rl e q
  | [],[],_,j,q,h=>by cases h
  | e :: es,p :: qs,⟨h1,h2⟩,j,q,h=>by
    have hs : Instr.sameNow (.int .i32) (.int .i32 c) e.1 = some (p.1 == c):=by
      have : (p.1 == c) = (c == p.1):=by rw [Bool.eq_iff_iff]; simp only [beq_iff_eq]; exact eq_comm
      rw [this,hk e p h1]
      rfl
    rw [List.find?_cons] at h
    cases hc : p.1 == c with
    | true =>
      rw [hc] at h
      cases h
      refine ⟨0,e,?_,rfl,h1⟩
      simp only [List.map_cons,FQ,hs,hc]
      rfl
    | false =>
      rw [hc] at h
      obtain ⟨k,e2,g1,g2,g3⟩:=Uh hk c h2 (j + 1) q h
      refine ⟨k + 1,e2,?_,by simpa using g2,g3⟩
      simp only [List.map_cons,FQ,hs,hc]
      rw [g1]
      congr 2
      omega
theorem Wt {β : Type} {Rl : (Value × Value × Nat)→(Int × β)→Prop} (hk : ∀ e q,Rl e q→e.1 = .int .i32 q.1) {A : Nat} {s : St} {qs : List (Int × β)} (hm : s.heap[A]? = some (.map (AK A) 16)) (h : All2 Rl (AK A) qs) {c : Int} {q : Int × β} (hq : qs.find? (fun p=>p.1 == c) = some q) {z : Value} : ∃ e,Fi Tryz.prog 21 z (.map (some A)) (.int .i32 c) false s = some e.2.1∧Rl e q:=by
  obtain ⟨k,e,g1,g2,g3⟩:=Uh hk c h 0 q hq
  refine ⟨e,?_,g3⟩
  have hu : Tryz.prog.underlying 21 = some (.int .i32):=Tryz.underlying21
  unfold Fi
  simp only [hm]
  rw [if_neg (show ¬ Fh (AK A) = true by simp [Fh,AK])]
  unfold ET
  rw [if_pos (show GV Tryz.prog (AK A).isEmpty 21 (.int .i32 c) = true by kernel_rfl)]
  unfold LW
  rw [hu]
  simp only [Option.bind_some,g1,Nat.zero_add,NP,g2]
  rfl
def wTab (m : Ms) : List (Int × BL):=[(113,eN m.req),(98,eN m.boot),(116,eN m.txn),(108,eN m.low),(118,eN m.ver),(101,eN m.epoch),(109,eN m.move),(97,eN m.attempt),(110,eN m.num),(99,[bI m.code]),(112,[bI m.peer]),(102,[if m.flag = true then 1 else 0]),(114,tBs [m.rg.1,m.rg.2]),(111,E3 eOpW m.ops),(115,E3 eRs m.res),(119,E3 eOwW m.own)]
def WOk (t0 : St) (M : Nat) (e : Value × Value × Nat) (p : Int × BL) : Prop :=
  e.1 = .int .i32 p.1∧∃ x y z,e.2.1 = .agg #[x,y,z]∧∀ t v l,Own t0.heap.length 1 t v (bv l)→Ext t0.heap.length t0 t→l.length + p.2.length ≤ 140737488300000→∃ r,Ag Tryz.prog (run Tryz.prog (libL libT) Ad) x [v,mp M] t = some r∧App t0.heap.length t v (l ++ p.2) r
theorem DS {α : Type} {C : NCod α} {B : Nat} {l : List α} {s : St} {v : Value} (hB : 1 < B) (h : By C B l s v) : l.length < 140737488355328:=DI (by omega) h
theorem Wu {a : Rs} {s : St} {cs : List Value} (h : rsN.rel a s cs) : ∃ vp,cs = [.bool a.1,sv a.2.1,vp]∧By (.ofC prC fun _=>True) 32 a.2.2 s vp:=by
  obtain ⟨_,_,rfl,⟨rfl,_⟩,_,_,rfl,⟨rfl,_⟩,_,_,rfl,⟨vp,rfl,hl⟩,rfl⟩:=h
  exact ⟨vp,rfl,hl⟩
theorem ZR {m : Ms} {t0 : St} {vo vr vw : Value} (h : MsV m t0 vo vr vw) {M N : Nat} (ht : ZAt m vo vr vw M N t0) : All2 (WOk t0 M) (AK N) (wTab m):=by
  have num : ∀ {f ix i : Nat} {n : Int},(f,ix) ∈ D7→Am[i]? = some (rowF f)→(msC m vo vr vw)[ix]? = some (.int .u64 n)→(Lit.int .u64 n).wf = true→∀ t v l,Own t0.heap.length 1 t v (bv l)→Ext t0.heap.length t0 t→l.length + (eN n).length ≤ 140737488300000→∃ r,Ag Tryz.prog (run Tryz.prog (libL libT) Ad) (.func (.func 142) #[] #[ptA N i]) [v,mp M] t = some r∧App t0.heap.length t v (l ++ eN n) r :=
    fun hf hi hc hw t v l ho hx hb=>ZbI hf (BB hx ht.1) (BB hx (ht.2 _ _ hi)) ho hx.1 (ZfI hw) hc hb
  have sml : ∀ {f ix i : Nat} {n : Int},(f,ix) ∈ D7→Am[i]? = some (rowF f)→(msC m vo vr vw)[ix]? = some (.int .i64 n)→∀ t v l,Own t0.heap.length 1 t v (bv l)→Ext t0.heap.length t0 t→l.length + [bI n].length ≤ 140737488300000→∃ r,Ag Tryz.prog (run Tryz.prog (libL libT) Ad) (.func (.func 146) #[] #[ptA N i]) [v,mp M] t = some r∧App t0.heap.length t v (l ++ [bI n]) r :=
    fun hf hi hc t v l ho hx hb=>XK hf (BB hx ht.1) (BB hx (ht.2 _ _ hi)) ho hx.1 hc hb
  refine ⟨⟨rfl,_,_,_,rfl,num (f:=69) (ix:=6) (i:=0) (by decide) rfl rfl h.wf.req⟩,
    ⟨rfl,_,_,_,rfl,num (f:=70) (ix:=7) (i:=1) (by decide) rfl rfl h.wf.boot⟩,
    ⟨rfl,_,_,_,rfl,num (f:=71) (ix:=8) (i:=2) (by decide) rfl rfl h.wf.txn⟩,
    ⟨rfl,_,_,_,rfl,num (f:=72) (ix:=9) (i:=3) (by decide) rfl rfl h.wf.low⟩,
    ⟨rfl,_,_,_,rfl,num (f:=73) (ix:=10) (i:=4) (by decide) rfl rfl h.wf.ver⟩,
    ⟨rfl,_,_,_,rfl,num (f:=74) (ix:=11) (i:=5) (by decide) rfl rfl h.wf.epoch⟩,
    ⟨rfl,_,_,_,rfl,num (f:=75) (ix:=12) (i:=6) (by decide) rfl rfl h.wf.move⟩,
    ⟨rfl,_,_,_,rfl,num (f:=76) (ix:=13) (i:=7) (by decide) rfl rfl h.wf.attempt⟩,
    ⟨rfl,_,_,_,rfl,num (f:=77) (ix:=14) (i:=8) (by decide) rfl rfl h.wf.num⟩,
    ⟨rfl,_,_,_,rfl,sml (f:=79) (ix:=4) (i:=9) (by decide) rfl rfl⟩,
    ⟨rfl,_,_,_,rfl,sml (f:=80) (ix:=5) (i:=10) (by decide) rfl rfl⟩,
    ⟨rfl,_,_,_,rfl,fun t v l ho hx hb=>ZO (BB hx ht.1) ho hx.1 rfl hb⟩,
    ⟨rfl,_,_,_,rfl,fun t v l ho hx hb=>XL (r0:=m.rg) (BB hx ht.1) ho hx.1 rfl rfl hb⟩,
    ⟨rfl,_,_,_,rfl,?_⟩,⟨rfl,_,_,_,rfl,?_⟩,⟨rfl,_,_,_,rfl,?_⟩,trivial⟩
  · refine HJ (f:=eOpW) (wf:=93) h.o rfl (DS (by decide) h.o) (fun a cs hr=>by rw [hr.1]; rfl) (acc:=92) (ix:=18) (by decide) ht.1 rfl (ht.2 11 _ rfl) (ht.2 12 _ rfl) fun a cs hr t x l ho hx hb=>?_
    rw [hr.1,Lw]
    exact ZfJ a ho hx.1 hb
  · refine FM (f:=eRs) (wf:=97) h.r rfl (DS (by decide) h.r) (fun a cs hr=>?_) (acc:=96) (ix:=19) (by decide) ht.1 rfl (ht.2 14 _ rfl) (ht.2 15 _ rfl) fun a cs hr t x l ho hx hb=>?_
    · obtain ⟨vp,rfl,hl⟩:=Wu hr
      have h1 : AI vp = true:=Ek hl
      have h2 : AI (sv a.2.1) = true:=rfl
      have h3 : AI (.bool a.1) = true:=rfl
      simp [h1,h2,h3]
    · obtain ⟨vp,rfl,hl⟩:=Wu hr
      rw [H9]
      exact ZdQ a.1 a.2.1 a.2.2 hl (DS (by decide) hl) rfl hx ho hb
  · refine Gn (f:=eOwW) (wf:=101) h.w rfl (DS (by decide) h.w) (fun a cs hr=>by rw [hr.1]; rfl) (acc:=100) (ix:=20) (by decide) ht.1 rfl (ht.2 17 _ rfl) (ht.2 18 _ rfl) fun a cs hr t x l ho hx hb=>?_
    rw [hr.1,IY]
    exact ZfK a ho hx.1 hb
theorem ZfN : ∀ p ∈ AF,((List.range p.2.1.length).all fun i=>(Utf8.decode ⟨p.2.1.toArray⟩ i).1 == (lets p.2.1).getD i 0 && (Utf8.decode ⟨p.2.1.toArray⟩ i).2 == 1) = true:=by
  intro p hp
  simp only [AF,List.mem_cons,List.not_mem_nil,or_false] at hp
  rcases hp with rfl | rfl | rfl | rfl | rfl | rfl | rfl | rfl | rfl | rfl | rfl | rfl | rfl | rfl <;> kernel_rfl
def itB (fs : BL) (i : Nat) : Blk:=.map [(.tuple #[],.string ⟨fs.toArray⟩,i)] 0
theorem Ui {k : Int} {p : BL × Nat × Nat × Nat} (hp : (k,p) ∈ AF) {I i : Nat} {s : St} (hI : s.heap[I]? = some (itB p.1 i)) (hi : i < p.1.length) : Ka (.pointer (some ⟨I,0,none⟩)) s = some (.tuple #[.bool true,goInt i,.int .i32 ((lets p.1).getD i 0)],s.putB I (itB p.1 (i + 1))):=by
  have h:=List.all_eq_true.1 (ZfN _ hp) i (List.mem_range.2 hi)
  simp only [Bool.and_eq_true,beq_iff_eq] at h
  unfold Ka
  simp only [hI,itB]
  simp only [VF,Array.isEmpty,List.size_toArray,List.length_nil,decide_true,if_true,Option.bind_some]
  rw [if_pos (show i < (⟨p.1.toArray⟩ : ByteArray).size from by simpa [ByteArray.size] using hi),h.1,h.2]
theorem PF {p : BL} {I : Nat} {s : St} (hI : s.heap[I]? = some (itB p p.length)) : Ka (.pointer (some ⟨I,0,none⟩)) s = some (.tuple #[.bool false],s):=by
  unfold Ka
  simp only [hI,itB]
  simp only [VF,Array.isEmpty,List.size_toArray,List.length_nil,decide_true,if_true,Option.bind_some]
  rw [if_neg (show ¬ p.length < (⟨p.toArray⟩ : ByteArray).size from by simp [ByteArray.size])]
def wOf (m : Ms) (c : Int) : BL:=(((wTab m).find? fun p=>p.1 == c).map (·.2)).getD []
theorem ZdT {k : Int} {p : BL × Nat × Nat × Nat} (hp : (k,p) ∈ AF) (m : Ms) : ∀ c ∈ lets p.1,∃ q,(wTab m).find? (fun p=>p.1 == c) = some q:=by
  have key : ∀ q ∈ AF,∀ c ∈ lets q.2.1,c ∈ [113,98,116,108,118,101,109,97,110,99,112,102,114,111,115,119]:=by decide
  intro c hc
  have:=key _ hp c hc
  simp only [List.mem_cons,List.not_mem_nil,or_false] at this
  rcases this with rfl | rfl | rfl | rfl | rfl | rfl | rfl | rfl | rfl | rfl | rfl | rfl | rfl | rfl | rfl | rfl <;> exact ⟨_,rfl⟩
end Go.Proofs.YtmbhnbladmpnoaaGreat.Ab

/- Encode: the loop over the letters. -/
namespace Go.Proofs.YtmbhnbladmpnoaaGreat.Ab
open Go
set_option maxRecDepth 10000
theorem ZbL {N I : Nat} {s : St} {x : Value} {l : BL} {B : Blk} (h : Own N 1 s x (bv l)) (hI : B2 x ≠ some I) : Own N 1 (s.putB I B) x (bv l):=by
  refine h.keep (B:=some I) ⟨by simp [St.putB],fun c hc hne=>?_⟩ fun c hc e=>hI (by cases e; exact hc)
  simp only [St.putB]
  exact List.getElem?_set_ne fun e=>hne (by rw [e])
theorem ZbM {N I : Nat} {s t : St} {B : Blk} (h : Ext N s t) (hI : N ≤ I) : Ext N s (t.putB I B):=by
  refine ⟨by simp only [St.putB,List.length_set]; exact h.1,fun c hc=>?_⟩
  simp only [St.putB]
  rw [List.getElem?_set_ne (by omega)]
  exact h.2 c hc
theorem ZbN {s : St} {I : Nat} {B : Blk} (hI : I < s.heap.length) : (s.putB I B).heap[I]? = some B:=by simp [St.putB,hI]
theorem ZbO {m : Ms} {t0 : St} {vo vr vw : Value} (h : MsV m t0 vo vr vw) {M A I : Nat} {k : Int} {p : BL × Nat × Nat × Nat} (hp : (k,p) ∈ AF) (ht : ZAt m vo vr vw M A t0) (hA : t0.heap[A]? = some (.map (AK A) 16)) (hI : t0.heap.length ≤ I) : ∀ (rest : List Int) (i : Nat) (s : St) (x : Value) (l : BL),(lets p.1).drop i = rest→i ≤ p.1.length→Own t0.heap.length 1 s x (bv l)→Ext t0.heap.length t0 s→s.heap[I]? = some (itB p.1 i)→B2 x ≠ some I→l.length + (rest.flatMap (wOf m)).length ≤ 140737488300000 →
    ∃ x2 s2,AS (C4.b0 (run Tryz.prog (libL libT) Ad)) [mp M,.map (some A),x,.pointer (some ⟨I,0,none⟩)] s = some (.exit 0,[x2],s2)∧Own t0.heap.length 1 s2 x2 (bv (l ++ rest.flatMap (wOf m)))∧Ext t0.heap.length t0 s2:=by
  have hll : (lets p.1).length = p.1.length:=by simp [lets]
  intro rest
  induction rest with
  | nil =>
    intro i s x l hi hle ho hx hI2 hne hb
    have hi2 : i = p.1.length:=by
      have:=List.drop_eq_nil_iff.1 hi
      omega
    subst hi2
    refine ⟨x,s,?_,by rw [List.flatMap_nil,List.append_nil]; exact ho,hx⟩
    have e0 : Al 0 (.tuple #[.bool false]) = some (.bool false):=rfl
    rw [Ar]
    simp only [C4.b0,PF hI2,e0,EVs]
  | cons c rest ih =>
    intro i s x l hi hle ho hx hI2 hne hb
    have hlt : i < (lets p.1).length:=by
      rcases Nat.lt_or_ge i (lets p.1).length with h | h
      · exact h
      · rw [List.drop_eq_nil_of_le h] at hi
        cases hi
    have hd:=List.drop_eq_getElem_cons hlt
    rw [hi] at hd
    have hc : (lets p.1).getD i 0 = c:=by
      rw [List.getD_eq_getElem?_getD,List.getElem?_eq_getElem hlt]
      exact (List.cons.inj hd).1.symm
    have hd2 : (lets p.1).drop (i + 1) = rest:=(List.cons.inj hd).2.symm
    have hn:=Ui hp hI2 (by omega)
    rw [hc] at hn
    have e0 : Al 0 (.tuple #[.bool true,goInt i,.int .i32 c]) = some (.bool true):=rfl
    have e2 : Al 2 (.tuple #[.bool true,goInt i,.int .i32 c]) = some (.int .i32 c):=rfl
    have ho1 : Own t0.heap.length 1 (s.putB I (itB p.1 (i + 1))) x (bv l):=ZbL ho hne
    have hx1 : Ext t0.heap.length t0 (s.putB I (itB p.1 (i + 1))):=ZbM hx hI
    have hIlt : I < s.heap.length:=(List.getElem?_eq_some_iff.1 hI2).1
    have hI3 : (s.putB I (itB p.1 (i + 1))).heap[I]? = some (itB p.1 (i + 1)):=ZbN hIlt
    have hlen1 : (s.putB I (itB p.1 (i + 1))).heap.length = s.heap.length:=by simp [St.putB]
    obtain ⟨s1,hs1⟩ : ∃ s1,s.putB I (itB p.1 (i + 1)) = s1:=⟨_,rfl⟩
    rw [hs1] at hn ho1 hx1 hI3 hlen1
    have hA1 : s1.heap[A]? = some (.map (AK A) 16):=by
      rw [hx1.2 A (List.getElem?_eq_some_iff.1 hA).1]
      exact hA
    obtain ⟨q,hq⟩:=ZdT hp m c (by rw [← hc,List.getD_eq_getElem?_getD,List.getElem?_eq_getElem hlt]; exact List.getElem_mem _)
    have hw : wOf m c = q.2:=by unfold wOf; rw [hq]; rfl
    obtain ⟨e,g1,_,wx,wy,wz,g2,g3⟩:=Wt (fun e q h=>h.1) hA1 (ZR h ht) hq (z:=.agg #[.nilFunc,.nilFunc,.nilFunc])
    rw [g2] at g1
    have hfld : HM false 0 1 (.agg #[wx,wy,wz]) = some wx:=rfl
    rw [List.flatMap_cons,List.length_append,hw] at hb
    obtain ⟨r,f1,f2⟩:=g3 s1 x l ho1 hx1 (by omega)
    have hIr : r.2.heap[I]? = some (itB p.1 (i + 1)):=by rw [f2.2.1.2 I (by omega) hne]; exact hI3
    obtain ⟨x2,s2,k1,k2,k3⟩:=ih (i + 1) r.2 r.1 (l ++ q.2) hd2 (by omega) f2.1 (hx1.trans (f2.ext ho1 hx1.1)) hIr (f2.ne (by omega) hne) (by rw [List.length_append]; omega)
    refine ⟨x2,s2,?_,by rw [List.flatMap_cons,hw,← List.append_assoc]; exact k2,k3⟩
    rw [Ar]
    simp only [C4.b0,hn,e0,e2,g1,hfld,f1,EVs]
    exact k1
def Dx (m : Ms) : BL:=[bI m.kind,bI m.src,bI m.dst] ++ match CI m.kind with
  | none=>[]
  | some p=>(lets p.1).flatMap (wOf m)
theorem ZS {m : Ms} {s : St} {vo vr vw : Value} (h : MsV m s vo vr vw) (he : eMs m ≠ 0) : ∃ t,(run Tryz.prog (libL libT) Ad) 9 [mV m vo vr vw] s = some (.tuple #[.slice none 0 0,.int .i64 180],t)∧Ext s.heap.length s t:=by
  have hc : Ao (mV m vo vr vw) = msC m vo vr vw:=by simp [Ao]
  have n1 : anew (msC m vo vr vw) s = some (mp s.heap.length,s.push (.row 0 (msC m vo vr vw) .act)):=by unfold anew; rw [if_pos h.leaf]
  have hx1 : Ext s.heap.length s (s.push (.row 0 (msC m vo vr vw) .act)):=.push _ (Nat.le_refl _) _
  have h1:=h.ext hx1
  have hM1 : readRow (s.push (.row 0 (msC m vo vr vw) .act)) s.heap.length = some (msC m vo vr vw):=D6 AC (by simp)
  have l1 : Aj true 21 (mp s.heap.length) (s.push (.row 0 (msC m vo vr vw) .act)) = some (mV m vo vr vw):=Zx hM1 rfl
  have e180 : eMs m = 180:=by unfold eMs at he ⊢; split <;> simp_all
  have hne : (180 : Int) != 0:=by decide
  refine ⟨_,I8 rfl ?_,hx1⟩
  unfold C4
  simp only [hc,n1,l1,Cu,PD h1,e180,hne,EVs]
  exact YH
theorem Uj {m : Ms} {s : St} {vo vr vw : Value} (h : MsV m s vo vr vw) (he : eMs m = 0) (hb : (Dx m).length ≤ 4096) : ∃ t,(run Tryz.prog (libL libT) Ad) 9 [mV m vo vr vw] s = some (pkE (Af (B8 (Dx m)) t).1,(Af (B8 (Dx m)) t).2)∧Ext s.heap.length s t:=by
  obtain ⟨p,hp⟩ : ∃ p,CI m.kind = some p:=by
    cases hf : CI m.kind with
    | some p=>exact ⟨p,rfl⟩
    | none =>
      have : Ns m = true:=by unfold Ns; rw [hf]
      unfold eMs at he
      rw [this] at he
      simp at he
  have hpm:=D8 hp
  have hbd : Dx m = [bI m.kind,bI m.src,bI m.dst] ++ (lets p.1).flatMap (wOf m):=by unfold Dx; rw [hp]
  have hc : Ao (mV m vo vr vw) = msC m vo vr vw:=by simp [Ao]
  have n1 : anew (msC m vo vr vw) s = some (mp s.heap.length,s.push (.row 0 (msC m vo vr vw) .act)):=by unfold anew; rw [if_pos h.leaf]
  have hx1 : Ext s.heap.length s (s.push (.row 0 (msC m vo vr vw) .act)):=.push _ (Nat.le_refl _) _
  have h1:=h.ext hx1
  have hM1 : readRow (s.push (.row 0 (msC m vo vr vw) .act)) s.heap.length = some (msC m vo vr vw):=D6 AC (by simp)
  obtain ⟨s1,e1⟩ : ∃ s1,s.push (.row 0 (msC m vo vr vw) .act) = s1:=⟨_,rfl⟩
  rw [e1] at n1 hx1 h1 hM1
  have l1 : Aj true 21 (mp s.heap.length) s1 = some (mV m vo vr vw):=Zx hM1 rfl
  have a1 : ∀ b i,Ac i (.pointer (some ⟨b,0,none⟩)) = some (.pointer (some ⟨b,i,none⟩)):=fun b i=>by simp [Ac]
  have lk : Aj false 1 (.pointer (some ⟨s.heap.length,0,none⟩)) s1 = some (.int .i64 m.kind):=Cv hM1 rfl
  have hf : frmV m.kind = fmB p:=by unfold frmV; rw [hp]
  obtain ⟨t1,f1,fx⟩ : ∃ t1,(run Tryz.prog (libL libT) Ad) 19 [.int .i64 m.kind] s1 = some (.tuple #[frmV m.kind,.bool (CI m.kind).isSome],t1)∧Ext s1.heap.length s1 t1:=⟨_,I3.form m.kind s1,.refl _ _⟩
  rw [hf,hp] at f1
  have x0 : Al 0 (.tuple #[fmB p,.bool (some p).isSome]) = some (fmB p):=rfl
  have x1 : Al 1 (.tuple #[fmB p,.bool (some p).isSome]) = some (.bool true):=rfl
  have st : AO 4 lptr (fmB p) (.agg #[(.string ⟨#[]⟩),.nilFunc,.nilFunc,.nilFunc]) = some (fmB p):=rfl
  have ls : Ap false 1 lptr (fmB p) = some (sv p.1):=rfl
  obtain ⟨Ht⟩:=t1
  have hall:=I3.wire_all (Ir I3 Ht)
  have hxa : Ext (⟨Ht⟩ : St).heap.length ⟨Ht⟩ ⟨Ht ++ (.map (AK Ht.length) 16 :: Am)⟩:=ext_app Ht _
  have hrows : ∀ i f,Am[i]? = some (rowF f)→readRow (⟨Ht ++ (Blk.map (AK Ht.length) 16 :: Am)⟩ : St) (Ht.length + 1 + i) = some [fnV f]:=fun i f hi=>by
    refine D6 (st:=.act) (n:=0) ?_ (by simp)
    rw [List.getElem?_append_right (by omega),show Ht.length + 1 + i - Ht.length = i + 1 by omega,List.getElem?_cons_succ,hi]
    rfl
  have hM2:=BB hxa (BB fx hM1)
  have h2:=(h1.ext fx).ext hxa
  have hA : (⟨Ht ++ (Blk.map (AK Ht.length) 16 :: Am)⟩ : St).heap[Ht.length]? = some (.map (AK Ht.length) 16):=by
    simp only
    rw [List.getElem?_append_right (Nat.le_refl _),Nat.sub_self]
    rfl
  have hext : Ext s.heap.length s ⟨Ht ++ (.map (AK Ht.length) 16 :: Am)⟩:=(hx1.trans (fx.less hx1.1)).trans (hxa.less (Nat.le_trans hx1.1 fx.1))
  obtain ⟨t0,ht0⟩ : ∃ t0 : St,(⟨Ht ++ (.map (AK Ht.length) 16 :: Am)⟩ : St) = t0:=⟨_,rfl⟩
  rw [ht0] at hall hrows hM2 h2 hA hext
  have hZ : ZAt m vo vr vw s.heap.length Ht.length t0:=⟨hM2,hrows⟩
  have m0 : Aj false 1 (.pointer (some ⟨s.heap.length,0,none⟩)) t0 = some (.int .i64 m.kind):=Cv hM2 rfl
  have m1 : Aj false 1 (.pointer (some ⟨s.heap.length,1,none⟩)) t0 = some (.int .i64 m.src):=Cv hM2 rfl
  have m2 : Aj false 1 (.pointer (some ⟨s.heap.length,2,none⟩)) t0 = some (.int .i64 m.dst):=Cv hM2 rfl
  have nb : As 1 [(.int .u8 0)] 3 [(0,.int .u8 ((bI m.kind).toNat : Int)),(1,.int .u8 ((bI m.src).toNat : Int)),(2,.int .u8 ((bI m.dst).toNat : Int))] t0 = some (Af [bI m.kind,bI m.src,bI m.dst] t0):=rfl
  have nr : Jq (sv p.1) (Af [bI m.kind,bI m.src,bI m.dst] t0).2 = some (.pointer (some ⟨(Af [bI m.kind,bI m.src,bI m.dst] t0).2.heap.length,0,none⟩),(Af [bI m.kind,bI m.src,bI m.dst] t0).2.push (itB p.1 0)):=rfl
  have hlen3 : (Af [bI m.kind,bI m.src,bI m.dst] t0).2.heap.length = t0.heap.length + 1:=CA
  have ho3 : Own t0.heap.length 1 ((Af [bI m.kind,bI m.src,bI m.dst] t0).2.push (itB p.1 0)) (Af [bI m.kind,bI m.src,bI m.dst] t0).1 (bv [bI m.kind,bI m.src,bI m.dst]):=EE (DP (Nat.le_refl _) (by simp))
  have hx3 : Ext t0.heap.length t0 ((Af [bI m.kind,bI m.src,bI m.dst] t0).2.push (itB p.1 0)):=(AZ (Nat.le_refl _)).trans (.push _ (by omega) _)
  have hI3 : ((Af [bI m.kind,bI m.src,bI m.dst] t0).2.push (itB p.1 0)).heap[(Af [bI m.kind,bI m.src,bI m.dst] t0).2.heap.length]? = some (itB p.1 0):=AC
  have hne3 : B2 (Af [bI m.kind,bI m.src,bI m.dst] t0).1 ≠ some (Af [bI m.kind,bI m.src,bI m.dst] t0).2.heap.length:=fun e=>by
    have : t0.heap.length = (Af [bI m.kind,bI m.src,bI m.dst] t0).2.heap.length:=Option.some.inj e
    omega
  rw [hbd,List.length_append] at hb
  obtain ⟨x2,s2,g1,g2,g3⟩:=ZbO h2 hpm hZ hA (I:=(Af [bI m.kind,bI m.src,bI m.dst] t0).2.heap.length) (by omega) (lets p.1) 0 _ _ _ rfl (Nat.zero_le _) ho3 hx3 hI3 hne3 (by omega)
  rw [← hbd] at g2
  have hk:=ZfG g2.bytes (by rw [hbd,List.length_append]; exact hb)
  have y0 : ∀ v,Al 0 (pkE (Af v s2).1) = some (Af v s2).1:=fun v=>rfl
  have y1 : ∀ v,Al 1 (pkE (Af v s2).1) = some (.int .i64 0):=fun v=>rfl
  have hz : ((0 : Int) != 0) = false:=rfl
  refine ⟨s2,I8 rfl ?_,hext.trans (g3.less hext.1)⟩
  unfold C4
  simp only [hc,n1,l1,Cu,PD h1,he,hz,a1,lk,DA,f1,x0,x1,st,G9,hall,m0,m1,m2,Wo,nb,ls,nr,g1,Oq,hk,y0,y1,EVs]
  exact YH
end Go.Proofs.YtmbhnbladmpnoaaGreat.Ab

/- Messages that may be: what their fields are then; no body is too long. -/
namespace Go.Proofs.YtmbhnbladmpnoaaGreat.Ab
open Go
set_option maxRecDepth 10000
def isB (n : Int) : Prop:=0 ≤ n∧n < 256
def gOp (o : OpT) : Prop:=isB o.kind∧o.key.length ≤ 16∧o.val.length ≤ 16∧o.lo.length ≤ 16∧o.hi.length ≤ 16∧isB o.most
def gPr (p : Rg) : Prop:=p.1.length ≤ 16∧p.2.length ≤ 16
def gRs (r : Rs) : Prop:=r.2.1.length ≤ 16∧r.2.2.length ≤ 4∧∀ p ∈ r.2.2,gPr p
def gOw (o : Ow) : Prop:=o.1.length ≤ 16∧isB o.2
theorem Zcr {o : OpT} (h : ckO o = 0) : gOp o:=by
  unfold ckO at h
  split at h
  · cases h
  rename_i h1
  split at h
  · cases h
  rename_i h2
  split at h
  · cases h
  rename_i h3
  split at h
  · cases h
  rename_i h4
  split at h
  · cases h
  rename_i h5
  simp only [Bool.or_eq_true,Bool.and_eq_true,Bool.not_eq_true',not_or,not_and,bne_iff_ne,ne_eq,Bool.not_eq_false,decide_eq_true_eq,beq_iff_eq,Decidable.not_not] at h1 h2 h3 h4 h5
  obtain ⟨⟨⟨⟨a1,a2⟩,a3⟩,a4⟩,a5⟩:=h1
  have hk:=Pc a1
  have hlen : o.key.length ≤ 16∧o.lo.length ≤ 16∧o.hi.length ≤ 16:=by
    rcases Bool.eq_false_or_eq_true (Np o.kind) with c | c
    · have e1:=a2 c
      have e2:=h2 c
      unfold ckK at e2
      simp only [Bool.and_eq_true,decide_eq_true_eq] at e2
      rw [e1.1,e1.2]
      exact ⟨by omega,by simp,by simp⟩
    · have hr : Pd o.kind = true:=by
        unfold Pd; unfold Np at c
        rcases hk with h | h | h | h | h <;> rw [h] at c ⊢ <;> first | rfl | cases c
      have e1:=a3 hr
      have e2:=h4 hr
      unfold ckR at e2
      simp only [Bool.and_eq_true,decide_eq_true_eq] at e2
      rw [e1]
      exact ⟨by simp,by omega,by omega⟩
  refine ⟨⟨by omega,by omega⟩,hlen.1,by simpa using h3,hlen.2.1,hlen.2.2,?_⟩
  by_cases h4k : o.kind = 4
  · have:=h5 h4k
    unfold isB
    omega
  · have:=a5 h4k
    unfold isB
    omega
theorem ZdU {l : List OpT} (h : allE l = 0) : ∀ o ∈ l,gOp o:=by
  induction l with
  | nil=>intro o ho; cases ho
  | cons a l ih =>
    rw [In] at h
    split at h
    · rename_i h1
      intro o ho
      rcases List.mem_cons.1 ho with rfl | ho
      · exact Zcr h1
      · exact ih h o ho
    · rename_i h1
      exact absurd h h1
def gOps (l : List OpT) : Prop:=l.length ≤ 24∧∀ o ∈ l,gOp o
def gRss (l : List Rs) : Prop:=l.length ≤ 24∧∀ o ∈ l,gRs o
def gOws (l : List Ow) : Prop:=l.length ≤ 6∧∀ o ∈ l,gOw o
theorem ZbP {l : List OpT} (h : (chkE l == 0) = true) : gOps l:=by
  have h : chkE l = 0:=by simpa using h
  unfold chkE at h
  split at h
  · cases h
  · exact ⟨by omega,ZdU h⟩
theorem ZT {l : List OpT} {n : Int} (h : Pq l n = true) (hn : n ≤ 24) : gOps l:=by
  unfold Pq at h
  simp only [Bool.and_eq_true,decide_eq_true_eq,Bool.not_eq_true',List.any_eq_false,bne_iff_ne,ne_eq,Decidable.not_not] at h
  exact ⟨by omega,fun o ho=>Zcr (h.2 o ho)⟩
theorem ZfO {p : Rg} (h : Zo p = false) : gPr p:=by
  unfold Zo at h
  simp only [Bool.or_eq_false_iff,decide_eq_false_iff_not,bne_eq_false_iff_eq] at h
  have h1 : ckK p.1 = true:=by
    have:=h.1
    unfold eK at this
    split at this
    · assumption
    · cases this
  unfold ckK at h1
  simp only [Bool.and_eq_true,decide_eq_true_eq] at h1
  exact ⟨by omega,by omega⟩
theorem ZfP {r : Rs} (h : Zp r = false) : gRs r:=by
  unfold Zp at h
  simp only [Bool.or_eq_false_iff,decide_eq_false_iff_not,List.any_eq_false] at h
  exact ⟨by omega,by omega,fun p hp=>ZfO (by simpa using h.2 p hp)⟩
theorem ZU {l : List Rs} {n : Int} (h : QB l n = true) (hn : n ≤ 24) : gRss l:=by
  unfold QB at h
  simp only [Bool.and_eq_true,decide_eq_true_eq,Bool.not_eq_true',List.any_eq_false] at h
  exact ⟨by omega,fun o ho=>ZfP (by simpa using h.2 o ho)⟩
theorem sh_b {n : Int} (h : shOk n = true) : isB n:=by
  unfold shOk at h
  simp only [Bool.and_eq_true,Bool.not_eq_true',decide_eq_false_iff_not] at h
  exact ⟨by omega,by omega⟩
theorem ZfQ : ∀ {l : List Ow} {p : BL},okF (some p) l = true→∀ o ∈ l,gOw o
  | [],_,_=>fun o ho=>by cases ho
  | a :: l,p,h=>by
    simp only [okF,Bool.and_eq_true] at h
    have h1:=h.1.2.1
    unfold ckK at h1
    simp only [Bool.and_eq_true,decide_eq_true_eq] at h1
    intro o ho
    rcases List.mem_cons.1 ho with rfl | ho
    · exact ⟨by omega,sh_b h.1.1⟩
    · exact ZfQ h.2 o ho
theorem ZdV {l : List Ow} (h : (eO l == 0) = true) : gOws l:=by
  rw [eO_0] at h
  cases l with
  | nil=>cases h
  | cons a l =>
    simp only [okO,okF,Bool.and_eq_true,decide_eq_true_eq,beq_iff_eq] at h
    refine ⟨by simp only [List.length_cons]; omega,fun o ho=>?_⟩
    rcases List.mem_cons.1 ho with rfl | ho
    · exact ⟨by rw [h.1.2]; simp,sh_b h.2.1⟩
    · exact ZfQ h.2.2 o ho
theorem Zcs {r : Rg} (h : (eR r == 0) = true) : gPr r:=by
  have h1 : ckR r = true:=by
    unfold eR at h
    split at h
    · assumption
    · cases h
  unfold ckR at h1
  simp only [Bool.and_eq_true,decide_eq_true_eq] at h1
  exact ⟨by omega,by omega⟩
theorem D9 {l : List OpT} (h : ((l.length : Int) == 0) = true) : gOps l:=by
  have : l = []:=by cases l with | nil=>rfl | cons a l=>simp at h; omega
  subst this
  exact ⟨by simp,fun o ho=>by cases ho⟩
theorem DB {l : List Rs} (h : ((l.length : Int) == 0) = true) : gRss l:=by
  have : l = []:=by cases l with | nil=>rfl | cons a l=>simp at h; omega
  subst this
  exact ⟨by simp,fun o ho=>by cases ho⟩
theorem De {l : List Ow} (h : ((l.length : Int) == 0) = true) : gOws l:=by
  have : l = []:=by cases l with | nil=>rfl | cons a l=>simp at h; omega
  subst this
  exact ⟨by simp,fun o ho=>by cases ho⟩
theorem EO {r : Rg} (h : (r.1 == [] && r.2 == []) = true) : gPr r:=by
  simp only [Bool.and_eq_true,beq_iff_eq] at h
  exact ⟨by rw [h.1]; simp,by rw [h.2]; simp⟩
theorem EP {n : Int} (h : (n == 0) = true) : isB n:=by
  have : n = 0:=by simpa using h
  rw [this]
  exact ⟨by decide,by decide⟩
structure MsGood (m : Ms) (p : BL × Nat × Nat × Nat) : Prop where
  form : CI m.kind = some p
  kind : isB m.kind
  src : isB m.src
  dst : isB m.dst
  client : m.client = 0
  code : isB m.code
  peer : isB m.peer
  rg : gPr m.rg
  ops : gOps m.ops
  res : gRss m.res
  own : gOws m.own
  zero : ∀ q ∈ zTab m,q.2 = true ∨ ((lets p.1).any fun n=>q.1 == n) = true
theorem AN {P : Prop} {b : Bool} (h : P ∨ b = true) (hb : b = false) : P:=h.resolve_right fun e=>by rw [hb] at e; cases e
theorem Zct {f : Nat} (hf : f ∈ My) {n : Int} (h : LN f n = true) : isB n:=by
  simp only [My,List.mem_cons,List.not_mem_nil,or_false] at hf
  rcases hf with rfl | rfl | rfl
  all_goals
    simp [LN] at h
    unfold isB
    omega
theorem ZV {m : Ms} (h : eMs m = 0) : ∃ p,MsGood m p:=by
  unfold eMs at h
  split at h
  · cases h
  rename_i h1
  have h1 : Ns m = false∧PC m = false:=by simpa using h1
  obtain ⟨h1,h2⟩:=h1
  cases hp : CI m.kind with
  | none=>unfold Ns at h1; rw [hp] at h1; cases h1
  | some p =>
    have hb : (((!LN p.2.1 m.src || !LN p.2.2.1 m.dst) || m.client != 0) || !KZ p.2.2.2 m) = false:=by unfold Ns at h1; rw [hp] at h1; exact h1
    have hx : (!(zTab m).all fun q=>(lets p.1).any (fun n=>q.1 == n) || q.2) = false:=by unfold PC at h2; rw [hp] at h2; exact h2
    simp only [Bool.or_eq_false_iff,Bool.not_eq_false',bne_eq_false_iff_eq] at hb hx
    obtain ⟨⟨⟨b1,b2⟩,b3⟩,b4⟩:=hb
    obtain ⟨f1,f2,_⟩:=ZF hp
    have hz : ∀ q ∈ zTab m,q.2 = true ∨ ((lets p.1).any fun n=>q.1 == n) = true:=fun q hq=>by
      have:=List.all_eq_true.1 hx q hq
      simp only [Bool.or_eq_true] at this
      exact this.symm
    have zc:=hz (99,m.code == 0) (by simp [zTab])
    have zp:=hz (112,m.peer == 0) (by simp [zTab])
    have zr:=hz (114,m.rg.1 == [] && m.rg.2 == []) (by simp [zTab])
    have zo:=hz (111,(m.ops.length : Int) == 0) (by simp [zTab])
    have zs:=hz (115,(m.res.length : Int) == 0) (by simp [zTab])
    have zw:=hz (119,(m.own.length : Int) == 0) (by simp [zTab])
    have hm:=D8 hp
    refine ⟨p,?_⟩
    simp only [AF,List.mem_cons,List.not_mem_nil,or_false,Prod.mk.injEq] at hm
    have mk : isB m.kind→isB m.code→isB m.peer→gPr m.rg→gOps m.ops→gRss m.res→gOws m.own→MsGood m p:=fun k c q r o s w=>⟨hp,k,Zct f1 b1,Zct f2 b2,b3,c,q,r,o,s,w,hz⟩
    have hk : isB m.kind:=by unfold isB; omega
    clear hp hz hx f1 f2 h1 h2 b1 b2
    rcases hm with ⟨_,rfl⟩ | ⟨_,rfl⟩ | ⟨_,rfl⟩ | ⟨_,rfl⟩ | ⟨_,rfl⟩ | ⟨_,rfl⟩ | ⟨_,rfl⟩ | ⟨_,rfl⟩ | ⟨_,rfl⟩ | ⟨_,rfl⟩ | ⟨_,rfl⟩ | ⟨_,rfl⟩ | ⟨_,rfl⟩ | ⟨_,rfl⟩
    · exact mk hk (EP (AN zc rfl)) (EP (AN zp rfl)) (EO (AN zr rfl)) (ZbP b4) (DB (AN zs rfl)) (De (AN zw rfl))
    · have b4 : ((m.code == 1 || m.code == 2) && QB m.res 4) = true:=b4
      simp only [Bool.and_eq_true,Bool.or_eq_true,beq_iff_eq] at b4
      exact mk hk (by unfold isB; omega) (EP (AN zp rfl)) (EO (AN zr rfl)) (D9 (AN zo rfl)) (ZU b4.2 (by decide)) (De (AN zw rfl))
    · have b4 : (decide ((m.ops.length : Int) > 0) && Pq m.ops 24) = true:=b4
      simp only [Bool.and_eq_true] at b4
      exact mk hk (EP (AN zc rfl)) (EP (AN zp rfl)) (EO (AN zr rfl)) (ZT b4.2 (by decide)) (DB (AN zs rfl)) (De (AN zw rfl))
    · have b4 : ((decide (m.code ≥ 3) && decide (m.code ≤ 5)) && QB m.res 24) = true:=b4
      simp only [Bool.and_eq_true,decide_eq_true_eq] at b4
      exact mk hk (by unfold isB; omega) (EP (AN zp rfl)) (EO (AN zr rfl)) (D9 (AN zo rfl)) (ZU b4.2 (by decide)) (De (AN zw rfl))
    · exact mk hk (EP (AN zc rfl)) (EP (AN zp rfl)) (EO (AN zr rfl)) (D9 (AN zo rfl)) (DB (AN zs rfl)) (De (AN zw rfl))
    · exact mk hk (EP (AN zc rfl)) (EP (AN zp rfl)) (EO (AN zr rfl)) (D9 (AN zo rfl)) (DB (AN zs rfl)) (De (AN zw rfl))
    · exact mk hk (EP (AN zc rfl)) (EP (AN zp rfl)) (EO (AN zr rfl)) (D9 (AN zo rfl)) (DB (AN zs rfl)) (De (AN zw rfl))
    · exact mk hk (EP (AN zc rfl)) (EP (AN zp rfl)) (EO (AN zr rfl)) (D9 (AN zo rfl)) (DB (AN zs rfl)) (ZdV b4)
    · exact mk hk (EP (AN zc rfl)) (EP (AN zp rfl)) (EO (AN zr rfl)) (D9 (AN zo rfl)) (DB (AN zs rfl)) (De (AN zw rfl))
    · have b4 : (T4 m.peer && eR m.rg == 0) = true:=b4
      simp only [Bool.and_eq_true,T4,decide_eq_true_eq] at b4
      exact mk hk (EP (AN zc rfl)) (by unfold isB; omega) (Zcs b4.2) (D9 (AN zo rfl)) (DB (AN zs rfl)) (De (AN zw rfl))
    · have b4 : (((m.src != m.dst && Pq m.ops 6) && eR m.rg == 0) && !(m.ops.any fun o=>!wrt o.kind)) = true:=b4
      rw [Bool.and_eq_true,Bool.and_eq_true,Bool.and_eq_true] at b4
      exact mk hk (EP (AN zc rfl)) (EP (AN zp rfl)) (Zcs b4.1.2) (ZT b4.1.1.2 (by decide)) (DB (AN zs rfl)) (De (AN zw rfl))
    · exact mk hk (EP (AN zc rfl)) (EP (AN zp rfl)) (EO (AN zr rfl)) (D9 (AN zo rfl)) (DB (AN zs rfl)) (De (AN zw rfl))
    · exact mk hk (EP (AN zc rfl)) (EP (AN zp rfl)) (EO (AN zr rfl)) (D9 (AN zo rfl)) (DB (AN zs rfl)) (De (AN zw rfl))
    · exact mk hk (EP (AN zc rfl)) (EP (AN zp rfl)) (EO (AN zr rfl)) (D9 (AN zo rfl)) (DB (AN zs rfl)) (De (AN zw rfl))
theorem ZfR {n : Nat} (h : n < 128) : enc n = [UInt8.ofNat n]:=by
  unfold enc encF
  rw [if_pos h]
theorem Zgs {k : BL} (h : k.length ≤ 16) : (tB k).length ≤ 17:=by
  unfold tB
  rw [ZfR (by omega)]
  simp only [List.length_append,List.length_singleton]
  omega
theorem ZW {α : Type} {f : α→BL} {n : Nat} : ∀ {l : List α},(∀ a ∈ l,(f a).length ≤ n)→(l.flatMap f).length ≤ l.length * n
  | [],_=>by simp
  | a :: l,h=>by
    rw [List.flatMap_cons,List.length_append,List.length_cons,Nat.add_mul,Nat.one_mul]
    have h1:=h a (List.mem_cons_self ..)
    have h2:=ZW (l:=l) fun b hb=>h b (List.mem_cons_of_mem _ hb)
    omega
theorem Wv {ks : List BL} (h : ∀ k ∈ ks,k.length ≤ 16) : (tBs ks).length ≤ ks.length * 17:=ZW fun k hk=>Zgs (h k hk)
theorem ZX {p : Rg} (h : gPr p) : (ePr p).length ≤ 34:=by
  have:=Wv (ks:=[p.1,p.2]) fun k hk=>by
    simp only [List.mem_cons,List.not_mem_nil,or_false] at hk
    rcases hk with rfl | rfl
    · exact h.1
    · exact h.2
  exact this
theorem Zcu {o : OpT} (h : gOp o) : (eOpW o).length ≤ 70:=by
  have:=Wv (ks:=[o.key,o.val,o.lo,o.hi]) fun k hk=>by
    simp only [List.mem_cons,List.not_mem_nil,or_false] at hk
    rcases hk with rfl | rfl | rfl | rfl
    · exact h.2.1
    · exact h.2.2.1
    · exact h.2.2.2.1
    · exact h.2.2.2.2.1
  simp only [List.length_cons,List.length_nil] at this
  simp only [eOpW,List.length_append,List.length_singleton]
  omega
theorem Zcv {o : Ow} (h : gOw o) : (eOwW o).length ≤ 18:=by
  have:=Wv (ks:=[o.1]) fun k hk=>by
    simp only [List.mem_cons,List.not_mem_nil,or_false] at hk
    rw [hk]
    exact h.1
  simp only [List.length_cons,List.length_nil] at this
  simp only [eOwW,List.length_append,List.length_singleton]
  omega
theorem Fb {α : Type} {f : α→BL} {n : Nat} {l : List α} (hl : l.length ≤ 24) (h : ∀ a ∈ l,(f a).length ≤ n) : (E3 f l).length ≤ 1 + l.length * n:=by
  unfold E3
  rw [ZfR (by omega),List.length_append,List.length_singleton]
  have:=ZW h
  omega
theorem ZfS {r : Rs} (h : gRs r) : (eRs r).length ≤ 155:=by
  have h1:=Fb (f:=ePr) (n:=34) (l:=r.2.2) (by have:=h.2.1; omega) fun p hp=>ZX (h.2.2 p hp)
  have h2:=Wv (ks:=[r.2.1]) fun k hk=>by
    simp only [List.mem_cons,List.not_mem_nil,or_false] at hk
    rw [hk]
    exact h.1
  simp only [List.length_cons,List.length_nil] at h2
  simp only [eRs,List.length_append,List.length_singleton]
  have:=h.2.1
  have : r.2.2.length * 34 ≤ 4 * 34:=Nat.mul_le_mul_right _ this
  omega
theorem ZdW {m : Ms} {p : BL × Nat × Nat × Nat} (h : MsGood m p) (c : Int) : (wOf m c).length ≤ 3721:=by
  unfold wOf
  cases hq : (wTab m).find? fun p=>p.1 == c with
  | none=>simp
  | some q =>
    have hm:=List.mem_of_find?_eq_some hq
    simp only [Option.map_some,Option.getD_some]
    simp only [wTab,List.mem_cons,List.not_mem_nil,or_false] at hm
    have he : ∀ n,(eN n).length ≤ 10:=fun n=>JX
    have ho:=Fb (f:=eOpW) (n:=70) h.ops.1 fun o ho=>Zcu (h.ops.2 o ho)
    have hs:=Fb (f:=eRs) (n:=155) h.res.1 fun o ho=>ZfS (h.res.2 o ho)
    have hw:=Fb (f:=eOwW) (n:=18) (by have:=h.own.1; omega) fun o ho=>Zcv (h.own.2 o ho)
    have hr:=ZX h.rg
    have h1:=h.ops.1
    have h2:=h.res.1
    have h3:=h.own.1
    rcases hm with rfl | rfl | rfl | rfl | rfl | rfl | rfl | rfl | rfl | rfl | rfl | rfl | rfl | rfl | rfl | rfl
    all_goals first
      | exact Nat.le_trans (he _) (by decide)
      | (simp only [List.length_singleton]; decide)
      | (unfold ePr at hr; simp only; omega)
      | (simp only; omega)
theorem ZfT {m : Ms} {p : BL × Nat × Nat × Nat} (h : MsGood m p) {c : Int} (hc : c ≠ 115∧c ≠ 111) : (wOf m c).length ≤ 110:=by
  unfold wOf
  cases hq : (wTab m).find? fun p=>p.1 == c with
  | none=>simp
  | some q =>
    have hm:=List.mem_of_find?_eq_some hq
    have hq2 : q.1 = c:=by simpa using List.find?_some hq
    simp only [Option.map_some,Option.getD_some]
    simp only [wTab,List.mem_cons,List.not_mem_nil,or_false] at hm
    have he : ∀ n,(eN n).length ≤ 10:=fun n=>JX
    have hw:=Fb (f:=eOwW) (n:=18) (by have:=h.own.1; omega) fun o ho=>Zcv (h.own.2 o ho)
    have hr:=ZX h.rg
    have h3:=h.own.1
    rcases hm with rfl | rfl | rfl | rfl | rfl | rfl | rfl | rfl | rfl | rfl | rfl | rfl | rfl | rfl | rfl | rfl
    all_goals first
      | exact Nat.le_trans (he _) (by decide)
      | (simp only [List.length_singleton]; decide)
      | (exfalso; simp only at hq2; omega)
      | (unfold ePr at hr; simp only; omega)
      | (simp only; omega)
theorem ZdX {m : Ms} {p : BL × Nat × Nat × Nat} (h : MsGood m p) : (wOf m 111).length ≤ 1681:=by
  have ho:=Fb (f:=eOpW) (n:=70) h.ops.1 fun o ho=>Zcu (h.ops.2 o ho)
  have h1:=h.ops.1
  show (E3 eOpW m.ops).length ≤ 1681
  omega
theorem Ww {m : Ms} (he : eMs m = 0) : (Dx m).length ≤ 4096:=by
  obtain ⟨p,h⟩:=ZV he
  have hm:=D8 h.form
  unfold Dx
  rw [h.form]
  simp only [List.length_append,List.length_cons,List.length_nil]
  have big:=fun c=>ZdW h c
  have sm:=fun c hc=>ZfT h (c:=c) hc
  have key : ((lets p.1).flatMap (wOf m)).length ≤ 4093:=by
    clear he
    simp only [AF,List.mem_cons,List.not_mem_nil,or_false,Prod.mk.injEq] at hm
    have e1:=fun (c : Int)=>sm c
    rcases hm with ⟨_,rfl⟩ | ⟨_,rfl⟩ | ⟨_,rfl⟩ | ⟨_,rfl⟩ | ⟨_,rfl⟩ | ⟨_,rfl⟩ | ⟨_,rfl⟩ | ⟨_,rfl⟩ | ⟨_,rfl⟩ | ⟨_,rfl⟩ | ⟨_,rfl⟩ | ⟨_,rfl⟩ | ⟨_,rfl⟩ | ⟨_,rfl⟩
    all_goals
      simp only [lets,List.map_cons,List.map_nil,List.flatMap_cons,List.flatMap_nil,List.length_append,List.length_nil,List.append_nil]
      have a1:=big 115
      have a2:=ZdX h
      have b1:=sm 113 (by decide)
      have b2:=sm 98 (by decide)
      have b3:=sm 116 (by decide)
      have b4:=sm 108 (by decide)
      have b5:=sm 118 (by decide)
      have b6:=sm 101 (by decide)
      have b7:=sm 109 (by decide)
      have b8:=sm 97 (by decide)
      have b9:=sm 110 (by decide)
      have b10:=sm 99 (by decide)
      have b11:=sm 112 (by decide)
      have b12:=sm 102 (by decide)
      have b13:=sm 114 (by decide)
      have b14:=sm 119 (by decide)
      first | exact Nat.le_trans (Nat.le_of_eq rfl) (by omega) | (simp only [show (((113 : UInt8).toNat : Nat) : Int) = 113 from rfl,show (((98 : UInt8).toNat : Nat) : Int) = 98 from rfl,show (((116 : UInt8).toNat : Nat) : Int) = 116 from rfl,show (((108 : UInt8).toNat : Nat) : Int) = 108 from rfl,show (((118 : UInt8).toNat : Nat) : Int) = 118 from rfl,show (((101 : UInt8).toNat : Nat) : Int) = 101 from rfl,show (((109 : UInt8).toNat : Nat) : Int) = 109 from rfl,show (((97 : UInt8).toNat : Nat) : Int) = 97 from rfl,show (((110 : UInt8).toNat : Nat) : Int) = 110 from rfl,show (((99 : UInt8).toNat : Nat) : Int) = 99 from rfl,show (((112 : UInt8).toNat : Nat) : Int) = 112 from rfl,show (((102 : UInt8).toNat : Nat) : Int) = 102 from rfl,show (((114 : UInt8).toNat : Nat) : Int) = 114 from rfl,show (((111 : UInt8).toNat : Nat) : Int) = 111 from rfl,show (((115 : UInt8).toNat : Nat) : Int) = 115 from rfl,show (((119 : UInt8).toNat : Nat) : Int) = 119 from rfl]; omega)
  omega
end Go.Proofs.YtmbhnbladmpnoaaGreat.Ab

/- Messages are read: bytes,numbers,flags; the program's reader and the document's. -/
namespace Go.Proofs.YtmbhnbladmpnoaaGreat.Ab
open Go
def Hl : Par Nat:=fun r=>match r with
  | []=>.error 10
  | c :: r=>.ok (c.toNat,r)
def GT : Par Nat:=fun r=>if (Au r).2.2 ≠ 0 then .error (Au r).2.2 else .ok ((Au r).1,r.drop (Au r).2.1)
def ZbQ : Par Nat:=GT.bind fun n=>if 255 < n then .fail 11 else .pure n
def Q6 : Par Bool:=Hl.bind fun n=>if 1 < n then .fail 11 else .pure (n == 1)
def pTx : Par BL:=fun r=>if (AA r 255).2.2 = 2 then .error 11 else if (AA r 255).2.2 ≠ 0 then .error (AA r 255).2.2 else .ok ((AA r 255).1,r.drop (AA r 255).2.1)
theorem XM (l : BL) (m : Int) : (AA l m).2.2 = 0→(AA l m).2.1 ≤ l.length:=by
  unfold AA
  have:=EC l
  generalize Au l = r at *
  obtain ⟨n,k,e⟩:=r
  simp only at this ⊢
  split
  · intro h; rename_i h2; exact absurd h h2
  · rename_i h2
    have:=this (by simpa using h2)
    split
    · intro h; cases h
    · split
      · intro h; cases h
      · intro _; simp only; omega
theorem Uk (l : BL) (m : Int) (hm : 0 ≤ m) : ((AA l m).1.length : Int) ≤ m:=by
  unfold AA
  generalize Au l = r
  obtain ⟨n,k,e⟩:=r
  simp only
  split
  · simpa using hm
  · split
    · simpa using hm
    · split
      · simpa using hm
      · simp; omega
theorem ret0 {s : St} : retV [] s = some (undef,s):=rfl
theorem Pf.run {α : Type} {N : Nat} {f g : St→Option (Value × St)} {ag : Bool} {O : OCod α} {p : Par α} (h : Pf N f ag O p) (hfg : ∀ s r,f s = some r→g s = some r) : Pf N g ag O p:=by
  intro s x hx
  obtain ⟨a,u,cs,s',y,g1,g2⟩:=h s x hx
  exact ⟨a,u,cs,s',y,hfg s _ g1,g2⟩
theorem CY {k : IntKind} {m lo hi a : Nat} {s : St} {u : Value} {cs : List Value} (h : (oNat k m).own lo hi a s cs) (g : Nq false u cs) : u = .int k (a : Int)∧a ≤ m:=by
  obtain ⟨h1,h2⟩:=h
  have g : cs = [u]:=g
  rw [g] at h1
  exact ⟨(List.cons.inj h1).1,h2⟩
theorem Ul {lo hi : Nat} {a : Bool} {s : St} {u : Value} {cs : List Value} (h : (OCod.ofC blnC fun _=>True).own lo hi a s cs) (g : Nq false u cs) : u = .bool a:=by
  obtain ⟨h1,h2⟩:=h
  have g : cs = [u]:=g
  rw [g] at h1
  exact (List.cons.inj h1).1
theorem Um (b : Bool) (lo hi : Nat) (s : St) : (OCod.ofC blnC fun _=>True).own lo hi b s [.bool b]:=⟨rfl,trivial⟩
section
variable {N : Nat} {s : St} {v : Value} {x : BL × Int}
theorem Bx (h : RdV N s v x) (hx : x.2 = 0) (e : Int) : (run Tryz.prog (libL libT) Ad) 36 [rp N,.int .i64 e] s = some (undef,setR N v e s):=by
  have hz : (x.2 == 0) = true:=by simp [hx]
  refine Fu rfl ?_
  unfold EM
  simp only [Cz,EB,h.ld1,h.st1,hz,ret0,EVs]
theorem J6 (h : RdV N s v x) (hx : x.2 ≠ 0) (e : Int) : (run Tryz.prog (libL libT) Ad) 36 [rp N,.int .i64 e] s = some (undef,s):=by
  have hz : (x.2 == 0) = false:=by simp [hx]
  refine Fu rfl ?_
  unfold EM
  simp only [Cz,EB,h.ld1,h.st1,hz,ret0,EVs]
theorem Dn (h : RdV N s v x) (e : Int) (he : e ≠ 0) : ∃ s' y,(run Tryz.prog (libL libT) Ad) 36 [rp N,.int .i64 e] s = some (undef,s')∧Rd N s' y∧Keep (some N) s s'∧y.2 = if x.2 = 0 then e else x.2:=by
  by_cases hx : x.2 = 0
  · exact ⟨_,(x.1,e),Bx h hx e,h.seterr e,CM,by rw [if_pos hx]⟩
  · exact ⟨s,x,J6 h hx e,⟨v,h⟩,.refl _ _,by rw [if_neg hx]⟩
end
theorem ER {N : Nat} : Pf N (fun s=>(run Tryz.prog (libL libT) Ad) 144 [rp N] s) false (oNat .u64 18446744073709551615) GT:=by
  intro s x ⟨v,h⟩
  have hr1 : ∀ (n : Int) (s : St),retV [.int .u64 n] s = some (.int .u64 n,s):=fun n s=>ret1 rfl
  by_cases hx : x.2 = 0
  · have hz : (x.2 != 0) = false:=by simp [hx]
    have hrk:=EC x.1
    have hk:=kRN h.byt
    have hlt:=GR x.1
    by_cases he : (Au x.1).2.2 = 0
    · have h2 : ((0 : Int) != 0) = false:=rfl
      rw [he] at hk
      obtain ⟨u,g1,g2,g3⟩:=h.drop (hrk he).2 (k:=.i64)
      refine ⟨(Au x.1).1,.int .u64 ((Au x.1).1 : Int),_,_,(x.1.drop (Au x.1).2.1,x.2),D5 rfl ?_,g3,CM,rfl,⟨rfl,by omega⟩,.of_ok hx (by unfold GT; rw [if_neg (by simp [he])]) (by rw [hx])⟩
      unfold D4
      simp only [Cz,EB,Sy,h.ld1,h.ld0,hz,CW,hk,x3_0,x3_1,x3_2,h2,g1,g2,hr1,EVs]
    · have h2 : ((Au x.1).2.2 != 0) = true:=by simp [he]
      refine ⟨0,.int .u64 0,_,_,(x.1,(Au x.1).2.2),D5 rfl ?_,h.seterr _,CM,rfl,⟨rfl,Nat.zero_le _⟩,.of_err hx (by unfold GT; rw [if_pos he]) he rfl⟩
      unfold D4
      simp only [Cz,EB,Sy,h.ld1,h.ld0,hz,CW,hk,x3_0,x3_1,x3_2,h2,A6,Bx h hx,hr1,EVs]
  · have hz : (x.2 != 0) = true:=by simp [hx]
    refine ⟨0,.int .u64 0,_,s,x,D5 rfl ?_,⟨v,h⟩,.refl _ _,rfl,⟨rfl,Nat.zero_le _⟩,.stuck hx rfl⟩
    unfold D4
    simp only [Cz,EB,h.ld1,hz,hr1,EVs]
section
variable {N : Nat} {s : St} {v : Value} {x : BL × Int}
end
section
variable {N : Nat} {s : St} {v : Value} {x : BL × Int} (h : RdV N s v x)
include h
theorem J7 : ∃ (a : Nat) (s' : St) (y : BL × Int),(run Tryz.prog (libL libT) Ad) 35 [rp N] s = some (.int .i64 (a : Int),s')∧Rd N s' y∧Keep (some N) s s'∧a ≤ 255∧Does Hl x a y:=by
  have hr1 : ∀ (n : Int) (s : St),retV [.int .i64 n] s = some (.int .i64 n,s):=fun n s=>ret1 rfl
  by_cases hx : x.2 = 0
  · have hz : (x.2 == 0) = true:=by simp [hx]
    have hz2 : (x.2 != 0) = false:=by simp [hx]
    cases hl : x.1 with
    | nil =>
      have h1 : (((x.1.length : Nat) : Int) == 0) = true:=by rw [hl]; rfl
      have h3 : ((10 : Int) != 0) = true:=rfl
      obtain ⟨v',h'⟩:=h.seterr 10
      have l1:=h'.ld1
      refine ⟨0,_,(x.1,10),DF rfl ?_,⟨v',h'⟩,CM,Nat.zero_le _,.of_err hx (by rw [hl]; rfl) (e:=10) (by decide) rfl⟩
      unfold Bh
      simp only [Cz,EB,Sy,h.ld1,h.ld0,hz,AW h.byt,h1,BY,Bh.j0,A6,Bx h hx 10,l1,h3,hr1,Bool.true_and,EVs]
      rfl
    | cons c r =>
      have h1 : (((x.1.length : Nat) : Int) == 0) = false:=by rw [hl]; simp; omega
      obtain ⟨p,f1,f2⟩:=CU h.byt (i:=0) (by rw [hl]; simp) (k:=.i64)
      obtain ⟨u,g1,g2,g3⟩:=h.drop (i:=1) (by rw [hl]; simp) (k:=.i64)
      have hc : x.1[0]'(by rw [hl]; simp) = c:=by simp [hl]
      rw [hc] at f2
      have f1' : Az 1 v (.int .i64 0) = some p:=f1
      have g1' : Bn 1 v (some (.int .i64 1)) none none = some u:=g1
      have hc8 : c.toNat < 256:=c.toNat_lt
      have hw : IntKind.wrap .i64 ((c.toNat : Nat) : Int) = ((c.toNat : Nat) : Int):=wrap_i64 (by omega) (by omega)
      refine ⟨c.toNat,_,(x.1.drop 1,x.2),DF rfl ?_,g3,CM,by omega,.of_ok (r0:=r) hx (by rw [hl]; rfl) (by rw [hx,hl]; rfl)⟩
      unfold Bh
      simp only [Cz,EB,Sy,h.ld1,h.ld0,hz,hz2,AW h.byt,h1,BY,Bh.j0,f1',f2,g1',g2,hw,hr1,Bool.true_and,EVs]
  · have hz : (x.2 == 0) = false:=by simp [hx]
    have hz2 : (x.2 != 0) = true:=by simp [hx]
    refine ⟨0,s,x,DF rfl ?_,⟨v,h⟩,.refl _ _,Nat.zero_le _,.stuck hx rfl⟩
    unfold Bh
    simp only [Cz,EB,Sy,h.ld1,hz,hz2,BY,Bh.j0,hr1,Bool.false_and,EVs]
    rfl
end
theorem A8 {N : Nat} : Pf N (fun s=>(run Tryz.prog (libL libT) Ad) 35 [rp N] s) false (oNat .i64 255) Hl:=by
  intro s x ⟨v,h⟩
  obtain ⟨a,s',y,h1,h2,h3,h4,h5⟩:=J7 h
  exact ⟨a,_,_,s',y,h1,h2,h3,rfl,⟨rfl,h4⟩,h5⟩
theorem Ci {N : Nat} : Pf N (fun s=>(run Tryz.prog (libL libT) Ad) 153 [rp N] s) false (oNat .i64 255) ZbQ:=by
  intro s x hx
  obtain ⟨a,u1,c1,s1,y1,f1,f2,f3,f4,f5,f6⟩:=ER s x hx
  obtain ⟨rfl,h⟩:=CY f5 f4
  have f1 : (run Tryz.prog (libL libT) Ad) 144 [rp N] s = some (.int .u64 (a : Int),s1):=f1
  have hr1 : ∀ (n : Int) (s : St),retV [.int .i64 n] s = some (.int .i64 n,s):=fun n s=>ret1 rfl
  by_cases ha : 255 < a
  · have hd : decide ((a : Int) > 255) = true:=by simp; omega
    obtain ⟨v,h2⟩:=f2
    obtain ⟨s2,y2,g1,g2,g3,g4⟩:=Dn h2 11 (by decide)
    refine ⟨0,.int .i64 0,_,s2,y2,FB rfl ?_,g2,f3.trans g3,rfl,⟨rfl,Nat.zero_le _⟩,f6.bind ?_⟩
    · unfold EN
      simp only [Dj,f1,hd,A6,g1,hr1,EVs]
    · rw [if_pos ha]
      exact .fail (by decide) g4
  · have hd : decide ((a : Int) > 255) = false:=by simp; omega
    have hw : IntKind.wrap .i64 (a : Int) = (a : Int):=wrap_i64 (by omega) (by omega)
    refine ⟨a,.int .i64 (a : Int),_,s1,y1,FB rfl ?_,f2,f3,rfl,⟨rfl,by omega⟩,f6.bind ?_⟩
    · unfold EN
      simp only [Dj,f1,hd,hw,hr1,EVs]
    · rw [if_neg ha]
      exact .pure
theorem EF {N : Nat} : Pf N (fun s=>(run Tryz.prog (libL libT) Ad) 84 [rp N] s) false (.ofC blnC fun _=>True) Q6:=by
  intro s x hx
  obtain ⟨a,u1,c1,s1,y1,f1,f2,f3,f4,f5,f6⟩:=A8 s x hx
  obtain ⟨rfl,h⟩:=CY f5 f4
  have f1 : (run Tryz.prog (libL libT) Ad) 35 [rp N] s = some (.int .i64 (a : Int),s1):=f1
  have hr1 : ∀ (b : Bool) (s : St),retV [.bool b] s = some (.bool b,s):=fun n s=>ret1 rfl
  have hce : ((a : Int) == 1) = (a == 1):=by
    rw [Bool.eq_iff_iff]
    simp only [beq_iff_eq]
    omega
  by_cases ha : 1 < a
  · have hd : decide ((a : Int) > 1) = true:=by simp; omega
    obtain ⟨v,h2⟩:=f2
    obtain ⟨s2,y2,g1,g2,g3,g4⟩:=Dn h2 11 (by decide)
    refine ⟨a == 1,.bool (a == 1),[.bool (a == 1)],s2,y2,Fw rfl ?_,g2,f3.trans g3,rfl,Um _ _ _ _,f6.bind ?_⟩
    · unfold BA
      simp only [Be,f1,hd,A6,g1,BY,BA.j0,hce,hr1,EVs]
    · rw [if_pos ha]
      exact .fail (by decide) g4
  · have hd : decide ((a : Int) > 1) = false:=by simp; omega
    refine ⟨a == 1,.bool (a == 1),[.bool (a == 1)],s1,y1,Fw rfl ?_,f2,f3,rfl,Um _ _ _ _,f6.bind ?_⟩
    · unfold BA
      simp only [Be,f1,hd,BY,BA.j0,hce,hr1,EVs]
    · rw [if_neg ha]
      exact .pure
end Go.Proofs.YtmbhnbladmpnoaaGreat.Ab

/- Messages are read: texts through pointers. -/
namespace Go.Proofs.YtmbhnbladmpnoaaGreat.Ab
open Go
def ZY (cells : List Value) : List Nat→List BL→List Value
  | j :: js,n :: ns=>ZY (cells.set j (sv n)) js ns
  | _,_=>cells
def Is (B : Nat) (js : List Nat) : List Value:=js.map fun j=>.pointer (some ⟨B,j,none⟩)
theorem Hm {α : Type} {l : List α} {j : Nat} {a : α} (h : l[j]? = some a) : l.set j a = l:=by
  apply List.ext_getElem?
  intro i
  by_cases hij : j = i
  · subst hij
    rw [List.getElem?_set_self (List.getElem?_eq_some_iff.1 h).1,h]
  · rw [List.getElem?_set_ne hij]
theorem IQ : ∀ {rest : List Nat} {cells : List Value},(∀ j ∈ rest,∃ t : BL,cells[j]? = some (sv t)∧t.length ≤ 255)→∃ ns : List BL,ns.length = rest.length∧ZY cells rest ns = cells∧∀ n ∈ ns,n.length ≤ 255
  | [],cells,_=>⟨[],rfl,rfl,fun n hn=>by cases hn⟩
  | j :: rest,cells,h=>by
    obtain ⟨t,ht,htl⟩:=h j (List.mem_cons_self ..)
    obtain ⟨ns,h1,h2,h3⟩:=IQ (rest:=rest) (cells:=cells) fun i hi=>h i (List.mem_cons_of_mem _ hi)
    exact ⟨t :: ns,by simp [h1],by rw [ZY,Hm ht,h2],fun n hn=>by
      rcases List.mem_cons.1 hn with rfl | hn
      · exact htl
      · exact h3 n hn⟩
def BX (N B : Nat) (s t : St) : Prop:=s.heap.length ≤ t.heap.length∧∀ c,c < s.heap.length→c ≠ N→c ≠ B→t.heap[c]? = s.heap[c]?
theorem BX.refl (N B : Nat) (s : St) : BX N B s s:=⟨Nat.le_refl _,fun _ _ _ _=>rfl⟩
theorem BX.trans {N B : Nat} {s t u : St} (h : BX N B s t) (g : BX N B t u) : BX N B s u:=⟨Nat.le_trans h.1 g.1,fun c h1 h2 h3=>(g.2 c (Nat.lt_of_lt_of_le h1 h.1) h2 h3).trans (h.2 c h1 h2 h3)⟩
theorem BX.of1 {N B : Nat} {s t : St} (h : Keep (some N) s t) : BX N B s t:=⟨h.1,fun c h1 h2 _=>h.2 c h1 fun e=>h2 (Option.some.inj e).symm⟩
theorem EG {N B : Nat} {s : St} {X : Blk} : BX N B s (s.putB B X):=⟨by rw [BM]; exact Nat.le_refl _,fun c _ _ h=>Cl h⟩
theorem CQ {N B : Nat} {s : St} {X : Blk} : BX N B s (s.push X):=⟨by rw [AL]; omega,fun c h _ _=>Db h⟩
theorem BX.keep {N B : Nat} {s s0 t : St} (h : BX N B s t) (h0 : Keep (some N) s0 s) (hB : s0.heap.length ≤ B) : Keep (some N) s0 t :=
  ⟨Nat.le_trans h0.1 h.1,fun c h1 h2=>(h.2 c (Nat.lt_of_lt_of_le h1 h0.1) (fun e=>h2 (by rw [e])) (by omega)).trans (h0.2 c h1 h2)⟩
theorem RdV.keep {N : Nat} {s t : St} {v : Value} {x : BL × Int} (h : RdV N s v x) (k : ∀ b,b ≤ N→t.heap[b]? = s.heap[b]?) : RdV N t v x :=
  ⟨by rw [k N (Nat.le_refl _)]; exact h.blk,QW h.byt fun c hc=>k c (Nat.le_of_lt (h.apart c hc)),h.apart,h.small⟩
theorem Wx {s : St} {v : Value} : ownR s (v,s) = some (v,s):=by unfold ownR; rw [if_pos (Nat.le_refl _)]
theorem Jm {s t : St} {v : Value} (h : s.heap.length ≤ t.heap.length) : ownR s (v,t) = some (v,t):=by unfold ownR; rw [if_pos h]
theorem NG {α : Type} {l rest : List α} {o : α} {i : Nat} (h : l.drop i = o :: rest) : ∃ hi : i < l.length,l[i] = o∧l.drop (i + 1) = rest:=by
  have hi : i < l.length:=by
    rcases Nat.lt_or_ge i l.length with g | g
    · exact g
    · rw [List.drop_eq_nil_of_le g] at h; cases h
  have:=List.drop_eq_getElem_cons hi
  rw [h] at this
  exact ⟨hi,(List.cons.inj this).1.symm,(List.cons.inj this).2.symm⟩
theorem XN {N B P : Nat} {full : List Nat} (hl : full.length ≤ 100) (hB : N < B) (hPB : P ≠ B) (hPN : P ≠ N) : ∀ (rest : List Nat) (i : Nat) (s : St) (x : BL × Int) (cells : List Value),full.drop i = rest→i ≤ full.length→Rd N s x→s.heap[B]? = some (.row 0 cells .act)→s.heap[P]? = some (.row 1 (Is B full) .act)→(∀ j ∈ full,∃ t : BL,cells[j]? = some (sv t)∧t.length ≤ 255) →
    ∃ (ns : List BL) (s' : St) (y : BL × Int) (e : Ex),AS (AH.b0 (run Tryz.prog (libL libT) Ad)) [rp N,.slice (some ⟨P,0,none⟩) full.length full.length,.int .i64 ((full.length : Nat) : Int),.int .i64 (i : Int)] s = some (e,[],s')∧(e = .exit 0 ∨ e = .ret)∧(ns.length = rest.length∧∀ n ∈ ns,n.length ≤ 255)∧Rd N s' y∧s'.heap[B]? = some (.row 0 (ZY cells rest ns) .act)∧BX N B s s'∧Does (pTx.rep rest.length) x ns y:=by
  intro rest
  induction rest with
  | nil =>
    intro i s x cells hi hle hx hrow hptr hj
    have h1 : decide ((i : Int) < ((full.length : Nat) : Int)) = false:=by
      have:=List.drop_eq_nil_iff.1 hi
      simp; omega
    refine ⟨[],s,x,.exit 0,?_,.inl rfl,⟨rfl,fun n hn=>by cases hn⟩,hx,hrow,.refl _ _ _,.pure⟩
    rw [Ar]
    simp only [AH.b0,h1,EVs]
  | cons j rest ih =>
    intro i s x cells hi hle hx hrow hptr hj
    obtain ⟨hlt,he,hd⟩:=NG hi
    have h1 : decide ((i : Int) < ((full.length : Nat) : Int)) = true:=by simp; omega
    have h2 : Az 1 (.slice (some ⟨P,0,none⟩) full.length full.length) (.int .i64 (i : Int)) = some (.pointer (some ⟨P,i,none⟩)):=by simp [Az]; omega
    have h3 : Aj false 1 (.pointer (some ⟨P,i,none⟩)) s = some (.pointer (some ⟨B,j,none⟩)):=Sz hptr (by simp) (by
      unfold Is
      rw [List.getElem?_map,List.getElem?_eq_getElem hlt,he]
      rfl)
    have hsub : ∀ i ∈ j :: rest,i ∈ full:=fun i hi2=>by
      rw [← hi] at hi2
      exact List.mem_of_mem_drop hi2
    have hnil : Ah (.pointer (some ⟨B,j,none⟩)) = some (.pointer (some ⟨B,j,none⟩)):=rfl
    obtain ⟨v,h⟩:=hx
    by_cases hx : x.2 = 0
    · have hz : (x.2 != 0) = false:=by simp [hx]
      have hk:=kRT h.byt h.small
      have hrk:=XM x.1 255
      by_cases he2 : (AA x.1 255).2.2 = 2
      · have g1 : ((2 : Int) == 2) = true:=rfl
        have g3 : ((11 : Int) != 0) = true:=rfl
        rw [he2] at hk
        obtain ⟨ns,k1,k2,k9⟩:=IQ (rest:=j :: rest) (cells:=cells) fun i hi=>hj i (hsub i hi)
        refine ⟨ns,setR N v 11 s,(x.1,11),.ret,?_,.inr rfl,⟨k1,k9⟩,h.seterr 11,by rw [k2]; unfold setR; rw [Cl (by omega)]; exact hrow,.of1 CM,.of_err hx (e:=11) (by simp only [List.length_cons,Par.rep,Par.bind,pTx,he2,if_true]) (by decide) rfl⟩
        rw [Ar]
        simp only [AH.b0,h1,h2,h3,Cz,EB,Sy,h.ld1,h.ld0,hz,DH,hk,xT_0,xT_1,xT_2,g1,BY,AH.j0,g3,A6,Bx h hx 11,EVs]
      · have g1 : ((AA x.1 255).2.2 == 2) = false:=by simp [he2]
        by_cases hee : (AA x.1 255).2.2 = 0
        · have g3 : ((0 : Int) != 0) = false:=rfl
          have g1' : ((0 : Int) == 2) = false:=rfl
          rw [hee] at hk
          have hjc:=hj j (hsub j (List.mem_cons_self ..))
          obtain ⟨t0,ht0,_⟩:=hjc
          have hrl:=Uk x.1 255 (by decide)
          have hjl : j < cells.length:=(List.getElem?_eq_some_iff.1 ht0).1
          have hst:=Dm hrow hjl (v:=sv (AA x.1 255).1) rfl rfl
          have hBl : B < s.heap.length:=(List.getElem?_eq_some_iff.1 hrow).1
          have hS1 : RdV N (s.putB B (.row 0 (cells.set j (sv (AA x.1 255).1)) .act)) v x:=h.keep fun c hc=>Cl (by omega)
          have hrow1 : (s.putB B (.row 0 (cells.set j (sv (AA x.1 255).1)) .act)).heap[B]? = some (.row 0 (cells.set j (sv (AA x.1 255).1)) .act):=CX hBl
          have hptr1 : (s.putB B (.row 0 (cells.set j (sv (AA x.1 255).1)) .act)).heap[P]? = some (.row 1 (Is B full) .act):=by rw [Cl hPB]; exact hptr
          have hk1 : BX N B s (s.putB B (.row 0 (cells.set j (sv (AA x.1 255).1)) .act)):=EG
          have hlen1 : s.heap.length ≤ (s.putB B (.row 0 (cells.set j (sv (AA x.1 255).1)) .act)).heap.length:=by rw [BM]; exact Nat.le_refl _
          generalize s.putB B (.row 0 (cells.set j (sv (AA x.1 255).1)) .act) = s1 at *
          obtain ⟨u,d1,d2,d3⟩:=hS1.drop (hrk hee) (k:=.i64)
          have o1 : ownR s (undef,s1) = some (undef,s1):=Jm hlen1
          have o2 : ownR s1 (undef,setR N u x.2 s1) = some (undef,setR N u x.2 s1):=Jm (by unfold setR; rw [BM]; exact Nat.le_refl _)
          obtain ⟨ns,s',y,e,k1,k2,k3,k4,k5,k6,k7⟩:=ih (i + 1) (setR N u x.2 s1) (x.1.drop (AA x.1 255).2.1,x.2) (cells.set j (sv (AA x.1 255).1)) hd (by omega) d3 (by unfold setR; rw [Cl (by omega)]; exact hrow1) (by unfold setR; rw [Cl hPN]; exact hptr1) (fun i hi=>by
            by_cases hij : j = i
            · subst hij
              exact ⟨_,List.getElem?_set_self hjl,by omega⟩
            · obtain ⟨t,ht,htl⟩:=hj i hi
              exact ⟨t,by rw [List.getElem?_set_ne hij]; exact ht,htl⟩)
          refine ⟨(AA x.1 255).1 :: ns,s',y,e,?_,k2,⟨by simp [k3.1],fun n hn=>by
            rcases List.mem_cons.1 hn with rfl | hn
            · omega
            · exact k3.2 n hn⟩,k4,k5,hk1.trans ((BX.of1 CM).trans k6),?_⟩
          · rw [Ar]
            simp only [AH.b0,h1,h2,h3,Cz,EB,Sy,h.ld1,h.ld0,hz,DH,hk,xT_0,xT_1,xT_2,g1',BY,AH.j0,g3,Wx,d1,hnil,hst,o1,d2,o2,Ej (show i < 140737488355328 by omega),EVs]
            exact k1
          · have hp : Does pTx x (AA x.1 255).1 (x.1.drop (AA x.1 255).2.1,x.2):=.of_ok hx (by unfold pTx; rw [if_neg he2,if_neg (by simp [hee])]) (by rw [hx])
            exact hp.cons k7
        · have g3 : ((AA x.1 255).2.2 != 0) = true:=by simp [hee]
          obtain ⟨ns,k1,k2,k9⟩:=IQ (rest:=j :: rest) (cells:=cells) fun i hi=>hj i (hsub i hi)
          refine ⟨ns,setR N v (AA x.1 255).2.2 s,(x.1,(AA x.1 255).2.2),.ret,?_,.inr rfl,⟨k1,k9⟩,h.seterr _,by rw [k2]; unfold setR; rw [Cl (by omega)]; exact hrow,.of1 CM,.of_err hx (e:=(AA x.1 255).2.2) (by simp only [List.length_cons,Par.rep,Par.bind,pTx]; rw [if_neg he2,if_pos hee]) hee rfl⟩
          rw [Ar]
          simp only [AH.b0,h1,h2,h3,Cz,EB,Sy,h.ld1,h.ld0,hz,DH,hk,xT_0,xT_1,xT_2,g1,BY,AH.j0,g3,A6,Bx h hx,EVs]
    · have hz : (x.2 != 0) = true:=by simp [hx]
      obtain ⟨ns,k1,k2,k9⟩:=IQ (rest:=j :: rest) (cells:=cells) fun i hi=>hj i (hsub i hi)
      refine ⟨ns,s,x,.ret,?_,.inr rfl,⟨k1,k9⟩,⟨v,h⟩,by rw [k2]; exact hrow,.refl _ _ _,.stuck hx rfl⟩
      rw [Ar]
      simp only [AH.b0,h1,h2,h3,Cz,EB,h.ld1,hz,EVs]
theorem It {N B P n : Nat} {full : List Nat} {s : St} {x : BL × Int} {cells : List Value} (hn : full.length = n) (hl : n ≤ 100) (hB : N < B) (hPB : P ≠ B) (hPN : P ≠ N) (hx : Rd N s x) (hrow : s.heap[B]? = some (.row 0 cells .act)) (hptr : s.heap[P]? = some (.row 1 (Is B full) .act)) (hj : ∀ j ∈ full,∃ t : BL,cells[j]? = some (sv t)∧t.length ≤ 255) :
    ∃ (ns : List BL) (s' : St) (y : BL × Int),(run Tryz.prog (libL libT) Ad) 89 [rp N,.slice (some ⟨P,0,none⟩) n n] s = some (undef,s')∧(ns.length = n∧∀ n ∈ ns,n.length ≤ 255)∧Rd N s' y∧s'.heap[B]? = some (.row 0 (ZY cells full ns) .act)∧BX N B s s'∧Does (pTx.rep n) x ns y:=by
  subst hn
  obtain ⟨ns,s',y,e,k1,k2,k3,k4,k5,k6,k7⟩:=XN hl hB hPB hPN full 0 s x cells rfl (Nat.zero_le _) hx hrow hptr hj
  refine ⟨ns,s',y,IW rfl ?_,k3,k4,k5,k6,k7⟩
  rw [show ((0 : Nat) : Int) = 0 from rfl] at k1
  have hal : ∀ ty t,AG (.slice ty) (.slice (some ⟨P,0,none⟩) full.length full.length) t = some (.int .i64 ((full.length : Nat) : Int)):=fun _ _=>rfl
  unfold AH
  rcases k2 with rfl | rfl
  · simp only [hal,k1,ret0,EVs]
  · simp only [hal,k1,ret0,EVs]
end Go.Proofs.YtmbhnbladmpnoaaGreat.Ab

/- Messages are read: operations,owners,results. -/
namespace Go.Proofs.YtmbhnbladmpnoaaGreat.Ab
open Go
abbrev oPr : OCod Rg:=.ofC prC fun _=>True
abbrev oOw : OCod Ow:=.ofC owC fun _=>True
abbrev oOp : OCod OpT:=.ofC opC fun _=>True
def oRs : OCod Rs:=.map (.pair (.ofC blnC fun _=>True) (.pair oStr (.pair (oPr.list 32) .unit))) fun r=>(r.1,r.2.1,r.2.2,())
def PG {α : Type} (p : Par α) : Par (List α):=ZbQ.bind fun k=>p.rep k
def pPr : Par Rg:=(pTx.rep 2).bind fun l=>.pure (l.getD 0 [],l.getD 1 [])
def pOp : Par OpT:=Hl.bind fun k=>(pTx.rep 4).bind fun l=>Hl.bind fun m=>.pure ⟨(k : Int),l.getD 0 [],l.getD 1 [],l.getD 2 [],l.getD 3 [],(m : Int)⟩
def pOw : Par Ow:=(pTx.rep 1).bind fun l=>Hl.bind fun n=>.pure (l.getD 0 [],(n : Int))
def pRs : Par Rs:=Q6.bind fun f=>(pTx.rep 1).bind fun l=>(PG pPr).bind fun ps=>.pure (f,l.getD 0 [],ps)
theorem PH {s : St} {X Y : Blk} : (s.push X).putB s.heap.length Y = s.push Y:=by
  simp only [St.push,St.putB]
  congr 1
  simp [List.set_append]
theorem Un {B i j : Nat} : Ac i (.pointer (some ⟨B,j,none⟩)) = some (.pointer (some ⟨B,j + i,none⟩)):=rfl
def opL (k : Int) (a b c d : BL) (m : Int) : List Value:=[.int .i64 k,sv a,sv b,sv c,sv d,.int .i64 m]
theorem Zgt (n : Int) : AV Tryz.prog 69 [(0,.int .i64 n)] = some (.agg (opL n [] [] [] [] 0).toArray):=by kernel_rfl
theorem ZZ {N : Nat} : Pf N (fun s=>(run Tryz.prog (libL libT) Ad) 94 [rp N] s) true oOp pOp:=by
  intro s x hx
  have hN:=hx.lt
  obtain ⟨k,u1,c1,s1,y1,f1,f2,f3,f4,f5,f6⟩:=A8 s x hx
  obtain ⟨rfl,wc⟩:=CY f5 f4
  have f1 : (run Tryz.prog (libL libT) Ad) 35 [rp N] s = some (.int .i64 (k : Int),s1):=f1
  have n1:=f3.1
  have hnw : anew [(.int .i64 0),(.string ⟨#[]⟩),(.string ⟨#[]⟩),(.string ⟨#[]⟩),(.string ⟨#[]⟩),(.int .i64 0)] s1 = some (.pointer (some ⟨s1.heap.length,0,none⟩),s1.push (.row 0 (opL 0 [] [] [] [] 0) .act)):=rfl
  have hst : A4 6 (.pointer (some ⟨s1.heap.length,0,none⟩)) (.agg (opL k [] [] [] [] 0).toArray) (s1.push (.row 0 (opL 0 [] [] [] [] 0) .act)) = some (s1.push (.row 0 (opL k [] [] [] [] 0) .act)) :=
    (IM (vs:=opL k [] [] [] [] 0) (cells:=opL 0 [] [] [] [] 0) AC rfl rfl rfl).trans (by rw [PH])
  have h4 : (s1.push (.row 0 (opL k [] [] [] [] 0) .act)).heap[s1.heap.length]? = some (.row 0 (opL k [] [] [] [] 0) .act):=AC
  have rd4 : Rd N (s1.push (.row 0 (opL k [] [] [] [] 0) .act)) y1:=f2.push
  have fr4 : BX N s1.heap.length s (s1.push (.row 0 (opL k [] [] [] [] 0) .act)):=(BX.of1 f3).trans CQ
  have l4 : (s1.push (.row 0 (opL k [] [] [] [] 0) .act)).heap.length = s1.heap.length + 1:=AL
  generalize hS4 : s1.push (.row 0 (opL k [] [] [] [] 0) .act) = s4 at *
  generalize hB : s1.heap.length = B at *
  have hBl : B < s4.heap.length:=by omega
  obtain ⟨ns,s5,y5,a1,a2,a3,a4,a6,a8⟩:=It (n:=4) (P:=s4.heap.length) (B:=B) (N:=N) (full:=[1,2,3,4]) (s:=s4.push (.row 1 (Is B [1,2,3,4]) .act)) (x:=y1) (cells:=opL k [] [] [] [] 0) rfl (by decide) (by omega) (by omega) (by omega) rd4.push (by rw [Db hBl]; exact h4) AC (by
    intro j hj
    simp only [List.mem_cons,List.not_mem_nil,or_false] at hj
    rcases hj with rfl | rfl | rfl | rfl <;> exact ⟨[],rfl,by decide⟩)
  obtain ⟨a2,a9⟩:=a2
  match ns,a2 with
  | [a,b,c,d],_ =>
    have a4 : s5.heap[B]? = some (.row 0 (opL k a b c d 0) .act):=a4
    have n5:=a6.1
    rw [AL] at n5
    obtain ⟨m,u6,c6,s6,y6,b1,b2,b3,b4,b5,b6⟩:=A8 s5 y5 a3
    obtain ⟨rfl,_⟩:=CY b5 b4
    have b1 : (run Tryz.prog (libL libT) Ad) 35 [rp N] s5 = some (.int .i64 (m : Int),s6):=b1
    have n6:=b3.1
    have h6 : s6.heap[B]? = some (.row 0 (opL k a b c d 0) .act):=by
      rw [b3.2 B (by omega) fun e=>by have:=Option.some.inj e; omega]
      exact a4
    have st3 : A4 1 (.pointer (some ⟨B,5,none⟩)) (.int .i64 (m : Int)) s6 = some (s6.putB B (.row 0 (opL k a b c d m) .act)):=Dm h6 (by simp [opL]) rfl rfl
    have h7 : (s6.putB B (.row 0 (opL k a b c d m) .act)).heap[B]? = some (.row 0 (opL k a b c d m) .act):=CX (by omega)
    have ld7 : Aj true 6 (.pointer (some ⟨B,0,none⟩)) (s6.putB B (.row 0 (opL k a b c d m) .act)) = some (.agg (opL k a b c d m).toArray):=IL h7 (by simp) rfl
    have k5 : AO 6 lptr (.agg (opL k a b c d m).toArray) (.agg #[(.int .i64 0),(.string ⟨#[]⟩),(.string ⟨#[]⟩),(.string ⟨#[]⟩),(.string ⟨#[]⟩),(.int .i64 0)]) = some (.agg (opL k a b c d m).toArray):=rfl
    have k6 : Ap true 6 lptr (.agg (opL k a b c d m).toArray) = some (.agg (opL k a b c d m).toArray):=rfl
    have hsl : As 1 [(.pointer none)] 4 [(0,.pointer (some ⟨B,1,none⟩)),(1,.pointer (some ⟨B,2,none⟩)),(2,.pointer (some ⟨B,3,none⟩)),(3,.pointer (some ⟨B,4,none⟩))] s4 = some (.slice (some ⟨s4.heap.length,0,none⟩) 4 4,s4.push (.row 1 (Is B [1,2,3,4]) .act)):=rfl
    refine ⟨⟨k,a,b,c,d,m⟩,.agg (opL k a b c d m).toArray,opL k a b c d m,s6.putB B (.row 0 (opL k a b c d m) .act),y6,Lx rfl ?_,b2.put (by omega),?_,rfl,⟨rfl,trivial⟩,f6.bind (a8.bind (b6.bind .pure))⟩
    · unfold Jg
      simp only [Be,f1,Zgt,hnw,hst,Un,Nat.zero_add,hsl,BD,a1,b1,st3,ld7,k5,k6,EVs]
      exact ret1 rfl
    · exact (fr4.trans (CQ.trans (a6.trans ((BX.of1 b3).trans EG)))).keep (.refl _ _) n1
def owL (a : BL) (n : Int) : List Value:=[sv a,.int .i64 n]
theorem Q7 {N : Nat} : Pf N (fun s=>(run Tryz.prog (libL libT) Ad) 102 [rp N] s) true oOw pOw:=by
  intro s x hx
  have hN:=hx.lt
  have hnw : anew [(.string ⟨#[]⟩),(.int .i64 0)] s = some (.pointer (some ⟨s.heap.length,0,none⟩),s.push (.row 0 (owL [] 0) .act)):=rfl
  have h4 : (s.push (.row 0 (owL [] 0) .act)).heap[s.heap.length]? = some (.row 0 (owL [] 0) .act):=AC
  have rd4 : Rd N (s.push (.row 0 (owL [] 0) .act)) x:=hx.push
  have fr4 : BX N s.heap.length s (s.push (.row 0 (owL [] 0) .act)):=CQ
  have l4 : (s.push (.row 0 (owL [] 0) .act)).heap.length = s.heap.length + 1:=AL
  generalize hS4 : s.push (.row 0 (owL [] 0) .act) = s4 at *
  generalize hB : s.heap.length = B at *
  have hBl : B < s4.heap.length:=by omega
  obtain ⟨ns,s5,y5,a1,a2,a3,a4,a6,a8⟩:=It (n:=1) (P:=s4.heap.length) (B:=B) (N:=N) (full:=[0]) (s:=s4.push (.row 1 (Is B [0]) .act)) (x:=x) (cells:=owL [] 0) rfl (by decide) (by omega) (by omega) (by omega) rd4.push (by rw [Db hBl]; exact h4) AC (by
    intro j hj
    simp only [List.mem_cons,List.not_mem_nil,or_false] at hj
    rcases hj with rfl
    exact ⟨[],rfl,by decide⟩)
  obtain ⟨a2,a9⟩:=a2
  match ns,a2 with
  | [a],_ =>
    have a4 : s5.heap[B]? = some (.row 0 (owL a 0) .act):=a4
    have n5:=a6.1
    rw [AL] at n5
    obtain ⟨m,u6,c6,s6,y6,b1,b2,b3,b4,b5,b6⟩:=A8 s5 y5 a3
    obtain ⟨rfl,_⟩:=CY b5 b4
    have b1 : (run Tryz.prog (libL libT) Ad) 35 [rp N] s5 = some (.int .i64 (m : Int),s6):=b1
    have n6:=b3.1
    have h6 : s6.heap[B]? = some (.row 0 (owL a 0) .act):=by
      rw [b3.2 B (by omega) fun e=>by have:=Option.some.inj e; omega]
      exact a4
    have st3 : A4 1 (.pointer (some ⟨B,1,none⟩)) (.int .i64 (m : Int)) s6 = some (s6.putB B (.row 0 (owL a m) .act)):=Dm h6 (by simp [owL]) rfl rfl
    have h7 : (s6.putB B (.row 0 (owL a m) .act)).heap[B]? = some (.row 0 (owL a m) .act):=CX (by omega)
    have ld7 : Aj true 2 (.pointer (some ⟨B,0,none⟩)) (s6.putB B (.row 0 (owL a m) .act)) = some (.agg (owL a m).toArray):=IL h7 (by simp) rfl
    have k5 : AO 2 lptr (.agg (owL a m).toArray) (.agg #[(.string ⟨#[]⟩),(.int .i64 0)]) = some (.agg (owL a m).toArray):=rfl
    have k6 : Ap true 2 lptr (.agg (owL a m).toArray) = some (.agg (owL a m).toArray):=rfl
    have hsl : As 1 [(.pointer none)] 1 [(0,.pointer (some ⟨B,0,none⟩))] s4 = some (.slice (some ⟨s4.heap.length,0,none⟩) 1 1,s4.push (.row 1 (Is B [0]) .act)):=rfl
    refine ⟨(a,(m : Int)),.agg (owL a m).toArray,owL a m,s6.putB B (.row 0 (owL a m) .act),y6,IZ rfl ?_,b2.put (by omega),?_,rfl,⟨rfl,trivial⟩,a8.bind (b6.bind .pure)⟩
    · unfold GG
      simp only [Be,hB,hnw,Un,Nat.zero_add,hsl,BD,a1,b1,st3,ld7,k5,k6,EVs]
      exact ret1 rfl
    · exact (fr4.trans (CQ.trans (a6.trans ((BX.of1 b3).trans EG)))).keep (.refl _ _) (by omega)
end Go.Proofs.YtmbhnbladmpnoaaGreat.Ab

/- Messages are read: results. -/
namespace Go.Proofs.YtmbhnbladmpnoaaGreat.Ab
open Go
def rsL (f : Bool) (v : BL) (acc : Value) : List Value:=[.bool f,sv v,acc]
abbrev zRs : Value:=.agg #[(.bool false),(.string ⟨#[]⟩),(.slice none 0 0)]
theorem XO {N B lo : Nat} (hNB : N < B) (hBlo : B < lo) {f : Bool} {t0 : BL} : ∀ (k : Nat) (l : List Rg) (acc : Value) (s : St) (x : BL × Int),l.length + k ≤ 255→Rd N s x→lo ≤ s.heap.length→s.heap[B]? = some (.row 0 (rsL f t0 acc) .act)→BJ oPr 32 lo s.heap.length l s acc →
    ∃ (acc' : Value) (s' : St) (y : BL × Int) (l' m : List Rg),AS (Bl.b0 (run Tryz.prog (libL libT) Ad)) [rp N,lptr,.pointer (some ⟨B,0,none⟩),.int .i64 (k : Int),zRs] s = some (.exit 0,[lptr,.pointer (some ⟨B,0,none⟩),zRs],s')∧Rd N s' y∧s.heap.length ≤ s'.heap.length∧(∀ b,b < lo→b ≠ N→b ≠ B→s'.heap[b]? = s.heap[b]?)∧s'.heap[B]? = some (.row 0 (rsL f t0 acc') .act)∧BJ oPr 32 lo s'.heap.length l' s' acc'∧Does (pPr.rep k) x m y∧(y.2 = 0→l' = l ++ m):=by
  intro k
  induction k with
  | zero =>
    intro l acc s x hl hx hlo hB ho
    have h1 : decide (((0 : Nat) : Int) > 0) = false:=rfl
    refine ⟨acc,s,x,l,[],?_,hx,Nat.le_refl _,fun _ _ _ _=>rfl,hB,ho,.pure,fun _=>by simp⟩
    rw [Ar]
    simp only [Bl.b0,h1,EVs]
  | succ k ih =>
    intro l acc s x hl hx hlo hB ho
    have h1 : decide (((k + 1 : Nat) : Int) > 0) = true:=decide_eq_true (by omega)
    obtain ⟨v,hv⟩:=id hx
    by_cases hx2 : x.2 = 0
    · have hz2 : (x.2 == 0) = true:=by simp [hx2]
      have hBl : B < s.heap.length:=by omega
      have hN:=hx.lt
      have hnw : anew [(.string ⟨#[]⟩),(.string ⟨#[]⟩)] s = some (.pointer (some ⟨s.heap.length,0,none⟩),s.push (.row 0 [sv [],sv []] .act)):=rfl
      have hsl : As 1 [(.pointer none)] 2 [(0,.pointer (some ⟨s.heap.length,0,none⟩)),(1,.pointer (some ⟨s.heap.length,1,none⟩))] (s.push (.row 0 [sv [],sv []] .act)) = some (.slice (some ⟨(s.push (.row 0 [sv [],sv []] .act)).heap.length,0,none⟩) 2 2,(s.push (.row 0 [sv [],sv []] .act)).push (.row 1 (Is s.heap.length [0,1]) .act)):=rfl
      have hD : (s.push (.row 0 [sv [],sv []] .act)).heap[s.heap.length]? = some (.row 0 [sv [],sv []] .act):=AC
      have l4 : (s.push (.row 0 [sv [],sv []] .act)).heap.length = s.heap.length + 1:=AL
      have rd4 : Rd N (s.push (.row 0 [sv [],sv []] .act)) x:=hx.push
      have fr4 : BX N s.heap.length s (s.push (.row 0 [sv [],sv []] .act)):=CQ
      generalize hS4 : s.push (.row 0 [sv [],sv []] .act) = s4 at *
      obtain ⟨ns,s5,y5,a1,a2,a3,a4,a6,a8⟩:=It (n:=2) (P:=s4.heap.length) (B:=s.heap.length) (N:=N) (full:=[0,1]) (s:=s4.push (.row 1 (Is s.heap.length [0,1]) .act)) (x:=x) (cells:=[sv [],sv []]) rfl (by decide) (by omega) (by omega) (by omega) rd4.push (by rw [Db (by omega)]; exact hD) AC (by
        intro j hj
        simp only [List.mem_cons,List.not_mem_nil,or_false] at hj
        rcases hj with rfl | rfl <;> exact ⟨[],rfl,by decide⟩)
      obtain ⟨a2,a9⟩:=a2
      match ns,a2 with
      | [a,b],_ =>
        have a4 : s5.heap[s.heap.length]? = some (.row 0 [sv a,sv b] .act):=a4
        have k5 : BX N s.heap.length s s5:=fr4.trans (CQ.trans a6)
        have hn5:=k5.1
        have hB5 : s5.heap[B]? = some (.row 0 (rsL f t0 acc) .act):=by rw [k5.2 B (by omega) (by omega) (by omega)]; exact hB
        have ho5 : BJ oPr 32 lo s.heap.length l s5 acc:=ho.keep fun b hb1 hb2=>k5.2 b hb2 (by omega) (by omega)
        have ld5 : Aj false 1 (.pointer (some ⟨B,2,none⟩)) s5 = some acc:=Sz hB5 (by simp) rfl
        have ldD : Aj true 2 (.pointer (some ⟨s.heap.length,0,none⟩)) s5 = some (rv (a,b)):=IL a4 (by simp) rfl
        obtain ⟨r,f1,v',t,f2,f3,f4,f5,f6⟩:=BJ.push (a:=(a,b)) (v:=rv (a,b)) (w:=32) (n:=2) (z:=[(.string ⟨#[]⟩),(.string ⟨#[]⟩)]) (s0:=s) (m:=s5.heap.length) ho5 hn5 (Nat.le_refl _) hlo ⟨rfl,trivial⟩ (by decide) rfl (by decide) (by decide) rfl rfl (by omega) (by unfold reachBytes; omega)
        have hBt : t.heap[B]? = some (.row 0 (rsL f t0 acc) .act):=by rw [f5 B (by omega) (.inl hBlo)]; exact hB5
        have hlf : AI v' = true:=f3.leaf
        have hcv : Ao v' = [v']:=by cases v' <;> first | rfl | (simp [AI] at hlf)
        have hst : A4 1 (.pointer (some ⟨B,2,none⟩)) v' t = some (t.putB B (.row 0 (rsL f t0 v') .act)):=Dm hBt (by simp [rsL]) hlf hcv
        have hrd : Rd N (t.putB B (.row 0 (rsL f t0 v') .act)) y5:=(a3.keep fun b hb=>f5 b (by have:=a3.lt; omega) (.inl (by omega))).put hNB
        have ho6 : BJ oPr 32 lo (t.putB B (.row 0 (rsL f t0 v') .act)).heap.length (l ++ [(a,b)]) (t.putB B (.row 0 (rsL f t0 v') .act)) v':=by
          rw [BM]
          exact f3.keep fun b hb1 hb2=>Cl (by omega)
        obtain ⟨acc',s',y,l',m,j1,j3,j4,j5,j6,j7,j8,j9⟩:=ih (l ++ [(a,b)]) v' (t.putB B (.row 0 (rsL f t0 v') .act)) y5 (by simp; omega) hrd (by rw [BM]; omega) (CX (by omega)) ho6
        rw [BM] at j4
        refine ⟨acc',s',y,l',(a,b) :: m,?_,j3,by omega,fun b hb1 hb2 hb3=>?_,j6,j7,(a8.bind (.pure (a:=(a,b)))).cons j8,fun h=>by rw [j9 h]; simp⟩
        · have hd : IntKind.wrap .i64 (((k + 1 : Nat) : Int) - 1) = ((k : Nat) : Int):=by rw [wrap_i64 (by omega) (by omega)]; omega
          rw [Ar,← j1]
          simp only [Bl.b0,h1,Cz,EB,hv.ld1,hz2,hnw,Un,Nat.zero_add,hsl,BD,a1,ld5,ldD,f1,f2,hst,hd,EVs]
        · rw [j5 b hb1 hb2 hb3,Cl hb3,f5 b (by omega) (.inl hb1),k5.2 b (by omega) hb2 (by omega)]
    · have hz2 : (x.2 == 0) = false:=by simp [hx2]
      refine ⟨acc,s,x,l,[],?_,hx,Nat.le_refl _,fun _ _ _ _=>rfl,hB,ho,.stuck hx2 rfl,fun h=>absurd h hx2⟩
      rw [Ar]
      simp only [Bl.b0,h1,Cz,EB,hv.ld1,hz2,EVs]
theorem Zgu (f : Bool) : AV Tryz.prog 87 [(0,.bool f)] = some (.agg (rsL f [] (.slice none 0 0)).toArray):=by cases f <;> kernel_rfl
theorem PI {N : Nat} : Pf N (fun s=>(run Tryz.prog (libL libT) Ad) 98 [rp N] s) true oRs pRs:=by
  intro s x hx
  have hN:=hx.lt
  obtain ⟨f,u1,c1,s1,y1,f1,f2,f3,f4,f5,f6⟩:=EF s x hx
  obtain rfl:=Ul f5 f4
  have f1 : (run Tryz.prog (libL libT) Ad) 84 [rp N] s = some (.bool f,s1):=f1
  have n1:=f3.1
  have hnw : anew [(.bool false),(.string ⟨#[]⟩),(.slice none 0 0)] s1 = some (.pointer (some ⟨s1.heap.length,0,none⟩),s1.push (.row 0 (rsL false [] (.slice none 0 0)) .act)):=rfl
  have hst : A4 3 (.pointer (some ⟨s1.heap.length,0,none⟩)) (.agg (rsL f [] (.slice none 0 0)).toArray) (s1.push (.row 0 (rsL false [] (.slice none 0 0)) .act)) = some (s1.push (.row 0 (rsL f [] (.slice none 0 0)) .act)) :=
    (IM (vs:=rsL f [] (.slice none 0 0)) (cells:=rsL false [] (.slice none 0 0)) AC rfl rfl rfl).trans (by rw [PH])
  have h4 : (s1.push (.row 0 (rsL f [] (.slice none 0 0)) .act)).heap[s1.heap.length]? = some (.row 0 (rsL f [] (.slice none 0 0)) .act):=AC
  have rd4 : Rd N (s1.push (.row 0 (rsL f [] (.slice none 0 0)) .act)) y1:=f2.push
  have fr4 : BX N s1.heap.length s (s1.push (.row 0 (rsL f [] (.slice none 0 0)) .act)):=(BX.of1 f3).trans CQ
  have l4 : (s1.push (.row 0 (rsL f [] (.slice none 0 0)) .act)).heap.length = s1.heap.length + 1:=AL
  generalize hS4 : s1.push (.row 0 (rsL f [] (.slice none 0 0)) .act) = s4 at *
  generalize hB : s1.heap.length = B at *
  have hBl : B < s4.heap.length:=by omega
  obtain ⟨ns,s5,y5,a1,a2,a3,a4,a6,a8⟩:=It (n:=1) (P:=s4.heap.length) (B:=B) (N:=N) (full:=[1]) (s:=s4.push (.row 1 (Is B [1]) .act)) (x:=y1) (cells:=rsL f [] (.slice none 0 0)) rfl (by decide) (by omega) (by omega) (by omega) rd4.push (by rw [Db hBl]; exact h4) AC (by
    intro j hj
    simp only [List.mem_cons,List.not_mem_nil,or_false] at hj
    rcases hj with rfl
    exact ⟨[],rfl,by decide⟩)
  obtain ⟨a2,a9⟩:=a2
  match ns,a2 with
  | [a],_ =>
    have a4 : s5.heap[B]? = some (.row 0 (rsL f a (.slice none 0 0)) .act):=a4
    have n5:=a6.1
    rw [AL] at n5
    obtain ⟨k,u6,c6,s6,y6,b1,b2,b3,b4,b5,b6⟩:=Ci s5 y5 a3
    obtain ⟨rfl,hk⟩:=CY b5 b4
    have b1 : (run Tryz.prog (libL libT) Ad) 153 [rp N] s5 = some (.int .i64 (k : Int),s6):=b1
    have n6:=b3.1
    have h6 : s6.heap[B]? = some (.row 0 (rsL f a (.slice none 0 0)) .act):=by
      rw [b3.2 B (by omega) fun e=>by have:=Option.some.inj e; omega]
      exact a4
    obtain ⟨acc',s7,y7,l',m,j1,j3,j4,j5,j6,j7,j8,j9⟩:=XO (N:=N) (B:=B) (lo:=s6.heap.length) (f:=f) (t0:=a) (by omega) (by omega) k [] (.slice none 0 0) s6 y6 (by simpa using hk) b2 (Nat.le_refl _) h6 .nil
    have hlf : AI acc' = true:=j7.leaf
    have hal : (rsL f a acc').all AI = true:=by
      simp only [rsL,List.all_cons,hlf,List.all_nil]
      rfl
    have ld7 : Aj true 3 (.pointer (some ⟨B,0,none⟩)) s7 = some (.agg (rsL f a acc').toArray):=IL j6 (by simp) rfl
    have k5 : AO 3 lptr (.agg (rsL f a acc').toArray) zRs = some (.agg (rsL f a acc').toArray):=Lq (cs:=[(.bool false),(.string ⟨#[]⟩),(.slice none 0 0)]) rfl rfl hal
    have k6 : Ap true 3 lptr (.agg (rsL f a acc').toArray) = some (.agg (rsL f a acc').toArray):=G6 rfl
    have hsl : As 1 [(.pointer none)] 1 [(0,.pointer (some ⟨B,1,none⟩))] s4 = some (.slice (some ⟨s4.heap.length,0,none⟩) 1 1,s4.push (.row 1 (Is B [1]) .act)):=rfl
    have kp6 : BX N B s s6:=fr4.trans (CQ.trans (a6.trans (.of1 b3)))
    have kp7 : Keep (some N) s s7:=by
      refine ⟨by omega,fun c hc hne=>?_⟩
      have hcN : c ≠ N:=fun e=>hne (by rw [e])
      rw [j5 c (by omega) hcN (by omega)]
      exact kp6.2 c hc hcN (by omega)
    have ha8 : a.length ≤ reachBytes:=by have:=a9 a (List.mem_cons_self ..); unfold reachBytes; omega
    refine ⟨(f,a,l'),.agg (rsL f a acc').toArray,rsL f a acc',s7,y7,Ia rfl ?_,j3,kp7,rfl,?_,?_⟩
    · unfold Bl
      simp only [Ez,f1,Zgu,hnw,hst,Un,Nat.zero_add,hsl,BD,a1,Cg,b1,j1,ld7,k5,k6,EVs]
      exact ret1 rfl
    · exact ⟨[.bool f],[sv a,acc'],s.heap.length,rfl,Nat.le_refl _,by omega,⟨rfl,trivial⟩,[sv a],[acc'],s.heap.length,rfl,Nat.le_refl _,by omega,⟨rfl,ha8⟩,[acc'],[],s7.heap.length,by simp,by omega,Nat.le_refl _,⟨acc',rfl,j7.mono (by have:=kp6.1; omega) (Nat.le_refl _)⟩,rfl⟩
    · exact f6.bind (a8.bind ((b6.bind j8).weaken (a':=l') (fun h=>by simpa using j9 h) |>.bind .pure))
end Go.Proofs.YtmbhnbladmpnoaaGreat.Ab

/- Messages are read: lists. -/
namespace Go.Proofs.YtmbhnbladmpnoaaGreat.Ab
open Go
set_option maxRecDepth 10000
theorem LS {n : Nat} {z : List Value} {v : Value} (hn : 0 < n) (hn2 : n ≤ 16777216) (hz : z.length = n) (hzl : z.all AI = true) (hv : (Ao v).length = n) (hvl : (Ao v).all AI = true) (s : St) : As n z 1 [(0,v)] s = some (.slice (some ⟨s.heap.length,0,none⟩) 1 1,s.push (.row n (Ao v) .act)):=by
  have hrep : A5 z 1 = z:=by simp [A5]
  have hput : AE z 0 (Ao v) = Ao v:=by simp [AE,hv,hz]
  unfold As
  rw [if_pos ⟨by omega,hz,hzl⟩]
  simp only [hrep,IR,LV,Nat.zero_mul]
  rw [if_pos ⟨hv,by omega,hvl⟩,hput]
  rfl
theorem K6 {n M ix : Nat} (b : Nat) : (CT n [.pointer (some ⟨M,ix,none⟩)]).contains b = true ↔ b < n∧b ≠ M:=by
  unfold CT
  rw [List.contains_iff_mem,List.mem_filter,List.mem_range]
  simp [Ut,ZbZ]
theorem Ho {K : List Nat} {s : St} {B : Nat} {cells : List Value} (hK : K.contains B = false) (h : readRow s B = some cells) : readRow (⟨frzK K 0 s.heap⟩ : St) B = some cells:=by
  rw [← h]
  unfold Ab.readRow
  simp only
  rw [Kj,Nat.zero_add,if_neg (by rw [hK]; simp)]
  cases s.heap[B]? with
  | none=>rfl
  | some x=>cases x with
    | row n c st=>cases st <;> rfl
    | map=>rfl
theorem J8 {α : Type} {N : Nat} {f : St→Option (Value × St)} {ag : Bool} {O : OCod α} {p : Par α} (hR : Pf N f ag O p) {s : St} {x : BL × Int} {M ix : Nat} (hx : Rd N s x) (hM : N < M) (hMl : M < s.heap.length) :
    ∃ (a : α) (u : Value) (cs : List Value) (s' : St) (y : BL × Int),((f (⟨Er (CT s.heap.length [.pointer (some ⟨M,ix,none⟩)]) 0 s.heap⟩ : St)).bind fun r=>some (r.1,r.2)).bind (appR (CT s.heap.length [.pointer (some ⟨M,ix,none⟩)]) [] s) = some (u,s')∧Rd N s' y∧Keep (some N) s s'∧Nq ag u cs∧O.own s.heap.length s'.heap.length a s' cs∧Does p x a y:=by
  have hB:=fun b=>K6 (n:=s.heap.length) (M:=M) (ix:=ix) b
  generalize CT s.heap.length [.pointer (some ⟨M,ix,none⟩)] = B at *
  have hs1 : ∀ b,b < s.heap.length→b ≠ M→(⟨Er B 0 s.heap⟩ : St).heap[b]? = s.heap[b]?:=fun b hb hne=>by
    have hc : B.contains b = true:=(hB b).2 ⟨hb,hne⟩
    simp only
    rw [HZ,Nat.zero_add,if_pos hc]
    cases s.heap[b]? with
    | none=>rfl
    | some X=>cases X <;> rfl
  have hNl:=hx.lt
  obtain ⟨a,u,cs,t,y,h1,h2,h3,h4,h5,h6⟩:=hR _ x (hx.keep fun b hb=>hs1 b (by omega) (by omega))
  have hlen : s.heap.length ≤ t.heap.length:=by
    have:=h3.1
    simp only at this
    rwa [BZ] at this
  have hc : (B.all (fun b=>!([] : List Nat).contains b) && Nat.ble s.heap.length t.heap.length && Hs [] s.heap.length t.heap.length) = true:=by
    simp only [Bool.and_eq_true,List.all_eq_true,Nat.ble_eq,Hs,List.all_nil,and_true]
    exact ⟨fun b _=>rfl,hlen⟩
  have l5 : (FT B t.heap 0 s.heap ++ t.heap.drop s.heap.length).length = t.heap.length:=by
    simp only [List.length_append,AY,List.length_drop]
    omega
  have g1 : ∀ b,b < s.heap.length→b ≠ M→(FT B t.heap 0 s.heap ++ t.heap.drop s.heap.length)[b]? = t.heap[b]?:=fun b hb hne=>by
    rw [List.getElem?_append_left (by rw [AY]; exact hb),E8,Nat.zero_add,List.getElem?_eq_getElem hb,Option.map_some,if_pos ((hB b).2 ⟨hb,hne⟩),List.getElem?_eq_getElem (by omega),Option.getD_some]
  have g2 : (FT B t.heap 0 s.heap ++ t.heap.drop s.heap.length)[M]? = s.heap[M]?:=by
    rw [List.getElem?_append_left (by rw [AY]; exact hMl),E8,Nat.zero_add,List.getElem?_eq_getElem hMl,Option.map_some,if_neg fun e=>((hB M).1 e).2 rfl]
  have g3 : ∀ b,s.heap.length ≤ b→(FT B t.heap 0 s.heap ++ t.heap.drop s.heap.length)[b]? = t.heap[b]?:=fun b hb=>by
    rw [List.getElem?_append_right (by rw [AY]; omega),AY,List.getElem?_drop,show s.heap.length + (b - s.heap.length) = b by omega]
  refine ⟨a,u,cs,⟨FT B t.heap 0 s.heap ++ t.heap.drop s.heap.length⟩,y,?_,h2.keep fun b hb=>g1 b (by omega) (by omega),⟨by simp only [l5]; exact hlen,fun c hc1 hne=>?_⟩,h4,?_,h6⟩
  · simp only [h1,Option.bind_some]
    unfold appR
    rw [if_pos hc]
  · by_cases hcM : c = M
    · subst hcM
      exact g2
    · simp only
      rw [g1 c hc1 hcM,h3.2 c (by simp only; rw [BZ]; exact hc1) hne,hs1 c hc1 hcM]
  · simp only [l5]
    simp only [BZ] at h5
    exact O.keep h5 fun b hb1 hb2=>g3 b hb1
abbrev TOp:=OpT
abbrev TRs:=Rs
abbrev TOw:=Ow
abbrev zOpL : List Value:=[(.int .i64 0),(.string ⟨#[]⟩),(.string ⟨#[]⟩),(.string ⟨#[]⟩),(.string ⟨#[]⟩),(.int .i64 0)]
abbrev zRsL : List Value:=[(.bool false),(.string ⟨#[]⟩),(.slice none 0 0)]
abbrev zOwL : List Value:=[(.string ⟨#[]⟩),(.int .i64 0)]
theorem Fc {v : Value} (h : AI v = true) : Ao v = [v]:=by cases v <;> first | rfl | (simp [AI] at h)
theorem Hp {N M C W lo ix fa : Nat} (hf : (fa,ix) ∈ D7) (hNM : N < M) (hM : M < lo) (hC : C < lo∧C ≠ N∧C ≠ M) (hW : W < lo∧W ≠ N∧W ≠ M) : ∀ (k : Nat) (l : List TOp) (acc : Value) (cells : List Value) (s : St) (x : BL × Int),l.length + k ≤ 255→Rd N s x→lo ≤ s.heap.length→s.heap[M]? = some (.row 0 cells .act)→cells[ix]? = some acc→s.heap[C]? = some (.row 0 [fnV fa] .act)→s.heap[W]? = some (.row 0 [fnV 94] .act)→BJ oOp (80) lo s.heap.length l s acc →
    ∃ (acc' : Value) (s' : St) (y : BL × Int) (l' m : List TOp),AS (Bm.b0 (run Tryz.prog (libL libT) Ad)) [rp N,mp M,.pointer (some ⟨C,0,none⟩),.pointer (some ⟨W,0,none⟩),.int .i64 (k : Int)] s = some (.exit 0,[],s')∧Rd N s' y∧s.heap.length ≤ s'.heap.length∧(∀ b,b < lo→b ≠ N→b ≠ M→s'.heap[b]? = s.heap[b]?)∧s'.heap[M]? = some (.row 0 (cells.set ix acc') .act)∧BJ oOp (80) lo s'.heap.length l' s' acc'∧Does (pOp.rep k) x m y∧(y.2 = 0→l' = l ++ m):=by
  intro k
  induction k with
  | zero =>
    intro l acc cells s x hl hx hlo hMr hacc hCr hWr ho
    have h1 : decide (((0 : Nat) : Int) > 0) = false:=rfl
    refine ⟨acc,s,x,l,[],?_,hx,Nat.le_refl _,fun _ _ _ _=>rfl,by rw [Hm hacc]; exact hMr,ho,.pure,fun _=>by simp⟩
    rw [Ar]
    simp only [Bm.b0,h1,EVs]
  | succ k ih =>
    intro l acc cells s x hl hx hlo hMr hacc hCr hWr ho
    have h1 : decide (((k + 1 : Nat) : Int) > 0) = true:=decide_eq_true (by omega)
    obtain ⟨v,hv⟩:=id hx
    by_cases hx2 : x.2 = 0
    · have hz2 : (x.2 == 0) = true:=by simp [hx2]
      have hN:=hx.lt
      have hMl : M < s.heap.length:=by omega
      have hixl : ix < cells.length:=(List.getElem?_eq_some_iff.1 hacc).1
      have hnil : Ah (.pointer (some ⟨M,ix,none⟩)) = some (.pointer (some ⟨M,ix,none⟩)):=rfl
      have rC : readRow s C = some [fnV fa]:=D6 hCr (by simp)
      have rW : readRow s W = some [fnV 94]:=D6 hWr (by simp)
      have rM : readRow s M = some cells:=D6 hMr (by simp)
      -- the dry run
      obtain ⟨a0,u0,c0,s0,y0,d1,d2,d3,d4,d5,d6⟩:=ZZ s x hx
      have d1 : (run Tryz.prog (libL libT) Ad) 94 [rp N] s = some (u0,s0):=d1
      rw [← (d4.cells (oOp.leaf d5)).1] at d5
      have ho0 : BJ oOp (80) lo s.heap.length l s0 acc:=ho.keep fun b hb1 hb2=>d3.2 b hb2 fun e=>by have:=Option.some.inj e; omega
      obtain ⟨r0,e1,v0,t0,e2,e3,e4,e5,e6⟩:=BJ.push (s0:=s) (w:=(80)) (n:=(6)) (z:=zOpL) ho0 (Nat.le_refl _) d3.1 hlo d5 (by decide) rfl (by decide) (by decide) rfl rfl (by omega) (by unfold reachBytes; omega)
      have hMt0 : t0.heap[M]? = some (.row 0 cells .act):=by
        rw [e5 M (by have:=d3.1; omega) (.inl hM),d3.2 M hMl fun e=>by have:=Option.some.inj e; omega]
        exact hMr
      have e7:=Dm hMt0 hixl e3.leaf (Fc e3.leaf)
      -- the run
      have nC : ([] : List Nat).contains C = false:=rfl
      have nW : ([] : List Nat).contains W = false:=rfl
      have qC:=Ho (K:=[]) nC rC
      have qW:=Ho (K:=[]) nW rW
      have nM : ((CT s.heap.length [.pointer (some ⟨M,ix,none⟩)]) ++ []).contains M = false:=by
        rw [List.append_nil,Bool.eq_false_iff]
        exact fun e=>((K6 M).1 e).2 rfl
      have qM:=Ho nM rM
      obtain ⟨a,u,cs,s2,y,g1,g2,g3,g4,g5,g6⟩:=J8 ZZ (ix:=ix) hx hNM hMl
      rw [← (g4.cells (oOp.leaf g5)).1] at g5
      have n2:=g3.1
      have ho2 : BJ oOp (80) lo s.heap.length l s2 acc:=ho.keep fun b hb1 hb2=>g3.2 b hb2 fun e=>by have:=Option.some.inj e; omega
      obtain ⟨r,f1,v',t,f2,f3,f4,f5,f6⟩:=BJ.push (s0:=s) (w:=(80)) (n:=(6)) (z:=zOpL) ho2 (Nat.le_refl _) g3.1 hlo g5 (by decide) rfl (by decide) (by decide) rfl rfl (by omega) (by unfold reachBytes; omega)
      have hb : ∀ s,As (6) zOpL 1 [(0,u)] s = some (.slice (some ⟨s.heap.length,0,none⟩) 1 1,s.push (.row (6) (Ao u) .act)):=LS (by decide) (by decide) rfl rfl (oOp.C.len (oOp.rel g5)) (oOp.leaf g5)
      obtain rfl:=Option.some.inj ((hb s2).symm.trans f1)
      have f2 : AD (6) (80) acc (.slice (some ⟨s2.heap.length,0,none⟩) 1 1) (s2.push (.row (6) (Ao u) .act)) = some (v',t):=f2
      have hap:=C9 (K:=[]) (s:=s2) (v:=.slice (some ⟨s2.heap.length,0,none⟩) 1 1) (n:=(6)) (cs:=Ao u) K4
      have hMt : t.heap[M]? = some (.row 0 cells .act):=by
        rw [f5 M (by omega) (.inl hM),g3.2 M hMl fun e=>by have:=Option.some.inj e; omega]
        exact hMr
      have f7:=Dm hMt hixl f3.leaf (Fc f3.leaf)
      have o1 : ownR (s2.push (.row (6) (Ao u) .act)) (v',t) = some (v',t):=Jm (F3 f2).1.1
      have o2 : ownR t (undef,t.putB M (.row 0 (cells.set ix v') .act)) = some (undef,t.putB M (.row 0 (cells.set ix v') .act)):=Jm (by rw [BM]; exact Nat.le_refl _)
      have low : ∀ b,b < lo→b ≠ N→b ≠ M→(t.putB M (.row 0 (cells.set ix v') .act)).heap[b]? = s.heap[b]?:=fun b hb1 hb2 hb3=>by
        rw [Cl hb3,f5 b (by omega) (.inl hb1),g3.2 b (by omega) fun e=>hb2 (Option.some.inj e).symm]
      have hrd : Rd N (t.putB M (.row 0 (cells.set ix v') .act)) y:=(g2.keep fun b hb=>f5 b (by omega) (.inl (by omega))).put hNM
      have ho6 : BJ oOp (80) lo (t.putB M (.row 0 (cells.set ix v') .act)).heap.length (l ++ [a]) (t.putB M (.row 0 (cells.set ix v') .act)) v':=by
        rw [BM]
        exact f3.keep fun b hb1 hb2=>Cl (by omega)
      obtain ⟨acc',s',y',l',m,j1,j3,j4,j5,j6,j7,j8,j9⟩:=ih (l ++ [a]) v' (cells.set ix v') (t.putB M (.row 0 (cells.set ix v') .act)) y (by simp; omega) hrd (by rw [BM]; omega) (CX (by omega)) (List.getElem?_set_self hixl) (by rw [low C hC.1 hC.2.1 hC.2.2]; exact hCr) (by rw [low W hW.1 hW.2.1 hW.2.2]; exact hWr) ho6
      rw [BM] at j4
      refine ⟨acc',s',y',l',a :: m,?_,j3,by omega,fun b hb1 hb2 hb3=>by rw [j5 b hb1 hb2 hb3,low b hb1 hb2 hb3],by rw [List.set_set] at j6; exact j6,j7,g6.cons j8,fun h=>by rw [j9 h]; simp⟩
      have hd : IntKind.wrap .i64 (((k + 1 : Nat) : Int) - 1) = ((k : Nat) : Int):=by rw [wrap_i64 (by omega) (by omega)]; omega
      rw [Ar,← j1]
      simp only [Bm.b0,h1,Cz,EB,hv.ld1,hz2,B6 rC,B6 rW,Cv rM hacc,DJ I3 hf,hnil,JR,d1,e1,e2,e7,List.drop_zero,B6 qC,B6 qW,Cv qM hacc,IP,g1,hb,Bk,hap,f2,o1,f7,o2,hd,EVs]
    · have hz2 : (x.2 == 0) = false:=by simp [hx2]
      refine ⟨acc,s,x,l,[],?_,hx,Nat.le_refl _,fun _ _ _ _=>rfl,by rw [Hm hacc]; exact hMr,ho,.stuck hx2 rfl,fun h=>absurd h hx2⟩
      rw [Ar]
      simp only [Bm.b0,h1,Cz,EB,hv.ld1,hz2,EVs]
theorem HK {N M C W ix fa : Nat} {s : St} {x : BL × Int} {cells : List Value} (hf : (fa,ix) ∈ D7) (hNM : N < M) (hM : M < s.heap.length) (hC : C ≠ N∧C ≠ M) (hW : W ≠ N∧W ≠ M) (hx : Rd N s x) (hMr : s.heap[M]? = some (.row 0 cells .act)) (hacc : cells[ix]? = some (.slice none 0 0)) (hCr : s.heap[C]? = some (.row 0 [fnV fa] .act)) (hWr : s.heap[W]? = some (.row 0 [fnV 94] .act)) :
    ∃ (acc' : Value) (s' : St) (y : BL × Int) (l' : List TOp),Ag Tryz.prog (run Tryz.prog (libL libT) Ad) (.func (.func 152) #[] #[.pointer (some ⟨C,0,none⟩),.pointer (some ⟨W,0,none⟩)]) [rp N,mp M] s = some (undef,s')∧Rd N s' y∧s'.heap[M]? = some (.row 0 (cells.set ix acc') .act)∧BJ oOp (80) s.heap.length s'.heap.length l' s' acc'∧BX N M s s'∧Does (PG pOp) x l' y:=by
  rw [show (Value.func (.func 152) #[] #[.pointer (some ⟨C,0,none⟩),.pointer (some ⟨W,0,none⟩)]) = .func (.func 152) ([] : List Value).toArray [.pointer (some ⟨C,0,none⟩),.pointer (some ⟨W,0,none⟩)].toArray from rfl,Cq Ij]
  obtain ⟨k,u6,c6,s6,y6,b1,b2,b3,b4,b5,b6⟩:=Ci s x hx
  obtain ⟨rfl,hk⟩:=CY b5 b4
  have b1 : (run Tryz.prog (libL libT) Ad) 153 [rp N] s = some (.int .i64 (k : Int),s6):=b1
  have n6:=b3.1
  have hCl:=(List.getElem?_eq_some_iff.1 hCr).1
  have hWl:=(List.getElem?_eq_some_iff.1 hWr).1
  have kp : ∀ b,b < s.heap.length→b ≠ N→s6.heap[b]? = s.heap[b]?:=fun b h1 h2=>b3.2 b h1 fun e=>h2 (Option.some.inj e).symm
  obtain ⟨acc',s',y,l',m,j1,j3,j4,j5,j6,j7,j8,j9⟩:=Hp (lo:=s6.heap.length) hf hNM (by omega) ⟨by omega,hC.1,hC.2⟩ ⟨by omega,hW.1,hW.2⟩ k [] (.slice none 0 0) cells s6 y6 (by simpa using hk) b2 (Nat.le_refl _) (by rw [kp M hM (by omega)]; exact hMr) hacc (by rw [kp C hCl hC.1]; exact hCr) (by rw [kp W hWl hW.1]; exact hWr) .nil
  refine ⟨acc',s',y,l',Ii rfl ?_,j3,j6,j7.mono n6 (Nat.le_refl _),⟨by omega,fun c h1 h2 h3=>by rw [j5 c (by omega) h2 h3,kp c h1 h2]⟩,(b6.bind j8).weaken fun h=>by simpa using j9 h⟩
  unfold Bm
  simp only [List.cons_append,List.nil_append,Cg,b1,j1,ret0,EVs]
theorem FH {N M C W lo ix fa : Nat} (hf : (fa,ix) ∈ D7) (hNM : N < M) (hM : M < lo) (hC : C < lo∧C ≠ N∧C ≠ M) (hW : W < lo∧W ≠ N∧W ≠ M) : ∀ (k : Nat) (l : List TRs) (acc : Value) (cells : List Value) (s : St) (x : BL × Int),l.length + k ≤ 255→Rd N s x→lo ≤ s.heap.length→s.heap[M]? = some (.row 0 cells .act)→cells[ix]? = some acc→s.heap[C]? = some (.row 0 [fnV fa] .act)→s.heap[W]? = some (.row 0 [fnV 98] .act)→BJ oRs (48) lo s.heap.length l s acc →
    ∃ (acc' : Value) (s' : St) (y : BL × Int) (l' m : List TRs),AS (A1.b0 (run Tryz.prog (libL libT) Ad)) [rp N,mp M,.pointer (some ⟨C,0,none⟩),.pointer (some ⟨W,0,none⟩),.int .i64 (k : Int)] s = some (.exit 0,[],s')∧Rd N s' y∧s.heap.length ≤ s'.heap.length∧(∀ b,b < lo→b ≠ N→b ≠ M→s'.heap[b]? = s.heap[b]?)∧s'.heap[M]? = some (.row 0 (cells.set ix acc') .act)∧BJ oRs (48) lo s'.heap.length l' s' acc'∧Does (pRs.rep k) x m y∧(y.2 = 0→l' = l ++ m):=by
  intro k
  induction k with
  | zero =>
    intro l acc cells s x hl hx hlo hMr hacc hCr hWr ho
    have h1 : decide (((0 : Nat) : Int) > 0) = false:=rfl
    refine ⟨acc,s,x,l,[],?_,hx,Nat.le_refl _,fun _ _ _ _=>rfl,by rw [Hm hacc]; exact hMr,ho,.pure,fun _=>by simp⟩
    rw [Ar]
    simp only [A1.b0,h1,EVs]
  | succ k ih =>
    intro l acc cells s x hl hx hlo hMr hacc hCr hWr ho
    have h1 : decide (((k + 1 : Nat) : Int) > 0) = true:=decide_eq_true (by omega)
    obtain ⟨v,hv⟩:=id hx
    by_cases hx2 : x.2 = 0
    · have hz2 : (x.2 == 0) = true:=by simp [hx2]
      have hN:=hx.lt
      have hMl : M < s.heap.length:=by omega
      have hixl : ix < cells.length:=(List.getElem?_eq_some_iff.1 hacc).1
      have hnil : Ah (.pointer (some ⟨M,ix,none⟩)) = some (.pointer (some ⟨M,ix,none⟩)):=rfl
      have rC : readRow s C = some [fnV fa]:=D6 hCr (by simp)
      have rW : readRow s W = some [fnV 98]:=D6 hWr (by simp)
      have rM : readRow s M = some cells:=D6 hMr (by simp)
      -- the dry run
      obtain ⟨a0,u0,c0,s0,y0,d1,d2,d3,d4,d5,d6⟩:=PI s x hx
      have d1 : (run Tryz.prog (libL libT) Ad) 98 [rp N] s = some (u0,s0):=d1
      rw [← (d4.cells (oRs.leaf d5)).1] at d5
      have ho0 : BJ oRs (48) lo s.heap.length l s0 acc:=ho.keep fun b hb1 hb2=>d3.2 b hb2 fun e=>by have:=Option.some.inj e; omega
      obtain ⟨r0,e1,v0,t0,e2,e3,e4,e5,e6⟩:=BJ.push (s0:=s) (w:=(48)) (n:=(3)) (z:=zRsL) ho0 (Nat.le_refl _) d3.1 hlo d5 (by decide) rfl (by decide) (by decide) rfl rfl (by omega) (by unfold reachBytes; omega)
      have hMt0 : t0.heap[M]? = some (.row 0 cells .act):=by
        rw [e5 M (by have:=d3.1; omega) (.inl hM),d3.2 M hMl fun e=>by have:=Option.some.inj e; omega]
        exact hMr
      have e7:=Dm hMt0 hixl e3.leaf (Fc e3.leaf)
      -- the run
      have nC : ([] : List Nat).contains C = false:=rfl
      have nW : ([] : List Nat).contains W = false:=rfl
      have qC:=Ho (K:=[]) nC rC
      have qW:=Ho (K:=[]) nW rW
      have nM : ((CT s.heap.length [.pointer (some ⟨M,ix,none⟩)]) ++ []).contains M = false:=by
        rw [List.append_nil,Bool.eq_false_iff]
        exact fun e=>((K6 M).1 e).2 rfl
      have qM:=Ho nM rM
      obtain ⟨a,u,cs,s2,y,g1,g2,g3,g4,g5,g6⟩:=J8 PI (ix:=ix) hx hNM hMl
      rw [← (g4.cells (oRs.leaf g5)).1] at g5
      have n2:=g3.1
      have ho2 : BJ oRs (48) lo s.heap.length l s2 acc:=ho.keep fun b hb1 hb2=>g3.2 b hb2 fun e=>by have:=Option.some.inj e; omega
      obtain ⟨r,f1,v',t,f2,f3,f4,f5,f6⟩:=BJ.push (s0:=s) (w:=(48)) (n:=(3)) (z:=zRsL) ho2 (Nat.le_refl _) g3.1 hlo g5 (by decide) rfl (by decide) (by decide) rfl rfl (by omega) (by unfold reachBytes; omega)
      have hb : ∀ s,As (3) zRsL 1 [(0,u)] s = some (.slice (some ⟨s.heap.length,0,none⟩) 1 1,s.push (.row (3) (Ao u) .act)):=LS (by decide) (by decide) rfl rfl (oRs.C.len (oRs.rel g5)) (oRs.leaf g5)
      obtain rfl:=Option.some.inj ((hb s2).symm.trans f1)
      have f2 : AD (3) (48) acc (.slice (some ⟨s2.heap.length,0,none⟩) 1 1) (s2.push (.row (3) (Ao u) .act)) = some (v',t):=f2
      have hap:=C9 (K:=[]) (s:=s2) (v:=.slice (some ⟨s2.heap.length,0,none⟩) 1 1) (n:=(3)) (cs:=Ao u) K4
      have hMt : t.heap[M]? = some (.row 0 cells .act):=by
        rw [f5 M (by omega) (.inl hM),g3.2 M hMl fun e=>by have:=Option.some.inj e; omega]
        exact hMr
      have f7:=Dm hMt hixl f3.leaf (Fc f3.leaf)
      have o1 : ownR (s2.push (.row (3) (Ao u) .act)) (v',t) = some (v',t):=Jm (F3 f2).1.1
      have o2 : ownR t (undef,t.putB M (.row 0 (cells.set ix v') .act)) = some (undef,t.putB M (.row 0 (cells.set ix v') .act)):=Jm (by rw [BM]; exact Nat.le_refl _)
      have low : ∀ b,b < lo→b ≠ N→b ≠ M→(t.putB M (.row 0 (cells.set ix v') .act)).heap[b]? = s.heap[b]?:=fun b hb1 hb2 hb3=>by
        rw [Cl hb3,f5 b (by omega) (.inl hb1),g3.2 b (by omega) fun e=>hb2 (Option.some.inj e).symm]
      have hrd : Rd N (t.putB M (.row 0 (cells.set ix v') .act)) y:=(g2.keep fun b hb=>f5 b (by omega) (.inl (by omega))).put hNM
      have ho6 : BJ oRs (48) lo (t.putB M (.row 0 (cells.set ix v') .act)).heap.length (l ++ [a]) (t.putB M (.row 0 (cells.set ix v') .act)) v':=by
        rw [BM]
        exact f3.keep fun b hb1 hb2=>Cl (by omega)
      obtain ⟨acc',s',y',l',m,j1,j3,j4,j5,j6,j7,j8,j9⟩:=ih (l ++ [a]) v' (cells.set ix v') (t.putB M (.row 0 (cells.set ix v') .act)) y (by simp; omega) hrd (by rw [BM]; omega) (CX (by omega)) (List.getElem?_set_self hixl) (by rw [low C hC.1 hC.2.1 hC.2.2]; exact hCr) (by rw [low W hW.1 hW.2.1 hW.2.2]; exact hWr) ho6
      rw [BM] at j4
      refine ⟨acc',s',y',l',a :: m,?_,j3,by omega,fun b hb1 hb2 hb3=>by rw [j5 b hb1 hb2 hb3,low b hb1 hb2 hb3],by rw [List.set_set] at j6; exact j6,j7,g6.cons j8,fun h=>by rw [j9 h]; simp⟩
      have hd : IntKind.wrap .i64 (((k + 1 : Nat) : Int) - 1) = ((k : Nat) : Int):=by rw [wrap_i64 (by omega) (by omega)]; omega
      rw [Ar,← j1]
      simp only [A1.b0,h1,Cz,EB,hv.ld1,hz2,B6 rC,B6 rW,Cv rM hacc,DJ I3 hf,hnil,Hd,d1,e1,e2,e7,List.drop_zero,B6 qC,B6 qW,Cv qM hacc,IP,g1,hb,Bk,hap,f2,o1,f7,o2,hd,EVs]
    · have hz2 : (x.2 == 0) = false:=by simp [hx2]
      refine ⟨acc,s,x,l,[],?_,hx,Nat.le_refl _,fun _ _ _ _=>rfl,by rw [Hm hacc]; exact hMr,ho,.stuck hx2 rfl,fun h=>absurd h hx2⟩
      rw [Ar]
      simp only [A1.b0,h1,Cz,EB,hv.ld1,hz2,EVs]
theorem FO {N M C W ix fa : Nat} {s : St} {x : BL × Int} {cells : List Value} (hf : (fa,ix) ∈ D7) (hNM : N < M) (hM : M < s.heap.length) (hC : C ≠ N∧C ≠ M) (hW : W ≠ N∧W ≠ M) (hx : Rd N s x) (hMr : s.heap[M]? = some (.row 0 cells .act)) (hacc : cells[ix]? = some (.slice none 0 0)) (hCr : s.heap[C]? = some (.row 0 [fnV fa] .act)) (hWr : s.heap[W]? = some (.row 0 [fnV 98] .act)) :
    ∃ (acc' : Value) (s' : St) (y : BL × Int) (l' : List TRs),Ag Tryz.prog (run Tryz.prog (libL libT) Ad) (.func (.func 156) #[] #[.pointer (some ⟨C,0,none⟩),.pointer (some ⟨W,0,none⟩)]) [rp N,mp M] s = some (undef,s')∧Rd N s' y∧s'.heap[M]? = some (.row 0 (cells.set ix acc') .act)∧BJ oRs (48) s.heap.length s'.heap.length l' s' acc'∧BX N M s s'∧Does (PG pRs) x l' y:=by
  rw [show (Value.func (.func 156) #[] #[.pointer (some ⟨C,0,none⟩),.pointer (some ⟨W,0,none⟩)]) = .func (.func 156) ([] : List Value).toArray [.pointer (some ⟨C,0,none⟩),.pointer (some ⟨W,0,none⟩)].toArray from rfl,Cq Gi]
  obtain ⟨k,u6,c6,s6,y6,b1,b2,b3,b4,b5,b6⟩:=Ci s x hx
  obtain ⟨rfl,hk⟩:=CY b5 b4
  have b1 : (run Tryz.prog (libL libT) Ad) 153 [rp N] s = some (.int .i64 (k : Int),s6):=b1
  have n6:=b3.1
  have hCl:=(List.getElem?_eq_some_iff.1 hCr).1
  have hWl:=(List.getElem?_eq_some_iff.1 hWr).1
  have kp : ∀ b,b < s.heap.length→b ≠ N→s6.heap[b]? = s.heap[b]?:=fun b h1 h2=>b3.2 b h1 fun e=>h2 (Option.some.inj e).symm
  obtain ⟨acc',s',y,l',m,j1,j3,j4,j5,j6,j7,j8,j9⟩:=FH (lo:=s6.heap.length) hf hNM (by omega) ⟨by omega,hC.1,hC.2⟩ ⟨by omega,hW.1,hW.2⟩ k [] (.slice none 0 0) cells s6 y6 (by simpa using hk) b2 (Nat.le_refl _) (by rw [kp M hM (by omega)]; exact hMr) hacc (by rw [kp C hCl hC.1]; exact hCr) (by rw [kp W hWl hW.1]; exact hWr) .nil
  refine ⟨acc',s',y,l',Gh rfl ?_,j3,j6,j7.mono n6 (Nat.le_refl _),⟨by omega,fun c h1 h2 h3=>by rw [j5 c (by omega) h2 h3,kp c h1 h2]⟩,(b6.bind j8).weaken fun h=>by simpa using j9 h⟩
  unfold A1
  simp only [List.cons_append,List.nil_append,Cg,b1,j1,ret0,EVs]
theorem FP {N M C W lo ix fa : Nat} (hf : (fa,ix) ∈ D7) (hNM : N < M) (hM : M < lo) (hC : C < lo∧C ≠ N∧C ≠ M) (hW : W < lo∧W ≠ N∧W ≠ M) : ∀ (k : Nat) (l : List TOw) (acc : Value) (cells : List Value) (s : St) (x : BL × Int),l.length + k ≤ 255→Rd N s x→lo ≤ s.heap.length→s.heap[M]? = some (.row 0 cells .act)→cells[ix]? = some acc→s.heap[C]? = some (.row 0 [fnV fa] .act)→s.heap[W]? = some (.row 0 [fnV 102] .act)→BJ oOw (24) lo s.heap.length l s acc →
    ∃ (acc' : Value) (s' : St) (y : BL × Int) (l' m : List TOw),AS (A7.b0 (run Tryz.prog (libL libT) Ad)) [rp N,mp M,.pointer (some ⟨C,0,none⟩),.pointer (some ⟨W,0,none⟩),.int .i64 (k : Int)] s = some (.exit 0,[],s')∧Rd N s' y∧s.heap.length ≤ s'.heap.length∧(∀ b,b < lo→b ≠ N→b ≠ M→s'.heap[b]? = s.heap[b]?)∧s'.heap[M]? = some (.row 0 (cells.set ix acc') .act)∧BJ oOw (24) lo s'.heap.length l' s' acc'∧Does (pOw.rep k) x m y∧(y.2 = 0→l' = l ++ m):=by
  intro k
  induction k with
  | zero =>
    intro l acc cells s x hl hx hlo hMr hacc hCr hWr ho
    have h1 : decide (((0 : Nat) : Int) > 0) = false:=rfl
    refine ⟨acc,s,x,l,[],?_,hx,Nat.le_refl _,fun _ _ _ _=>rfl,by rw [Hm hacc]; exact hMr,ho,.pure,fun _=>by simp⟩
    rw [Ar]
    simp only [A7.b0,h1,EVs]
  | succ k ih =>
    intro l acc cells s x hl hx hlo hMr hacc hCr hWr ho
    have h1 : decide (((k + 1 : Nat) : Int) > 0) = true:=decide_eq_true (by omega)
    obtain ⟨v,hv⟩:=id hx
    by_cases hx2 : x.2 = 0
    · have hz2 : (x.2 == 0) = true:=by simp [hx2]
      have hN:=hx.lt
      have hMl : M < s.heap.length:=by omega
      have hixl : ix < cells.length:=(List.getElem?_eq_some_iff.1 hacc).1
      have hnil : Ah (.pointer (some ⟨M,ix,none⟩)) = some (.pointer (some ⟨M,ix,none⟩)):=rfl
      have rC : readRow s C = some [fnV fa]:=D6 hCr (by simp)
      have rW : readRow s W = some [fnV 102]:=D6 hWr (by simp)
      have rM : readRow s M = some cells:=D6 hMr (by simp)
      -- the dry run
      obtain ⟨a0,u0,c0,s0,y0,d1,d2,d3,d4,d5,d6⟩:=Q7 s x hx
      have d1 : (run Tryz.prog (libL libT) Ad) 102 [rp N] s = some (u0,s0):=d1
      rw [← (d4.cells (oOw.leaf d5)).1] at d5
      have ho0 : BJ oOw (24) lo s.heap.length l s0 acc:=ho.keep fun b hb1 hb2=>d3.2 b hb2 fun e=>by have:=Option.some.inj e; omega
      obtain ⟨r0,e1,v0,t0,e2,e3,e4,e5,e6⟩:=BJ.push (s0:=s) (w:=(24)) (n:=(2)) (z:=zOwL) ho0 (Nat.le_refl _) d3.1 hlo d5 (by decide) rfl (by decide) (by decide) rfl rfl (by omega) (by unfold reachBytes; omega)
      have hMt0 : t0.heap[M]? = some (.row 0 cells .act):=by
        rw [e5 M (by have:=d3.1; omega) (.inl hM),d3.2 M hMl fun e=>by have:=Option.some.inj e; omega]
        exact hMr
      have e7:=Dm hMt0 hixl e3.leaf (Fc e3.leaf)
      -- the run
      have nC : ([] : List Nat).contains C = false:=rfl
      have nW : ([] : List Nat).contains W = false:=rfl
      have qC:=Ho (K:=[]) nC rC
      have qW:=Ho (K:=[]) nW rW
      have nM : ((CT s.heap.length [.pointer (some ⟨M,ix,none⟩)]) ++ []).contains M = false:=by
        rw [List.append_nil,Bool.eq_false_iff]
        exact fun e=>((K6 M).1 e).2 rfl
      have qM:=Ho nM rM
      obtain ⟨a,u,cs,s2,y,g1,g2,g3,g4,g5,g6⟩:=J8 Q7 (ix:=ix) hx hNM hMl
      rw [← (g4.cells (oOw.leaf g5)).1] at g5
      have n2:=g3.1
      have ho2 : BJ oOw (24) lo s.heap.length l s2 acc:=ho.keep fun b hb1 hb2=>g3.2 b hb2 fun e=>by have:=Option.some.inj e; omega
      obtain ⟨r,f1,v',t,f2,f3,f4,f5,f6⟩:=BJ.push (s0:=s) (w:=(24)) (n:=(2)) (z:=zOwL) ho2 (Nat.le_refl _) g3.1 hlo g5 (by decide) rfl (by decide) (by decide) rfl rfl (by omega) (by unfold reachBytes; omega)
      have hb : ∀ s,As (2) zOwL 1 [(0,u)] s = some (.slice (some ⟨s.heap.length,0,none⟩) 1 1,s.push (.row (2) (Ao u) .act)):=LS (by decide) (by decide) rfl rfl (oOw.C.len (oOw.rel g5)) (oOw.leaf g5)
      obtain rfl:=Option.some.inj ((hb s2).symm.trans f1)
      have f2 : AD (2) (24) acc (.slice (some ⟨s2.heap.length,0,none⟩) 1 1) (s2.push (.row (2) (Ao u) .act)) = some (v',t):=f2
      have hap:=C9 (K:=[]) (s:=s2) (v:=.slice (some ⟨s2.heap.length,0,none⟩) 1 1) (n:=(2)) (cs:=Ao u) K4
      have hMt : t.heap[M]? = some (.row 0 cells .act):=by
        rw [f5 M (by omega) (.inl hM),g3.2 M hMl fun e=>by have:=Option.some.inj e; omega]
        exact hMr
      have f7:=Dm hMt hixl f3.leaf (Fc f3.leaf)
      have o1 : ownR (s2.push (.row (2) (Ao u) .act)) (v',t) = some (v',t):=Jm (F3 f2).1.1
      have o2 : ownR t (undef,t.putB M (.row 0 (cells.set ix v') .act)) = some (undef,t.putB M (.row 0 (cells.set ix v') .act)):=Jm (by rw [BM]; exact Nat.le_refl _)
      have low : ∀ b,b < lo→b ≠ N→b ≠ M→(t.putB M (.row 0 (cells.set ix v') .act)).heap[b]? = s.heap[b]?:=fun b hb1 hb2 hb3=>by
        rw [Cl hb3,f5 b (by omega) (.inl hb1),g3.2 b (by omega) fun e=>hb2 (Option.some.inj e).symm]
      have hrd : Rd N (t.putB M (.row 0 (cells.set ix v') .act)) y:=(g2.keep fun b hb=>f5 b (by omega) (.inl (by omega))).put hNM
      have ho6 : BJ oOw (24) lo (t.putB M (.row 0 (cells.set ix v') .act)).heap.length (l ++ [a]) (t.putB M (.row 0 (cells.set ix v') .act)) v':=by
        rw [BM]
        exact f3.keep fun b hb1 hb2=>Cl (by omega)
      obtain ⟨acc',s',y',l',m,j1,j3,j4,j5,j6,j7,j8,j9⟩:=ih (l ++ [a]) v' (cells.set ix v') (t.putB M (.row 0 (cells.set ix v') .act)) y (by simp; omega) hrd (by rw [BM]; omega) (CX (by omega)) (List.getElem?_set_self hixl) (by rw [low C hC.1 hC.2.1 hC.2.2]; exact hCr) (by rw [low W hW.1 hW.2.1 hW.2.2]; exact hWr) ho6
      rw [BM] at j4
      refine ⟨acc',s',y',l',a :: m,?_,j3,by omega,fun b hb1 hb2 hb3=>by rw [j5 b hb1 hb2 hb3,low b hb1 hb2 hb3],by rw [List.set_set] at j6; exact j6,j7,g6.cons j8,fun h=>by rw [j9 h]; simp⟩
      have hd : IntKind.wrap .i64 (((k + 1 : Nat) : Int) - 1) = ((k : Nat) : Int):=by rw [wrap_i64 (by omega) (by omega)]; omega
      rw [Ar,← j1]
      simp only [A7.b0,h1,Cz,EB,hv.ld1,hz2,B6 rC,B6 rW,Cv rM hacc,DJ I3 hf,hnil,HH,d1,e1,e2,e7,List.drop_zero,B6 qC,B6 qW,Cv qM hacc,IP,g1,hb,Bk,hap,f2,o1,f7,o2,hd,EVs]
    · have hz2 : (x.2 == 0) = false:=by simp [hx2]
      refine ⟨acc,s,x,l,[],?_,hx,Nat.le_refl _,fun _ _ _ _=>rfl,by rw [Hm hacc]; exact hMr,ho,.stuck hx2 rfl,fun h=>absurd h hx2⟩
      rw [Ar]
      simp only [A7.b0,h1,Cz,EB,hv.ld1,hz2,EVs]
theorem Gp {N M C W ix fa : Nat} {s : St} {x : BL × Int} {cells : List Value} (hf : (fa,ix) ∈ D7) (hNM : N < M) (hM : M < s.heap.length) (hC : C ≠ N∧C ≠ M) (hW : W ≠ N∧W ≠ M) (hx : Rd N s x) (hMr : s.heap[M]? = some (.row 0 cells .act)) (hacc : cells[ix]? = some (.slice none 0 0)) (hCr : s.heap[C]? = some (.row 0 [fnV fa] .act)) (hWr : s.heap[W]? = some (.row 0 [fnV 102] .act)) :
    ∃ (acc' : Value) (s' : St) (y : BL × Int) (l' : List TOw),Ag Tryz.prog (run Tryz.prog (libL libT) Ad) (.func (.func 159) #[] #[.pointer (some ⟨C,0,none⟩),.pointer (some ⟨W,0,none⟩)]) [rp N,mp M] s = some (undef,s')∧Rd N s' y∧s'.heap[M]? = some (.row 0 (cells.set ix acc') .act)∧BJ oOw (24) s.heap.length s'.heap.length l' s' acc'∧BX N M s s'∧Does (PG pOw) x l' y:=by
  rw [show (Value.func (.func 159) #[] #[.pointer (some ⟨C,0,none⟩),.pointer (some ⟨W,0,none⟩)]) = .func (.func 159) ([] : List Value).toArray [.pointer (some ⟨C,0,none⟩),.pointer (some ⟨W,0,none⟩)].toArray from rfl,Cq GN]
  obtain ⟨k,u6,c6,s6,y6,b1,b2,b3,b4,b5,b6⟩:=Ci s x hx
  obtain ⟨rfl,hk⟩:=CY b5 b4
  have b1 : (run Tryz.prog (libL libT) Ad) 153 [rp N] s = some (.int .i64 (k : Int),s6):=b1
  have n6:=b3.1
  have hCl:=(List.getElem?_eq_some_iff.1 hCr).1
  have hWl:=(List.getElem?_eq_some_iff.1 hWr).1
  have kp : ∀ b,b < s.heap.length→b ≠ N→s6.heap[b]? = s.heap[b]?:=fun b h1 h2=>b3.2 b h1 fun e=>h2 (Option.some.inj e).symm
  obtain ⟨acc',s',y,l',m,j1,j3,j4,j5,j6,j7,j8,j9⟩:=FP (lo:=s6.heap.length) hf hNM (by omega) ⟨by omega,hC.1,hC.2⟩ ⟨by omega,hW.1,hW.2⟩ k [] (.slice none 0 0) cells s6 y6 (by simpa using hk) b2 (Nat.le_refl _) (by rw [kp M hM (by omega)]; exact hMr) hacc (by rw [kp C hCl hC.1]; exact hCr) (by rw [kp W hWl hW.1]; exact hWr) .nil
  refine ⟨acc',s',y,l',GM rfl ?_,j3,j6,j7.mono n6 (Nat.le_refl _),⟨by omega,fun c h1 h2 h3=>by rw [j5 c (by omega) h2 h3,kp c h1 h2]⟩,(b6.bind j8).weaken fun h=>by simpa using j9 h⟩
  unfold A7
  simp only [List.cons_append,List.nil_append,Cg,b1,j1,ret0,EVs]
end Go.Proofs.YtmbhnbladmpnoaaGreat.Ab
