/- Texts of this proof, packed: AbOp, BRel, BOp, BReg, BDrawO, BDrawX, BDraw, BLit, BCode, BFun, BView, BRow. -/
import Derived.Test.YtmbhnbladmpnoaaGreatPk1
import Derived.LoopN
import Derived.WalkKit
set_option linter.unusedVariables false
set_option linter.unusedSimpArgs false
set_option linter.unusedSectionVars false
/- The abstract machine against the model: one operation,whichever. -/
namespace Go.Proofs.YtmbhnbladmpnoaaGreat.Ab
open Go
def DZ (P : Program) (call : Aa) : Prop :=
  ∀ f args s v s',call f args s = some (v,s')→Aq P f = true→∀ wb ι w (args' : Array Value),Sim wb ι s.heap w→All2 (VRel ι) args args'.toList →
    Calls P f args' w fun e w'=>∃ v',e = .returned v'∧Ba wb ι s.heap w s'.heap v v' w'
def UF (n : Nat) (o : Oper) : Bool:=o.op.operands.toList.all (opdB n)
section
variable {P : Program} {call : Aa} {o : Oper} {a : Act} {w : World} {wb : Nat} {ι : Emb} {T : Fr} {s : St} {β : Type} {k : Value→St→Option β} {r : β}
theorem Ru {xs : List Operand} {u : Value} {l : List Value} (h : opds T xs = some (u :: l)) : ∃ x ys,xs = x :: ys∧opd T x = some u∧opds T ys = some l:=by
  cases xs with
  | nil=>simp [opds] at h
  | cons x xs =>
    simp only [opds,Option.bind_eq_some_iff,Option.map_eq_some_iff] at h
    obtain ⟨v1,h1,r1,h2,h4⟩:=h
    simp only [List.cons.injEq] at h4
    obtain ⟨rfl,rfl⟩:=h4
    exact ⟨x,xs,rfl,h1,h2⟩
theorem ZcL {xs : List Operand} (h : opds T xs = some []) : xs = []:=by
  cases xs with
  | nil=>rfl
  | cons x xs =>
    simp only [opds,Option.bind_eq_some_iff,Option.map_eq_some_iff] at h
    obtain ⟨v1,h1,r1,h2,h4⟩:=h
    cases h4
theorem Zaq {xs : List Operand} {u : Value} (h : opds T xs = some [u]) : ∃ x,xs = [x]∧opd T x = some u:=by
  obtain ⟨x,ys,rfl,h1,h2⟩:=Ru h
  exact ⟨x,by rw [ZcL h2],h1⟩
theorem Ye {xs : List Operand} {u v : Value} (h : opds T xs = some [u,v]) : ∃ x y,xs = [x,y]∧opd T x = some u∧opd T y = some v:=by
  obtain ⟨x,ys,rfl,h1,h2⟩:=Ru h
  obtain ⟨y,rfl,h3⟩:=Zaq h2
  exact ⟨x,y,rfl,h1,h3⟩
theorem Zer {xs : List Operand} {u v q : Value} (h : opds T xs = some [u,v,q]) : ∃ x y z,xs = [x,y,z]∧opd T x = some u∧opd T y = some v∧opd T z = some q:=by
  obtain ⟨x,ys,rfl,h1,h2⟩:=Ru h
  obtain ⟨y,z,rfl,h3,h4⟩:=Ye h2
  exact ⟨x,y,z,rfl,h1,h3,h4⟩
theorem GY {α : Type} {c : Array α} {l : List α} (e : c.toList = l) : c = l.toArray:=by rw [← e]
theorem Rv {c : Call} {b : Builtin} {xs : List Value} (ho : o.op = .call c) (hc : c.callee = .builtin b) (hx : opds T c.args.toList = some xs) (h : C1 P b c.argTypes.toList xs s k = some r)
    (hs : Sim wb ι s.heap w) (hf : Jv ι T a.tmps) (hb : c.args.toList.all (opdB a.tmps.size) = true) : ∃ v s',k v s' = some r∧OpOk P o a w (Ba wb ι s.heap w s'.heap v):=by
  unfold C1 at h
  split at h
  · -- append
    rename_i t u x y het
    obtain ⟨ox,oy,hargs,h1,h2⟩:=Ye hx
    rw [hargs] at hb
    simp at hb
    split at h
    · rename_i e kn hu1 hu2
      simp only [Option.bind_eq_some_iff] at h
      obtain ⟨n,hn,wd,hw,z,hz,⟨v,s'⟩,hr,hk⟩:=h
      exact ⟨v,s',hk,WP ho hc (GY hargs) (GY het) hs hu1 hu2 hn hw hz (Aw h1 hf hb.1) (Aw h2 hf hb.2) hr⟩
    · rename_i e du hnot hu1 hu2
      simp only [Option.bind_eq_some_iff] at h
      obtain ⟨n,hn,wd,hw,z,hz,h⟩:=h
      split at h
      case isFalse=>cases h
      rename_i hzl
      simp only [Option.bind_eq_some_iff] at h
      obtain ⟨⟨v,s'⟩,hr,hk⟩:=h
      exact ⟨v,s',hk,X9 ho hc (GY hargs) (GY het) hs hu1 hu2 (fun q hq=>hnot q hq) hn hw hz hzl (Aw h1 hf hb.1) (Aw h2 hf hb.2) hr⟩
    · cases h
  · -- copy
    rename_i t u x y het
    obtain ⟨ox,oy,hargs,h1,h2⟩:=Ye hx
    rw [hargs] at hb
    simp at hb
    split at h
    · rename_i e hu1
      simp only [Option.bind_eq_some_iff] at h
      obtain ⟨n,hn,⟨v,s'⟩,hr,hk⟩:=h
      exact ⟨v,s',hk,ZcH ho hc (GY hargs) (GY het) hs hu1 hn (Aw h1 hf hb.1) (Aw h2 hf hb.2) hr⟩
    · cases h
  · -- len
    rename_i t ts x het
    obtain ⟨ox,hargs,h1⟩:=Zaq hx
    rw [hargs] at hb
    simp at hb
    have hts0 : c.argTypes[0]? = some t:=by rw [GY het]; rfl
    split at h
    · rename_i n e hu
      exact ⟨_,_,h,S1 (u:=t) ho hc (GY hargs) rfl hts0 hs (.inl hu)⟩
    · rename_i u hu
      split at h
      · rename_i n e hu2
        exact ⟨_,_,h,S1 (u:=u) ho hc (GY hargs) rfl hts0 hs (.inr ⟨hu,hu2⟩)⟩
      · cases h
    · rename_i d hu1 hu2 hd
      simp only [Option.bind_eq_some_iff] at h
      obtain ⟨v,hv,hk⟩:=h
      unfold AG at hv
      split at hv
      case isFalse=>cases hv
      rename_i hfit
      refine ⟨v,s,hk,Zeo ho hc (GY hargs) rfl hts0 hs hd ?_ (fun e=>by rw [hfit] at e; cases e) (Aw h1 hf hb) hv⟩
      cases d <;> simp_all [Re]
    · cases h
  · -- cap
    rename_i t ts x het
    obtain ⟨ox,hargs,h1⟩:=Zaq hx
    rw [hargs] at hb
    simp at hb
    have hts0 : c.argTypes[0]? = some t:=by rw [GY het]; rfl
    split at h
    · rename_i e hu
      simp only [Option.bind_eq_some_iff] at h
      obtain ⟨v,hv,hk⟩:=h
      exact ⟨v,s,hk,Zen ho hc (GY hargs) rfl hts0 hs hu (Aw h1 hf hb) hv⟩
    · cases h
  · rename_i x y
    obtain ⟨ox,oy,hargs,h1,h2⟩:=Ye hx
    rw [hargs] at hb
    simp at hb
    simp only [Option.bind_eq_some_iff] at h
    obtain ⟨v,hv,hk⟩:=h
    exact ⟨v,s,hk,Zep ho hc (GY hargs) hs (Aw h1 hf hb.1) (Aw h2 hf hb.2) hv⟩
  · rename_i x y
    obtain ⟨ox,oy,hargs,h1,h2⟩:=Ye hx
    rw [hargs] at hb
    simp at hb
    simp only [Option.bind_eq_some_iff] at h
    obtain ⟨v,hv,hk⟩:=h
    exact ⟨v,s,hk,Zeq ho hc (GY hargs) hs (Aw h1 hf hb.1) (Aw h2 hf hb.2) hv⟩
  · obtain ⟨ox,oy,oz,hargs,h1,h2,h3⟩:=Zer hx
    rw [hargs] at hb
    simp at hb
    simp only [Option.bind_eq_some_iff] at h
    obtain ⟨m,hm,v,hv,hk⟩:=h
    exact ⟨v,s,hk,ZcI ho hc (GY hargs) hs (Aw h1 hf hb.1) (Aw h2 hf hb.2.1) (Aw h3 hf hb.2.2) hm hv⟩
  · obtain ⟨ox,oy,oz,hargs,h1,h2,h3⟩:=Zer hx
    rw [hargs] at hb
    simp at hb
    simp only [Option.bind_eq_some_iff] at h
    obtain ⟨m,hm,v,hv,hk⟩:=h
    exact ⟨v,s,hk,ZcJ ho hc (GY hargs) hs (Aw h1 hf hb.1) (Aw h2 hf hb.2.1) (Aw h3 hf hb.2.2) hm hv⟩
  · -- clear
    rename_i t ts x het
    obtain ⟨ox,hargs,h1⟩:=Zaq hx
    rw [hargs] at hb
    simp at hb
    have hts0 : c.argTypes[0]? = some t:=by rw [GY het]; rfl
    split at h
    · rename_i e hu
      simp only [Option.bind_eq_some_iff] at h
      obtain ⟨n,hn,z,hz,s',hs',hk⟩:=h
      exact ⟨_,s',hk,Zao ho hc (GY hargs) rfl hts0 hs hu hn hz (Aw h1 hf hb) hs'⟩
    · rename_i ky el hu
      simp only [Option.bind_eq_some_iff] at h
      obtain ⟨s',hs',hk⟩:=h
      exact ⟨_,s',hk,Yb ho hc (GY hargs) rfl hts0 hs hu (Aw h1 hf hb) hs'⟩
    · cases h
  · cases h
theorem S5 (hcall : DZ P call) (h : Bv P call T o s k = some r) (hs : Sim wb ι s.heap w) (hf : Jv ι T a.tmps) (hb : UF a.tmps.size o = true) :
    ∃ v s',k v s' = some r∧OpOk P o a w (Ba wb ι s.heap w s'.heap v):=by
  unfold UF at hb
  unfold Bv at h
  split at h
  case h_1 x ho=>-- move
    simp [ho,Op.operands] at hb
    simp only [Option.bind_eq_some_iff] at h
    obtain ⟨v,hv,hk⟩:=h
    exact ⟨v,s,hk,X5 (.inl ho) hs (Aw hv hf hb)⟩
  case h_2 x ho=>-- assign
    simp [ho,Op.operands] at hb
    simp only [Option.bind_eq_some_iff] at h
    obtain ⟨v,hv,hk⟩:=h
    exact ⟨v,s,hk,X5 (.inr ho) hs (Aw hv hf hb)⟩
  case h_3 c x y ho =>
    simp [ho,Op.operands] at hb
    simp only [Option.bind_eq_some_iff] at h
    obtain ⟨vc,hc,va,hva,vb,hvb,v,hv,hk⟩:=h
    unfold AJ at hv
    split at hv
    · cases hv
      exact ⟨va,s,hk,X6 (b:=true) ho hs (Aw hc hf hb.1) (Aw hva hf hb.2.1)⟩
    · cases hv
      exact ⟨vb,s,hk,X6 (b:=false) ho hs (Aw hc hf hb.1) (Aw hvb hf hb.2.2)⟩
    · cases hv
  case h_4 e ho=>-- alloc
    simp only [Option.bind_eq_some_iff] at h
    obtain ⟨z,hz,q,hq,hk⟩:=h
    unfold anew at hq
    split at hq
    case isFalse=>cases hq
    cases hq
    exact ⟨_,_,hk,Zai ho hs hz⟩
  case h_5 e x ho=>-- box
    simp [ho,Op.operands] at hb
    simp only [Option.bind_eq_some_iff] at h
    obtain ⟨v,hv,q,hq,hk⟩:=h
    unfold anew at hq
    split at hq
    case isFalse=>cases hq
    rename_i hl
    cases hq
    exact ⟨_,_,hk,Zem ho hs (Aw hv hf hb) hl⟩
  case h_6 t parts ho=>-- build
    simp only [Option.bind_eq_some_iff] at h
    obtain ⟨ps,hps,v,hv,hk⟩:=h
    unfold AV at hv
    simp only [Option.bind_eq_some_iff,Option.map_eq_some_iff] at hv
    obtain ⟨pl,hpl,z,hz,cs,hcs,rfl⟩:=hv
    exact ⟨_,s,hk,Zak ho hs hf (by rw [ho] at hb; simpa [Op.operands,List.all_map] using hb) hps hpl hz hcs⟩
  case h_7 t len parts ho=>-- buildSlice
    split at h
    · rename_i e hu
      simp only [Option.bind_eq_some_iff] at h
      obtain ⟨ps,hps,n,hn,z,hz,⟨v,s'⟩,hv,hk⟩:=h
      unfold As at hv
      split at hv
      case isFalse=>cases hv
      rename_i hc
      simp only [Option.map_eq_some_iff] at hv
      obtain ⟨cs,hcs,he⟩:=hv
      cases he
      exact ⟨_,_,hk,Ro ho hs hf (by rw [ho] at hb; simpa [Op.operands,List.all_map] using hb) hps hu hn hz hc.1 hc.2.1 hcs⟩
    · cases h
  case h_8 t x ho=>-- load
    simp [ho,Op.operands] at hb
    simp only [Option.bind_eq_some_iff] at h
    obtain ⟨va,hva,ag,hag,n,hn,v,hv,hk⟩:=h
    exact ⟨v,s,hk,ZcF ho hs (Aw hva hf hb) hag hn hv⟩
  case h_9 t x y ho=>-- store
    simp [ho,Op.operands] at hb
    simp only [Option.bind_eq_some_iff] at h
    obtain ⟨va,hva,v,hv,n,hn,s',hs',hk⟩:=h
    exact ⟨_,s',hk,Zaj ho hs (Aw hva hf hb.1) (Aw hv hf hb.2) hn hs'⟩
  case h_10 x ho=>-- nilCheck
    simp [ho,Op.operands] at hb
    simp only [Option.bind_eq_some_iff] at h
    obtain ⟨v,hv,u,hu,hk⟩:=h
    unfold Ah at hu
    split at hu
    · cases hu; exact ⟨_,s,hk,NY ho hs (Aw hv hf hb)⟩
    · cases hu; exact ⟨_,s,hk,MC ho hs (Aw hv hf hb)⟩
    · cases hu
  case h_11 op t x y yt ho=>-- binOp
    simp [ho,Op.operands] at hb
    simp only [Option.bind_eq_some_iff] at h
    obtain ⟨u,hu,v,hv,q,hq,hk⟩:=h
    exact ⟨q,s,hk,Zal ho hs (Aw hu hf hb.1) (Aw hv hf hb.2) hq⟩
  case h_12 op t x ho=>-- unOp
    simp [ho,Op.operands] at hb
    simp only [Option.bind_eq_some_iff] at h
    obtain ⟨u,hu,q,hq,hk⟩:=h
    exact ⟨q,s,hk,ZcG ho hs (Aw hu hf hb) hq⟩
  case h_13 src dst x ho=>-- convert
    simp [ho,Op.operands] at hb
    simp only [Option.bind_eq_some_iff] at h
    obtain ⟨u,hu,h⟩:=h
    split at h
    · rename_i k0 kd hs1 hs2
      simp only [Option.bind_eq_some_iff] at h
      obtain ⟨v,hv,hk⟩:=h
      unfold AM at hv
      split at hv
      · cases hv; exact ⟨_,s,hk,WJ ho hs hs1 hs2 (Aw hu hf hb)⟩
      · cases hv
    · rename_i hs1 hs2
      simp only [Option.bind_eq_some_iff] at h
      obtain ⟨v,hv,hk⟩:=h
      unfold XW at hv
      split at hv
      · cases hv; exact ⟨_,s,hk,WK ho hs hs1 hs2 (Aw hu hf hb)⟩
      · cases hv
    · rename_i e hs1 hs2
      split at h
      · rename_i he
        simp only [Option.bind_eq_some_iff] at h
        obtain ⟨⟨v,s'⟩,hv,hk⟩:=h
        unfold SP at hv
        split at hv
        · split at hv
          · cases hv; exact ⟨_,_,hk,SW ho hs hs1 hs2 he (Aw hu hf hb)⟩
          · cases hv
        · cases hv
      · rename_i he
        simp only [Option.bind_eq_some_iff] at h
        obtain ⟨⟨v,s'⟩,hv,hk⟩:=h
        unfold J9 at hv
        split at hv
        · cases hv; exact ⟨_,_,hk,S4 ho hs hs1 hs2 he (Aw hu hf hb)⟩
        · cases hv
      · cases h
    · rename_i e hs1 hs2
      split at h
      · rename_i he
        simp only [Option.bind_eq_some_iff] at h
        obtain ⟨v,hv,hk⟩:=h
        exact ⟨v,s,hk,SX ho hs hs1 hs2 he (Aw hu hf hb) hv⟩
      · cases h
    · rename_i e e2 hs1 hs2
      split at h
      case isFalse=>cases h
      rename_i heq
      subst heq
      split at h
      · rename_i he
        simp only [Option.bind_eq_some_iff] at h
        obtain ⟨v,hv,hk⟩:=h
        unfold SQ at hv
        split at hv
        · split at hv
          · rename_i hcells
            cases hv
            exact ⟨_,s,hk,X7 ho hs hs1 he hcells (Aw hu hf hb)⟩
          · cases hv
        · cases hv
      · cases h
    · cases h
  case h_14 t x ho=>-- makeInterface
    simp [ho,Op.operands] at hb
    simp only [Option.bind_eq_some_iff] at h
    obtain ⟨v,hv,h⟩:=h
    split at h
    · cases h
    · rename_i d hnot hd
      simp only [Option.bind_eq_some_iff] at h
      obtain ⟨u,hu,hk⟩:=h
      unfold VE at hu
      split at hu
      case isFalse=>cases hu
      rename_i hok
      cases hu
      exact ⟨_,s,hk,MD ho hs hd (fun ms e=>hnot ms e) (Aw hv hf hb) hok⟩
    · cases h
  case h_15 fn first captured ho=>-- makeFunc
    rw [ho] at hb
    simp only [Op.operands,Array.toList_append,List.all_append,Bool.and_eq_true] at hb
    split at h
    · simp only [Option.bind_eq_some_iff] at h
      obtain ⟨xs,hxs,ys,hys,v,hv,hk⟩:=h
      unfold BF at hv
      split at hv
      case isFalse=>cases hv
      rename_i hc
      cases hv
      exact ⟨_,s,hk,Uy (T:=T) ho hs (Nt hf hxs hb.1) (Nt hf hys hb.2) hc.1 hc.2⟩
    · cases h
  case h_16 t l c ho=>-- makeSlice
    simp [ho,Op.operands] at hb
    simp only [Option.bind_eq_some_iff] at h
    obtain ⟨u,hu,v,hv,h⟩:=h
    split at h
    · rename_i e ht
      simp only [Option.bind_eq_some_iff] at h
      obtain ⟨n,hn,b,hb2,z,hz,⟨q,s'⟩,hq,hk⟩:=h
      exact ⟨q,s',hk,SY ho hs ht hn hb2 hz (Aw hu hf hb.1) (Aw hv hf hb.2) hq⟩
    · cases h
  case h_17 t x lo hi mx ho=>-- slice
    rw [ho] at hb
    have hbs : opdB a.tmps.size x = true∧SZ a.tmps.size lo = true∧SZ a.tmps.size hi = true∧SZ a.tmps.size mx = true:=by
      simp only [Op.operands,Array.toList_append,List.all_append,Bool.and_eq_true] at hb
      obtain ⟨⟨⟨h1,h2⟩,h3⟩,h4⟩:=hb
      refine ⟨by simpa using h1,?_,?_,?_⟩
      · cases lo <;> simp_all [SZ]
      · cases hi <;> simp_all [SZ]
      · cases mx <;> simp_all [SZ]
    obtain ⟨b1,b2,b3,b4⟩:=hbs
    simp only [Option.bind_eq_some_iff] at h
    obtain ⟨u,hu,vlo,hlo,vhi,hhi,vmx,hmx,h⟩:=h
    have r1:=Aw hu hf b1
    have r2:=Nu hf hlo b2
    have r3:=Nu hf hhi b3
    have r4:=Nu hf hmx b4
    split at h
    · rename_i ht
      simp only [Option.bind_eq_some_iff] at h
      obtain ⟨v,hv,hk⟩:=h
      unfold QE at hv
      split at hv
      · exact ⟨v,s,hk,Uz ho hs ht r1 r2 r3 r4 hv⟩
      · cases hv
    · rename_i e ht
      simp only [Option.bind_eq_some_iff] at h
      obtain ⟨n,hn,v,hv,hk⟩:=h
      unfold Bn at hv
      split at hv
      · exact ⟨v,s,hk,Zam ho hs ht hn r1 r2 r3 r4 hv⟩
      · cases hv
    · rename_i len e ht
      simp only [Option.bind_eq_some_iff] at h
      obtain ⟨n,hn,v,hv,hk⟩:=h
      unfold Ff at hv
      split at hv
      · split at hv
        · rename_i ad _ cells st hcells
          split at hv
          · cases hv
          · rename_i hnd
            exact ⟨v,s,hk,N1 ho hs (.inl ht) hn r1 r2 r3 r4 ⟨_,_,hcells,hnd⟩ hv⟩
        · cases hv
      · cases hv
    · rename_i u2 ht
      split at h
      · rename_i len e hu2
        simp only [Option.bind_eq_some_iff] at h
        obtain ⟨n,hn,v,hv,hk⟩:=h
        unfold Ff at hv
        split at hv
        · split at hv
          · rename_i ad _ cells st hcells
            split at hv
            · cases hv
            · rename_i hnd
              exact ⟨v,s,hk,N1 ho hs (.inr ⟨u2,ht,hu2⟩) hn r1 r2 r3 r4 ⟨_,_,hcells,hnd⟩ hv⟩
          · cases hv
        · cases hv
      · cases h
    · cases h
  case h_18 t x i ho=>-- fieldAddr
    simp [ho,Op.operands] at hb
    simp only [Option.bind_eq_some_iff] at h
    obtain ⟨u,hu,f,hf2,n,hn,h⟩:=h
    split at h
    · cases h
    · rename_i h0
      simp only [Option.bind_eq_some_iff] at h
      obtain ⟨v,hv,hk⟩:=h
      exact ⟨v,s,hk,L6 ho hs hf2 hn h0 (Aw hu hf hb) hv⟩
  case h_19 t x i ho=>-- field
    simp [ho,Op.operands] at hb
    simp only [Option.bind_eq_some_iff] at h
    obtain ⟨u,hu,f,hf2,ag,hag,n,hn,v,hv,hk⟩:=h
    exact ⟨v,s,hk,Zan ho hs hf2 hag hn (Aw hu hf hb) hv⟩
  case h_20 t x i ho=>-- indexAddr
    simp [ho,Op.operands] at hb
    simp only [Option.bind_eq_some_iff] at h
    obtain ⟨u,hu,v,hv,h⟩:=h
    split at h
    · rename_i e ht
      simp only [Option.bind_eq_some_iff] at h
      obtain ⟨n,hn,q,hq,hk⟩:=h
      exact ⟨q,s,hk,X8 ho hs ht hn (Aw hu hf hb.1) (Aw hv hf hb.2) hq⟩
    · rename_i len e ht
      simp only [Option.bind_eq_some_iff] at h
      obtain ⟨n,hn,q,hq,hk⟩:=h
      exact ⟨q,s,hk,S0 ho hs ht hn (Aw hu hf hb.1) (Aw hv hf hb.2) hq⟩
    · cases h
  case h_21 t x i ho=>-- index
    simp [ho,Op.operands] at hb
    simp only [Option.bind_eq_some_iff] at h
    obtain ⟨u,hu,v,hv,h⟩:=h
    split at h
    · rename_i ht
      simp only [Option.bind_eq_some_iff] at h
      obtain ⟨q,hq,hk⟩:=h
      exact ⟨q,s,hk,UA ho hs ht (Aw hu hf hb.1) (Aw hv hf hb.2) hq⟩
    · rename_i len e ht
      simp only [Option.bind_eq_some_iff] at h
      obtain ⟨ag,hag,n,hn,q,hq,hk⟩:=h
      exact ⟨q,s,hk,UB ho hs ht hag hn (Aw hu hf hb.1) (Aw hv hf hb.2) hq⟩
    · cases h
  case h_22 x i ho=>-- extract
    simp [ho,Op.operands] at hb
    simp only [Option.bind_eq_some_iff] at h
    obtain ⟨u,hu,v,hv,hk⟩:=h
    unfold Al at hv
    split at hv
    · simp only [Option.bind_eq_some_iff] at hv
      obtain ⟨q,hq,hv⟩:=hv
      split at hv
      · cases hv
      · rename_i hnt
        cases hv
        exact ⟨_,s,hk,WM ho hs (Aw hu hf hb) hq (by simpa using hnt)⟩
    · cases hv
  case h_23 c ho=>-- call
    rw [ho] at hb
    simp only [Op.operands] at hb
    split at h
    · rename_i b hc
      simp only [Option.bind_eq_some_iff] at h
      obtain ⟨xs,hxs,h⟩:=h
      exact Rv ho hc hxs h hs hf (by simpa [Call.operands,hc] using hb)
    · rename_i f hc
      have hb2 : opdB a.tmps.size f = true∧c.args.toList.all (opdB a.tmps.size) = true:=by
        simpa [Call.operands,hc] using hb
      simp only [Option.bind_eq_some_iff] at h
      obtain ⟨vf,hvf,xs,hxs,⟨v,s'⟩,hr,hk⟩:=h
      unfold Ag at hr
      split at hr
      · rename_i g first captured
        split at hr
        case isFalse=>cases hr
        rename_i hok
        exact ⟨v,s',hk,ZcK (call:=call) ho hc (Aw hvf hf hb2.1) (Nt hf hxs hb2.2) hok (fun args' ha=>hcall _ _ _ _ _ hr hok _ _ _ _ hs ha)⟩
      · cases hr
    · cases h
  case h_24 x xt asserted ok ho=>-- typeAssert
    rw [ho] at hb
    simp only [Op.operands] at hb
    simp only [Option.bind_eq_some_iff] at h
    obtain ⟨u,hu,h⟩:=h
    split at h
    · cases h
    · rename_i d hnot hd
      simp only [Option.bind_eq_some_iff] at h
      obtain ⟨z,hz,h⟩:=h
      split at h
      case isFalse=>cases h
      rename_i hok
      subst hok
      simp only [Option.bind_eq_some_iff] at h
      obtain ⟨v,hv,hk⟩:=h
      exact ⟨_,s,hk,Rr ho hs hd (fun ms e=>hnot ms e) hz (Aw hu hf (by simpa using hb)) hv⟩
    · cases h
  case h_25 t r0 ho=>-- makeMap
    simp only [Option.bind_eq_some_iff] at h
    obtain ⟨vr,hvr,h⟩:=h
    split at h
    case h_2=>cases h
    rename_i ky el hu
    simp only [Option.bind_eq_some_iff] at h
    obtain ⟨⟨v,s'⟩,hq,hk⟩:=h
    exact ⟨v,s',hk,WQ ho hs hu (Nu hf hvr (by
      cases r0 with
      | none=>rfl
      | some r0 =>
        rw [ho] at hb
        simpa [Op.operands,SZ] using hb)) hq⟩
  case h_26 t x y ok ho=>-- lookup
    simp [ho,Op.operands] at hb
    simp only [Option.bind_eq_some_iff] at h
    obtain ⟨u,hu,v,hv,h⟩:=h
    split at h
    case h_2=>cases h
    rename_i ky el ht
    simp only [Option.bind_eq_some_iff] at h
    obtain ⟨z,hz,r0,hr,hk⟩:=h
    exact ⟨r0,s,hk,Ya ho hs ht hz (Aw hu hf hb.1) (Aw hv hf hb.2) hr⟩
  case h_27 t x y q ho=>-- mapUpdate
    simp [ho,Op.operands] at hb
    simp only [Option.bind_eq_some_iff] at h
    obtain ⟨u,hu,v,hv,w0,hw,h⟩:=h
    split at h
    case h_2=>cases h
    rename_i ky el ht
    simp only [Option.bind_eq_some_iff] at h
    obtain ⟨s',hr,hk⟩:=h
    exact ⟨_,s',hk,L7 (.inl ho) hs ht (Aw hu hf hb.1) (Aw hv hf hb.2.1) (Aw hw hf hb.2.2) hr⟩
  case h_28 t x y ho=>-- mapEntry
    simp [ho,Op.operands] at hb
    simp only [Option.bind_eq_some_iff] at h
    obtain ⟨u,hu,v,hv,h⟩:=h
    split at h
    case h_2=>cases h
    rename_i ky el ht
    simp only [Option.bind_eq_some_iff] at h
    obtain ⟨z,hz,⟨r0,s'⟩,hr,hk⟩:=h
    exact ⟨r0,s',hk,UE ho hs ht hz (Aw hu hf hb.1) (Aw hv hf hb.2) hr⟩
  case h_29 t x y q ho=>-- entryStore
    simp [ho,Op.operands] at hb
    simp only [Option.bind_eq_some_iff] at h
    obtain ⟨u,hu,v,hv,w0,hw,s',hr,hk⟩:=h
    exact ⟨_,s',hk,Rt ho hs (Aw hu hf hb.1) (Aw hv hf hb.2.1) (Aw hw hf hb.2.2) hr⟩
  case h_30 t x y q ho=>-- insert
    simp [ho,Op.operands] at hb
    simp only [Option.bind_eq_some_iff] at h
    obtain ⟨u,hu,v,hv,w0,hw,h⟩:=h
    split at h
    case h_2=>cases h
    rename_i ky el ht
    simp only [Option.bind_eq_some_iff] at h
    obtain ⟨s',hr,hk⟩:=h
    exact ⟨_,s',hk,L7 (.inr ho) hs ht (Aw hu hf hb.1) (Aw hv hf hb.2.1) (Aw hw hf hb.2.2) hr⟩
  case h_31 t x ho=>-- range
    simp [ho,Op.operands] at hb
    simp only [Option.bind_eq_some_iff] at h
    obtain ⟨u,hu,h⟩:=h
    split at h
    · rename_i ht
      simp only [Option.bind_eq_some_iff] at h
      obtain ⟨⟨v,s'⟩,hv,hk⟩:=h
      exact ⟨v,s',hk,Yc ho hs ht (Aw hu hf hb) hv⟩
    · rename_i ky el ht
      simp only [Option.bind_eq_some_iff] at h
      obtain ⟨⟨v,s'⟩,hv,hk⟩:=h
      exact ⟨v,s',hk,Yd ho hs ht (Aw hu hf hb) hv⟩
    · cases h
  case h_32 x str ho=>-- next
    simp [ho,Op.operands] at hb
    simp only [Option.bind_eq_some_iff] at h
    obtain ⟨u,hu,h⟩:=h
    split at h
    case isFalse=>cases h
    rename_i hstr
    subst hstr
    simp only [Option.bind_eq_some_iff] at h
    obtain ⟨⟨v,s'⟩,hv,hk⟩:=h
    exact ⟨v,s',hk,Zap ho hs (Aw hu hf hb) hv⟩
  case h_33=>cases h
end
end Go.Proofs.YtmbhnbladmpnoaaGreat.Ab

/- The abstract machine with variables in the frame,against the model: how frames correspond. -/
namespace Go.Proofs.YtmbhnbladmpnoaaGreat.Ab
open Go
abbrev Lam:=Nat→Option Nat
def ZcM (ι : Emb) (lam : Lam) (w : World) (j : Nat) (u : Value) : Prop :=
  ∀ cells,u = .agg cells→∃ blk cs e fz,lam j = some blk∧w.heap[blk]? = some (.cells cs e fz)∧fzOk 0 fz cs.size∧All2 (L2 ι) cells.toList cs.toList
def S6 (lam : Lam) (j : Nat) (u v : Value) : Prop :=
  (∃ q,u = .tuple q) ∨ ∃ off blk,u = .pointer (some ⟨0,off,none⟩)∧lam j = some blk∧v = .pointer (some ⟨blk,off,none⟩)
def NRel (tn : Tn) (n : Nat) (ι : Emb) (lam : Lam) (w : World) (tmps : Array Value) (x : Nat) (u : Value) : Prop :=
  if x < n then (match look x tn with | none=>VRel ι u (tmps.getD x undef) | some j=>S6 lam j u (tmps.getD x undef)) else ZcM ι lam w x u
structure LamOk (lo : Nat) (ι : Emb) (H : List Blk) (lam : Lam) (w : World) : Prop where
  lo : ∀ j b,lam j = some b→lo ≤ b∧b < w.heap.size
  excl : ∀ j b,lam j = some b→∀ a y,ownB H[a]? = true→ι a = some y→y.blk ≠ b
  inj : ∀ i j b,lam i = some b→lam j = some b→i = j
theorem NRel.poison {tn : Tn} {n : Nat} {ι : Emb} {lam : Lam} {w : World} {tmps : Array Value} {x : Nat} : NRel tn n ι lam w tmps x CB:=by
  unfold NRel
  split
  · split
    · exact .poison _
    · exact .inl ⟨_,rfl⟩
  · intro c h; cases h
theorem GZ {n m : Nat} : ∀ {tn : Tn},tnOk n m tn = true→∀ {x j : Nat},look x tn = some j→m ≤ x∧x < n∧n ≤ j
  | [],_,x,j,h=>by simp [look] at h
  | (y,q) :: l,h,x,j,hl=>by
    simp only [tnOk,Bool.and_eq_true,Nat.ble_eq] at h
    simp only [look] at hl
    cases hb : Nat.beq x y with
    | true =>
      rw [hb] at hl
      cases hl
      have:=Nat.eq_of_beq_eq_true hb
      subst this
      exact ⟨h.1.1.1,h.1.1.2,h.1.2⟩
    | false=>rw [hb] at hl; exact GZ h.2 hl
theorem FW {j : Nat} : ∀ {tn : Tn} {x : Nat},look x tn = some j→x ∈ DV j tn
  | [],x,h=>by simp [look] at h
  | (y,q) :: l,x,hl=>by
    simp only [look] at hl
    simp only [DV]
    cases hb : Nat.beq x y with
    | true =>
      rw [hb] at hl
      cases hl
      have:=Nat.eq_of_beq_eq_true hb
      subst this
      rw [Nat.beq_refl]
      exact List.mem_cons_self
    | false =>
      rw [hb] at hl
      have:=FW (tn:=l) hl
      cases Nat.beq q j
      · exact this
      · exact List.mem_cons_of_mem _ this
structure AfterL (tn : Tn) (n wb lo : Nat) (ι : Emb) (lam : Lam) (H : List Blk) (w : World) (T : Fr) (sets : List Nat) (ι' : Emb) (lam' : Lam) (K : List Blk) (w' : World) (T' : Fr) (tmps : Array Value) : Prop where
  sim : Sim wb ι' K w'
  lok : LamOk lo ι' K lam' w'
  le : ι.le ι'
  old : ∀ b,b < H.length→ι' b = ι b
  img : ∀ b x,ι' b = some x→H.length ≤ b→w.heap.size ≤ x.blk ∨ ∃ a y,ownB H[a]? = true∧ι a = some y∧y.blk = x.blk
  keep : ∀ c,c < w.heap.size→(∀ a y,ownB H[a]? = true→ι a = some y→y.blk ≠ c)→(∀ j,lam j ≠ some c)→w'.heap[c]? = w.heap[c]?
  keepL : ∀ j b,lam j = some b→j ∉ sets→lam' j = some b∧w'.heap[b]? = w.heap[b]?
  keepP : ∀ x j,look x tn = some j→x ∉ sets→lam' j = lam j
  lnew : ∀ j b,lam' j = some b→lam j = some b ∨ w.heap.size ≤ b
  size : w.heap.size ≤ w'.heap.size
  os : w'.os = w.os
  tape : w'.tape = w.tape
  output : w'.output = w.output
  len : H.length ≤ K.length
  own : ∀ a,a < H.length→ownB K[a]? = true→ownB H[a]? = true
  nm : ∀ x,x ∈ sets→NRel tn n ι' lam' w' tmps x (T' x)
  frame : ∀ x,x ∉ sets→T' x = T x
theorem Di {T : Fr} {d : Option Tmp} {v : Value} {x : Nat} (h : x ∉ d.toList) : putT T d v x = T x:=by
  cases d with
  | none=>rfl
  | some d =>
    have hd : ¬ d = x:=fun e=>h (by simp [e])
    have:=DX T v d x
    rw [if_neg hd] at this
    exact this
theorem N3 {T : Fr} {d : Nat} {v : Value} : putT T (some d) v d = v:=by
  have:=DX T v d d
  rw [if_pos rfl] at this
  exact this
theorem Lf {a : Act} {d : Option Tmp} {v : Value} {x : Nat} (h : x ∉ d.toList) : (a.put d v).tmps.getD x undef = a.tmps.getD x undef:=by
  cases d with
  | none=>rfl
  | some d =>
    have hd : d ≠ x:=fun e=>h (by simp [e])
    simp [Act.put,Array.getElem?_setIfInBounds_ne hd]
theorem G1 {a : Act} {d : Nat} {v : Value} (h : d < a.tmps.size) : (a.put (some d) v).tmps.getD d undef = v:=by simp [Act.put,h]
theorem Sim.later {wb : Nat} {ι : Emb} {H : List Blk} {w w' : World} (h : Sim wb ι H w) (hk : ∀ c,c < w.heap.size→w'.heap[c]? = w.heap[c]?) (hz : w.heap.size ≤ w'.heap.size) : Sim wb ι H w' where
  dom:=h.dom
  row b n cells st hb hst l hl:=by
    obtain ⟨cs,e,fz,q1,q2⟩:=h.row b n cells st hb hst l hl
    exact ⟨cs,e,fz,by rw [hk _ (Array.getElem?_eq_some_iff.1 q1).1]; exact q1,q2⟩
  map b es clock hb l hl:=by
    obtain ⟨q1,q2,es',q3,q4⟩:=h.map b es clock hb l hl
    exact ⟨q1,q2,es',by rw [hk _ (Array.getElem?_eq_some_iff.1 q3).1]; exact q3,q4⟩
  excl:=h.excl
  size:=Nat.le_trans h.size hz
  loc:=h.loc
section
variable {P : Program} {call : Aa}
theorem HX {b : Builtin} {ts : List TypeId} {xs : List Value} {s : St} {β : Type} (k : Value→St→Option β) :
    C1 P b ts xs s k = (C1 P b ts xs s fun v s=>some (v,s)).bind fun r=>k r.1 r.2:=by
  unfold C1
  repeat' split
  all_goals (first | rfl | (simp only [Option.bind_assoc,Option.bind_some]; done) | skip)
  all_goals (simp only [Option.bind_assoc]; congr 1; funext n; try (congr 1; funext n2))
  all_goals (try (congr 1; funext n3))
  all_goals (try (split <;> simp [Option.bind_assoc]))
theorem Cs {T : Fr} {o : Oper} {s : St} {β : Type} (k : Value→St→Option β) :
    Bv P call T o s k = (Bv P call T o s fun v s=>some (v,s)).bind fun r=>k r.1 r.2:=by
  by_cases hb : ∃ c b,o.op = .call c∧c.callee = .builtin b
  · obtain ⟨c,b,h1,h2⟩:=hb
    simp only [Bv,h1,h2]
    cases opds T c.args.toList with
    | none=>rfl
    | some xs=>simp only [Option.bind_some]; exact HX k
  unfold Bv
  repeat' split
  all_goals (first | rfl | (simp only [Option.bind_assoc,Option.bind_some]; done) | skip)
  all_goals (try (try simp only [Option.bind_assoc]); try (refine congrArg (Option.bind _) (funext fun v=>?_)))
  all_goals (first | rfl | (split <;> first | rfl | (simp only [Option.bind_assoc,Option.bind_some]; done) | skip) | skip)
  all_goals (try (try simp only [Option.bind_assoc]); try (refine congrArg (Option.bind _) (funext fun v=>?_)))
  all_goals (first | rfl | (split <;> first | rfl | (simp only [Option.bind_assoc,Option.bind_some]; done) | skip) | skip)
  all_goals (try (try simp only [Option.bind_assoc]); try (refine congrArg (Option.bind _) (funext fun v=>?_)))
  all_goals (first | rfl | (split <;> first | rfl | (simp only [Option.bind_assoc,Option.bind_some]; done) | skip) | skip)
  all_goals (try (try simp only [Option.bind_assoc]); try (refine congrArg (Option.bind _) (funext fun v=>?_)))
  all_goals (first | rfl | (split <;> first | rfl | (simp only [Option.bind_assoc,Option.bind_some]; done) | skip) | skip)
  all_goals (try (try simp only [Option.bind_assoc]); try (refine congrArg (Option.bind _) (funext fun v=>?_)))
  all_goals (first | rfl | (split <;> first | rfl | (simp only [Option.bind_assoc,Option.bind_some]; done) | skip) | skip)
  all_goals (try (try simp only [Option.bind_assoc]); try (refine congrArg (Option.bind _) (funext fun v=>?_)))
  all_goals (first | rfl | (split <;> first | rfl | (simp only [Option.bind_assoc,Option.bind_some]; done) | skip) | skip)
  all_goals (exact HX k)
end
section congr
variable {P : Program} {call : Aa} {T T' : Fr}
theorem Gt : ∀ {xs : List Operand},(∀ x ∈ xs,opd T x = opd T' x)→opds T xs = opds T' xs
  | [],_=>rfl
  | x :: xs,h=>by
    simp only [opds,h x List.mem_cons_self,Gt (xs:=xs) fun y hy=>h y (List.mem_cons_of_mem _ hy)]
theorem F8 : ∀ {xs : List (Nat × Operand)},(∀ x ∈ xs.map (·.2),opd T x = opd T' x)→DU T xs = DU T' xs
  | [],_=>rfl
  | (i,x) :: xs,h=>by
    simp only [DU,h x (by simp),F8 (xs:=xs) fun y hy=>h y (by simp at hy ⊢; exact .inr hy)]
theorem Iz : ∀ {x : Option Operand},(∀ y,x = some y→opd T y = opd T' y)→opdO T x = opdO T' x
  | none,_=>rfl
  | some x,h=>by simp only [opdO,h x rfl]
theorem S7 {β : Type} {o : Oper} {s : St} {k : Value→St→Option β} (h : ∀ x ∈ o.op.operands,opd T x = opd T' x) : Bv P call T o s k = Bv P call T' o s k:=by
  obtain ⟨dst,op,type,pos,after,guard⟩:=o
  cases op <;> simp only [Op.operands] at h <;> simp only [Bv]
  case build t ps=>rw [F8 (xs:=ps.toList) fun x hx=>h x (by simpa using hx)]
  case buildSlice t n ps=>rw [F8 (xs:=ps.toList) fun x hx=>h x (by simpa using hx)]
  case makeFunc fn first captured =>
    rw [Gt (xs:=first.toList) fun x hx=>h x (by simp at hx ⊢; exact .inl hx),Gt (xs:=captured.toList) fun x hx=>h x (by simp at hx ⊢; exact .inr hx)]
  case slice t x lo hi mx =>
    rw [h x (by simp),Iz (x:=lo) fun y hy=>h y (by simp [hy]),Iz (x:=hi) fun y hy=>h y (by simp [hy]),Iz (x:=mx) fun y hy=>h y (by simp [hy])]
  case makeMap t r=>rw [Iz (x:=r) fun y hy=>h y (by simp [hy])]
  case call c =>
    cases hc : c.callee with
    | builtin b=>simp only; rw [Gt (xs:=c.args.toList) fun x hx=>h x (by simp [Call.operands,hc] at hx ⊢; exact hx)]
    | value f=>simp only; rw [h f (by simp [Call.operands,hc]),Gt (xs:=c.args.toList) fun x hx=>h x (by simp [Call.operands,hc] at hx ⊢; exact .inr hx)]
    | invoke _ _=>rfl
  all_goals (first | rfl | (simp_all; done))
end congr
section
variable {P : Program} {call : Aa} {tn : Tn} {n m wb lo : Nat} {ι : Emb} {lam : Lam} {a : Act} {w : World} {s : St} {T : Fr} {o : Oper}
theorem S8 (hcall : DZ P call) {v : Value} {s1 : St} (h : Bv P call T o s (fun v s=>some (v,s)) = some (v,s1)) (hs : Sim wb ι s.heap w)
    (hf : ∀ x ∈ I4 o,x < a.tmps.size→VRel ι (T x) (a.tmps.getD x undef)) (hb : UF a.tmps.size o = true) : OpOk P o a w (Ba wb ι s.heap w s1.heap v):=by
  let T2 : Fr:=fun i=>if i ∈ I4 o then T i else CB
  have hfr : Jv ι T2 a.tmps:=by
    intro i hi
    have hT : getT T2 i = if i ∈ I4 o then T i else CB:=rfl
    rw [hT]
    by_cases hm : i ∈ I4 o
    · rw [if_pos hm]; exact hf i hm hi
    · rw [if_neg hm]; exact .poison _
  have he : Bv P call T2 o s (fun v s=>some (v,s)) = some (v,s1):=by
    rw [← h]
    refine S7 fun x hx=>?_
    cases x with
    | tmp t =>
      have : t ∈ I4 o:=List.mem_filterMap.2 ⟨.tmp t,by simpa using hx,rfl⟩
      show some (T2 t) = some (T t)
      simp [T2,this]
    | _=>rfl
  obtain ⟨v2,s2,hk,hok⟩:=S5 (a:=a) hcall he hs hfr hb
  cases hk
  exact hok
theorem OpOk.mono {R S : Value→World→Prop} (h : OpOk P o a w R) (hi : ∀ v w',R v w'→S v w') : OpOk P o a w S:=by
  rcases h with ⟨v',w',h1,h2⟩ | ⟨w',h1,h2⟩ | ⟨f,args,h1,h2⟩
  · exact .inl ⟨v',w',h1,hi _ _ h2⟩
  · exact .inr (.inl ⟨w',h1,hi _ _ h2⟩)
  · exact .inr (.inr ⟨f,args,h1,h2.mono fun e w' ⟨v',he,hr⟩=>⟨v',he,hi _ _ hr⟩⟩)
theorem Rw (hz : a.tmps.size = n) (hdb : dstB n o.dst = true) {v v' : Value} {w' : World} {x : Nat} {T' : Fr} (hx : x ∈ o.dst.toList) (hT : T' x = v)
    (hv : match dOf tn o with | none=>VRel ι v v' | some j=>S6 lam j v v') : NRel tn n ι lam w' (a.put o.dst v').tmps x (T' x):=by
  unfold dOf at hv
  cases hd : o.dst with
  | none=>rw [hd] at hx; simp at hx
  | some d =>
    rw [hd] at hx hdb hv
    simp at hx
    subst hx
    have hlt : x < n:=by simpa [dstB] using hdb
    unfold NRel
    rw [if_pos hlt,G1 (by omega),hT]
    simpa using hv
theorem WR (hz : a.tmps.size = n) (hdb : dstB n o.dst = true) (hlam : LamOk lo ι s.heap lam w) {K : List Blk} {v v' : Value} {w' : World} (hA : Ba wb ι s.heap w K v v' w') (hd : dOf tn o = none) :
    ∃ ι',AfterL tn n wb lo ι lam s.heap w T o.dst.toList ι' lam K w' (putT T o.dst v) (a.put o.dst v').tmps:=by
  obtain ⟨κ,h1,h2,h3⟩:=hA
  have hkb : ∀ j b,lam j = some b→w'.heap[b]? = w.heap[b]?:=fun j b hj=>h2.keep b (hlam.lo j b hj).2 fun a y ha hy=>hlam.excl j b hj a y ha hy
  refine ⟨κ,⟨h1,⟨fun j b hj=>⟨(hlam.lo j b hj).1,Nat.lt_of_lt_of_le (hlam.lo j b hj).2 h2.size⟩,fun j b hj x y hx hy=>?_,hlam.inj⟩,h2.le,h2.old,h2.img,fun c hc hn _=>h2.keep c hc hn,fun j b hj _=>⟨hj,hkb j b hj⟩,fun _ _ _ _=>rfl,fun _ _ hj=>.inl hj,
    h2.size,h2.os,h2.tape,h2.output,h2.len,h2.own,fun x hx=>Rw hz hdb hx ?_ (by rw [hd]; exact h3),fun x hx=>Di hx⟩⟩
  · by_cases hlt : x < s.heap.length
    · rw [h2.old x hlt] at hy
      exact hlam.excl j b hj x y (h2.own x hlt hx) hy
    · rcases h2.img x y hy (by omega) with h4 | ⟨a',y',h4,h5,h6⟩
      · have:=(hlam.lo j b hj).2; omega
      · rw [← h6]; exact hlam.excl j b hj a' y' h4 h5
  · cases hdd : o.dst with
    | none=>rw [hdd] at hx; simp at hx
    | some d=>rw [hdd] at hx; simp at hx; subst hx; exact N3
theorem F9 (hz : a.tmps.size = n) (hdb : dstB n o.dst = true) (hs : Sim wb ι s.heap w) (hlam : LamOk lo ι s.heap lam w) {v v' : Value} {w' : World}
    (hk : ∀ c,c < w.heap.size→w'.heap[c]? = w.heap[c]?) (hsz : w.heap.size ≤ w'.heap.size) (ho : w'.os = w.os) (ht : w'.tape = w.tape) (hou : w'.output = w.output)
    (hv : match dOf tn o with | none=>VRel ι v v' | some j=>S6 lam j v v') :
    AfterL tn n wb lo ι lam s.heap w T o.dst.toList ι lam s.heap w' (putT T o.dst v) (a.put o.dst v').tmps where
  sim:=hs.later hk hsz
  lok:=⟨fun j b hj=>⟨(hlam.lo j b hj).1,Nat.lt_of_lt_of_le (hlam.lo j b hj).2 hsz⟩,hlam.excl,hlam.inj⟩
  le:=.refl _
  old _ _:=rfl
  img b x hx hb:=absurd (hs.dom b x hx) (by omega)
  keep c hc _ _:=hk c hc
  keepL j b hj _:=⟨hj,hk b (hlam.lo j b hj).2⟩
  keepP _ _ _ _:=rfl
  lnew _ _ hj:=.inl hj
  size:=hsz
  os:=ho
  tape:=ht
  output:=hou
  len:=Nat.le_refl _
  own _ _ h:=h
  nm x hx:=Rw hz hdb hx (by
    cases hdd : o.dst with
    | none=>rw [hdd] at hx; simp at hx
    | some d=>rw [hdd] at hx; simp at hx; subst hx; exact N3) hv
  frame x hx:=Di hx
def emb1 (blk : Nat) : Emb:=fun b=>if b = 0 then some ⟨blk,0,0,0⟩ else none
theorem sim1 (hs : Sim wb ι s.heap w) (blk : Nat) : Sim wb (emb1 blk) [Blk.row 0 [] .dead] w where
  dom b x h:=by
    unfold emb1 at h
    split at h
    · rename_i hb; simp [hb]
    · cases h
  row b n cells st hb hst:=by
    have:=(List.getElem?_eq_some_iff.1 hb).1
    simp at this
    subst this
    simp at hb
    exact absurd hb.2.2.symm hst
  map b es clock hb:=by
    have:=(List.getElem?_eq_some_iff.1 hb).1
    simp at this
    subst this
    simp at hb
  excl a b ha:=by
    cases a with
    | zero=>cases ha
    | succ a=>cases ha
  size:=hs.size
  loc b n cells st hb hst:=by
    have:=(List.getElem?_eq_some_iff.1 hb).1
    simp at this
    subst this
    simp at hb
    exact absurd hb.2.2.symm hst
theorem VO {blk off : Nat} : VRel (emb1 blk) (.pointer (some ⟨0,off,none⟩)) (.pointer (some ⟨blk,off,none⟩)):=by
  have:=L0.ptr (ι:=emb1 blk) (b:=0) (l:=⟨blk,0,0,0⟩) off rfl
  rw [Nat.zero_add] at this
  exact .of0 this
def ZcN (lam : Lam) (j : Nat) (w : World) (v v' : Value) (w' : World) : Prop :=
  (∀ c,c < w.heap.size→w'.heap[c]? = w.heap[c]?)∧w.heap.size ≤ w'.heap.size∧w'.os = w.os∧w'.tape = w.tape∧w'.output = w.output∧S6 lam j v v'
theorem S9 {blk off : Nat} {j : Nat} (hl : lam j = some blk) {v' : Value} {w' : World} (h : Ba wb (emb1 blk) [Blk.row 0 [] .dead] w [Blk.row 0 [] .dead] (.pointer (some ⟨0,off,none⟩)) v' w') : ZcN lam j w (.pointer (some ⟨0,off,none⟩)) v' w':=by
  obtain ⟨κ,h1,h2,h3⟩:=h
  obtain ⟨_,l,h4,h5⟩:=h3.inv_ptr
  have h6:=h2.le 0 ⟨blk,0,0,0⟩ rfl
  rw [h4] at h6
  cases h6
  refine ⟨fun c hc=>h2.keep c hc fun a y ha=>?_,h2.size,h2.os,h2.tape,h2.output,.inr ⟨off,blk,rfl,hl,by rw [h5,Nat.zero_add]⟩⟩
  cases a with
  | zero=>cases ha
  | succ a=>cases ha
theorem Kf {x : Option Nat} {j : Nat} (h : HP x j = true) : x = some j:=by
  unfold HP at h
  split at h
  · rw [Nat.eq_of_beq_eq_true h]
  · cases h
theorem G2 {x : Operand} {j : Nat} (h : tOf tn x = some j) : ∃ t,x = .tmp t∧look t tn = some j:=by
  cases x with
  | tmp t=>exact ⟨t,rfl,h⟩
  | _=>cases h
theorem Zes (hs : Sim wb ι s.heap w) {j : Nat} (hk : locK tn o = .ptr j) {v : Value} {s1 : St} (h : Bv P call T o s (fun v s=>some (v,s)) = some (v,s1))
    (hf : ∀ x ∈ I4 o,x < a.tmps.size→match look x tn with | none=>VRel ι (T x) (a.tmps.getD x undef) | some j=>S6 lam j (T x) (a.tmps.getD x undef)) (hb : UF a.tmps.size o = true) :
    s1 = s∧dOf tn o = some j∧OpOk P o a w (ZcN lam j w v):=by
  have same : ∀ {v v' : Value},S6 lam j v v'→ZcN lam j w v v' w:=fun h=>⟨fun _ _=>rfl,Nat.le_refl _,rfl,rfl,rfl,h⟩
  have hmem : ∀ t,Operand.tmp t ∈ o.op.operands→t ∈ I4 o:=fun t ht=>List.mem_filterMap.2 ⟨.tmp t,by simpa using ht,rfl⟩
  have hlt : ∀ t,Operand.tmp t ∈ o.op.operands→t < a.tmps.size:=fun t ht=>by
    have:=List.all_eq_true.1 hb (.tmp t) (by simpa using ht)
    simpa [opdB] using this
  have hpt : ∀ t,Operand.tmp t ∈ o.op.operands→look t tn = some j→S6 lam j (T t) (a.tmps.getD t undef):=fun t ht hl=>by
    have:=hf t (hmem t ht) (hlt t ht)
    rw [hl] at this
    exact this
  have hint : ∀ y,y ∈ o.op.operands→Cr tn y = true→∀ v,opd T y = some v→VRel ι v (a.eval y):=by
    intro y hy hc v hv
    cases y with
    | tmp t =>
      simp only [opd,Option.some.injEq] at hv
      subst hv
      have:=hf t (hmem t hy) (hlt t hy)
      have hl : look t tn = none:=by simpa [Cr,tOf] using hc
      rw [hl] at this
      exact this
    | const u =>
      simp only [opd] at hv
      split at hv
      · rename_i hc; cases hv; exact Iy hc
      · cases hv
    | global g=>simp [opd] at hv
    | func f=>simp only [opd,Option.some.injEq] at hv; subst hv; exact .of0 (.func _)
  unfold locK at hk
  have noglob : FI tn o ≠ .ptr j:=by unfold FI; cases (o.op.operands.toList.all (Cr tn) && (dOf tn o).isNone) <;> simp
  split at hk
  · split at hk
    · cases hk
    · exact absurd hk noglob
  · split at hk
    · rename_i x _ _ _ _; cases hcx : Cr tn x <;> rw [hcx] at hk <;> cases hk
    · exact absurd hk noglob
  · split at hk
    · cases hcx : (dOf tn o).isNone <;> rw [hcx] at hk <;> cases hk
    · exact absurd hk noglob
  · split at hk
    · rename_i x y ho j2 hq _; cases hcx : (Cr tn y && (dOf tn o).isNone) <;> rw [hcx] at hk <;> cases hk
    · exact absurd hk noglob
  · -- fieldAddr
    rename_i t x i ho
    split at hk
    · rename_i q hq
      cases hcx : HP (dOf tn o) q with
      | false=>rw [hcx] at hk; cases hk
      | true =>
        rw [hcx] at hk
        cases hk
        obtain ⟨tx,rfl,hlx⟩:=G2 hq
        have hp:=hpt tx (by simp [ho,Op.operands]) hlx
        simp only [Bv,ho,opd,getT,Option.bind_some,Option.bind_eq_some_iff] at h
        obtain ⟨f,hf2,n2,hn,h⟩:=h
        split at h
        · cases h
        rename_i h0
        simp only [Option.bind_eq_some_iff] at h
        obtain ⟨r,hr,h⟩:=h
        cases h
        refine ⟨rfl,Kf hcx,?_⟩
        rcases hp with ⟨q,hq⟩ | ⟨off,blk,h1,h2,h3⟩
        · rw [hq] at hr; cases hr
        · rw [h1] at hr
          have hr':=hr
          simp only [Ac,Option.some.injEq] at hr'
          subst hr'
          exact (L6 (wb:=wb) (ι:=emb1 blk) (H:=[Blk.row 0 [] .dead]) ho (sim1 hs blk) hf2 hn h0 (by show VRel _ _ (a.eval (.tmp tx)); simp only [Act.eval]; rw [h3]; exact VO) hr).mono fun v' w' hA=>S9 h2 hA
    · exact absurd hk noglob
  · -- nilCheck
    rename_i x ho
    split at hk
    · rename_i q hq
      cases hcx : HP (dOf tn o) q with
      | false=>rw [hcx] at hk; cases hk
      | true =>
        rw [hcx] at hk
        cases hk
        obtain ⟨tx,rfl,hlx⟩:=G2 hq
        have hp:=hpt tx (by simp [ho,Op.operands]) hlx
        simp only [Bv,ho,opd,getT,Option.bind_some,Option.bind_eq_some_iff] at h
        obtain ⟨r,hr,h⟩:=h
        cases h
        refine ⟨rfl,Kf hcx,?_⟩
        rcases hp with ⟨q,hq⟩ | ⟨off,blk,h1,h2,h3⟩
        · rw [hq] at hr; cases hr
        · rw [h1] at hr
          simp only [Ah,Option.some.injEq] at hr
          subst hr
          have he : a.eval (.tmp tx) = .pointer (some ⟨blk,off,none⟩):=h3
          exact .inl ⟨_,w,by simp [execOp,ho,he],same (.inr ⟨off,blk,rfl,h2,rfl⟩)⟩
    · exact absurd hk noglob
  · -- move
    rename_i x ho
    split at hk
    · rename_i q hq
      cases hcx : HP (dOf tn o) q with
      | false=>rw [hcx] at hk; cases hk
      | true =>
        rw [hcx] at hk
        cases hk
        obtain ⟨tx,rfl,hlx⟩:=G2 hq
        have hp:=hpt tx (by simp [ho,Op.operands]) hlx
        simp only [Bv,ho,opd,getT,Option.bind_some,Option.some.injEq,Prod.mk.injEq] at h
        obtain ⟨rfl,rfl⟩:=h
        exact ⟨rfl,Kf hcx,.inl ⟨a.eval (.tmp tx),w,by simp [execOp,ho],same hp⟩⟩
    · exact absurd hk noglob
  · -- assign
    rename_i x ho
    split at hk
    · rename_i q hq
      cases hcx : HP (dOf tn o) q with
      | false=>rw [hcx] at hk; cases hk
      | true =>
        rw [hcx] at hk
        cases hk
        obtain ⟨tx,rfl,hlx⟩:=G2 hq
        have hp:=hpt tx (by simp [ho,Op.operands]) hlx
        simp only [Bv,ho,opd,getT,Option.bind_some,Option.some.injEq,Prod.mk.injEq] at h
        obtain ⟨rfl,rfl⟩:=h
        exact ⟨rfl,Kf hcx,.inl ⟨a.eval (.tmp tx),w,by simp [execOp,ho],same hp⟩⟩
    · exact absurd hk noglob
  · -- indexAddr
    rename_i t x y ho
    split at hk
    · rename_i q hq
      cases hcx : (Cr tn y && HP (dOf tn o) q) with
      | false=>rw [hcx] at hk; cases hk
      | true =>
        rw [hcx] at hk
        cases hk
        simp only [Bool.and_eq_true] at hcx
        obtain ⟨tx,rfl,hlx⟩:=G2 hq
        have hp:=hpt tx (by simp [ho,Op.operands]) hlx
        have hy:=hint y (by simp [ho,Op.operands]) hcx.1
        simp only [Bv,ho,opd,getT,Option.bind_some,Option.bind_eq_some_iff] at h
        obtain ⟨vy,hvy0,h⟩:=h
        have hvy:=hy vy hvy0
        clear hvy0 hy
        split at h
        · rename_i e hu
          simp only [Option.bind_eq_some_iff] at h
          obtain ⟨n2,hn,r,hr,h⟩:=h
          rcases hp with ⟨q,hq⟩ | ⟨off,blk,h1,h2,h3⟩
          · rw [hq] at hr; cases hr
          · rw [h1] at hr; cases hr
        · rename_i len e hu
          simp only [Option.bind_eq_some_iff] at h
          obtain ⟨n2,hn,r,hr,h⟩:=h
          cases h
          refine ⟨rfl,Kf hcx.2,?_⟩
          rcases hp with ⟨q,hq⟩ | ⟨off,blk,h1,h2,h3⟩
          · rw [hq] at hr; cases hr
          · rw [h1] at hr
            have hr':=hr
            unfold GU at hr'
            split at hr'
            · rename_i b o2 k i heq
              cases heq
              split at hr'
              · cases hr'
                have hvi:=hvy.inv_int
                exact (S0 (wb:=wb) (ι:=emb1 blk) (H:=[Blk.row 0 [] .dead]) ho (sim1 hs blk) hu hn (by show VRel _ _ (a.eval (.tmp tx)); simp only [Act.eval]; rw [h3]; exact VO) (by rw [hvi]; exact .of0 (.int _ _)) hr).mono fun v' w' hA=>S9 h2 hA
              · cases hr'
            · cases hr'
        · cases h
    · exact absurd hk noglob
  · exact absurd hk noglob
end
end Go.Proofs.YtmbhnbladmpnoaaGreat.Ab

/- The abstract machine with variables in the frame,against the model: one operation. -/
namespace Go.Proofs.YtmbhnbladmpnoaaGreat.Ab
open Go
section
variable {P : Program} {call : Aa} {tn : Tn} {n m wb lo : Nat} {ι : Emb} {lam : Lam} {a : Act} {w : World} {s : St} {T : Fr} {o : Oper}
theorem Ta {v c : Value} (h : lbox v = some c) : (Ao v).all AI = true∧c = .agg (Ao v).toArray:=by
  unfold lbox at h
  split at h
  · rename_i hl; cases h; exact ⟨hl,rfl⟩
  · cases h
def Lam.set (lam : Lam) (j b : Nat) : Lam:=fun i=>if i = j then some b else lam i
theorem VP (hlo : lo ≤ w.heap.size) (htn : tnOk n m tn = true) (hz : a.tmps.size = n) (hs : Sim wb ι s.heap w) (hlam : LamOk lo ι s.heap lam w) {j : Nat} (hd : dOf tn o = some j)
    (hn : ∀ x ∈ DV j tn,NRel tn n ι lam w a.tmps x (T x)) {c : Value} {cs : List Value} {cs' : Array Value} {e : TypeId} (hc : c = .agg cs.toArray) (hrel : All2 (L2 ι) cs cs'.toList) :
    AfterL tn n wb lo ι lam s.heap w T (j :: (o.dst.toList ++ DV j tn)) ι (lam.set j w.heap.size) s.heap (w.alloc (.cells cs' e)) (mkT tn j o.dst c T) (a.put o.dst (.pointer (some ⟨w.heap.size,0,none⟩))).tmps:=by
  obtain ⟨d,hod,hld⟩ : ∃ d,o.dst = some d∧look d tn = some j:=by
    unfold dOf at hd
    cases hod : o.dst with
    | none=>rw [hod] at hd; cases hd
    | some d=>rw [hod] at hd; exact ⟨d,rfl,hd⟩
  obtain ⟨_,hdn,hjn⟩:=GZ htn hld
  have hold : ∀ c,c < w.heap.size→(w.alloc (.cells cs' e)).heap[c]? = w.heap[c]?:=fun c hc=>by
    show (w.heap.push _)[c]? = _
    rw [Array.getElem?_push,if_neg (Nat.ne_of_lt hc)]
  have hnew : (w.alloc (.cells cs' e)).heap[w.heap.size]? = some (.cells cs' e (0,0)):=by
    show (w.heap.push _)[w.heap.size]? = _
    rw [Array.getElem?_push,if_pos rfl]
  have hsz : w.heap.size ≤ (w.alloc (.cells cs' e)).heap.size:=by simp
  have hT : ∀ x,mkT tn j o.dst c T x = if x = j then c else if x = d then lptr else Hq tn j T x:=by
    intro x
    unfold mkT
    have h1:=DX (putT (Hq tn j T) o.dst lptr) c j x
    have h2:=DX (Hq tn j T) lptr d x
    rw [hod] at h1 ⊢
    show getT (setT (putT (Hq tn j T) (some d) lptr) j c) x = _
    rw [h1]
    by_cases e1 : x = j
    · rw [if_pos e1.symm,if_pos e1]
    · rw [if_neg (Ne.symm e1),if_neg e1]
      show getT (setT _ d lptr) x = _
      rw [h2]
      by_cases e2 : x = d
      · rw [if_pos e2.symm,if_pos e2]
      · rw [if_neg (Ne.symm e2),if_neg e2]; rfl
  have hlset : ∀ i,i ≠ j→lam.set j w.heap.size i = lam i:=fun i hi=>if_neg hi
  have hclear : ∀ x,(look x tn = some j∧Hq tn j T x = undef) ∨ (look x tn ≠ some j∧Hq tn j T x = T x):=by
    intro x
    unfold Hq
    cases hl : look x tn with
    | none=>exact .inr ⟨by simp,rfl⟩
    | some q =>
      simp only
      cases hb : Nat.beq q j with
      | true=>have:=Nat.eq_of_beq_eq_true hb; subst this; exact .inl ⟨rfl,rfl⟩
      | false=>have:=Nat.ne_of_beq_eq_false hb; exact .inr ⟨by simpa using this,rfl⟩
  constructor
  · exact hs.later hold hsz
  · refine ⟨fun i b hi=>?_,fun i b hi x y hx hy=>?_,fun i i' b hi hi'=>?_⟩
    · unfold Lam.set at hi
      split at hi
      · cases hi; exact ⟨hlo,by simp⟩
      · have:=hlam.lo i b hi; exact ⟨this.1,Nat.lt_of_lt_of_le this.2 hsz⟩
    · unfold Lam.set at hi
      split at hi
      · cases hi; have:=hs.own_lt hx hy; omega
      · exact hlam.excl i b hi x y hx hy
    · unfold Lam.set at hi hi'
      split at hi
      · cases hi
        split at hi'
        · rename_i h1 h2; rw [h1,h2]
        · have:=(hlam.lo i' _ hi').2; omega
      · split at hi'
        · cases hi'; have:=(hlam.lo i _ hi).2; omega
        · exact hlam.inj i i' b hi hi'
  · exact .refl _
  · intro b _; rfl
  · intro b x hx hb; exact absurd (hs.dom b x hx) (by omega)
  · intro c hc _ _; exact hold c hc
  · intro i b hi hni
    have hij : i ≠ j:=fun e=>hni (by simp [e])
    exact ⟨by rw [hlset i hij]; exact hi,hold b (hlam.lo i b hi).2⟩
  · intro x i hx hnx
    have hij : i ≠ j:=fun e=>by
      subst e
      exact hnx (by simp [FW hx])
    exact hlset i hij
  · intro i b hi
    unfold Lam.set at hi
    split at hi
    · cases hi; exact .inr (Nat.le_refl _)
    · exact .inl hi
  · exact hsz
  · rfl
  · rfl
  · rfl
  · exact Nat.le_refl _
  · intro _ _ h; exact h
  · intro x hx
    rw [hT x]
    by_cases e1 : x = j
    · rw [if_pos e1]
      subst e1
      unfold NRel
      rw [if_neg (by omega)]
      intro cells hcells
      rw [hc] at hcells
      cases hcells
      exact ⟨w.heap.size,cs',e,(0,0),by unfold Lam.set; simp,hnew,.inl rfl,by simpa using hrel⟩
    · rw [if_neg e1]
      by_cases e2 : x = d
      · rw [if_pos e2]
        subst e2
        unfold NRel
        rw [if_pos hdn,hld,hod,G1 (by omega)]
        exact .inr ⟨0,w.heap.size,rfl,by unfold Lam.set; simp,rfl⟩
      · rw [if_neg e2]
        have hxp : x ∈ DV j tn:=by
          rw [hod] at hx
          simp [e1,e2] at hx
          exact hx
        have hr:=hn x hxp
        unfold NRel at hr ⊢
        have hte : (a.put o.dst (.pointer (some ⟨w.heap.size,0,none⟩))).tmps.getD x undef = a.tmps.getD x undef:=Lf (by rw [hod]; simp [e2])
        rw [hte]
        rcases hclear x with ⟨hl,he⟩ | ⟨hl,he⟩
        · obtain ⟨_,hxn,_⟩:=GZ htn hl
          rw [if_pos hxn,hl,he]
          exact .inl ⟨_,rfl⟩
        · rw [he]
          by_cases hxn : x < n
          · rw [if_pos hxn] at hr ⊢
            cases hq : look x tn with
            | none=>rw [hq] at hr; exact hr
            | some q =>
              rw [hq] at hr
              have hqj : q ≠ j:=fun e=>hl (by rw [hq,e])
              rcases hr with h | ⟨off,blk,h1,h2,h3⟩
              · exact .inl h
              · exact .inr ⟨off,blk,h1,by rw [hlset q hqj]; exact h2,h3⟩
          · rw [if_neg hxn] at hr ⊢
            intro cells hcells
            obtain ⟨blk,cs2,e2',fz,h1,h2,h3⟩:=hr cells hcells
            exact ⟨blk,cs2,e2',fz,by rw [hlset x e1]; exact h1,by rw [hold blk (hlam.lo x blk h1).2]; exact h2,h3⟩
  · intro x hx
    have e1 : x ≠ j:=fun e=>hx (by simp [e])
    have e2 : x ≠ d:=fun e=>hx (by rw [hod]; simp [e])
    rw [hT x,if_neg e1,if_neg e2]
    rcases hclear x with ⟨hl,_⟩ | ⟨_,he⟩
    · exact absurd (FW hl) (fun hh=>hx (by simp [hh]))
    · exact he
theorem Sim.other {w' : World} (hs : Sim wb ι s.heap w) {blk : Nat} (hro : ∀ b n cells,s.heap[b]? = some (.row n cells .ro)→∀ l,ι b = some l→l.blk ≠ blk) (hex : ∀ a y,ownB s.heap[a]? = true→ι a = some y→y.blk ≠ blk) (hk : ∀ c,c ≠ blk→w'.heap[c]? = w.heap[c]?) (hz : w.heap.size ≤ w'.heap.size) : Sim wb ι s.heap w' where
  dom:=hs.dom
  row b n cells st h1 hst l hl:=by
    obtain ⟨cs,e,fz,q1,q2,q3⟩:=hs.row b n cells st h1 hst l hl
    refine ⟨cs,e,fz,?_,q2,q3⟩
    rw [hk]
    · exact q1
    · cases st with
      | dead=>exact absurd rfl hst
      | ro=>exact hro b n cells h1 l hl
      | act=>exact hex b l (by rw [h1]; rfl) hl
  map b es clock h1 l hl:=by
    obtain ⟨q1,q2,es',q3,q4⟩:=hs.map b es clock h1 l hl
    exact ⟨q1,q2,es',by rw [hk _ (hex b l (by rw [h1]; rfl) hl)]; exact q3,q4⟩
  excl:=hs.excl
  size:=Nat.le_trans hs.size hz
  loc:=hs.loc
theorem All2.putUpd {ι : Emb} {cells vs vs' : List Value} {cs : Array Value} {off : Nat} (h : All2 (L2 ι) cells cs.toList) (hv : All2 (L2 ι) vs vs') (hl : off + vs.length ≤ cells.length) : All2 (L2 ι) (AE cells off vs) (updA cs off vs').toList:=by
  have h1:=h.length
  have h2:=hv.length
  simp at h1
  refine All2.of_get (by rw [HT _ _ _ hl]; simp [Gr,h1]) fun i x x' hx hx'=>?_
  rw [HS _ _ _ hl] at hx
  have hx' : (updA cs off vs')[i]? = some x':=by simpa using hx'
  have old : ∀ i x,cells[i]? = some x→cs[i]? = some x'→L2 ι x x':=fun i x hx hx'=>by
    obtain ⟨y,hy,hr⟩:=h.get i x hx
    have : cs[i]? = some y:=by simpa using hy
    rw [hx'] at this
    cases this
    exact hr
  by_cases c1 : i < off
  · rw [if_pos c1] at hx
    rw [NT _ _ _ _ c1] at hx'
    exact old i x hx hx'
  · rw [if_neg c1] at hx
    by_cases c2 : i < off + vs.length
    · rw [if_pos c2] at hx
      have:=Rm vs' cs off (i - off) (by omega) (by omega)
      rw [show off + (i - off) = i by omega,hx'] at this
      obtain ⟨y,hy,hr⟩:=hv.get _ x hx
      rw [hy] at this
      cases this
      exact hr
    · rw [if_neg c2] at hx
      rw [Uv _ _ _ _ (by omega)] at hx'
      exact old i x hx hx'
theorem Zb2 (hcall : DZ P call) (hro : ∀ j blk,lam j = some blk→∀ b n cells,s.heap[b]? = some (.row n cells .ro)→∀ l,ι b = some l→l.blk ≠ blk) (hlo : lo ≤ w.heap.size) (htn : tnOk n m tn = true) (hz : a.tmps.size = n) (hdb : dstB n o.dst = true) (hb : UF a.tmps.size o = true)
    {T1 : Fr} {s1 : St} (h : opB P call tn T o s (fun T s=>some (T,s)) = some (T1,s1)) (hs : Sim wb ι s.heap w) (hlam : LamOk lo ι s.heap lam w)
    (hn : ∀ x,x ∈ I4 o ∨ (locK tn o = .ld x ∨ locK tn o = .st x) ∨ x ∈ Cw tn o→NRel tn n ι lam w a.tmps x (T x)) :
    OpOk P o a w (fun v' w'=>∃ ι' lam',AfterL tn n wb lo ι lam s.heap w T (Cw tn o) ι' lam' s1.heap w' T1 (a.put o.dst v').tmps):=by
  have hmem : ∀ t,Operand.tmp t ∈ o.op.operands→t ∈ I4 o:=fun t ht=>List.mem_filterMap.2 ⟨.tmp t,by simpa using ht,rfl⟩
  have hlt : ∀ t,Operand.tmp t ∈ o.op.operands→t < n:=fun t ht=>by
    have:=List.all_eq_true.1 hb (.tmp t) (by simpa using ht)
    rw [← hz]; simpa [opdB] using this
  have hnm : ∀ t,Operand.tmp t ∈ o.op.operands→match look t tn with | none=>VRel ι (T t) (a.tmps.getD t undef) | some j=>S6 lam j (T t) (a.tmps.getD t undef):=fun t ht=>by
    have:=hn t (.inl (hmem t ht))
    unfold NRel at this
    rw [if_pos (hlt t ht)] at this
    exact this
  have hopd : ∀ y,y ∈ o.op.operands→Cr tn y = true→∀ v,opd T y = some v→VRel ι v (a.eval y):=by
    intro y hy hc v hv
    cases y with
    | tmp t =>
      simp only [opd,Option.some.injEq] at hv
      subst hv
      have:=hnm t hy
      have hl : look t tn = none:=by simpa [Cr,tOf] using hc
      rw [hl] at this
      exact this
    | const u =>
      simp only [opd] at hv
      split at hv
      · rename_i hc; cases hv; exact Iy hc
      · cases hv
    | global g=>simp [opd] at hv
    | func f=>simp only [opd,Option.some.injEq] at hv; subst hv; exact .of0 (.func _)
  unfold opB at h
  cases hk : locK tn o with
  | bad=>simp [hk] at h
  | glob =>
    simp only [hk] at h
    have hcln : o.op.operands.toList.all (Cr tn) = true∧dOf tn o = none:=by
      have key : FI tn o = .glob:=by
        unfold locK at hk
        split at hk
        · split at hk <;> first | exact hk | cases hk
        · split at hk
          · rename_i x _ _ _ _; cases hcx : Cr tn x <;> rw [hcx] at hk <;> cases hk
          · exact hk
        · split at hk
          · cases hcx : (dOf tn o).isNone <;> rw [hcx] at hk <;> cases hk
          · exact hk
        · split at hk
          · rename_i x y ho j2 hq _; cases hcx : (Cr tn y && (dOf tn o).isNone) <;> rw [hcx] at hk <;> cases hk
          · exact hk
        · split at hk
          · rename_i j2 hq; cases hcx : HP (dOf tn o) j2 <;> rw [hcx] at hk <;> cases hk
          · exact hk
        · split at hk
          · rename_i j2 hq; cases hcx : HP (dOf tn o) j2 <;> rw [hcx] at hk <;> cases hk
          · exact hk
        · split at hk
          · rename_i j2 hq; cases hcx : HP (dOf tn o) j2 <;> rw [hcx] at hk <;> cases hk
          · exact hk
        · split at hk
          · rename_i j2 hq; cases hcx : HP (dOf tn o) j2 <;> rw [hcx] at hk <;> cases hk
          · exact hk
        · split at hk
          · rename_i y ho _ j2 hq; cases hcx : (Cr tn y && HP (dOf tn o) j2) <;> rw [hcx] at hk <;> cases hk
          · exact hk
        · exact hk
      unfold FI at key
      cases hc : (o.op.operands.toList.all (Cr tn) && (dOf tn o).isNone) with
      | false=>rw [hc] at key; cases key
      | true=>simp only [Bool.and_eq_true] at hc; exact ⟨hc.1,by simpa using hc.2⟩
    have he : ∃ v,Bv P call T o s (fun v s=>some (v,s)) = some (v,s1)∧T1 = putT T o.dst v:=by
      rw [Cs] at h
      simp only [Option.bind_eq_some_iff] at h
      obtain ⟨⟨v,s2⟩,h1,h2⟩:=h
      cases h2
      exact ⟨v,h1,rfl⟩
    obtain ⟨v,he,rfl⟩:=he
    have hset : Cw tn o = o.dst.toList:=by unfold Cw; rw [hk]
    rw [hset]
    refine (S8 hcall he hs (fun x hx _=>?_) hb).mono fun v' w' hA=>?_
    · obtain ⟨y,hy,hyx⟩:=List.mem_filterMap.1 hx
      cases y with
      | tmp t =>
        simp only [Option.some.injEq] at hyx
        subst hyx
        exact hopd (.tmp t) (by simpa using hy) (List.all_eq_true.1 hcln.1 _ hy) _ rfl
      | _=>cases hyx
    · obtain ⟨ι',h2⟩:=WR (n:=n) (tn:=tn) (T:=T) hz hdb hlam hA hcln.2
      exact ⟨ι',lam,h2⟩
  | ptr j =>
    simp only [hk] at h
    have he : ∃ v,Bv P call T o s (fun v s=>some (v,s)) = some (v,s1)∧T1 = putT T o.dst v:=by
      rw [Cs] at h
      simp only [Option.bind_eq_some_iff] at h
      obtain ⟨⟨v,s2⟩,h1,h2⟩:=h
      cases h2
      exact ⟨v,h1,rfl⟩
    obtain ⟨v,he,rfl⟩:=he
    have hset : Cw tn o = o.dst.toList:=by unfold Cw; rw [hk]
    rw [hset]
    obtain ⟨rfl,hd,hok⟩:=Zes (lam:=lam) hs hk he (fun x hx hxl=>by
      have:=hn x (.inl hx)
      unfold NRel at this
      rw [if_pos (by omega)] at this
      exact this) hb
    refine hok.mono fun v' w' ⟨h1,h2,h3,h4,h5,h6⟩=>⟨ι,lam,F9 hz hdb hs hlam h1 h2 h3 h4 h5 ?_⟩
    rw [hd]
    exact h6
  | mk j =>
    simp only [hk] at h
    have hset : Cw tn o = j :: (o.dst.toList ++ DV j tn):=by unfold Cw; rw [hk]
    have hn' : ∀ x ∈ DV j tn,NRel tn n ι lam w a.tmps x (T x):=fun x hx=>hn x (.inr (.inr (by rw [hset]; simp [hx])))
    rw [hset]
    have noglob : FI tn o ≠ .mk j:=by unfold FI; cases (o.op.operands.toList.all (Cr tn) && (dOf tn o).isNone) <;> simp
    split at h
    · -- alloc
      rename_i e ho
      have hd : dOf tn o = some j:=by
        simp only [locK,ho] at hk
        split at hk
        · rename_i q hq; cases hk; exact hq
        · exact absurd hk noglob
      simp only [Option.bind_eq_some_iff] at h
      obtain ⟨z,hzz,c,hc,h⟩:=h
      cases h
      obtain ⟨hl,hc⟩:=Ta hc
      obtain ⟨i,_,_,hco⟩:=B9 hzz
      refine .inl ⟨.pointer (some ⟨w.heap.size,0,none⟩),w.alloc (.cells z.cells e),?_,ι,_,VP hlo htn hz hs hlam hd hn' hc (CC hco)⟩
      simp [execOp,ho,Instr.alloc,Bg hzz,newVar,newRow]
    · -- box
      rename_i e x ho
      have hd : dOf tn o = some j∧Cr tn x = true:=by
        simp only [locK,ho] at hk
        split at hk
        · rename_i q hq
          cases hcx : Cr tn x with
          | false=>rw [hcx] at hk; cases hk
          | true=>rw [hcx] at hk; cases hk; exact ⟨hq,rfl⟩
        · exact absurd hk noglob
      simp only [Option.bind_eq_some_iff] at h
      obtain ⟨v,hv,c,hc,h⟩:=h
      cases h
      obtain ⟨hl,hc⟩:=Ta hc
      have hr:=hopd x (by simp [ho,Op.operands]) hd.2 v hv
      refine .inl ⟨.pointer (some ⟨w.heap.size,0,none⟩),w.alloc (.cells (a.eval x).cells e),?_,ι,_,VP hlo htn hz hs hlam hd.1 hn' hc (hr.cells hl)⟩
      simp [execOp,ho,Instr.box,newVar,newRow]
    · cases h
  | ld j =>
    simp only [hk] at h
    have hset : Cw tn o = o.dst.toList:=by unfold Cw; rw [hk]
    rw [hset]
    have noglob : FI tn o ≠ .ld j:=by unfold FI; cases (o.op.operands.toList.all (Cr tn) && (dOf tn o).isNone) <;> simp
    split at h
    · rename_i t x ho
      have hd : tOf tn x = some j∧dOf tn o = none:=by
        simp only [locK,ho] at hk
        split at hk
        · rename_i q hq
          cases hcx : (dOf tn o).isNone with
          | false=>rw [hcx] at hk; cases hk
          | true=>rw [hcx] at hk; cases hk; exact ⟨hq,by simpa using hcx⟩
        · exact absurd hk noglob
      obtain ⟨tx,rfl,hlx⟩:=G2 hd.1
      have hp:=hnm tx (by simp [ho,Op.operands])
      rw [hlx] at hp
      have hjn:=(GZ htn hlx).2.2
      have hsl:=hn j (.inr (.inl (.inl hk)))
      unfold NRel at hsl
      rw [if_neg (by omega)] at hsl
      simp only [opd,getT,Option.bind_some,Option.bind_eq_some_iff] at h
      obtain ⟨ag,hag,n2,hn2,v,hv,h⟩:=h
      cases h
      rcases hp with ⟨q,hq⟩ | ⟨off,blk,h1,h2,h3⟩
      · rw [hq] at hv; cases hv
      · rw [h1] at hv
        unfold Ap at hv
        split at hv
        · rename_i b2 off2 sp cs heq hcs
          cases heq
          obtain ⟨blk',cs',e',fz,q1,q2,q3,q4⟩:=hsl cs hcs
          rw [h2] at q1
          cases q1
          have he : a.eval (.tmp tx) = .pointer (some ⟨blk,off,none⟩):=h3
          have hlen : cs.size = cs'.size:=by have:=q4.length; simpa using this
          cases ag with
          | true =>
            simp only [if_true] at hv
            split at hv
            case isFalse=>cases hv
            rename_i hle
            cases hv
            have hrun:=Dy (P:=P) (n:=n2) (off:=off) q2 (.inr (by omega))
            refine .inl ⟨.agg ((cs'.toList.drop off).take n2).toArray,w,?_,ι,lam,F9 hz hdb hs hlam (fun _ _=>rfl) (Nat.le_refl _) rfl rfl rfl ?_⟩
            · simp [execOp,ho,Instr.loadAt,Instr.sureAddr,he,loadVar,CO hag,AT hn2,hrun]
            · rw [hd.2]
              exact .va (.agg (by simpa using (q4.drop off).take n2))
          | false =>
            simp only [Bool.false_eq_true,if_false] at hv
            obtain ⟨v',g1,g2⟩:=q4.get off v hv
            have hcell : w.cell? ⟨blk,off,none⟩ = some v':=by rw [cell?_of q2]; simpa using g1
            refine .inl ⟨v',w,?_,ι,lam,F9 hz hdb hs hlam (fun _ _=>rfl) (Nat.le_refl _) rfl rfl rfl ?_⟩
            · simp [execOp,ho,Instr.loadAt,Instr.sureAddr,he,loadVar,CO hag,hcell]
            · rw [hd.2]
              exact .of2 g2
        · cases hv
    · cases h
  | st j =>
    simp only [hk] at h
    have hset : Cw tn o = j :: o.dst.toList:=by unfold Cw; rw [hk]
    rw [hset]
    have noglob : FI tn o ≠ .st j:=by unfold FI; cases (o.op.operands.toList.all (Cr tn) && (dOf tn o).isNone) <;> simp
    split at h
    · rename_i t x y ho
      have hd : tOf tn x = some j∧Cr tn y = true∧dOf tn o = none:=by
        simp only [locK,ho] at hk
        split at hk
        · rename_i q hq
          cases hcx : (Cr tn y && (dOf tn o).isNone) with
          | false=>rw [hcx] at hk; cases hk
          | true =>
            rw [hcx] at hk
            cases hk
            simp only [Bool.and_eq_true] at hcx
            exact ⟨hq,hcx.1,by simpa using hcx.2⟩
        · exact absurd hk noglob
      obtain ⟨tx,rfl,hlx⟩:=G2 hd.1
      have hp:=hnm tx (by simp [ho,Op.operands])
      rw [hlx] at hp
      have hjn:=(GZ htn hlx).2.2
      have hsl:=hn j (.inr (.inl (.inr hk)))
      unfold NRel at hsl
      rw [if_neg (by omega)] at hsl
      simp only [Option.bind_eq_some_iff] at h
      obtain ⟨va,hva,v,hv0,n2,hn2,c,hc,h⟩:=h
      simp only [opd,getT,Option.some.injEq] at hva
      subst hva
      cases h
      have hvr:=hopd y (by simp [ho,Op.operands]) hd.2.1 v hv0
      rcases hp with ⟨q,hq⟩ | ⟨off,blk,h1,h2,h3⟩
      · rw [hq] at hc; cases hc
      · rw [h1] at hc
        unfold AO at hc
        split at hc
        · rename_i b2 off2 sp cs heq hcs
          cases heq
          split at hc
          case isFalse=>cases hc
          rename_i hcond
          cases hc
          obtain ⟨blk',cs',e',fz,q1,q2,q3,q4⟩:=hsl cs hcs
          rw [h2] at q1
          cases q1
          have he : a.eval (.tmp tx) = .pointer (some ⟨blk,off,none⟩):=h3
          have hlen : cs.size = cs'.size:=by have:=q4.length; simpa using this
          have hvs:=hvr.cells hcond.2.1
          have hvl:=hvs.length
          have hc1:=hcond.1
          have hc2:=hcond.2.2
          obtain ⟨w',r1,r2,r3,r4,r5,r6,r7,r8⟩:=F7 (P:=P) (b:=blk) (off:=off) (a.eval y).cells.toList 0 w cs' q2 q3.no (by omega) hvs.leaf
          have hblk:=hlam.lo j blk h2
          have hjd : j ∉ o.dst.toList:=fun hh=>by
            cases hdd : o.dst with
            | none=>rw [hdd] at hh; simp at hh
            | some d =>
              rw [hdd] at hh hdb
              have h5 : d < n:=by simpa [dstB] using hdb
              have h6 : j = d:=by simpa using hh
              rw [← h6] at h5
              exact absurd h5 (Nat.not_lt.2 hjn)
          have hTj : putT (setT T j (.agg (AE cs.toList off (Ao v)).toArray)) o.dst undef j = .agg (AE cs.toList off (Ao v)).toArray:=by
            rw [Di hjd]
            have:=DX T (.agg (AE cs.toList off (Ao v)).toArray) j j
            rw [if_pos rfl] at this
            exact this
          have hTne : ∀ x,x ≠ j→setT T j (.agg (AE cs.toList off (Ao v)).toArray) x = T x:=fun x hx=>by
            have:=DX T (.agg (AE cs.toList off (Ao v)).toArray) j x
            rw [if_neg (Ne.symm hx)] at this
            exact this
          refine .inr (.inl ⟨w',?_,ι,lam,?_⟩)
          · have hsz : (a.eval y).cells.size = n2:=by
              have:=hvs.length
              rw [hcond.1] at this
              simpa using this.symm
            simp [execOp,ho,Instr.storeAt,Instr.sureAddr,he,storeVar,AT hn2,hsz,r1]
          · constructor
            · exact hs.other (hro j blk h2) (fun a y ha hy=>hlam.excl j blk h2 a y ha hy) r3 (by rw [r4]; exact Nat.le_refl _)
            · exact ⟨fun i b hi=>by rw [r4]; exact hlam.lo i b hi,hlam.excl,hlam.inj⟩
            · exact .refl _
            · intro _ _; rfl
            · intro b x hx hb; exact absurd (hs.dom b x hx) (by omega)
            · intro c hc _ hnl; exact r3 c fun e=>hnl j (by rw [e]; exact h2)
            · intro i b hi hni
              refine ⟨hi,r3 b fun e=>hni ?_⟩
              rw [hlam.inj i j blk (by rw [← e]; exact hi) h2]
              simp
            · intro _ _ _ _; rfl
            · intro _ _ hj; exact .inl hj
            · rw [r4]; exact Nat.le_refl _
            · exact r5
            · exact r6
            · exact r7
            · exact Nat.le_refl _
            · intro _ _ h; exact h
            · intro x hx
              by_cases exj : x = j
              · subst exj
                rw [hTj]
                unfold NRel
                rw [if_neg (by omega)]
                intro cells hcells
                cases hcells
                refine ⟨blk,_,e',fz,h2,r2,by rw [Gr]; exact q3,?_⟩
                have hcell : (AE cs.toList off (Ao v)).toArray.toList = AE cs.toList off (Ao v):=by simp
                rw [hcell]
                exact q4.putUpd hvs (by have:=hcond.1; have:=hcond.2.2; simp; omega)
              · have hxd : x ∈ o.dst.toList:=by simpa [exj] using hx
                refine Rw (v:=undef) hz hdb hxd ?_ (by rw [hd.2.2]; exact Cb ι)
                cases hdd : o.dst with
                | none=>rw [hdd] at hxd; simp at hxd
                | some d=>rw [hdd] at hxd; simp at hxd; subst hxd; exact N3
            · intro x hx
              simp at hx
              rw [Di (by simpa using hx.2),hTne x hx.1]
        · cases hc
    · cases h
end
end Go.Proofs.YtmbhnbladmpnoaaGreat.Ab

/- The abstract machine with variables in the frame,against the model: regions in the text's order. -/
namespace Go.Proofs.YtmbhnbladmpnoaaGreat.Ab
open Go
def VQ (n : Nat) (ops : Array Oper) (o : Oper) : Bool :=
  match o.guard with
  | none=>true
  | some (j,_)=>match (ops[j]?).bind (·.dst) with
    | some d=>decide (d < n)
    | none=>true
def EQ (n : Nat) (ops : Array Oper) (o : Oper) : Bool:=UF n o && dstB n o.dst && VQ n ops o
structure BSim (tn : Tn) (n wb : Nat) (ι0 : Emb) (H0 : List Blk) (w0 : World) (ι : Emb) (lam : Lam) (T : Fr) (H : List Blk) (tmps : Array Value) (w : World) : Prop where
  sim : Sim wb ι H w
  lok : LamOk w0.heap.size ι H lam w
  step : Step ι0 H0 w0 ι H w
  nm : ∀ x,NRel tn n ι lam w tmps x (T x)
theorem FX {tn : Tn} {o : Oper} {x : Nat} (h : x ∈ o.dst.toList) : x ∈ Cw tn o:=by
  unfold Cw
  split <;> simp_all
section
variable {P : Program} {call : Aa} {tn : Tn} {n m wb : Nat} {ι0 : Emb} {H0 : List Blk} {w0 : World} {ι : Emb} {lam : Lam} {a : Act} {w : World} {s : St} {T : Fr} {o : Oper}
theorem NRel.keep {H : List Blk} {lo : Nat} {sets : List Nat} {ι' : Emb} {lam' : Lam} {K : List Blk} {w' : World} {T' : Fr} {tmps tmps' : Array Value} (h : AfterL tn n wb lo ι lam H w T sets ι' lam' K w' T' tmps')
    (hlt : ∀ j b,lam j = some b→b < w.heap.size) {x : Nat} (hx : x ∉ sets) (ht : tmps'.getD x undef = tmps.getD x undef) {u : Value} (hr : NRel tn n ι lam w tmps x u) : NRel tn n ι' lam' w' tmps' x u:=by
  unfold NRel at hr ⊢
  split
  · rename_i hxn
    rw [if_pos hxn] at hr
    rw [ht]
    cases hl : look x tn with
    | none=>rw [hl] at hr; exact hr.mono h.le
    | some j =>
      rw [hl] at hr
      rcases hr with h1 | ⟨off,blk,h1,h2,h3⟩
      · exact .inl h1
      · exact .inr ⟨off,blk,h1,by rw [h.keepP x j hl hx]; exact h2,h3⟩
  · rename_i hxn
    rw [if_neg hxn] at hr
    intro cells hc
    obtain ⟨blk,cs,e,fz,h1,h2,h3,h4⟩:=hr cells hc
    obtain ⟨g1,g2⟩:=h.keepL x blk h1 hx
    exact ⟨blk,cs,e,fz,g1,by rw [g2]; exact h2,h3,h4.mono fun _ _=>L2.mono h.le⟩
theorem Step.afterL {H : List Blk} {sets : List Nat} {ι' : Emb} {lam' : Lam} {K : List Blk} {w' : World} {T' : Fr} {tmps' : Array Value} (h : Step ι0 H0 w0 ι H w) (hlok : LamOk w0.heap.size ι H lam w) (g : AfterL tn n wb w0.heap.size ι lam H w T sets ι' lam' K w' T' tmps') : Step ι0 H0 w0 ι' K w' where
  le:=h.le.trans g.le
  old b hb:=(g.old b (Nat.lt_of_lt_of_le hb h.len)).trans (h.old b hb)
  img b x e hb:=by
    by_cases hk : b < H.length
    · rw [g.old b hk] at e
      exact h.img b x e hb
    · rcases g.img b x e (by omega) with h1 | ⟨a,y,ha,hy,he⟩
      · exact .inl (Nat.le_trans h.size h1)
      · by_cases hH : a < H0.length
        · rw [h.old a hH] at hy
          exact .inr ⟨a,y,h.own a hH ha,hy,he⟩
        · rcases h.img a y hy (by omega) with h2 | ⟨a',y',ha',hy',he'⟩
          · exact .inl (he ▸ h2)
          · exact .inr ⟨a',y',ha',hy',he'.trans he⟩
  keep c hc hn:=by
    rw [g.keep c (Nat.lt_of_lt_of_le hc h.size) ?_ ?_,h.keep c hc hn]
    · intro a y ha hy he
      by_cases hH : a < H0.length
      · rw [h.old a hH] at hy
        exact hn a y (h.own a hH ha) hy he
      · rcases h.img a y hy (by omega) with h2 | ⟨a',y',ha',hy',he'⟩
        · omega
        · exact hn a' y' ha' hy' (he'.trans he)
    · intro j hj
      have:=(hlok.lo j c hj).1
      omega
  size:=Nat.le_trans h.size g.size
  os:=g.os.trans h.os
  tape:=g.tape.trans h.tape
  output:=g.output.trans h.output
  len:=Nat.le_trans h.len g.len
  own a ha e:=h.own a ha (g.own a (Nat.lt_of_lt_of_le ha h.len) e)
theorem BSim.after {H : List Blk} {ι' : Emb} {lam' : Lam} {K : List Blk} {w' : World} {T' : Fr} {v' : Value} (h : BSim tn n wb ι0 H0 w0 ι lam T H a.tmps w)
    (g : AfterL tn n wb w0.heap.size ι lam H w T (Cw tn o) ι' lam' K w' T' (a.put o.dst v').tmps) : BSim tn n wb ι0 H0 w0 ι' lam' T' K (a.put o.dst v').tmps w' where
  sim:=g.sim
  lok:=g.lok
  step:=h.step.afterL h.lok g
  nm x:=by
    by_cases hx : x ∈ Cw tn o
    · exact g.nm x hx
    · rw [g.frame x hx]
      exact NRel.keep g (fun j b hj=>(h.lok.lo j b hj).2) hx (Lf fun hh=>hx (FX hh)) (h.nm x)
theorem BSim.weak {H : List Blk} {tmps : Array Value} {T' : Fr} (h : BSim tn n wb ι0 H0 w0 ι lam T H tmps w) (hw : ∀ x,T' x = T x ∨ T' x = CB) : BSim tn n wb ι0 H0 w0 ι lam T' H tmps w :=
  ⟨h.sim,h.lok,h.step,fun x=>by
    rcases hw x with e | e
    · rw [e]; exact h.nm x
    · rw [e]; exact .poison⟩
theorem BSim.unset {H : List Blk} (hz : a.tmps.size = n) (hdb : dstB n o.dst = true) (h : BSim tn n wb ι0 H0 w0 ι lam T H a.tmps w) : BSim tn n wb ι0 H0 w0 ι lam (putT T o.dst undef) H (a.put o.dst undef).tmps w where
  sim:=h.sim
  lok:=h.lok
  step:=h.step
  nm x:=by
    by_cases hx : x ∈ o.dst.toList
    · cases hd : o.dst with
      | none=>rw [hd] at hx; simp at hx
      | some d =>
        rw [hd] at hx hdb
        simp at hx
        subst hx
        have hlt : x < n:=by simpa [dstB] using hdb
        unfold NRel
        rw [if_pos hlt,N3,G1 (by omega)]
        split
        · exact Cb ι
        · exact .inl ⟨_,rfl⟩
    · rw [Di hx]
      have:=h.nm x
      unfold NRel at this ⊢
      rw [Lf hx]
      exact this
theorem VRel.inv_undef {v : Value} (h : VRel ι (.tuple #[]) v) : v = .tuple #[]:=by
  have h2:=h.inv_tuple (by simp)
  obtain ⟨a',e,hh⟩:=h2
  subst e
  have:=hh.length
  simp at this
  have : a' = #[]:=by
    apply Array.eq_empty_of_size_eq_zero
    omega
  rw [this]
theorem UG {ops : Array Oper} {g : Nat × Bool} (ho : o.guard = some g) {t : Nat} (ht : Ea ops g = some t) (htn : t < a.tmps.size) {b : Bool} (hv : a.tmps.getD t undef = .bool b) : Region.wanted o (yielded ops a.tmps) = decide (b = g.2):=by
  obtain ⟨j,want⟩:=g
  unfold Region.wanted
  simp only [ho]
  unfold yielded
  unfold Ea at ht
  simp only at ht ⊢
  rw [ht]
  simp only [Option.bind_some]
  have : a.tmps[t]? = some (.bool b):=by
    rw [Array.getElem?_eq_getElem htn]
    simp [Array.getD,htn] at hv
    rw [hv]
  rw [this]
  cases b <;> cases want <;> rfl
theorem Tb {ops : Array Oper} {g : Nat × Bool} (ho : o.guard = some g) {t : Nat} (ht : Ea ops g = some t) (htn : t < a.tmps.size) (hv : a.tmps.getD t undef = .tuple #[]) : Region.wanted o (yielded ops a.tmps) = false:=by
  obtain ⟨j,want⟩:=g
  unfold Region.wanted
  simp only [ho]
  unfold yielded
  unfold Ea at ht
  simp only at ht ⊢
  rw [ht]
  simp only [Option.bind_some]
  have : a.tmps[t]? = some (.tuple #[]):=by
    rw [Array.getElem?_eq_getElem htn]
    simp [Array.getD,htn] at hv
    rw [hv]
  rw [this]
  rfl
theorem Ed {β : Type} {v : Value} {want : Bool} {x y : Option β} {r : β} (h : Ai v want x y = some r) : (v = .bool want∧x = some r) ∨ ((v = .bool (!want) ∨ v = .tuple #[])∧y = some r):=by
  unfold Ai at h
  split at h
  · rename_i b
    split at h
    · rename_i hb; exact .inl ⟨by rw [hb],h⟩
    · rename_i hb
      refine .inr ⟨.inl ?_,h⟩
      cases b <;> cases want <;> simp_all
  · rename_i q
    split at h
    · rename_i hb
      have : q = #[]:=by simpa using hb
      exact .inr ⟨.inr (by rw [this]),h⟩
    · cases h
  · cases h
theorem Lg {ops : Array Oper} {g : Nat × Bool} (ho : o.guard = some g) {t : Nat} (ht : Ea ops g = some t) (hc : Lc t tn = true) (hz : a.tmps.size = n) (hgb : VQ n ops o = true) {u : Value} (hr : NRel tn n ι lam w a.tmps t u) :
    t < n∧(∀ b,u = .bool b→Region.wanted o (yielded ops a.tmps) = decide (b = g.2))∧(u = .tuple #[]→Region.wanted o (yielded ops a.tmps) = false):=by
  have hlt : t < n:=by
    unfold VQ at hgb
    unfold Ea at ht
    obtain ⟨j,want⟩:=g
    simp only [ho] at hgb
    simp only at ht
    rw [ht] at hgb
    simpa using hgb
  unfold NRel at hr
  have hl : look t tn = none:=by simpa [Lc] using hc
  rw [if_pos hlt,hl] at hr
  refine ⟨hlt,fun b hb=>UG ho ht (by omega) (by rw [hb] at hr; exact hr.inv_bool),fun hu=>Tb ho ht (by omega) ?_⟩
  rw [hu] at hr
  exact hr.inv_undef
def IS (P : Program) (tn : Tn) (n wb : Nat) (ops : Array Oper) (i k : Nat) (T : Fr) (s : St) (T' : Fr) (s' : St) : Prop :=
  ∀ (X : Option Nat × Nat) (ι0 : Emb) (H0 : List Blk) (w0 : World) (ι : Emb) (lam : Lam) (a : Act) (w : World),wb ≤ w0.heap.size→BSim tn n wb ι0 H0 w0 ι lam T s.heap a.tmps w→a.tmps.size = n→∀ (Q : Exit→Act→World→Prop) (rest : List Nat),
    (∀ ι' lam' a' w',BSim tn n wb ι0 H0 w0 ι' lam' T' s'.heap a'.tmps w'→a'.tmps.size = n→a'.defers = a.defers→wpOpsIn (FR X) X.2 P ops Q rest a' w')→wpOpsIn (FR X) X.2 P ops Q (List.range' i k ++ rest) a w
theorem IS.nil {ops : Array Oper} {i : Nat} {T T' : Fr} (hw : ∀ x,T' x = T x ∨ T' x = CB) : IS P tn n wb ops i 0 T s T' s  :=fun _ _ _ _ ι lam a w _ h hz Q rest hQ=>by
  simpa using hQ ι lam a w (h.weak hw) hz rfl
theorem IS.weak {ops : Array Oper} {i k : Nat} {s1 : St} {T T' T2 : Fr} (h : IS P tn n wb ops i k T s T' s1) (hw : ∀ x,T2 x = T' x ∨ T2 x = CB) : IS P tn n wb ops i k T s T2 s1:=fun X ι0 H0 w0 ι lam a w hwb hs hz Q rest hQ =>
  h X ι0 H0 w0 ι lam a w hwb hs hz Q rest fun ι' lam' a' w' hs'=>hQ ι' lam' a' w' (hs'.weak hw)
theorem IS.trans {ops : Array Oper} {i k l : Nat} {T T1 T2 : Fr} {s s1 s2 : St} (h : IS P tn n wb ops i k T s T1 s1) (g : IS P tn n wb ops (i + k) l T1 s1 T2 s2) : IS P tn n wb ops i (k + l) T s T2 s2:=by
  intro X ι0 H0 w0 ι lam a w hwb hs hz Q rest hQ
  have : List.range' i (k + l) ++ rest = List.range' i k ++ (List.range' (i + k) l ++ rest):=by
    rw [← List.append_assoc,List.range'_append_1]
  rw [this]
  refine h X ι0 H0 w0 ι lam a w hwb hs hz Q _ fun ι' lam' a' w' hs' hz' hd=>?_
  exact g X ι0 H0 w0 ι' lam' a' w' hwb hs' hz' Q rest fun ι2 lam2 a2 w2 hs2 hz2 hd2=>hQ ι2 lam2 a2 w2 hs2 hz2 (hd2.trans hd)
theorem HY {ops : Array Oper} (h : EQ n ops o = true) : UF n o = true∧dstB n o.dst = true∧VQ n ops o = true:=by
  unfold EQ at h
  simp only [Bool.and_eq_true] at h
  exact ⟨h.1.1,h.1.2,h.2⟩
theorem Zar (hcall : DZ P call) (htn : tnOk n m tn = true) {ops : Array Oper} {i : Nat} (ho : ops[i]? = some o) (hbb : EQ n ops o = true) {T1 : Fr} {s1 : St} (h : opB P call tn T o s (fun T s=>some (T,s)) = some (T1,s1))
    (hg : o.guard = none ∨ ∃ g t,o.guard = some g∧Ea ops g = some t∧Lc t tn = true∧T t = .bool g.2) : IS P tn n wb ops i 1 T s T1 s1:=by
  intro X ι0 H0 w0 ι lam a w hwb hs hz Q rest hQ
  obtain ⟨hb1,hb2,hb3⟩:=HY hbb
  rw [List.range'_one,List.singleton_append,wpOpsIn_cons]
  unfold wpOpIn
  simp only [ho]
  have hw : Region.wanted o (yielded ops a.tmps) = true:=by
    rcases hg with hg | ⟨g,t,h1,h2,h3,h4⟩
    · unfold Region.wanted; rw [hg]
    · rw [(Lg h1 h2 h3 hz hb3 (hs.nm t)).2.1 g.2 h4]
      simp
  rw [if_pos hw]
  refine ((Zb2 hcall (fun j blk hj b n' cells hb l hl=>(by
    obtain ⟨_,_,_,_,h1,_⟩:=hs.sim.row b n' cells .ro hb (by simp) l hl
    have:=h1 rfl
    have:=(hs.lok.lo j blk hj).1
    omega)) hs.step.size htn hz hb2 (by rw [hz]; exact hb1) h hs.sim hs.lok fun x _=>hs.nm x).wp fun v' w' ⟨ι',lam',hA⟩=>?_)
  exact hQ ι' lam' _ w' (hs.after hA) (by rw [FU]; exact hz) (DM _ _ _)
theorem Yf {ops : Array Oper} {i : Nat} (ho : ops[i]? = some o) (hbb : EQ n ops o = true) {g : Nat × Bool} {t : Nat} (h1 : o.guard = some g) (h2 : Ea ops g = some t) (h3 : Lc t tn = true) (h4 : T t = .bool (!g.2) ∨ T t = .tuple #[]) :
    IS P tn n wb ops i 1 T s (putT T o.dst undef) s:=by
  intro X ι0 H0 w0 ι lam a w hwb hs hz Q rest hQ
  obtain ⟨hb1,hb2,hb3⟩:=HY hbb
  rw [List.range'_one,List.singleton_append,wpOpsIn_cons]
  unfold wpOpIn
  simp only [ho]
  have hw : Region.wanted o (yielded ops a.tmps) = false:=by
    obtain ⟨_,g1,g2⟩:=Lg h1 h2 h3 hz hb3 (hs.nm t)
    rcases h4 with h4 | h4
    · rw [g1 _ h4]; cases g.2 <;> rfl
    · exact g2 h4
  rw [if_neg (by rw [hw]; simp)]
  exact ⟨fun _ _=>trivial,hQ ι lam _ w (hs.unset hz hb2) (by rw [FU]; exact hz) (DM _ _ _)⟩
theorem UH {β : Type} (k : Fr→St→Option β) : opB P call tn T o s k = (opB P call tn T o s fun T s=>some (T,s)).bind fun r=>k r.1 r.2:=by
  unfold opB
  cases hk : locK tn o with
  | bad=>rfl
  | glob =>
    simp only
    rw [Cs,Cs (k:=fun v s=>some (putT T o.dst v,s)),Option.bind_assoc]
    rfl
  | ptr j =>
    simp only
    rw [Cs,Cs (k:=fun v s=>some (putT T o.dst v,s)),Option.bind_assoc]
    rfl
  | mk j=>simp only; split <;> simp [Option.bind_assoc]
  | ld j=>simp only; split <;> simp [Option.bind_assoc]
  | st j=>simp only; split <;> simp [Option.bind_assoc]
theorem Kg {T1 : Fr} {s1 : St} (h : opB P call tn T o s (fun T s=>some (T,s)) = some (T1,s1)) {x : Nat} (hx : x ∉ Cw tn o) : T1 x = T x:=by
  have hd : x ∉ o.dst.toList:=fun hh=>hx (FX hh)
  unfold opB at h
  cases hk : locK tn o with
  | bad=>simp [hk] at h
  | glob =>
    simp only [hk] at h
    rw [Cs] at h
    simp only [Option.bind_eq_some_iff] at h
    obtain ⟨⟨v,s2⟩,h1,h2⟩:=h
    cases h2
    exact Di hd
  | ptr j =>
    simp only [hk] at h
    rw [Cs] at h
    simp only [Option.bind_eq_some_iff] at h
    obtain ⟨⟨v,s2⟩,h1,h2⟩:=h
    cases h2
    exact Di hd
  | mk j =>
    have hset : Cw tn o = j :: (o.dst.toList ++ DV j tn):=by unfold Cw; rw [hk]
    rw [hset] at hx
    simp at hx
    have key : ∀ c,mkT tn j o.dst c T x = T x:=by
      intro c
      unfold mkT
      have h1:=DX (putT (Hq tn j T) o.dst lptr) c j x
      rw [if_neg (Ne.symm hx.1)] at h1
      show getT (setT (putT (Hq tn j T) o.dst lptr) j c) x = _
      rw [h1]
      show putT (Hq tn j T) o.dst lptr x = _
      rw [Di hd]
      unfold Hq
      cases hl : look x tn with
      | none=>rfl
      | some q =>
        simp only
        cases hb : Nat.beq q j with
        | true =>
          have:=Nat.eq_of_beq_eq_true hb
          subst this
          exact absurd (FW hl) hx.2.2
        | false=>rfl
    simp only [hk] at h
    split at h
    · simp only [Option.bind_eq_some_iff] at h
      obtain ⟨z,_,c,_,h⟩:=h
      cases h; exact key c
    · simp only [Option.bind_eq_some_iff] at h
      obtain ⟨z,_,c,_,h⟩:=h
      cases h; exact key c
    · cases h
  | ld j =>
    simp only [hk] at h
    split at h
    · simp only [Option.bind_eq_some_iff] at h
      obtain ⟨_,_,_,_,_,_,v,_,h⟩:=h
      cases h; exact Di hd
    · cases h
  | st j =>
    have hset : Cw tn o = j :: o.dst.toList:=by unfold Cw; rw [hk]
    rw [hset] at hx
    simp at hx
    simp only [hk] at h
    split at h
    · simp only [Option.bind_eq_some_iff] at h
      obtain ⟨_,_,_,_,_,_,c,_,h⟩:=h
      cases h
      rw [Di hd]
      have h1:=DX T c j x
      rw [if_neg (Ne.symm hx.1)] at h1
      exact h1
    · cases h
theorem Kh (hcall : DZ P call) (htn : tnOk n m tn = true) {ops : Array Oper} {G : Option (Nat × Bool)} (hG : G = none ∨ ∃ g t,G = some g∧Ea ops g = some t∧Lc t tn = true) :
    ∀ {l : List Oper} {i : Nat} {T : Fr} {s : St} {β : Type} {k : Fr→St→Option β} {r : β},(∀ j,j < l.length→l[j]? = ops[i + j]?)→(∀ o ∈ l,EQ n ops o = true∧o.guard = G)→(∀ g t,G = some g→Ea ops g = some t→T t = .bool g.2∧WD tn t l = true) →
      seqB P call tn l T s k = some r→∃ T' s',k T' s' = some r∧IS P tn n wb ops i l.length T s T' s'∧∀ x,x ∉ NR tn l→T' x = T x
  | [],i,T,s,β,k,r,_,_,_,h=>⟨T,s,h,.nil fun _=>.inl rfl,fun _ _=>rfl⟩
  | o :: l,i,T,s,β,k,r,hl,hb,hT,h=>by
    simp only [seqB] at h
    rw [UH] at h
    simp only [Option.bind_eq_some_iff] at h
    obtain ⟨⟨T1,s1⟩,h1,h2⟩:=h
    simp only at h2
    have ho : ops[i]? = some o:=by have:=hl 0 (by simp); simpa using this.symm
    have hfr:=fun x hx=>Kg (x:=x) h1 hx
    obtain ⟨T2,s2,g1,g2,g3⟩:=Kh hcall htn hG (l:=l) (i:=i + 1) (fun j hj=>by have:=hl (j + 1) (by simp; omega); simpa [Nat.add_assoc,Nat.add_comm 1 j] using this) (fun o ho=>hb o (List.mem_cons_of_mem _ ho)) (fun g t e1 e2=>by
      obtain ⟨e3,e4⟩:=hT g t e1 e2
      simp only [WD,Bool.and_eq_true] at e4
      refine ⟨?_,e4.2⟩
      rw [hfr t]
      · exact e3
      · intro hm
        have:=e4.1
        have hmem : memN t (Cw tn o) = true:=by
          have : ∀ {l : List Nat},t ∈ l→memN t l = true:=by
            intro l hl
            induction l with
            | nil=>simp at hl
            | cons y l ih =>
              simp only [memN]
              cases hb : Nat.beq t y with
              | true=>rfl
              | false =>
                have:=Nat.ne_of_beq_eq_false hb
                simp [this] at hl
                exact ih hl
          exact this hm
        rw [hmem] at this
        cases this) h2
    have hone : IS P tn n wb ops i 1 T s T1 s1:=by
      refine Zar hcall htn ho (hb o List.mem_cons_self).1 h1 ?_
      rcases hG with hG | ⟨g,t,e1,e2,e3⟩
      · exact .inl (by rw [(hb o List.mem_cons_self).2,hG])
      · exact .inr ⟨g,t,by rw [(hb o List.mem_cons_self).2,e1],e2,e3,(hT g t e1 e2).1⟩
    refine ⟨T2,s2,g1,?_,fun x hx=>?_⟩
    · have:=hone.trans g2
      rwa [Nat.add_comm] at this
    · simp [NR] at hx
      rw [g3 x hx.2]; exact hfr x hx.1
theorem QH {ops : Array Oper} {g : Nat × Bool} {t : Nat} (h2 : Ea ops g = some t) (h3 : Lc t tn = true) :
    ∀ {l : List Oper} {i : Nat} {T : Fr} {s : St},(∀ j,j < l.length→l[j]? = ops[i + j]?)→(∀ o ∈ l,EQ n ops o = true∧o.guard = some g)→(T t = .bool (!g.2) ∨ T t = .tuple #[])→WD tn t l = true →
      IS P tn n wb ops i l.length T s (XX l T) s∧∀ x,x ∉ NR tn l→XX l T x = T x
  | [],i,T,s,_,_,_,_=>⟨.nil fun _=>.inl rfl,fun _ _=>rfl⟩
  | o :: l,i,T,s,hl,hb,hT,hns=>by
    have ho : ops[i]? = some o:=by have:=hl 0 (by simp); simpa using this.symm
    simp only [WD,Bool.and_eq_true] at hns
    have htd : t ∉ o.dst.toList:=by
      intro hm
      have hm2:=FX (tn:=tn) hm
      have : ∀ {l : List Nat},t ∈ l→memN t l = true:=by
        intro l hl
        induction l with
        | nil=>simp at hl
        | cons y l ih =>
          simp only [memN]
          cases hb : Nat.beq t y with
          | true=>rfl
          | false =>
            have:=Nat.ne_of_beq_eq_false hb
            simp [this] at hl
            exact ih hl
      have h1:=hns.1
      rw [this hm2] at h1
      cases h1
    obtain ⟨g1,g2⟩:=QH h2 h3 (l:=l) (i:=i + 1) (T:=putT T o.dst undef) (s:=s) (fun j hj=>by have:=hl (j + 1) (by simp; omega); simpa [Nat.add_assoc,Nat.add_comm 1 j] using this) (fun o ho=>hb o (List.mem_cons_of_mem _ ho)) (by rw [Di htd]; exact hT) hns.2
    have hone:=Yf (P:=P) (wb:=wb) (s:=s) ho (hb o List.mem_cons_self).1 (hb o List.mem_cons_self).2 h2 h3 hT
    refine ⟨?_,fun x hx=>?_⟩
    · have:=hone.trans g1
      rwa [Nat.add_comm] at this
    · simp [NR] at hx
      show XX l (putT T o.dst undef) x = _
      rw [g2 x hx.2,Di fun hh=>hx.1 (FX hh)]
theorem Ki {x : Nat} : ∀ {l : List Nat},memN x l = true ↔ x ∈ l
  | []=>by simp [memN]
  | y :: l=>by
    simp only [memN]
    cases hb : Nat.beq x y with
    | true=>have:=Nat.eq_of_beq_eq_true hb; simp [this]
    | false=>have:=Nat.ne_of_beq_eq_false hb; simp [this,Ki]
theorem Tc {T2 : Fr} : ∀ {L : List Nat} {p : Nat} {X : List Value} {T0 : Fr},(∀ k,k < L.length→getL X (p + k) = T2 (L.getD k 0))→∀ x,(x ∈ L∧ofL L p X T0 x = T2 x) ∨ (x ∉ L∧ofL L p X T0 x = T0 x)
  | [],p,X,T0,_,x=>.inr ⟨by simp,rfl⟩
  | d :: L,p,X,T0,h,x=>by
    simp only [ofL]
    cases hb : Nat.beq x d with
    | true =>
      have:=Nat.eq_of_beq_eq_true hb
      subst this
      left
      exact ⟨by simp,by simpa using h 0 (by simp)⟩
    | false =>
      have hne:=Nat.ne_of_beq_eq_false hb
      rcases Tc (L:=L) (p:=p + 1) (X:=X) (T0:=T0) (fun k hk=>by have:=h (k + 1) (by simp; omega); simpa [Nat.add_assoc,Nat.add_comm 1 k] using this) x with ⟨h1,h2⟩ | ⟨h1,h2⟩
      · exact .inl ⟨by simp [h1],h2⟩
      · exact .inr ⟨by simp [hne,h1],h2⟩
theorem VR {T2 : Fr} : ∀ {L : List Nat} {k : Nat},k < L.length→getL (toL L T2) k = T2 (L.getD k 0)
  | [],_,h=>by simp at h
  | d :: L,0,_=>rfl
  | d :: L,k + 1,h=>by
    simp only [toL,getL]
    rw [VR (by simpa using h)]
    simp
theorem Rx {L : List Nat} {T2 T0 : Fr} (x : Nat) : (x ∈ L∧ofL L 0 (toL L T2) T0 x = T2 x) ∨ (x ∉ L∧ofL L 0 (toL L T2) T0 x = T0 x) :=
  Tc (fun k hk=>by rw [Nat.zero_add]; exact VR hk) x
theorem QI {L sets : List Nat} {T T2 : Fr} (hk : ∀ x,x ∉ sets→T2 x = T x) (x : Nat) : ofL L 0 (toL L T2) (PO sets T) x = T2 x ∨ ofL L 0 (toL L T2) (PO sets T) x = CB:=by
  rcases Rx (L:=L) (T2:=T2) (T0:=PO sets T) x with ⟨_,h⟩ | ⟨_,h⟩
  · exact .inl h
  · rw [h]
    unfold PO
    cases hm : memN x sets with
    | true=>exact .inr rfl
    | false =>
      left
      simp only [cond_false]
      exact (hk x fun hh=>by rw [Ki.2 hh] at hm; cases hm).symm
theorem Zas (o : Oper) (gs : List Grp) : Ep (grpC o gs) = o :: Ep gs:=by
  unfold grpC
  split
  · split
    · cases Zag _ _ <;> rfl
    · rfl
  · rfl
theorem Ry : ∀ (l : List Oper),Ep (grp l) = l
  | []=>rfl
  | o :: l=>by rw [grp,Zas,Ry l]
theorem WS (o : Oper) {gs : List Grp} (h : ∀ g ∈ gs,∀ q ∈ g.2,q.guard = g.1) : ∀ g ∈ grpC o gs,∀ q ∈ g.2,q.guard = g.1:=by
  unfold grpC
  split
  · rename_i h0 os r
    have h1:=h (some h0,os) (by simp)
    have h2:=fun g hg=>h g (List.mem_cons_of_mem _ hg)
    split
    · rename_i g hg
      cases hsg : Zag g h0 with
      | true =>
        unfold Zag at hsg
        simp only [Bool.and_eq_true] at hsg
        have e1:=Nat.eq_of_beq_eq_true hsg.1
        have e2 : g.2 = h0.2:=by simpa using hsg.2
        have he : g = h0:=Prod.ext e1 e2
        intro g' hg' q hq
        simp at hg'
        rcases hg' with rfl | hg'
        · simp at hq
          rcases hq with rfl | hq
          · rw [hg,he]
          · exact h1 q hq
        · exact h2 g' hg' q hq
      | false =>
        intro g' hg' q hq
        simp at hg'
        rcases hg' with rfl | rfl | hg'
        · simp at hq; subst hq; exact hg
        · exact h1 q hq
        · exact h2 g' hg' q hq
    · rename_i hg
      intro g' hg' q hq
      simp at hg'
      rcases hg' with rfl | rfl | hg'
      · simp at hq; subst hq; exact hg
      · exact h1 q hq
      · exact h2 g' hg' q hq
  · intro g' hg' q hq
    simp at hg'
    rcases hg' with rfl | hg'
    · simp at hq; subst hq; rfl
    · exact h g' hg' q hq
theorem Td : ∀ (l : List Oper),∀ g ∈ grp l,∀ q ∈ g.2,q.guard = g.1
  | []=>by simp [grp]
  | o :: l=>by rw [grp]; exact WS o (Td l)
theorem Lh (hcall : DZ P call) (htn : tnOk n m tn = true) {ops : Array Oper} {mk : Nat} :
    ∀ {gs : List Grp} {i : Nat} {T : Fr} {s : St} {β : Type} {k : Fr→St→Option β} {r : β},(∀ j,j < (Ep gs).length→(Ep gs)[j]? = ops[i + j]?)→(∀ g ∈ gs,∀ q ∈ g.2,q.guard = g.1)→(∀ o ∈ Ep gs,EQ n ops o = true) →
      Rf P call tn ops mk gs T s k = some r→∃ T' s',k T' s' = some r∧IS P tn n wb ops i (Ep gs).length T s T' s'
  | [],i,T,s,β,k,r,_,_,_,h=>⟨T,s,h,.nil fun _=>.inl rfl⟩
  | (none,os) :: gs,i,T,s,β,k,r,hl,hg,hb,h=>by
    simp only [Rf] at h
    have hlen : (Ep ((none,os) :: gs)).length = os.length + (Ep gs).length:=by simp [Ep]
    obtain ⟨T1,s1,h1,h2,_⟩:=Kh (wb:=wb) hcall htn (G:=none) (ops:=ops) (i:=i) (.inl rfl) (fun j (hj : j < os.length)=>by rw [← hl j (by omega)]; simp only [Ep]; rw [List.getElem?_append_left hj]) (fun o ho=>⟨hb o (by simp [Ep,ho]),hg _ List.mem_cons_self o ho⟩) (fun g t e=>by cases e) h
    obtain ⟨T2,s2,g1,g2⟩:=Lh hcall htn (gs:=gs) (i:=i + os.length) (fun j hj=>by
      have:=hl (os.length + j) (by omega)
      simp only [Ep] at this
      rw [List.getElem?_append_right (by omega)] at this
      simpa [Nat.add_assoc] using this) (fun g hg'=>hg g (List.mem_cons_of_mem _ hg')) (fun o ho=>hb o (by simp [Ep,ho])) h1
    exact ⟨T2,s2,g1,by rw [hlen]; exact h2.trans g2⟩
  | (some g,os) :: gs,i,T,s,β,k,r,hl,hg,hb,h=>by
    simp only [Rf,Option.bind_eq_some_iff] at h
    obtain ⟨t,ht,h⟩:=h
    split at h
    case isFalse=>cases h
    rename_i hc
    simp only [Bool.and_eq_true] at hc
    have hlen : (Ep ((some g,os) :: gs)).length = os.length + (Ep gs).length:=by simp [Ep]
    simp only [Option.bind_eq_some_iff] at h
    obtain ⟨q,hq,h⟩:=h
    have hl1 : ∀ j,j < os.length→os[j]? = ops[i + j]?:=fun j hj=>by rw [← hl j (by omega)]; simp only [Ep]; rw [List.getElem?_append_left hj]
    have hb1 : ∀ o ∈ os,EQ n ops o = true∧o.guard = some g:=fun o ho=>⟨hb o (by simp [Ep,ho]),hg _ List.mem_cons_self o ho⟩
    have hmid : IS P tn n wb ops i os.length T s (ofL (Iw (WC tn ops (Ep gs) mk) (Jr (NR tn os))) 0 q.1 (PO (NR tn os) T)) q.2:=by
      rcases Ed hq with ⟨hv,hq⟩ | ⟨hv,hq⟩
      · obtain ⟨T1,s1,h1,h2,h3⟩:=Kh (wb:=wb) hcall htn (G:=some g) (ops:=ops) (i:=i) (.inr ⟨g,t,rfl,ht,hc.1⟩) hl1 hb1 (fun g' t' e1 e2=>by cases e1; rw [ht] at e2; cases e2; exact ⟨hv,hc.2⟩) hq
        cases h1
        exact h2.weak (QI h3)
      · cases hq
        obtain ⟨h2,h3⟩:=QH (P:=P) (wb:=wb) (s:=s) ht hc.1 hl1 hb1 hv hc.2
        exact h2.weak (QI h3)
    obtain ⟨T2,s2,g1,g2⟩:=Lh hcall htn (gs:=gs) (i:=i + os.length) (fun j hj=>by
      have:=hl (os.length + j) (by omega)
      simp only [Ep] at this
      rw [List.getElem?_append_right (by omega)] at this
      simpa [Nat.add_assoc] using this) (fun g hg'=>hg g (List.mem_cons_of_mem _ hg')) (fun o ho=>hb o (by simp [Ep,ho])) h
    exact ⟨T2,s2,g1,by rw [hlen]; exact hmid.trans g2⟩
end
end Go.Proofs.YtmbhnbladmpnoaaGreat.Ab

/- Regions whose order is open: who comes before whom; the run in the text's order. -/
namespace Go.Proofs.YtmbhnbladmpnoaaGreat.Ab
open Go
section
variable {P : Program} {call : Aa} {T T' : Fr}
theorem N4 {o : Oper} (hc : XY P o = 0) {β : Type} (s s0 : St) (k : Value→St→Option β) :
    Bv P call T o s k = (Bv P call T o s0 fun v _=>some v).bind fun v=>k v s:=by
  obtain ⟨dst,op,type,pos,after,guard⟩:=o
  cases op <;> simp only [XY] at hc <;> simp only [Bv] <;> (try (cases hc; done))
  case convert src dst x =>
    cases opd T x with
    | none=>rfl
    | some v =>
      simp only [Option.bind_some]
      split at hc
      · rename_i h1 h2; simp [h1,h2,Option.bind_assoc]
      · cases hc
      · cases hc
  case makeInterface t x =>
    cases opd T x with
    | none=>rfl
    | some v =>
      simp only [Option.bind_some]
      split
      · rfl
      · simp [Option.bind_assoc]
      · rfl
  case makeFunc fn first captured =>
    cases fn with
    | func f=>simp [Option.bind_assoc]
    | _=>rfl
  case slice t x lo hi mx =>
    split at hc
    · rename_i ht; rw [ht]; simp [Option.bind_assoc]
    · rename_i e ht; rw [ht]; simp [Option.bind_assoc]
    · cases hc
  case fieldAddr t x i =>
    cases opd T x with
    | none=>rfl
    | some v=>cases NL P t i with
      | none=>rfl
      | some f =>
        simp only [Option.bind_some]
        cases B0 P f.2 with
        | none=>rfl
        | some n=>simp only [Option.bind_some]; split <;> simp
  case indexAddr t x i =>
    cases opd T x with
    | none=>rfl
    | some v=>cases opd T i with
      | none=>rfl
      | some f=>simp only [Option.bind_some]; split <;> simp [Option.bind_assoc]
  case index t x i =>
    cases opd T x with
    | none=>rfl
    | some v=>cases opd T i with
      | none=>rfl
      | some f=>simp only [Option.bind_some]; split <;> simp [Option.bind_assoc]
  case call c =>
    cases hcc : c.callee with
    | builtin b =>
      simp only [hcc] at hc ⊢
      cases opds T c.args.toList with
      | none=>rfl
      | some xs =>
        simp only [Option.bind_some]
        unfold C1
        cases b <;> simp at hc <;> split <;> simp_all [Option.bind_assoc]
    | value f=>simp [hcc] at hc
    | invoke _ _=>simp [hcc] at hc
  all_goals (simp [Option.bind_assoc]; done)
end
inductive VM where
  | see | frz | dead
  deriving DecidableEq
def Gu : VM→Blk→Blk
  | .see,b=>b
  | .frz,b=>frzB b
  | .dead,b=>MA b
theorem Kj {K : List Nat} : ∀ {l : List Blk} {i b : Nat},(frzK K i l)[b]? = (l[b]?).map (Gu (if K.contains (i + b) then .dead else .frz))
  | [],i,b=>by simp [frzK]
  | x :: l,i,0=>by simp only [frzK,List.getElem?_cons_zero,Option.map_some,Nat.add_zero]; split <;> rfl
  | x :: l,i,b + 1=>by
    simp only [frzK,List.getElem?_cons_succ]
    rw [Kj,show i + 1 + b = i + (b + 1) by omega]
theorem Bk {K : List Nat} : ∀ {l : List Blk} {i : Nat},(frzK K i l).length = l.length
  | [],_=>rfl
  | _ :: l,_=>by simp [frzK,Bk]
theorem Te {t : Nat} : ∀ {l : List Blk} {i b : Nat},(Rh t i l)[b]? = (l[b]?).map (Gu (if i + b = t then .see else .dead))
  | [],i,b=>by simp [Rh]
  | x :: l,i,0=>by simp only [Rh,List.getElem?_cons_zero,Option.map_some,Nat.add_zero]; split <;> rfl
  | x :: l,i,b + 1=>by
    simp only [Rh,List.getElem?_cons_succ]
    rw [Te,show i + 1 + b = i + (b + 1) by omega]
theorem L8 {t : Nat} : ∀ {l : List Blk} {i : Nat},(Rh t i l).length = l.length
  | [],_=>rfl
  | _ :: l,_=>by simp [Rh,L8]
theorem Lj {acc : List Nat} {t : Nat} : ∀ {es : List Edge},(LY acc es).testBit t = true→∃ e ∈ es,Region.binds .any e = true∧(t = e.on ∨ (acc.getD e.on 0).testBit t = true)
  | [],h=>by simp [LY] at h
  | e :: es,h=>by
    simp only [LY] at h
    split at h
    · rename_i hb
      rw [Nat.testBit_or,Nat.testBit_or,Nat.testBit_two_pow] at h
      simp only [Bool.or_eq_true,decide_eq_true_eq] at h
      rcases h with (h | h) | h
      · exact ⟨e,by simp,hb,.inl h.symm⟩
      · exact ⟨e,by simp,hb,.inr h⟩
      · obtain ⟨e',h1,h2⟩:=Lj h
        exact ⟨e',List.mem_cons_of_mem _ h1,h2⟩
    · obtain ⟨e',h1,h2⟩:=Lj h
      exact ⟨e',List.mem_cons_of_mem _ h1,h2⟩
theorem JA : ∀ {l : List Oper} {acc : List Nat} {j : Nat},j < acc.length→(BG acc l)[j]? = acc[j]?
  | [],acc,j,h=>rfl
  | o :: l,acc,j,h=>by
    rw [BG,JA (by simp; omega),List.getElem?_append_left h]
theorem N5 : ∀ {l : List Oper} {acc : List Nat} {j : Nat} {o : Oper},l[j]? = some o →
    ∃ a : List Nat,a.length = acc.length + j∧(∀ i,i < a.length→a[i]? = (BG acc l)[i]?)∧(BG acc l)[acc.length + j]? = some (LY a o.after.toList)
  | [],acc,j,o,h=>by simp at h
  | x :: l,acc,0,o,h=>by
    simp at h
    subst h
    refine ⟨acc,rfl,fun i hi=>?_,?_⟩
    · rw [BG,JA (by simp; omega),List.getElem?_append_left hi]
    · rw [BG,JA (by simp)]
      simp
  | x :: l,acc,j + 1,o,h=>by
    obtain ⟨a,h1,h2,h3⟩:=N5 (acc:=acc ++ [LY acc x.after.toList]) (j:=j) (l:=l) (by simpa using h)
    refine ⟨a,by simp at h1; omega,fun i hi=>by rw [h2 i hi]; rfl,?_⟩
    rw [BG,← h3]
    congr 1
    simp
    omega
theorem N6 {l : List Oper} {j t : Nat} {o : Oper} (ho : l[j]? = some o) (hlt : ∀ e ∈ o.after,Region.binds .any e = true→e.on < j) (h : ((BG [] l).getD j 0).testBit t = true) :
    ∃ e ∈ o.after,Region.binds .any e = true∧(t = e.on ∨ ((BG [] l).getD e.on 0).testBit t = true):=by
  obtain ⟨a,h1,h2,h3⟩:=N5 (acc:=[]) ho
  simp only [List.length_nil,Nat.zero_add] at h1 h3
  rw [List.getD_eq_getElem?_getD,h3,Option.getD_some] at h
  obtain ⟨e,he,hb,h4⟩:=Lj h
  have he' : e ∈ o.after:=by simpa using he
  refine ⟨e,he',hb,h4.imp id fun h5=>?_⟩
  rw [List.getD_eq_getElem?_getD,← h2 e.on (by rw [h1]; exact hlt e he' hb),← List.getD_eq_getElem?_getD]
  exact h5
theorem Fp : ∀ {l : List Oper} {i : Nat},SS i l = true→∀ (j : Nat) (o : Oper),l[j]? = some o→(∀ e ∈ o.after,Region.binds .any e = true→e.on < i + j)∧∀ cs b,o.op ≠ .select cs b
  | [],i,h,j,o,hj=>by simp at hj
  | x :: l,i,h,0,o,hj=>by
    simp at hj
    subst hj
    simp only [SS,Bool.and_eq_true] at h
    refine ⟨fun e he hb=>?_,fun cs b hs=>?_⟩
    · have:=List.all_eq_true.1 h.1.1 e (by simpa using he)
      simpa [hb] using this
    · have:=h.1.2
      simp [hs] at this
  | x :: l,i,h,j + 1,o,hj=>by
    simp only [SS,Bool.and_eq_true] at h
    have:=Fp h.2 j o (by simpa using hj)
    exact ⟨fun e he hb=>by have:=this.1 e he hb; omega,this.2⟩
theorem Kk (f : Nat→Bool) : ∀ (n j : Nat),(XZ f n).testBit j = (decide (j < n) && f j)
  | 0,j=>by simp [XZ]
  | n + 1,j=>by
    simp only [XZ,Nat.testBit_or,Kk f n j]
    by_cases h : j = n
    · subst h
      cases hf : f j <;> simp [hf]
    · have h1 : (cond (f n) (2 ^ n) 0).testBit j = false:=by
        cases f n with
        | false=>simp
        | true=>simp only [cond_true,Nat.testBit_two_pow]; simpa using Ne.symm h
      rw [h1]
      have h2 : decide (j < n) = decide (j < n + 1):=by
        by_cases h3 : j < n
        · simp [h3,Nat.lt_succ_of_lt h3]
        · have : ¬ j < n + 1:=by omega
          simp [h3,this]
      simp [h2]
theorem VS {bf : List Nat} {n i j : Nat} (h : (cmpM bf n i).testBit j = true) : (bf.getD i 0).testBit j = true ∨ j = i ∨ (bf.getD j 0).testBit i = true:=by
  unfold cmpM at h
  rw [Nat.testBit_or,Nat.testBit_or,Kk,Nat.testBit_two_pow] at h
  simp only [Bool.or_eq_true,Bool.and_eq_true,decide_eq_true_eq] at h
  rcases h with h | h | h
  · exact .inl h
  · exact .inr (.inl h.symm)
  · exact .inr (.inr h.2)
theorem Nw {a b j : Nat} (h : subM a b = true) (ha : a.testBit j = true) : b.testBit j = true:=by
  have:=Nat.eq_of_beq_eq_true h
  rw [← this,Nat.testBit_or,ha]
  rfl
section
variable {P : Program} {call : Aa} {tn : Tn} {ops : Array Oper}
theorem JB : ∀ {l : List Oper} {i j : Nat} {o : Oper},l[j]? = some o→clsB P tn o ≠ 0→(B7 P tn i l).testBit (i + j) = true
  | [],i,j,o,h,_=>by simp at h
  | x :: l,i,0,o,h,hc=>by
    simp at h
    subst h
    simp only [B7]
    cases hb : Nat.beq (clsB P tn x) 0 with
    | true=>exact absurd (Nat.eq_of_beq_eq_true hb) hc
    | false=>simp only [cond_false,Nat.testBit_or,Nat.add_zero,Nat.testBit_two_pow_self]; rfl
  | x :: l,i,j + 1,o,h,hc=>by
    have:=JB (l:=l) (i:=i + 1) (j:=j) (by simpa using h) hc
    rw [show i + (j + 1) = i + 1 + j by omega]
    simp only [B7]
    cases Nat.beq (clsB P tn x) 0 with
    | true=>exact this
    | false=>simp only [cond_false,Nat.testBit_or,this,Bool.or_true]
theorem JC {x : Nat} : ∀ {l : List Oper} {i j : Nat} {o : Oper},l[j]? = some o→x ∈ Hr tn ops o→(Js tn ops x i l).testBit (i + j) = true
  | [],i,j,o,h,_=>by simp at h
  | y :: l,i,0,o,h,hc=>by
    simp at h
    subst h
    simp only [Js]
    rw [Ki.2 hc]
    simp only [cond_true,Nat.testBit_or,Nat.add_zero,Nat.testBit_two_pow_self]; rfl
  | y :: l,i,j + 1,o,h,hc=>by
    have:=JC (l:=l) (i:=i + 1) (j:=j) (by simpa using h) hc
    rw [show i + (j + 1) = i + 1 + j by omega]
    simp only [Js]
    cases memN x (Hr tn ops y) with
    | false=>exact this
    | true=>simp only [cond_true,Nat.testBit_or,this,Bool.or_true]
theorem Lk {bf : List Nat} : ∀ {l : List Oper} {i : Nat},X0 tn ops bf i l = true→∀ (j : Nat) (o : Oper),l[j]? = some o→∀ d,d ∈ Cw tn o→subM (Js tn ops d 0 ops.toList) (cmpM bf ops.size (i + j)) = true
  | [],i,h,j,o,hj=>by simp at hj
  | x :: l,i,h,0,o,hj=>by
    simp at hj
    subst hj
    intro d hd
    simp only [X0,Bool.and_eq_true] at h
    exact List.all_eq_true.1 h.1 d hd
  | x :: l,i,h,j + 1,o,hj=>by
    simp only [X0,Bool.and_eq_true] at h
    have:=Lk h.2 j o (by simpa using hj)
    rwa [show i + (j + 1) = i + 1 + j by omega]
theorem E7 {bf : List Nat} {n mm i : Nat} {o : Oper} : F4 P tn bf n mm i o = .pure ↔ clsB P tn o = 0:=by
  unfold F4
  split
  · rename_i h; simp [h]
  · rename_i c h
    constructor
    · intro h2
      cases h3 : subM mm (cmpM bf n i) with
      | true=>rw [h3] at h2; cases h2
      | false =>
        rw [h3] at h2
        simp only [cond_false] at h2
        cases h4 : Nat.beq (clsB P tn o) 2 with
        | true=>rw [h4] at h2; simp only [cond_true] at h2; split at h2 <;> cases h2
        | false=>rw [h4] at h2; cases h2
    · intro h2; exact absurd h2 h
theorem Tf {bf : List Nat} {n mm i : Nat} {o : Oper} (h : F4 P tn bf n mm i o = .own) : subM mm (cmpM bf n i) = true:=by
  unfold F4 at h
  split at h
  · cases h
  · cases h3 : subM mm (cmpM bf n i) with
    | true=>rfl
    | false =>
      rw [h3] at h
      simp only [cond_false] at h
      cases h4 : Nat.beq (clsB P tn o) 2 with
      | true=>rw [h4] at h; simp only [cond_true] at h; split at h <;> cases h
      | false=>rw [h4] at h; cases h
theorem Tg {o : Oper} (h : clsB P tn o ≠ 0) : locK tn o = .glob:=by
  unfold clsB at h
  split at h
  · assumption
  · exact absurd rfl h
theorem N7 {ol : List Oper} {bf : List Nat} {n mm : Nat} {T : Fr} {n0 i t : Nat} : ∀ {l : List Oper} {j0 j : Nat} {o : Oper},l[j]? = some o→(cmpM bf n i).testBit (j0 + j) = false→F4 P tn bf n mm (j0 + j) o = .store→Ix ol T n0 o = some t →
    t ∈ DD P tn ol bf n mm T n0 i j0 l
  | [],j0,j,o,hj=>by simp at hj
  | x :: l,j0,0,o,hj=>by
    simp at hj
    subst hj
    intro ho hm ht
    simp only [Nat.add_zero] at ho hm
    simp [DD,ho,hm,ht]
  | x :: l,j0,j + 1,o,hj=>by
    rw [show j0 + (j + 1) = j0 + 1 + j by omega]
    intro ho hm ht
    have:=N7 (l:=l) (j0:=j0 + 1) (j:=j) (by simpa using hj) ho hm ht
    simp only [DD]
    split
    · split
      · exact this
      · exact List.mem_append_right _ this
    · exact this
theorem ZcO {o : Oper} {j : Nat} (hk : locK tn o = .ptr j) : XY P o = 0:=by
  have noglob : FI tn o ≠ .ptr j:=by unfold FI; cases (o.op.operands.toList.all (Cr tn) && (dOf tn o).isNone) <;> simp
  have nocond : ∀ {b : Bool} {x : LK},x ≠ .ptr j→cond b x .bad = .ptr j→False:=by
    intro b x hx h
    cases b with
    | true=>exact hx h
    | false=>cases h
  obtain ⟨dst,op,type,pos,after,guard⟩:=o
  cases op <;> first | rfl | (exfalso; simp only [locK] at hk; first | exact noglob hk | (split at hk <;> first | exact noglob hk | exact nocond (by simp) hk | cases hk))
theorem VT {T T1 : Fr} {o : Oper} (hc : clsB P tn o = 0) {s s1 : St} (h : opB P call tn T o s (fun T s=>some (T,s)) = some (T1,s1)) : s1 = s∧∀ s',opB P call tn T o s' (fun T s=>some (T,s)) = some (T1,s'):=by
  have viaEval : ∀ (hcls : XY P o = 0) (h : Bv P call T o s (fun v s=>some (putT T o.dst v,s)) = some (T1,s1)),s1 = s∧∀ s',Bv P call T o s' (fun v s=>some (putT T o.dst v,s)) = some (T1,s'):=by
    intro hcls h
    rw [N4 hcls s s] at h
    simp only [Option.bind_eq_some_iff] at h
    obtain ⟨v,h1,h2⟩:=h
    cases h2
    exact ⟨rfl,fun s'=>by rw [N4 hcls s' s,h1]; rfl⟩
  unfold opB at h ⊢
  cases hk : locK tn o with
  | bad=>simp [hk] at h
  | glob =>
    simp only [hk] at h ⊢
    exact viaEval (by unfold clsB at hc; rw [hk] at hc; exact hc) h
  | ptr j =>
    simp only [hk] at h ⊢
    exact viaEval (ZcO hk) h
  | mk j =>
    simp only [hk] at h ⊢
    split at h
    · simp only [Option.bind_eq_some_iff] at h
      obtain ⟨z,hz,c,hc,h⟩:=h
      cases h
      exact ⟨rfl,fun s'=>by simp [hz,hc]⟩
    · simp only [Option.bind_eq_some_iff] at h
      obtain ⟨z,hz,c,hc,h⟩:=h
      cases h
      exact ⟨rfl,fun s'=>by simp [hz,hc]⟩
    · cases h
  | ld j =>
    simp only [hk] at h ⊢
    split at h
    · simp only [Option.bind_eq_some_iff] at h
      obtain ⟨a,ha,ag,hag,n,hn,v,hv,h⟩:=h
      cases h
      exact ⟨rfl,fun s'=>by simp [ha,hag,hn,hv]⟩
    · cases h
  | st j =>
    simp only [hk] at h ⊢
    split at h
    · simp only [Option.bind_eq_some_iff] at h
      obtain ⟨a,ha,x,hx,n,hn,c,hc,h⟩:=h
      cases h
      exact ⟨rfl,fun s'=>by simp [ha,hx,hn,hc]⟩
    · cases h
theorem Ll {β γ : Type} {v : Value} {w : Bool} {x y : Option β} (f : β→Option γ) : (Ai v w x y).bind f = Ai v w (x.bind f) (y.bind f):=by
  unfold Ai
  split
  · split <;> rfl
  · split <;> rfl
  · rfl
theorem Kl {T T1 : Fr} {o : Oper} (hc : clsB P tn o = 0) {s s1 : St} (h : oneB P call tn ops T o s = some (T1,s1)) : s1 = s∧∀ s',oneB P call tn ops T o s' = some (T1,s'):=by
  unfold oneB at h ⊢
  split at h
  · exact VT hc h
  · rename_i g hg
    simp only [Option.bind_eq_some_iff] at h
    obtain ⟨t,ht,h⟩:=h
    split at h
    case isFalse=>cases h
    rename_i hl
    rcases Ed h with ⟨hv,h⟩ | ⟨hv,h⟩
    · obtain ⟨rfl,h2⟩:=VT hc h
      exact ⟨rfl,fun s'=>by simp [ht,hl,hv,Ai,h2]⟩
    · cases h
      refine ⟨rfl,fun s'=>?_⟩
      rcases hv with hv | hv <;> simp [ht,hl,hv,Ai]
theorem Gv {T : Fr} {o : Oper} (hk : locK tn o = .glob) {s : St} : oneB P call tn ops T o s = (valB P call tn ops T o s).bind fun r=>some (putT T o.dst r.1,r.2):=by
  have key : opB P call tn T o s (fun T s=>some (T,s)) = (Bv P call T o s fun v s=>some (v,s)).bind fun r=>some (putT T o.dst r.1,r.2):=by
    unfold opB
    simp only [hk]
    rw [Cs]
  unfold oneB valB
  split
  · exact key
  · rename_i g hg
    cases Ea ops g with
    | none=>rfl
    | some t =>
      simp only [Option.bind_some]
      split
      · rw [Ll,key]; rfl
      · rfl
theorem WT {T T1 : Fr} {o : Oper} {s s1 : St} (h : oneB P call tn ops T o s = some (T1,s1)) {x : Nat} (hx : x ∉ Cw tn o) : T1 x = T x:=by
  unfold oneB at h
  split at h
  · exact Kg h hx
  · simp only [Option.bind_eq_some_iff] at h
    obtain ⟨t,ht,h⟩:=h
    split at h
    case isFalse=>cases h
    rcases Ed h with ⟨_,h⟩ | ⟨_,h⟩
    · exact Kg h hx
    · cases h
      exact Di fun hh=>hx (FX hh)
def Km (P : Program) (tn : Tn) (ops : Array Oper) (bf : List Nat) (mm : Nat) (T0 : Fr) (n0 i : Nat) (o : Oper) (b : Nat) : VM :=
  match F4 P tn bf ops.size mm i o with
  | .pure | .bad=>.dead
  | .own=>.see
  | .quiet=>if (DD P tn ops.toList bf ops.size mm T0 n0 i 0 ops.toList).contains b then .dead else .frz
  | .store=>if some b = Ix ops.toList T0 n0 o then .see else .dead
theorem QJ {bf : List Nat} {mm : Nat} {T0 : Fr} {n0 i : Nat} {o : Oper} {T T1 : Fr} {s s1 : St} (h : MB P call tn ops bf mm T0 n0 i o T s = some (T1,s1)) :
    ∃ Hv R,oneB P call tn ops T o ⟨Hv⟩ = some (T1,⟨R⟩)∧Hv.length = s.heap.length∧(∀ b,Hv[b]? = (s.heap[b]?).map (Gu (Km P tn ops bf mm T0 n0 i o b))) ∧
      (∀ b,b < s.heap.length→s1.heap[b]? = if Km P tn ops bf mm T0 n0 i o b = .see then R[b]? else s.heap[b]?)∧(∀ b,s.heap.length ≤ b→s1.heap[b]? = R[b]?)∧s.heap.length ≤ s1.heap.length:=by
  unfold MB at h
  unfold Km
  have hgl : F4 P tn bf ops.size mm i o ≠ .pure→locK tn o = .glob:=fun hne=>Tg fun hc=>hne (E7.2 hc)
  cases hm : F4 P tn bf ops.size mm i o with
  | pure =>
    simp only [hm] at h
    obtain ⟨rfl,h2⟩:=Kl (E7.1 hm) h
    refine ⟨s1.heap.map MA,s1.heap.map MA,h2 _,by simp,fun b=>by simp only [List.getElem?_map]; rfl,fun b hb=>by simp,fun b hb=>?_,Nat.le_refl _⟩
    rw [List.getElem?_eq_none (by simpa using hb),List.getElem?_eq_none (by simpa using hb)]
  | own =>
    simp only [hm,Option.bind_eq_some_iff] at h
    obtain ⟨⟨u,s2⟩,h1,q,h2,h3⟩:=h
    unfold ownR at h2
    split at h2
    case isFalse=>cases h2
    rename_i hle
    cases h2
    cases h3
    exact ⟨s.heap,s2.heap,by rw [Gv (hgl (by rw [hm]; simp)),h1]; rfl,rfl,fun b=>by cases s.heap[b]? <;> rfl,fun b hb=>by simp,fun b hb=>rfl,hle⟩
  | quiet =>
    simp only [hm,Option.bind_eq_some_iff] at h
    obtain ⟨⟨u,s2⟩,h1,h2⟩:=h
    cases h2
    refine ⟨_,s2.heap,by rw [Gv (hgl (by rw [hm]; simp)),h1]; rfl,Bk,fun b=>by rw [Kj,Nat.zero_add],fun b hb=>?_,fun b hb=>?_,by simp [Dp]⟩
    · simp only [Dp]
      rw [List.getElem?_append_left hb,if_neg]
      split <;> simp
    · simp only [Dp]
      rw [List.getElem?_append_right hb,List.getElem?_drop]
      congr 1
      omega
  | store =>
    simp only [hm,Option.bind_eq_some_iff] at h
    obtain ⟨t,ht,h⟩:=h
    split at h
    case isTrue=>cases h
    rename_i hk
    simp only [Option.bind_eq_some_iff] at h
    obtain ⟨⟨u,s2⟩,h1,x,hx,h2⟩:=h
    cases h2
    refine ⟨_,s2.heap,by rw [Gv (hgl (by rw [hm]; simp)),h1]; rfl,L8,fun b=>by rw [Te,Nat.zero_add,ht]; simp,fun b hb=>?_,fun b hb=>?_,by simp⟩
    · rw [List.getElem?_append_left (by simpa using hb),ht]
      by_cases hbt : b = t
      · subst hbt
        simp only [if_true,List.getElem?_set_self hb,hx]
      · rw [List.getElem?_set_ne (Ne.symm hbt)]
        simp [hbt]
    · rw [List.getElem?_append_right (by simpa using hb),List.getElem?_drop]
      simp only [List.length_set]
      congr 1
      omega
  | bad=>simp [hm] at h
theorem Ma {bf : List Nat} {mm : Nat} {T0 : Fr} {n0 : Nat} : ∀ {l : List Oper} {i : Nat} {T T' : Fr} {s s' : St},HQ P call tn ops bf mm T0 n0 i l T s = some (T',s') →
    ∃ (Tr : Nat→Fr) (Sr : Nat→St),Tr 0 = T∧Sr 0 = s∧Tr l.length = T'∧Sr l.length = s' ∧
      ∀ j o,l[j]? = some o→MB P call tn ops bf mm T0 n0 (i + j) o (Tr j) (Sr j) = some (Tr (j + 1),Sr (j + 1))
  | [],i,T,T',s,s',h=>by
    simp only [HQ,Option.some.injEq,Prod.mk.injEq] at h
    exact ⟨fun _=>T,fun _=>s,rfl,rfl,h.1,h.2,fun j o hj=>by simp at hj⟩
  | o :: l,i,T,T',s,s',h=>by
    simp only [HQ,Option.bind_eq_some_iff] at h
    obtain ⟨⟨T1,s1⟩,h1,h2⟩:=h
    obtain ⟨Tr,Sr,e1,e2,e3,e4,e5⟩:=Ma h2
    refine ⟨fun j=>match j with | 0=>T | j + 1=>Tr j,fun j=>match j with | 0=>s | j + 1=>Sr j,rfl,rfl,e3,e4,fun j q hj=>?_⟩
    cases j with
    | zero=>simp at hj; subst hj; simpa [e1,e2] using h1
    | succ j =>
      have:=e5 j q (by simpa using hj)
      simpa [Nat.add_assoc,Nat.add_comm 1 j] using this
end
structure DTrace (P : Program) (call : Aa) (tn : Tn) (ops : Array Oper) where
  Tr : Nat→Fr
  H : Nat→List Blk
  view : Nat→Nat→VM
  bef : Nat→Nat→Prop
  step : ∀ i o,ops[i]? = some o→∃ Hv R,oneB P call tn ops (Tr i) o ⟨Hv⟩ = some (Tr (i + 1),⟨R⟩)∧Hv.length = (H i).length∧(∀ b,Hv[b]? = ((H i)[b]?).map (Gu (view i b))) ∧
    (∀ b,b < (H i).length→(H (i + 1))[b]? = if view i b = .see then R[b]? else (H i)[b]?)∧(∀ b,(H i).length ≤ b→(H (i + 1))[b]? = R[b]?)∧(H i).length ≤ (H (i + 1)).length
  uni : ∀ i,(∀ b,view i b ≠ .see) ∨ (∀ b,view i b ≠ .frz)
  conf : ∀ i j,i < ops.size→j < ops.size→i ≠ j→¬ (bef i j ∨ bef j i)→∀ b,view i b = .see→view j b = .dead
  late : ∀ i j,i < ops.size→j < ops.size→i ≠ j→¬ (bef i j ∨ bef j i)→∀ b,view i b = .see→(H j).length ≤ b→b < (H (j + 1)).length→False
  tmp : ∀ i j oi oj,ops[i]? = some oi→ops[j]? = some oj→i ≠ j→¬ (bef i j ∨ bef j i)→∀ d,d ∈ Cw tn oi→d ∉ Hr tn ops oj
  lt : ∀ i j,j < ops.size→bef i j→i < j
  edge : ∀ j o,ops[j]? = some o→∀ e ∈ o.after,Region.binds .any e = true→e.on < j
  sel : ∀ (j : Nat) (o : Oper),ops[j]? = some o→∀ (cs : Array SelectCase) (b : Bool),o.op ≠ .select cs b
  reach : ∀ (D : Nat→Prop),(∀ j o,ops[j]? = some o→D j→∀ e ∈ o.after,Region.binds .any e = true→D e.on)→∀ j o,ops[j]? = some o→(∀ e ∈ o.after,Region.binds .any e = true→D e.on)→∀ i,bef i j→D i
theorem DTrace.of {P : Program} {call : Aa} {tn : Tn} {ops : Array Oper} (hd : Kb P tn ops = true) {T T' : Fr} {s s' : St} (h : HQ P call tn ops (BG [] ops.toList) (B7 P tn 0 ops.toList) T s.heap.length 0 ops.toList T s = some (T',s')) :
    ∃ t : DTrace P call tn ops,t.Tr 0 = T∧t.H 0 = s.heap∧t.Tr ops.size = T'∧t.H ops.size = s'.heap∧∀ i j,((BG [] ops.toList).getD j 0).testBit i = true→t.bef i j:=by
  simp only [Kb,Bool.and_eq_true] at hd
  obtain ⟨⟨_,hedges⟩,htmps⟩:=hd
  generalize hbf : BG [] ops.toList = bf at h htmps
  have hmem : ∀ {j : Nat} {o : Oper},ops[j]? = some o→clsB P tn o ≠ 0→(B7 P tn 0 ops.toList).testBit j = true:=fun ho hc=>by
    have:=JB (P:=P) (tn:=tn) (l:=ops.toList) (i:=0) (by simpa using ho) hc
    rwa [Nat.zero_add] at this
  generalize hmm : B7 P tn 0 ops.toList = mm at h hmem
  obtain ⟨Tr,Sr,e1,e2,e3,e4,e5⟩:=Ma h
  have hget : ∀ {j : Nat} {o : Oper},ops[j]? = some o→ops.toList[j]? = some o:=fun h=>by simpa using h
  have hget2 : ∀ {j : Nat},j < ops.size→∃ o,ops[j]? = some o:=fun h=>⟨ops[_],Array.getElem?_eq_getElem h⟩
  have hE : ∀ j o,ops[j]? = some o→∀ e ∈ o.after,Region.binds .any e = true→e.on < j:=fun j o ho e he hb=>by
    have:=(Fp hedges j o (hget ho)).1 e he hb
    omega
  have hbit : ∀ {j o t},ops[j]? = some o→(bf.getD j 0).testBit t = true→∃ e ∈ o.after,Region.binds .any e = true∧(t = e.on ∨ (bf.getD e.on 0).testBit t = true):=fun ho hb=>by
    subst hbf
    exact N6 (hget ho) (hE _ _ ho) hb
  have hno : ∀ {i j : Nat},i ≠ j→¬((bf.getD j 0).testBit i = true ∨ (bf.getD i 0).testBit j = true)→(cmpM bf ops.size i).testBit j = false:=by
    intro i j hne h
    cases hb : (cmpM bf ops.size i).testBit j with
    | false=>rfl
    | true =>
      rcases VS hb with h1 | h1 | h1
      · exact absurd (.inr h1) h
      · exact absurd h1.symm hne
      · exact absurd (.inl h1) h
  have notown : ∀ {i j oi oj},ops[i]? = some oi→ops[j]? = some oj→(cmpM bf ops.size i).testBit j = false→F4 P tn bf ops.size mm i oi = .own→clsB P tn oj = 0:=by
    intro i j oi oj hoi hoj hno hm
    by_cases hc : clsB P tn oj = 0
    · exact hc
    · have:=Nw (Tf hm) (hmem hoj hc)
      rw [hno] at this
      cases this
  have e5' : ∀ j o,ops[j]? = some o→MB P call tn ops bf mm T s.heap.length j o (Tr j) (Sr j) = some (Tr (j + 1),Sr (j + 1)):=fun j o ho=>by
    have:=e5 j o (hget ho)
    rwa [Nat.zero_add] at this
  refine ⟨{ Tr := Tr,H := fun i => (Sr i).heap,view := fun i b => match ops[i]? with | some o => Km P tn ops bf mm T s.heap.length i o b | none => .dead,
            bef:=fun i j=>(bf.getD j 0).testBit i = true,step:=?_,uni:=?_,conf:=?_,late:=?_,tmp:=?_,lt:=?_,edge:=hE,sel:=?_,reach:=?_ },e1,by simp [e2],by simpa using e3,by simpa using congrArg St.heap e4,fun i j hb=>hb⟩
  · intro i o ho
    obtain ⟨Hv,R,g1,g2,g3,g4,g5,g6⟩:=QJ (e5' i o ho)
    simp only [ho]
    exact ⟨Hv,R,g1,g2,g3,g4,g5,g6⟩
  · intro i
    cases ho : ops[i]? with
    | none=>exact .inl fun b=>by simp
    | some o =>
      simp only
      unfold Km
      cases F4 P tn bf ops.size mm i o with
      | pure=>exact .inl fun b=>by simp
      | bad=>exact .inl fun b=>by simp
      | own=>exact .inr fun b=>by simp
      | quiet=>exact .inl fun b=>by simp only; split <;> simp
      | store=>exact .inr fun b=>by simp only; split <;> simp
  · intro i j hi hj hne hno' b
    have hnoij:=hno hne hno'
    have hnoji:=hno (Ne.symm hne) (fun h=>hno' h.symm)
    obtain ⟨oi,hoi⟩:=hget2 hi
    obtain ⟨oj,hoj⟩:=hget2 hj
    simp only [hoi,hoj]
    intro hv
    unfold Km at hv
    cases hmi : F4 P tn bf ops.size mm i oi with
    | pure=>simp [hmi] at hv
    | bad=>simp [hmi] at hv
    | quiet=>simp only [hmi] at hv; split at hv <;> cases hv
    | own =>
      have:=E7 (bf:=bf) (n:=ops.size) (mm:=mm) (i:=j).2 (notown hoi hoj hnoij hmi)
      unfold Km
      simp [this]
    | store =>
      simp only [hmi] at hv
      split at hv
      case isFalse=>cases hv
      rename_i hb
      have hk : b ∈ DD P tn ops.toList bf ops.size mm T s.heap.length j 0 ops.toList:=N7 (j:=i) (hget hoi) (by rw [Nat.zero_add]; exact hnoji) (by rw [Nat.zero_add]; exact hmi) hb.symm
      unfold Km
      cases hmj : F4 P tn bf ops.size mm j oj with
      | pure=>rfl
      | bad=>rfl
      | own =>
        have h0:=notown hoj hoi hnoji hmj
        rw [E7.2 h0] at hmi
        cases hmi
      | quiet=>simp [hk]
      | store =>
        simp only
        rw [if_neg]
        intro hb2
        have h1:=e5' j oj hoj
        unfold MB at h1
        simp only [hmj,← hb2,Option.bind_some] at h1
        rw [if_pos (by simpa using hk)] at h1
        cases h1
  · intro i j hi hj hne hno' b hv hb1 hb2
    have hnoij:=hno hne hno'
    obtain ⟨oi,hoi⟩:=hget2 hi
    obtain ⟨oj,hoj⟩:=hget2 hj
    simp only [hoi] at hv
    have h1:=e5' j oj hoj
    unfold Km at hv
    cases hmi : F4 P tn bf ops.size mm i oi with
    | pure=>simp [hmi] at hv
    | bad=>simp [hmi] at hv
    | quiet=>simp only [hmi] at hv; split at hv <;> cases hv
    | own =>
      have hcj:=notown hoi hoj hnoij hmi
      unfold MB at h1
      simp only [E7.2 hcj] at h1
      have:=(Kl hcj h1).1
      rw [this] at hb2
      omega
    | store =>
      simp only [hmi] at hv
      split at hv
      case isFalse=>cases hv
      rename_i hb
      have hlt : b < s.heap.length:=by
        have:=hb.symm
        unfold Ix at this
        split at this
        · simp only [Option.bind_eq_some_iff] at this
          obtain ⟨x,_,h3⟩:=this
          split at h3
          · split at h3
            · cases h3; assumption
            · cases h3
          · cases h3
        · cases this
      have hmono : ∀ k,k ≤ ops.size→(Sr 0).heap.length ≤ (Sr k).heap.length:=by
        intro k
        induction k with
        | zero=>intro _; exact Nat.le_refl _
        | succ k ih =>
          intro hk
          obtain ⟨ok,hok⟩:=hget2 (j:=k) (by omega)
          obtain ⟨_,_,_,_,_,_,_,g6⟩:=QJ (e5' k ok hok)
          have:=ih (by omega)
          omega
      have:=hmono j (by omega)
      rw [e2] at this
      omega
  · intro i j oi oj hoi hoj hne hno' d hd hdj
    have h1:=Lk htmps i oi (hget hoi) d hd
    rw [Nat.zero_add] at h1
    have h2:=JC (tn:=tn) (ops:=ops) (l:=ops.toList) (i:=0) (hget hoj) hdj
    rw [Nat.zero_add] at h2
    have:=Nw h1 h2
    rw [hno hne hno'] at this
    cases this
  · intro i j hj
    induction j using Nat.strongRecOn with
    | _ j ih =>
      intro hb
      obtain ⟨o,ho⟩:=hget2 hj
      obtain ⟨e,he,hbd,h1⟩:=hbit ho hb
      have hlt:=hE j o ho e he hbd
      rcases h1 with rfl | h1
      · exact hlt
      · have:=ih e.on hlt (by omega) h1
        omega
  · intro j o ho
    exact (Fp hedges j o (hget ho)).2
  · intro D hD j
    induction j using Nat.strongRecOn with
    | _ j ih =>
      intro o ho hall i hb
      obtain ⟨e,he,hbd,h1⟩:=hbit ho hb
      rcases h1 with rfl | h1
      · exact hall e he hbd
      · have hlt:=hE j o ho e he hbd
        have hsz : j < ops.size:=(Array.getElem?_eq_some_iff.1 ho).1
        obtain ⟨o2,ho2⟩:=hget2 (j:=e.on) (by omega)
        exact ih e.on hlt o2 ho2 (hD e.on o2 ho2 (hall e he hbd)) i h1
theorem HZ {B : List Nat} : ∀ {l : List Blk} {i b : Nat},(Er B i l)[b]? = (l[b]?).map (Gu (if B.contains (i + b) then .see else .dead))
  | [],_,_=>by simp [Er]
  | x :: l,i,0=>by
    simp only [Er,List.getElem?_cons_zero,Nat.add_zero,Option.map_some]
    split <;> rfl
  | x :: l,i,b + 1=>by
    simp only [Er,List.getElem?_cons_succ]
    rw [HZ,show i + 1 + b = i + (b + 1) by omega]
theorem BZ {B : List Nat} : ∀ {l : List Blk} {i : Nat},(Er B i l).length = l.length
  | [],_=>rfl
  | _ :: l,i=>by simp [Er,BZ (l:=l)]
theorem E8 {B : List Nat} {R : List Blk} : ∀ {l : List Blk} {i b : Nat},(FT B R i l)[b]? = (l[b]?).map fun x=>if B.contains (i + b) then (R[i + b]?).getD x else x
  | [],_,_=>by simp [FT]
  | x :: l,i,0=>by simp [FT]
  | x :: l,i,b + 1=>by
    simp only [FT,List.getElem?_cons_succ]
    rw [E8,show i + 1 + b = i + (b + 1) by omega]
theorem AY {B : List Nat} {R : List Blk} : ∀ {l : List Blk} {i : Nat},(FT B R i l).length = l.length
  | [],_=>rfl
  | _ :: l,i=>by simp [FT,AY (l:=l)]
section
variable {P : Program} {call : Aa} {tn : Tn} {ops : Array Oper}
theorem Ee {bf : List Nat} {n mm i : Nat} {o : Oper} : EH P tn bf n mm i o = .pure ↔ clsB P tn o = 0:=by
  rw [← E7 (bf:=bf) (n:=n) (mm:=mm) (i:=i)]
  unfold EH
  cases F4 P tn bf n mm i o with
  | quiet=>simp only; split <;> simp
  | _=>simp
theorem Yg {bf : List Nat} {n mm i : Nat} {o : Oper} (h : EH P tn bf n mm i o = .own) : subM mm (cmpM bf n i) = true:=by
  refine Tf (P:=P) (tn:=tn) (o:=o) ?_
  unfold EH at h
  cases hm : F4 P tn bf n mm i o with
  | quiet=>rw [hm] at h; simp only at h; split at h <;> cases h
  | own=>rfl
  | _=>rw [hm] at h; cases h
theorem Lm {bf : List Nat} {n mm : Nat} {T1 : Fr} {i b : Nat} : ∀ {l : List Oper} {j0 j : Nat} {o : Oper},l[j]? = some o→(cmpM bf n i).testBit (j0 + j) = false→EH P tn bf n mm (j0 + j) o = .bad→b ∈ appT P T1 o→b ∈ Eb P tn bf n mm T1 i j0 l
  | [],_,_,_,h,_,_,_=>by simp at h
  | x :: l,j0,0,o,h,hc,hm,hb=>by
    simp only [List.getElem?_cons_zero,Option.some.injEq] at h
    subst h
    rw [Nat.add_zero] at hc hm
    simp only [Eb,hm,hc,Bool.false_eq_true,if_false]
    exact List.mem_append_left _ hb
  | x :: l,j0,j + 1,o,h,hc,hm,hb=>by
    have ih:=Lm (l:=l) (j0:=j0 + 1) (j:=j) (by simpa using h) (by rw [show j0 + 1 + j = j0 + (j + 1) by omega]; exact hc) (by rw [show j0 + 1 + j = j0 + (j + 1) by omega]; exact hm) hb
    simp only [Eb]
    split
    · split
      · exact ih
      · exact List.mem_append_right _ ih
    · exact ih
def Rz (P : Program) (tn : Tn) (ops : Array Oper) (bf : List Nat) (mm : Nat) (T1 : Fr) (i : Nat) (o : Oper) (b : Nat) : VM :=
  match EH P tn bf ops.size mm i o with
  | .pure | .store=>.dead
  | .own=>.see
  | .quiet=>if (Eb P tn bf ops.size mm T1 i 0 ops.toList).contains b then .dead else .frz
  | .bad=>if (appT P T1 o).contains b then .see else .dead
theorem WU {bf : List Nat} {mm : Nat} {T1 : Fr} {i : Nat} {o : Oper} {T T2 : Fr} {s s1 : St} (h : Jt P call tn ops bf mm T1 i o T s = some (T2,s1)) :
    ∃ Hv R,oneB P call tn ops T o ⟨Hv⟩ = some (T2,⟨R⟩)∧Hv.length = s.heap.length∧(∀ b,Hv[b]? = (s.heap[b]?).map (Gu (Rz P tn ops bf mm T1 i o b))) ∧
      (∀ b,b < s.heap.length→s1.heap[b]? = if Rz P tn ops bf mm T1 i o b = .see then R[b]? else s.heap[b]?)∧(∀ b,s.heap.length ≤ b→s1.heap[b]? = R[b]?)∧s.heap.length ≤ s1.heap.length:=by
  unfold Jt at h
  unfold Rz
  have hgl : EH P tn bf ops.size mm i o ≠ .pure→locK tn o = .glob:=fun hne=>Tg fun hc=>hne (Ee.2 hc)
  cases hm : EH P tn bf ops.size mm i o with
  | pure =>
    simp only [hm] at h
    obtain ⟨rfl,h2⟩:=Kl (Ee.1 hm) h
    refine ⟨s1.heap.map MA,s1.heap.map MA,h2 _,by simp,fun b=>by simp only [List.getElem?_map]; rfl,fun b hb=>by simp,fun b hb=>?_,Nat.le_refl _⟩
    rw [List.getElem?_eq_none (by simpa using hb),List.getElem?_eq_none (by simpa using hb)]
  | own =>
    simp only [hm,Option.bind_eq_some_iff] at h
    obtain ⟨⟨u,s2⟩,h1,q,h2,h3⟩:=h
    unfold ownR at h2
    split at h2
    case isFalse=>cases h2
    rename_i hle
    cases h2
    cases h3
    exact ⟨s.heap,s2.heap,by rw [Gv (hgl (by rw [hm]; simp)),h1]; rfl,rfl,fun b=>by cases s.heap[b]? <;> rfl,fun b hb=>by simp,fun b hb=>rfl,hle⟩
  | quiet =>
    simp only [hm,Option.bind_eq_some_iff] at h
    obtain ⟨⟨u,s2⟩,h1,q,h2,h3⟩:=h
    unfold Bz at h2
    split at h2
    case isFalse=>cases h2
    cases h2
    cases h3
    refine ⟨_,s2.heap,by rw [Gv (hgl (by rw [hm]; simp)),h1]; rfl,Bk,fun b=>by rw [Kj,Nat.zero_add],fun b hb=>?_,fun b hb=>?_,by simp [Dp]⟩
    · simp only [Dp]
      rw [List.getElem?_append_left hb,if_neg]
      split <;> simp
    · simp only [Dp]
      rw [List.getElem?_append_right hb,List.getElem?_drop]
      congr 1
      omega
  | store=>simp [hm] at h
  | bad =>
    simp only [hm] at h
    split at h
    case isFalse=>cases h
    simp only [Option.bind_eq_some_iff] at h
    obtain ⟨⟨u,s2⟩,h1,q,h2,h3⟩:=h
    unfold appR at h2
    split at h2
    case isFalse=>cases h2
    rename_i hc
    simp only [Bool.and_eq_true,Nat.ble_eq] at hc
    cases h2
    cases h3
    refine ⟨_,s2.heap,by rw [Gv (hgl (by rw [hm]; simp)),h1]; rfl,BZ,fun b=>by rw [HZ,Nat.zero_add],fun b hb=>?_,fun b hb=>?_,by simp [AY]⟩
    · rw [List.getElem?_append_left (by rw [AY]; exact hb),E8,Nat.zero_add]
      have hb2 : b < s2.heap.length:=Nat.lt_of_lt_of_le hb hc.1.2
      rw [List.getElem?_eq_getElem hb,List.getElem?_eq_getElem hb2]
      simp only [Option.map_some,Option.getD_some]
      cases (appT P T1 o).contains b <;> simp
    · rw [List.getElem?_append_right (by rw [AY]; exact hb),AY,List.getElem?_drop]
      congr 1
      omega
theorem Yh {bf : List Nat} {mm : Nat} {T1 : Fr} {i : Nat} {o : Oper} {T T2 : Fr} {s s1 : St} (h : Jt P call tn ops bf mm T1 i o T s = some (T2,s1)) (hno : clsB P tn o ≠ 0) (hno2 : EH P tn bf ops.size mm i o ≠ .own) :
    ∀ b ∈ Eb P tn bf ops.size mm T1 i 0 ops.toList,s.heap.length ≤ b→b < s1.heap.length→False:=by
  unfold Jt at h
  intro b hb h1 h2
  have key : ∀ {m : Nat},Hs (Eb P tn bf ops.size mm T1 i 0 ops.toList) s.heap.length m = true→m ≤ b:=fun hh=>by
    unfold Hs at hh
    have:=List.all_eq_true.1 hh b hb
    simp at this
    omega
  cases hm : EH P tn bf ops.size mm i o with
  | pure=>exact hno (Ee.1 hm)
  | own=>exact hno2 hm
  | quiet =>
    simp only [hm,Option.bind_eq_some_iff] at h
    obtain ⟨⟨u,s2⟩,_,q,g2,h3⟩:=h
    unfold Bz at g2
    split at g2
    case isFalse=>cases g2
    rename_i hc
    cases g2
    cases h3
    have hk : s2.heap.length ≤ b:=key hc
    simp only [Dp,List.length_append,List.length_drop] at h2
    omega
  | store=>simp [hm] at h
  | bad =>
    simp only [hm] at h
    split at h
    case isFalse=>cases h
    simp only [Option.bind_eq_some_iff] at h
    obtain ⟨⟨u,s2⟩,_,q,g2,h3⟩:=h
    unfold appR at g2
    split at g2
    case isFalse=>cases g2
    rename_i hc
    simp only [Bool.and_eq_true,Nat.ble_eq] at hc
    cases g2
    cases h3
    have hk : s2.heap.length ≤ b:=key hc.2
    simp only [List.length_append,AY,List.length_drop] at h2
    omega
theorem UI {bf : List Nat} {mm : Nat} {T1 : Fr} {i : Nat} {o : Oper} {T T2 : Fr} {s s1 : St} (h : Jt P call tn ops bf mm T1 i o T s = some (T2,s1)) (hm : EH P tn bf ops.size mm i o = .bad) :
    ∀ b ∈ appT P T1 o,b ∉ Eb P tn bf ops.size mm T1 i 0 ops.toList:=by
  unfold Jt at h
  simp only [hm] at h
  split at h
  case isFalse=>cases h
  simp only [Option.bind_eq_some_iff] at h
  obtain ⟨⟨u,s2⟩,_,q,g2,h3⟩:=h
  unfold appR at g2
  split at g2
  case isFalse=>cases g2
  rename_i hc
  simp only [Bool.and_eq_true] at hc
  intro b hb
  have:=List.all_eq_true.1 hc.1.1 b hb
  simpa using this
theorem Mb {bf : List Nat} {mm : Nat} {T1 : Fr} : ∀ {l : List Oper} {i : Nat} {T T' : Fr} {s s' : St},HR P call tn ops bf mm T1 i l T s = some (T',s') →
    ∃ (Tr : Nat→Fr) (Sr : Nat→St),Tr 0 = T∧Sr 0 = s∧Tr l.length = T'∧Sr l.length = s' ∧
      ∀ j o,l[j]? = some o→Jt P call tn ops bf mm T1 (i + j) o (Tr j) (Sr j) = some (Tr (j + 1),Sr (j + 1))
  | [],i,T,T',s,s',h=>by
    simp only [HR,Option.some.injEq,Prod.mk.injEq] at h
    exact ⟨fun _=>T,fun _=>s,rfl,rfl,h.1,h.2,fun j o hj=>by simp at hj⟩
  | o :: l,i,T,T',s,s',h=>by
    simp only [HR,Option.bind_eq_some_iff] at h
    obtain ⟨⟨T2,s1⟩,h1,h2⟩:=h
    obtain ⟨Tr,Sr,e1,e2,e3,e4,e5⟩:=Mb h2
    refine ⟨fun j=>match j with | 0=>T | j + 1=>Tr j,fun j=>match j with | 0=>s | j + 1=>Sr j,rfl,rfl,e3,e4,fun j q hj=>?_⟩
    cases j with
    | zero=>simp at hj; subst hj; simpa [e1,e2] using h1
    | succ j =>
      have:=e5 j q (by simpa using hj)
      simpa [Nat.add_assoc,Nat.add_comm 1 j] using this
end
theorem DTrace.ofA {P : Program} {call : Aa} {tn : Tn} {ops : Array Oper} (hd : Kb P tn ops = true) {T T' T1 : Fr} {s s' : St} (h : HR P call tn ops (BG [] ops.toList) (B7 P tn 0 ops.toList) T1 0 ops.toList T s = some (T',s')) :
    ∃ t : DTrace P call tn ops,t.Tr 0 = T∧t.H 0 = s.heap∧t.Tr ops.size = T'∧t.H ops.size = s'.heap:=by
  simp only [Kb,Bool.and_eq_true] at hd
  obtain ⟨⟨_,hedges⟩,htmps⟩:=hd
  generalize hbf : BG [] ops.toList = bf at h htmps
  have hmem : ∀ {j : Nat} {o : Oper},ops[j]? = some o→clsB P tn o ≠ 0→(B7 P tn 0 ops.toList).testBit j = true:=fun ho hc=>by
    have:=JB (P:=P) (tn:=tn) (l:=ops.toList) (i:=0) (by simpa using ho) hc
    rwa [Nat.zero_add] at this
  generalize hmm : B7 P tn 0 ops.toList = mm at h hmem
  obtain ⟨Tr,Sr,e1,e2,e3,e4,e5⟩:=Mb h
  have hget : ∀ {j : Nat} {o : Oper},ops[j]? = some o→ops.toList[j]? = some o:=fun h=>by simpa using h
  have hget2 : ∀ {j : Nat},j < ops.size→∃ o,ops[j]? = some o:=fun h=>⟨ops[_],Array.getElem?_eq_getElem h⟩
  have hE : ∀ j o,ops[j]? = some o→∀ e ∈ o.after,Region.binds .any e = true→e.on < j:=fun j o ho e he hb=>by
    have:=(Fp hedges j o (hget ho)).1 e he hb
    omega
  have hbit : ∀ {j o t},ops[j]? = some o→(bf.getD j 0).testBit t = true→∃ e ∈ o.after,Region.binds .any e = true∧(t = e.on ∨ (bf.getD e.on 0).testBit t = true):=fun ho hb=>by
    subst hbf
    exact N6 (hget ho) (hE _ _ ho) hb
  have hno : ∀ {i j : Nat},i ≠ j→¬((bf.getD j 0).testBit i = true ∨ (bf.getD i 0).testBit j = true)→(cmpM bf ops.size i).testBit j = false:=by
    intro i j hne h
    cases hb : (cmpM bf ops.size i).testBit j with
    | false=>rfl
    | true =>
      rcases VS hb with h1 | h1 | h1
      · exact absurd (.inr h1) h
      · exact absurd h1.symm hne
      · exact absurd (.inl h1) h
  have notown : ∀ {i j oi oj},ops[i]? = some oi→ops[j]? = some oj→(cmpM bf ops.size i).testBit j = false→EH P tn bf ops.size mm i oi = .own→clsB P tn oj = 0:=by
    intro i j oi oj hoi hoj hno hm
    by_cases hc : clsB P tn oj = 0
    · exact hc
    · have:=Nw (Yg hm) (hmem hoj hc)
      rw [hno] at this
      cases this
  have e5' : ∀ j o,ops[j]? = some o→Jt P call tn ops bf mm T1 j o (Tr j) (Sr j) = some (Tr (j + 1),Sr (j + 1)):=fun j o ho=>by
    have:=e5 j o (hget ho)
    rwa [Nat.zero_add] at this
  refine ⟨{ Tr := Tr,H := fun i => (Sr i).heap,view := fun i b => match ops[i]? with | some o => Rz P tn ops bf mm T1 i o b | none => .dead,
            bef:=fun i j=>(bf.getD j 0).testBit i = true,step:=?_,uni:=?_,conf:=?_,late:=?_,tmp:=?_,lt:=?_,edge:=hE,sel:=?_,reach:=?_ },e1,by simp [e2],by simpa using e3,by simpa using congrArg St.heap e4⟩
  · intro i o ho
    obtain ⟨Hv,R,g1,g2,g3,g4,g5,g6⟩:=WU (e5' i o ho)
    simp only [ho]
    exact ⟨Hv,R,g1,g2,g3,g4,g5,g6⟩
  · intro i
    cases ho : ops[i]? with
    | none=>exact .inl fun b=>by simp
    | some o =>
      simp only
      unfold Rz
      cases EH P tn bf ops.size mm i o with
      | pure=>exact .inl fun b=>by simp
      | store=>exact .inl fun b=>by simp
      | own=>exact .inr fun b=>by simp
      | quiet=>exact .inl fun b=>by simp only; split <;> simp
      | bad=>exact .inr fun b=>by simp only; split <;> simp
  · intro i j hi hj hne hno' b
    have hnoij:=hno hne hno'
    have hnoji:=hno (Ne.symm hne) (fun h=>hno' h.symm)
    obtain ⟨oi,hoi⟩:=hget2 hi
    obtain ⟨oj,hoj⟩:=hget2 hj
    simp only [hoi,hoj]
    intro hv
    unfold Rz at hv
    cases hmi : EH P tn bf ops.size mm i oi with
    | pure=>simp [hmi] at hv
    | store=>simp [hmi] at hv
    | quiet=>simp only [hmi] at hv; split at hv <;> cases hv
    | own =>
      have:=Ee (bf:=bf) (n:=ops.size) (mm:=mm) (i:=j).2 (notown hoi hoj hnoij hmi)
      unfold Rz
      simp [this]
    | bad =>
      simp only [hmi] at hv
      split at hv
      case isFalse=>cases hv
      rename_i hb
      have hk : b ∈ Eb P tn bf ops.size mm T1 j 0 ops.toList:=Lm (j:=i) (hget hoi) (by rw [Nat.zero_add]; exact hnoji) (by rw [Nat.zero_add]; exact hmi) (by simpa using hb)
      unfold Rz
      cases hmj : EH P tn bf ops.size mm j oj with
      | pure=>rfl
      | store=>rfl
      | own =>
        have h0:=notown hoj hoi hnoji hmj
        rw [Ee.2 h0] at hmi
        cases hmi
      | quiet=>simp [hk]
      | bad =>
        simp only
        rw [if_neg]
        intro hb2
        exact UI (e5' j oj hoj) hmj b (by simpa using hb2) hk
  · intro i j hi hj hne hno' b hv hb1 hb2
    have hnoij:=hno hne hno'
    have hnoji:=hno (Ne.symm hne) (fun h=>hno' h.symm)
    obtain ⟨oi,hoi⟩:=hget2 hi
    obtain ⟨oj,hoj⟩:=hget2 hj
    simp only [hoi] at hv
    have h1:=e5' j oj hoj
    unfold Rz at hv
    have pureNo : clsB P tn oj = 0→False:=fun hcj=>by
      unfold Jt at h1
      simp only [Ee.2 hcj] at h1
      have:=(Kl hcj h1).1
      rw [this] at hb2
      omega
    cases hmi : EH P tn bf ops.size mm i oi with
    | pure=>simp [hmi] at hv
    | store=>simp [hmi] at hv
    | quiet=>simp only [hmi] at hv; split at hv <;> cases hv
    | own=>exact pureNo (notown hoi hoj hnoij hmi)
    | bad =>
      simp only [hmi] at hv
      split at hv
      case isFalse=>cases hv
      rename_i hb
      have hk : b ∈ Eb P tn bf ops.size mm T1 j 0 ops.toList:=Lm (j:=i) (hget hoi) (by rw [Nat.zero_add]; exact hnoji) (by rw [Nat.zero_add]; exact hmi) (by simpa using hb)
      by_cases hcj : clsB P tn oj = 0
      · exact pureNo hcj
      · by_cases hmj : EH P tn bf ops.size mm j oj = .own
        · have h0:=notown hoj hoi hnoji hmj
          rw [Ee.2 h0] at hmi
          cases hmi
        · exact Yh h1 hcj hmj b hk hb1 hb2
  · intro i j oi oj hoi hoj hne hno' d hd hdj
    have h1:=Lk htmps i oi (hget hoi) d hd
    rw [Nat.zero_add] at h1
    have h2:=JC (tn:=tn) (ops:=ops) (l:=ops.toList) (i:=0) (hget hoj) hdj
    rw [Nat.zero_add] at h2
    have:=Nw h1 h2
    rw [hno hne hno'] at this
    cases this
  · intro i j hj
    induction j using Nat.strongRecOn with
    | _ j ih =>
      intro hb
      obtain ⟨o,ho⟩:=hget2 hj
      obtain ⟨e,he,hbd,h1⟩:=hbit ho hb
      have hlt:=hE j o ho e he hbd
      rcases h1 with rfl | h1
      · exact hlt
      · have:=ih e.on hlt (by omega) h1
        omega
  · intro j o ho
    exact (Fp hedges j o (hget ho)).2
  · intro D hD j
    induction j using Nat.strongRecOn with
    | _ j ih =>
      intro o ho hall i hb
      obtain ⟨e,he,hbd,h1⟩:=hbit ho hb
      rcases h1 with rfl | h1
      · exact hall e he hbd
      · have hlt:=hE j o ho e he hbd
        have hsz : j < ops.size:=(Array.getElem?_eq_some_iff.1 ho).1
        obtain ⟨o2,ho2⟩:=hget2 (j:=e.on) (by omega)
        exact ih e.on hlt o2 ho2 (hD e.on o2 ho2 (hall e he hbd)) i h1
end Go.Proofs.YtmbhnbladmpnoaaGreat.Ab

/- Regions whose order is open: what holds when some operations have run. -/
namespace Go.Proofs.YtmbhnbladmpnoaaGreat.Ab
open Go
open Classical in
noncomputable def last (p : Nat→Prop) : Nat→Nat
  | 0=>0
  | k + 1=>if p k then k + 1 else last p k
theorem N8 (p : Nat→Prop) : ∀ n,last p n ≤ n
  | 0=>Nat.le_refl _
  | k + 1=>by
    unfold last
    split
    · exact Nat.le_refl _
    · exact Nat.le_succ_of_le (N8 p k)
theorem N9 {p : Nat→Prop} : ∀ {n k : Nat},last p n ≤ k→k < n→¬ p k
  | 0,k,_,h=>absurd h (by omega)
  | n + 1,k,h,hk=>by
    unfold last at h
    split at h
    · omega
    · rename_i hp
      by_cases hkn : k = n
      · exact hkn ▸ hp
      · exact N9 h (by omega)
theorem UJ {p : Nat→Prop} : ∀ {n k : Nat},last p n = k + 1→p k
  | 0,k,h=>by simp [last] at h
  | n + 1,k,h=>by
    unfold last at h
    split at h
    · rename_i hp; cases h; exact hp
    · exact UJ h
theorem Yi {p : Nat→Prop} {n k : Nat} (hk : k < n) (hp : p k) (hno : ∀ i,k < i→i < n→¬ p i) : last p n = k + 1:=by
  induction n with
  | zero=>omega
  | succ n ih =>
    unfold last
    by_cases hkn : k = n
    · subst hkn; rw [if_pos hp]
    · rw [if_neg (hno n (by omega) (by omega))]
      exact ih (by omega) fun i h1 h2=>hno i h1 (by omega)
theorem QK {p q : Nat→Prop} {n : Nat} (h : ∀ k,k < n→(p k ↔ q k)) : last p n = last q n:=by
  induction n with
  | zero=>rfl
  | succ n ih =>
    unfold last
    rw [ih fun k hk=>h k (by omega)]
    by_cases hp : p n
    · rw [if_pos hp,if_pos ((h n (by omega)).1 hp)]
    · rw [if_neg hp,if_neg fun hq=>hp ((h n (by omega)).2 hq)]
def Emb.cut (ι : Emb) (n : Nat) : Emb:=fun b=>if b < n then ι b else none
theorem Emb.cut_some {ι : Emb} {n b : Nat} {x : Loc} : ι.cut n b = some x ↔ b < n∧ι b = some x:=by
  unfold Emb.cut
  split <;> simp [*]
theorem Emb.cut_le (ι : Emb) (n : Nat) : (ι.cut n).le ι:=fun _ _ h=>(Emb.cut_some.1 h).2
theorem Emb.cut_mono {ι κ : Emb} {n m : Nat} (h : ι.le κ) (hn : n ≤ m) : (ι.cut n).le (κ.cut m):=fun b x e=>by
  obtain ⟨h1,h2⟩:=Emb.cut_some.1 e
  exact Emb.cut_some.2 ⟨by omega,h b x h2⟩
namespace DTrace
variable {P : Program} {call : Aa} {tn : Tn} {ops : Array Oper} (t : DTrace P call tn ops)
def L (i : Nat) : Nat:=(t.H i).length
def wr (k b : Nat) : Prop:=(b < t.L k∧t.view k b = .see) ∨ (t.L k ≤ b∧b < t.L (k + 1))
def sets (_ : DTrace P call tn ops) (k x : Nat) : Prop:=∃ o,ops[k]? = some o∧x ∈ Cw tn o
noncomputable def ver (D : Nat→Prop) (b : Nat) : Nat:=last (fun k=>D k∧t.wr k b) ops.size
noncomputable def verT (D : Nat→Prop) (x : Nat) : Nat:=last (fun k=>D k∧t.sets k x) ops.size
noncomputable def HD (D : Nat→Prop) (b : Nat) : Option Blk:=(t.H (t.ver D b))[b]?
def cre (D : Nat→Prop) (b : Nat) : Prop:=b < t.L 0 ∨ ∃ k,k < ops.size∧D k∧t.L k ≤ b∧b < t.L (k + 1)
theorem get {k : Nat} (h : k < ops.size) : ∃ o,ops[k]? = some o:=⟨ops[k],Array.getElem?_eq_getElem h⟩
theorem L_succ {k : Nat} (h : k < ops.size) : t.L k ≤ t.L (k + 1):=by
  obtain ⟨o,ho⟩:=get h
  obtain ⟨_,_,_,_,_,_,_,h6⟩:=t.step k o ho
  exact h6
theorem L_mono {i j : Nat} (h : i ≤ j) (hj : j ≤ ops.size) : t.L i ≤ t.L j:=by
  induction j with
  | zero=>rw [Nat.le_zero.1 h]; exact Nat.le_refl _
  | succ j ih =>
    by_cases he : i = j + 1
    · rw [he]; exact Nat.le_refl _
    · exact Nat.le_trans (ih (by omega) (by omega)) (t.L_succ (by omega))
theorem frame1 {k b : Nat} (h : k < ops.size) (hn : ¬ t.wr k b) : (t.H (k + 1))[b]? = (t.H k)[b]?:=by
  obtain ⟨o,ho⟩:=get h
  obtain ⟨_,R,_,_,_,h4,h5,h6⟩:=t.step k o ho
  by_cases hb : b < (t.H k).length
  · rw [h4 b hb,if_neg fun hv=>hn (.inl ⟨hb,hv⟩)]
  · have hb2 : ¬ b < (t.H (k + 1)).length:=fun hb2=>hn (.inr ⟨by unfold L; omega,hb2⟩)
    rw [List.getElem?_eq_none (by omega),List.getElem?_eq_none (by omega)]
theorem frame {b i : Nat} : ∀ {j : Nat},i ≤ j→j ≤ ops.size→(∀ k,i ≤ k→k < j→¬ t.wr k b)→(t.H j)[b]? = (t.H i)[b]?
  | 0,h,_,_=>by rw [Nat.le_zero.1 h]
  | j + 1,h,hj,hn=>by
    by_cases he : i = j + 1
    · rw [he]
    · rw [t.frame1 (by omega) (hn j (by omega) (by omega))]
      exact frame (by omega) (by omega) fun k h1 h2=>hn k h1 (by omega)
theorem frameT1 {k x : Nat} (h : k < ops.size) (hn : ¬ t.sets k x) : t.Tr (k + 1) x = t.Tr k x:=by
  obtain ⟨o,ho⟩:=get h
  obtain ⟨_,_,h1,_⟩:=t.step k o ho
  exact WT h1 fun hx=>hn ⟨o,ho,hx⟩
theorem frameT {x i : Nat} : ∀ {j : Nat},i ≤ j→j ≤ ops.size→(∀ k,i ≤ k→k < j→¬ t.sets k x)→t.Tr j x = t.Tr i x
  | 0,h,_,_=>by rw [Nat.le_zero.1 h]
  | j + 1,h,hj,hn=>by
    by_cases he : i = j + 1
    · rw [he]
    · rw [t.frameT1 (by omega) (hn j (by omega) (by omega))]
      exact frameT (by omega) (by omega) fun k h1 h2=>hn k h1 (by omega)
structure Next (D : Nat→Prop) (j : Nat) : Prop where
  lt : j < ops.size
  down : ∀ i k,k < ops.size→D k→t.bef i k→D i
  not : ¬ D j
  all : ∀ i,t.bef i j→D i
variable {t}
variable {D : Nat→Prop} {j : Nat}
theorem Next.free (h : t.Next D j) {k : Nat} (hk : k < ops.size) (hc : (D k∧j < k) ∨ (¬ D k∧k < j)) : k ≠ j∧¬ (t.bef k j ∨ t.bef j k):=by
  refine ⟨by rcases hc with h | h <;> omega,?_⟩
  rintro (hb | hb)
  · have:=t.lt k j h.lt hb
    rcases hc with ⟨h1,h2⟩ | ⟨h1,h2⟩
    · omega
    · exact h1 (h.all k hb)
  · have:=t.lt j k hk hb
    rcases hc with ⟨h1,h2⟩ | ⟨h1,h2⟩
    · exact h.not (h.down j k hk h1 hb)
    · omega
theorem Next.nowr (h : t.Next D j) {b k : Nat} (hb : b < t.L j) (hc : t.cre D b) (hv : t.view j b ≠ .dead) (hk : k < ops.size) (hx : (D k∧j < k) ∨ (¬ D k∧k < j)) : ¬ t.wr k b:=by
  obtain ⟨hne,hno⟩:=h.free hk hx
  rintro (⟨h1,h2⟩ | ⟨h1,h2⟩)
  · exact hv (t.conf k j hk h.lt hne hno b h2)
  · rcases hx with ⟨h3,h4⟩ | ⟨h3,h4⟩
    · have:=t.L_mono (i:=j) (j:=k) (by omega) (by omega)
      omega
    · rcases hc with hc | ⟨k',hk',hD,h5,h6⟩
      · have:=t.L_mono (i:=0) (j:=k) (by omega) (by omega)
        omega
      · have : k' = k:=by
          rcases Nat.lt_trichotomy k' k with hlt | he | hlt
          · have:=t.L_mono (i:=k' + 1) (j:=k) (by omega) (by omega); omega
          · exact he
          · have:=t.L_mono (i:=k + 1) (j:=k') (by omega) (by omega); omega
        exact h3 (this ▸ hD)
theorem Next.agree (h : t.Next D j) {b : Nat} (hb : b < t.L j) (hc : t.cre D b) (hv : t.view j b ≠ .dead) : t.ver D b ≤ j∧t.HD D b = (t.H j)[b]?:=by
  have hle : t.ver D b ≤ j:=by
    rcases Nat.lt_or_ge j (t.ver D b) with hgt | hle
    · exfalso
      have hlt:=N8 (fun k=>D k∧t.wr k b) ops.size
      have hp:=UJ (p:=fun k=>D k∧t.wr k b) (n:=ops.size) (k:=t.ver D b - 1) (by show t.ver D b = _; omega)
      have hlt2 : t.ver D b ≤ ops.size:=hlt
      by_cases he : t.ver D b - 1 = j
      · exact h.not (he ▸ hp.1)
      · exact h.nowr hb hc hv (by omega) (.inl ⟨hp.1,by omega⟩) hp.2
    · exact hle
  refine ⟨hle,?_⟩
  have hj:=h.lt
  refine (t.frame hle (by omega) fun k h1 h2 hw=>?_).symm
  by_cases hD : D k
  · exact N9 (p:=fun k=>D k∧t.wr k b) (n:=ops.size) h1 (by omega) ⟨hD,hw⟩
  · exact h.nowr hb hc hv (by omega) (.inr ⟨hD,h2⟩) hw
theorem Next.nosets (h : t.Next D j) {o : Oper} (ho : ops[j]? = some o) {x k : Nat} (hx : x ∈ Hr tn ops o) (hk : k < ops.size) (hc : (D k∧j < k) ∨ (¬ D k∧k < j)) : ¬ t.sets k x:=by
  obtain ⟨hne,hno⟩:=h.free hk hc
  rintro ⟨q,hq,hd⟩
  exact t.tmp k j q o hq ho hne hno x hd hx
theorem Next.agreeT (h : t.Next D j) {o : Oper} (ho : ops[j]? = some o) {x : Nat} (hx : x ∈ Hr tn ops o) : t.verT D x ≤ j∧t.Tr (t.verT D x) x = t.Tr j x:=by
  have hle : t.verT D x ≤ j:=by
    rcases Nat.lt_or_ge j (t.verT D x) with hgt | hle
    · exfalso
      have hlt:=N8 (fun k=>D k∧t.sets k x) ops.size
      have hp:=UJ (p:=fun k=>D k∧t.sets k x) (n:=ops.size) (k:=t.verT D x - 1) (by show t.verT D x = _; omega)
      have hlt2 : t.verT D x ≤ ops.size:=hlt
      by_cases he : t.verT D x - 1 = j
      · exact h.not (he ▸ hp.1)
      · exact h.nosets ho hx (by omega) (.inl ⟨hp.1,by omega⟩) hp.2
    · exact hle
  refine ⟨hle,?_⟩
  have hj:=h.lt
  refine (t.frameT hle (by omega) fun k h1 h2 hw=>?_).symm
  by_cases hD : D k
  · exact N9 (p:=fun k=>D k∧t.sets k x) (n:=ops.size) h1 (by omega) ⟨hD,hw⟩
  · exact h.nosets ho hx (by omega) (.inr ⟨hD,h2⟩) hw
def plus (D : Nat→Prop) (j : Nat) (k : Nat) : Prop:=D k ∨ k = j
theorem Next.ver_wr (h : t.Next D j) {b : Nat} (hw : t.wr j b) : t.ver (plus D j) b = j + 1:=by
  refine Yi h.lt ⟨.inr rfl,hw⟩ fun k h1 h2 h3=>?_
  rcases h3 with ⟨hD | rfl,hk⟩
  · obtain ⟨hne,hno⟩:=h.free h2 (.inl ⟨hD,h1⟩)
    have hno' : ¬ (t.bef j k ∨ t.bef k j):=fun hh=>hno hh.symm
    rcases hw with ⟨g1,g2⟩ | ⟨g1,g2⟩
    · rcases hk with ⟨f1,f2⟩ | ⟨f1,f2⟩
      · have:=t.conf j k h.lt h2 (Ne.symm hne) hno' b g2
        rw [f2] at this; cases this
      · have:=t.L_mono (i:=j) (j:=k) (by omega) (by omega)
        omega
    · rcases hk with ⟨f1,f2⟩ | ⟨f1,f2⟩
      · exact t.late k j h2 h.lt hne hno b f2 g1 g2
      · have:=t.L_mono (i:=j + 1) (j:=k) (by omega) (by omega)
        omega
  · omega
theorem Next.ver_not (h : t.Next D j) {b : Nat} (hw : ¬ t.wr j b) : t.ver (plus D j) b = t.ver D b:=by
  refine QK fun k hk=>⟨fun ⟨h1,h2⟩=>⟨?_,h2⟩,fun ⟨h1,h2⟩=>⟨.inl h1,h2⟩⟩
  rcases h1 with h1 | rfl
  · exact h1
  · exact absurd h2 hw
theorem Next.verT_set (h : t.Next D j) {o : Oper} (ho : ops[j]? = some o) {x : Nat} (hx : x ∈ Cw tn o) : t.verT (plus D j) x = j + 1:=by
  refine Yi h.lt ⟨.inr rfl,o,ho,hx⟩ fun k h1 h2 h3=>?_
  rcases h3 with ⟨hD | rfl,hk⟩
  · exact h.nosets ho (by unfold Hr; simp [hx]) h2 (.inl ⟨hD,h1⟩) hk
  · omega
theorem Next.verT_not (h : t.Next D j) {x : Nat} (hw : ¬ t.sets j x) : t.verT (plus D j) x = t.verT D x:=by
  refine QK fun k hk=>⟨fun ⟨h1,h2⟩=>⟨?_,h2⟩,fun ⟨h1,h2⟩=>⟨.inl h1,h2⟩⟩
  rcases h1 with h1 | rfl
  · exact h1
  · exact absurd h2 hw
end DTrace
theorem NRel.mono {tn : Tn} {n : Nat} {ι κ : Emb} (hi : ι.le κ) {lam : Lam} {w : World} {tmps : Array Value} {x : Nat} {u : Value} (h : NRel tn n ι lam w tmps x u) : NRel tn n κ lam w tmps x u:=by
  unfold NRel at h ⊢
  split
  · rename_i hx
    rw [if_pos hx] at h
    cases hl : look x tn with
    | none=>rw [hl] at h; exact VRel.mono hi h
    | some j=>rw [hl] at h; exact h
  · rename_i hx
    rw [if_neg hx] at h
    intro cells hc
    obtain ⟨blk,cs,e,fz,h1,h2,h3,h4⟩:=h cells hc
    exact ⟨blk,cs,e,fz,h1,h2,h3,h4.mono fun _ _=>L2.mono hi⟩
theorem NRel.keep2 {tn : Tn} {n wb lo : Nat} {ι ι2 : Emb} {lam : Lam} {H : List Blk} {w : World} {T : Fr} {sets : List Nat} {ι' : Emb} {lam' : Lam} {K : List Blk} {w' : World} {T' : Fr} {tmps tmps' : Array Value} (h : AfterL tn n wb lo ι lam H w T sets ι' lam' K w' T' tmps')
    {x : Nat} (hx : x ∉ sets) (ht : tmps'.getD x undef = tmps.getD x undef) {u : Value} (hr : NRel tn n ι2 lam w tmps x u) : NRel tn n ι2 lam' w' tmps' x u:=by
  unfold NRel at hr ⊢
  split
  · rename_i hxn
    rw [if_pos hxn] at hr
    rw [ht]
    cases hl : look x tn with
    | none=>rw [hl] at hr; exact hr
    | some j =>
      rw [hl] at hr
      rcases hr with h1 | ⟨off,blk,h1,h2,h3⟩
      · exact .inl h1
      · exact .inr ⟨off,blk,h1,by rw [h.keepP x j hl hx]; exact h2,h3⟩
  · rename_i hxn
    rw [if_neg hxn] at hr
    intro cells hc
    obtain ⟨blk,cs,e,fz,h1,h2,h3,h4⟩:=hr cells hc
    obtain ⟨g1,g2⟩:=h.keepL x blk h1 hx
    exact ⟨blk,cs,e,fz,g1,by rw [g2]; exact h2,h3,h4⟩
theorem WV {x : Option Blk} (h : ownB x = true) : (∃ n cells,x = some (.row n cells .act)) ∨ (∃ es clock,x = some (.map es clock)):=by
  unfold ownB at h
  split at h
  · exact .inl ⟨_,_,rfl⟩
  · exact .inr ⟨_,_,rfl⟩
  · cases h
section
variable {P : Program} {call : Aa} {tn : Tn} {n : Nat} {ops : Array Oper} (t : DTrace P call tn ops)
structure DInv (n wb : Nat) (D : Nat→Prop) (ι0 : Emb) (H0 : List Blk) (w0 : World) (ι : Emb) (lam : Lam) (w : World) (tmps : Array Value) : Prop where
  dom : ∀ b x,ι b = some x→t.cre D b
  row : ∀ b n cells st,t.HD D b = some (.row n cells st)→st ≠ .dead→∀ l,ι b = some l →
    ∃ cs e fz,w.heap[l.blk]? = some (.cells cs e fz)∧(st = .ro→l.blk < wb)∧(st = .act→wb ≤ l.blk∧l.n = n∧l.z = cs.size∧fzOk n fz cs.size) ∧
      ∀ (i : Nat) (v : Value),cells[i]? = some v→∃ v' : Value,cs[l.off + i]? = some v'∧L2 (ι.cut (t.L (t.ver D b))) v v'
  map : ∀ b es clock,t.HD D b = some (.map es clock)→∀ l,ι b = some l →
    wb ≤ l.blk∧(l.n = 0∧l.off = 0)∧∃ o,w.heap[l.blk]? = some o∧MObj (ι.cut (t.L (t.ver D b))) es clock o
  excl : ∀ a b,ownB (t.HD D a) = true→ownB (t.HD D b) = true→a ≠ b→∀ x y,ι a = some x→ι b = some y→x.blk ≠ y.blk
  size : wb ≤ w.heap.size
  loc : ∀ b n cells st,t.HD D b = some (.row n cells st)→st ≠ .dead→∀ l,ι b = some l→l.n = n∧l.off ≤ l.z
  le : ι0.le ι
  old : ∀ b,b < H0.length→ι b = ι0 b
  img : ∀ b x,ι b = some x→H0.length ≤ b→w0.heap.size ≤ x.blk ∨ ∃ a y,ownB H0[a]? = true∧ι0 a = some y∧y.blk = x.blk
  keep : ∀ c,c < w0.heap.size→(∀ a y,ownB H0[a]? = true→ι0 a = some y→y.blk ≠ c)→w.heap[c]? = w0.heap[c]?
  size0 : w0.heap.size ≤ w.heap.size
  os : w.os = w0.os
  tape : w.tape = w0.tape
  output : w.output = w0.output
  own : ∀ a,a < H0.length→ownB (t.HD D a) = true→ownB H0[a]? = true
  lo : ∀ j b,lam j = some b→w0.heap.size ≤ b∧b < w.heap.size
  lexcl : ∀ j b,lam j = some b→∀ a y,ownB (t.HD D a) = true→ι a = some y→y.blk ≠ b
  linj : ∀ i j b,lam i = some b→lam j = some b→i = j
  nm : ∀ x,NRel tn n (ι.cut (t.L (t.verT D x))) lam w tmps x (t.Tr (t.verT D x) x)
variable {t}
variable {wb : Nat} {D : Nat→Prop} {j : Nat} {ι0 ι κ : Emb} {H0 : List Blk} {lam lam' : Lam} {w0 w w' : World} {tmps : Array Value}
theorem DInv.lt (h : DInv t n wb D ι0 H0 w0 ι lam w tmps) {b : Nat} (ho : ownB (t.HD D b) = true) {l : Loc} (hl : ι b = some l) : l.blk < w.heap.size∧wb ≤ l.blk:=by
  rcases WV ho with ⟨n,cells,e⟩ | ⟨es,clock,e⟩
  · obtain ⟨cs,_,_,h1,_,h3,_⟩:=h.row b n cells .act e (by simp) l hl
    exact ⟨(Array.getElem?_eq_some_iff.1 h1).1,(h3 rfl).1⟩
  · obtain ⟨h1,_,es',h2,_⟩:=h.map b es clock e l hl
    exact ⟨(Array.getElem?_eq_some_iff.1 h2).1,h1⟩
structure Seen (t : DTrace P call tn ops) (j : Nat) (Hv : List Blk) : Prop where
  len : Hv.length = t.L j
  get : ∀ b,Hv[b]? = ((t.H j)[b]?).map (Gu (t.view j b))
theorem Seen.own {Hv : List Blk} (hv : Seen t j Hv) {a : Nat} (h : ownB Hv[a]? = true) : t.view j a = .see∧a < t.L j∧Hv[a]? = (t.H j)[a]?:=by
  have hlt : a < t.L j:=by
    rw [← hv.len]
    rcases Nat.lt_or_ge a Hv.length with hh | hh
    · exact hh
    · rw [List.getElem?_eq_none hh] at h; cases h
  rw [hv.get a] at h ⊢
  cases hvw : t.view j a with
  | see=>exact ⟨rfl,hlt,by cases (t.H j)[a]? <;> rfl⟩
  | frz =>
    rw [hvw] at h
    cases hb : (t.H j)[a]? with
    | none=>rw [hb] at h; cases h
    | some x =>
      rw [hb] at h
      cases x with
      | row n c st=>cases st <;> cases h
      | map=>cases h
  | dead =>
    rw [hvw] at h
    cases hb : (t.H j)[a]? with
    | none=>rw [hb] at h; cases h
    | some x =>
      rw [hb] at h
      cases x with
      | row n c st=>cases h
      | map=>cases h
theorem Seen.ownD {Hv : List Blk} (hv : Seen t j Hv) (h : DInv t n wb D ι0 H0 w0 ι lam w tmps) (hn : t.Next D j) {a : Nat} {y : Loc} (ha : ownB Hv[a]? = true) (hy : ι.cut (t.L j) a = some y) :
    t.view j a = .see∧a < t.L j∧ι a = some y∧ownB (t.HD D a) = true:=by
  obtain ⟨h1,h2,h3⟩:=hv.own ha
  obtain ⟨_,hy2⟩:=Emb.cut_some.1 hy
  refine ⟨h1,h2,hy2,?_⟩
  rw [(hn.agree h2 (h.dom a y hy2) (by rw [h1]; simp)).2,← h3]
  exact ha
theorem Seen.far {Hv : List Blk} (hv : Seen t j Hv) (h : DInv t n wb D ι0 H0 w0 ι lam w tmps) (hn : t.Next D j) {a b : Nat} {y l : Loc} (ha : ownB Hv[a]? = true) (hy : ι.cut (t.L j) a = some y)
    (hw : ¬ t.wr j b) (hl : ι b = some l) (hb : ownB (t.HD D b) = true ∨ l.blk < wb) : y.blk ≠ l.blk:=by
  obtain ⟨h1,h2,h3,h4⟩:=hv.ownD h hn ha hy
  rcases hb with hb | hb
  · have hne : a ≠ b:=fun e=>hw (.inl ⟨e ▸ h2,e ▸ h1⟩)
    exact h.excl a b h4 hb hne y l h3 hl
  · have:=(h.lt h4 h3).2
    omega
theorem DInv.sees (h : DInv t n wb D ι0 H0 w0 ι lam w tmps) (hn : t.Next D j) {Hv : List Blk} (hv : Seen t j Hv) :
    ∃ wv,wb ≤ wv∧wv ≤ w.heap.size∧((∀ b,t.view j b ≠ .see)∧wv = w.heap.size ∨ wv = wb)∧Sim wv (ι.cut (t.L j)) Hv w:=by
  have main : ∀ wv,wb ≤ wv→wv ≤ w.heap.size→(((∀ b,t.view j b ≠ .see)∧wv = w.heap.size) ∨ ((∀ b,t.view j b ≠ .frz)∧wv = wb))→Sim wv (ι.cut (t.L j)) Hv w:=by
    intro wv h1 h2 h3
    have hrow : ∀ b n cells st,Hv[b]? = some (.row n cells st)→st ≠ .dead→∀ l,ι.cut (t.L j) b = some l→ι b = some l∧t.ver D b ≤ j∧∃ st0,t.HD D b = some (.row n cells st0)∧st0 ≠ .dead ∧
        ((t.view j b = .see∧st0 = st) ∨ (t.view j b = .frz∧st = .ro)):=by
      intro b n cells st hb hst l hl
      obtain ⟨hlt,hl2⟩:=Emb.cut_some.1 hl
      rw [hv.get b] at hb
      cases hx : (t.H j)[b]? with
      | none=>rw [hx] at hb; cases hb
      | some x =>
        rw [hx] at hb
        simp only [Option.map_some,Option.some.injEq] at hb
        have hvw : t.view j b ≠ .dead:=by
          intro e
          rw [e] at hb
          cases x with
          | row n' c' st'=>simp [Gu,MA] at hb; exact hst hb.2.2.symm
          | map=>simp [Gu,MA] at hb; exact hst hb.2.2.symm
        obtain ⟨g1,g2⟩:=hn.agree hlt (h.dom b l hl2) hvw
        rw [hx] at g2
        refine ⟨hl2,g1,?_⟩
        cases hvj : t.view j b with
        | see=>rw [hvj] at hb; simp only [Gu] at hb; subst hb; exact ⟨st,g2,hst,.inl ⟨rfl,rfl⟩⟩
        | dead=>exact absurd hvj hvw
        | frz =>
          rw [hvj] at hb
          cases x with
          | map=>simp [Gu,frzB] at hb; exact absurd hb.2.2.symm hst
          | row n' c' st' =>
            cases st' with
            | act=>simp [Gu,frzB] at hb; obtain ⟨rfl,rfl,rfl⟩:=hb; exact ⟨.act,g2,by simp,.inr ⟨rfl,rfl⟩⟩
            | ro=>simp [Gu,frzB] at hb; obtain ⟨rfl,rfl,rfl⟩:=hb; exact ⟨.ro,g2,by simp,.inr ⟨rfl,rfl⟩⟩
            | dead=>simp [Gu,frzB] at hb; exact absurd hb.2.2.symm hst
    constructor
    · intro b x hx; rw [hv.len]; exact (Emb.cut_some.1 hx).1
    · intro b n cells st hb hst l hl
      obtain ⟨hl2,hver,st0,g1,g2,g3⟩:=hrow b n cells st hb hst l hl
      obtain ⟨cs,e,fz,q1,q2,q3,q4⟩:=h.row b n cells st0 g1 g2 l hl2
      have hlt : l.blk < w.heap.size:=by
        rcases Nat.lt_or_ge l.blk w.heap.size with hh | hh
        · exact hh
        · rw [Array.getElem?_eq_none hh] at q1; cases q1
      refine ⟨cs,e,fz,q1,fun hro=>?_,fun hact=>?_,fun i v hi=>?_⟩
      · rcases h3 with ⟨_,rfl⟩ | ⟨hnf,rfl⟩
        · exact hlt
        · rcases g3 with ⟨_,rfl⟩ | ⟨hf,_⟩
          · exact q2 hro
          · exact absurd hf (hnf b)
      · rcases g3 with ⟨hs,rfl⟩ | ⟨_,rfl⟩
        · obtain ⟨p1,p2⟩:=q3 hact
          rcases h3 with ⟨hns,_⟩ | ⟨_,rfl⟩
          · exact absurd hs (hns b)
          · exact ⟨p1,p2⟩
        · cases hact
      · obtain ⟨v',p1,p2⟩:=q4 i v hi
        exact ⟨v',p1,p2.mono (Emb.cut_mono (.refl _) (t.L_mono hver (Nat.le_of_lt hn.lt)))⟩
    · intro b es clock hb l hl
      obtain ⟨s1,s2,s3⟩:=hv.own (a:=b) (by rw [hb]; rfl)
      obtain ⟨hlt,hl2⟩:=Emb.cut_some.1 hl
      obtain ⟨g1,g2⟩:=hn.agree hlt (h.dom b l hl2) (by rw [s1]; simp)
      rw [← s3,hb] at g2
      obtain ⟨q1,q2,es',q3,q4⟩:=h.map b es clock g2 l hl2
      refine ⟨?_,q2,es',q3,q4.mono (Emb.cut_mono (.refl _) (t.L_mono g1 (Nat.le_of_lt hn.lt)))⟩
      rcases h3 with ⟨hns,_⟩ | ⟨_,rfl⟩
      · exact absurd s1 (hns b)
      · exact q1
    · intro a b ha hb hne x y hx hy
      obtain ⟨_,_,x1,x2⟩:=hv.ownD h hn ha hx
      obtain ⟨_,_,y1,y2⟩:=hv.ownD h hn hb hy
      exact h.excl a b x2 y2 hne x y x1 y1
    · exact h2
    · intro b n cells st hb hst l hl
      obtain ⟨hl2,_,st0,g1,g2,_⟩:=hrow b n cells st hb hst l hl
      exact h.loc b n cells st0 g1 g2 l hl2
  rcases t.uni j with hu | hu
  · exact ⟨w.heap.size,h.size,Nat.le_refl _,.inl ⟨hu,rfl⟩,main _ h.size (Nat.le_refl _) (.inl ⟨hu,rfl⟩)⟩
  · exact ⟨wb,Nat.le_refl _,h.size,.inr rfl,main _ (Nat.le_refl _) h.size (.inr ⟨hu,rfl⟩)⟩
def FY (t : DTrace P call tn ops) (j : Nat) (ι κ : Emb) : Emb:=fun b=>if t.L j ≤ b∧b < t.L (j + 1) then κ b else ι b
theorem DInv.step (hH0 : H0.length ≤ t.L 0) (h : DInv t n wb D ι0 H0 w0 ι lam w tmps) (hn : t.Next D j) {Hv R : List Blk} (hv : Seen t j Hv) {wv : Nat} (hwv : wb ≤ wv) (hcase : (∀ b,t.view j b ≠ .see)∧wv = w.heap.size ∨ wv = wb) (hwb0 : wb ≤ w0.heap.size)
    (hR1 : ∀ b,b < t.L j→(t.H (j + 1))[b]? = if t.view j b = .see then R[b]? else (t.H j)[b]?) (hR2 : ∀ b,t.L j ≤ b→(t.H (j + 1))[b]? = R[b]?) (hR3 : t.L j ≤ t.L (j + 1))
    {o : Oper} (ho : ops[j]? = some o) {a : Act} (ha : a.tmps = tmps) {v' : Value} (g : AfterL tn n wv w0.heap.size (ι.cut (t.L j)) lam Hv w (t.Tr j) (Cw tn o) κ lam' R w' (t.Tr (j + 1)) (a.put o.dst v').tmps) :
    DInv t n wb (DTrace.plus D j) ι0 H0 w0 (FY t j ι κ) lam' w' (a.put o.dst v').tmps:=by
  have hsim:=g.sim
  have hj:=hn.lt
  have hjl : t.L 0 ≤ t.L j:=t.L_mono (Nat.zero_le _) (Nat.le_of_lt hj)
  have hRlen : R.length = t.L (j + 1):=by
    have h1 : Hv.length ≤ R.length:=g.len
    rw [hv.len] at h1
    rcases Nat.lt_trichotomy R.length (t.L (j + 1)) with hlt | he | hlt
    · have:=hR2 R.length h1
      rw [List.getElem?_eq_none (Nat.le_refl _)] at this
      rw [List.getElem?_eq_getElem (by exact hlt)] at this
      cases this
    · exact he
    · have:=hR2 (t.L (j + 1)) hR3
      rw [List.getElem?_eq_none (l:=t.H (j + 1)) (i:=t.L (j + 1)) (Nat.le_refl _)] at this
      rw [List.getElem?_eq_getElem hlt] at this
      cases this
  have hnew : ∀ b,t.L j ≤ b→ι b ≠ none→¬ b < t.L (j + 1):=by
    intro b hb hne hb2
    cases hx : ι b with
    | none=>exact hne hx
    | some x =>
      rcases h.dom b x hx with hc | ⟨k,hk,hD,h5,h6⟩
      · omega
      · rcases Nat.lt_trichotomy k j with hlt | he | hlt
        · have:=t.L_mono (i:=k + 1) (j:=j) (by omega) (by omega); omega
        · exact hn.not (he ▸ hD)
        · have:=t.L_mono (i:=j + 1) (j:=k) (by omega) (by omega); omega
  have hle : ι.le (FY t j ι κ):=by
    intro b x hx
    unfold FY
    rw [if_neg]
    · exact hx
    · intro ⟨h1,h2⟩
      exact hnew b h1 (by rw [hx]; simp) h2
  have hold : ∀ b,b < t.L j→κ b = ι b:=by
    intro b hb
    rw [g.old b (by rw [hv.len]; exact hb)]
    unfold Emb.cut
    rw [if_pos hb]
  have hkle : κ.le ((FY t j ι κ).cut (t.L (j + 1))):=by
    intro b x hx
    have hlt : b < t.L (j + 1):=by rw [← hRlen]; exact hsim.dom b x hx
    refine Emb.cut_some.2 ⟨hlt,?_⟩
    unfold FY
    by_cases hb : t.L j ≤ b
    · rw [if_pos ⟨hb,hlt⟩]; exact hx
    · rw [if_neg (fun hh=>hb hh.1),← hold b (by omega)]; exact hx
  have hHw : ∀ b,t.wr j b→t.HD (DTrace.plus D j) b = R[b]?∧t.ver (DTrace.plus D j) b = j + 1:=by
    intro b hw
    have hver:=hn.ver_wr hw
    refine ⟨?_,hver⟩
    unfold DTrace.HD
    rw [hver]
    rcases hw with ⟨h1,h2⟩ | ⟨h1,_⟩
    · rw [hR1 b h1,if_pos h2]
    · exact hR2 b h1
  have hHn : ∀ b,¬ t.wr j b→t.HD (DTrace.plus D j) b = t.HD D b∧t.ver (DTrace.plus D j) b = t.ver D b:=by
    intro b hw
    have hver:=hn.ver_not hw
    refine ⟨?_,hver⟩
    unfold DTrace.HD
    rw [hver]
  have hκ : ∀ b x,t.wr j b→FY t j ι κ b = some x→κ b = some x:=by
    intro b x hw hx
    unfold FY at hx
    split at hx
    · exact hx
    · rename_i hnot
      rcases hw with ⟨h1,_⟩ | h2
      · rw [hold b h1]; exact hx
      · exact absurd h2 hnot
  have hι : ∀ b x,¬ t.wr j b→FY t j ι κ b = some x→ι b = some x:=by
    intro b x hw hx
    unfold FY at hx
    split at hx
    · rename_i hh; exact absurd (.inr hh) hw
    · exact hx
  have hwro : ∀ b l,t.wr j b→κ b = some l→l.blk < wv→l.blk < wb:=by
    intro b l hw hl hlt
    rcases hcase with ⟨hns,hwe⟩ | hwe
    · rcases hw with ⟨_,h2⟩ | ⟨h1,_⟩
      · exact absurd h2 (hns b)
      · rcases g.img b l hl (by rw [hv.len]; exact h1) with h3 | ⟨a',y,ha',_,_⟩
        · omega
        · exact absurd (hv.own ha').1 (hns a')
    · omega
  have hstay : ∀ b l,¬ t.wr j b→ι b = some l→(ownB (t.HD D b) = true ∨ l.blk < wb)→l.blk < w.heap.size→w'.heap[l.blk]? = w.heap[l.blk]?:=by
    intro b l hw hl hb hlt
    refine g.keep l.blk hlt (fun a' y ha' hy=>hv.far h hn ha' hy hw hl hb) fun q hq=>?_
    rcases hb with hb | hb
    · exact h.lexcl q l.blk hq b l hb hl rfl
    · have:=(h.lo q l.blk hq).1; omega
  constructor
  · intro b x hx
    by_cases hw : t.L j ≤ b∧b < t.L (j + 1)
    · exact .inr ⟨j,hj,.inr rfl,hw.1,hw.2⟩
    · unfold FY at hx
      rw [if_neg hw] at hx
      rcases h.dom b x hx with hc | ⟨k,hk,hD,h5⟩
      · exact .inl hc
      · exact .inr ⟨k,hk,.inl hD,h5⟩
  · intro b n cells st hb hs l hl
    by_cases hw : t.wr j b
    · obtain ⟨e1,e2⟩:=hHw b hw
      rw [e1] at hb
      rw [e2]
      have hkl:=hκ b l hw hl
      obtain ⟨cs,e,fz,q1,q2,q3,q4⟩:=hsim.row b n cells st hb hs l hkl
      refine ⟨cs,e,fz,q1,fun hro=>hwro b l hw hkl (q2 hro),fun hact=>⟨Nat.le_trans hwv (q3 hact).1,(q3 hact).2⟩,fun i v hi=>?_⟩
      obtain ⟨v',p1,p2⟩:=q4 i v hi
      exact ⟨v',p1,p2.mono hkle⟩
    · obtain ⟨e1,e2⟩:=hHn b hw
      rw [e1] at hb
      rw [e2]
      have hil:=hι b l hw hl
      obtain ⟨cs,e,fz,q1,q2,q3,q4⟩:=h.row b n cells st hb hs l hil
      refine ⟨cs,e,fz,?_,q2,q3,fun i v hi=>?_⟩
      · rw [hstay b l hw hil ?_ (Array.getElem?_eq_some_iff.1 q1).1]
        · exact q1
        · cases st with
          | act=>left; rw [hb]; rfl
          | ro=>exact .inr (q2 rfl)
          | dead=>exact absurd rfl hs
      · obtain ⟨v',p1,p2⟩:=q4 i v hi
        exact ⟨v',p1,p2.mono (Emb.cut_mono hle (Nat.le_refl _))⟩
  · intro b es clock hb l hl
    by_cases hw : t.wr j b
    · obtain ⟨e1,e2⟩:=hHw b hw
      rw [e1] at hb
      rw [e2]
      obtain ⟨q1,q2,es',q3,q4⟩:=hsim.map b es clock hb l (hκ b l hw hl)
      exact ⟨Nat.le_trans hwv q1,q2,es',q3,q4.mono hkle⟩
    · obtain ⟨e1,e2⟩:=hHn b hw
      rw [e1] at hb
      rw [e2]
      have hil:=hι b l hw hl
      obtain ⟨q1,q2,es',q3,q4⟩:=h.map b es clock hb l hil
      refine ⟨q1,q2,es',?_,q4.mono (Emb.cut_mono hle (Nat.le_refl _))⟩
      rw [hstay b l hw hil (.inl (by rw [hb]; rfl)) (Array.getElem?_eq_some_iff.1 q3).1]
      exact q3
  · have mixed : ∀ a b,t.wr j a→¬ t.wr j b→ownB (t.HD (DTrace.plus D j) a) = true→ownB (t.HD (DTrace.plus D j) b) = true→∀ x y,FY t j ι κ a = some x→FY t j ι κ b = some y→x.blk ≠ y.blk:=by
      intro a b hwa hwb hoa hob x y hx hy
      rw [(hHw a hwa).1] at hoa
      rw [(hHn b hwb).1] at hob
      have hkx:=hκ a x hwa hx
      have hiy:=hι b y hwb hy
      by_cases hal : a < t.L j
      · have hoa2 : ownB Hv[a]? = true:=g.own a (by rw [hv.len]; exact hal) hoa
        refine hv.far h hn hoa2 (Emb.cut_some.2 ⟨hal,?_⟩) hwb hiy (.inl hob)
        rw [← hold a hal]; exact hkx
      · rcases g.img a x hkx (by rw [hv.len]; omega) with h3 | ⟨a',y',ha',hy',he⟩
        · have:=(h.lt hob hiy).1
          omega
        · rw [← he]
          exact hv.far h hn ha' hy' hwb hiy (.inl hob)
    intro a b hoa hob hne x y hx hy
    by_cases hwa : t.wr j a
    · by_cases hwb : t.wr j b
      · rw [(hHw a hwa).1] at hoa
        rw [(hHw b hwb).1] at hob
        exact hsim.excl a b hoa hob hne x y (hκ a x hwa hx) (hκ b y hwb hy)
      · exact mixed a b hwa hwb hoa hob x y hx hy
    · by_cases hwb : t.wr j b
      · exact (mixed b a hwb hwa hob hoa y x hy hx).symm
      · rw [(hHn a hwa).1] at hoa
        rw [(hHn b hwb).1] at hob
        exact h.excl a b hoa hob hne x y (hι a x hwa hx) (hι b y hwb hy)
  · exact Nat.le_trans h.size g.size
  · intro b n cells st hb hs l hl
    by_cases hw : t.wr j b
    · rw [(hHw b hw).1] at hb
      exact hsim.loc b n cells st hb hs l (hκ b l hw hl)
    · rw [(hHn b hw).1] at hb
      exact h.loc b n cells st hb hs l (hι b l hw hl)
  · exact h.le.trans hle
  · intro b hb
    rw [← h.old b hb]
    unfold FY
    rw [if_neg (by omega)]
  · intro b x hx hb
    have hown : ∀ a' y',ownB Hv[a']? = true→ι.cut (t.L j) a' = some y'→w0.heap.size ≤ y'.blk ∨ ∃ a y,ownB H0[a]? = true∧ι0 a = some y∧y.blk = y'.blk:=by
      intro a' y' ha' hy'
      obtain ⟨_,_,g3,g4⟩:=hv.ownD h hn ha' hy'
      by_cases hz : a' < H0.length
      · exact .inr ⟨a',y',h.own a' hz g4,by rw [← h.old a' hz]; exact g3,rfl⟩
      · exact h.img a' y' g3 (by omega)
    unfold FY at hx
    split at hx
    · rename_i hh
      rcases g.img b x hx (by rw [hv.len]; exact hh.1) with h3 | ⟨a',y',ha',hy',he⟩
      · exact .inl (Nat.le_trans h.size0 h3)
      · rw [← he]; exact hown a' y' ha' hy'
    · exact h.img b x hx hb
  · intro c hc hnc
    rw [← h.keep c hc hnc]
    refine g.keep c (Nat.lt_of_lt_of_le hc h.size0) (fun a' y' ha' hy'=>?_) fun q hq=>?_
    · obtain ⟨_,_,g3,g4⟩:=hv.ownD h hn ha' hy'
      by_cases hz : a' < H0.length
      · exact hnc a' y' (h.own a' hz g4) (by rw [← h.old a' hz]; exact g3)
      · rcases h.img a' y' g3 (by omega) with h5 | ⟨a,y,h5,h6,h7⟩
        · omega
        · rw [← h7]; exact hnc a y h5 h6
    · have:=(h.lo q c hq).1; omega
  · exact Nat.le_trans h.size0 g.size
  · exact g.os.trans h.os
  · exact g.tape.trans h.tape
  · exact g.output.trans h.output
  · intro a' ha' hob
    by_cases hw : t.wr j a'
    · rw [(hHw a' hw).1] at hob
      have hal : a' < t.L j:=by omega
      have h5 : ownB Hv[a']? = true:=g.own a' (by rw [hv.len]; exact hal) hob
      obtain ⟨g1,g2,g3⟩:=hv.own h5
      refine h.own a' ha' ?_
      rw [(hn.agree hal (.inl (by omega)) (by rw [g1]; simp)).2,← g3]
      exact h5
    · rw [(hHn a' hw).1] at hob
      exact h.own a' ha' hob
  · exact g.lok.lo
  · intro q b hq a' y hob hy
    by_cases hw : t.wr j a'
    · rw [(hHw a' hw).1] at hob
      exact g.lok.excl q b hq a' y hob (hκ a' y hw hy)
    · rw [(hHn a' hw).1] at hob
      have hiy:=hι a' y hw hy
      rcases g.lnew q b hq with hlq | hlq
      · exact h.lexcl q b hlq a' y hob hiy
      · have:=(h.lt hob hiy).1
        omega
  · exact g.lok.inj
  · intro x
    by_cases hs : t.sets j x
    · obtain ⟨o',ho',hd⟩:=hs
      rw [ho] at ho'
      cases ho'
      rw [hn.verT_set ho hd]
      exact (g.nm x hd).mono hkle
    · rw [hn.verT_not hs]
      have hxs : x ∉ Cw tn o:=fun hh=>hs ⟨o,ho,hh⟩
      have h1:=(h.nm x).mono (Emb.cut_mono (n:=t.L (t.verT D x)) (m:=t.L (t.verT D x)) hle (Nat.le_refl _))
      refine NRel.keep2 g hxs ?_ h1
      rw [← ha]
      exact Lf fun hh=>hxs (FX hh)
end
end Go.Proofs.YtmbhnbladmpnoaaGreat.Ab

/- Regions whose order is open: the text's order stands for all. -/
namespace Go.Proofs.YtmbhnbladmpnoaaGreat.Ab
open Go
theorem Oa {p : Nat→Prop} : ∀ {n : Nat},(∀ k,k < n→¬ p k)→last p n = 0
  | 0,_=>rfl
  | n + 1,h=>by
    unfold last
    rw [if_neg (h n (by omega))]
    exact Oa fun k hk=>h k (by omega)
section
variable {P : Program} {call : Aa} {tn : Tn} {n m : Nat} {ops : Array Oper} {t : DTrace P call tn ops} {wb : Nat} {D : Nat→Prop} {ι0 ι : Emb} {H0 : List Blk} {lam : Lam} {w0 w : World}
theorem DInv.start {tmps : Array Value} (hD : ∀ k,¬ D k) (h : BSim tn n wb ι0 H0 w0 ι lam (t.Tr 0) (t.H 0) tmps w) : DInv t n wb D ι0 H0 w0 ι lam w tmps:=by
  have hver : ∀ b,t.ver D b = 0:=fun b=>Oa fun k _ h=>hD k h.1
  have hverT : ∀ b,t.verT D b = 0:=fun b=>Oa fun k _ h=>hD k h.1
  have hHD : ∀ b,t.HD D b = (t.H 0)[b]?:=fun b=>by unfold DTrace.HD; rw [hver]
  have hle : ι.le (ι.cut (t.L 0)):=fun b x hx=>Emb.cut_some.2 ⟨h.sim.dom b x hx,hx⟩
  constructor
  · intro b x hx; exact .inl (h.sim.dom b x hx)
  · intro b n cells st hb hs l hl
    rw [hHD] at hb
    rw [hver]
    obtain ⟨cs,e,fz,q1,q2,q3,q4⟩:=h.sim.row b n cells st hb hs l hl
    refine ⟨cs,e,fz,q1,q2,q3,fun i v hi=>?_⟩
    obtain ⟨v',p1,p2⟩:=q4 i v hi
    exact ⟨v',p1,p2.mono hle⟩
  · intro b es clock hb l hl
    rw [hHD] at hb
    rw [hver]
    obtain ⟨q1,q2,es',q3,q4⟩:=h.sim.map b es clock hb l hl
    exact ⟨q1,q2,es',q3,q4.mono hle⟩
  · intro a b ha hb; rw [hHD] at ha hb; exact h.sim.excl a b ha hb
  · exact h.sim.size
  · intro b n cells st hb; rw [hHD] at hb; exact h.sim.loc b n cells st hb
  · exact h.step.le
  · exact h.step.old
  · exact h.step.img
  · exact h.step.keep
  · exact h.step.size
  · exact h.step.os
  · exact h.step.tape
  · exact h.step.output
  · intro a ha hb; rw [hHD] at hb; exact h.step.own a ha hb
  · exact h.lok.lo
  · intro j b hj a y ha hy; rw [hHD] at ha; exact h.lok.excl j b hj a y ha hy
  · exact h.lok.inj
  · intro x
    rw [hverT]
    exact (h.nm x).mono hle
theorem DInv.finish {tmps : Array Value} (hH0 : H0.length ≤ t.L 0) (h : DInv t n wb D ι0 H0 w0 ι lam w tmps) (hD : ∀ k,k < ops.size→D k) : BSim tn n wb ι0 H0 w0 ι lam (t.Tr ops.size) (t.H ops.size) tmps w:=by
  have hHD : ∀ b,t.HD D b = (t.H ops.size)[b]?:=fun b=>by
    refine (t.frame (N8 _ _) (Nat.le_refl _) fun k h1 h2 hw=>?_).symm
    exact N9 (p:=fun k=>D k∧t.wr k b) (n:=ops.size) h1 h2 ⟨hD k h2,hw⟩
  have hT : ∀ x,t.Tr (t.verT D x) x = t.Tr ops.size x:=fun x=>by
    refine (t.frameT (N8 _ _) (Nat.le_refl _) fun k h1 h2 hw=>?_).symm
    exact N9 (p:=fun k=>D k∧t.sets k x) (n:=ops.size) h1 h2 ⟨hD k h2,hw⟩
  have hdom : ∀ b x,ι b = some x→b < (t.H ops.size).length:=fun b x hx=>by
    show b < t.L ops.size
    rcases h.dom b x hx with hc | ⟨k,hk,_,_,h6⟩
    · have:=t.L_mono (i:=0) (j:=ops.size) (by omega) (by omega); omega
    · have:=t.L_mono (i:=k + 1) (j:=ops.size) (by omega) (by omega); omega
  refine ⟨?_,?_,?_,?_⟩
  · constructor
    · exact hdom
    · intro b n cells st hb hs l hl
      rw [← hHD] at hb
      obtain ⟨cs,e,fz,q1,q2,q3,q4⟩:=h.row b n cells st hb hs l hl
      refine ⟨cs,e,fz,q1,q2,q3,fun i v hi=>?_⟩
      obtain ⟨v',p1,p2⟩:=q4 i v hi
      exact ⟨v',p1,p2.mono (Emb.cut_le _ _)⟩
    · intro b es clock hb l hl
      rw [← hHD] at hb
      obtain ⟨q1,q2,es',q3,q4⟩:=h.map b es clock hb l hl
      exact ⟨q1,q2,es',q3,q4.mono (Emb.cut_le _ _)⟩
    · intro a b ha hb; rw [← hHD] at ha hb; exact h.excl a b ha hb
    · exact h.size
    · intro b n cells st hb; rw [← hHD] at hb; exact h.loc b n cells st hb
  · exact ⟨h.lo,fun j b hj a y ha hy=>h.lexcl j b hj a y (by rw [hHD]; exact ha) hy,h.linj⟩
  · constructor
    · exact h.le
    · exact h.old
    · exact h.img
    · exact h.keep
    · exact h.size0
    · exact h.os
    · exact h.tape
    · exact h.output
    · exact Nat.le_trans hH0 (t.L_mono (Nat.zero_le _) (Nat.le_refl _))
    · intro a ha ho; rw [← hHD] at ho; exact h.own a ha ho
  · intro x
    rw [← hT]
    exact (h.nm x).mono (Emb.cut_le _ _)
theorem NRel.cut_mono {tmps : Array Value} {x : Nat} {u : Value} {i j : Nat} (h : NRel tn n (ι.cut i) lam w tmps x u) (hij : i ≤ j) : NRel tn n (ι.cut j) lam w tmps x u:=h.mono (Emb.cut_mono (.refl _) hij)
theorem DInv.op {X : Option Nat × Nat} (hcall : DZ P call) (htn : tnOk n m tn = true) (hwb0 : wb ≤ w0.heap.size) (hH0 : H0.length ≤ t.L 0) {a : Act} (hz : a.tmps.size = n) (h : DInv t n wb D ι0 H0 w0 ι lam w a.tmps) {j : Nat} (hn : t.Next D j) (hb : ∀ o,ops[j]? = some o→EQ n ops o = true) {Q : Exit→Act→World→Prop} {K : Act→World→Prop}
    (hK : ∀ ι' lam' v' w' (o : Oper),ops[j]? = some o→DInv t n wb (DTrace.plus D j) ι0 H0 w0 ι' lam' w' (a.put o.dst v').tmps→(∀ q b,lam q = some b→q ∉ Cw tn o→lam' q = some b∧w'.heap[b]? = w.heap[b]?)→K (a.put o.dst v') w') : wpOpIn (FR X) X.2 P ops Q j K a w:=by
  obtain ⟨o,ho⟩:=DTrace.get (ops:=ops) hn.lt
  obtain ⟨Hv,R,s1,s2,s3,s4,s5,s6⟩:=t.step j o ho
  have hv : Seen t j Hv:=⟨s2,s3⟩
  obtain ⟨wv,w1,w2,w3,hs⟩:=h.sees hn hv
  have hbo : EQ n ops o = true:=hb o ho
  obtain ⟨hb1,hb2,hb3⟩:=HY hbo
  have hnm : ∀ x ∈ Hr tn ops o,NRel tn n (ι.cut (t.L j)) lam w a.tmps x (t.Tr j x):=fun x hx=>by
    obtain ⟨g1,g2⟩:=hn.agreeT ho hx
    rw [← g2]
    exact (h.nm x).cut_mono (t.L_mono g1 (Nat.le_of_lt hn.lt))
  have hlok : LamOk w0.heap.size (ι.cut (t.L j)) Hv lam w:=⟨h.lo,fun q b hq a' y ha hy=>by
    obtain ⟨_,_,g3,g4⟩:=hv.ownD h hn ha hy
    exact h.lexcl q b hq a' y g4 g3,h.linj⟩
  have hro : ∀ q blk,lam q = some blk→∀ b n' cells,Hv[b]? = some (.row n' cells .ro)→∀ l,(ι.cut (t.L j)) b = some l→l.blk ≠ blk:=by
    intro q blk hq b n' cells hb2 l hl
    obtain ⟨hlt,hl2⟩:=Emb.cut_some.1 hl
    rw [hv.get b] at hb2
    cases hx : (t.H j)[b]? with
    | none=>rw [hx] at hb2; cases hb2
    | some x =>
      rw [hx] at hb2
      simp only [Option.map_some,Option.some.injEq] at hb2
      have hvw : t.view j b ≠ .dead:=by
        intro e
        rw [e] at hb2
        cases x with
        | row=>simp [Gu,MA] at hb2
        | map=>simp [Gu,MA] at hb2
      have hHD:=(hn.agree hlt (h.dom b l hl2) hvw).2
      rw [hx] at hHD
      have hx2 : ∃ st,x = .row n' cells st∧st ≠ .dead:=by
        cases hvj : t.view j b with
        | see=>rw [hvj] at hb2; simp only [Gu] at hb2; exact ⟨.ro,hb2,by simp⟩
        | dead=>exact absurd hvj hvw
        | frz =>
          rw [hvj] at hb2
          cases x with
          | map=>simp [Gu,frzB] at hb2
          | row n2 c2 st2=>cases st2 <;> simp [Gu,frzB] at hb2 <;> obtain ⟨rfl,rfl⟩:=hb2 <;> exact ⟨_,rfl,by simp⟩
      obtain ⟨st,rfl,hst⟩:=hx2
      cases st with
      | dead=>exact absurd rfl hst
      | act=>exact h.lexcl q blk hq b l (by rw [hHD]; rfl) hl2
      | ro =>
        obtain ⟨_,_,_,_,q2,_⟩:=h.row b n' cells .ro hHD (by simp) l hl2
        have:=q2 rfl
        have:=(h.lo q blk hq).1
        omega
  have hz0 : w0.heap.size ≤ w.heap.size:=h.size0
  have run : ∀ {T1 : Fr} {s1' : St} (h1 : opB P call tn (t.Tr j) o ⟨Hv⟩ (fun T s=>some (T,s)) = some (T1,s1')),T1 = t.Tr (j + 1)→s1'.heap = R→o.wpIn (FR X) X.2 P a w K Q:=by
    intro T1 s1' h1 e1 e2
    refine (Zb2 hcall hro hz0 htn hz hb2 (by rw [hz]; exact hb1) h1 hs hlok fun x hx=>?_).wp fun v' w' ⟨ι',lam',hA⟩=>?_
    · refine hnm x ?_
      unfold Hr VG
      rcases hx with hx | (hx | hx) | hx
      · simp [hx]
      · simp [hx]
      · simp [hx]
      · simp [hx]
    · subst e1
      rw [e2] at hA
      exact hK _ lam' v' w' o ho (h.step hH0 hn hv w1 w3 hwb0 s4 s5 s6 ho rfl hA) hA.keepL
  unfold wpOpIn
  simp only [ho]
  unfold oneB at s1
  split at s1
  · rename_i hg
    have : Region.wanted o (yielded ops a.tmps) = true:=by unfold Region.wanted; rw [hg]
    rw [if_pos this]
    exact run s1 rfl rfl
  · rename_i g hg
    simp only [Option.bind_eq_some_iff] at s1
    obtain ⟨tm,htm,s1⟩:=s1
    split at s1
    case isFalse=>cases s1
    rename_i hl
    have hmem : tm ∈ Hr tn ops o:=by
      unfold Hr VG gTmp
      obtain ⟨q1,q2⟩:=g
      unfold Ea at htm
      simp only at htm
      simp [hg,htm]
    obtain ⟨g0,g1,g2⟩:=Lg hg htm hl hz hb3 (hnm tm hmem)
    rcases Ed s1 with ⟨hv1,s1⟩ | ⟨hv1,s1⟩
    · have hw : Region.wanted o (yielded ops a.tmps) = true:=by rw [g1 g.2 hv1]; simp
      rw [if_pos hw]
      exact run s1 rfl rfl
    · have hw : Region.wanted o (yielded ops a.tmps) = false:=by
        rcases hv1 with hv1 | hv1
        · rw [g1 _ hv1]; cases g.2 <;> rfl
        · exact g2 hv1
      rw [if_neg (by rw [hw]; simp)]
      refine ⟨fun _ _=>trivial,?_⟩
      simp only [Option.some.injEq,Prod.mk.injEq] at s1
      obtain ⟨e1,e2⟩:=s1
      have e2' : Hv = R:=by cases e2; rfl
      -- nothing is done: a step of a value unset
      have hA : AfterL tn n wv w0.heap.size (ι.cut (t.L j)) lam Hv w (t.Tr j) (Cw tn o) (ι.cut (t.L j)) lam R w (t.Tr (j + 1)) (a.put o.dst undef).tmps:=by
        rw [← e2',← e1]
        refine { sim := hs,lok := hlok,le := .refl _,old := fun _ _ => rfl,img := fun b x hx hb => absurd (hs.dom b x hx) (by omega),keep := fun _ _ _ _ => rfl,keepL := fun q b hq _ => ⟨hq,rfl⟩,keepP := fun _ _ _ _ => rfl,
                 lnew:=fun _ _ hq=>.inl hq,size:=Nat.le_refl _,os:=rfl,tape:=rfl,output:=rfl,len:=Nat.le_refl _,own:=fun _ _ h=>h,nm:=fun x hx=>?_,frame:=fun x hx=>Di fun hh=>hx (FX hh) }
        have hb0:=(hnm x (by unfold Hr; simp [hx]))
        by_cases hxd : x ∈ o.dst.toList
        · cases hd : o.dst with
          | none=>rw [hd] at hxd; simp at hxd
          | some d =>
            rw [hd] at hxd hb2
            simp at hxd
            subst hxd
            have hlt : x < n:=by simpa [dstB] using hb2
            unfold NRel
            rw [if_pos hlt,N3,G1 (by omega)]
            split
            · exact Cb _
            · exact .inl ⟨_,rfl⟩
        · rw [Di hxd]
          unfold NRel at hb0 ⊢
          rw [Lf hxd]
          exact hb0
      exact hK _ lam undef w o ho (h.step hH0 hn hv w1 w3 hwb0 s4 s5 s6 ho rfl hA) hA.keepL
theorem count_set {l : Array Bool} {j : Nat} (hj : j < l.size) (hf : l[j] = false) : (l.setIfInBounds j true).toList.count false + 1 = l.toList.count false:=by
  have h1 : (l.setIfInBounds j true).toList = l.toList.set j true:=by simp
  have hpos : 0 < l.toList.count false:=List.count_pos_iff.2 (by
    rw [List.mem_iff_getElem]
    exact ⟨j,by simpa using hj,by simpa using hf⟩)
  rw [h1,List.count_set (by simpa using hj)]
  have h2 : (l.toList[j]'(by simpa using hj) == false) = true:=by simpa using hf
  have h3 : ((true : Bool) == false) = false:=rfl
  rw [if_pos h2,if_neg (by rw [h3]; simp)]
  omega
theorem Zat {X : Option Nat × Nat} (hcall : DZ P call) (htn : tnOk n m tn = true) (hwb0 : wb ≤ w0.heap.size) (hH0 : H0.length ≤ t.L 0) {a0 : Act} {Q : Exit→Act→World→Prop} (hsz0 : ops.toList.all (EQ n ops) = true)
    (hQ : ∀ ι lam a w,BSim tn n wb ι0 H0 w0 ι lam (t.Tr ops.size) (t.H ops.size) a.tmps w→a.defers = a0.defers→a.tmps.size = n→Q .normal a w) :
    ∀ (fuel : Nat) (listed : Array Bool) (a : Act) (w : World) (ι : Emb) (lam : Lam),listed.size = ops.size→listed.toList.count false ≤ fuel→(∀ j o,ops[j]? = some o→listed.getD j false = true→∀ e ∈ o.after,Region.binds .any e = true→listed.getD e.on false = true) →
      DInv t n wb (fun k=>listed.getD k false = true) ι0 H0 w0 ι lam w a.tmps→a.defers = a0.defers→a.tmps.size = n→wpAnyIn (FR X) X.2 P .any ops Q fuel listed a w:=by
  have hfull : ∀ (listed : Array Bool) (a : Act) (w : World) (ι : Emb) (lam : Lam),listed.size = ops.size→Region.ready .any ops listed = [] →
      DInv t n wb (fun k=>listed.getD k false = true) ι0 H0 w0 ι lam w a.tmps→a.defers = a0.defers→a.tmps.size = n→Q .normal a w:=by
    intro listed a w ι lam hls hr hI h1 h2
    have hall : ∀ j,j < ops.size→listed.getD j false = true:=by
      intro j
      induction j using Nat.strongRecOn with
      | _ j ih =>
        intro hj
        cases hx : listed.getD j false with
        | true=>rfl
        | false =>
          exfalso
          obtain ⟨o,ho⟩:=DTrace.get (ops:=ops) hj
          have : j ∈ Region.ready .any ops listed:=mem_ready.2 ⟨by
            have hjl : j < listed.size:=by omega
            simp [hjl] at hx ⊢
            exact hx,o,ho,fun e he hb=>by
            have:=t.edge j o ho e he hb
            exact ih e.on this (by omega)⟩
          rw [hr] at this
          cases this
    exact hQ ι lam a w (hI.finish hH0 hall) h1 h2
  intro fuel
  induction fuel with
  | zero =>
    intro listed a w ι lam hls hc hcl hI h1 h2
    have hr : Region.ready .any ops listed = []:=by
      rw [List.eq_nil_iff_forall_not_mem]
      intro j hj
      obtain ⟨h3,o,ho,_⟩:=mem_ready.1 hj
      have hjl : j < listed.size:=by
        rw [hls]; exact (Array.getElem?_eq_some_iff.1 ho).1
      have hf : listed[j] = false:=by simpa [hjl] using h3
      have : 0 < listed.toList.count false:=List.count_pos_iff.2 (by
        rw [List.mem_iff_getElem]
        exact ⟨j,by simpa using hjl,by simpa using hf⟩)
      omega
    exact ⟨hr,hfull listed a w ι lam hls hr hI h1 h2⟩
  | succ fuel ih =>
    intro listed a w ι lam hls hc hcl hI h1 h2
    refine ⟨fun hr=>hfull listed a w ι lam hls hr hI h1 h2,fun j hj=>?_⟩
    obtain ⟨h3,o,ho,h4⟩:=mem_ready.1 hj
    have hjo : j < ops.size:=(Array.getElem?_eq_some_iff.1 ho).1
    have hjl : j < listed.size:=by rw [hls]; exact hjo
    have hf : listed[j] = false:=by simpa [hjl] using h3
    have hn : t.Next (fun k=>listed.getD k false = true) j:=by
      refine ⟨hjo,fun i k hk hD hb=>?_,by simp [hjl,hf],fun i hb=>t.reach (fun k=>listed.getD k false = true) hcl j o ho h4 i hb⟩
      obtain ⟨ok,hok⟩:=DTrace.get (ops:=ops) hk
      exact t.reach (fun k=>listed.getD k false = true) hcl k ok hok (hcl k ok hok hD) i hb
    have heq : DTrace.plus (fun k=>listed.getD k false = true) j = fun k=>(listed.setIfInBounds j true).getD k false = true:=by
      funext k
      unfold DTrace.plus
      by_cases hkj : k = j
      · subst hkj; simp [hjl]
      · rw [getD_set_ne false (Ne.symm hkj)]; simp [hkj]
    refine hI.op hcall htn hwb0 hH0 h2 hn (fun o ho=>List.all_eq_true.1 hsz0 o (by
      have:=Array.mem_of_getElem? ho
      simpa using this)) fun ι' lam' v' w' o' ho' hI' _=>?_
    rw [heq] at hI'
    refine ih (listed.setIfInBounds j true) _ w' ι' lam' (by simpa using hls) (by have:=count_set hjl hf; omega) (fun k q hq hD e he hb=>?_) hI' (by rw [DM]; exact h1) (by rw [FU]; exact h2)
    by_cases hkj : k = j
    · subst hkj
      rw [ho] at hq
      cases hq
      exact getD_set_true (h4 e he hb)
    · rw [getD_set_ne false (Ne.symm hkj)] at hD
      exact getD_set_true (hcl k q hq hD e he hb)
theorem BSim.drawn {T : Fr} {H : List Blk} {tmps : Array Value} (h : BSim tn n wb ι0 H0 w0 ι lam T H tmps w) : BSim tn n wb ι0 H0 w0 ι lam T H tmps { w with drawn:=w.drawn + 1 } where
  sim:=h.sim.congr rfl
  lok:=⟨h.lok.lo,h.lok.excl,h.lok.inj⟩
  step:=⟨h.step.le,h.step.old,h.step.img,h.step.keep,h.step.size,h.step.os,h.step.tape,h.step.output,h.step.len,h.step.own⟩
  nm:=h.nm
theorem Mc {X : Option Nat × Nat} (hcall : DZ P call) (htn : tnOk n m tn = true) {id : Nat} {T T' : Fr} {s s' : St} (hd : Kb P tn ops = true) (ht : ∃ t : DTrace P call tn ops,t.Tr 0 = T∧t.H 0 = s.heap∧t.Tr ops.size = T'∧t.H ops.size = s'.heap)
    (hb : ops.toList.all (EQ n ops) = true) (hwb0 : wb ≤ w0.heap.size) {a : Act} (hs : BSim tn n wb ι0 H0 w0 ι lam T s.heap a.tmps w) (hz : a.tmps.size = n) {Q : Exit→Act→World→Prop}
    (hQ : ∀ ι' lam' a' w',BSim tn n wb ι0 H0 w0 ι' lam' T' s'.heap a'.tmps w'→a'.tmps.size = n→a'.defers = a.defers→Q .normal a' w') : (Code.region id ops true).wpIn (FR X) X.2 P Q a w:=by
  have hm : P.follows .mixedOrders = true:=by
    simp only [Kb,Bool.and_eq_true] at hd
    exact hd.1.1
  obtain ⟨t,e1,e2,e3,e4⟩:=ht
  refine wpIn_region_any hm ?_
  have hrep : ∀ k,¬ ((Array.replicate ops.size false).getD k false = true):=by
    intro k
    by_cases hk : k < ops.size
    · simp [hk]
    · simp [hk]
  have hs1:=hs.drawn
  rw [← e1,← e2] at hs1
  refine Zat (t:=t) (ι0:=ι0) (w0:=w0) (H0:=H0) (a0:=a) hcall htn hwb0 (by unfold DTrace.L; rw [e2]; exact hs.step.len) hb (fun κ lam' a' w' g1 g4 g5=>?_) ops.size (Array.replicate ops.size false) a _ ι lam (by simp) (by simp) (fun j o ho hD=>absurd hD (hrep j)) (DInv.start hrep hs1) rfl hz
  rw [e4,e3] at g1
  exact hQ κ lam' a' w' g1 g5 g4
theorem WW {X : Option Nat × Nat} (hcall : DZ P call) (htn : tnOk n m tn = true) {id : Nat} {T T' : Fr} {s s' : St} (hd : Kb P tn ops = true) (h : HQ P call tn ops (BG [] ops.toList) (B7 P tn 0 ops.toList) T s.heap.length 0 ops.toList T s = some (T',s'))
    (hb : ops.toList.all (EQ n ops) = true) (hwb0 : wb ≤ w0.heap.size) {a : Act} (hs : BSim tn n wb ι0 H0 w0 ι lam T s.heap a.tmps w) (hz : a.tmps.size = n) {Q : Exit→Act→World→Prop}
    (hQ : ∀ ι' lam' a' w',BSim tn n wb ι0 H0 w0 ι' lam' T' s'.heap a'.tmps w'→a'.tmps.size = n→a'.defers = a.defers→Q .normal a' w') : (Code.region id ops true).wpIn (FR X) X.2 P Q a w :=
  Mc hcall htn hd (by obtain ⟨t,a,b,c,d,_⟩:=DTrace.of hd h; exact ⟨t,a,b,c,d⟩) hb hwb0 hs hz hQ
theorem UK {X : Option Nat × Nat} (hcall : DZ P call) (htn : tnOk n m tn = true) {id : Nat} {T T' T1 : Fr} {s s' : St} (hd : Kb P tn ops = true) (h : HR P call tn ops (BG [] ops.toList) (B7 P tn 0 ops.toList) T1 0 ops.toList T s = some (T',s'))
    (hb : ops.toList.all (EQ n ops) = true) (hwb0 : wb ≤ w0.heap.size) {a : Act} (hs : BSim tn n wb ι0 H0 w0 ι lam T s.heap a.tmps w) (hz : a.tmps.size = n) {Q : Exit→Act→World→Prop}
    (hQ : ∀ ι' lam' a' w',BSim tn n wb ι0 H0 w0 ι' lam' T' s'.heap a'.tmps w'→a'.tmps.size = n→a'.defers = a.defers→Q .normal a' w') : (Code.region id ops true).wpIn (FR X) X.2 P Q a w :=
  Mc hcall htn hd (DTrace.ofA hd h) hb hwb0 hs hz hQ
end
section
variable {P : Program} {call : Aa} {tn : Tn} {ops : Array Oper}
theorem Ob {x : Nat} : ∀ {l : List Nat},x ∈ Jr l ↔ x ∈ l
  | []=>by simp [Jr]
  | y :: l=>by
    simp only [Jr]
    cases hm : memN y l with
    | true =>
      have:=Ki.1 hm
      simp only [cond_true,Ob (l:=l),List.mem_cons]
      constructor
      · exact .inr
      · rintro (rfl | h)
        · exact this
        · exact h
    | false=>simp only [cond_false,List.mem_cons,Ob (l:=l)]
theorem VU {sets : List Nat} {T T2 : Fr} (hk : ∀ x,x ∉ sets→T2 x = T x) : ofL (Jr sets) 0 (toL (Jr sets) T2) (PO sets T) = T2:=by
  funext x
  rcases Rx (L:=Jr sets) (T2:=T2) (T0:=PO sets T) x with ⟨_,h⟩ | ⟨hm,h⟩
  · exact h
  · rw [h]
    have hx : x ∉ sets:=fun hh=>hm (Ob.2 hh)
    unfold PO
    cases hmm : memN x sets with
    | true=>exact absurd (Ki.1 hmm) hx
    | false=>exact (hk x hx).symm
theorem UL {T : Fr} {o : Oper} {s : St} {β : Type} (k : Fr→St→Option β) : oneK P call tn ops T o s k = (oneB P call tn ops T o s).bind fun r=>k r.1 r.2:=by
  unfold oneK oneB
  cases hg : o.guard with
  | none=>exact UH k
  | some g =>
    simp only
    cases ht : Ea ops g with
    | none=>rfl
    | some t =>
      simp only [Option.bind_some]
      split
      · rw [Ll,Ll]
        congr 1
        · rw [UH]
          cases h1 : opB P call tn T o s fun T s=>some (T,s) with
          | none=>rfl
          | some r =>
            obtain ⟨T1,s1⟩:=r
            simp only [Option.bind_some]
            rw [VU fun x hx=>Kg h1 hx]
        · simp only [Option.bind_some]
          rw [VU fun x hx=>Di fun hh=>hx (FX hh)]
      · rfl
theorem WX {T : Fr} {o : Oper} (hl : ZcC P o = true) {s s1 : St} {v : Value} (h : valB P call tn ops T o s = some (v,s1)) : s1 = s:=by
  have key : ∀ (h : Bv P call T o s (fun v s=>some (v,s)) = some (v,s1)),s1 = s:=by
    intro h
    unfold ZcC at hl
    split at hl
    · rename_i t x ho
      simp only [Bv,ho,Option.bind_eq_some_iff] at h
      obtain ⟨_,_,_,_,_,_,_,_,h⟩:=h
      cases h; rfl
    · rename_i c ho
      split at hl
      · rename_i hc
        simp only [Bv,ho,hc,Option.bind_eq_some_iff] at h
        obtain ⟨xs,_,h⟩:=h
        unfold C1 at h
        split at h
        any_goals contradiction
        split at h
        · cases h; rfl
        · split at h
          · cases h; rfl
          · cases h
        · simp only [Option.bind_eq_some_iff] at h
          obtain ⟨_,_,h⟩:=h
          cases h; rfl
        · cases h
      · cases hl
    · rename_i src dst x ho
      split at hl
      · rename_i e h1 h2
        simp only [Bv,ho,h1,h2,Option.bind_eq_some_iff] at h
        obtain ⟨_,_,h⟩:=h
        split at h
        · simp only [Option.bind_eq_some_iff] at h
          obtain ⟨_,_,h⟩:=h
          cases h; rfl
        · cases h
      · cases hl
    · cases hl
  unfold valB at h
  split at h
  · exact key h
  · simp only [Option.bind_eq_some_iff] at h
    obtain ⟨t,_,h⟩:=h
    split at h
    case isFalse=>cases h
    rcases Ed h with ⟨_,h⟩ | ⟨_,h⟩
    · exact key h
    · cases h; rfl
theorem Zau {bf : List Nat} {mm : Nat} {T0 : Fr} {n0 i : Nat} {o : Oper} {T : Fr} {s : St} {β : Type} (k : Fr→St→Option β) :
    ZcD P call tn ops bf mm T0 n0 i o T s k = (MB P call tn ops bf mm T0 n0 i o T s).bind fun r=>k r.1 r.2:=by
  unfold ZcD MB
  cases F4 P tn bf ops.size mm i o with
  | pure=>exact UL k
  | own=>simp only [Option.bind_assoc,Option.bind_some]
  | quiet =>
    simp only
    split
    · rename_i hl
      simp only [Option.bind_assoc,Option.bind_some]
      cases hx : valB P call tn ops T o ⟨frzK (DD P tn ops.toList bf ops.size mm T0 n0 i 0 ops.toList) 0 s.heap⟩ with
      | none=>rfl
      | some r =>
        obtain ⟨v,s1⟩:=r
        have:=WX hl hx
        subst this
        have hd : List.drop s.heap.length (frzK (DD P tn ops.toList bf ops.size mm T0 n0 i 0 ops.toList) 0 s.heap) = []:=List.drop_eq_nil_of_le (by rw [Bk]; exact Nat.le_refl _)
        simp [hd,Dp]
    · simp only [Option.map_eq_bind,Option.bind_assoc,Option.bind_some,Function.comp,Dp]
  | store =>
    simp only [Option.bind_assoc]
    congr 1
    funext t
    split
    · rfl
    · simp only [Option.bind_assoc,Option.bind_some]
  | bad=>rfl
theorem Kn {bf : List Nat} {mm : Nat} {T0 : Fr} {n0 : Nat} {β : Type} : ∀ {l : List Oper} {i : Nat} {T : Fr} {s : St} (k : Fr→St→Option β),VI P call tn ops bf mm T0 n0 i l T s k = (HQ P call tn ops bf mm T0 n0 i l T s).bind fun r=>k r.1 r.2
  | [],_,_,_,_=>rfl
  | o :: l,i,T,s,k=>by
    simp only [VI,HQ,Zau,Option.bind_assoc]
    congr 1
    funext r
    exact Kn k
theorem Yj {bf : List Nat} {mm : Nat} {T1 : Fr} {i : Nat} {o : Oper} {T : Fr} {s : St} {β : Type} (k : Fr→St→Option β) :
    X3 P call tn ops bf mm T1 i o T s k = (Jt P call tn ops bf mm T1 i o T s).bind fun r=>k r.1 r.2:=by
  unfold X3 Jt
  cases EH P tn bf ops.size mm i o with
  | pure=>exact UL k
  | own=>simp only [Option.bind_assoc,Option.bind_some]
  | quiet=>simp only [Option.bind_assoc,Option.bind_some]
  | store=>rfl
  | bad =>
    simp only
    split
    · simp only [Option.bind_assoc,Option.bind_some]
    · rfl
theorem IA {bf : List Nat} {mm : Nat} {T1 : Fr} {β : Type} : ∀ {l : List Oper} {i : Nat} {T : Fr} {s : St} (k : Fr→St→Option β),Rj P call tn ops bf mm T1 i l T s k = (HR P call tn ops bf mm T1 i l T s).bind fun r=>k r.1 r.2
  | [],_,_,_,_=>rfl
  | o :: l,i,T,s,k=>by
    simp only [Rj,HR,Yj,Option.bind_assoc]
    congr 1
    funext r
    exact IA k
theorem UM {L : List Nat} : ∀ {l : List Oper} {T : Fr} {s : St},dryK P call tn ops L l T s = dryB P call tn ops L l T s
  | [],_,_=>rfl
  | o :: l,T,s=>by
    simp only [dryK,dryB,UL]
    congr 1
    funext r
    exact UM
end
end Go.Proofs.YtmbhnbladmpnoaaGreat.Ab

/- Nothing: this seat's regions have no map's literal. -/
namespace Go.Proofs.YtmbhnbladmpnoaaGreat.Ab
end Go.Proofs.YtmbhnbladmpnoaaGreat.Ab

/- The abstract machine with variables in the frame,against the model: code,functions. -/
namespace Go.Proofs.YtmbhnbladmpnoaaGreat.Ab
open Go
def EW (n : Nat) : Code→Bool
  | .region _ ops _=>ops.toList.all (EQ n ops)
  | .seq a b=>EW n a && EW n b
  | .cond c a b=>opdB n c && EW n a && EW n b
  | .block _ a=>EW n a
  | .loop a=>EW n a
  | _=>true
def Ex.to : Ex→Exit
  | .normal=>.normal
  | .exit id=>.exit id
  | .ret=>.ret
theorem Zav {β : Type} {e : Ex} {ids : List Nat} {f : Nat→Option β} {x : Option β} {r : β} (h : exV e (ids.map fun i=>(i,f i)) x = some r) : (∃ i,e = .exit i∧f i = some r) ∨ (e = .ret∧x = some r):=by
  cases e with
  | normal=>cases h
  | ret=>exact .inr ⟨rfl,h⟩
  | exit j =>
    left
    refine ⟨j,rfl,?_⟩
    simp only [exV] at h
    induction ids with
    | nil=>simp [PP] at h
    | cons i l ih =>
      simp only [List.map_cons,PP] at h
      split at h
      · rename_i hj; rw [hj]; exact h
      · exact ih h
section
variable {P : Program} {call : Aa} {tn : Tn} {n m wb : Nat}
def Dz (P : Program) (tn : Tn) (n wb : Nat) (c : Code) (T : Fr) (s : St) (e : Ex) (T' : Fr) (s' : St) : Prop :=
  ∀ (X : Option Nat × Nat) (ι0 : Emb) (H0 : List Blk) (w0 : World) (ι : Emb) (lam : Lam) (a : Act) (w : World),wb ≤ w0.heap.size→BSim tn n wb ι0 H0 w0 ι lam T s.heap a.tmps w→a.tmps.size = n→EW n c = true→∀ Q : Exit→Act→World→Prop,
    (∀ ι' lam' a' w',BSim tn n wb ι0 H0 w0 ι' lam' T' s'.heap a'.tmps w'→a'.tmps.size = n→a'.defers = a.defers→Q e.to a' w')→c.wpIn (FR X) X.2 P Q a w
theorem Dz.weakR {c : Code} {T : Fr} {s : St} {e : Ex} {T' T2 : Fr} {s' : St} (h : Dz P tn n wb c T s e T' s') (hw : ∀ x,T2 x = T' x ∨ T2 x = CB) : Dz P tn n wb c T s e T2 s' :=
  fun Y ι0 H0 w0 ι lam a w h1 h2 h3 h4 Q hQ=>h Y ι0 H0 w0 ι lam a w h1 h2 h3 h4 Q fun ι' lam' a' w' g1 g2 g3=>hQ ι' lam' a' w' (g1.weak hw) g2 g3
theorem Dz.weakL {c : Code} {T T0 : Fr} {s : St} {e : Ex} {T' : Fr} {s' : St} (h : Dz P tn n wb c T s e T' s') (hw : ∀ x,T x = T0 x ∨ T x = CB) : Dz P tn n wb c T0 s e T' s' :=
  fun Y ι0 H0 w0 ι lam a w h1 h2 h3 h4 Q hQ=>h Y ι0 H0 w0 ι lam a w h1 (h2.weak hw) h3 h4 Q hQ
theorem kept (L : List Nat) (T : Fr) (x : Nat) : ofL L 0 (toL L T) noT x = T x ∨ ofL L 0 (toL L T) noT x = CB:=by
  rcases Rx (L:=L) (T2:=T) (T0:=noT) x with ⟨_,h⟩ | ⟨_,h⟩
  · exact .inl h
  · exact .inr h
theorem WY {c : Code} {body : List Value→St→Res} {F : List Value→Fr} {E : Ex→List Value→Fr} (hbody : ∀ X s e X' s',body X s = some (e,X',s')→Dz P tn n wb c (F X) s e (E e X') s') (hE : ∀ X,E .normal X = F X) :
    ∀ (q : Nat) (X : List Value) (s : St) (e : Ex) (X' : List Value) (s' : St),DW body q X s = some (e,X',s')→Dz P tn n wb (.loop c) (F X) s e (E e X') s':=by
  intro q X s e X' s' h Y ι0 H0 w0 ι lam a w hwb hs hz hb Q hQ
  have key : ∀ (q : Nat) (X : List Value) (s : St) (ι : Emb) (lam : Lam) (a2 : Act) (w : World),DW body q X s = some (e,X',s')→BSim tn n wb ι0 H0 w0 ι lam (F X) s.heap a2.tmps w→a2.tmps.size = n→a2.defers = a.defers→Code.roundsIn (FR Y) Y.2 P c Q q a2 w:=by
    intro q
    induction q with
    | zero=>intro X s ι lam a2 w h; simp [DW] at h
    | succ q ih =>
      intro X s ι lam a2 w h hs hz hd
      simp only [DW,seqA,Option.bind_eq_some_iff] at h
      obtain ⟨⟨e1,X1,s1⟩,h1,h2⟩:=h
      rw [roundsIn_succ]
      refine hbody X s e1 X1 s1 h1 Y ι0 H0 w0 ι lam a2 w hwb hs hz hb _ fun ι' lam' a1 w1 g1 g2 g3=>?_
      cases e1 with
      | normal =>
        rw [hE] at g1
        exact ih X1 s1 ι' lam' a1 w1 h2 g1 g2 (g3.trans hd)
      | exit id=>simp at h2; obtain ⟨rfl,rfl,rfl⟩:=h2; exact hQ ι' lam' a1 w1 g1 g2 (g3.trans hd)
      | ret=>simp at h2; obtain ⟨rfl,rfl,rfl⟩:=h2; exact hQ ι' lam' a1 w1 g1 g2 (g3.trans hd)
  exact wpIn_loop_rounds q (key q X s ι lam a w h hs hz rfl)
theorem Oc {lp : (List Value→St→Res)→List Value→St→Res} (hcall : DZ P call) (htn : tnOk n m tn = true) (hlp : ∀ body X s r,lp body X s = some r→∃ q,DW body q X s = some r) {wd : Nat} :
    ∀ (c : Code),EW n c = true→∀ (lo : Lo) {β : Type} (T : Fr) (s : St) (k : Ex→Fr→St→Option β) (r : β),Cj P call tn lp wd c lo T s k = some r→∃ e T' s',k e T' s' = some r∧Dz P tn n wb c T s e T' s':=by
  intro c
  induction c with
  | skip =>
    intro hcw lo β T s k r h
    refine ⟨.normal,T,s,h,?_⟩
    intro X ι0 H0 w0 ι lam a w hwb hs hz hb Q hQ
    exact wpIn_skip (hQ ι lam a w hs hz rfl)
  | region id ops draw =>
    intro hcw lo β T s k r h
    cases draw with
    | false =>
      simp only [Cj] at h
      obtain ⟨T1,s1,h1,h2⟩:=Lh (wb:=wb) hcall htn (ops:=ops) (i:=0) (fun j hj=>by rw [Ry]; simp) (Td _) (fun o ho=>by rw [Ry] at ho; exact List.all_eq_true.1 hcw o ho) h
      refine ⟨.normal,T1,s1,h1,?_⟩
      intro X ι0 H0 w0 ι lam a w hwb hs hz hb Q hQ
      refine wpIn_region ?_
      have:=h2 X ι0 H0 w0 ι lam a w hwb hs hz Q [] (fun ι' lam' a' w' g1 g2 g3=>hQ ι' lam' a' w' g1 g2 g3)
      rw [Ry] at this
      rw [List.range_eq_range']
      simpa using this
    | true =>
      simp only [Cj] at h
      focus
        split at h
        case isFalse=>cases h
        rename_i hd
        cases ha : VJ P tn (BG [] ops.toList) ops.size (B7 P tn 0 ops.toList) 0 ops.toList with
        | true =>
          simp only [ha,cond_true,IA,Option.bind_eq_some_iff] at h
          obtain ⟨X,_,⟨T1,s1⟩,h1,h2⟩:=h
          refine ⟨.normal,T1,s1,h2,?_⟩
          intro X ι0 H0 w0 ι lam a w hwb hs hz hb Q hQ
          exact UK hcall htn hd h1 hb hwb hs hz hQ
        | false =>
          simp only [ha,cond_false,Kn,Option.bind_eq_some_iff] at h
          obtain ⟨⟨T1,s1⟩,h1,h2⟩:=h
          refine ⟨.normal,T1,s1,h2,?_⟩
          intro X ι0 H0 w0 ι lam a w hwb hs hz hb Q hQ
          exact WW hcall htn hd h1 hb hwb hs hz hQ
  | seq x y ihx ihy =>
    intro hcw lo β T s k r h
    simp only [Cj] at h
    simp only [EW,Bool.and_eq_true] at hcw
    obtain ⟨e1,T1,s1,h1,h2⟩:=ihx hcw.1 _ T s _ r h
    cases e1 with
    | normal =>
      have key : ∀ {T2 : Fr},(∀ q,T2 q = T1 q ∨ T2 q = CB)→Cj P call tn lp wd y lo T2 s1 k = some r→∃ e T' s',k e T' s' = some r∧Dz P tn n wb (.seq x y) T s e T' s':=by
        intro T2 hw h1
        obtain ⟨e2,T3,s2,h3,h4⟩:=ihy hcw.2 lo T2 s1 k r h1
        refine ⟨e2,T3,s2,h3,?_⟩
        intro X ι0 H0 w0 ι lam a w hwb hs hz hb Q hQ
        simp only [EW,Bool.and_eq_true] at hb
        refine wpIn_seq (h2 X ι0 H0 w0 ι lam a w hwb hs hz hb.1 _ fun ι' lam' a1 w1 g1 g2 g3=>?_)
        exact h4 X ι0 H0 w0 ι' lam' a1 w1 hwb (g1.weak hw) g2 hb.2 Q fun ι2 lam2 a2 w2 q1 q2 q3=>hQ ι2 lam2 a2 w2 q1 q2 (q3.trans g3)
      cases hj : ZcE x y with
      | true =>
        rw [hj] at h1
        exact key (kept (EU (lvIn tn y lo) wd 0) T1) h1
      | false =>
        rw [hj] at h1
        exact key (fun _=>.inl rfl) h1
    | exit id =>
      refine ⟨.exit id,T1,s1,h1,?_⟩
      intro X ι0 H0 w0 ι lam a w hwb hs hz hb Q hQ
      simp only [EW,Bool.and_eq_true] at hb
      exact wpIn_seq (h2 X ι0 H0 w0 ι lam a w hwb hs hz hb.1 _ fun ι' lam' a1 w1 g1 g2 g3=>hQ ι' lam' a1 w1 g1 g2 g3)
    | ret =>
      refine ⟨.ret,T1,s1,h1,?_⟩
      intro X ι0 H0 w0 ι lam a w hwb hs hz hb Q hQ
      simp only [EW,Bool.and_eq_true] at hb
      exact wpIn_seq (h2 X ι0 H0 w0 ι lam a w hwb hs hz hb.1 _ fun ι' lam' a1 w1 g1 g2 g3=>hQ ι' lam' a1 w1 g1 g2 g3)
  | cond c x y ihx ihy =>
    intro hcw lo β T s k r h
    simp only [Cj] at h
    simp only [EW,Bool.and_eq_true] at hcw
    split at h
    case isFalse=>cases h
    rename_i hcl
    simp only [Option.bind_eq_some_iff] at h
    obtain ⟨v,hv,h⟩:=h
    have hev : ∀ {ι0 : Emb} {H0 : List Blk} {w0 : World} {ι : Emb} {lam : Lam} {a : Act} {w : World},BSim tn n wb ι0 H0 w0 ι lam T s.heap a.tmps w→opdB n c = true→VRel ι v (a.eval c):=by
      intro ι0 H0 w0 ι lam a w hs hb
      cases c with
      | tmp t =>
        simp only [opd,Option.some.injEq] at hv
        subst hv
        have:=hs.nm t
        unfold NRel at this
        rw [if_pos (by simpa [opdB] using hb)] at this
        have hl : look t tn = none:=by simpa [Cr,tOf] using hcl
        rw [hl] at this
        exact this
      | const u =>
        simp only [opd] at hv
        split at hv
        · rename_i hc; cases hv; exact Iy hc
        · cases hv
      | global g=>simp [opd] at hv
      | func f=>simp only [opd,Option.some.injEq] at hv; subst hv; exact .of0 (.func _)
    unfold Ax at h
    split at h
    · rename_i b
      cases b with
      | true =>
        obtain ⟨e1,T1,s1,h1,h2⟩:=ihx hcw.1.2 lo T s k r (by simpa using h)
        refine ⟨e1,T1,s1,h1,?_⟩
        intro X ι0 H0 w0 ι lam a w hwb hs hz hb Q hQ
        simp only [EW,Bool.and_eq_true] at hb
        exact wpIn_cond_true (hev hs hb.1.1).inv_bool (h2 X ι0 H0 w0 ι lam a w hwb hs hz hb.1.2 Q hQ)
      | false =>
        obtain ⟨e1,T1,s1,h1,h2⟩:=ihy hcw.2 lo T s k r (by simpa using h)
        refine ⟨e1,T1,s1,h1,?_⟩
        intro X ι0 H0 w0 ι lam a w hwb hs hz hb Q hQ
        simp only [EW,Bool.and_eq_true] at hb
        exact wpIn_cond_false (hev hs hb.1.1).inv_bool (h2 X ι0 H0 w0 ι lam a w hwb hs hz hb.2 Q hQ)
    · cases h
  | block id x ih =>
    intro hcw lo β T s k r h
    simp only [Cj] at h
    obtain ⟨e1,T1,s1,h1,h2⟩:=ih hcw _ T s _ r h
    cases e1 with
    | normal =>
      refine ⟨.normal,T1,s1,h1,?_⟩
      intro X ι0 H0 w0 ι lam a w hwb hs hz hb Q hQ
      exact wpIn_block (h2 X ι0 H0 w0 ι lam a w hwb hs hz hb _ fun ι' lam' a1 w1 g1 g2 g3=>hQ ι' lam' a1 w1 g1 g2 g3)
    | ret =>
      refine ⟨.ret,T1,s1,h1,?_⟩
      intro X ι0 H0 w0 ι lam a w hwb hs hz hb Q hQ
      exact wpIn_block (h2 X ι0 H0 w0 ι lam a w hwb hs hz hb _ fun ι' lam' a1 w1 g1 g2 g3=>hQ ι' lam' a1 w1 g1 g2 g3)
    | exit j =>
      simp only at h1
      split at h1
      · rename_i hj
        refine ⟨.normal,T1,s1,h1,?_⟩
        intro X ι0 H0 w0 ι lam a w hwb hs hz hb Q hQ
        refine wpIn_block (h2 X ι0 H0 w0 ι lam a w hwb hs hz hb _ fun ι' lam' a1 w1 g1 g2 g3=>?_)
        simp only [Ex.to,Exit.inBlock,hj,if_true]
        exact hQ ι' lam' a1 w1 g1 g2 g3
      · rename_i hj
        refine ⟨.exit j,T1,s1,h1,?_⟩
        intro X ι0 H0 w0 ι lam a w hwb hs hz hb Q hQ
        refine wpIn_block (h2 X ι0 H0 w0 ι lam a w hwb hs hz hb _ fun ι' lam' a1 w1 g1 g2 g3=>?_)
        simp only [Ex.to,Exit.inBlock,hj,if_false]
        exact hQ ι' lam' a1 w1 g1 g2 g3
  | loop x ih =>
    intro hcw lo β T s k r h
    simp only [Cj,Option.bind_eq_some_iff] at h
    obtain ⟨⟨e1,X1,s1⟩,h1,h2⟩:=h
    obtain ⟨q,hq⟩:=hlp _ _ _ _ h1
    have hloop:=WY (P:=P) (wb:=wb) (n:=n) (c:=x) (F:=fun X=>ofL (EU (lvIn tn (.loop x) lo) wd 0) 0 X noT) (E:=fun e X=>ofL (WE wd (EU (lvIn tn (.loop x) lo) wd 0) lo e) 0 X noT) (fun X s e X' s' hb=>by
      obtain ⟨e2,T2,s2,h3,h4⟩:=ih hcw _ _ s _ _ hb
      cases h3
      exact h4.weakR (kept _ T2)) (fun X=>rfl) q _ s e1 X1 s1 hq
    have h3 : k e1 (ofL (WE wd (EU (lvIn tn (.loop x) lo) wd 0) lo e1) 0 X1 noT) s1 = some r:=by
      rcases Zav h2 with ⟨i,he,h3⟩ | ⟨he,h3⟩
      · simp only at he h3; rw [he]; exact h3
      · split at h3
        · simp only at he; rw [he]; exact h3
        · cases h3
    exact ⟨e1,_,s1,h3,hloop.weakL (kept _ T)⟩
  | exit id =>
    intro hcw lo β T s k r h
    refine ⟨.exit id,T,s,h,?_⟩
    intro X ι0 H0 w0 ι lam a w hwb hs hz hb Q hQ
    exact wpIn_exit (hQ ι lam a w hs hz rfl)
  | ret =>
    intro hcw lo β T s k r h
    refine ⟨.ret,T,s,h,?_⟩
    intro X ι0 H0 w0 ι lam a w hwb hs hz hb Q hQ
    exact wpIn_ret (hQ ι lam a w hs hz rfl)
  | rangeFunc f params assign body _ _=>intro hcw lo β T s k r h; simp [Cj] at h
  | scope body _=>intro hcw lo β T s k r h; simp [Cj] at h
  | label l=>intro hcw lo β T s k r h; simp [Cj] at h
  | goto l=>intro hcw lo β T s k r h; simp [Cj] at h
  | refuse why=>intro hcw lo β T s k r h; simp [Cj] at h
end
end Go.Proofs.YtmbhnbladmpnoaaGreat.Ab

/- The abstract machine with variables in the frame: results,functions; without a bound on rounds and calls. -/
namespace Go.Proofs.YtmbhnbladmpnoaaGreat.Ab
open Go
def resB (n : Nat) : ResultVar→Bool
  | .tmp t=>decide (t < n)
  | .cell a _=>decide (a < n)
def Md (tmps : Array Value) (x : ResultVar) : Sem Value :=
  match x with
  | .tmp t=>pure (tmps.getD t undef)
  | .cell a t=>do loadVar t (← asAddr (tmps.getD a undef))
theorem VRel.va_of {ι : Emb} {v v' : Value} (h : VRel ι v v') (hn : Fk v = true) : VA ι v v':=by
  cases h with
  | va h=>exact h
  | tuple=>simp [Fk] at hn
  | poison=>simp [Fk] at hn
theorem VRels.va_of {ι : Emb} : ∀ {l m : List Value},All2 (VRel ι) l m→l.all Fk = true→All2 (VA ι) l m
  | [],[],_,_=>trivial
  | _ :: _,_ :: _,⟨h1,h2⟩,hl=>by
    simp only [List.all_cons,Bool.and_eq_true] at hl
    exact ⟨h1.va_of hl.1,VRels.va_of h2 hl.2⟩
theorem UN {ι : Emb} {vs vs' : List Value} (h : All2 (VRel ι) vs vs') (hn : vs.all Fk = true) : VRel ι (F5 vs) (if hz : vs'.toArray.size = 1 then vs'.toArray[0] else .tuple vs'.toArray):=by
  cases vs with
  | nil=>cases vs' with
    | nil=>simp [F5]; exact Cb ι
    | cons=>exact h.elim
  | cons v vs=>cases vs' with
    | nil=>exact h.elim
    | cons v' vs'=>cases vs with
      | nil=>cases vs' with
        | nil=>simp [F5]; exact h.1
        | cons=>exact h.2.elim
      | cons u vs=>cases vs' with
        | nil=>exact h.2.elim
        | cons u' vs' =>
          have hl : ¬ ((v' :: u' :: vs').toArray.size = 1):=by simp
          rw [dif_neg hl]
          exact .tuple (VRels.va_of h hn)
section
variable {P : Program} {tn : Tn} {n m wb : Nat} {ι0 ι : Emb} {H0 : List Blk} {lam : Lam} {w0 w : World} {T : Fr} {s : St} {tmps : Array Value}
def resV (P : Program) (tn : Tn) (T : Fr) (s : St) : ResultVar→Option Value
  | .tmp t=>if Lc t tn = true then some (getT T t) else none
  | .cell a t=>match look a tn with
    | none=>(aggT P t).bind fun ag=>(B0 P t).bind fun n=>Aj ag n (getT T a) s
    | some j=>(aggT P t).bind fun ag=>(B0 P t).bind fun n=>Ap ag n (getT T a) (getT T j)
def RA (P : Program) (tn : Tn) (T : Fr) (s : St) : List ResultVar→Option (List Value)
  | []=>some []
  | x :: l=>(resV P tn T s x).bind fun v=>(RA P tn T s l).bind fun r=>some (v :: r)
theorem RB {β : Type} : ∀ {l : List ResultVar} (k : List Value→Option β),resK P tn T s l k = (RA P tn T s l).bind k
  | [],k=>rfl
  | .tmp t :: l,k=>by
    simp only [resK,RA,resV]
    split
    · simp only [Option.bind_some,Option.bind_assoc]; rw [RB]
    · rfl
  | .cell a t :: l,k=>by
    simp only [resK,RA,resV]
    cases look a tn with
    | none =>
      simp only [Option.bind_assoc]
      congr 1; funext ag; congr 1; funext n; congr 1; funext v
      rw [RB]; simp only [Option.bind_some]
    | some j =>
      simp only [Option.bind_assoc]
      congr 1; funext ag; congr 1; funext n; congr 1; funext v
      rw [RB]; simp only [Option.bind_some]
theorem WZ (htn : tnOk n m tn = true) (h : BSim tn n wb ι0 H0 w0 ι lam T s.heap tmps w) {x : ResultVar} {v : Value} (hv : resV P tn T s x = some v) (hb : resB n x = true) : ∃ v',(Md tmps x).run P w = .ok v' w∧VRel ι v v':=by
  cases x with
  | tmp t =>
    simp only [resV] at hv
    split at hv
    case isFalse=>cases hv
    rename_i hl
    cases hv
    have:=h.nm t
    unfold NRel at this
    rw [if_pos (by simpa [resB] using hb)] at this
    have hl2 : look t tn = none:=by simpa [Lc] using hl
    rw [hl2] at this
    exact ⟨_,rfl,this⟩
  | cell ad t =>
    have had : ad < n:=by simpa [resB] using hb
    have hx:=h.nm ad
    unfold NRel at hx
    rw [if_pos had] at hx
    simp only [resV] at hv
    cases hl : look ad tn with
    | none =>
      rw [hl] at hv hx
      simp only [Option.bind_eq_some_iff] at hv
      obtain ⟨ag,hag,n2,hn,hv⟩:=hv
      unfold Aj at hv
      split at hv
      case h_2=>cases hv
      rename_i b off heq
      have heq : T ad = _:=heq
      rw [heq] at hx
      obtain ⟨_,lc,hb2,hv'⟩:=hx.inv_ptr
      cases ag with
      | true =>
        simp only [if_true,Option.map_eq_some_iff] at hv
        obtain ⟨vs,hr,rfl⟩:=hv
        obtain ⟨vs',h1,h2,h3⟩:=h.sim.read (P:=P) hr hb2
        refine ⟨.agg vs'.toArray,?_,.va (.agg (by simpa using h2))⟩
        simp only [Md]
        rw [hv']
        simp [asAddr,loadVar,CO hag,AT hn,h1]
      | false =>
        simp only [Bool.false_eq_true,if_false] at hv
        obtain ⟨v',h1,h2⟩:=h.sim.read1 hv hb2
        refine ⟨v',?_,.of2 h2⟩
        simp only [Md]
        rw [hv']
        simp [asAddr,loadVar,CO hag,h1]
    | some j =>
      rw [hl] at hv hx
      simp only [Option.bind_eq_some_iff] at hv
      obtain ⟨ag,hag,n2,hn,hv⟩:=hv
      have hjn:=(GZ htn hl).2.2
      have hsl:=h.nm j
      unfold NRel at hsl
      rw [if_neg (by omega)] at hsl
      unfold Ap at hv
      split at hv
      case h_2=>cases hv
      rename_i b2 off sp cs heq hcs
      have heq : T ad = _:=heq
      have hcs : T j = _:=hcs
      rcases hx with ⟨q,hq⟩ | ⟨off',blk,h1,h2,h3⟩
      · rw [hq] at heq; cases heq
      · rw [h1] at heq
        cases heq
        obtain ⟨blk',cs',e',fz,q1,q2,q3,q4⟩:=hsl cs hcs
        rw [h2] at q1
        cases q1
        have hlen : cs.size = cs'.size:=by have:=q4.length; simpa using this
        cases ag with
        | true =>
          simp only [if_true] at hv
          split at hv
          case isFalse=>cases hv
          rename_i hle
          cases hv
          have hrun:=Dy (P:=P) (n:=n2) (off:=off) q2 (.inr (by omega))
          refine ⟨.agg ((cs'.toList.drop off).take n2).toArray,?_,.va (.agg (by simpa using (q4.drop off).take n2))⟩
          simp only [Md]
          rw [h3]
          simp [asAddr,loadVar,CO hag,AT hn,hrun]
        | false =>
          simp only [Bool.false_eq_true,if_false] at hv
          obtain ⟨v',g1,g2⟩:=q4.get off v hv
          have hcell : w.cell? ⟨blk,off,none⟩ = some v':=by rw [cell?_of q2]; simpa using g1
          refine ⟨v',?_,.of2 g2⟩
          simp only [Md]
          rw [h3]
          simp [asAddr,loadVar,CO hag,hcell]
theorem Od (htn : tnOk n m tn = true) (h : BSim tn n wb ι0 H0 w0 ι lam T s.heap tmps w) : ∀ {l : List ResultVar} {vs : List Value},RA P tn T s l = some vs→l.all (resB n) = true →
    ∃ vs',(l.mapM (Md tmps)).run P w = .ok vs' w∧All2 (VRel ι) vs vs'
  | [],vs,hv,_=>by simp [RA] at hv; subst hv; exact ⟨[],rfl,trivial⟩
  | x :: l,vs,hv,hb=>by
    simp only [RA,Option.bind_eq_some_iff] at hv
    obtain ⟨v,hv,r,hr,hh⟩:=hv
    cases hh
    simp only [List.all_cons,Bool.and_eq_true] at hb
    obtain ⟨v',h1,h2⟩:=WZ htn h hv hb.1
    obtain ⟨vs',h3,h4⟩:=Od htn h hr hb.2
    refine ⟨v' :: vs',?_,h2,h4⟩
    rw [List.mapM_cons,Sem.run_bind,h1,Result.andThen_ok,Sem.run_bind,h3]
    rfl
theorem Ko {fn : Func} (htn : tnOk n m tn = true) (h : BSim tn n wb ι0 H0 w0 ι lam T s.heap tmps w) {vs : List Value} (hv : RA P tn T s fn.results.toList = some vs) (hn : vs.all Fk = true)
    (hb : fn.results.toList.all (resB n) = true) : ∃ v',(results fn tmps).run P w = .ok v' w∧VRel ι (F5 vs) v':=by
  obtain ⟨vs',h1,h2⟩:=Od htn h hv hb
  refine ⟨_,?_,UN h2 hn⟩
  have hm : (fn.results.mapM (Md tmps)).run P w = .ok vs'.toArray w:=by
    rw [Array.mapM_eq_mapM_toList,Sem.run_map,h1]
    rfl
  show (do let vs ← fn.results.mapM (Md tmps); pure (if h : vs.size = 1 then vs[0] else .tuple vs) : Sem Value).run P w = _
  rw [Sem.run_bind,hm]
  rfl
end
def Zaw (fn : Func) : Bool :=
  match fn.body with
  | some c=>EW fn.ntmps c && fn.results.toList.all (resB fn.ntmps)
  | none=>true
def RC (P : Program) : Bool:=P.funcs.all Zaw
def Br (P : Program) (lib : Lib) : Prop:=∀ f g,lib f = some g→∀ args s v s',g args s = some (v,s')→∀ wb ι w (args' : Array Value),Sim wb ι s.heap w→All2 (VRel ι) args args'.toList →
    Calls P f args' w fun e w'=>∃ v',e = .returned v'∧Ba wb ι s.heap w s'.heap v v' w'
theorem Nx : ∀ (l : List Value) (i : Nat),getL l i = (l[i]?).getD undef
  | [],i=>by simp [getL]
  | x :: l,0=>by simp [getL]
  | x :: l,i + 1=>by simp [getL,Nx l i]
theorem VV {ι : Emb} {args : List Value} {args' : Array Value} (h : All2 (VRel ι) args args'.toList) (k i : Nat) : VRel ι (LX args i) ((args' ++ Array.replicate k undef).getD i undef):=by
  have hl:=h.length
  unfold LX
  rw [Nx]
  by_cases hia : i < args.length
  · obtain ⟨b,hb,hr⟩:=h.get i args[i] (by simp [hia])
    have hsz : i < args'.size:=by simpa [hl] using hia
    have : (args' ++ Array.replicate k undef).getD i undef = b:=by
      have h2 : args'[i]? = some b:=by simpa using hb
      rw [Array.getD_eq_getD_getElem?,Array.getElem?_append_left hsz,h2]
      rfl
    rw [this,List.getElem?_eq_getElem hia]
    exact hr
  · have hsz : args'.size ≤ i:=by
      have : args'.toList.length = args.length:=hl.symm
      simp at this
      omega
    have : (args' ++ Array.replicate k undef).getD i undef = undef:=by
      rw [Array.getD_eq_getD_getElem?,Array.getElem?_append_right hsz,Array.getElem?_replicate]
      split <;> rfl
    rw [this,List.getElem?_eq_none (by omega)]
    exact Cb ι
theorem UO {P : Program} {call : Aa} {tn : Tn} {lp : (List Value→St→Res)→List Value→St→Res} (hcall : DZ P call) (hlp : ∀ body X s r,lp body X s = some r→∃ q,DW body q X s = some r)
    {f : FuncId} {fn : Func} (hfn : P.funcs[f]? = some fn) (hW : Zaw fn = true) {args : List Value} {s s' : St} {v : Value} (h : Uu P call tn lp fn args s = some (v,s')) {wb : Nat} {ι : Emb} {w : World} {args' : Array Value} (hs : Sim wb ι s.heap w) (ha : All2 (VRel ι) args args'.toList) :
    Calls P f args' w fun e w'=>∃ v',e = .returned v'∧Ba wb ι s.heap w s'.heap v v' w':=by
  simp only [Uu,Option.bind_eq_some_iff] at h
  obtain ⟨c,hc,h⟩:=h
  split at h
  case isFalse=>cases h
  rename_i hok
  simp only [Bool.and_eq_true,Nat.ble_eq] at hok
  obtain ⟨hlen,htn⟩:=hok
  unfold Zaw at hW
  simp only [hc,Bool.and_eq_true] at hW
  have hsz : args'.size = args.length:=by simpa using ha.length.symm
  have hts : (args' ++ Array.replicate (fn.ntmps - args'.size) undef).size = fn.ntmps:=by simp; omega
  obtain ⟨e,T',s1,h1,h2⟩:=Oc (wb:=wb) hcall htn hlp c hW.1 _ _ _ _ _ h
  refine (callsIn_wide (n:=0)).1 (callsIn_of_wp (F:=FR (none,0)) hfn hc trivial ?_ rfl)
  have hstart : BSim tn fn.ntmps wb ι s.heap w ι (fun _=>none) (LX args) s.heap (args' ++ Array.replicate (fn.ntmps - args'.size) undef) w:=by
    refine ⟨hs,⟨fun _ _ h=>(by cases h),fun _ _ h=>(by cases h),fun _ _ _ h=>(by cases h)⟩,.refl _ _ _ hs.dom,fun x=>?_⟩
    unfold NRel
    split
    · rename_i hx
      cases hl : look x tn with
      | none=>exact VV ha _ x
      | some j =>
        have:=(GZ htn hl).1
        left
        unfold LX
        rw [Nx,List.getElem?_eq_none (by omega)]
        exact ⟨_,rfl⟩
    · rename_i hx
      intro cells hcc
      unfold LX at hcc
      rw [Nx,List.getElem?_eq_none (by omega)] at hcc
      cases hcc
  refine h2 (none,0) ι s.heap w ι (fun _=>none) ⟨args' ++ Array.replicate (fn.ntmps - args'.size) undef,[]⟩ w hs.size hstart hts hW.1 _ fun κ lam' a' w' g1 g2 g3=>?_
  simp only at g3
  unfold Zek at h1
  simp only [RB,retV] at h1
  have hne : ∀ id,e ≠ .exit id:=by intro id he; subst he; simp at h1
  have h3 : ∃ vs,RA P tn T' s1 fn.results.toList = some vs∧vs.all Fk = true∧v = F5 vs∧s' = s1:=by
    cases e with
    | exit id=>exact absurd rfl (hne id)
    | normal =>
      simp only [Option.bind_eq_some_iff] at h1
      obtain ⟨vs,h4,h5⟩:=h1
      split at h5
      · rename_i hn; cases h5; exact ⟨vs,h4,hn,rfl,rfl⟩
      · cases h5
    | ret =>
      simp only [Option.bind_eq_some_iff] at h1
      obtain ⟨vs,h4,h5⟩:=h1
      split at h5
      · rename_i hn; cases h5; exact ⟨vs,h4,hn,rfl,rfl⟩
      · cases h5
  obtain ⟨vs,h4,h5,rfl,rfl⟩:=h3
  obtain ⟨v',h6,h7⟩:=Ko htn g1 h4 h5 hW.2
  have hpost : a'.defers = []∧∃ u,(results fn a'.tmps).run P w' = .ok u w'∧(∃ v',Ending.returned u = .returned v'∧Ba wb ι s.heap w s'.heap (F5 vs) v' w'):=⟨g3,v',h6,v',rfl,κ,g1.sim,g1.step,h7⟩
  cases e with
  | exit id=>exact absurd rfl (hne id)
  | normal=>exact hpost
  | ret=>exact hpost
theorem Oe {P : Program} {lib : Lib} {Ad : HC} (hprog : RC P = true) (hlib : Br P lib) : ∀ j,DZ P (fnB P lib Ad j):=by
  intro j
  induction j with
  | zero=>intro f args s v s' h; simp [fnB] at h
  | succ j ih =>
    intro f args s v s' h hok wb ι w args' hs ha
    simp only [fnB] at h
    split at h
    · rename_i g hg
      exact hlib f g hg args s v s' h wb ι w args' hs ha
    · simp only [Option.bind_eq_some_iff] at h
      obtain ⟨fn,hfn,h⟩:=h
      have hW : Zaw fn = true:=by
        have:=Array.all_eq_true.1 hprog
        obtain ⟨hi,hget⟩:=Array.getElem?_eq_some_iff.1 hfn
        rw [← hget]
        exact this f hi
      exact UO ih (fun body X s r hr=>⟨j,hr⟩) hfn hW h hs ha
def Ev {α : Type} (F : Nat→Option α) (r : α) : Prop:=∃ j,∀ i,j ≤ i→F i = some r
theorem Ev.eq {α : Type} {F : Nat→Option α} {r q : α} (h : Ev F r) (g : Ev F q) : r = q:=by
  obtain ⟨i,hi⟩:=h
  obtain ⟨j,hj⟩:=g
  have h1:=hi (max i j) (Nat.le_max_left _ _)
  rw [hj (max i j) (Nat.le_max_right _ _)] at h1
  cases h1
  rfl
theorem Ev.const {α : Type} {x : Option α} {r : α} (h : x = some r) : Ev (fun _=>x) r:=⟨0,fun _ _=>h⟩
theorem Ev.bind {α β : Type} {F : Nat→Option α} {G : Nat→α→Option β} {p : α} {r : β} (h : Ev F p) (g : Ev (fun j=>G j p) r) : Ev (fun j=>(F j).bind (G j)) r:=by
  obtain ⟨i,hi⟩:=h
  obtain ⟨j,hj⟩:=g
  exact ⟨max i j,fun m hm=>by show (F m).bind (G m) = some r; rw [hi m (by omega)]; exact hj m (by omega)⟩
theorem Ev.shift {α : Type} {F : Nat→Option α} {r : α} (h : Ev (fun j=>F (j + 1)) r) : Ev F r:=by
  obtain ⟨i,hi⟩:=h
  exact ⟨i + 1,fun m hm=>by
    obtain ⟨m,rfl⟩ : ∃ q,m = q + 1:=⟨m - 1,by omega⟩
    exact hi m (by omega)⟩
theorem Ev.congr {α : Type} {F G : Nat→Option α} {r : α} (h : Ev F r) (e : ∀ j,F j = G j) : Ev G r:=by
  obtain ⟨i,hi⟩:=h
  exact ⟨i,fun m hm=>by rw [← e]; exact hi m hm⟩
open Classical in
noncomputable def limO {α : Type} (F : Nat→Option α) : Option α:=if h : ∃ r,Ev F r then some h.choose else none
theorem H1 {α : Type} {F : Nat→Option α} {r : α} : limO F = some r ↔ Ev F r:=by
  unfold limO
  constructor
  · intro h
    split at h
    · rename_i hx; cases h; exact hx.choose_spec
    · cases h
  · intro h
    rw [dif_pos ⟨r,h⟩]
    congr 1
    exact (Exists.choose_spec ⟨r,h⟩ : Ev F _).eq h
noncomputable def AS (body : List Value→St→Res) (T : List Value) (s : St) : Res:=limO fun m=>DW body m T s
theorem QL {body : List Value→St→Res} : ∀ {m : Nat} {T : List Value} {s : St} {r : Ex × List Value × St},DW body m T s = some r→DW body (m + 1) T s = some r
  | 0,_,_,_,h=>by simp [DW] at h
  | m + 1,T,s,r,h=>by
    simp only [DW,seqA,Option.bind_eq_some_iff] at h
    obtain ⟨⟨e1,T1,s1⟩,h1,h2⟩:=h
    rw [DW,seqA,h1,Option.bind_some]
    cases e1 with
    | normal=>exact QL (m:=m) h2
    | exit id=>exact h2
    | ret=>exact h2
theorem VW {body : List Value→St→Res} {m i : Nat} (hm : m ≤ i) {T : List Value} {s : St} {r : Ex × List Value × St} (h : DW body m T s = some r) : DW body i T s = some r:=by
  induction i with
  | zero=>rw [Nat.le_zero.1 hm] at h; exact h
  | succ i ih =>
    by_cases he : m = i + 1
    · rw [← he]; exact h
    · exact QL (ih (by omega))
theorem Gw {body : List Value→St→Res} {T : List Value} {s : St} {r : Ex × List Value × St} : AS body T s = some r ↔ ∃ m,DW body m T s = some r:=by
  unfold AS
  rw [H1]
  exact ⟨fun ⟨j,hj⟩=>⟨j,hj j (Nat.le_refl _)⟩,fun ⟨m,hm⟩=>⟨m,fun i hi=>VW hi hm⟩⟩
theorem Ar (body : List Value→St→Res) (T : List Value) (s : St) : AS body T s = seqA (body T s) (AS body):=by
  have key : ∀ r,AS body T s = some r ↔ seqA (body T s) (AS body) = some r:=by
    intro r
    rw [Gw]
    simp only [seqA,Option.bind_eq_some_iff]
    constructor
    · rintro ⟨m,hm⟩
      cases m with
      | zero=>simp [DW] at hm
      | succ m =>
        simp only [DW,seqA,Option.bind_eq_some_iff] at hm
        obtain ⟨⟨e1,T1,s1⟩,h1,h2⟩:=hm
        refine ⟨(e1,T1,s1),h1,?_⟩
        cases e1 with
        | normal=>exact Gw.2 ⟨m,h2⟩
        | exit id=>exact h2
        | ret=>exact h2
    · rintro ⟨⟨e1,T1,s1⟩,h1,h2⟩
      cases e1 with
      | normal =>
        obtain ⟨m,hm⟩:=Gw.1 h2
        exact ⟨m + 1,by rw [DW,seqA,h1]; exact hm⟩
      | exit id=>exact ⟨1,by rw [DW,seqA,h1]; exact h2⟩
      | ret=>exact ⟨1,by rw [DW,seqA,h1]; exact h2⟩
  cases h : seqA (body T s) (AS body) with
  | some r=>exact (key r).2 h
  | none =>
    cases h2 : AS body T s with
    | none=>rfl
    | some r=>rw [(key r).1 h2] at h; cases h
section
variable {P : Program} {call : Aa} {callJ : Nat→Aa} {tn : Tn}
theorem JD {T : Fr} {o : Oper} {s : St} {p : Value × St} (hc : ∀ f args s r,call f args s = some r→Ev (fun j=>callJ j f args s) r) (h : Bv P call T o s (fun v s=>some (v,s)) = some p) :
    Ev (fun j=>Bv P (callJ j) T o s (fun v s=>some (v,s))) p:=by
  by_cases hb : ∃ c f,o.op = .call c∧c.callee = .value f
  · obtain ⟨c,f,h1,h2⟩:=hb
    simp only [Bv,h1,h2,Option.bind_eq_some_iff] at h ⊢
    obtain ⟨vf,hf,xs,hx,h⟩:=h
    rw [hf,hx]
    simp only [Option.bind_some]
    obtain ⟨q,hq,he⟩:=h
    refine Ev.bind (p:=q) ?_ (.const he)
    unfold Ag at hq ⊢
    split at hq
    · split at hq
      case isFalse=>cases hq
      rename_i hok
      simp only [hok,if_true]
      exact hc _ _ _ _ hq
    · cases hq
  · refine .congr (.const h) fun j=>?_
    unfold Bv
    split <;> first | rfl | skip
    split <;> first | rfl | skip
    rename_i c heq _ f hcal
    exact absurd ⟨c,f,heq,hcal⟩ hb
variable (hc : ∀ f args s r,call f args s = some r→Ev (fun j=>callJ j f args s) r)
include hc
theorem Me {T : Fr} {o : Oper} {s : St} {β : Type} {k : Value→St→Option β} {kJ : Nat→Value→St→Option β} {r : β} (h : Bv P call T o s k = some r) (hk : ∀ v s,k v s = some r→Ev (fun j=>kJ j v s) r) : Ev (fun j=>Bv P (callJ j) T o s (kJ j)) r:=by
  rw [Cs] at h
  simp only [Option.bind_eq_some_iff] at h
  obtain ⟨p,h1,h2⟩:=h
  refine (Ev.bind (G:=fun j p=>kJ j p.1 p.2) (JD hc h1) (hk _ _ h2)).congr fun j=>?_
  exact (Cs _).symm
theorem RD {T : Fr} {o : Oper} {s : St} {β : Type} {k : Fr→St→Option β} {kJ : Nat→Fr→St→Option β} {r : β} (h : opB P call tn T o s k = some r) (hk : ∀ T s,k T s = some r→Ev (fun j=>kJ j T s) r) : Ev (fun j=>opB P (callJ j) tn T o s (kJ j)) r:=by
  unfold opB at h ⊢
  cases hkk : locK tn o with
  | bad=>simp [hkk] at h
  | glob=>simp only [hkk] at h ⊢; exact Me hc h fun v s h=>hk _ _ h
  | ptr j=>simp only [hkk] at h ⊢; exact Me hc h fun v s h=>hk _ _ h
  | mk j =>
    simp only [hkk] at h ⊢
    split at h
    · simp only [Option.bind_eq_some_iff] at h
      obtain ⟨z,hz,c,hc,h⟩:=h
      refine (hk _ _ h).congr fun j=>?_
      simp [hz,hc]
    · simp only [Option.bind_eq_some_iff] at h
      obtain ⟨z,hz,c,hc,h⟩:=h
      refine (hk _ _ h).congr fun j=>?_
      simp [hz,hc]
    · cases h
  | ld j =>
    simp only [hkk] at h ⊢
    split at h
    · simp only [Option.bind_eq_some_iff] at h
      obtain ⟨a,ha,ag,hag,n,hn,v,hv,h⟩:=h
      refine (hk _ _ h).congr fun j=>?_
      simp [ha,hag,hn,hv]
    · cases h
  | st j =>
    simp only [hkk] at h ⊢
    split at h
    · simp only [Option.bind_eq_some_iff] at h
      obtain ⟨a,ha,x,hx,n,hn,c,hcc,h⟩:=h
      refine (hk _ _ h).congr fun j=>?_
      simp [ha,hx,hn,hcc]
    · cases h
theorem Of : ∀ {l : List Oper} {T : Fr} {s : St} {β : Type} {k : Fr→St→Option β} {kJ : Nat→Fr→St→Option β} {r : β},seqB P call tn l T s k = some r→(∀ T s,k T s = some r→Ev (fun j=>kJ j T s) r)→Ev (fun j=>seqB P (callJ j) tn l T s (kJ j)) r
  | [],_,_,_,_,_,_,h,hk=>hk _ _ h
  | o :: l,_,_,_,_,_,_,h,hk=>RD hc h fun _ _ h=>Of h hk
theorem JE {β : Type} {v : Value} {w : Bool} {x y : Option β} {xJ : Nat→Option β} {r : β} (h : Ai v w x y = some r) (hx : x = some r→Ev xJ r) : Ev (fun j=>Ai v w (xJ j) y) r:=by
  rcases Ed h with ⟨rfl,h2⟩ | ⟨hv,h2⟩
  · refine (hx h2).congr fun j=>?_
    simp [Ai]
  · refine .congr (.const h2) fun j=>?_
    rcases hv with rfl | rfl
    · cases w <;> simp [Ai]
    · simp [Ai]
theorem Ln {ops : Array Oper} {mk : Nat} : ∀ {gs : List Grp} {T : Fr} {s : St} {β : Type} {k : Fr→St→Option β} {kJ : Nat→Fr→St→Option β} {r : β},Rf P call tn ops mk gs T s k = some r→(∀ T s,k T s = some r→Ev (fun j=>kJ j T s) r) →
    Ev (fun j=>Rf P (callJ j) tn ops mk gs T s (kJ j)) r
  | [],_,_,_,_,_,_,h,hk=>hk _ _ h
  | (none,os) :: gs,_,_,_,_,_,_,h,hk=>Of hc h fun _ _ h=>Ln h hk
  | (some g,os) :: gs,T,s,β,k,kJ,r,h,hk=>by
    simp only [Rf,Option.bind_eq_some_iff] at h ⊢
    obtain ⟨t,ht,h⟩:=h
    rw [ht]
    simp only [Option.bind_some]
    split at h
    case isFalse=>cases h
    rename_i hcc
    simp only [hcc,if_true]
    simp only [Option.bind_eq_some_iff] at h
    obtain ⟨q,h1,h2⟩:=h
    refine Ev.bind (p:=q) ?_ (Ln h2 hk)
    exact JE hc h1 fun h=>Of hc h fun _ _ h=>.const h
theorem Og {ops : Array Oper} {T : Fr} {o : Oper} {s : St} {p : Fr × St} (h : oneB P call tn ops T o s = some p) : Ev (fun j=>oneB P (callJ j) tn ops T o s) p:=by
  unfold oneB at h ⊢
  cases hg : o.guard with
  | none=>simp only [hg] at h ⊢; exact RD hc h fun _ _ h=>.const h
  | some g =>
    simp only [hg,Option.bind_eq_some_iff] at h ⊢
    obtain ⟨t,ht,h⟩:=h
    rw [ht]
    simp only [Option.bind_some]
    split at h
    case isFalse=>cases h
    rename_i hl
    simp only [hl,if_true]
    exact JE hc h fun h=>RD hc h fun _ _ h=>.const h
theorem Gx {ops : Array Oper} {T : Fr} {o : Oper} {s : St} {p : Value × St} (h : valB P call tn ops T o s = some p) : Ev (fun j=>valB P (callJ j) tn ops T o s) p:=by
  unfold valB at h ⊢
  cases hg : o.guard with
  | none=>simp only [hg] at h ⊢; exact JD hc h
  | some g =>
    simp only [hg,Option.bind_eq_some_iff] at h ⊢
    obtain ⟨t,ht,h⟩:=h
    rw [ht]
    simp only [Option.bind_some]
    split at h
    case isFalse=>cases h
    rename_i hl
    simp only [hl,if_true]
    exact JE hc h fun h=>JD hc h
theorem W3 {ops : Array Oper} {bf : List Nat} {mm : Nat} {T0 : Fr} {n0 i : Nat} {o : Oper} {T : Fr} {s : St} {p : Fr × St} (h : MB P call tn ops bf mm T0 n0 i o T s = some p) :
    Ev (fun j=>MB P (callJ j) tn ops bf mm T0 n0 i o T s) p:=by
  unfold MB at h ⊢
  cases hm : F4 P tn bf ops.size mm i o with
  | pure=>simp only [hm] at h ⊢; exact Og hc h
  | own =>
    simp only [hm,Option.bind_eq_some_iff] at h ⊢
    obtain ⟨q,h1,h2⟩:=h
    exact (Gx hc h1).bind (.const (Option.bind_eq_some_iff.2 h2))
  | quiet =>
    simp only [hm,Option.bind_eq_some_iff] at h ⊢
    obtain ⟨q,h1,h2⟩:=h
    exact (Gx hc h1).bind (.const h2)
  | store =>
    simp only [hm,Option.bind_eq_some_iff] at h ⊢
    obtain ⟨t,ht,h⟩:=h
    rw [ht]
    simp only [Option.bind_some]
    split at h
    · cases h
    · rename_i hk
      simp only [Option.bind_eq_some_iff] at h
      obtain ⟨q,h1,h2⟩:=h
      simp only [hk]
      exact (Gx hc h1).bind (.const (Option.bind_eq_some_iff.2 h2))
  | bad=>simp [hm] at h
theorem Oh {ops : Array Oper} {bf : List Nat} {mm : Nat} {T0 : Fr} {n0 : Nat} : ∀ {l : List Oper} {i : Nat} {T : Fr} {s : St} {p : Fr × St},HQ P call tn ops bf mm T0 n0 i l T s = some p→Ev (fun j=>HQ P (callJ j) tn ops bf mm T0 n0 i l T s) p
  | [],_,_,_,_,h=>.const h
  | o :: l,i,T,s,p,h=>by
    simp only [HQ,Option.bind_eq_some_iff] at h ⊢
    obtain ⟨q,h1,h2⟩:=h
    exact (W3 hc h1).bind (Oh h2)
theorem W4 {ops : Array Oper} {bf : List Nat} {mm : Nat} {T1 : Fr} {i : Nat} {o : Oper} {T : Fr} {s : St} {p : Fr × St} (h : Jt P call tn ops bf mm T1 i o T s = some p) :
    Ev (fun j=>Jt P (callJ j) tn ops bf mm T1 i o T s) p:=by
  unfold Jt at h ⊢
  cases hm : EH P tn bf ops.size mm i o with
  | pure=>simp only [hm] at h ⊢; exact Og hc h
  | own =>
    simp only [hm,Option.bind_eq_some_iff] at h ⊢
    obtain ⟨q,h1,h2⟩:=h
    exact (Gx hc h1).bind (.const (Option.bind_eq_some_iff.2 h2))
  | quiet =>
    simp only [hm,Option.bind_eq_some_iff] at h ⊢
    obtain ⟨q,h1,h2⟩:=h
    exact (Gx hc h1).bind (.const (Option.bind_eq_some_iff.2 h2))
  | store=>simp [hm] at h
  | bad =>
    simp only [hm] at h ⊢
    split at h
    case isFalse=>cases h
    rename_i ha
    simp only [ha,if_true]
    simp only [Option.bind_eq_some_iff] at h
    obtain ⟨q,h1,h2⟩:=h
    exact (Gx hc h1).bind (.const (Option.bind_eq_some_iff.2 h2))
theorem Oi {ops : Array Oper} {bf : List Nat} {mm : Nat} {T1 : Fr} : ∀ {l : List Oper} {i : Nat} {T : Fr} {s : St} {p : Fr × St},HR P call tn ops bf mm T1 i l T s = some p→Ev (fun j=>HR P (callJ j) tn ops bf mm T1 i l T s) p
  | [],_,_,_,_,h=>.const h
  | o :: l,i,T,s,p,h=>by
    simp only [HR,Option.bind_eq_some_iff] at h ⊢
    obtain ⟨q,h1,h2⟩:=h
    exact (W4 hc h1).bind (Oi h2)
theorem Th {ops : Array Oper} {L : List Nat} : ∀ {l : List Oper} {T : Fr} {s : St} {p : List Value},dryB P call tn ops L l T s = some p→Ev (fun j=>dryB P (callJ j) tn ops L l T s) p
  | [],_,_,_,h=>.const h
  | o :: l,T,s,p,h=>by
    simp only [dryB,Option.bind_eq_some_iff] at h ⊢
    obtain ⟨q,h1,h2⟩:=h
    exact (Og hc h1).bind (Th h2)
theorem W5 {wd : Nat} : ∀ (c : Code) (lo : Lo) {β : Type} {T : Fr} {s : St} {k : Ex→Fr→St→Option β} {kJ : Nat→Ex→Fr→St→Option β} {r : β},Cj P call tn AS wd c lo T s k = some r→(∀ e T s,k e T s = some r→Ev (fun j=>kJ j e T s) r) →
    Ev (fun j=>Cj P (callJ j) tn (fun b=>DW b j) wd c lo T s (kJ j)) r:=by
  intro c
  induction c with
  | skip=>intro lo β T s k kJ r h hk; exact hk _ _ _ h
  | region id ops draw =>
    intro lo β T s k kJ r h hk
    cases draw with
    | false =>
      simp only [Cj] at h ⊢
      exact Ln hc h fun T s h=>hk _ _ _ h
    | true =>
      simp only [Cj] at h ⊢
      focus
        split at h
        case isFalse=>cases h
        rename_i hd
        cases ha : VJ P tn (BG [] ops.toList) ops.size (B7 P tn 0 ops.toList) 0 ops.toList with
        | true =>
          simp only [ha,cond_true,IA,UM,Option.bind_eq_some_iff] at h
          obtain ⟨X,h0,p,h1,h2⟩:=h
          simp only [hd,if_true,cond_true,IA,UM]
          exact (Th hc h0).bind ((Oi hc h1).bind (hk _ _ _ h2))
        | false =>
          simp only [ha,cond_false,Kn,Option.bind_eq_some_iff] at h
          obtain ⟨p,h1,h2⟩:=h
          simp only [hd,if_true,cond_false,Kn]
          exact (Oh hc h1).bind (hk _ _ _ h2)
  | seq x y ihx ihy =>
    intro lo β T s k kJ r h hk
    simp only [Cj] at h ⊢
    refine ihx _ h fun e T1 s1 h1=>?_
    cases e with
    | normal =>
      cases hj : ZcE x y with
      | true=>simp only [hj,cond_true] at h1 ⊢; exact ihy _ h1 hk
      | false=>simp only [hj,cond_false] at h1 ⊢; exact ihy _ h1 hk
    | exit id=>exact hk _ _ _ h1
    | ret=>exact hk _ _ _ h1
  | cond c x y ihx ihy =>
    intro lo β T s k kJ r h hk
    simp only [Cj] at h ⊢
    split at h
    case isFalse=>cases h
    rename_i hcl
    simp only [hcl,if_true]
    simp only [Option.bind_eq_some_iff] at h
    obtain ⟨v,hv,h⟩:=h
    rw [hv]
    simp only [Option.bind_some]
    unfold Ax at h ⊢
    split at h
    · rename_i b
      cases b with
      | true=>simp only [if_true] at h ⊢; exact ihx _ h hk
      | false=>simp only [Bool.false_eq_true,if_false] at h ⊢; exact ihy _ h hk
    · cases h
  | block id x ih =>
    intro lo β T s k kJ r h hk
    simp only [Cj] at h ⊢
    refine ih _ h fun e T1 s1 h1=>?_
    cases e with
    | normal=>exact hk _ _ _ h1
    | ret=>exact hk _ _ _ h1
    | exit j =>
      simp only at h1 ⊢
      split at h1
      · rename_i hj; simp only [hj,if_true]; exact hk _ _ _ h1
      · rename_i hj; simp only [hj,if_false]; exact hk _ _ _ h1
  | loop x ih =>
    intro lo β T s k kJ r h hk
    simp only [Cj,Option.bind_eq_some_iff] at h ⊢
    obtain ⟨p,h1,h2⟩:=h
    have hex : Ev (fun j=>exV p.1 ((Fj x).map fun i=>(i,kJ j (.exit i) (ofL (EU (exLo i lo.exs) wd 0) 0 p.2.1 noT) p.2.2)) (if LZ x = true then kJ j .ret (ofL (EU lo.ret wd 0) 0 p.2.1 noT) p.2.2 else none)) r:=by
      obtain ⟨e,T1,s1⟩:=p
      cases e with
      | normal=>cases h2
      | ret =>
        simp only [exV] at h2 ⊢
        split at h2
        · rename_i hr; simp only [hr,if_true]; exact hk _ _ _ h2
        · cases h2
      | exit q =>
        simp only [exV] at h2 ⊢
        have look : ∀ l : List Nat,PP q (l.map fun i=>(i,k (.exit i) (ofL (EU (exLo i lo.exs) wd 0) 0 T1 noT) s1)) = some r→Ev (fun j=>PP q (l.map fun i=>(i,kJ j (.exit i) (ofL (EU (exLo i lo.exs) wd 0) 0 T1 noT) s1))) r:=by
          intro l
          induction l with
          | nil=>intro h; simp [PP] at h
          | cons i l ih =>
            intro h
            simp only [List.map_cons,PP] at h ⊢
            split at h
            · rename_i hq; simp only [hq,if_true]; exact hk _ _ _ h
            · rename_i hq; simp only [hq,if_false]; exact ih h
        exact look _ h2
    refine Ev.bind (p:=p) ?_ hex
    obtain ⟨q,hm⟩:=Gw.1 h1
    have key : ∀ (q : Nat) (X : List Value) (s : St),DW (fun X s=>Cj P call tn AS wd x { lo with nrm:=lvIn tn (.loop x) lo } (ofL (EU (lvIn tn (.loop x) lo) wd 0) 0 X noT) s fun e T s=>some (e,toL (WE wd (EU (lvIn tn (.loop x) lo) wd 0) lo e) T,s)) q X s = some p →
        Ev (fun j=>DW (fun X s=>Cj P (callJ j) tn (fun b=>DW b j) wd x { lo with nrm:=lvIn tn (.loop x) lo } (ofL (EU (lvIn tn (.loop x) lo) wd 0) 0 X noT) s fun e T s=>some (e,toL (WE wd (EU (lvIn tn (.loop x) lo) wd 0) lo e) T,s)) q X s) p:=by
      intro q
      induction q with
      | zero=>intro X s h; simp [DW] at h
      | succ q ihq =>
        intro X s h
        simp only [DW,seqA,Option.bind_eq_some_iff] at h ⊢
        obtain ⟨⟨e1,X1,s1⟩,g1,g2⟩:=h
        refine Ev.bind (p:=(e1,X1,s1)) (ih _ (kJ:=fun _ e T s=>some (e,toL (WE wd (EU (lvIn tn (.loop x) lo) wd 0) lo e) T,s)) g1 fun e T s he=>.const he) ?_
        cases e1 with
        | normal=>exact ihq X1 s1 g2
        | exit id=>exact .const g2
        | ret=>exact .const g2
    obtain ⟨i,hi⟩:=key q _ s hm
    exact ⟨max i q,fun j hj=>VW (by omega) (hi j (by omega))⟩
  | exit id=>intro lo β T s k kJ r h hk; exact hk _ _ _ h
  | ret=>intro lo β T s k kJ r h hk; exact hk _ _ _ h
  | rangeFunc f params assign body _ _=>intro lo β T s k kJ r h; simp [Cj] at h
  | scope body _=>intro lo β T s k kJ r h; simp [Cj] at h
  | label l=>intro lo β T s k kJ r h; simp [Cj] at h
  | goto l=>intro lo β T s k kJ r h; simp [Cj] at h
  | refuse why=>intro lo β T s k kJ r h; simp [Cj] at h
theorem W6 {fn : Func} {args : List Value} {s : St} {r : Value × St} (h : Uu P call tn AS fn args s = some r) : Ev (fun j=>Uu P (callJ j) tn (fun b=>DW b j) fn args s) r:=by
  simp only [Uu,Option.bind_eq_some_iff] at h ⊢
  obtain ⟨c,h1,h2⟩:=h
  rw [h1]
  simp only [Option.bind_some]
  split at h2
  case isFalse=>cases h2
  rename_i hl
  simp only [hl,if_true]
  exact W5 hc c _ h2 fun e T s he=>.const he
end
noncomputable def run (P : Program) (lib : Lib) (Ad : HC) : Aa:=fun f args s=>limO fun j=>fnB P lib Ad j f args s
theorem Zb3 {P : Program} {lib : Lib} {Ad : HC} (f : FuncId) (args : List Value) (s : St) (r : Value × St) (h : run P lib Ad f args s = some r) : Ev (fun j=>fnB P lib Ad j f args s) r:=H1.1 h
theorem At {P : Program} {lib : Lib} {Ad : HC} {f : FuncId} {fn : Func} {args : List Value} {s : St} {r : Value × St} (hl : lib f = none) (hf : P.funcs[f]? = some fn) (h : Uu P (run P lib Ad) (Ad f) AS fn args s = some r) : run P lib Ad f args s = some r:=by
  refine H1.2 (Ev.shift ((W6 Zb3 h).congr fun j=>?_))
  simp only [fnB,hl,hf,Option.bind_some]
theorem ZcP {P : Program} {lib : Lib} {Ad : HC} {f : FuncId} {g : List Value→St→Option (Value × St)} {args : List Value} {s : St} (hl : lib f = some g) : run P lib Ad f args s = g args s:=by
  have key : ∀ j,fnB P lib Ad (j + 1) f args s = g args s:=fun j=>by simp only [fnB,hl]
  cases hg : g args s with
  | some r=>exact H1.2 ⟨1,fun i hi=>by obtain ⟨i,rfl⟩ : ∃ q,i = q + 1:=⟨i - 1,by omega⟩; show fnB P lib Ad (i + 1) f args s = _; rw [key,hg]⟩
  | none =>
    cases h : run P lib Ad f args s with
    | none=>rfl
    | some r =>
      obtain ⟨j,hj⟩:=H1.1 h
      have : fnB P lib Ad (j + 1) f args s = some r:=hj (j + 1) (by omega)
      rw [key,hg] at this
      cases this
theorem Oj {P : Program} {lib : Lib} {Ad : HC} (hprog : RC P = true) (hlib : Br P lib) : DZ P (run P lib Ad):=by
  intro f args s v s' h
  obtain ⟨j,hj⟩:=Zb3 f args s _ h
  exact Oe hprog hlib j f args s v s' (hj j (Nat.le_refl _))
end Go.Proofs.YtmbhnbladmpnoaaGreat.Ab

/- What is Bq of a function,told of a heap without what it leaves behind. -/
namespace Go.Proofs.YtmbhnbladmpnoaaGreat.Ab
open Go
section
variable (ρ : Nat→Nat) (D : Nat)
inductive Vw0 : Value→Value→Prop
  | same (v : Value) (h : AX v = true) : Vw0 v v
  | ptr (b off : Nat) (hb : b < D) : Vw0 (.pointer (some ⟨b,off,none⟩)) (.pointer (some ⟨ρ b,off,none⟩))
  | slice (b off len cap cap' : Nat) (hb : b < D) (hl : len ≤ cap) (hc : cap ≤ cap') : Vw0 (.slice (some ⟨b,off,none⟩) len cap) (.slice (some ⟨ρ b,off,none⟩) len cap')
  | map (b : Nat) (hb : b < D) : Vw0 (.map (some b)) (.map (some (ρ b)))
inductive Vw1 : Value→Value→Prop
  | l0 {u v : Value} (h : Vw0 ρ D u v) : Vw1 u v
  | func (fn : Fn) {a a' b b' : Array Value} (ha : All2 (Vw0 ρ D) a.toList a'.toList) (hb : All2 (Vw0 ρ D) b.toList b'.toList) : Vw1 (.func fn a b) (.func fn a' b')
inductive Vw2 : Value→Value→Prop
  | l1 {u v : Value} (h : Vw1 ρ D u v) : Vw2 u v
  | iface (t : TypeId) {u v : Value} (h : Vw1 ρ D u v) : Vw2 (.iface t u) (.iface t v)
  | ifaceAgg (t : TypeId) {a a' : Array Value} (h : All2 (Vw1 ρ D) a.toList a'.toList) : Vw2 (.iface t (.agg a)) (.iface t (.agg a'))
inductive VwA : Value→Value→Prop
  | l2 {u v : Value} (h : Vw2 ρ D u v) : VwA u v
  | agg {a a' : Array Value} (h : All2 (Vw2 ρ D) a.toList a'.toList) : VwA (.agg a) (.agg a')
inductive Vw : Value→Value→Prop
  | va {u v : Value} (h : VwA ρ D u v) : Vw u v
  | tuple {a a' : Array Value} (h : All2 (VwA ρ D) a.toList a'.toList) : Vw (.tuple a) (.tuple a')
end
def Emb.via (κ : Emb) (ρ : Nat→Nat) (D : Nat) : Emb:=fun b=>if b < D then κ (ρ b) else none
section
variable {κ : Emb} {ρ : Nat→Nat} {D : Nat}
theorem Emb.via_lt {b : Nat} (hb : b < D) : κ.via ρ D b = κ (ρ b):=if_pos hb
theorem All2.comp {α β γ : Type} {R : α→β→Prop} {S : β→γ→Prop} {T : α→γ→Prop} (h : ∀ a b c,R a b→S b c→T a c) : ∀ {l : List α} {m : List β} {n : List γ},All2 R l m→All2 S m n→All2 T l n
  | [],[],[],_,_=>trivial
  | _ :: _,_ :: _,_ :: _,⟨h1,h2⟩,⟨g1,g2⟩=>⟨h _ _ _ h1 g1,All2.comp h h2 g2⟩
theorem All2.nilL {α β : Type} {R S : α→β→Prop} {l : List α} {m : List β} (h : All2 R l m) (e : l = []) : All2 S l m:=by
  subst e
  cases m with
  | nil=>trivial
  | cons=>exact h.elim
theorem All2.nilR {α β γ : Type} {R : α→β→Prop} {S : α→γ→Prop} {l : List α} {m : List β} {n : List γ} (h : All2 R l m) (e : m = []) (e2 : n = []:=by rfl) : All2 S l n:=by
  subst e e2
  cases l with
  | nil=>trivial
  | cons=>exact h.elim
theorem Zax {v x : Value} (h : AX v = true) (g : L0 κ v x) : L0 (κ.via ρ D) v x:=by
  cases g with
  | bool b=>exact .bool b
  | int k n=>exact .int k n
  | string s=>exact .string s
  | pnil=>exact .pnil
  | ptr=>simp [AX] at h
  | snil=>exact .snil
  | slice=>simp [AX] at h
  | slice0=>simp [AX] at h
  | mnil=>exact .mnil
  | map=>simp [AX] at h
  | nilFunc=>exact .nilFunc
  | nilIface=>exact .nilIface
  | func fn=>exact .func fn
theorem Vw0.via {u v x : Value} (h : Vw0 ρ D u v) (g : L0 κ v x) : L0 (κ.via ρ D) u x:=by
  cases h with
  | same _ h=>exact Zax h g
  | ptr b off hb=>cases g with
    | ptr _ g=>exact .ptr off (by rw [Emb.via_lt hb]; exact g)
  | slice b off len cap cap' hb hl hc=>cases g with
    | slice _ g gl gc gz=>exact .slice off (by rw [Emb.via_lt hb]; exact g) hl (Nat.le_trans hc gc) gz
    | slice0 =>
      obtain rfl:=Nat.le_zero.1 hc
      exact .slice0 _ _
  | map b hb=>cases g with
    | map g=>exact .map (by rw [Emb.via_lt hb]; exact g)
theorem Vw1.via {u v x : Value} (h : Vw1 ρ D u v) (g : L1 κ v x) : L1 (κ.via ρ D) u x:=by
  cases h with
  | l0 h=>cases g with
    | l0 g=>exact .l0 (h.via g)
    | func fn ga gb=>cases h with
      | same _ h =>
        simp [AX] at h
        obtain ⟨rfl,rfl⟩:=h
        exact .func fn (ga.nilL rfl) (gb.nilL rfl)
  | func fn ha hb=>cases g with
    | func _ ga gb=>exact .func fn (ha.comp (R:=Vw0 ρ D) (S:=L0 κ) (T:=L0 (κ.via ρ D)) (fun _ _ _ h g=>Vw0.via h g) ga) (hb.comp (R:=Vw0 ρ D) (S:=L0 κ) (T:=L0 (κ.via ρ D)) (fun _ _ _ h g=>Vw0.via h g) gb)
    | l0 g=>cases g with
      | func =>
        exact .func fn (ha.nilR rfl) (hb.nilR rfl)
theorem Vw2.via {u v x : Value} (h : Vw2 ρ D u v) (g : L2 κ v x) : L2 (κ.via ρ D) u x:=by
  cases h with
  | l1 h=>cases g with
    | l1 g=>exact .l1 (h.via g)
    | iface=>cases h with
      | l0 h=>cases h with
        | same _ h=>simp [AX] at h
    | ifaceAgg=>cases h with
      | l0 h=>cases h with
        | same _ h=>simp [AX] at h
  | iface t h=>cases g with
    | iface _ g=>exact .iface t (h.via g)
    | ifaceAgg _ g=>cases h with
      | l0 h=>cases h with
        | same _ h=>simp [AX] at h
    | l1 g=>cases g with
      | l0 g=>cases g
  | ifaceAgg t h=>cases g with
    | ifaceAgg _ g=>exact .ifaceAgg t (h.comp (R:=Vw1 ρ D) (S:=L1 κ) (T:=L1 (κ.via ρ D)) (fun _ _ _ h g=>Vw1.via h g) g)
    | iface _ g=>cases g with
      | l0 g=>cases g
    | l1 g=>cases g with
      | l0 g=>cases g
theorem VwA.via {u v x : Value} (h : VwA ρ D u v) (g : VA κ v x) : VA (κ.via ρ D) u x:=by
  cases h with
  | l2 h=>cases g with
    | l2 g=>exact .l2 (h.via g)
    | agg=>cases h with
      | l1 h=>cases h with
        | l0 h=>cases h with
          | same _ h=>simp [AX] at h
  | agg h=>cases g with
    | agg g=>exact .agg (h.comp (R:=Vw2 ρ D) (S:=L2 κ) (T:=L2 (κ.via ρ D)) (fun _ _ _ h g=>Vw2.via h g) g)
    | l2 g=>cases g with
      | l1 g=>cases g with
        | l0 g=>cases g
theorem Vw.via {u v x : Value} (h : Vw ρ D u v) (g : VRel κ v x) : VRel (κ.via ρ D) u x:=by
  cases h with
  | va h=>cases g with
    | va g=>exact .va (h.via g)
    | tuple=>cases h with
      | l2 h=>cases h with
        | l1 h=>cases h with
          | l0 h=>cases h with
            | same _ h=>simp [AX] at h
    | poison=>cases h with
      | l2 h=>cases h with
        | l1 h=>cases h with
          | l0 h=>cases h with
            | same _ h=>simp [AX] at h
  | tuple h=>cases g with
    | tuple g=>exact .tuple (h.comp (R:=VwA ρ D) (S:=VA κ) (T:=VA (κ.via ρ D)) (fun _ _ _ h g=>VwA.via h g) g)
    | poison =>
      revert h
      generalize (Array.toList _) = l
      intro h
      cases l with
      | nil=>exact h.elim
      | cons y l =>
        have:=h.1
        cases this with
        | l2 h=>cases h with
          | l1 h=>cases h with
            | l0 h=>cases h with
              | same _ h=>simp [AX] at h
    | va g=>cases g with
      | l2 g=>cases g with
        | l1 g=>cases g with
          | l0 g=>cases g
end
def frzS (s : St) : St:=⟨frzK [] 0 s.heap⟩
theorem G3 (s : St) (b : Nat) : (frzS s).heap[b]? = (s.heap[b]?).map frzB:=by
  have:=Kj (K:=[]) (l:=s.heap) (i:=0) (b:=b)
  rw [show frzB = Gu .frz from rfl]
  simpa [frzS] using this
theorem Cp (s : St) : (frzS s).heap.length = s.heap.length:=Bk
theorem G4 (s : St) (b : Nat) : ownB (frzS s).heap[b]? = false:=by
  rw [G3]
  cases s.heap[b]? with
  | none=>rfl
  | some x=>cases x with
    | row n c st=>cases st <;> rfl
    | map=>rfl
theorem Sim.frz {wb : Nat} {ι : Emb} {s : St} {w : World} (h : Sim wb ι s.heap w) : Sim w.heap.size ι (frzS s).heap w where
  dom b x hx:=by rw [Cp]; exact h.dom b x hx
  row b n cells st hb hst l hl:=by
    rw [G3] at hb
    cases hx : s.heap[b]? with
    | none=>rw [hx] at hb; cases hb
    | some x =>
      rw [hx] at hb
      have key : ∃ st0,x = .row n cells st0∧st0 ≠ .dead∧st = .ro:=by
        cases x with
        | map=>simp [frzB] at hb; exact absurd hb.2.2.symm hst
        | row n' c' st' =>
          cases st' with
          | act=>simp [frzB] at hb; obtain ⟨rfl,rfl,rfl⟩:=hb; exact ⟨.act,rfl,by simp,rfl⟩
          | ro=>simp [frzB] at hb; obtain ⟨rfl,rfl,rfl⟩:=hb; exact ⟨.ro,rfl,by simp,rfl⟩
          | dead=>simp [frzB] at hb; exact absurd hb.2.2.symm hst
      obtain ⟨st0,rfl,h0,rfl⟩:=key
      obtain ⟨cs,e,fz,q1,_,_,q4⟩:=h.row b n cells st0 hx h0 l hl
      exact ⟨cs,e,fz,q1,fun _=>(Array.getElem?_eq_some_iff.1 q1).1,fun hh=>(by cases hh),q4⟩
  map b es clock hb:=by
    rw [G3] at hb
    cases hx : s.heap[b]? with
    | none=>rw [hx] at hb; cases hb
    | some x =>
      rw [hx] at hb
      cases x with
      | row n c st=>cases st <;> simp [frzB] at hb
      | map=>simp [frzB] at hb
  excl a b ha:=by rw [G4] at ha; cases ha
  size:=Nat.le_refl _
  loc b n cells st hb hst l hl:=by
    rw [G3] at hb
    cases hx : s.heap[b]? with
    | none=>rw [hx] at hb; cases hb
    | some x =>
      rw [hx] at hb
      have key : ∃ st0,x = .row n cells st0∧st0 ≠ .dead:=by
        cases x with
        | map=>simp [frzB] at hb; exact absurd hb.2.2.symm hst
        | row n' c' st' =>
          cases st' with
          | act=>simp [frzB] at hb; obtain ⟨rfl,rfl,rfl⟩:=hb; exact ⟨.act,rfl,by simp⟩
          | ro=>simp [frzB] at hb; obtain ⟨rfl,rfl,rfl⟩:=hb; exact ⟨.ro,rfl,by simp⟩
          | dead=>simp [frzB] at hb; exact absurd hb.2.2.symm hst
      obtain ⟨st0,rfl,h0⟩:=key
      exact h.loc b n cells st0 hx h0 l hl
theorem Ak {P : Program} {R : Aa} {f : FuncId} (h : Aq P f = true) {xs : List Value} {s : St} : Ag P R (.func (.func f) #[] #[]) xs s = R f xs s:=by
  simp [Ag,h]
def JF (N : Nat) (μ : Nat→Nat) (b : Nat) : Nat:=if b < N then b else μ (b - N)
structure Views (N : Nat) (K : List Blk) (t0 : St) (μ : Nat→Nat) (v v0 : Value) : Prop where
  ge : ∀ k,k < K.length→N ≤ μ k
  inj : ∀ i j,i < K.length→j < K.length→μ i = μ j→i = j
  blk : ∀ (k : Nat) (B : Blk),K[k]? = some B→∃ n cells cells0,B = .row n cells .act∧t0.heap[μ k]? = some (.row n cells0 .act)∧∀ (i : Nat) (c : Value),cells[i]? = some c→∃ c0 : Value,cells0[i]? = some c0∧Vw2 (JF N μ) (N + K.length) c c0
  val : Vw (JF N μ) (N + K.length) v v0
theorem Views.after {wb : Nat} {ι : Emb} {s t0 : St} {w w' : World} (hs : Sim wb ι s.heap w) {v v0 v' : Value} (h : Ba w.heap.size ι (frzS s).heap w t0.heap v0 v' w') {K : List Blk} {μ : Nat→Nat} (hv : Views s.heap.length K t0 μ v v0) : Ba wb ι s.heap w (s.heap ++ K) v v' w':=by
  obtain ⟨κ0,h1,h2,h3⟩:=h
  have hsame : ∀ c,c < w.heap.size→w'.heap[c]? = w.heap[c]?:=fun c hc=>h2.keep c hc fun a y ha=>by rw [G4] at ha; cases ha
  have hold : ∀ b,b < s.heap.length→κ0.via (JF s.heap.length μ) (s.heap.length + K.length) b = ι b:=fun b hb=>by
    rw [Emb.via_lt (by omega)]
    unfold JF
    rw [if_pos hb,h2.old b (by rw [Cp]; exact hb)]
  have hnew : ∀ b l,¬ b < s.heap.length→κ0.via (JF s.heap.length μ) (s.heap.length + K.length) b = some l→b < s.heap.length + K.length∧κ0 (μ (b - s.heap.length)) = some l∧s.heap.length ≤ μ (b - s.heap.length)∧w.heap.size ≤ l.blk:=fun b l hb hl=>by
    have hlt : b < s.heap.length + K.length:=by
      rcases Nat.lt_or_ge b (s.heap.length + K.length) with hh | hh
      · exact hh
      · unfold Emb.via at hl; rw [if_neg (by omega)] at hl; cases hl
    rw [Emb.via_lt hlt] at hl
    unfold JF at hl
    rw [if_neg hb] at hl
    have hge:=hv.ge (b - s.heap.length) (by omega)
    refine ⟨hlt,hl,hge,?_⟩
    rcases h2.img _ l hl (by rw [Cp]; exact hge) with h4 | ⟨a,y,ha,_⟩
    · exact h4
    · rw [G4] at ha; cases ha
  have hle : ι.le (κ0.via (JF s.heap.length μ) (s.heap.length + K.length)):=fun b x hx=>by
    rw [hold b (hs.dom b x hx)]; exact hx
  have hs':=hs.later hsame h2.size
  have hblk : ∀ b B,(s.heap ++ K)[b]? = some B→¬ b < s.heap.length→K[b - s.heap.length]? = some B:=fun b B hb hn=>by
    rwa [List.getElem?_append_right (by omega)] at hb
  refine ⟨_,?_,?_,hv.val.via h3⟩
  · constructor
    · intro b x hx
      rw [List.length_append]
      by_cases hb : b < s.heap.length
      · omega
      · exact (hnew b x hb hx).1
    · intro b n cells st hb hst l hl
      by_cases hlt : b < s.heap.length
      · rw [List.getElem?_append_left hlt] at hb
        rw [hold b hlt] at hl
        obtain ⟨cs,e,fz,q1,q2,q3,q4⟩:=hs'.row b n cells st hb hst l hl
        exact ⟨cs,e,fz,q1,q2,q3,fun i v hi=>by
          obtain ⟨v',p1,p2⟩:=q4 i v hi
          exact ⟨v',p1,p2.mono hle⟩⟩
      · obtain ⟨g1,g2,g3,g4⟩:=hnew b l hlt hl
        obtain ⟨n',c',c0,e1,e2,e3⟩:=hv.blk _ _ (hblk b _ hb hlt)
        cases e1
        obtain ⟨cs,e,fz,q1,q2,q3,q4⟩:=h1.row _ _ _ _ e2 (by simp) l g2
        refine ⟨cs,e,fz,q1,fun hh=>(by cases hh),fun _=>⟨Nat.le_trans hs.size g4,(q3 rfl).2⟩,fun i v hi=>?_⟩
        obtain ⟨c1,p1,p2⟩:=e3 i v hi
        obtain ⟨v',p3,p4⟩:=q4 i c1 p1
        exact ⟨v',p3,p2.via p4⟩
    · intro b es clock hb l hl
      by_cases hlt : b < s.heap.length
      · rw [List.getElem?_append_left hlt] at hb
        rw [hold b hlt] at hl
        obtain ⟨q1,q2,es',q3,q4⟩:=hs'.map b es clock hb l hl
        exact ⟨q1,q2,es',q3,q4.mono hle⟩
      · obtain ⟨n',c',c0,e1,_⟩:=hv.blk _ _ (hblk b _ hb hlt)
        cases e1
    · intro a b ha hb hne x y hx hy
      have own_old : ∀ a,a < s.heap.length→ownB (s.heap ++ K)[a]? = true→ownB s.heap[a]? = true:=fun a hlt h=>by
        rwa [List.getElem?_append_left hlt] at h
      have own_row : ∀ a,a < s.heap.length + K.length→¬ a < s.heap.length→ownB t0.heap[μ (a - s.heap.length)]? = true:=fun a hlt hn=>by
        obtain ⟨n',c',c0,_,e2,_⟩:=hv.blk (a - s.heap.length) K[a - s.heap.length] (List.getElem?_eq_getElem (by omega))
        rw [e2]; rfl
      by_cases hal : a < s.heap.length
      · rw [hold a hal] at hx
        by_cases hbl : b < s.heap.length
        · rw [hold b hbl] at hy
          exact hs.excl a b (own_old a hal ha) (own_old b hbl hb) hne x y hx hy
        · have:=(hnew b y hbl hy).2.2.2
          have:=hs.own_lt (own_old a hal ha) hx
          omega
      · obtain ⟨g1,g2,g3,g4⟩:=hnew a x hal hx
        by_cases hbl : b < s.heap.length
        · rw [hold b hbl] at hy
          have:=hs.own_lt (own_old b hbl hb) hy
          omega
        · obtain ⟨f1,f2,f3,f4⟩:=hnew b y hbl hy
          exact h1.excl _ _ (own_row a g1 hal) (own_row b f1 hbl) (fun e=>hne (by have:=hv.inj _ _ (by omega) (by omega) e; omega)) x y g2 f2
    · exact Nat.le_trans hs.size h2.size
    · intro b n cells st hb hst l hl
      by_cases hlt : b < s.heap.length
      · rw [List.getElem?_append_left hlt] at hb
        rw [hold b hlt] at hl
        exact hs.loc b n cells st hb hst l hl
      · obtain ⟨g1,g2,g3,g4⟩:=hnew b l hlt hl
        obtain ⟨n',c',c0,e1,e2,e3⟩:=hv.blk _ _ (hblk b _ hb hlt)
        cases e1
        exact h1.loc _ _ _ _ e2 (by simp) l g2
  · constructor
    · exact hle
    · exact hold
    · intro b x hx hb; exact .inl (hnew b x (by omega) hx).2.2.2
    · intro c hc _; exact hsame c hc
    · exact h2.size
    · exact h2.os
    · exact h2.tape
    · exact h2.output
    · simp
    · intro a ha h; rwa [List.getElem?_append_left ha] at h
def BO (P : Program) (lib : Lib) (Ad : HC) (f : FuncId) (g : List Value→St→Option (Value × St)) : Prop :=
  ∀ args s v t,g args s = some (v,t)→∃ K v0 t0 μ,t.heap = s.heap ++ K∧run P lib Ad f args (frzS s) = some (v0,t0)∧Views s.heap.length K t0 μ v v0
theorem Yk {P : Program} {lib : Lib} {Ad : HC} (hprog : RC P = true) (hlib : Br P lib) {f : FuncId} (hok : Aq P f = true) {g : List Value→St→Option (Value × St)} (hg : BO P lib Ad f g) {args : List Value} {s t : St} {v : Value} (h : g args s = some (v,t))
    {wb : Nat} {ι : Emb} {w : World} {args' : Array Value} (hs : Sim wb ι s.heap w) (ha : All2 (VRel ι) args args'.toList) : Calls P f args' w fun e w'=>∃ v',e = .returned v'∧Ba wb ι s.heap w t.heap v v' w':=by
  obtain ⟨K,v0,t0,μ,hK,hrun,hv⟩:=hg args s v t h
  refine (Oj hprog hlib f args (frzS s) v0 t0 hrun hok w.heap.size ι w args' hs.frz ha).mono fun e w' ⟨v',he,hA⟩=>⟨v',he,?_⟩
  rw [hK]
  exact hv.after hs hA
theorem ZcQ {P : Program} {lib lib' : Lib} {Ad : HC} (hprog : RC P = true) (hlib : Br P lib) {f : FuncId} {g : List Value→St→Option (Value × St)} (hok : Aq P f = true) (hg : BO P lib Ad f g) (he : ∀ f',lib' f' = if f' = f then some g else lib f') : Br P lib':=by
  intro f' g' hf' args s v s' h wb ι w args' hs ha
  rw [he] at hf'
  split at hf'
  · rename_i hff
    cases hf'
    subst hff
    exact Yk hprog hlib hok hg h hs ha
  · exact hlib f' g' hf' args s v s' h wb ι w args' hs ha
theorem Views.pure {N : Nat} {t0 : St} {v : Value} (h : Vw (JF N fun _=>0) N v v) : Views N [] t0 (fun _=>0) v v :=
  ⟨fun k hk=>absurd hk (by simp),fun i j hi=>absurd hi (by simp),fun k B hk=>by simp at hk,h⟩
theorem Vw0.leafs {ρ : Nat→Nat} {D : Nat} : ∀ {l : List Value},l.all AX = true→All2 (Vw2 ρ D) l l
  | [],_=>trivial
  | v :: l,h=>by
    simp at h
    exact ⟨.l1 (.l0 (.same v h.1)),Vw0.leafs (by simpa using h.2)⟩
theorem VwA.const {ρ : Nat→Nat} {D : Nat} {v : Value} (h : A0 v = true) : VwA ρ D v v:=by
  cases v with
  | agg cs=>exact .agg (Vw0.leafs h)
  | _=>exact .l2 (.l1 (.l0 (.same _ h)))
theorem Vw.const {ρ : Nat→Nat} {D : Nat} {v : Value} (h : A0 v = true) : Vw ρ D v v:=.va (VwA.const h)
theorem VwA.consts {ρ : Nat→Nat} {D : Nat} : ∀ {l : List Value},l.all A0 = true→All2 (VwA ρ D) l l
  | [],_=>trivial
  | v :: l,h=>by
    simp at h
    exact ⟨VwA.const h.1,VwA.consts (by simpa using h.2)⟩
theorem Vw.tup {ρ : Nat→Nat} {D : Nat} {l : List Value} (h : l.all A0 = true) : Vw ρ D (.tuple l.toArray) (.tuple l.toArray):=.tuple (by simpa using VwA.consts h)
theorem Views.row {N n i : Nat} {cells cells0 : List Value} {t0 : St} (hi : N ≤ i) (h : t0.heap[i]? = some (.row n cells0 .act)) (hc : ∀ (k : Nat) (c : Value),cells[k]? = some c→cells0[k]? = some c) (hl : cells.all AX = true) {v v0 : Value} (hv : Vw (JF N fun _=>i) (N + 1) v v0) :
    Views N [.row n cells .act] t0 (fun _=>i) v v0:=by
  refine ⟨fun k hk=>hi,fun a b ha hb _=>by simp at ha hb; omega,fun k B hk=>?_,hv⟩
  cases k with
  | zero =>
    simp at hk
    subst hk
    refine ⟨n,cells,cells0,rfl,h,fun k c hk=>⟨c,hc k c hk,.l1 (.l0 (.same c ?_))⟩⟩
    exact List.all_eq_true.1 hl c (List.mem_of_getElem? hk)
  | succ k=>simp at hk
theorem Vw0.row {N i off len cap cap' : Nat} (hl : len ≤ cap) (hc : cap ≤ cap') : Vw0 (JF N fun _=>i) (N + 1) (.slice (some ⟨N,off,none⟩) len cap) (.slice (some ⟨i,off,none⟩) len cap'):=by
  have:=Vw0.slice (ρ:=JF N fun _=>i) (D:=N + 1) N off len cap cap' (by omega) hl hc
  unfold JF at this ⊢
  rwa [if_neg (by omega)] at this
theorem Vw.slice {N i off len cap cap' : Nat} (hl : len ≤ cap) (hc : cap ≤ cap') : Vw (JF N fun _=>i) (N + 1) (.slice (some ⟨N,off,none⟩) len cap) (.slice (some ⟨i,off,none⟩) len cap'):=.va (.l2 (.l1 (.l0 (Vw0.row hl hc))))
end Go.Proofs.YtmbhnbladmpnoaaGreat.Ab

/- From the abstract machine's word on a law to the law's call. -/
namespace Go.Proofs.YtmbhnbladmpnoaaGreat.Ab
open Go Go.RowKit
theorem law_calls {P : Program} {lib : Lib} {Ad : HC} (hprog : RC P = true) (hlib : Br P lib) {n : FuncId} {args : List Value} {H : List Blk} {s1 : St} (hrun : run P lib Ad n args ⟨H⟩ = some (.bool true,s1)) (hok : Aq P n = true)
    {ι : Emb} {W : World} (hs : Sim W.heap.size ι H W) (hro : ∀ b : Nat,ownB H[b]? = false) {args' : Array Value} (ha : All2 (VRel ι) args args'.toList) :
    Calls P n args' W fun e W'=>e = .returned (.bool true)∧Below W.heap.size W W':=by
  refine (Oj hprog hlib n args ⟨H⟩ _ _ hrun hok _ ι W args' hs ha).mono fun e W' ⟨v',he,κ,h1,h2,h3⟩=>?_
  refine ⟨by rw [he,h3.inv_bool],⟨h2.os,h2.tape,h2.output,h2.size,fun k hk=>h2.keep k hk fun a y hoa=>?_⟩⟩
  rw [hro a] at hoa
  cases hoa
theorem sim_nil (W : World) : Sim W.heap.size (fun _=>none) [] W where
  dom _ _ h:=by cases h
  row _ _ _ _ h:=by simp at h
  map _ _ _ h:=by simp at h
  excl _ _ h:=by simp [ownB] at h
  size:=Nat.le_refl _
  loc _ _ _ _ h:=by simp at h
def roB : Blk→Bool
  | .row _ _ .ro=>true
  | _=>false
theorem roB_own {H : List Blk} (h : H.all roB = true) (b : Nat) : ownB H[b]? = false:=by
  cases hb : H[b]? with
  | none=>rfl
  | some x =>
    have:=List.all_eq_true.1 h x (List.mem_of_getElem? hb)
    cases x with
    | row n c st=>cases st <;> first | rfl | cases this
    | map=>cases this
def G5 (b : Nat) (a : Option Addr) (len : Nat) : Value :=
  match a with
  | none=>.slice none 0 0
  | some _=>.slice (some ⟨b,0,none⟩) len len
theorem UP {W : World} {ι : Emb} {H : List Blk} (h : Sim W.heap.size ι H W) (hro : H.all roB = true) {a : Option Addr} {len cap : Nat} {cells : List Value}
    (hr : (a = none∧len = 0∧cap = 0) ∨ ∃ x,a = some x∧len ≤ cap∧(∀ i,i < cap→∃ v,W.cell? (x.add i) = some v)∧∀ i v,cells[i]? = some v→∃ v',W.cell? (x.add i) = some v'∧L2 ι v v') :
    ∃ κ,ι.le κ∧Sim W.heap.size κ (H ++ [Blk.row 0 cells .ro]) W∧(H ++ [Blk.row 0 cells .ro]).all roB = true∧VRel κ (G5 H.length a len) (.slice a len cap):=by
  have hall : (H ++ [Blk.row 0 cells .ro]).all roB = true:=by simp [hro,roB]
  have hnone : ι H.length = none:=by
    cases e : ι H.length with
    | none=>rfl
    | some x=>exact absurd (h.dom _ _ e) (Nat.lt_irrefl _)
  have same : ∀ (κ : Emb),κ = ι→Sim W.heap.size κ (H ++ [Blk.row 0 cells .ro]) W:=by
    intro κ e
    subst e
    have hget : ∀ b x l,(H ++ [Blk.row 0 cells .ro])[b]? = some x→κ b = some l→H[b]? = some x:=by
      intro b x l hb hl
      rwa [List.getElem?_append_left (h.dom b l hl)] at hb
    exact { dom := fun b x hx => by simp; exact Nat.lt_succ_of_lt (h.dom b x hx)
            row:=fun b n c st hb hst l hl=>h.row b n c st (hget b _ l hb hl) hst l hl
            map:=fun b es clock hb l hl=>h.map b es clock (hget b _ l hb hl) l hl
            excl:=fun a b ha _ _=>by rw [roB_own hall a] at ha; cases ha
            size:=h.size
            loc:=fun b n c st hb hst l hl=>h.loc b n c st (hget b _ l hb hl) hst l hl }
  rcases hr with ⟨rfl,rfl,rfl⟩ | ⟨x,rfl,hle,hcell,hc⟩
  · exact ⟨ι,.refl _,same ι rfl,hall,.va (.l2 (.l1 (.l0 .snil)))⟩
  · by_cases hcap : cap = 0
    · subst hcap
      obtain rfl : len = 0:=by omega
      exact ⟨ι,.refl _,same ι rfl,hall,.va (.l2 (.l1 (.l0 (.slice0 _ _))))⟩
    · obtain ⟨v0,hv0⟩:=hcell 0 (by omega)
      have hx0 : x.add 0 = x:=rfl
      rw [hx0] at hv0
      have hblk : ∃ cs e fz,W.heap[x.block]? = some (.cells cs e fz)∧x.spot = none:=by
        unfold World.cell? at hv0
        split at hv0
        · rename_i c e fz heq
          split at hv0
          · cases hv0
          · rename_i hsp; exact ⟨c,e,fz,heq,by simpa using hsp⟩
        · cases hv0
      obtain ⟨cs,e,fz,hw,hsp⟩:=hblk
      obtain ⟨xb,xo,xs⟩:=x
      simp only at hsp hw
      subst hsp
      let l0 : Loc:=⟨xb,xo,0,xo⟩
      let κ : Emb:=fun b=>if b = H.length then some l0 else ι b
      have hle' : ι.le κ:=by
        intro b y hy
        show (if b = H.length then _ else _) = _
        rw [if_neg]
        · exact hy
        · intro e; rw [e,hnone] at hy; cases hy
      have hself : κ H.length = some l0:=if_pos rfl
      have hcs : ∀ i v,W.cell? (Addr.add ⟨xb,xo,none⟩ i) = some v→cs[xo + i]? = some v:=by
        intro i v hv
        unfold World.cell? at hv
        have hb : (Addr.add ⟨xb,xo,none⟩ i).block = xb:=by unfold Addr.add; split <;> rfl
        have ho : (Addr.add ⟨xb,xo,none⟩ i).off = xo + i:=by unfold Addr.add; split <;> simp_all
        have hs2 : (Addr.add ⟨xb,xo,none⟩ i).spot = none:=by unfold Addr.add; split <;> rfl
        rw [hb,hw] at hv
        simp only [hs2,ho] at hv
        simpa using hv
      refine ⟨κ,hle',?_,hall,.va (.l2 (.l1 (.l0 ?_)))⟩
      · have hget : ∀ b y l,(H ++ [Blk.row 0 cells .ro])[b]? = some y→κ b = some l→(b = H.length∧y = .row 0 cells .ro∧l = l0) ∨ (H[b]? = some y∧ι b = some l):=by
          intro b y l hb hl
          by_cases e : b = H.length
          · subst e
            rw [hself] at hl
            cases hl
            rw [List.getElem?_append_right (Nat.le_refl _)] at hb
            simp at hb
            exact .inl ⟨rfl,hb.symm,rfl⟩
          · have hl2 : ι b = some l:=by
              have : κ b = ι b:=if_neg e
              rw [← this]; exact hl
            rw [List.getElem?_append_left (h.dom b l hl2)] at hb
            exact .inr ⟨hb,hl2⟩
        constructor
        · intro b y hy
          simp
          by_cases e : b = H.length
          · omega
          · have : κ b = ι b:=if_neg e
            rw [this] at hy
            exact Nat.lt_succ_of_lt (h.dom b y hy)
        · intro b n c st hb hst l hl
          rcases hget b _ l hb hl with ⟨rfl,he,rfl⟩ | ⟨h1,h2⟩
          · cases he
            refine ⟨cs,e,fz,hw,fun _=>(Array.getElem?_eq_some_iff.1 hw).1,fun hh=>(by cases hh),fun i v hv=>?_⟩
            obtain ⟨v',h3,h4⟩:=hc i v hv
            exact ⟨v',hcs i v' h3,h4.mono hle'⟩
          · obtain ⟨cs',e',fz',q1,q2,q3,q4⟩:=h.row b n c st h1 hst l h2
            refine ⟨cs',e',fz',q1,q2,q3,fun i v hv=>?_⟩
            obtain ⟨v',h3,h4⟩:=q4 i v hv
            exact ⟨v',h3,h4.mono hle'⟩
        · intro b es clock hb l hl
          have:=List.all_eq_true.1 hall _ (List.mem_of_getElem? hb)
          cases this
        · intro a b ha
          rw [roB_own hall a] at ha
          cases ha
        · exact h.size
        · intro b n c st hb hst l hl
          rcases hget b _ l hb hl with ⟨rfl,he,rfl⟩ | ⟨h1,h2⟩
          · cases he
            exact ⟨rfl,Nat.le_refl _⟩
          · exact h.loc b n c st h1 hst l h2
      · exact .slice 0 hself (Nat.le_refl _) hle (fun _=>by show xo + cap * 0 ≤ xo; simp)
def ints (k : IntKind) (zs : List Int) : List Value:=zs.map (.int k)
def IsRow (k : IntKind) (w : World) (a : Option Addr) (len cap : Nat) (zs : List Int) : Prop :=
  (a = none∧len = 0∧cap = 0∧zs = []) ∨
  ∃ x,a = some x∧len ≤ cap∧cap ≤ maxLen∧zs.length = cap∧(∀ i,i < zs.length→w.cell? (x.add i) = some (.int k (zs.getD i 0)))∧∀ n ∈ zs,(Lit.int k n).wf = true
theorem Zay {W : World} {ι : Emb} {H : List Blk} (h : Sim W.heap.size ι H W) (hro : H.all roB = true) {k : IntKind} {a : Option Addr} {len cap : Nat} {zs : List Int} (hr : IsRow k W a len cap zs) :
    ∃ l : List Int,l.length = len∧(∀ n ∈ l,(Lit.int k n).wf = true)∧(a = none→l = []) ∧
    ∃ κ,ι.le κ∧Sim W.heap.size κ (H ++ [Blk.row 0 (ints k l) .ro]) W∧(H ++ [Blk.row 0 (ints k l) .ro]).all roB = true∧VRel κ (G5 H.length a len) (.slice a len cap):=by
  rcases hr with ⟨rfl,rfl,rfl,rfl⟩ | ⟨x,rfl,h1,h2,h3,h4,h5⟩
  · exact ⟨[],rfl,fun n hn=>by simp at hn,fun _=>rfl,UP h hro (cells:=ints k []) (.inl ⟨rfl,rfl,rfl⟩)⟩
  · refine ⟨zs.take len,by simp; omega,fun n hn=>h5 n (List.mem_of_mem_take hn),fun e=>(by cases e),UP h hro (cells:=ints k (zs.take len)) (.inr ⟨x,rfl,h1,fun i hi=>⟨_,h4 i (by omega)⟩,fun i v hv=>?_⟩)⟩
    unfold ints at hv
    rw [List.getElem?_map,List.getElem?_take] at hv
    split at hv
    · rename_i hil
      have hlt : i < zs.length:=by omega
      rw [List.getElem?_eq_getElem hlt] at hv
      simp at hv
      refine ⟨.int k (zs.getD i 0),h4 i hlt,?_⟩
      have : zs.getD i 0 = zs[i]:=by simp [hlt]
      rw [this,← hv]
      exact .l1 (.l0 (.int k _))
    · cases hv
end Go.Proofs.YtmbhnbladmpnoaaGreat.Ab
