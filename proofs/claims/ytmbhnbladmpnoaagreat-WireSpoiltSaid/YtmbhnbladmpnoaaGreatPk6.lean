/- Texts of this proof, packed: WrSize, WrRead, WrRead2, WrRead3, WrRead4, WrRead5, WrRead6, WrDec, FxEncT, WrBack, WrDec2, WrDec3, WrLawS, BArg, BSized. -/
import Derived.Test.YtmbhnbladmpnoaaGreatPk5
import Derived.SizedLaws
import Derived.ChangeSlices
set_option linter.unusedVariables false
set_option linter.unusedSimpArgs false
set_option linter.unusedSectionVars false
/- Messages that may be: what their fields are then; no body is too long. -/
namespace Go.Proofs.YtmbhnbladmpnoaaGreat.Ab
open Go
set_option maxRecDepth 10000
def isB (n : Int) : Prop := 0 ≤ n ∧ n < 256
def gOp (o : OpT) : Prop := isB o.kind ∧ o.key.length ≤ 16 ∧ o.val.length ≤ 16 ∧ o.lo.length ≤ 16 ∧ o.hi.length ≤ 16 ∧ isB o.most
def gPr (p : Rg) : Prop := p.1.length ≤ 16 ∧ p.2.length ≤ 16
def gRs (r : Rs) : Prop := r.2.1.length ≤ 16 ∧ r.2.2.length ≤ 4 ∧ ∀ p ∈ r.2.2,gPr p
def gOw (o : Ow) : Prop := o.1.length ≤ 16 ∧ isB o.2
theorem ZbA {o : OpT} (h : ckO o = 0) : gOp o := by
  unfold ckO at h
  split at h
  · cases h
  rename_i h1
  split at h
  · cases h
  rename_i h2
  split at h
  · cases h
  rename_i h3
  split at h
  · cases h
  rename_i h4
  split at h
  · cases h
  rename_i h5
  simp only [Bool.or_eq_true,Bool.and_eq_true,Bool.not_eq_true',not_or,not_and,bne_iff_ne,ne_eq,Bool.not_eq_false,decide_eq_true_eq,beq_iff_eq,Decidable.not_not] at h1 h2 h3 h4 h5
  obtain ⟨⟨⟨⟨a1,a2⟩,a3⟩,a4⟩,a5⟩ := h1
  have hk := OD a1
  have hlen : o.key.length ≤ 16 ∧ o.lo.length ≤ 16 ∧ o.hi.length ≤ 16 := by
    rcases Bool.eq_false_or_eq_true (MX o.kind) with c | c
    · have e1 := a2 c
      have e2 := h2 c
      unfold ckK at e2
      simp only [Bool.and_eq_true,decide_eq_true_eq] at e2
      rw [e1.1,e1.2]
      exact ⟨by omega,by simp,by simp⟩
    · have hr : OE o.kind = true := by
        unfold OE; unfold MX at c
        rcases hk with h | h | h | h | h <;> rw [h] at c ⊢ <;> first | rfl | cases c
      have e1 := a3 hr
      have e2 := h4 hr
      unfold ckR at e2
      simp only [Bool.and_eq_true,decide_eq_true_eq] at e2
      rw [e1]
      exact ⟨by simp,by omega,by omega⟩
  refine ⟨⟨by omega,by omega⟩,hlen.1,by simpa using h3,hlen.2.1,hlen.2.2,?_⟩
  by_cases h4k : o.kind = 4
  · have := h5 h4k
    unfold isB
    omega
  · have := a5 h4k
    unfold isB
    omega
theorem Zc1 {l : List OpT} (h : allE l = 0) : ∀ o ∈ l,gOp o := by
  induction l with
  | nil => intro o ho; cases ho
  | cons a l ih =>
    rw [H3] at h
    split at h
    · rename_i h1
      intro o ho
      rcases List.mem_cons.1 ho with rfl | ho
      · exact ZbA h1
      · exact ih h o ho
    · rename_i h1
      exact absurd h h1
def gOps (l : List OpT) : Prop := l.length ≤ 24 ∧ ∀ o ∈ l,gOp o
def gRss (l : List Rs) : Prop := l.length ≤ 24 ∧ ∀ o ∈ l,gRs o
def gOws (l : List Ow) : Prop := l.length ≤ 6 ∧ ∀ o ∈ l,gOw o
theorem ZaZ {l : List OpT} (h : (chkE l == 0) = true) : gOps l := by
  have h : chkE l = 0 := by simpa using h
  unfold chkE at h
  split at h
  · cases h
  · exact ⟨by omega,Zc1 h⟩
theorem Y4 {l : List OpT} {n : Int} (h : OU l n = true) (hn : n ≤ 24) : gOps l := by
  unfold OU at h
  simp only [Bool.and_eq_true,decide_eq_true_eq,Bool.not_eq_true',List.any_eq_false,bne_iff_ne,ne_eq,Decidable.not_not] at h
  exact ⟨by omega,fun o ho => ZbA (h.2 o ho)⟩
theorem ZeN {p : Rg} (h : YB p = false) : gPr p := by
  unfold YB at h
  simp only [Bool.or_eq_false_iff,decide_eq_false_iff_not,bne_eq_false_iff_eq] at h
  have h1 : ckK p.1 = true := by
    have := h.1
    unfold eK at this
    split at this
    · assumption
    · cases this
  unfold ckK at h1
  simp only [Bool.and_eq_true,decide_eq_true_eq] at h1
  exact ⟨by omega,by omega⟩
theorem ZeO {r : Rs} (h : YC r = false) : gRs r := by
  unfold YC at h
  simp only [Bool.or_eq_false_iff,decide_eq_false_iff_not,List.any_eq_false] at h
  exact ⟨by omega,by omega,fun p hp => ZeN (by simpa using h.2 p hp)⟩
theorem Y5 {l : List Rs} {n : Int} (h : PY l n = true) (hn : n ≤ 24) : gRss l := by
  unfold PY at h
  simp only [Bool.and_eq_true,decide_eq_true_eq,Bool.not_eq_true',List.any_eq_false] at h
  exact ⟨by omega,fun o ho => ZeO (by simpa using h.2 o ho)⟩
theorem sh_b {n : Int} (h : shOk n = true) : isB n := by
  unfold shOk at h
  simp only [Bool.and_eq_true,Bool.not_eq_true',decide_eq_false_iff_not] at h
  exact ⟨by omega,by omega⟩
theorem ZeP : ∀ {l : List Ow} {p : BL},okF (some p) l = true → ∀ o ∈ l,gOw o
  | [],_,_ => fun o ho => by cases ho
  | a :: l,p,h => by
    simp only [okF,Bool.and_eq_true] at h
    have h1 := h.1.2.1
    unfold ckK at h1
    simp only [Bool.and_eq_true,decide_eq_true_eq] at h1
    intro o ho
    rcases List.mem_cons.1 ho with rfl | ho
    · exact ⟨by omega,sh_b h.1.1⟩
    · exact ZeP h.2 o ho
theorem Zc2 {l : List Ow} (h : (eO l == 0) = true) : gOws l := by
  rw [eO_0] at h
  cases l with
  | nil => cases h
  | cons a l =>
    simp only [okO,okF,Bool.and_eq_true,decide_eq_true_eq,beq_iff_eq] at h
    refine ⟨by simp only [List.length_cons]; omega,fun o ho => ?_⟩
    rcases List.mem_cons.1 ho with rfl | ho
    · exact ⟨by rw [h.1.2]; simp,sh_b h.2.1⟩
    · exact ZeP h.2.2 o ho
theorem ZbB {r : Rg} (h : (eR r == 0) = true) : gPr r := by
  have h1 : ckR r = true := by
    unfold eR at h
    split at h
    · assumption
    · cases h
  unfold ckR at h1
  simp only [Bool.and_eq_true,decide_eq_true_eq] at h1
  exact ⟨by omega,by omega⟩
theorem DV {l : List OpT} (h : ((l.length : Int) == 0) = true) : gOps l := by
  have : l = [] := by cases l with | nil => rfl | cons a l => simp at h; omega
  subst this
  exact ⟨by simp,fun o ho => by cases ho⟩
theorem Dr {l : List Rs} (h : ((l.length : Int) == 0) = true) : gRss l := by
  have : l = [] := by cases l with | nil => rfl | cons a l => simp at h; omega
  subst this
  exact ⟨by simp,fun o ho => by cases ho⟩
theorem C6 {l : List Ow} (h : ((l.length : Int) == 0) = true) : gOws l := by
  have : l = [] := by cases l with | nil => rfl | cons a l => simp at h; omega
  subst this
  exact ⟨by simp,fun o ho => by cases ho⟩
theorem Ez {r : Rg} (h : (r.1 == [] && r.2 == []) = true) : gPr r := by
  simp only [Bool.and_eq_true,beq_iff_eq] at h
  exact ⟨by rw [h.1]; simp,by rw [h.2]; simp⟩
theorem EA {n : Int} (h : (n == 0) = true) : isB n := by
  have : n = 0 := by simpa using h
  rw [this]
  exact ⟨by decide,by decide⟩
structure MsGood (m : Ms) (p : BL × Nat × Nat × Nat) : Prop where
  form : CC m.kind = some p
  kind : isB m.kind
  src : isB m.src
  dst : isB m.dst
  client : m.client = 0
  code : isB m.code
  peer : isB m.peer
  rg : gPr m.rg
  ops : gOps m.ops
  res : gRss m.res
  own : gOws m.own
  zero : ∀ q ∈ zTab m,q.2 = true ∨ ((lets p.1).any fun n => q.1 == n) = true
theorem AL {P : Prop} {b : Bool} (h : P ∨ b = true) (hb : b = false) : P := h.resolve_right fun e => by rw [hb] at e; cases e
theorem ZbC {f : Nat} (hf : f ∈ Ma) {n : Int} (h : Lq f n = true) : isB n := by
  simp only [Ma,List.mem_cons,List.not_mem_nil,or_false] at hf
  rcases hf with rfl | rfl | rfl
  all_goals
    simp [Lq] at h
    unfold isB
    omega
theorem Y6 {m : Ms} (h : eMs m = 0) : ∃ p,MsGood m p := by
  unfold eMs at h
  split at h
  · cases h
  rename_i h1
  have h1 : M0 m = false ∧ O2 m = false := by simpa using h1
  obtain ⟨h1,h2⟩ := h1
  cases hp : CC m.kind with
  | none => unfold M0 at h1; rw [hp] at h1; cases h1
  | some p =>
    have hb : (((!Lq p.2.1 m.src || !Lq p.2.2.1 m.dst) || m.client != 0) || !KG p.2.2.2 m) = false := by unfold M0 at h1; rw [hp] at h1; exact h1
    have hx : (!(zTab m).all fun q => (lets p.1).any (fun n => q.1 == n) || q.2) = false := by unfold O2 at h2; rw [hp] at h2; exact h2
    simp only [Bool.or_eq_false_iff,Bool.not_eq_false',bne_eq_false_iff_eq] at hb hx
    obtain ⟨⟨⟨b1,b2⟩,b3⟩,b4⟩ := hb
    obtain ⟨f1,f2,_⟩ := YP hp
    have hz : ∀ q ∈ zTab m,q.2 = true ∨ ((lets p.1).any fun n => q.1 == n) = true := fun q hq => by
      have := List.all_eq_true.1 hx q hq
      simp only [Bool.or_eq_true] at this
      exact this.symm
    have zc := hz (99,m.code == 0) (by simp [zTab])
    have zp := hz (112,m.peer == 0) (by simp [zTab])
    have zr := hz (114,m.rg.1 == [] && m.rg.2 == []) (by simp [zTab])
    have zo := hz (111,(m.ops.length : Int) == 0) (by simp [zTab])
    have zs := hz (115,(m.res.length : Int) == 0) (by simp [zTab])
    have zw := hz (119,(m.own.length : Int) == 0) (by simp [zTab])
    have hm := Em hp
    refine ⟨p,?_⟩
    simp only [AF,List.mem_cons,List.not_mem_nil,or_false,Prod.mk.injEq] at hm
    have mk : isB m.kind → isB m.code → isB m.peer → gPr m.rg → gOps m.ops → gRss m.res → gOws m.own → MsGood m p := fun k c q r o s w => ⟨hp,k,ZbC f1 b1,ZbC f2 b2,b3,c,q,r,o,s,w,hz⟩
    have hk : isB m.kind := by unfold isB; omega
    clear hp hz hx f1 f2 h1 h2 b1 b2
    rcases hm with ⟨_,rfl⟩ | ⟨_,rfl⟩ | ⟨_,rfl⟩ | ⟨_,rfl⟩ | ⟨_,rfl⟩ | ⟨_,rfl⟩ | ⟨_,rfl⟩ | ⟨_,rfl⟩ | ⟨_,rfl⟩ | ⟨_,rfl⟩ | ⟨_,rfl⟩ | ⟨_,rfl⟩ | ⟨_,rfl⟩ | ⟨_,rfl⟩
    · exact mk hk (EA (AL zc rfl)) (EA (AL zp rfl)) (Ez (AL zr rfl)) (ZaZ b4) (Dr (AL zs rfl)) (C6 (AL zw rfl))
    · have b4 : ((m.code == 1 || m.code == 2) && PY m.res 4) = true := b4
      simp only [Bool.and_eq_true,Bool.or_eq_true,beq_iff_eq] at b4
      exact mk hk (by unfold isB; omega) (EA (AL zp rfl)) (Ez (AL zr rfl)) (DV (AL zo rfl)) (Y5 b4.2 (by decide)) (C6 (AL zw rfl))
    · have b4 : (decide ((m.ops.length : Int) > 0) && OU m.ops 24) = true := b4
      simp only [Bool.and_eq_true] at b4
      exact mk hk (EA (AL zc rfl)) (EA (AL zp rfl)) (Ez (AL zr rfl)) (Y4 b4.2 (by decide)) (Dr (AL zs rfl)) (C6 (AL zw rfl))
    · have b4 : ((decide (m.code ≥ 3) && decide (m.code ≤ 5)) && PY m.res 24) = true := b4
      simp only [Bool.and_eq_true,decide_eq_true_eq] at b4
      exact mk hk (by unfold isB; omega) (EA (AL zp rfl)) (Ez (AL zr rfl)) (DV (AL zo rfl)) (Y5 b4.2 (by decide)) (C6 (AL zw rfl))
    · exact mk hk (EA (AL zc rfl)) (EA (AL zp rfl)) (Ez (AL zr rfl)) (DV (AL zo rfl)) (Dr (AL zs rfl)) (C6 (AL zw rfl))
    · exact mk hk (EA (AL zc rfl)) (EA (AL zp rfl)) (Ez (AL zr rfl)) (DV (AL zo rfl)) (Dr (AL zs rfl)) (C6 (AL zw rfl))
    · exact mk hk (EA (AL zc rfl)) (EA (AL zp rfl)) (Ez (AL zr rfl)) (DV (AL zo rfl)) (Dr (AL zs rfl)) (C6 (AL zw rfl))
    · exact mk hk (EA (AL zc rfl)) (EA (AL zp rfl)) (Ez (AL zr rfl)) (DV (AL zo rfl)) (Dr (AL zs rfl)) (Zc2 b4)
    · exact mk hk (EA (AL zc rfl)) (EA (AL zp rfl)) (Ez (AL zr rfl)) (DV (AL zo rfl)) (Dr (AL zs rfl)) (C6 (AL zw rfl))
    · have b4 : (Tg m.peer && eR m.rg == 0) = true := b4
      simp only [Bool.and_eq_true,Tg,decide_eq_true_eq] at b4
      exact mk hk (EA (AL zc rfl)) (by unfold isB; omega) (ZbB b4.2) (DV (AL zo rfl)) (Dr (AL zs rfl)) (C6 (AL zw rfl))
    · have b4 : (((m.src != m.dst && OU m.ops 6) && eR m.rg == 0) && !(m.ops.any fun o => !wrt o.kind)) = true := b4
      rw [Bool.and_eq_true,Bool.and_eq_true,Bool.and_eq_true] at b4
      exact mk hk (EA (AL zc rfl)) (EA (AL zp rfl)) (ZbB b4.1.2) (Y4 b4.1.1.2 (by decide)) (Dr (AL zs rfl)) (C6 (AL zw rfl))
    · exact mk hk (EA (AL zc rfl)) (EA (AL zp rfl)) (Ez (AL zr rfl)) (DV (AL zo rfl)) (Dr (AL zs rfl)) (C6 (AL zw rfl))
    · exact mk hk (EA (AL zc rfl)) (EA (AL zp rfl)) (Ez (AL zr rfl)) (DV (AL zo rfl)) (Dr (AL zs rfl)) (C6 (AL zw rfl))
    · exact mk hk (EA (AL zc rfl)) (EA (AL zp rfl)) (Ez (AL zr rfl)) (DV (AL zo rfl)) (Dr (AL zs rfl)) (C6 (AL zw rfl))
theorem ZeQ {n : Nat} (h : n < 128) : enc n = [UInt8.ofNat n] := by
  unfold enc encF
  rw [if_pos h]
theorem Zfl {k : BL} (h : k.length ≤ 16) : (tB k).length ≤ 17 := by
  unfold tB
  rw [ZeQ (by omega)]
  simp only [List.length_append,List.length_singleton]
  omega
theorem Y7 {α : Type} {f : α → BL} {n : Nat} : ∀ {l : List α},(∀ a ∈ l,(f a).length ≤ n) → (l.flatMap f).length ≤ l.length * n
  | [],_ => by simp
  | a :: l,h => by
    rw [List.flatMap_cons,List.length_append,List.length_cons,Nat.add_mul,Nat.one_mul]
    have h1 := h a (List.mem_cons_self ..)
    have h2 := Y7 (l := l) fun b hb => h b (List.mem_cons_of_mem _ hb)
    omega
theorem VH {ks : List BL} (h : ∀ k ∈ ks,k.length ≤ 16) : (tBs ks).length ≤ ks.length * 17 := Y7 fun k hk => Zfl (h k hk)
theorem Y8 {p : Rg} (h : gPr p) : (ePr p).length ≤ 34 := by
  have := VH (ks := [p.1,p.2]) fun k hk => by
    simp only [List.mem_cons,List.not_mem_nil,or_false] at hk
    rcases hk with rfl | rfl
    · exact h.1
    · exact h.2
  exact this
theorem ZbD {o : OpT} (h : gOp o) : (eOpW o).length ≤ 70 := by
  have := VH (ks := [o.key,o.val,o.lo,o.hi]) fun k hk => by
    simp only [List.mem_cons,List.not_mem_nil,or_false] at hk
    rcases hk with rfl | rfl | rfl | rfl
    · exact h.2.1
    · exact h.2.2.1
    · exact h.2.2.2.1
    · exact h.2.2.2.2.1
  simp only [List.length_cons,List.length_nil] at this
  simp only [eOpW,List.length_append,List.length_singleton]
  omega
theorem ZbE {o : Ow} (h : gOw o) : (eOwW o).length ≤ 18 := by
  have := VH (ks := [o.1]) fun k hk => by
    simp only [List.mem_cons,List.not_mem_nil,or_false] at hk
    rw [hk]
    exact h.1
  simp only [List.length_cons,List.length_nil] at this
  simp only [eOwW,List.length_append,List.length_singleton]
  omega
theorem ET {α : Type} {f : α → BL} {n : Nat} {l : List α} (hl : l.length ≤ 24) (h : ∀ a ∈ l,(f a).length ≤ n) : (Fs f l).length ≤ 1 + l.length * n := by
  unfold Fs
  rw [ZeQ (by omega),List.length_append,List.length_singleton]
  have := Y7 h
  omega
theorem ZeR {r : Rs} (h : gRs r) : (eRs r).length ≤ 155 := by
  have h1 := ET (f := ePr) (n := 34) (l := r.2.2) (by have := h.2.1; omega) fun p hp => Y8 (h.2.2 p hp)
  have h2 := VH (ks := [r.2.1]) fun k hk => by
    simp only [List.mem_cons,List.not_mem_nil,or_false] at hk
    rw [hk]
    exact h.1
  simp only [List.length_cons,List.length_nil] at h2
  simp only [eRs,List.length_append,List.length_singleton]
  have := h.2.1
  have : r.2.2.length * 34 ≤ 4 * 34 := Nat.mul_le_mul_right _ this
  omega
theorem Zc3 {m : Ms} {p : BL × Nat × Nat × Nat} (h : MsGood m p) (c : Int) : (wOf m c).length ≤ 3721 := by
  unfold wOf
  cases hq : (wTab m).find? fun p => p.1 == c with
  | none => simp
  | some q =>
    have hm := List.mem_of_find?_eq_some hq
    simp only [Option.map_some,Option.getD_some]
    simp only [wTab,List.mem_cons,List.not_mem_nil,or_false] at hm
    have he : ∀ n,(eN n).length ≤ 10 := fun n => JI
    have ho := ET (f := eOpW) (n := 70) h.ops.1 fun o ho => ZbD (h.ops.2 o ho)
    have hs := ET (f := eRs) (n := 155) h.res.1 fun o ho => ZeR (h.res.2 o ho)
    have hw := ET (f := eOwW) (n := 18) (by have := h.own.1; omega) fun o ho => ZbE (h.own.2 o ho)
    have hr := Y8 h.rg
    have h1 := h.ops.1
    have h2 := h.res.1
    have h3 := h.own.1
    rcases hm with rfl | rfl | rfl | rfl | rfl | rfl | rfl | rfl | rfl | rfl | rfl | rfl | rfl | rfl | rfl | rfl
    all_goals first
      | exact Nat.le_trans (he _) (by decide)
      | (simp only [List.length_singleton]; decide)
      | (unfold ePr at hr; simp only; omega)
      | (simp only; omega)
theorem ZeS {m : Ms} {p : BL × Nat × Nat × Nat} (h : MsGood m p) {c : Int} (hc : c ≠ 115 ∧ c ≠ 111) : (wOf m c).length ≤ 110 := by
  unfold wOf
  cases hq : (wTab m).find? fun p => p.1 == c with
  | none => simp
  | some q =>
    have hm := List.mem_of_find?_eq_some hq
    have hq2 : q.1 = c := by simpa using List.find?_some hq
    simp only [Option.map_some,Option.getD_some]
    simp only [wTab,List.mem_cons,List.not_mem_nil,or_false] at hm
    have he : ∀ n,(eN n).length ≤ 10 := fun n => JI
    have hw := ET (f := eOwW) (n := 18) (by have := h.own.1; omega) fun o ho => ZbE (h.own.2 o ho)
    have hr := Y8 h.rg
    have h3 := h.own.1
    rcases hm with rfl | rfl | rfl | rfl | rfl | rfl | rfl | rfl | rfl | rfl | rfl | rfl | rfl | rfl | rfl | rfl
    all_goals first
      | exact Nat.le_trans (he _) (by decide)
      | (simp only [List.length_singleton]; decide)
      | (exfalso; simp only at hq2; omega)
      | (unfold ePr at hr; simp only; omega)
      | (simp only; omega)
theorem Zc4 {m : Ms} {p : BL × Nat × Nat × Nat} (h : MsGood m p) : (wOf m 111).length ≤ 1681 := by
  have ho := ET (f := eOpW) (n := 70) h.ops.1 fun o ho => ZbD (h.ops.2 o ho)
  have h1 := h.ops.1
  show (Fs eOpW m.ops).length ≤ 1681
  omega
theorem Za0 {m : Ms} (he : eMs m = 0) : (CS m).length ≤ 4096 := by
  obtain ⟨p,h⟩ := Y6 he
  have hm := Em h.form
  unfold CS
  rw [h.form]
  simp only [List.length_append,List.length_cons,List.length_nil]
  have big := fun c => Zc3 h c
  have sm := fun c hc => ZeS h (c := c) hc
  have key : ((lets p.1).flatMap (wOf m)).length ≤ 4093 := by
    clear he
    simp only [AF,List.mem_cons,List.not_mem_nil,or_false,Prod.mk.injEq] at hm
    have e1 := fun (c : Int) => sm c
    rcases hm with ⟨_,rfl⟩ | ⟨_,rfl⟩ | ⟨_,rfl⟩ | ⟨_,rfl⟩ | ⟨_,rfl⟩ | ⟨_,rfl⟩ | ⟨_,rfl⟩ | ⟨_,rfl⟩ | ⟨_,rfl⟩ | ⟨_,rfl⟩ | ⟨_,rfl⟩ | ⟨_,rfl⟩ | ⟨_,rfl⟩ | ⟨_,rfl⟩
    all_goals
      simp only [lets,List.map_cons,List.map_nil,List.flatMap_cons,List.flatMap_nil,List.length_append,List.length_nil,List.append_nil]
      have a1 := big 115
      have a2 := Zc4 h
      have b1 := sm 113 (by decide)
      have b2 := sm 98 (by decide)
      have b3 := sm 116 (by decide)
      have b4 := sm 108 (by decide)
      have b5 := sm 118 (by decide)
      have b6 := sm 101 (by decide)
      have b7 := sm 109 (by decide)
      have b8 := sm 97 (by decide)
      have b9 := sm 110 (by decide)
      have b10 := sm 99 (by decide)
      have b11 := sm 112 (by decide)
      have b12 := sm 102 (by decide)
      have b13 := sm 114 (by decide)
      have b14 := sm 119 (by decide)
      first | exact Nat.le_trans (Nat.le_of_eq rfl) (by omega) | (simp only [show (((113 : UInt8).toNat : Nat) : Int) = 113 from rfl,show (((98 : UInt8).toNat : Nat) : Int) = 98 from rfl,show (((116 : UInt8).toNat : Nat) : Int) = 116 from rfl,show (((108 : UInt8).toNat : Nat) : Int) = 108 from rfl,show (((118 : UInt8).toNat : Nat) : Int) = 118 from rfl,show (((101 : UInt8).toNat : Nat) : Int) = 101 from rfl,show (((109 : UInt8).toNat : Nat) : Int) = 109 from rfl,show (((97 : UInt8).toNat : Nat) : Int) = 97 from rfl,show (((110 : UInt8).toNat : Nat) : Int) = 110 from rfl,show (((99 : UInt8).toNat : Nat) : Int) = 99 from rfl,show (((112 : UInt8).toNat : Nat) : Int) = 112 from rfl,show (((102 : UInt8).toNat : Nat) : Int) = 102 from rfl,show (((114 : UInt8).toNat : Nat) : Int) = 114 from rfl,show (((111 : UInt8).toNat : Nat) : Int) = 111 from rfl,show (((115 : UInt8).toNat : Nat) : Int) = 115 from rfl,show (((119 : UInt8).toNat : Nat) : Int) = 119 from rfl]; omega)
  omega
end Go.Proofs.YtmbhnbladmpnoaaGreat.Ab

/- Messages are read: bytes,numbers,flags; the program's reader and the document's. -/
namespace Go.Proofs.YtmbhnbladmpnoaaGreat.Ab
open Go
def Hk : Par Nat := fun r => match r with
  | [] => .error 10
  | c :: r => .ok (c.toNat,r)
def Hl : Par Nat := fun r => if (Aw r).2.2 ≠ 0 then .error (Aw r).2.2 else .ok ((Aw r).1,r.drop (Aw r).2.1)
def Zc5 : Par Nat := Hl.bind fun n => if 255 < n then .fail 11 else .pure n
def Tv : Par Bool := Hk.bind fun n => if 1 < n then .fail 11 else .pure (n == 1)
def pTx : Par BL := fun r => if (Az r 255).2.2 = 2 then .error 11 else if (Az r 255).2.2 ≠ 0 then .error (Az r 255).2.2 else .ok ((Az r 255).1,r.drop (Az r 255).2.1)
theorem WT (l : BL) (m : Int) : (Az l m).2.2 = 0 → (Az l m).2.1 ≤ l.length := by
  unfold Az
  have := Gw l
  generalize Aw l = r at *
  obtain ⟨n,k,e⟩ := r
  simp only at this ⊢
  split
  · intro h; rename_i h2; exact absurd h h2
  · rename_i h2
    have := this (by simpa using h2)
    split
    · intro h; cases h
    · split
      · intro h; cases h
      · intro _; simp only; omega
theorem Tw (l : BL) (m : Int) (hm : 0 ≤ m) : ((Az l m).1.length : Int) ≤ m := by
  unfold Az
  generalize Aw l = r
  obtain ⟨n,k,e⟩ := r
  simp only
  split
  · simpa using hm
  · split
    · simpa using hm
    · split
      · simpa using hm
      · simp; omega
theorem ret0 {s : St} : retV [] s = some (undef,s) := rfl
theorem OG.run {α : Type} {N : Nat} {f g : St → Option (Value × St)} {ag : Bool} {O : OCod α} {p : Par α} (h : OG N f ag O p) (hfg : ∀ s r,f s = some r → g s = some r) : OG N g ag O p := by
  intro s x hx
  obtain ⟨a,u,cs,s',y,g1,g2⟩ := h s x hx
  exact ⟨a,u,cs,s',y,hfg s _ g1,g2⟩
theorem CP {k : IntKind} {m lo hi a : Nat} {s : St} {u : Value} {cs : List Value} (h : (oNat k m).own lo hi a s cs) (g : MY false u cs) : u = .int k (a : Int) ∧ a ≤ m := by
  obtain ⟨h1,h2⟩ := h
  have g : cs = [u] := g
  rw [g] at h1
  exact ⟨(List.cons.inj h1).1,h2⟩
theorem Tx {lo hi : Nat} {a : Bool} {s : St} {u : Value} {cs : List Value} (h : (OCod.ofC blnC fun _ => True).own lo hi a s cs) (g : MY false u cs) : u = .bool a := by
  obtain ⟨h1,h2⟩ := h
  have g : cs = [u] := g
  rw [g] at h1
  exact (List.cons.inj h1).1
theorem Ty (b : Bool) (lo hi : Nat) (s : St) : (OCod.ofC blnC fun _ => True).own lo hi b s [.bool b] := ⟨rfl,trivial⟩
section
variable {N : Nat} {s : St} {v : Value} {x : BL × Int}
theorem By (h : RdV N s v x) (hx : x.2 = 0) (e : Int) : (run Tryz.prog (libL libT) Ad) 36 [rp N,.int .i64 e] s = some (undef,setR N v e s) := by
  have hz : (x.2 == 0) = true := by simp [hx]
  refine E8 rfl ?_
  unfold Ew
  simp only [Cq,Ej,h.ld1,h.st1,hz,ret0,EVs]
theorem JP (h : RdV N s v x) (hx : x.2 ≠ 0) (e : Int) : (run Tryz.prog (libL libT) Ad) 36 [rp N,.int .i64 e] s = some (undef,s) := by
  have hz : (x.2 == 0) = false := by simp [hx]
  refine E8 rfl ?_
  unfold Ew
  simp only [Cq,Ej,h.ld1,h.st1,hz,ret0,EVs]
theorem Dg (h : RdV N s v x) (e : Int) (he : e ≠ 0) : ∃ s' y,(run Tryz.prog (libL libT) Ad) 36 [rp N,.int .i64 e] s = some (undef,s') ∧ Rd N s' y ∧ Keep (some N) s s' ∧ y.2 = if x.2 = 0 then e else x.2 := by
  by_cases hx : x.2 = 0
  · exact ⟨_,(x.1,e),By h hx e,h.seterr e,CB,by rw [if_pos hx]⟩
  · exact ⟨s,x,JP h hx e,⟨v,h⟩,.refl _ _,by rw [if_neg hx]⟩
end
theorem ED {N : Nat} : OG N (fun s => (run Tryz.prog (libL libT) Ad) 144 [rp N] s) false (oNat .u64 18446744073709551615) Hl := by
  intro s x ⟨v,h⟩
  have hr1 : ∀ (n : Int) (s : St),retV [.int .u64 n] s = some (.int .u64 n,s) := fun n s => ret1 rfl
  by_cases hx : x.2 = 0
  · have hz : (x.2 != 0) = false := by simp [hx]
    have hrk := Gw x.1
    have hk := kRN h.byt
    have hlt := Gx x.1
    by_cases he : (Aw x.1).2.2 = 0
    · have h2 : ((0 : Int) != 0) = false := rfl
      rw [he] at hk
      obtain ⟨u,g1,g2,g3⟩ := h.drop (hrk he).2 (k := .i64)
      refine ⟨(Aw x.1).1,.int .u64 ((Aw x.1).1 : Int),_,_,(x.1.drop (Aw x.1).2.1,x.2),DT rfl ?_,g3,CB,rfl,⟨rfl,by omega⟩,.of_ok hx (by unfold Hl; rw [if_neg (by simp [he])]) (by rw [hx])⟩
      unfold DS
      simp only [Cq,Ej,RL,h.ld1,h.ld0,hz,CN,hk,x3_0,x3_1,x3_2,h2,g1,g2,hr1,EVs]
    · have h2 : ((Aw x.1).2.2 != 0) = true := by simp [he]
      refine ⟨0,.int .u64 0,_,_,(x.1,(Aw x.1).2.2),DT rfl ?_,h.seterr _,CB,rfl,⟨rfl,Nat.zero_le _⟩,.of_err hx (by unfold Hl; rw [if_pos he]) he rfl⟩
      unfold DS
      simp only [Cq,Ej,RL,h.ld1,h.ld0,hz,CN,hk,x3_0,x3_1,x3_2,h2,A5,By h hx,hr1,EVs]
  · have hz : (x.2 != 0) = true := by simp [hx]
    refine ⟨0,.int .u64 0,_,s,x,DT rfl ?_,⟨v,h⟩,.refl _ _,rfl,⟨rfl,Nat.zero_le _⟩,.stuck hx rfl⟩
    unfold DS
    simp only [Cq,Ej,h.ld1,hz,hr1,EVs]
section
variable {N : Nat} {s : St} {v : Value} {x : BL × Int}
end
section
variable {N : Nat} {s : St} {v : Value} {x : BL × Int} (h : RdV N s v x)
include h
theorem JQ : ∃ (a : Nat) (s' : St) (y : BL × Int),(run Tryz.prog (libL libT) Ad) 35 [rp N] s = some (.int .i64 (a : Int),s') ∧ Rd N s' y ∧ Keep (some N) s s' ∧ a ≤ 255 ∧ Does Hk x a y := by
  have hr1 : ∀ (n : Int) (s : St),retV [.int .i64 n] s = some (.int .i64 n,s) := fun n s => ret1 rfl
  by_cases hx : x.2 = 0
  · have hz : (x.2 == 0) = true := by simp [hx]
    have hz2 : (x.2 != 0) = false := by simp [hx]
    cases hl : x.1 with
    | nil =>
      have h1 : (((x.1.length : Nat) : Int) == 0) = true := by rw [hl]; rfl
      have h3 : ((10 : Int) != 0) = true := rfl
      obtain ⟨v',h'⟩ := h.seterr 10
      have l1 := h'.ld1
      refine ⟨0,_,(x.1,10),Du rfl ?_,⟨v',h'⟩,CB,Nat.zero_le _,.of_err hx (by rw [hl]; rfl) (e := 10) (by decide) rfl⟩
      unfold Bf
      simp only [Cq,Ej,RL,h.ld1,h.ld0,hz,AY h.byt,h1,B6,Bf.j0,A5,By h hx 10,l1,h3,hr1,Bool.true_and,EVs]
      rfl
    | cons c r =>
      have h1 : (((x.1.length : Nat) : Int) == 0) = false := by rw [hl]; simp; omega
      obtain ⟨p,f1,f2⟩ := CL h.byt (i := 0) (by rw [hl]; simp) (k := .i64)
      obtain ⟨u,g1,g2,g3⟩ := h.drop (i := 1) (by rw [hl]; simp) (k := .i64)
      have hc : x.1[0]'(by rw [hl]; simp) = c := by simp [hl]
      rw [hc] at f2
      have f1' : AC 1 v (.int .i64 0) = some p := f1
      have g1' : Bj 1 v (some (.int .i64 1)) none none = some u := g1
      have hc8 : c.toNat < 256 := c.toNat_lt
      have hw : IntKind.wrap .i64 ((c.toNat : Nat) : Int) = ((c.toNat : Nat) : Int) := wrap_i64 (by omega) (by omega)
      refine ⟨c.toNat,_,(x.1.drop 1,x.2),Du rfl ?_,g3,CB,by omega,.of_ok (r0 := r) hx (by rw [hl]; rfl) (by rw [hx,hl]; rfl)⟩
      unfold Bf
      simp only [Cq,Ej,RL,h.ld1,h.ld0,hz,hz2,AY h.byt,h1,B6,Bf.j0,f1',f2,g1',g2,hw,hr1,Bool.true_and,EVs]
  · have hz : (x.2 == 0) = false := by simp [hx]
    have hz2 : (x.2 != 0) = true := by simp [hx]
    refine ⟨0,s,x,Du rfl ?_,⟨v,h⟩,.refl _ _,Nat.zero_le _,.stuck hx rfl⟩
    unfold Bf
    simp only [Cq,Ej,RL,h.ld1,hz,hz2,B6,Bf.j0,hr1,Bool.false_and,EVs]
    rfl
end
theorem A7 {N : Nat} : OG N (fun s => (run Tryz.prog (libL libT) Ad) 35 [rp N] s) false (oNat .i64 255) Hk := by
  intro s x ⟨v,h⟩
  obtain ⟨a,s',y,h1,h2,h3,h4,h5⟩ := JQ h
  exact ⟨a,_,_,s',y,h1,h2,h3,rfl,⟨rfl,h4⟩,h5⟩
theorem Cb {N : Nat} : OG N (fun s => (run Tryz.prog (libL libT) Ad) 153 [rp N] s) false (oNat .i64 255) Zc5 := by
  intro s x hx
  obtain ⟨a,u1,c1,s1,y1,f1,f2,f3,f4,f5,f6⟩ := ED s x hx
  obtain ⟨rfl,h⟩ := CP f5 f4
  have f1 : (run Tryz.prog (libL libT) Ad) 144 [rp N] s = some (.int .u64 (a : Int),s1) := f1
  have hr1 : ∀ (n : Int) (s : St),retV [.int .i64 n] s = some (.int .i64 n,s) := fun n s => ret1 rfl
  by_cases ha : 255 < a
  · have hd : decide ((a : Int) > 255) = true := by simp; omega
    obtain ⟨v,h2⟩ := f2
    obtain ⟨s2,y2,g1,g2,g3,g4⟩ := Dg h2 11 (by decide)
    refine ⟨0,.int .i64 0,_,s2,y2,Ff rfl ?_,g2,f3.trans g3,rfl,⟨rfl,Nat.zero_le _⟩,f6.bind ?_⟩
    · unfold Ey
      simp only [Db,f1,hd,A5,g1,hr1,EVs]
    · rw [if_pos ha]
      exact .fail (by decide) g4
  · have hd : decide ((a : Int) > 255) = false := by simp; omega
    have hw : IntKind.wrap .i64 (a : Int) = (a : Int) := wrap_i64 (by omega) (by omega)
    refine ⟨a,.int .i64 (a : Int),_,s1,y1,Ff rfl ?_,f2,f3,rfl,⟨rfl,by omega⟩,f6.bind ?_⟩
    · unfold Ey
      simp only [Db,f1,hd,hw,hr1,EVs]
    · rw [if_neg ha]
      exact .pure
theorem Eo {N : Nat} : OG N (fun s => (run Tryz.prog (libL libT) Ad) 84 [rp N] s) false (.ofC blnC fun _ => True) Tv := by
  intro s x hx
  obtain ⟨a,u1,c1,s1,y1,f1,f2,f3,f4,f5,f6⟩ := A7 s x hx
  obtain ⟨rfl,h⟩ := CP f5 f4
  have f1 : (run Tryz.prog (libL libT) Ad) 35 [rp N] s = some (.int .i64 (a : Int),s1) := f1
  have hr1 : ∀ (b : Bool) (s : St),retV [.bool b] s = some (.bool b,s) := fun n s => ret1 rfl
  have hce : ((a : Int) == 1) = (a == 1) := by
    rw [Bool.eq_iff_iff]
    simp only [beq_iff_eq]
    omega
  by_cases ha : 1 < a
  · have hd : decide ((a : Int) > 1) = true := by simp; omega
    obtain ⟨v,h2⟩ := f2
    obtain ⟨s2,y2,g1,g2,g3,g4⟩ := Dg h2 11 (by decide)
    refine ⟨a == 1,.bool (a == 1),[.bool (a == 1)],s2,y2,Fa rfl ?_,g2,f3.trans g3,rfl,Ty _ _ _ _,f6.bind ?_⟩
    · unfold BA
      simp only [Bc,f1,hd,A5,g1,B6,BA.j0,hce,hr1,EVs]
    · rw [if_pos ha]
      exact .fail (by decide) g4
  · have hd : decide ((a : Int) > 1) = false := by simp; omega
    refine ⟨a == 1,.bool (a == 1),[.bool (a == 1)],s1,y1,Fa rfl ?_,f2,f3,rfl,Ty _ _ _ _,f6.bind ?_⟩
    · unfold BA
      simp only [Bc,f1,hd,B6,BA.j0,hce,hr1,EVs]
    · rw [if_neg ha]
      exact .pure
end Go.Proofs.YtmbhnbladmpnoaaGreat.Ab

/- Messages are read: texts through pointers. -/
namespace Go.Proofs.YtmbhnbladmpnoaaGreat.Ab
open Go
def Y9 (cells : List Value) : List Nat → List BL → List Value
  | j :: js,n :: ns => Y9 (cells.set j (sv n)) js ns
  | _,_ => cells
def H9 (B : Nat) (js : List Nat) : List Value := js.map fun j => .pointer (some ⟨B,j,none⟩)
theorem GY {α : Type} {l : List α} {j : Nat} {a : α} (h : l[j]? = some a) : l.set j a = l := by
  apply List.ext_getElem?
  intro i
  by_cases hij : j = i
  · subst hij
    rw [List.getElem?_set_self (List.getElem?_eq_some_iff.1 h).1,h]
  · rw [List.getElem?_set_ne hij]
theorem Iy : ∀ {rest : List Nat} {cells : List Value},(∀ j ∈ rest,∃ t : BL,cells[j]? = some (sv t) ∧ t.length ≤ 255) → ∃ ns : List BL,ns.length = rest.length ∧ Y9 cells rest ns = cells ∧ ∀ n ∈ ns,n.length ≤ 255
  | [],cells,_ => ⟨[],rfl,rfl,fun n hn => by cases hn⟩
  | j :: rest,cells,h => by
    obtain ⟨t,ht,htl⟩ := h j (List.mem_cons_self ..)
    obtain ⟨ns,h1,h2,h3⟩ := Iy (rest := rest) (cells := cells) fun i hi => h i (List.mem_cons_of_mem _ hi)
    exact ⟨t :: ns,by simp [h1],by rw [Y9,GY ht,h2],fun n hn => by
      rcases List.mem_cons.1 hn with rfl | hn
      · exact htl
      · exact h3 n hn⟩
def BS (N B : Nat) (s t : St) : Prop := s.heap.length ≤ t.heap.length ∧ ∀ c,c < s.heap.length → c ≠ N → c ≠ B → t.heap[c]? = s.heap[c]?
theorem BS.refl (N B : Nat) (s : St) : BS N B s s := ⟨Nat.le_refl _,fun _ _ _ _ => rfl⟩
theorem BS.trans {N B : Nat} {s t u : St} (h : BS N B s t) (g : BS N B t u) : BS N B s u := ⟨Nat.le_trans h.1 g.1,fun c h1 h2 h3 => (g.2 c (Nat.lt_of_lt_of_le h1 h.1) h2 h3).trans (h.2 c h1 h2 h3)⟩
theorem BS.of1 {N B : Nat} {s t : St} (h : Keep (some N) s t) : BS N B s t := ⟨h.1,fun c h1 h2 _ => h.2 c h1 fun e => h2 (Option.some.inj e).symm⟩
theorem Ep {N B : Nat} {s : St} {X : Blk} : BS N B s (s.putB B X) := ⟨by rw [BI]; exact Nat.le_refl _,fun c _ _ h => Ce h⟩
theorem CG {N B : Nat} {s : St} {X : Blk} : BS N B s (s.push X) := ⟨by rw [AJ]; omega,fun c h _ _ => C4 h⟩
theorem BS.keep {N B : Nat} {s s0 t : St} (h : BS N B s t) (h0 : Keep (some N) s0 s) (hB : s0.heap.length ≤ B) : Keep (some N) s0 t :=
  ⟨Nat.le_trans h0.1 h.1,fun c h1 h2 => (h.2 c (Nat.lt_of_lt_of_le h1 h0.1) (fun e => h2 (by rw [e])) (by omega)).trans (h0.2 c h1 h2)⟩
theorem RdV.keep {N : Nat} {s t : St} {v : Value} {x : BL × Int} (h : RdV N s v x) (k : ∀ b,b ≤ N → t.heap[b]? = s.heap[b]?) : RdV N t v x :=
  ⟨by rw [k N (Nat.le_refl _)]; exact h.blk,Qj h.byt fun c hc => k c (Nat.le_of_lt (h.apart c hc)),h.apart,h.small⟩
theorem Za {s : St} {v : Value} : ownR s (v,s) = some (v,s) := by unfold ownR; rw [if_pos (Nat.le_refl _)]
theorem I4 {s t : St} {v : Value} (h : s.heap.length ≤ t.heap.length) : ownR s (v,t) = some (v,t) := by unfold ownR; rw [if_pos h]
theorem Za1 {α : Type} {l rest : List α} {o : α} {i : Nat} (h : l.drop i = o :: rest) : ∃ hi : i < l.length,l[i] = o ∧ l.drop (i + 1) = rest := by
  have hi : i < l.length := by
    rcases Nat.lt_or_ge i l.length with g | g
    · exact g
    · rw [List.drop_eq_nil_of_le g] at h; cases h
  have := List.drop_eq_getElem_cons hi
  rw [h] at this
  exact ⟨hi,(List.cons.inj this).1.symm,(List.cons.inj this).2.symm⟩
theorem WU {N B P : Nat} {full : List Nat} (hl : full.length ≤ 100) (hB : N < B) (hPB : P ≠ B) (hPN : P ≠ N) : ∀ (rest : List Nat) (i : Nat) (s : St) (x : BL × Int) (cells : List Value),full.drop i = rest → i ≤ full.length → Rd N s x → s.heap[B]? = some (.row 0 cells .act) → s.heap[P]? = some (.row 1 (H9 B full) .act) → (∀ j ∈ full,∃ t : BL,cells[j]? = some (sv t) ∧ t.length ≤ 255) →
    ∃ (ns : List BL) (s' : St) (y : BL × Int) (e : Ex),AV (AG.b0 (run Tryz.prog (libL libT) Ad)) [rp N,.slice (some ⟨P,0,none⟩) full.length full.length,.int .i64 ((full.length : Nat) : Int),.int .i64 (i : Int)] s = some (e,[],s') ∧ (e = .exit 0 ∨ e = .ret) ∧ (ns.length = rest.length ∧ ∀ n ∈ ns,n.length ≤ 255) ∧ Rd N s' y ∧ s'.heap[B]? = some (.row 0 (Y9 cells rest ns) .act) ∧ BS N B s s' ∧ Does (pTx.rep rest.length) x ns y := by
  intro rest
  induction rest with
  | nil =>
    intro i s x cells hi hle hx hrow hptr hj
    have h1 : decide ((i : Int) < ((full.length : Nat) : Int)) = false := by
      have := List.drop_eq_nil_iff.1 hi
      simp; omega
    refine ⟨[],s,x,.exit 0,?_,.inl rfl,⟨rfl,fun n hn => by cases hn⟩,hx,hrow,.refl _ _ _,.pure⟩
    rw [As]
    simp only [AG.b0,h1,EVs]
  | cons j rest ih =>
    intro i s x cells hi hle hx hrow hptr hj
    obtain ⟨hlt,he,hd⟩ := Za1 hi
    have h1 : decide ((i : Int) < ((full.length : Nat) : Int)) = true := by simp; omega
    have h2 : AC 1 (.slice (some ⟨P,0,none⟩) full.length full.length) (.int .i64 (i : Int)) = some (.pointer (some ⟨P,i,none⟩)) := by simp [AC]; omega
    have h3 : Aq false 1 (.pointer (some ⟨P,i,none⟩)) s = some (.pointer (some ⟨B,j,none⟩)) := RM hptr (by simp) (by
      unfold H9
      rw [List.getElem?_map,List.getElem?_eq_getElem hlt,he]
      rfl)
    have hsub : ∀ i ∈ j :: rest,i ∈ full := fun i hi2 => by
      rw [← hi] at hi2
      exact List.mem_of_mem_drop hi2
    have hnil : Ah (.pointer (some ⟨B,j,none⟩)) = some (.pointer (some ⟨B,j,none⟩)) := rfl
    obtain ⟨v,h⟩ := hx
    by_cases hx : x.2 = 0
    · have hz : (x.2 != 0) = false := by simp [hx]
      have hk := kRT h.byt h.small
      have hrk := WT x.1 255
      by_cases he2 : (Az x.1 255).2.2 = 2
      · have g1 : ((2 : Int) == 2) = true := rfl
        have g3 : ((11 : Int) != 0) = true := rfl
        rw [he2] at hk
        obtain ⟨ns,k1,k2,k9⟩ := Iy (rest := j :: rest) (cells := cells) fun i hi => hj i (hsub i hi)
        refine ⟨ns,setR N v 11 s,(x.1,11),.ret,?_,.inr rfl,⟨k1,k9⟩,h.seterr 11,by rw [k2]; unfold setR; rw [Ce (by omega)]; exact hrow,.of1 CB,.of_err hx (e := 11) (by simp only [List.length_cons,Par.rep,Par.bind,pTx,he2,if_true]) (by decide) rfl⟩
        rw [As]
        simp only [AG.b0,h1,h2,h3,Cq,Ej,RL,h.ld1,h.ld0,hz,Dw,hk,xT_0,xT_1,xT_2,g1,B6,AG.j0,g3,A5,By h hx 11,EVs]
      · have g1 : ((Az x.1 255).2.2 == 2) = false := by simp [he2]
        by_cases hee : (Az x.1 255).2.2 = 0
        · have g3 : ((0 : Int) != 0) = false := rfl
          have g1' : ((0 : Int) == 2) = false := rfl
          rw [hee] at hk
          have hjc := hj j (hsub j (List.mem_cons_self ..))
          obtain ⟨t0,ht0,_⟩ := hjc
          have hrl := Tw x.1 255 (by decide)
          have hjl : j < cells.length := (List.getElem?_eq_some_iff.1 ht0).1
          have hst := De hrow hjl (v := sv (Az x.1 255).1) rfl rfl
          have hBl : B < s.heap.length := (List.getElem?_eq_some_iff.1 hrow).1
          have hS1 : RdV N (s.putB B (.row 0 (cells.set j (sv (Az x.1 255).1)) .act)) v x := h.keep fun c hc => Ce (by omega)
          have hrow1 : (s.putB B (.row 0 (cells.set j (sv (Az x.1 255).1)) .act)).heap[B]? = some (.row 0 (cells.set j (sv (Az x.1 255).1)) .act) := CO hBl
          have hptr1 : (s.putB B (.row 0 (cells.set j (sv (Az x.1 255).1)) .act)).heap[P]? = some (.row 1 (H9 B full) .act) := by rw [Ce hPB]; exact hptr
          have hk1 : BS N B s (s.putB B (.row 0 (cells.set j (sv (Az x.1 255).1)) .act)) := Ep
          have hlen1 : s.heap.length ≤ (s.putB B (.row 0 (cells.set j (sv (Az x.1 255).1)) .act)).heap.length := by rw [BI]; exact Nat.le_refl _
          generalize s.putB B (.row 0 (cells.set j (sv (Az x.1 255).1)) .act) = s1 at *
          obtain ⟨u,d1,d2,d3⟩ := hS1.drop (hrk hee) (k := .i64)
          have o1 : ownR s (undef,s1) = some (undef,s1) := I4 hlen1
          have o2 : ownR s1 (undef,setR N u x.2 s1) = some (undef,setR N u x.2 s1) := I4 (by unfold setR; rw [BI]; exact Nat.le_refl _)
          obtain ⟨ns,s',y,e,k1,k2,k3,k4,k5,k6,k7⟩ := ih (i + 1) (setR N u x.2 s1) (x.1.drop (Az x.1 255).2.1,x.2) (cells.set j (sv (Az x.1 255).1)) hd (by omega) d3 (by unfold setR; rw [Ce (by omega)]; exact hrow1) (by unfold setR; rw [Ce hPN]; exact hptr1) (fun i hi => by
            by_cases hij : j = i
            · subst hij
              exact ⟨_,List.getElem?_set_self hjl,by omega⟩
            · obtain ⟨t,ht,htl⟩ := hj i hi
              exact ⟨t,by rw [List.getElem?_set_ne hij]; exact ht,htl⟩)
          refine ⟨(Az x.1 255).1 :: ns,s',y,e,?_,k2,⟨by simp [k3.1],fun n hn => by
            rcases List.mem_cons.1 hn with rfl | hn
            · omega
            · exact k3.2 n hn⟩,k4,k5,hk1.trans ((BS.of1 CB).trans k6),?_⟩
          · rw [As]
            simp only [AG.b0,h1,h2,h3,Cq,Ej,RL,h.ld1,h.ld0,hz,Dw,hk,xT_0,xT_1,xT_2,g1',B6,AG.j0,g3,Za,d1,hnil,hst,o1,d2,o2,H2 (show i < 140737488355328 by omega),EVs]
            exact k1
          · have hp : Does pTx x (Az x.1 255).1 (x.1.drop (Az x.1 255).2.1,x.2) := .of_ok hx (by unfold pTx; rw [if_neg he2,if_neg (by simp [hee])]) (by rw [hx])
            exact hp.cons k7
        · have g3 : ((Az x.1 255).2.2 != 0) = true := by simp [hee]
          obtain ⟨ns,k1,k2,k9⟩ := Iy (rest := j :: rest) (cells := cells) fun i hi => hj i (hsub i hi)
          refine ⟨ns,setR N v (Az x.1 255).2.2 s,(x.1,(Az x.1 255).2.2),.ret,?_,.inr rfl,⟨k1,k9⟩,h.seterr _,by rw [k2]; unfold setR; rw [Ce (by omega)]; exact hrow,.of1 CB,.of_err hx (e := (Az x.1 255).2.2) (by simp only [List.length_cons,Par.rep,Par.bind,pTx]; rw [if_neg he2,if_pos hee]) hee rfl⟩
          rw [As]
          simp only [AG.b0,h1,h2,h3,Cq,Ej,RL,h.ld1,h.ld0,hz,Dw,hk,xT_0,xT_1,xT_2,g1,B6,AG.j0,g3,A5,By h hx,EVs]
    · have hz : (x.2 != 0) = true := by simp [hx]
      obtain ⟨ns,k1,k2,k9⟩ := Iy (rest := j :: rest) (cells := cells) fun i hi => hj i (hsub i hi)
      refine ⟨ns,s,x,.ret,?_,.inr rfl,⟨k1,k9⟩,⟨v,h⟩,by rw [k2]; exact hrow,.refl _ _ _,.stuck hx rfl⟩
      rw [As]
      simp only [AG.b0,h1,h2,h3,Cq,Ej,h.ld1,hz,EVs]
theorem Ia {N B P n : Nat} {full : List Nat} {s : St} {x : BL × Int} {cells : List Value} (hn : full.length = n) (hl : n ≤ 100) (hB : N < B) (hPB : P ≠ B) (hPN : P ≠ N) (hx : Rd N s x) (hrow : s.heap[B]? = some (.row 0 cells .act)) (hptr : s.heap[P]? = some (.row 1 (H9 B full) .act)) (hj : ∀ j ∈ full,∃ t : BL,cells[j]? = some (sv t) ∧ t.length ≤ 255) :
    ∃ (ns : List BL) (s' : St) (y : BL × Int),(run Tryz.prog (libL libT) Ad) 89 [rp N,.slice (some ⟨P,0,none⟩) n n] s = some (undef,s') ∧ (ns.length = n ∧ ∀ n ∈ ns,n.length ≤ 255) ∧ Rd N s' y ∧ s'.heap[B]? = some (.row 0 (Y9 cells full ns) .act) ∧ BS N B s s' ∧ Does (pTx.rep n) x ns y := by
  subst hn
  obtain ⟨ns,s',y,e,k1,k2,k3,k4,k5,k6,k7⟩ := WU hl hB hPB hPN full 0 s x cells rfl (Nat.zero_le _) hx hrow hptr hj
  refine ⟨ns,s',y,IC rfl ?_,k3,k4,k5,k6,k7⟩
  rw [show ((0 : Nat) : Int) = 0 from rfl] at k1
  have hal : ∀ ty t,AP (.slice ty) (.slice (some ⟨P,0,none⟩) full.length full.length) t = some (.int .i64 ((full.length : Nat) : Int)) := fun _ _ => rfl
  unfold AG
  rcases k2 with rfl | rfl
  · simp only [hal,k1,ret0,EVs]
  · simp only [hal,k1,ret0,EVs]
end Go.Proofs.YtmbhnbladmpnoaaGreat.Ab

/- Messages are read: operations,owners,results. -/
namespace Go.Proofs.YtmbhnbladmpnoaaGreat.Ab
open Go
abbrev oPr : OCod Rg := .ofC prC fun _ => True
abbrev oOw : OCod Ow := .ofC owC fun _ => True
abbrev oOp : OCod OpT := .ofC opC fun _ => True
def oRs : OCod Rs := .map (.pair (.ofC blnC fun _ => True) (.pair oStr (.pair (oPr.list 32) .unit))) fun r => (r.1,r.2.1,r.2.2,())
def P1 {α : Type} (p : Par α) : Par (List α) := Zc5.bind fun k => p.rep k
def pPr : Par Rg := (pTx.rep 2).bind fun l => .pure (l.getD 0 [],l.getD 1 [])
def pOp : Par OpT := Hk.bind fun k => (pTx.rep 4).bind fun l => Hk.bind fun m => .pure ⟨(k : Int),l.getD 0 [],l.getD 1 [],l.getD 2 [],l.getD 3 [],(m : Int)⟩
def pOw : Par Ow := (pTx.rep 1).bind fun l => Hk.bind fun n => .pure (l.getD 0 [],(n : Int))
def pRs : Par Rs := Tv.bind fun f => (pTx.rep 1).bind fun l => (P1 pPr).bind fun ps => .pure (f,l.getD 0 [],ps)
theorem O5 {s : St} {X Y : Blk} : (s.push X).putB s.heap.length Y = s.push Y := by
  simp only [St.push,St.putB]
  congr 1
  simp [List.set_append]
theorem VI {B i j : Nat} : Ac i (.pointer (some ⟨B,j,none⟩)) = some (.pointer (some ⟨B,j + i,none⟩)) := rfl
def opL (k : Int) (a b c d : BL) (m : Int) : List Value := [.int .i64 k,sv a,sv b,sv c,sv d,.int .i64 m]
theorem Zfm (n : Int) : AU Tryz.prog 69 [(0,.int .i64 n)] = some (.agg (opL n [] [] [] [] 0).toArray) := by kernel_rfl
theorem Zb {N : Nat} : OG N (fun s => (run Tryz.prog (libL libT) Ad) 94 [rp N] s) true oOp pOp := by
  intro s x hx
  have hN := hx.lt
  obtain ⟨k,u1,c1,s1,y1,f1,f2,f3,f4,f5,f6⟩ := A7 s x hx
  obtain ⟨rfl,wc⟩ := CP f5 f4
  have f1 : (run Tryz.prog (libL libT) Ad) 35 [rp N] s = some (.int .i64 (k : Int),s1) := f1
  have n1 := f3.1
  have hnw : anew [(.int .i64 0),(.string ⟨#[]⟩),(.string ⟨#[]⟩),(.string ⟨#[]⟩),(.string ⟨#[]⟩),(.int .i64 0)] s1 = some (.pointer (some ⟨s1.heap.length,0,none⟩),s1.push (.row 0 (opL 0 [] [] [] [] 0) .act)) := rfl
  have hst : A0 6 (.pointer (some ⟨s1.heap.length,0,none⟩)) (.agg (opL k [] [] [] [] 0).toArray) (s1.push (.row 0 (opL 0 [] [] [] [] 0) .act)) = some (s1.push (.row 0 (opL k [] [] [] [] 0) .act)) :=
    (Iq (vs := opL k [] [] [] [] 0) (cells := opL 0 [] [] [] [] 0) AE rfl rfl rfl).trans (by rw [O5])
  have h4 : (s1.push (.row 0 (opL k [] [] [] [] 0) .act)).heap[s1.heap.length]? = some (.row 0 (opL k [] [] [] [] 0) .act) := AE
  have rd4 : Rd N (s1.push (.row 0 (opL k [] [] [] [] 0) .act)) y1 := f2.push
  have fr4 : BS N s1.heap.length s (s1.push (.row 0 (opL k [] [] [] [] 0) .act)) := (BS.of1 f3).trans CG
  have l4 : (s1.push (.row 0 (opL k [] [] [] [] 0) .act)).heap.length = s1.heap.length + 1 := AJ
  generalize hS4 : s1.push (.row 0 (opL k [] [] [] [] 0) .act) = s4 at *
  generalize hB : s1.heap.length = B at *
  have hBl : B < s4.heap.length := by omega
  obtain ⟨ns,s5,y5,a1,a2,a3,a4,a6,a8⟩ := Ia (n := 4) (P := s4.heap.length) (B := B) (N := N) (full := [1,2,3,4]) (s := s4.push (.row 1 (H9 B [1,2,3,4]) .act)) (x := y1) (cells := opL k [] [] [] [] 0) rfl (by decide) (by omega) (by omega) (by omega) rd4.push (by rw [C4 hBl]; exact h4) AE (by
    intro j hj
    simp only [List.mem_cons,List.not_mem_nil,or_false] at hj
    rcases hj with rfl | rfl | rfl | rfl <;> exact ⟨[],rfl,by decide⟩)
  obtain ⟨a2,a9⟩ := a2
  match ns,a2 with
  | [a,b,c,d],_ =>
    have a4 : s5.heap[B]? = some (.row 0 (opL k a b c d 0) .act) := a4
    have n5 := a6.1
    rw [AJ] at n5
    obtain ⟨m,u6,c6,s6,y6,b1,b2,b3,b4,b5,b6⟩ := A7 s5 y5 a3
    obtain ⟨rfl,_⟩ := CP b5 b4
    have b1 : (run Tryz.prog (libL libT) Ad) 35 [rp N] s5 = some (.int .i64 (m : Int),s6) := b1
    have n6 := b3.1
    have h6 : s6.heap[B]? = some (.row 0 (opL k a b c d 0) .act) := by
      rw [b3.2 B (by omega) fun e => by have := Option.some.inj e; omega]
      exact a4
    have st3 : A0 1 (.pointer (some ⟨B,5,none⟩)) (.int .i64 (m : Int)) s6 = some (s6.putB B (.row 0 (opL k a b c d m) .act)) := De h6 (by simp [opL]) rfl rfl
    have h7 : (s6.putB B (.row 0 (opL k a b c d m) .act)).heap[B]? = some (.row 0 (opL k a b c d m) .act) := CO (by omega)
    have ld7 : Aq true 6 (.pointer (some ⟨B,0,none⟩)) (s6.putB B (.row 0 (opL k a b c d m) .act)) = some (.agg (opL k a b c d m).toArray) := Ip h7 (by simp) rfl
    have k5 : AN 6 lptr (.agg (opL k a b c d m).toArray) (.agg #[(.int .i64 0),(.string ⟨#[]⟩),(.string ⟨#[]⟩),(.string ⟨#[]⟩),(.string ⟨#[]⟩),(.int .i64 0)]) = some (.agg (opL k a b c d m).toArray) := rfl
    have k6 : Ao true 6 lptr (.agg (opL k a b c d m).toArray) = some (.agg (opL k a b c d m).toArray) := rfl
    have hsl : Ar 1 [(.pointer none)] 4 [(0,.pointer (some ⟨B,1,none⟩)),(1,.pointer (some ⟨B,2,none⟩)),(2,.pointer (some ⟨B,3,none⟩)),(3,.pointer (some ⟨B,4,none⟩))] s4 = some (.slice (some ⟨s4.heap.length,0,none⟩) 4 4,s4.push (.row 1 (H9 B [1,2,3,4]) .act)) := rfl
    refine ⟨⟨k,a,b,c,d,m⟩,.agg (opL k a b c d m).toArray,opL k a b c d m,s6.putB B (.row 0 (opL k a b c d m) .act),y6,K7 rfl ?_,b2.put (by omega),?_,rfl,⟨rfl,trivial⟩,f6.bind (a8.bind (b6.bind .pure))⟩
    · unfold IY
      simp only [Bc,f1,Zfm,hnw,hst,VI,Nat.zero_add,hsl,BC,a1,b1,st3,ld7,k5,k6,EVs]
      exact ret1 rfl
    · exact (fr4.trans (CG.trans (a6.trans ((BS.of1 b3).trans Ep)))).keep (.refl _ _) n1
def owL (a : BL) (n : Int) : List Value := [sv a,.int .i64 n]
theorem Qs {N : Nat} : OG N (fun s => (run Tryz.prog (libL libT) Ad) 102 [rp N] s) true oOw pOw := by
  intro s x hx
  have hN := hx.lt
  have hnw : anew [(.string ⟨#[]⟩),(.int .i64 0)] s = some (.pointer (some ⟨s.heap.length,0,none⟩),s.push (.row 0 (owL [] 0) .act)) := rfl
  have h4 : (s.push (.row 0 (owL [] 0) .act)).heap[s.heap.length]? = some (.row 0 (owL [] 0) .act) := AE
  have rd4 : Rd N (s.push (.row 0 (owL [] 0) .act)) x := hx.push
  have fr4 : BS N s.heap.length s (s.push (.row 0 (owL [] 0) .act)) := CG
  have l4 : (s.push (.row 0 (owL [] 0) .act)).heap.length = s.heap.length + 1 := AJ
  generalize hS4 : s.push (.row 0 (owL [] 0) .act) = s4 at *
  generalize hB : s.heap.length = B at *
  have hBl : B < s4.heap.length := by omega
  obtain ⟨ns,s5,y5,a1,a2,a3,a4,a6,a8⟩ := Ia (n := 1) (P := s4.heap.length) (B := B) (N := N) (full := [0]) (s := s4.push (.row 1 (H9 B [0]) .act)) (x := x) (cells := owL [] 0) rfl (by decide) (by omega) (by omega) (by omega) rd4.push (by rw [C4 hBl]; exact h4) AE (by
    intro j hj
    simp only [List.mem_cons,List.not_mem_nil,or_false] at hj
    rcases hj with rfl
    exact ⟨[],rfl,by decide⟩)
  obtain ⟨a2,a9⟩ := a2
  match ns,a2 with
  | [a],_ =>
    have a4 : s5.heap[B]? = some (.row 0 (owL a 0) .act) := a4
    have n5 := a6.1
    rw [AJ] at n5
    obtain ⟨m,u6,c6,s6,y6,b1,b2,b3,b4,b5,b6⟩ := A7 s5 y5 a3
    obtain ⟨rfl,_⟩ := CP b5 b4
    have b1 : (run Tryz.prog (libL libT) Ad) 35 [rp N] s5 = some (.int .i64 (m : Int),s6) := b1
    have n6 := b3.1
    have h6 : s6.heap[B]? = some (.row 0 (owL a 0) .act) := by
      rw [b3.2 B (by omega) fun e => by have := Option.some.inj e; omega]
      exact a4
    have st3 : A0 1 (.pointer (some ⟨B,1,none⟩)) (.int .i64 (m : Int)) s6 = some (s6.putB B (.row 0 (owL a m) .act)) := De h6 (by simp [owL]) rfl rfl
    have h7 : (s6.putB B (.row 0 (owL a m) .act)).heap[B]? = some (.row 0 (owL a m) .act) := CO (by omega)
    have ld7 : Aq true 2 (.pointer (some ⟨B,0,none⟩)) (s6.putB B (.row 0 (owL a m) .act)) = some (.agg (owL a m).toArray) := Ip h7 (by simp) rfl
    have k5 : AN 2 lptr (.agg (owL a m).toArray) (.agg #[(.string ⟨#[]⟩),(.int .i64 0)]) = some (.agg (owL a m).toArray) := rfl
    have k6 : Ao true 2 lptr (.agg (owL a m).toArray) = some (.agg (owL a m).toArray) := rfl
    have hsl : Ar 1 [(.pointer none)] 1 [(0,.pointer (some ⟨B,0,none⟩))] s4 = some (.slice (some ⟨s4.heap.length,0,none⟩) 1 1,s4.push (.row 1 (H9 B [0]) .act)) := rfl
    refine ⟨(a,(m : Int)),.agg (owL a m).toArray,owL a m,s6.putB B (.row 0 (owL a m) .act),y6,IF rfl ?_,b2.put (by omega),?_,rfl,⟨rfl,trivial⟩,a8.bind (b6.bind .pure)⟩
    · unfold Gk
      simp only [Bc,hB,hnw,VI,Nat.zero_add,hsl,BC,a1,b1,st3,ld7,k5,k6,EVs]
      exact ret1 rfl
    · exact (fr4.trans (CG.trans (a6.trans ((BS.of1 b3).trans Ep)))).keep (.refl _ _) (by omega)
end Go.Proofs.YtmbhnbladmpnoaaGreat.Ab

/- Messages are read: results. -/
namespace Go.Proofs.YtmbhnbladmpnoaaGreat.Ab
open Go
def rsL (f : Bool) (v : BL) (acc : Value) : List Value := [.bool f,sv v,acc]
abbrev zRs : Value := .agg #[(.bool false),(.string ⟨#[]⟩),(.slice none 0 0)]
theorem WV {N B lo : Nat} (hNB : N < B) (hBlo : B < lo) {f : Bool} {t0 : BL} : ∀ (k : Nat) (l : List Rg) (acc : Value) (s : St) (x : BL × Int),l.length + k ≤ 255 → Rd N s x → lo ≤ s.heap.length → s.heap[B]? = some (.row 0 (rsL f t0 acc) .act) → BH oPr 32 lo s.heap.length l s acc →
    ∃ (acc' : Value) (s' : St) (y : BL × Int) (l' m : List Rg),AV (Bh.b0 (run Tryz.prog (libL libT) Ad)) [rp N,lptr,.pointer (some ⟨B,0,none⟩),.int .i64 (k : Int),zRs] s = some (.exit 0,[lptr,.pointer (some ⟨B,0,none⟩),zRs],s') ∧ Rd N s' y ∧ s.heap.length ≤ s'.heap.length ∧ (∀ b,b < lo → b ≠ N → b ≠ B → s'.heap[b]? = s.heap[b]?) ∧ s'.heap[B]? = some (.row 0 (rsL f t0 acc') .act) ∧ BH oPr 32 lo s'.heap.length l' s' acc' ∧ Does (pPr.rep k) x m y ∧ (y.2 = 0 → l' = l ++ m) := by
  intro k
  induction k with
  | zero =>
    intro l acc s x hl hx hlo hB ho
    have h1 : decide (((0 : Nat) : Int) > 0) = false := rfl
    refine ⟨acc,s,x,l,[],?_,hx,Nat.le_refl _,fun _ _ _ _ => rfl,hB,ho,.pure,fun _ => by simp⟩
    rw [As]
    simp only [Bh.b0,h1,EVs]
  | succ k ih =>
    intro l acc s x hl hx hlo hB ho
    have h1 : decide (((k + 1 : Nat) : Int) > 0) = true := decide_eq_true (by omega)
    obtain ⟨v,hv⟩ := id hx
    by_cases hx2 : x.2 = 0
    · have hz2 : (x.2 == 0) = true := by simp [hx2]
      have hBl : B < s.heap.length := by omega
      have hN := hx.lt
      have hnw : anew [(.string ⟨#[]⟩),(.string ⟨#[]⟩)] s = some (.pointer (some ⟨s.heap.length,0,none⟩),s.push (.row 0 [sv [],sv []] .act)) := rfl
      have hsl : Ar 1 [(.pointer none)] 2 [(0,.pointer (some ⟨s.heap.length,0,none⟩)),(1,.pointer (some ⟨s.heap.length,1,none⟩))] (s.push (.row 0 [sv [],sv []] .act)) = some (.slice (some ⟨(s.push (.row 0 [sv [],sv []] .act)).heap.length,0,none⟩) 2 2,(s.push (.row 0 [sv [],sv []] .act)).push (.row 1 (H9 s.heap.length [0,1]) .act)) := rfl
      have hD : (s.push (.row 0 [sv [],sv []] .act)).heap[s.heap.length]? = some (.row 0 [sv [],sv []] .act) := AE
      have l4 : (s.push (.row 0 [sv [],sv []] .act)).heap.length = s.heap.length + 1 := AJ
      have rd4 : Rd N (s.push (.row 0 [sv [],sv []] .act)) x := hx.push
      have fr4 : BS N s.heap.length s (s.push (.row 0 [sv [],sv []] .act)) := CG
      generalize hS4 : s.push (.row 0 [sv [],sv []] .act) = s4 at *
      obtain ⟨ns,s5,y5,a1,a2,a3,a4,a6,a8⟩ := Ia (n := 2) (P := s4.heap.length) (B := s.heap.length) (N := N) (full := [0,1]) (s := s4.push (.row 1 (H9 s.heap.length [0,1]) .act)) (x := x) (cells := [sv [],sv []]) rfl (by decide) (by omega) (by omega) (by omega) rd4.push (by rw [C4 (by omega)]; exact hD) AE (by
        intro j hj
        simp only [List.mem_cons,List.not_mem_nil,or_false] at hj
        rcases hj with rfl | rfl <;> exact ⟨[],rfl,by decide⟩)
      obtain ⟨a2,a9⟩ := a2
      match ns,a2 with
      | [a,b],_ =>
        have a4 : s5.heap[s.heap.length]? = some (.row 0 [sv a,sv b] .act) := a4
        have k5 : BS N s.heap.length s s5 := fr4.trans (CG.trans a6)
        have hn5 := k5.1
        have hB5 : s5.heap[B]? = some (.row 0 (rsL f t0 acc) .act) := by rw [k5.2 B (by omega) (by omega) (by omega)]; exact hB
        have ho5 : BH oPr 32 lo s.heap.length l s5 acc := ho.keep fun b hb1 hb2 => k5.2 b hb2 (by omega) (by omega)
        have ld5 : Aq false 1 (.pointer (some ⟨B,2,none⟩)) s5 = some acc := RM hB5 (by simp) rfl
        have ldD : Aq true 2 (.pointer (some ⟨s.heap.length,0,none⟩)) s5 = some (rv (a,b)) := Ip a4 (by simp) rfl
        obtain ⟨r,f1,v',t,f2,f3,f4,f5,f6⟩ := BH.push (a := (a,b)) (v := rv (a,b)) (w := 32) (n := 2) (z := [(.string ⟨#[]⟩),(.string ⟨#[]⟩)]) (s0 := s) (m := s5.heap.length) ho5 hn5 (Nat.le_refl _) hlo ⟨rfl,trivial⟩ (by decide) rfl (by decide) (by decide) rfl rfl (by omega) (by unfold reachBytes; omega)
        have hBt : t.heap[B]? = some (.row 0 (rsL f t0 acc) .act) := by rw [f5 B (by omega) (.inl hBlo)]; exact hB5
        have hlf : AH v' = true := f3.leaf
        have hcv : An v' = [v'] := by cases v' <;> first | rfl | (simp [AH] at hlf)
        have hst : A0 1 (.pointer (some ⟨B,2,none⟩)) v' t = some (t.putB B (.row 0 (rsL f t0 v') .act)) := De hBt (by simp [rsL]) hlf hcv
        have hrd : Rd N (t.putB B (.row 0 (rsL f t0 v') .act)) y5 := (a3.keep fun b hb => f5 b (by have := a3.lt; omega) (.inl (by omega))).put hNB
        have ho6 : BH oPr 32 lo (t.putB B (.row 0 (rsL f t0 v') .act)).heap.length (l ++ [(a,b)]) (t.putB B (.row 0 (rsL f t0 v') .act)) v' := by
          rw [BI]
          exact f3.keep fun b hb1 hb2 => Ce (by omega)
        obtain ⟨acc',s',y,l',m,j1,j3,j4,j5,j6,j7,j8,j9⟩ := ih (l ++ [(a,b)]) v' (t.putB B (.row 0 (rsL f t0 v') .act)) y5 (by simp; omega) hrd (by rw [BI]; omega) (CO (by omega)) ho6
        rw [BI] at j4
        refine ⟨acc',s',y,l',(a,b) :: m,?_,j3,by omega,fun b hb1 hb2 hb3 => ?_,j6,j7,(a8.bind (.pure (a := (a,b)))).cons j8,fun h => by rw [j9 h]; simp⟩
        · have hd : IntKind.wrap .i64 (((k + 1 : Nat) : Int) - 1) = ((k : Nat) : Int) := by rw [wrap_i64 (by omega) (by omega)]; omega
          rw [As,← j1]
          simp only [Bh.b0,h1,Cq,Ej,hv.ld1,hz2,hnw,VI,Nat.zero_add,hsl,BC,a1,ld5,ldD,f1,f2,hst,hd,EVs]
        · rw [j5 b hb1 hb2 hb3,Ce hb3,f5 b (by omega) (.inl hb1),k5.2 b (by omega) hb2 (by omega)]
    · have hz2 : (x.2 == 0) = false := by simp [hx2]
      refine ⟨acc,s,x,l,[],?_,hx,Nat.le_refl _,fun _ _ _ _ => rfl,hB,ho,.stuck hx2 rfl,fun h => absurd h hx2⟩
      rw [As]
      simp only [Bh.b0,h1,Cq,Ej,hv.ld1,hz2,EVs]
theorem Zfn (f : Bool) : AU Tryz.prog 87 [(0,.bool f)] = some (.agg (rsL f [] (.slice none 0 0)).toArray) := by cases f <;> kernel_rfl
theorem O6 {N : Nat} : OG N (fun s => (run Tryz.prog (libL libT) Ad) 98 [rp N] s) true oRs pRs := by
  intro s x hx
  have hN := hx.lt
  obtain ⟨f,u1,c1,s1,y1,f1,f2,f3,f4,f5,f6⟩ := Eo s x hx
  obtain rfl := Tx f5 f4
  have f1 : (run Tryz.prog (libL libT) Ad) 84 [rp N] s = some (.bool f,s1) := f1
  have n1 := f3.1
  have hnw : anew [(.bool false),(.string ⟨#[]⟩),(.slice none 0 0)] s1 = some (.pointer (some ⟨s1.heap.length,0,none⟩),s1.push (.row 0 (rsL false [] (.slice none 0 0)) .act)) := rfl
  have hst : A0 3 (.pointer (some ⟨s1.heap.length,0,none⟩)) (.agg (rsL f [] (.slice none 0 0)).toArray) (s1.push (.row 0 (rsL false [] (.slice none 0 0)) .act)) = some (s1.push (.row 0 (rsL f [] (.slice none 0 0)) .act)) :=
    (Iq (vs := rsL f [] (.slice none 0 0)) (cells := rsL false [] (.slice none 0 0)) AE rfl rfl rfl).trans (by rw [O5])
  have h4 : (s1.push (.row 0 (rsL f [] (.slice none 0 0)) .act)).heap[s1.heap.length]? = some (.row 0 (rsL f [] (.slice none 0 0)) .act) := AE
  have rd4 : Rd N (s1.push (.row 0 (rsL f [] (.slice none 0 0)) .act)) y1 := f2.push
  have fr4 : BS N s1.heap.length s (s1.push (.row 0 (rsL f [] (.slice none 0 0)) .act)) := (BS.of1 f3).trans CG
  have l4 : (s1.push (.row 0 (rsL f [] (.slice none 0 0)) .act)).heap.length = s1.heap.length + 1 := AJ
  generalize hS4 : s1.push (.row 0 (rsL f [] (.slice none 0 0)) .act) = s4 at *
  generalize hB : s1.heap.length = B at *
  have hBl : B < s4.heap.length := by omega
  obtain ⟨ns,s5,y5,a1,a2,a3,a4,a6,a8⟩ := Ia (n := 1) (P := s4.heap.length) (B := B) (N := N) (full := [1]) (s := s4.push (.row 1 (H9 B [1]) .act)) (x := y1) (cells := rsL f [] (.slice none 0 0)) rfl (by decide) (by omega) (by omega) (by omega) rd4.push (by rw [C4 hBl]; exact h4) AE (by
    intro j hj
    simp only [List.mem_cons,List.not_mem_nil,or_false] at hj
    rcases hj with rfl
    exact ⟨[],rfl,by decide⟩)
  obtain ⟨a2,a9⟩ := a2
  match ns,a2 with
  | [a],_ =>
    have a4 : s5.heap[B]? = some (.row 0 (rsL f a (.slice none 0 0)) .act) := a4
    have n5 := a6.1
    rw [AJ] at n5
    obtain ⟨k,u6,c6,s6,y6,b1,b2,b3,b4,b5,b6⟩ := Cb s5 y5 a3
    obtain ⟨rfl,hk⟩ := CP b5 b4
    have b1 : (run Tryz.prog (libL libT) Ad) 153 [rp N] s5 = some (.int .i64 (k : Int),s6) := b1
    have n6 := b3.1
    have h6 : s6.heap[B]? = some (.row 0 (rsL f a (.slice none 0 0)) .act) := by
      rw [b3.2 B (by omega) fun e => by have := Option.some.inj e; omega]
      exact a4
    obtain ⟨acc',s7,y7,l',m,j1,j3,j4,j5,j6,j7,j8,j9⟩ := WV (N := N) (B := B) (lo := s6.heap.length) (f := f) (t0 := a) (by omega) (by omega) k [] (.slice none 0 0) s6 y6 (by simpa using hk) b2 (Nat.le_refl _) h6 .nil
    have hlf : AH acc' = true := j7.leaf
    have hal : (rsL f a acc').all AH = true := by
      simp only [rsL,List.all_cons,hlf,List.all_nil]
      rfl
    have ld7 : Aq true 3 (.pointer (some ⟨B,0,none⟩)) s7 = some (.agg (rsL f a acc').toArray) := Ip j6 (by simp) rfl
    have k5 : AN 3 lptr (.agg (rsL f a acc').toArray) zRs = some (.agg (rsL f a acc').toArray) := K3 (cs := [(.bool false),(.string ⟨#[]⟩),(.slice none 0 0)]) rfl rfl hal
    have k6 : Ao true 3 lptr (.agg (rsL f a acc').toArray) = some (.agg (rsL f a acc').toArray) := Jq rfl
    have hsl : Ar 1 [(.pointer none)] 1 [(0,.pointer (some ⟨B,1,none⟩))] s4 = some (.slice (some ⟨s4.heap.length,0,none⟩) 1 1,s4.push (.row 1 (H9 B [1]) .act)) := rfl
    have kp6 : BS N B s s6 := fr4.trans (CG.trans (a6.trans (.of1 b3)))
    have kp7 : Keep (some N) s s7 := by
      refine ⟨by omega,fun c hc hne => ?_⟩
      have hcN : c ≠ N := fun e => hne (by rw [e])
      rw [j5 c (by omega) hcN (by omega)]
      exact kp6.2 c hc hcN (by omega)
    have ha8 : a.length ≤ reachBytes := by have := a9 a (List.mem_cons_self ..); unfold reachBytes; omega
    refine ⟨(f,a,l'),.agg (rsL f a acc').toArray,rsL f a acc',s7,y7,HO rfl ?_,j3,kp7,rfl,?_,?_⟩
    · unfold Bh
      simp only [Eh,f1,Zfn,hnw,hst,VI,Nat.zero_add,hsl,BC,a1,B9,b1,j1,ld7,k5,k6,EVs]
      exact ret1 rfl
    · exact ⟨[.bool f],[sv a,acc'],s.heap.length,rfl,Nat.le_refl _,by omega,⟨rfl,trivial⟩,[sv a],[acc'],s.heap.length,rfl,Nat.le_refl _,by omega,⟨rfl,ha8⟩,[acc'],[],s7.heap.length,by simp,by omega,Nat.le_refl _,⟨acc',rfl,j7.mono (by have := kp6.1; omega) (Nat.le_refl _)⟩,rfl⟩
    · exact f6.bind (a8.bind ((b6.bind j8).weaken (a' := l') (fun h => by simpa using j9 h) |>.bind .pure))
end Go.Proofs.YtmbhnbladmpnoaaGreat.Ab

/- Messages are read: lists. -/
namespace Go.Proofs.YtmbhnbladmpnoaaGreat.Ab
open Go
set_option maxRecDepth 10000
theorem Lw {n : Nat} {z : List Value} {v : Value} (hn : 0 < n) (hn2 : n ≤ 16777216) (hz : z.length = n) (hzl : z.all AH = true) (hv : (An v).length = n) (hvl : (An v).all AH = true) (s : St) : Ar n z 1 [(0,v)] s = some (.slice (some ⟨s.heap.length,0,none⟩) 1 1,s.push (.row n (An v) .act)) := by
  have hrep : A3 z 1 = z := by simp [A3]
  have hput : AB z 0 (An v) = An v := by simp [AB,hv,hz]
  unfold Ar
  rw [if_pos ⟨by omega,hz,hzl⟩]
  simp only [hrep,Iz,Ly,Nat.zero_mul]
  rw [if_pos ⟨hv,by omega,hvl⟩,hput]
  rfl
theorem KK {n M ix : Nat} (b : Nat) : (CK n [.pointer (some ⟨M,ix,none⟩)]).contains b = true ↔ b < n ∧ b ≠ M := by
  unfold CK
  rw [List.contains_iff_mem,List.mem_filter,List.mem_range]
  simp [TC,Za8]
theorem GZ {K : List Nat} {s : St} {B : Nat} {cells : List Value} (hK : K.contains B = false) (h : readRow s B = some cells) : readRow (⟨frzK K 0 s.heap⟩ : St) B = some cells := by
  rw [← h]
  unfold Ab.readRow
  simp only
  rw [J3,Nat.zero_add,if_neg (by rw [hK]; simp)]
  cases s.heap[B]? with
  | none => rfl
  | some x => cases x with
    | row n c st => cases st <;> rfl
    | map => rfl
theorem JR {α : Type} {N : Nat} {f : St → Option (Value × St)} {ag : Bool} {O : OCod α} {p : Par α} (hR : OG N f ag O p) {s : St} {x : BL × Int} {M ix : Nat} (hx : Rd N s x) (hM : N < M) (hMl : M < s.heap.length) :
    ∃ (a : α) (u : Value) (cs : List Value) (s' : St) (y : BL × Int),((f (⟨Eb (CK s.heap.length [.pointer (some ⟨M,ix,none⟩)]) 0 s.heap⟩ : St)).bind fun r => some (r.1,r.2)).bind (appR (CK s.heap.length [.pointer (some ⟨M,ix,none⟩)]) [] s) = some (u,s') ∧ Rd N s' y ∧ Keep (some N) s s' ∧ MY ag u cs ∧ O.own s.heap.length s'.heap.length a s' cs ∧ Does p x a y := by
  have hB := fun b => KK (n := s.heap.length) (M := M) (ix := ix) b
  generalize CK s.heap.length [.pointer (some ⟨M,ix,none⟩)] = B at *
  have hs1 : ∀ b,b < s.heap.length → b ≠ M → (⟨Eb B 0 s.heap⟩ : St).heap[b]? = s.heap[b]? := fun b hb hne => by
    have hc : B.contains b = true := (hB b).2 ⟨hb,hne⟩
    simp only
    rw [HF,Nat.zero_add,if_pos hc]
    cases s.heap[b]? with
    | none => rfl
    | some X => cases X <;> rfl
  have hNl := hx.lt
  obtain ⟨a,u,cs,t,y,h1,h2,h3,h4,h5,h6⟩ := hR _ x (hx.keep fun b hb => hs1 b (by omega) (by omega))
  have hlen : s.heap.length ≤ t.heap.length := by
    have := h3.1
    simp only at this
    rwa [BU] at this
  have hc : (B.all (fun b => !([] : List Nat).contains b) && Nat.ble s.heap.length t.heap.length && G4 [] s.heap.length t.heap.length) = true := by
    simp only [Bool.and_eq_true,List.all_eq_true,Nat.ble_eq,G4,List.all_nil,and_true]
    exact ⟨fun b _ => rfl,hlen⟩
  have l5 : (Fy B t.heap 0 s.heap ++ t.heap.drop s.heap.length).length = t.heap.length := by
    simp only [List.length_append,AW,List.length_drop]
    omega
  have g1 : ∀ b,b < s.heap.length → b ≠ M → (Fy B t.heap 0 s.heap ++ t.heap.drop s.heap.length)[b]? = t.heap[b]? := fun b hb hne => by
    rw [List.getElem?_append_left (by rw [AW]; exact hb),EQ,Nat.zero_add,List.getElem?_eq_getElem hb,Option.map_some,if_pos ((hB b).2 ⟨hb,hne⟩),List.getElem?_eq_getElem (by omega),Option.getD_some]
  have g2 : (Fy B t.heap 0 s.heap ++ t.heap.drop s.heap.length)[M]? = s.heap[M]? := by
    rw [List.getElem?_append_left (by rw [AW]; exact hMl),EQ,Nat.zero_add,List.getElem?_eq_getElem hMl,Option.map_some,if_neg fun e => ((hB M).1 e).2 rfl]
  have g3 : ∀ b,s.heap.length ≤ b → (Fy B t.heap 0 s.heap ++ t.heap.drop s.heap.length)[b]? = t.heap[b]? := fun b hb => by
    rw [List.getElem?_append_right (by rw [AW]; omega),AW,List.getElem?_drop,show s.heap.length + (b - s.heap.length) = b by omega]
  refine ⟨a,u,cs,⟨Fy B t.heap 0 s.heap ++ t.heap.drop s.heap.length⟩,y,?_,h2.keep fun b hb => g1 b (by omega) (by omega),⟨by simp only [l5]; exact hlen,fun c hc1 hne => ?_⟩,h4,?_,h6⟩
  · simp only [h1,Option.bind_some]
    unfold appR
    rw [if_pos hc]
  · by_cases hcM : c = M
    · subst hcM
      exact g2
    · simp only
      rw [g1 c hc1 hcM,h3.2 c (by simp only; rw [BU]; exact hc1) hne,hs1 c hc1 hcM]
  · simp only [l5]
    simp only [BU] at h5
    exact O.keep h5 fun b hb1 hb2 => g3 b hb1
abbrev TOp := OpT
abbrev TRs := Rs
abbrev TOw := Ow
abbrev zOpL : List Value := [(.int .i64 0),(.string ⟨#[]⟩),(.string ⟨#[]⟩),(.string ⟨#[]⟩),(.string ⟨#[]⟩),(.int .i64 0)]
abbrev zRsL : List Value := [(.bool false),(.string ⟨#[]⟩),(.slice none 0 0)]
abbrev zOwL : List Value := [(.string ⟨#[]⟩),(.int .i64 0)]
theorem EU {v : Value} (h : AH v = true) : An v = [v] := by cases v <;> first | rfl | (simp [AH] at h)
theorem G1 {N M C W lo ix fa : Nat} (hf : (fa,ix) ∈ DU) (hNM : N < M) (hM : M < lo) (hC : C < lo ∧ C ≠ N ∧ C ≠ M) (hW : W < lo ∧ W ≠ N ∧ W ≠ M) : ∀ (k : Nat) (l : List TOp) (acc : Value) (cells : List Value) (s : St) (x : BL × Int),l.length + k ≤ 255 → Rd N s x → lo ≤ s.heap.length → s.heap[M]? = some (.row 0 cells .act) → cells[ix]? = some acc → s.heap[C]? = some (.row 0 [fnV fa] .act) → s.heap[W]? = some (.row 0 [fnV 94] .act) → BH oOp (80) lo s.heap.length l s acc →
    ∃ (acc' : Value) (s' : St) (y : BL × Int) (l' m : List TOp),AV (Bi.b0 (run Tryz.prog (libL libT) Ad)) [rp N,mp M,.pointer (some ⟨C,0,none⟩),.pointer (some ⟨W,0,none⟩),.int .i64 (k : Int)] s = some (.exit 0,[],s') ∧ Rd N s' y ∧ s.heap.length ≤ s'.heap.length ∧ (∀ b,b < lo → b ≠ N → b ≠ M → s'.heap[b]? = s.heap[b]?) ∧ s'.heap[M]? = some (.row 0 (cells.set ix acc') .act) ∧ BH oOp (80) lo s'.heap.length l' s' acc' ∧ Does (pOp.rep k) x m y ∧ (y.2 = 0 → l' = l ++ m) := by
  intro k
  induction k with
  | zero =>
    intro l acc cells s x hl hx hlo hMr hacc hCr hWr ho
    have h1 : decide (((0 : Nat) : Int) > 0) = false := rfl
    refine ⟨acc,s,x,l,[],?_,hx,Nat.le_refl _,fun _ _ _ _ => rfl,by rw [GY hacc]; exact hMr,ho,.pure,fun _ => by simp⟩
    rw [As]
    simp only [Bi.b0,h1,EVs]
  | succ k ih =>
    intro l acc cells s x hl hx hlo hMr hacc hCr hWr ho
    have h1 : decide (((k + 1 : Nat) : Int) > 0) = true := decide_eq_true (by omega)
    obtain ⟨v,hv⟩ := id hx
    by_cases hx2 : x.2 = 0
    · have hz2 : (x.2 == 0) = true := by simp [hx2]
      have hN := hx.lt
      have hMl : M < s.heap.length := by omega
      have hixl : ix < cells.length := (List.getElem?_eq_some_iff.1 hacc).1
      have hnil : Ah (.pointer (some ⟨M,ix,none⟩)) = some (.pointer (some ⟨M,ix,none⟩)) := rfl
      have rC : readRow s C = some [fnV fa] := El hCr (by simp)
      have rW : readRow s W = some [fnV 94] := El hWr (by simp)
      have rM : readRow s M = some cells := El hMr (by simp)
      -- the dry run
      obtain ⟨a0,u0,c0,s0,y0,d1,d2,d3,d4,d5,d6⟩ := Zb s x hx
      have d1 : (run Tryz.prog (libL libT) Ad) 94 [rp N] s = some (u0,s0) := d1
      rw [← (d4.cells (oOp.leaf d5)).1] at d5
      have ho0 : BH oOp (80) lo s.heap.length l s0 acc := ho.keep fun b hb1 hb2 => d3.2 b hb2 fun e => by have := Option.some.inj e; omega
      obtain ⟨r0,e1,v0,t0,e2,e3,e4,e5,e6⟩ := BH.push (s0 := s) (w := (80)) (n := (6)) (z := zOpL) ho0 (Nat.le_refl _) d3.1 hlo d5 (by decide) rfl (by decide) (by decide) rfl rfl (by omega) (by unfold reachBytes; omega)
      have hMt0 : t0.heap[M]? = some (.row 0 cells .act) := by
        rw [e5 M (by have := d3.1; omega) (.inl hM),d3.2 M hMl fun e => by have := Option.some.inj e; omega]
        exact hMr
      have e7 := De hMt0 hixl e3.leaf (EU e3.leaf)
      -- the run
      have nC : ([] : List Nat).contains C = false := rfl
      have nW : ([] : List Nat).contains W = false := rfl
      have qC := GZ (K := []) nC rC
      have qW := GZ (K := []) nW rW
      have nM : ((CK s.heap.length [.pointer (some ⟨M,ix,none⟩)]) ++ []).contains M = false := by
        rw [List.append_nil,Bool.eq_false_iff]
        exact fun e => ((KK M).1 e).2 rfl
      have qM := GZ nM rM
      obtain ⟨a,u,cs,s2,y,g1,g2,g3,g4,g5,g6⟩ := JR Zb (ix := ix) hx hNM hMl
      rw [← (g4.cells (oOp.leaf g5)).1] at g5
      have n2 := g3.1
      have ho2 : BH oOp (80) lo s.heap.length l s2 acc := ho.keep fun b hb1 hb2 => g3.2 b hb2 fun e => by have := Option.some.inj e; omega
      obtain ⟨r,f1,v',t,f2,f3,f4,f5,f6⟩ := BH.push (s0 := s) (w := (80)) (n := (6)) (z := zOpL) ho2 (Nat.le_refl _) g3.1 hlo g5 (by decide) rfl (by decide) (by decide) rfl rfl (by omega) (by unfold reachBytes; omega)
      have hb : ∀ s,Ar (6) zOpL 1 [(0,u)] s = some (.slice (some ⟨s.heap.length,0,none⟩) 1 1,s.push (.row (6) (An u) .act)) := Lw (by decide) (by decide) rfl rfl (oOp.C.len (oOp.rel g5)) (oOp.leaf g5)
      obtain rfl := Option.some.inj ((hb s2).symm.trans f1)
      have f2 : AD (6) (80) acc (.slice (some ⟨s2.heap.length,0,none⟩) 1 1) (s2.push (.row (6) (An u) .act)) = some (v',t) := f2
      have hap := C2 (K := []) (s := s2) (v := .slice (some ⟨s2.heap.length,0,none⟩) 1 1) (n := (6)) (cs := An u) KI
      have hMt : t.heap[M]? = some (.row 0 cells .act) := by
        rw [f5 M (by omega) (.inl hM),g3.2 M hMl fun e => by have := Option.some.inj e; omega]
        exact hMr
      have f7 := De hMt hixl f3.leaf (EU f3.leaf)
      have o1 : ownR (s2.push (.row (6) (An u) .act)) (v',t) = some (v',t) := I4 (FI f2).1.1
      have o2 : ownR t (undef,t.putB M (.row 0 (cells.set ix v') .act)) = some (undef,t.putB M (.row 0 (cells.set ix v') .act)) := I4 (by rw [BI]; exact Nat.le_refl _)
      have low : ∀ b,b < lo → b ≠ N → b ≠ M → (t.putB M (.row 0 (cells.set ix v') .act)).heap[b]? = s.heap[b]? := fun b hb1 hb2 hb3 => by
        rw [Ce hb3,f5 b (by omega) (.inl hb1),g3.2 b (by omega) fun e => hb2 (Option.some.inj e).symm]
      have hrd : Rd N (t.putB M (.row 0 (cells.set ix v') .act)) y := (g2.keep fun b hb => f5 b (by omega) (.inl (by omega))).put hNM
      have ho6 : BH oOp (80) lo (t.putB M (.row 0 (cells.set ix v') .act)).heap.length (l ++ [a]) (t.putB M (.row 0 (cells.set ix v') .act)) v' := by
        rw [BI]
        exact f3.keep fun b hb1 hb2 => Ce (by omega)
      obtain ⟨acc',s',y',l',m,j1,j3,j4,j5,j6,j7,j8,j9⟩ := ih (l ++ [a]) v' (cells.set ix v') (t.putB M (.row 0 (cells.set ix v') .act)) y (by simp; omega) hrd (by rw [BI]; omega) (CO (by omega)) (List.getElem?_set_self hixl) (by rw [low C hC.1 hC.2.1 hC.2.2]; exact hCr) (by rw [low W hW.1 hW.2.1 hW.2.2]; exact hWr) ho6
      rw [BI] at j4
      refine ⟨acc',s',y',l',a :: m,?_,j3,by omega,fun b hb1 hb2 hb3 => by rw [j5 b hb1 hb2 hb3,low b hb1 hb2 hb3],by rw [List.set_set] at j6; exact j6,j7,g6.cons j8,fun h => by rw [j9 h]; simp⟩
      have hd : IntKind.wrap .i64 (((k + 1 : Nat) : Int) - 1) = ((k : Nat) : Int) := by rw [wrap_i64 (by omega) (by omega)]; omega
      rw [As,← j1]
      simp only [Bi.b0,h1,Cq,Ej,hv.ld1,hz2,BZ rC,BZ rW,CJ rM hacc,Dy IK hf,hnil,JB,d1,e1,e2,e7,List.drop_zero,BZ qC,BZ qW,CJ qM hacc,Iw,g1,hb,Bo,hap,f2,o1,f7,o2,hd,EVs]
    · have hz2 : (x.2 == 0) = false := by simp [hx2]
      refine ⟨acc,s,x,l,[],?_,hx,Nat.le_refl _,fun _ _ _ _ => rfl,by rw [GY hacc]; exact hMr,ho,.stuck hx2 rfl,fun h => absurd h hx2⟩
      rw [As]
      simp only [Bi.b0,h1,Cq,Ej,hv.ld1,hz2,EVs]
theorem Hm {N M C W ix fa : Nat} {s : St} {x : BL × Int} {cells : List Value} (hf : (fa,ix) ∈ DU) (hNM : N < M) (hM : M < s.heap.length) (hC : C ≠ N ∧ C ≠ M) (hW : W ≠ N ∧ W ≠ M) (hx : Rd N s x) (hMr : s.heap[M]? = some (.row 0 cells .act)) (hacc : cells[ix]? = some (.slice none 0 0)) (hCr : s.heap[C]? = some (.row 0 [fnV fa] .act)) (hWr : s.heap[W]? = some (.row 0 [fnV 94] .act)) :
    ∃ (acc' : Value) (s' : St) (y : BL × Int) (l' : List TOp),Ag Tryz.prog (run Tryz.prog (libL libT) Ad) (.func (.func 152) #[] #[.pointer (some ⟨C,0,none⟩),.pointer (some ⟨W,0,none⟩)]) [rp N,mp M] s = some (undef,s') ∧ Rd N s' y ∧ s'.heap[M]? = some (.row 0 (cells.set ix acc') .act) ∧ BH oOp (80) s.heap.length s'.heap.length l' s' acc' ∧ BS N M s s' ∧ Does (P1 pOp) x l' y := by
  rw [show (Value.func (.func 152) #[] #[.pointer (some ⟨C,0,none⟩),.pointer (some ⟨W,0,none⟩)]) = .func (.func 152) ([] : List Value).toArray [.pointer (some ⟨C,0,none⟩),.pointer (some ⟨W,0,none⟩)].toArray from rfl,Ci HX]
  obtain ⟨k,u6,c6,s6,y6,b1,b2,b3,b4,b5,b6⟩ := Cb s x hx
  obtain ⟨rfl,hk⟩ := CP b5 b4
  have b1 : (run Tryz.prog (libL libT) Ad) 153 [rp N] s = some (.int .i64 (k : Int),s6) := b1
  have n6 := b3.1
  have hCl := (List.getElem?_eq_some_iff.1 hCr).1
  have hWl := (List.getElem?_eq_some_iff.1 hWr).1
  have kp : ∀ b,b < s.heap.length → b ≠ N → s6.heap[b]? = s.heap[b]? := fun b h1 h2 => b3.2 b h1 fun e => h2 (Option.some.inj e).symm
  obtain ⟨acc',s',y,l',m,j1,j3,j4,j5,j6,j7,j8,j9⟩ := G1 (lo := s6.heap.length) hf hNM (by omega) ⟨by omega,hC.1,hC.2⟩ ⟨by omega,hW.1,hW.2⟩ k [] (.slice none 0 0) cells s6 y6 (by simpa using hk) b2 (Nat.le_refl _) (by rw [kp M hM (by omega)]; exact hMr) hacc (by rw [kp C hCl hC.1]; exact hCr) (by rw [kp W hWl hW.1]; exact hWr) .nil
  refine ⟨acc',s',y,l',HW rfl ?_,j3,j6,j7.mono n6 (Nat.le_refl _),⟨by omega,fun c h1 h2 h3 => by rw [j5 c (by omega) h2 h3,kp c h1 h2]⟩,(b6.bind j8).weaken fun h => by simpa using j9 h⟩
  unfold Bi
  simp only [List.cons_append,List.nil_append,B9,b1,j1,ret0,EVs]
theorem Fl {N M C W lo ix fa : Nat} (hf : (fa,ix) ∈ DU) (hNM : N < M) (hM : M < lo) (hC : C < lo ∧ C ≠ N ∧ C ≠ M) (hW : W < lo ∧ W ≠ N ∧ W ≠ M) : ∀ (k : Nat) (l : List TRs) (acc : Value) (cells : List Value) (s : St) (x : BL × Int),l.length + k ≤ 255 → Rd N s x → lo ≤ s.heap.length → s.heap[M]? = some (.row 0 cells .act) → cells[ix]? = some acc → s.heap[C]? = some (.row 0 [fnV fa] .act) → s.heap[W]? = some (.row 0 [fnV 98] .act) → BH oRs (48) lo s.heap.length l s acc →
    ∃ (acc' : Value) (s' : St) (y : BL × Int) (l' m : List TRs),AV (A1.b0 (run Tryz.prog (libL libT) Ad)) [rp N,mp M,.pointer (some ⟨C,0,none⟩),.pointer (some ⟨W,0,none⟩),.int .i64 (k : Int)] s = some (.exit 0,[],s') ∧ Rd N s' y ∧ s.heap.length ≤ s'.heap.length ∧ (∀ b,b < lo → b ≠ N → b ≠ M → s'.heap[b]? = s.heap[b]?) ∧ s'.heap[M]? = some (.row 0 (cells.set ix acc') .act) ∧ BH oRs (48) lo s'.heap.length l' s' acc' ∧ Does (pRs.rep k) x m y ∧ (y.2 = 0 → l' = l ++ m) := by
  intro k
  induction k with
  | zero =>
    intro l acc cells s x hl hx hlo hMr hacc hCr hWr ho
    have h1 : decide (((0 : Nat) : Int) > 0) = false := rfl
    refine ⟨acc,s,x,l,[],?_,hx,Nat.le_refl _,fun _ _ _ _ => rfl,by rw [GY hacc]; exact hMr,ho,.pure,fun _ => by simp⟩
    rw [As]
    simp only [A1.b0,h1,EVs]
  | succ k ih =>
    intro l acc cells s x hl hx hlo hMr hacc hCr hWr ho
    have h1 : decide (((k + 1 : Nat) : Int) > 0) = true := decide_eq_true (by omega)
    obtain ⟨v,hv⟩ := id hx
    by_cases hx2 : x.2 = 0
    · have hz2 : (x.2 == 0) = true := by simp [hx2]
      have hN := hx.lt
      have hMl : M < s.heap.length := by omega
      have hixl : ix < cells.length := (List.getElem?_eq_some_iff.1 hacc).1
      have hnil : Ah (.pointer (some ⟨M,ix,none⟩)) = some (.pointer (some ⟨M,ix,none⟩)) := rfl
      have rC : readRow s C = some [fnV fa] := El hCr (by simp)
      have rW : readRow s W = some [fnV 98] := El hWr (by simp)
      have rM : readRow s M = some cells := El hMr (by simp)
      -- the dry run
      obtain ⟨a0,u0,c0,s0,y0,d1,d2,d3,d4,d5,d6⟩ := O6 s x hx
      have d1 : (run Tryz.prog (libL libT) Ad) 98 [rp N] s = some (u0,s0) := d1
      rw [← (d4.cells (oRs.leaf d5)).1] at d5
      have ho0 : BH oRs (48) lo s.heap.length l s0 acc := ho.keep fun b hb1 hb2 => d3.2 b hb2 fun e => by have := Option.some.inj e; omega
      obtain ⟨r0,e1,v0,t0,e2,e3,e4,e5,e6⟩ := BH.push (s0 := s) (w := (48)) (n := (3)) (z := zRsL) ho0 (Nat.le_refl _) d3.1 hlo d5 (by decide) rfl (by decide) (by decide) rfl rfl (by omega) (by unfold reachBytes; omega)
      have hMt0 : t0.heap[M]? = some (.row 0 cells .act) := by
        rw [e5 M (by have := d3.1; omega) (.inl hM),d3.2 M hMl fun e => by have := Option.some.inj e; omega]
        exact hMr
      have e7 := De hMt0 hixl e3.leaf (EU e3.leaf)
      -- the run
      have nC : ([] : List Nat).contains C = false := rfl
      have nW : ([] : List Nat).contains W = false := rfl
      have qC := GZ (K := []) nC rC
      have qW := GZ (K := []) nW rW
      have nM : ((CK s.heap.length [.pointer (some ⟨M,ix,none⟩)]) ++ []).contains M = false := by
        rw [List.append_nil,Bool.eq_false_iff]
        exact fun e => ((KK M).1 e).2 rfl
      have qM := GZ nM rM
      obtain ⟨a,u,cs,s2,y,g1,g2,g3,g4,g5,g6⟩ := JR O6 (ix := ix) hx hNM hMl
      rw [← (g4.cells (oRs.leaf g5)).1] at g5
      have n2 := g3.1
      have ho2 : BH oRs (48) lo s.heap.length l s2 acc := ho.keep fun b hb1 hb2 => g3.2 b hb2 fun e => by have := Option.some.inj e; omega
      obtain ⟨r,f1,v',t,f2,f3,f4,f5,f6⟩ := BH.push (s0 := s) (w := (48)) (n := (3)) (z := zRsL) ho2 (Nat.le_refl _) g3.1 hlo g5 (by decide) rfl (by decide) (by decide) rfl rfl (by omega) (by unfold reachBytes; omega)
      have hb : ∀ s,Ar (3) zRsL 1 [(0,u)] s = some (.slice (some ⟨s.heap.length,0,none⟩) 1 1,s.push (.row (3) (An u) .act)) := Lw (by decide) (by decide) rfl rfl (oRs.C.len (oRs.rel g5)) (oRs.leaf g5)
      obtain rfl := Option.some.inj ((hb s2).symm.trans f1)
      have f2 : AD (3) (48) acc (.slice (some ⟨s2.heap.length,0,none⟩) 1 1) (s2.push (.row (3) (An u) .act)) = some (v',t) := f2
      have hap := C2 (K := []) (s := s2) (v := .slice (some ⟨s2.heap.length,0,none⟩) 1 1) (n := (3)) (cs := An u) KI
      have hMt : t.heap[M]? = some (.row 0 cells .act) := by
        rw [f5 M (by omega) (.inl hM),g3.2 M hMl fun e => by have := Option.some.inj e; omega]
        exact hMr
      have f7 := De hMt hixl f3.leaf (EU f3.leaf)
      have o1 : ownR (s2.push (.row (3) (An u) .act)) (v',t) = some (v',t) := I4 (FI f2).1.1
      have o2 : ownR t (undef,t.putB M (.row 0 (cells.set ix v') .act)) = some (undef,t.putB M (.row 0 (cells.set ix v') .act)) := I4 (by rw [BI]; exact Nat.le_refl _)
      have low : ∀ b,b < lo → b ≠ N → b ≠ M → (t.putB M (.row 0 (cells.set ix v') .act)).heap[b]? = s.heap[b]? := fun b hb1 hb2 hb3 => by
        rw [Ce hb3,f5 b (by omega) (.inl hb1),g3.2 b (by omega) fun e => hb2 (Option.some.inj e).symm]
      have hrd : Rd N (t.putB M (.row 0 (cells.set ix v') .act)) y := (g2.keep fun b hb => f5 b (by omega) (.inl (by omega))).put hNM
      have ho6 : BH oRs (48) lo (t.putB M (.row 0 (cells.set ix v') .act)).heap.length (l ++ [a]) (t.putB M (.row 0 (cells.set ix v') .act)) v' := by
        rw [BI]
        exact f3.keep fun b hb1 hb2 => Ce (by omega)
      obtain ⟨acc',s',y',l',m,j1,j3,j4,j5,j6,j7,j8,j9⟩ := ih (l ++ [a]) v' (cells.set ix v') (t.putB M (.row 0 (cells.set ix v') .act)) y (by simp; omega) hrd (by rw [BI]; omega) (CO (by omega)) (List.getElem?_set_self hixl) (by rw [low C hC.1 hC.2.1 hC.2.2]; exact hCr) (by rw [low W hW.1 hW.2.1 hW.2.2]; exact hWr) ho6
      rw [BI] at j4
      refine ⟨acc',s',y',l',a :: m,?_,j3,by omega,fun b hb1 hb2 hb3 => by rw [j5 b hb1 hb2 hb3,low b hb1 hb2 hb3],by rw [List.set_set] at j6; exact j6,j7,g6.cons j8,fun h => by rw [j9 h]; simp⟩
      have hd : IntKind.wrap .i64 (((k + 1 : Nat) : Int) - 1) = ((k : Nat) : Int) := by rw [wrap_i64 (by omega) (by omega)]; omega
      rw [As,← j1]
      simp only [A1.b0,h1,Cq,Ej,hv.ld1,hz2,BZ rC,BZ rW,CJ rM hacc,Dy IK hf,hnil,GQ,d1,e1,e2,e7,List.drop_zero,BZ qC,BZ qW,CJ qM hacc,Iw,g1,hb,Bo,hap,f2,o1,f7,o2,hd,EVs]
    · have hz2 : (x.2 == 0) = false := by simp [hx2]
      refine ⟨acc,s,x,l,[],?_,hx,Nat.le_refl _,fun _ _ _ _ => rfl,by rw [GY hacc]; exact hMr,ho,.stuck hx2 rfl,fun h => absurd h hx2⟩
      rw [As]
      simp only [A1.b0,h1,Cq,Ej,hv.ld1,hz2,EVs]
theorem Fv {N M C W ix fa : Nat} {s : St} {x : BL × Int} {cells : List Value} (hf : (fa,ix) ∈ DU) (hNM : N < M) (hM : M < s.heap.length) (hC : C ≠ N ∧ C ≠ M) (hW : W ≠ N ∧ W ≠ M) (hx : Rd N s x) (hMr : s.heap[M]? = some (.row 0 cells .act)) (hacc : cells[ix]? = some (.slice none 0 0)) (hCr : s.heap[C]? = some (.row 0 [fnV fa] .act)) (hWr : s.heap[W]? = some (.row 0 [fnV 98] .act)) :
    ∃ (acc' : Value) (s' : St) (y : BL × Int) (l' : List TRs),Ag Tryz.prog (run Tryz.prog (libL libT) Ad) (.func (.func 156) #[] #[.pointer (some ⟨C,0,none⟩),.pointer (some ⟨W,0,none⟩)]) [rp N,mp M] s = some (undef,s') ∧ Rd N s' y ∧ s'.heap[M]? = some (.row 0 (cells.set ix acc') .act) ∧ BH oRs (48) s.heap.length s'.heap.length l' s' acc' ∧ BS N M s s' ∧ Does (P1 pRs) x l' y := by
  rw [show (Value.func (.func 156) #[] #[.pointer (some ⟨C,0,none⟩),.pointer (some ⟨W,0,none⟩)]) = .func (.func 156) ([] : List Value).toArray [.pointer (some ⟨C,0,none⟩),.pointer (some ⟨W,0,none⟩)].toArray from rfl,Ci FY]
  obtain ⟨k,u6,c6,s6,y6,b1,b2,b3,b4,b5,b6⟩ := Cb s x hx
  obtain ⟨rfl,hk⟩ := CP b5 b4
  have b1 : (run Tryz.prog (libL libT) Ad) 153 [rp N] s = some (.int .i64 (k : Int),s6) := b1
  have n6 := b3.1
  have hCl := (List.getElem?_eq_some_iff.1 hCr).1
  have hWl := (List.getElem?_eq_some_iff.1 hWr).1
  have kp : ∀ b,b < s.heap.length → b ≠ N → s6.heap[b]? = s.heap[b]? := fun b h1 h2 => b3.2 b h1 fun e => h2 (Option.some.inj e).symm
  obtain ⟨acc',s',y,l',m,j1,j3,j4,j5,j6,j7,j8,j9⟩ := Fl (lo := s6.heap.length) hf hNM (by omega) ⟨by omega,hC.1,hC.2⟩ ⟨by omega,hW.1,hW.2⟩ k [] (.slice none 0 0) cells s6 y6 (by simpa using hk) b2 (Nat.le_refl _) (by rw [kp M hM (by omega)]; exact hMr) hacc (by rw [kp C hCl hC.1]; exact hCr) (by rw [kp W hWl hW.1]; exact hWr) .nil
  refine ⟨acc',s',y,l',FX rfl ?_,j3,j6,j7.mono n6 (Nat.le_refl _),⟨by omega,fun c h1 h2 h3 => by rw [j5 c (by omega) h2 h3,kp c h1 h2]⟩,(b6.bind j8).weaken fun h => by simpa using j9 h⟩
  unfold A1
  simp only [List.cons_append,List.nil_append,B9,b1,j1,ret0,EVs]
theorem Fw {N M C W lo ix fa : Nat} (hf : (fa,ix) ∈ DU) (hNM : N < M) (hM : M < lo) (hC : C < lo ∧ C ≠ N ∧ C ≠ M) (hW : W < lo ∧ W ≠ N ∧ W ≠ M) : ∀ (k : Nat) (l : List TOw) (acc : Value) (cells : List Value) (s : St) (x : BL × Int),l.length + k ≤ 255 → Rd N s x → lo ≤ s.heap.length → s.heap[M]? = some (.row 0 cells .act) → cells[ix]? = some acc → s.heap[C]? = some (.row 0 [fnV fa] .act) → s.heap[W]? = some (.row 0 [fnV 102] .act) → BH oOw (24) lo s.heap.length l s acc →
    ∃ (acc' : Value) (s' : St) (y : BL × Int) (l' m : List TOw),AV (A6.b0 (run Tryz.prog (libL libT) Ad)) [rp N,mp M,.pointer (some ⟨C,0,none⟩),.pointer (some ⟨W,0,none⟩),.int .i64 (k : Int)] s = some (.exit 0,[],s') ∧ Rd N s' y ∧ s.heap.length ≤ s'.heap.length ∧ (∀ b,b < lo → b ≠ N → b ≠ M → s'.heap[b]? = s.heap[b]?) ∧ s'.heap[M]? = some (.row 0 (cells.set ix acc') .act) ∧ BH oOw (24) lo s'.heap.length l' s' acc' ∧ Does (pOw.rep k) x m y ∧ (y.2 = 0 → l' = l ++ m) := by
  intro k
  induction k with
  | zero =>
    intro l acc cells s x hl hx hlo hMr hacc hCr hWr ho
    have h1 : decide (((0 : Nat) : Int) > 0) = false := rfl
    refine ⟨acc,s,x,l,[],?_,hx,Nat.le_refl _,fun _ _ _ _ => rfl,by rw [GY hacc]; exact hMr,ho,.pure,fun _ => by simp⟩
    rw [As]
    simp only [A6.b0,h1,EVs]
  | succ k ih =>
    intro l acc cells s x hl hx hlo hMr hacc hCr hWr ho
    have h1 : decide (((k + 1 : Nat) : Int) > 0) = true := decide_eq_true (by omega)
    obtain ⟨v,hv⟩ := id hx
    by_cases hx2 : x.2 = 0
    · have hz2 : (x.2 == 0) = true := by simp [hx2]
      have hN := hx.lt
      have hMl : M < s.heap.length := by omega
      have hixl : ix < cells.length := (List.getElem?_eq_some_iff.1 hacc).1
      have hnil : Ah (.pointer (some ⟨M,ix,none⟩)) = some (.pointer (some ⟨M,ix,none⟩)) := rfl
      have rC : readRow s C = some [fnV fa] := El hCr (by simp)
      have rW : readRow s W = some [fnV 102] := El hWr (by simp)
      have rM : readRow s M = some cells := El hMr (by simp)
      -- the dry run
      obtain ⟨a0,u0,c0,s0,y0,d1,d2,d3,d4,d5,d6⟩ := Qs s x hx
      have d1 : (run Tryz.prog (libL libT) Ad) 102 [rp N] s = some (u0,s0) := d1
      rw [← (d4.cells (oOw.leaf d5)).1] at d5
      have ho0 : BH oOw (24) lo s.heap.length l s0 acc := ho.keep fun b hb1 hb2 => d3.2 b hb2 fun e => by have := Option.some.inj e; omega
      obtain ⟨r0,e1,v0,t0,e2,e3,e4,e5,e6⟩ := BH.push (s0 := s) (w := (24)) (n := (2)) (z := zOwL) ho0 (Nat.le_refl _) d3.1 hlo d5 (by decide) rfl (by decide) (by decide) rfl rfl (by omega) (by unfold reachBytes; omega)
      have hMt0 : t0.heap[M]? = some (.row 0 cells .act) := by
        rw [e5 M (by have := d3.1; omega) (.inl hM),d3.2 M hMl fun e => by have := Option.some.inj e; omega]
        exact hMr
      have e7 := De hMt0 hixl e3.leaf (EU e3.leaf)
      -- the run
      have nC : ([] : List Nat).contains C = false := rfl
      have nW : ([] : List Nat).contains W = false := rfl
      have qC := GZ (K := []) nC rC
      have qW := GZ (K := []) nW rW
      have nM : ((CK s.heap.length [.pointer (some ⟨M,ix,none⟩)]) ++ []).contains M = false := by
        rw [List.append_nil,Bool.eq_false_iff]
        exact fun e => ((KK M).1 e).2 rfl
      have qM := GZ nM rM
      obtain ⟨a,u,cs,s2,y,g1,g2,g3,g4,g5,g6⟩ := JR Qs (ix := ix) hx hNM hMl
      rw [← (g4.cells (oOw.leaf g5)).1] at g5
      have n2 := g3.1
      have ho2 : BH oOw (24) lo s.heap.length l s2 acc := ho.keep fun b hb1 hb2 => g3.2 b hb2 fun e => by have := Option.some.inj e; omega
      obtain ⟨r,f1,v',t,f2,f3,f4,f5,f6⟩ := BH.push (s0 := s) (w := (24)) (n := (2)) (z := zOwL) ho2 (Nat.le_refl _) g3.1 hlo g5 (by decide) rfl (by decide) (by decide) rfl rfl (by omega) (by unfold reachBytes; omega)
      have hb : ∀ s,Ar (2) zOwL 1 [(0,u)] s = some (.slice (some ⟨s.heap.length,0,none⟩) 1 1,s.push (.row (2) (An u) .act)) := Lw (by decide) (by decide) rfl rfl (oOw.C.len (oOw.rel g5)) (oOw.leaf g5)
      obtain rfl := Option.some.inj ((hb s2).symm.trans f1)
      have f2 : AD (2) (24) acc (.slice (some ⟨s2.heap.length,0,none⟩) 1 1) (s2.push (.row (2) (An u) .act)) = some (v',t) := f2
      have hap := C2 (K := []) (s := s2) (v := .slice (some ⟨s2.heap.length,0,none⟩) 1 1) (n := (2)) (cs := An u) KI
      have hMt : t.heap[M]? = some (.row 0 cells .act) := by
        rw [f5 M (by omega) (.inl hM),g3.2 M hMl fun e => by have := Option.some.inj e; omega]
        exact hMr
      have f7 := De hMt hixl f3.leaf (EU f3.leaf)
      have o1 : ownR (s2.push (.row (2) (An u) .act)) (v',t) = some (v',t) := I4 (FI f2).1.1
      have o2 : ownR t (undef,t.putB M (.row 0 (cells.set ix v') .act)) = some (undef,t.putB M (.row 0 (cells.set ix v') .act)) := I4 (by rw [BI]; exact Nat.le_refl _)
      have low : ∀ b,b < lo → b ≠ N → b ≠ M → (t.putB M (.row 0 (cells.set ix v') .act)).heap[b]? = s.heap[b]? := fun b hb1 hb2 hb3 => by
        rw [Ce hb3,f5 b (by omega) (.inl hb1),g3.2 b (by omega) fun e => hb2 (Option.some.inj e).symm]
      have hrd : Rd N (t.putB M (.row 0 (cells.set ix v') .act)) y := (g2.keep fun b hb => f5 b (by omega) (.inl (by omega))).put hNM
      have ho6 : BH oOw (24) lo (t.putB M (.row 0 (cells.set ix v') .act)).heap.length (l ++ [a]) (t.putB M (.row 0 (cells.set ix v') .act)) v' := by
        rw [BI]
        exact f3.keep fun b hb1 hb2 => Ce (by omega)
      obtain ⟨acc',s',y',l',m,j1,j3,j4,j5,j6,j7,j8,j9⟩ := ih (l ++ [a]) v' (cells.set ix v') (t.putB M (.row 0 (cells.set ix v') .act)) y (by simp; omega) hrd (by rw [BI]; omega) (CO (by omega)) (List.getElem?_set_self hixl) (by rw [low C hC.1 hC.2.1 hC.2.2]; exact hCr) (by rw [low W hW.1 hW.2.1 hW.2.2]; exact hWr) ho6
      rw [BI] at j4
      refine ⟨acc',s',y',l',a :: m,?_,j3,by omega,fun b hb1 hb2 hb3 => by rw [j5 b hb1 hb2 hb3,low b hb1 hb2 hb3],by rw [List.set_set] at j6; exact j6,j7,g6.cons j8,fun h => by rw [j9 h]; simp⟩
      have hd : IntKind.wrap .i64 (((k + 1 : Nat) : Int) - 1) = ((k : Nat) : Int) := by rw [wrap_i64 (by omega) (by omega)]; omega
      rw [As,← j1]
      simp only [A6.b0,h1,Cq,Ej,hv.ld1,hz2,BZ rC,BZ rW,CJ rM hacc,Dy IK hf,hnil,Hg,d1,e1,e2,e7,List.drop_zero,BZ qC,BZ qW,CJ qM hacc,Iw,g1,hb,Bo,hap,f2,o1,f7,o2,hd,EVs]
    · have hz2 : (x.2 == 0) = false := by simp [hx2]
      refine ⟨acc,s,x,l,[],?_,hx,Nat.le_refl _,fun _ _ _ _ => rfl,by rw [GY hacc]; exact hMr,ho,.stuck hx2 rfl,fun h => absurd h hx2⟩
      rw [As]
      simp only [A6.b0,h1,Cq,Ej,hv.ld1,hz2,EVs]
theorem F4 {N M C W ix fa : Nat} {s : St} {x : BL × Int} {cells : List Value} (hf : (fa,ix) ∈ DU) (hNM : N < M) (hM : M < s.heap.length) (hC : C ≠ N ∧ C ≠ M) (hW : W ≠ N ∧ W ≠ M) (hx : Rd N s x) (hMr : s.heap[M]? = some (.row 0 cells .act)) (hacc : cells[ix]? = some (.slice none 0 0)) (hCr : s.heap[C]? = some (.row 0 [fnV fa] .act)) (hWr : s.heap[W]? = some (.row 0 [fnV 102] .act)) :
    ∃ (acc' : Value) (s' : St) (y : BL × Int) (l' : List TOw),Ag Tryz.prog (run Tryz.prog (libL libT) Ad) (.func (.func 159) #[] #[.pointer (some ⟨C,0,none⟩),.pointer (some ⟨W,0,none⟩)]) [rp N,mp M] s = some (undef,s') ∧ Rd N s' y ∧ s'.heap[M]? = some (.row 0 (cells.set ix acc') .act) ∧ BH oOw (24) s.heap.length s'.heap.length l' s' acc' ∧ BS N M s s' ∧ Does (P1 pOw) x l' y := by
  rw [show (Value.func (.func 159) #[] #[.pointer (some ⟨C,0,none⟩),.pointer (some ⟨W,0,none⟩)]) = .func (.func 159) ([] : List Value).toArray [.pointer (some ⟨C,0,none⟩),.pointer (some ⟨W,0,none⟩)].toArray from rfl,Ci Gs]
  obtain ⟨k,u6,c6,s6,y6,b1,b2,b3,b4,b5,b6⟩ := Cb s x hx
  obtain ⟨rfl,hk⟩ := CP b5 b4
  have b1 : (run Tryz.prog (libL libT) Ad) 153 [rp N] s = some (.int .i64 (k : Int),s6) := b1
  have n6 := b3.1
  have hCl := (List.getElem?_eq_some_iff.1 hCr).1
  have hWl := (List.getElem?_eq_some_iff.1 hWr).1
  have kp : ∀ b,b < s.heap.length → b ≠ N → s6.heap[b]? = s.heap[b]? := fun b h1 h2 => b3.2 b h1 fun e => h2 (Option.some.inj e).symm
  obtain ⟨acc',s',y,l',m,j1,j3,j4,j5,j6,j7,j8,j9⟩ := Fw (lo := s6.heap.length) hf hNM (by omega) ⟨by omega,hC.1,hC.2⟩ ⟨by omega,hW.1,hW.2⟩ k [] (.slice none 0 0) cells s6 y6 (by simpa using hk) b2 (Nat.le_refl _) (by rw [kp M hM (by omega)]; exact hMr) hacc (by rw [kp C hCl hC.1]; exact hCr) (by rw [kp W hWl hW.1]; exact hWr) .nil
  refine ⟨acc',s',y,l',Gr rfl ?_,j3,j6,j7.mono n6 (Nat.le_refl _),⟨by omega,fun c h1 h2 h3 => by rw [j5 c (by omega) h2 h3,kp c h1 h2]⟩,(b6.bind j8).weaken fun h => by simpa using j9 h⟩
  unfold A6
  simp only [List.cons_append,List.nil_append,B9,b1,j1,ret0,EVs]
end Go.Proofs.YtmbhnbladmpnoaaGreat.Ab

/- Messages are read: all fields,by their letters. -/
namespace Go.Proofs.YtmbhnbladmpnoaaGreat.Ab
open Go
set_option maxRecDepth 10000
section
variable {N M : Nat} {t : St} {x : BL × Int} {cells : List Value} (hM : t.heap[M]? = some (.row 0 cells .act)) (hNM : N < M) (hx : Rd N t x)
include hM hNM hx
theorem Za2 {f ix C : Nat} (hf : (f,ix) ∈ DU) (hC : readRow t C = some [fnV f]) (hix : ix < cells.length) : ∃ (n : Nat) (s' : St) (y : BL × Int),Ag Tryz.prog (run Tryz.prog (libL libT) Ad) (.func (.func 143) #[] #[.pointer (some ⟨C,0,none⟩)]) [rp N,mp M] t = some (undef,s') ∧ Rd N s' y ∧ s'.heap[M]? = some (.row 0 (cells.set ix (.int .u64 (n : Int))) .act) ∧ BS N M t s' ∧ n ≤ 18446744073709551615 ∧ Does Hl x n y := by
  rw [show (Value.func (.func 143) #[] #[.pointer (some ⟨C,0,none⟩)]) = .func (.func 143) ([] : List Value).toArray [.pointer (some ⟨C,0,none⟩)].toArray from rfl,Ci RB]
  have hMl := (List.getElem?_eq_some_iff.1 hM).1
  obtain ⟨n,u,c,s1,y,b1,b2,b3,b4,b5,b6⟩ := ED t x hx
  obtain ⟨rfl,hn⟩ := CP b5 b4
  have b1 : (run Tryz.prog (libL libT) Ad) 144 [rp N] t = some (.int .u64 (n : Int),s1) := b1
  have n1 := b3.1
  have hM1 : s1.heap[M]? = some (.row 0 cells .act) := by rw [b3.2 M hMl fun e => by have := Option.some.inj e; omega]; exact hM
  have hst := De hM1 hix (v := .int .u64 (n : Int)) rfl rfl
  have e : Ah (.pointer (some ⟨M,ix,none⟩)) = some (.pointer (some ⟨M,ix,none⟩)) := rfl
  refine ⟨n,s1.putB M (.row 0 (cells.set ix (.int .u64 (n : Int))) .act),y,RA rfl ?_,b2.put hNM,CO (by omega),(BS.of1 b3).trans Ep,hn,b6⟩
  unfold Qg
  simp only [BZ hC,Dy IK hf,Db,b1,e,hst,ret0,EVs]
theorem WW {f ix C : Nat} (hf : (f,ix) ∈ DU) (hC : readRow t C = some [fnV f]) (hix : ix < cells.length) : ∃ (n : Nat) (s' : St) (y : BL × Int),Ag Tryz.prog (run Tryz.prog (libL libT) Ad) (.func (.func 147) #[] #[.pointer (some ⟨C,0,none⟩)]) [rp N,mp M] t = some (undef,s') ∧ Rd N s' y ∧ s'.heap[M]? = some (.row 0 (cells.set ix (.int .i64 (n : Int))) .act) ∧ BS N M t s' ∧ n ≤ 255 ∧ Does Hk x n y := by
  rw [show (Value.func (.func 147) #[] #[.pointer (some ⟨C,0,none⟩)]) = .func (.func 147) ([] : List Value).toArray [.pointer (some ⟨C,0,none⟩)].toArray from rfl,Ci Or]
  have hMl := (List.getElem?_eq_some_iff.1 hM).1
  obtain ⟨n,u,c,s1,y,b1,b2,b3,b4,b5,b6⟩ := A7 t x hx
  obtain ⟨rfl,hn⟩ := CP b5 b4
  have b1 : (run Tryz.prog (libL libT) Ad) 35 [rp N] t = some (.int .i64 (n : Int),s1) := b1
  have n1 := b3.1
  have hM1 : s1.heap[M]? = some (.row 0 cells .act) := by rw [b3.2 M hMl fun e => by have := Option.some.inj e; omega]; exact hM
  have hst := De hM1 hix (v := .int .i64 (n : Int)) rfl rfl
  have e : Ah (.pointer (some ⟨M,ix,none⟩)) = some (.pointer (some ⟨M,ix,none⟩)) := rfl
  refine ⟨n,s1.putB M (.row 0 (cells.set ix (.int .i64 (n : Int))) .act),y,Oq rfl ?_,b2.put hNM,CO (by omega),(BS.of1 b3).trans Ep,hn,b6⟩
  unfold L5
  simp only [BZ hC,Dy IK hf,Bc,b1,e,hst,ret0,EVs]
theorem Zc (hix : 15 < cells.length) : ∃ (b : Bool) (s' : St) (y : BL × Int),Ag Tryz.prog (run Tryz.prog (libL libT) Ad) (fnV 83) [rp N,mp M] t = some (undef,s') ∧ Rd N s' y ∧ s'.heap[M]? = some (.row 0 (cells.set 15 (.bool b)) .act) ∧ BS N M t s' ∧ Does Tv x b y := by
  rw [MH]
  have hMl := (List.getElem?_eq_some_iff.1 hM).1
  obtain ⟨b,u,c,s1,y,b1,b2,b3,b4,b5,b6⟩ := Eo t x hx
  obtain rfl := Tx b5 b4
  have b1 : (run Tryz.prog (libL libT) Ad) 84 [rp N] t = some (.bool b,s1) := b1
  have n1 := b3.1
  have hM1 : s1.heap[M]? = some (.row 0 cells .act) := by rw [b3.2 M hMl fun e => by have := Option.some.inj e; omega]; exact hM
  have hst := De hM1 hix (v := .bool b) rfl rfl
  have h1 : Ah (mp M) = some (mp M) := rfl
  have h2 : Ac 15 (mp M) = some (.pointer (some ⟨M,15,none⟩)) := by simp [Ac]
  refine ⟨b,s1.putB M (.row 0 (cells.set 15 (.bool b)) .act),y,PB rfl ?_,b2.put hNM,CO (by omega),(BS.of1 b3).trans Ep,b6⟩
  unfold Of
  simp only [Eh,b1,h1,h2,hst,ret0,EVs]
theorem WX (hr : ∀ j ∈ [16,17],∃ t : BL,cells[j]? = some (sv t) ∧ t.length ≤ 255) : ∃ (a b : BL) (s' : St) (y : BL × Int),Ag Tryz.prog (run Tryz.prog (libL libT) Ad) (fnV 88) [rp N,mp M] t = some (undef,s') ∧ Rd N s' y ∧ s'.heap[M]? = some (.row 0 ((cells.set 16 (sv a)).set 17 (sv b)) .act) ∧ BS N M t s' ∧ (a.length ≤ 255 ∧ b.length ≤ 255) ∧ Does (pTx.rep 2) x [a,b] y := by
  rw [MK]
  have hMl := (List.getElem?_eq_some_iff.1 hM).1
  have hNl := hx.lt
  obtain ⟨ns,s5,y5,a1,⟨a2,a9⟩,a3,a4,a6,a8⟩ := Ia (n := 2) (P := t.heap.length) (B := M) (N := N) (full := [16,17]) (s := t.push (.row 1 (H9 M [16,17]) .act)) (x := x) (cells := cells) rfl (by decide) hNM (by omega) (by omega) hx.push (by rw [C4 hMl]; exact hM) AE hr
  match ns,a2 with
  | [a,b],_ =>
    have h1 : Ah (mp M) = some (mp M) := rfl
    have h2 : Ac 16 (mp M) = some (.pointer (some ⟨M,16,none⟩)) := by simp [Ac]
    have h3 : Ac 0 (.pointer (some ⟨M,16,none⟩)) = some (.pointer (some ⟨M,16,none⟩)) := rfl
    have h4 : Ac 1 (.pointer (some ⟨M,16,none⟩)) = some (.pointer (some ⟨M,17,none⟩)) := rfl
    have hsl : Ar 1 [(.pointer none)] 2 [(0,.pointer (some ⟨M,16,none⟩)),(1,.pointer (some ⟨M,17,none⟩))] t = some (.slice (some ⟨t.heap.length,0,none⟩) 2 2,t.push (.row 1 (H9 M [16,17]) .act)) := rfl
    have o1 : ownR t (Value.slice (some ⟨t.heap.length,0,none⟩) 2 2,t.push (.row 1 (H9 M [16,17]) .act)) = some (Value.slice (some ⟨t.heap.length,0,none⟩) 2 2,t.push (.row 1 (H9 M [16,17]) .act)) := I4 (by rw [AJ]; omega)
    have o2 : ownR (t.push (.row 1 (H9 M [16,17]) .act)) (undef,s5) = some (undef,s5) := I4 a6.1
    refine ⟨a,b,s5,y5,PH rfl ?_,a3,a4,CG.trans a6,⟨a9 a (by simp),a9 b (by simp)⟩,a8⟩
    unfold Oh
    simp only [h1,h2,h3,h4,hsl,o1,BC,a1,o2,ret0,EVs]
end
structure MsR (rest : List Int) (m : Ms) (lo M : Nat) (s : St) (vo vr vw : Value) : Prop where
  row : s.heap[M]? = some (.row 0 (msC m vo vr vw) .act)
  wf : MsWf m
  rg1 : m.rg.1.length ≤ 255
  rg2 : m.rg.2.length ≤ 255
  o : BH oOp 80 lo s.heap.length m.ops s vo
  r : BH oRs 48 lo s.heap.length m.res s vr
  w : BH oOw 24 lo s.heap.length m.own s vw
  zo : 111 ∈ rest → vo = .slice none 0 0
  zr : 115 ∈ rest → vr = .slice none 0 0
  zw : 119 ∈ rest → vw = .slice none 0 0
def MsM (rest : List Int) (m : Ms) (lo M : Nat) (s : St) : Prop := ∃ vo vr vw,MsR rest m lo M s vo vr vw
def RAt (A : Nat) (s : St) : Prop := ∀ i f,Al[i]? = some (rowF f) → s.heap[A + 1 + i]? = some (rowF f)
section
variable {rest : List Int} {c : Int} {m : Ms} {lo M N : Nat} {s t : St} {vo vr vw : Value}
theorem C7 {α : Type} {O : OCod α} {B : Nat} {l : List α} {v : Value} (h : BH O B lo s.heap.length l s v) (k : BS N M s t) (hN : N < lo) (hM : M < lo) : BH O B lo t.heap.length l t v :=
  (h.keep fun b h1 h2 => k.2 b h2 (by omega) (by omega)).mono (Nat.le_refl _) k.1
theorem MsR.step (h : MsR (c :: rest) m lo M s vo vr vw) (k : BS N M s t) (hN : N < lo) (hM : M < lo) {m' : Ms} (hrow : t.heap[M]? = some (.row 0 (msC m' vo vr vw) .act)) (hwf : MsWf m') (hr : m'.rg.1.length ≤ 255 ∧ m'.rg.2.length ≤ 255) (ho : m'.ops = m.ops) (hs : m'.res = m.res) (hw : m'.own = m.own) : MsR rest m' lo M t vo vr vw :=
  ⟨hrow,hwf,hr.1,hr.2,ho ▸ C7 h.o k hN hM,hs ▸ C7 h.r k hN hM,hw ▸ C7 h.w k hN hM,fun e => h.zo (List.mem_cons_of_mem _ e),fun e => h.zr (List.mem_cons_of_mem _ e),fun e => h.zw (List.mem_cons_of_mem _ e)⟩
end
def rTab : List (Int × Par (Ms → Ms)) := [
  (113,Hl.map fun n m => { m with req := (n : Int) }),(98,Hl.map fun n m => { m with boot := (n : Int) }),(116,Hl.map fun n m => { m with txn := (n : Int) }),(108,Hl.map fun n m => { m with low := (n : Int) }),(118,Hl.map fun n m => { m with ver := (n : Int) }),(101,Hl.map fun n m => { m with epoch := (n : Int) }),(109,Hl.map fun n m => { m with move := (n : Int) }),(97,Hl.map fun n m => { m with attempt := (n : Int) }),(110,Hl.map fun n m => { m with num := (n : Int) }),
  (99,Hk.map fun n m => { m with code := (n : Int) }),(112,Hk.map fun n m => { m with peer := (n : Int) }),(102,Tv.map fun b m => { m with flag := b }),(114,(pTx.rep 2).map fun l m => { m with rg := (l.getD 0 [],l.getD 1 []) }),
  (111,(P1 pOp).map fun l m => { m with ops := l }),(115,(P1 pRs).map fun l m => { m with res := l }),(119,(P1 pOw).map fun l m => { m with own := l })]
def ROk (N M A lo : Nat) (e : Value × Value × Nat) (q : Int × Par (Ms → Ms)) : Prop :=
  e.1 = .int .i32 q.1 ∧ ∃ x y z,e.2.1 = .agg #[x,y,z] ∧ ∀ rest m s xx,q.1 ∉ rest → RAt A s → Rd N s xx → MsM (q.1 :: rest) m lo M s → lo ≤ s.heap.length → ∃ (g : Ms → Ms) (s' : St) (yy : BL × Int),Ag Tryz.prog (run Tryz.prog (libL libT) Ad) y [rp N,mp M] s = some (undef,s') ∧ Rd N s' yy ∧ MsM rest (g m) lo M s' ∧ BS N M s s' ∧ Does q.2 xx g yy
theorem wf_u {n : Nat} (h : n ≤ 18446744073709551615) : (Lit.int .u64 (n : Int)).wf = true := by simp [Lit.wf,IntKind.signed,IntKind.bits,IntKind.min,IntKind.max]; omega
theorem wf_i {n : Nat} (h : n ≤ 255) : (Lit.int .i64 (n : Int)).wf = true := by simp [Lit.wf,IntKind.signed,IntKind.bits,IntKind.min,IntKind.max]; omega
theorem ZeT {A : Nat} {s : St} (h : RAt A s) {i f : Nat} (hi : Al[i]? = some (rowF f)) : readRow s (A + 1 + i) = some [fnV f] := El (h i f hi) (by simp)
theorem Za3 {N M A lo : Nat} (hNM : N < M) (hM : M < lo) (hA : M < A) : All2 (ROk N M A lo) (AI A) rTab := by
  have num : ∀ {f ix i : Nat} {c : Int} {u : Int → Ms → Ms},(f,ix) ∈ DU → Al[i]? = some (rowF f) → ix < 21 → (∀ n m vo vr vw,(msC m vo vr vw).set ix (.int .u64 n) = msC (u n m) vo vr vw) → (∀ n m,MsWf m → (Lit.int .u64 n).wf = true → MsWf (u n m)) → (∀ n m,(u n m).rg = m.rg ∧ (u n m).ops = m.ops ∧ (u n m).res = m.res ∧ (u n m).own = m.own) →
      ∀ rest m s xx,c ∉ rest → RAt A s → Rd N s xx → MsM (c :: rest) m lo M s → lo ≤ s.heap.length → ∃ (g : Ms → Ms) (s' : St) (yy : BL × Int),Ag Tryz.prog (run Tryz.prog (libL libT) Ad) (.func (.func 143) #[] #[ptA A i]) [rp N,mp M] s = some (undef,s') ∧ Rd N s' yy ∧ MsM rest (g m) lo M s' ∧ BS N M s s' ∧ Does (Hl.map fun n m => u (n : Int) m) xx g yy := by
    intro f ix i c u hf hi hix hset hwf hsame rest m s xx _ hra hx ⟨vo,vr,vw,h⟩ hlo
    obtain ⟨n,s',y,b1,b2,b3,b4,b5,b6⟩ := Za2 h.row hNM hx hf (ZeT hra hi) hix
    rw [hset] at b3
    obtain ⟨e1,e2,e3,e4⟩ := hsame (n : Int) m
    exact ⟨fun m => u (n : Int) m,s',y,b1,b2,⟨vo,vr,vw,h.step b4 (by omega) hM b3 (hwf _ _ h.wf (wf_u b5)) (by rw [e1]; exact ⟨h.rg1,h.rg2⟩) e2 e3 e4⟩,b4,b6.map⟩
  have sml : ∀ {f ix i : Nat} {c : Int} {u : Int → Ms → Ms},(f,ix) ∈ DU → Al[i]? = some (rowF f) → ix < 21 → (∀ n m vo vr vw,(msC m vo vr vw).set ix (.int .i64 n) = msC (u n m) vo vr vw) → (∀ n m,MsWf m → (Lit.int .i64 n).wf = true → MsWf (u n m)) → (∀ n m,(u n m).rg = m.rg ∧ (u n m).ops = m.ops ∧ (u n m).res = m.res ∧ (u n m).own = m.own) →
      ∀ rest m s xx,c ∉ rest → RAt A s → Rd N s xx → MsM (c :: rest) m lo M s → lo ≤ s.heap.length → ∃ (g : Ms → Ms) (s' : St) (yy : BL × Int),Ag Tryz.prog (run Tryz.prog (libL libT) Ad) (.func (.func 147) #[] #[ptA A i]) [rp N,mp M] s = some (undef,s') ∧ Rd N s' yy ∧ MsM rest (g m) lo M s' ∧ BS N M s s' ∧ Does (Hk.map fun n m => u (n : Int) m) xx g yy := by
    intro f ix i c u hf hi hix hset hwf hsame rest m s xx _ hra hx ⟨vo,vr,vw,h⟩ hlo
    obtain ⟨n,s',y,b1,b2,b3,b4,b5,b6⟩ := WW h.row hNM hx hf (ZeT hra hi) hix
    rw [hset] at b3
    obtain ⟨e1,e2,e3,e4⟩ := hsame (n : Int) m
    exact ⟨fun m => u (n : Int) m,s',y,b1,b2,⟨vo,vr,vw,h.step b4 (by omega) hM b3 (hwf _ _ h.wf (wf_i b5)) (by rw [e1]; exact ⟨h.rg1,h.rg2⟩) e2 e3 e4⟩,b4,b6.map⟩
  have same : ∀ {m : Ms},m.rg = m.rg ∧ m.ops = m.ops ∧ m.res = m.res ∧ m.own = m.own := ⟨rfl,rfl,rfl,rfl⟩
  refine ⟨⟨rfl,_,_,_,rfl,num (u := fun n m => { m with req := n }) (f := 69) (ix := 6) (i := 0) (by decide) rfl (by decide) (fun _ _ _ _ _ => rfl) (fun n m h g => { h with req := g }) (fun n m => ⟨rfl,rfl,rfl,rfl⟩)⟩,
    ⟨rfl,_,_,_,rfl,num (u := fun n m => { m with boot := n }) (f := 70) (ix := 7) (i := 1) (by decide) rfl (by decide) (fun _ _ _ _ _ => rfl) (fun n m h g => { h with boot := g }) (fun n m => ⟨rfl,rfl,rfl,rfl⟩)⟩,
    ⟨rfl,_,_,_,rfl,num (u := fun n m => { m with txn := n }) (f := 71) (ix := 8) (i := 2) (by decide) rfl (by decide) (fun _ _ _ _ _ => rfl) (fun n m h g => { h with txn := g }) (fun n m => ⟨rfl,rfl,rfl,rfl⟩)⟩,
    ⟨rfl,_,_,_,rfl,num (u := fun n m => { m with low := n }) (f := 72) (ix := 9) (i := 3) (by decide) rfl (by decide) (fun _ _ _ _ _ => rfl) (fun n m h g => { h with low := g }) (fun n m => ⟨rfl,rfl,rfl,rfl⟩)⟩,
    ⟨rfl,_,_,_,rfl,num (u := fun n m => { m with ver := n }) (f := 73) (ix := 10) (i := 4) (by decide) rfl (by decide) (fun _ _ _ _ _ => rfl) (fun n m h g => { h with ver := g }) (fun n m => ⟨rfl,rfl,rfl,rfl⟩)⟩,
    ⟨rfl,_,_,_,rfl,num (u := fun n m => { m with epoch := n }) (f := 74) (ix := 11) (i := 5) (by decide) rfl (by decide) (fun _ _ _ _ _ => rfl) (fun n m h g => { h with epoch := g }) (fun n m => ⟨rfl,rfl,rfl,rfl⟩)⟩,
    ⟨rfl,_,_,_,rfl,num (u := fun n m => { m with move := n }) (f := 75) (ix := 12) (i := 6) (by decide) rfl (by decide) (fun _ _ _ _ _ => rfl) (fun n m h g => { h with move := g }) (fun n m => ⟨rfl,rfl,rfl,rfl⟩)⟩,
    ⟨rfl,_,_,_,rfl,num (u := fun n m => { m with attempt := n }) (f := 76) (ix := 13) (i := 7) (by decide) rfl (by decide) (fun _ _ _ _ _ => rfl) (fun n m h g => { h with attempt := g }) (fun n m => ⟨rfl,rfl,rfl,rfl⟩)⟩,
    ⟨rfl,_,_,_,rfl,num (u := fun n m => { m with num := n }) (f := 77) (ix := 14) (i := 8) (by decide) rfl (by decide) (fun _ _ _ _ _ => rfl) (fun n m h g => { h with num := g }) (fun n m => ⟨rfl,rfl,rfl,rfl⟩)⟩,
    ⟨rfl,_,_,_,rfl,sml (u := fun n m => { m with code := n }) (f := 79) (ix := 4) (i := 9) (by decide) rfl (by decide) (fun _ _ _ _ _ => rfl) (fun n m h g => { h with code := g }) (fun n m => ⟨rfl,rfl,rfl,rfl⟩)⟩,
    ⟨rfl,_,_,_,rfl,sml (u := fun n m => { m with peer := n }) (f := 80) (ix := 5) (i := 10) (by decide) rfl (by decide) (fun _ _ _ _ _ => rfl) (fun n m h g => { h with peer := g }) (fun n m => ⟨rfl,rfl,rfl,rfl⟩)⟩,
    ⟨rfl,_,_,_,rfl,?_⟩,⟨rfl,_,_,_,rfl,?_⟩,⟨rfl,_,_,_,rfl,?_⟩,⟨rfl,_,_,_,rfl,?_⟩,⟨rfl,_,_,_,rfl,?_⟩,trivial⟩
  · intro rest m s xx _ hra hx ⟨vo,vr,vw,h⟩ hlo
    obtain ⟨b,s',y,b1,b2,b3,b4,b6⟩ := Zc h.row hNM hx (by simp [msC])
    exact ⟨fun m => { m with flag := b },s',y,b1,b2,⟨vo,vr,vw,h.step (m' := { m with flag := b }) b4 (by omega) hM b3 { h.wf with } ⟨h.rg1,h.rg2⟩ rfl rfl rfl⟩,b4,b6.map⟩
  · intro rest m s xx _ hra hx ⟨vo,vr,vw,h⟩ hlo
    obtain ⟨a,b,s',y,b1,b2,b3,b4,b5,b6⟩ := WX h.row hNM hx (by
      intro j hj
      simp only [List.mem_cons,List.not_mem_nil,or_false] at hj
      rcases hj with rfl | rfl
      · exact ⟨m.rg.1,rfl,h.rg1⟩
      · exact ⟨m.rg.2,rfl,h.rg2⟩)
    exact ⟨fun m => { m with rg := (a,b) },s',y,b1,b2,⟨vo,vr,vw,h.step (m' := { m with rg := (a,b) }) b4 (by omega) hM b3 { h.wf with } b5 rfl rfl rfl⟩,b4,b6.map⟩
  · intro rest m s xx hc hra hx ⟨vo,vr,vw,h⟩ hlo
    obtain rfl := h.zo (List.mem_cons_self ..)
    obtain ⟨acc,s',y,l',b1,b2,b3,b4,b5,b6⟩ := Hm (fa := 92) (ix := 18) (C := A + 1 + 11) (W := A + 1 + 13) (by decide) hNM (by omega) ⟨by omega,by omega⟩ ⟨by omega,by omega⟩ hx h.row rfl (hra 11 _ rfl) (hra 13 _ rfl)
    exact ⟨fun m => { m with ops := l' },s',y,b1,b2,⟨acc,vr,vw,b3,{ h.wf with },h.rg1,h.rg2,b4.mono hlo (Nat.le_refl _),C7 h.r b5 (by omega) hM,C7 h.w b5 (by omega) hM,fun e => absurd e hc,fun e => h.zr (List.mem_cons_of_mem _ e),fun e => h.zw (List.mem_cons_of_mem _ e)⟩,b5,b6.map⟩
  · intro rest m s xx hc hra hx ⟨vo,vr,vw,h⟩ hlo
    obtain rfl := h.zr (List.mem_cons_self ..)
    obtain ⟨acc,s',y,l',b1,b2,b3,b4,b5,b6⟩ := Fv (fa := 96) (ix := 19) (C := A + 1 + 14) (W := A + 1 + 16) (by decide) hNM (by omega) ⟨by omega,by omega⟩ ⟨by omega,by omega⟩ hx h.row rfl (hra 14 _ rfl) (hra 16 _ rfl)
    exact ⟨fun m => { m with res := l' },s',y,b1,b2,⟨vo,acc,vw,b3,{ h.wf with },h.rg1,h.rg2,C7 h.o b5 (by omega) hM,b4.mono hlo (Nat.le_refl _),C7 h.w b5 (by omega) hM,fun e => h.zo (List.mem_cons_of_mem _ e),fun e => absurd e hc,fun e => h.zw (List.mem_cons_of_mem _ e)⟩,b5,b6.map⟩
  · intro rest m s xx hc hra hx ⟨vo,vr,vw,h⟩ hlo
    obtain rfl := h.zw (List.mem_cons_self ..)
    obtain ⟨acc,s',y,l',b1,b2,b3,b4,b5,b6⟩ := F4 (fa := 100) (ix := 20) (C := A + 1 + 17) (W := A + 1 + 19) (by decide) hNM (by omega) ⟨by omega,by omega⟩ ⟨by omega,by omega⟩ hx h.row rfl (hra 17 _ rfl) (hra 19 _ rfl)
    exact ⟨fun m => { m with own := l' },s',y,b1,b2,⟨vo,vr,acc,b3,{ h.wf with },h.rg1,h.rg2,C7 h.o b5 (by omega) hM,C7 h.r b5 (by omega) hM,b4.mono hlo (Nat.le_refl _),fun e => h.zo (List.mem_cons_of_mem _ e),fun e => h.zr (List.mem_cons_of_mem _ e),fun e => absurd e hc⟩,b5,b6.map⟩
end Go.Proofs.YtmbhnbladmpnoaaGreat.Ab

/- Decode: the loop over the letters; what it ends with. -/
namespace Go.Proofs.YtmbhnbladmpnoaaGreat.Ab
open Go
set_option maxRecDepth 10000
def m0 : Ms := ⟨0,0,0,0,0,0,0,0,0,0,0,0,0,0,0,false,([],[]),[],[],[]⟩
def rOf (c : Int) : Par (Ms → Ms) := ((rTab.find? fun p => p.1 == c).map (·.2)).getD (.pure id)
def JS : List Int → Ms → Par Ms
  | [],m => .pure m
  | c :: rest,m => (rOf c).bind fun g => JS rest (g m)
def pMsg : Par Ms := Hk.bind fun k => match CC k with
  | none => .fail 11
  | some p => Hk.bind fun a => Hk.bind fun b => JS (lets p.1) { m0 with kind := (k : Int),src := (a : Int),dst := (b : Int) }
def decB (b : BL) : Except Int Ms := match pMsg b with
  | .error e => .error e
  | .ok (m,[]) => if eMs m = 0 then .ok m else .error (eMs m)
  | .ok (_,_ :: _) => .error 11
def decW (b : BL) : Except Int Ms := if (B2 b).2 ≠ 0 then .error (B2 b).2 else decB (B2 b).1
theorem Za4 {k : Int} {p : BL × Nat × Nat × Nat} (hp : (k,p) ∈ AF) : ∀ c ∈ lets p.1,∃ q,rTab.find? (fun p => p.1 == c) = some q := by
  have key : ∀ q ∈ AF,∀ c ∈ lets q.2.1,c ∈ [113,98,116,108,118,101,109,97,110,99,112,102,114,111,115,119] := by decide
  intro c hc
  have := key _ hp c hc
  simp only [List.mem_cons,List.not_mem_nil,or_false] at this
  rcases this with rfl | rfl | rfl | rfl | rfl | rfl | rfl | rfl | rfl | rfl | rfl | rfl | rfl | rfl | rfl | rfl <;> exact ⟨_,rfl⟩
theorem WY {k : Int} {p : BL × Nat × Nat × Nat} (hp : (k,p) ∈ AF) : (lets p.1).Nodup := by
  have key : ∀ q ∈ AF,(lets q.2.1).Nodup := by decide
  exact key _ hp
theorem MsR.same {rest : List Int} {m : Ms} {lo M : Nat} {s t : St} {vo vr vw : Value} (h : MsR rest m lo M s vo vr vw) (hl : s.heap.length ≤ t.heap.length) (hM : t.heap[M]? = s.heap[M]?) (k : ∀ b,lo ≤ b → b < s.heap.length → t.heap[b]? = s.heap[b]?) : MsR rest m lo M t vo vr vw :=
  ⟨by rw [hM]; exact h.row,h.wf,h.rg1,h.rg2,(h.o.keep k).mono (Nat.le_refl _) hl,(h.r.keep k).mono (Nat.le_refl _) hl,(h.w.keep k).mono (Nat.le_refl _) hl,h.zo,h.zr,h.zw⟩
theorem MsR.msV {rest : List Int} {m : Ms} {lo M : Nat} {s : St} {vo vr vw : Value} (h : MsR rest m lo M s vo vr vw) : MsV m s vo vr vw := ⟨h.wf,h.o.listN,h.r.listN,h.w.listN⟩
theorem Za5 {N M A I lo : Nat} {k : Int} {p : BL × Nat × Nat × Nat} (hp : (k,p) ∈ AF) (hNM : N < M) (hMA : M < A) (hAI : A + 21 ≤ I) (hI : I < lo) {T0 T5 : Value} : ∀ (rest : List Int) (i : Nat) (m : Ms) (s : St) (x : BL × Int),(lets p.1).drop i = rest → i ≤ p.1.length → rest.Nodup → Rd N s x → MsM rest m lo M s → lo ≤ s.heap.length → RAt A s → s.heap[A]? = some (.map (AI A) 16) → s.heap[I]? = some (itB p.1 i) →
    ∃ (m' : Ms) (s' : St) (y : BL × Int),AV (Ay.b0 (run Tryz.prog (libL libT) Ad)) [T0,rp N,mp M,.map (some A),.pointer (some ⟨I,0,none⟩),T5] s = some (.exit 0,[T0,rp N,mp M,T5],s') ∧ Rd N s' y ∧ MsM [] m' lo M s' ∧ s.heap.length ≤ s'.heap.length ∧ (∀ b,b < lo → b ≠ N → b ≠ M → b ≠ I → s'.heap[b]? = s.heap[b]?) ∧ Does (JS rest m) x m' y := by
  have hll : (lets p.1).length = p.1.length := by simp [lets]
  intro rest
  induction rest with
  | nil =>
    intro i m s x hi hle hnd hx hm hlo hra hA hI2
    have hi2 : i = p.1.length := by
      have := List.drop_eq_nil_iff.1 hi
      omega
    subst hi2
    refine ⟨m,s,x,?_,hx,hm,Nat.le_refl _,fun _ _ _ _ _ => rfl,.pure⟩
    have e0 : Ak 0 (.tuple #[.bool false]) = some (.bool false) := rfl
    rw [As]
    simp only [Ay.b0,BT,CU,Dh,DD,J9,LP,O4 hI2,e0,EVs]
  | cons c rest ih =>
    intro i m s x hi hle hnd hx hm hlo hra hA hI2
    have hlt : i < (lets p.1).length := by
      rcases Nat.lt_or_ge i (lets p.1).length with h | h
      · exact h
      · rw [List.drop_eq_nil_of_le h] at hi
        cases hi
    have hd := List.drop_eq_getElem_cons hlt
    rw [hi] at hd
    have hc : (lets p.1).getD i 0 = c := by
      rw [List.getD_eq_getElem?_getD,List.getElem?_eq_getElem hlt]
      exact (List.cons.inj hd).1.symm
    have hd2 : (lets p.1).drop (i + 1) = rest := (List.cons.inj hd).2.symm
    have hn := Tu hp hI2 (by omega)
    rw [hc] at hn
    have e0 : Ak 0 (.tuple #[.bool true,goInt i,.int .i32 c]) = some (.bool true) := rfl
    have e2 : Ak 2 (.tuple #[.bool true,goInt i,.int .i32 c]) = some (.int .i32 c) := rfl
    have hx1 : Rd N (s.putB I (itB p.1 (i + 1))) x := hx.put (by omega)
    have hpn : ∀ b,b ≠ I → (s.putB I (itB p.1 (i + 1))).heap[b]? = s.heap[b]? := fun b hb => Ce hb
    have hlen1 : (s.putB I (itB p.1 (i + 1))).heap.length = s.heap.length := BI
    have hI3 : (s.putB I (itB p.1 (i + 1))).heap[I]? = some (itB p.1 (i + 1)) := CO (by omega)
    generalize s.putB I (itB p.1 (i + 1)) = s1 at *
    have hm1 : MsM (c :: rest) m lo M s1 := by
      obtain ⟨vo,vr,vw,h⟩ := hm
      exact ⟨vo,vr,vw,h.same (by omega) (hpn M (by omega)) fun b h1 h2 => hpn b (by omega)⟩
    have hA1 : s1.heap[A]? = some (.map (AI A) 16) := by rw [hpn A (by omega)]; exact hA
    have hra1 : RAt A s1 := fun i f hi => by
      have : i < 20 := by
        have := (List.getElem?_eq_some_iff.1 hi).1
        simpa [Al] using this
      rw [hpn _ (by omega)]
      exact hra i f hi
    obtain ⟨q,hq⟩ := Za4 hp c (by rw [← hc,List.getD_eq_getElem?_getD,List.getElem?_eq_getElem hlt]; exact List.getElem_mem _)
    have hq1 : q.1 = c := by simpa using List.find?_some hq
    have hw : rOf c = q.2 := by unfold rOf; rw [hq]; rfl
    obtain ⟨e,g1,_,wx,wy,wz,g2,g3⟩ := VG (fun e q h => h.1) hA1 (Za3 (lo := lo) hNM (by omega) hMA) hq (z := .agg #[.nilFunc,.nilFunc,.nilFunc])
    rw [g2] at g1
    have hfld : Hp false 1 1 (.agg #[wx,wy,wz]) = some wy := rfl
    have hcr : c ∉ rest := (List.nodup_cons.1 hnd).1
    obtain ⟨g,s2,y,f1,f2,f3,f4,f5⟩ := g3 rest m s1 x (by rw [hq1]; exact hcr) hra1 hx1 (by rw [hq1]; exact hm1) (by omega)
    have k2 : ∀ b,b < lo → b ≠ N → b ≠ M → s2.heap[b]? = s1.heap[b]? := fun b h1 h2 h3 => f4.2 b (by omega) h2 h3
    obtain ⟨m',s',y',k1,k3,k4,k5,k6,k7⟩ := ih (i + 1) (g m) s2 y hd2 (by omega) (List.nodup_cons.1 hnd).2 f2 f3 (by have := f4.1; omega) (fun i f hi => by
      have : i < 20 := by
        have := (List.getElem?_eq_some_iff.1 hi).1
        simpa [Al] using this
      rw [k2 _ (by omega) (by omega) (by omega)]
      exact hra1 i f hi) (by rw [k2 A (by omega) (by omega) (by omega)]; exact hA1) (by rw [k2 I hI (by omega) (by omega)]; exact hI3)
    refine ⟨m',s',y',?_,k3,k4,by have := f4.1; omega,fun b h1 h2 h3 h4 => by rw [k6 b h1 h2 h3 h4,k2 b h1 h2 h3,hpn b h4],?_⟩
    · rw [As]
      simp only [Ay.b0,BT,CU,Dh,DD,J9,LP,hn,e0,e2,g1,hfld,f1,EVs]
      exact k1
    · show Does ((rOf c).bind fun g => JS rest (g m)) x m' y'
      rw [hw]
      exact f5.bind k7
abbrev zMs : Value := .agg #[(.int .i64 0),(.int .i64 0),(.int .i64 0),(.int .i64 0),(.int .i64 0),(.int .i64 0),(.int .u64 0),(.int .u64 0),(.int .u64 0),(.int .u64 0),(.int .u64 0),(.int .u64 0),(.int .u64 0),(.int .u64 0),(.int .u64 0),(.bool false),(.string ⟨#[]⟩),(.string ⟨#[]⟩),(.slice none 0 0),(.slice none 0 0),(.slice none 0 0)]
theorem zst {cs : List Value} (h : cs.length = 21) (hl : cs.all AH = true) : AN 21 lptr (.agg cs.toArray) zMs = some (.agg cs.toArray) := K3 (cs := msC m0 (.slice none 0 0) (.slice none 0 0) (.slice none 0 0)) rfl h hl
section
variable {N M lo : Nat} {s : St} {y : BL × Int} {m : Ms} (hNM : N < M) (hM : M < lo)
include hNM hM
theorem ZbF (hx : Rd N s y) (hm : MsM [] m lo M s) : (y.2 ≠ 0 → Ay.j0 (run Tryz.prog (libL libT) Ad) [lptr,rp N,mp M,zMs] s = some (.tuple #[zMs,.int .i64 y.2],s)) ∧ (y.2 = 0 → ∃ vo vr vw,MsR [] m lo M s vo vr vw ∧ Ay.j0 (run Tryz.prog (libL libT) Ad) [lptr,rp N,mp M,zMs] s = some (.tuple #[mV m vo vr vw,.int .i64 0],s)) := by
  obtain ⟨v,h⟩ := hx
  constructor
  · intro hy
    have hz : (y.2 != 0) = true := by simp [hy]
    have e1 : AN 21 lptr zMs zMs = some zMs := rfl
    have e2 : Ao true 21 lptr zMs = some zMs := rfl
    unfold Ay.j0
    simp only [BT,CU,Dh,DD,Cq,Ej,h.ld1,hz,Za,e1,e2,EVs]
    exact XO
  · intro hy
    obtain ⟨vo,vr,vw,hm⟩ := hm
    refine ⟨vo,vr,vw,hm,?_⟩
    have hz : (y.2 != 0) = false := by simp [hy]
    have ld := Ip hm.row (by simp) (m := 21) rfl
    have e1 : AN 21 lptr (mV m vo vr vw) zMs = some (mV m vo vr vw) := zst rfl hm.msV.leaf
    have e2 : Ao true 21 lptr (mV m vo vr vw) = some (mV m vo vr vw) := Jq rfl
    unfold Ay.j0
    simp only [BT,CU,Dh,DD,Cq,Ej,h.ld1,hz,ld,e1,e2,EVs]
    exact XO
theorem Zd (hx : Rd N s y) (hm : MsM [] m lo M s) (hlo : lo ≤ s.heap.length) : ∃ u t,Ay.j1 (run Tryz.prog (libL libT) Ad) [lptr,rp N,mp M,zMs] s = some (u,t) ∧ Keep (some N) s t ∧ (y.2 ≠ 0 → u = .tuple #[zMs,.int .i64 y.2]) ∧ (y.2 = 0 → eMs m ≠ 0 → u = .tuple #[zMs,.int .i64 (eMs m)]) ∧ (y.2 = 0 → eMs m = 0 → ∃ vo vr vw,MsR [] m lo M t vo vr vw ∧ u = .tuple #[mV m vo vr vw,.int .i64 0]) := by
  by_cases hy : y.2 = 0
  · obtain ⟨v,h⟩ := id hx
    obtain ⟨vo,vr,vw,hr⟩ := id hm
    have hz : (y.2 == 0) = true := by simp [hy]
    have ld := Ip hr.row (by simp) (m := 21) rfl
    have hc := UN hr.msV
    have hx2 : Rd N (setR N v (eMs m) s) (y.1,eMs m) := h.seterr _
    have hl : (setR N v (eMs m) s).heap.length = s.heap.length := BI
    have hm2 : MsM [] m lo M (setR N v (eMs m) s) := ⟨vo,vr,vw,hr.same (by omega) (Ce (by omega)) fun b h1 h2 => Ce (by omega)⟩
    obtain ⟨g1,g2⟩ := ZbF hNM hM hx2 hm2
    by_cases he : eMs m = 0
    · obtain ⟨vo2,vr2,vw2,k1,k2⟩ := g2 he
      refine ⟨_,setR N v (eMs m) s,?_,CB,fun e => absurd hy e,fun _ e => absurd he e,fun _ _ => ⟨vo2,vr2,vw2,k1,rfl⟩⟩
      unfold Ay.j1
      simp only [BT,CU,Dh,DD,Cq,Ej,h.ld1,hz,ld,DN,hc,h.st1,B6,k2,EVs]
    · refine ⟨.tuple #[zMs,.int .i64 (eMs m)],setR N v (eMs m) s,?_,CB,fun e => absurd hy e,fun _ _ => rfl,fun _ e => absurd e he⟩
      unfold Ay.j1
      simp only [BT,CU,Dh,DD,Cq,Ej,h.ld1,hz,ld,DN,hc,h.st1,B6,g1 he,EVs]
  · obtain ⟨v,h⟩ := id hx
    have hz : (y.2 == 0) = false := by simp [hy]
    obtain ⟨g1,_⟩ := ZbF hNM hM hx hm
    refine ⟨_,s,?_,.refl _ _,fun _ => rfl,fun e => absurd e hy,fun e => absurd e hy⟩
    unfold Ay.j1
    simp only [BT,CU,Dh,DD,Cq,Ej,h.ld1,hz,B6,g1 hy,EVs]
end
end Go.Proofs.YtmbhnbladmpnoaaGreat.Ab

/- Texts: what is read behind them,and back. -/
namespace Go.Proofs.YtmbhnbladmpnoaaGreat.Ab
open Go
end Go.Proofs.YtmbhnbladmpnoaaGreat.Ab

/- What was written is read as what it was. -/
namespace Go.Proofs.YtmbhnbladmpnoaaGreat.Ab
open Go
set_option maxRecDepth 10000
def Inv {α : Type} (p : Par α) (e : BL) (a : α) : Prop := ∀ r,p (e ++ r) = .ok (a,r)
theorem Inv.pure {α : Type} {a : α} : Inv (.pure a) [] a := fun r => rfl
theorem Inv.bind {α β : Type} {p : Par α} {q : α → Par β} {e e' : BL} {a : α} {b : β} (h : Inv p e a) (g : Inv (q a) e' b) : Inv (p.bind q) (e ++ e') b := fun r => by
  unfold Par.bind
  rw [List.append_assoc,h]
  exact g r
theorem Inv.map {α β : Type} {p : Par α} {f : α → β} {e : BL} {a : α} (h : Inv p e a) : Inv (p.map f) e (f a) := by
  have := h.bind (q := fun a => .pure (f a)) .pure
  rwa [List.append_nil] at this
theorem Inv.cons {α : Type} {p : Par α} {k : Nat} {e e' : BL} {a : α} {m : List α} (h : Inv p e a) (g : Inv (p.rep k) e' m) : Inv (p.rep (k + 1)) (e ++ e') (a :: m) := by
  refine h.bind ?_
  have := g.bind (q := fun l => .pure (a :: l)) .pure
  rwa [List.append_nil] at this
theorem EN (c : UInt8) : Inv Hk [c] c.toNat := fun r => rfl
theorem Tz {n : Int} (h : isB n) : ((bI n).toNat : Int) = n := by
  rw [Zby]
  exact Int.emod_eq_of_lt h.1 h.2
theorem Ze {n : Nat} (h : n < 18446744073709551616) : Inv Hl (enc n) n := fun r => by
  unfold Hl
  rw [JJ h]
  simp
theorem inv_int {n : Nat} (h : n ≤ 255) : Inv Zc5 (enc n) n := by
  have := (Ze (n := n) (by omega)).bind (q := fun n => if 255 < n then .fail 11 else .pure n) (e' := []) (b := n) (by rw [if_neg (by omega)]; exact .pure)
  rwa [List.append_nil] at this
theorem VJ (b : Bool) : Inv Tv [if b = true then 1 else 0] b := by
  have := (EN (if b = true then 1 else 0)).bind (q := fun n => if 1 < n then .fail 11 else .pure (n == 1)) (e' := []) (b := b) (by cases b <;> exact .pure)
  rwa [List.append_nil] at this
theorem UP {k : BL} (h : k.length ≤ 255) (r : BL) : Az (tB k ++ r) 255 = (k,(tB k).length,0) := by
  have h1 := JJ (n := k.length) (by omega) (k ++ r)
  unfold Az tB
  rw [List.append_assoc,h1]
  simp only
  rw [if_neg (by simp),if_neg (by omega),if_neg (by simp only [List.length_append]; omega)]
  simp
theorem ZeU {k : BL} (h : k.length ≤ 255) : Inv pTx (tB k) k := fun r => by
  unfold pTx
  rw [UP h]
  simp
theorem Lx : ∀ {ks : List BL},(∀ k ∈ ks,k.length ≤ 255) → Inv (pTx.rep ks.length) (tBs ks) ks
  | [],_ => .pure
  | k :: ks,h => (ZeU (h k (List.mem_cons_self ..))).cons (Lx fun k hk => h k (List.mem_cons_of_mem _ hk))
theorem VK {α : Type} {p : Par α} {f : α → BL} : ∀ {l : List α},(∀ a ∈ l,Inv p (f a) a) → Inv (p.rep l.length) (l.flatMap f) l
  | [],_ => .pure
  | a :: l,h => (h a (List.mem_cons_self ..)).cons (VK fun b hb => h b (List.mem_cons_of_mem _ hb))
theorem Nf {α : Type} {p : Par α} {f : α → BL} {l : List α} (hl : l.length ≤ 255) (h : ∀ a ∈ l,Inv p (f a) a) : Inv (P1 p) (Fs f l) l := (inv_int hl).bind (VK h)
theorem ZeV {p : Rg} (h : gPr p) : Inv pPr (ePr p) p := by
  have := (Lx (ks := [p.1,p.2]) fun k hk => by
    simp only [List.mem_cons,List.not_mem_nil,or_false] at hk
    rcases hk with rfl | rfl
    · have := h.1; omega
    · have := h.2; omega).bind (q := fun l => .pure (l.getD 0 [],l.getD 1 [])) (e' := []) .pure
  rwa [List.append_nil] at this
theorem ZeW {o : OpT} (h : gOp o) : Inv pOp (eOpW o) o := by
  obtain ⟨h1,h2,h3,h4,h5,h6⟩ := h
  have key : Inv pOp ([bI o.kind] ++ (tBs [o.key,o.val,o.lo,o.hi] ++ ([bI o.most] ++ []))) (⟨((bI o.kind).toNat : Int),o.key,o.val,o.lo,o.hi,((bI o.most).toNat : Int)⟩ : OpT) := by
    refine (EN _).bind ?_
    refine Inv.bind (a := [o.key,o.val,o.lo,o.hi]) (Lx (ks := [o.key,o.val,o.lo,o.hi]) fun k hk => ?_) ?_
    · simp only [List.mem_cons,List.not_mem_nil,or_false] at hk
      rcases hk with rfl | rfl | rfl | rfl <;> omega
    · refine (EN _).bind ?_
      exact .pure
  rw [Tz h1,Tz h6,List.append_nil] at key
  exact key
theorem ZeX {o : Ow} (h : gOw o) : Inv pOw (eOwW o) o := by
  have key : Inv pOw (tBs [o.1] ++ ([bI o.2] ++ [])) ((o.1,((bI o.2).toNat : Int)) : Ow) := by
    refine Inv.bind (a := [o.1]) (Lx (ks := [o.1]) fun k hk => ?_) ?_
    · simp only [List.mem_cons,List.not_mem_nil,or_false] at hk
      rw [hk]
      have := h.1
      omega
    · refine (EN _).bind ?_
      exact .pure
  rw [Tz h.2,List.append_nil] at key
  exact key
theorem ZeY {r : Rs} (h : gRs r) : Inv pRs (eRs r) r := by
  have := (VJ r.1).bind (q := fun f => (pTx.rep 1).bind fun l => (P1 pPr).bind fun ps => .pure ((f,l.getD 0 [],ps) : Rs)) ((Lx (ks := [r.2.1]) fun k hk => by
    simp only [List.mem_cons,List.not_mem_nil,or_false] at hk
    rw [hk]
    have := h.1
    omega).bind (q := fun l => (P1 pPr).bind fun ps => .pure ((r.1,l.getD 0 [],ps) : Rs)) ((Nf (f := ePr) (l := r.2.2) (by have := h.2.1; omega) fun p hp => ZeV (h.2.2 p hp)).bind (q := fun ps => .pure ((r.1,r.2.1,ps) : Rs)) .pure))
  rw [List.append_nil] at this
  exact this
def setF (m : Ms) (m1 : Ms) (c : Int) : Ms :=
  if c = 113 then { m1 with req := m.req } else if c = 98 then { m1 with boot := m.boot } else if c = 116 then { m1 with txn := m.txn } else if c = 108 then { m1 with low := m.low } else if c = 118 then { m1 with ver := m.ver } else if c = 101 then { m1 with epoch := m.epoch } else if c = 109 then { m1 with move := m.move } else if c = 97 then { m1 with attempt := m.attempt } else if c = 110 then { m1 with num := m.num }
  else if c = 99 then { m1 with code := m.code } else if c = 112 then { m1 with peer := m.peer } else if c = 102 then { m1 with flag := m.flag } else if c = 114 then { m1 with rg := m.rg } else if c = 111 then { m1 with ops := m.ops } else if c = 115 then { m1 with res := m.res } else { m1 with own := m.own }
theorem KL {n : Int} (h : (Lit.int .u64 n).wf = true) : ∃ k : Nat,(k : Int) = n ∧ Inv Hl (eN n) k := by
  obtain ⟨h1,h2⟩ := ZeH h
  exact ⟨n.toNat,Int.toNat_of_nonneg h1,Ze (by omega)⟩
theorem Zf {m : Ms} {p : BL × Nat × Nat × Nat} (h : MsGood m p) (hw : MsWf m) {c : Int} (hc : c ∈ [113,98,116,108,118,101,109,97,110,99,112,102,114,111,115,119]) : ∃ g : Ms → Ms,Inv (rOf c) (wOf m c) g ∧ ∀ m1,g m1 = setF m m1 c := by
  simp only [List.mem_cons,List.not_mem_nil,or_false] at hc
  rcases hc with rfl | rfl | rfl | rfl | rfl | rfl | rfl | rfl | rfl | rfl | rfl | rfl | rfl | rfl | rfl | rfl
  · obtain ⟨k,e,hk⟩ := KL hw.req; exact ⟨_,hk.map,fun m1 => by simp only [e]; rfl⟩
  · obtain ⟨k,e,hk⟩ := KL hw.boot; exact ⟨_,hk.map,fun m1 => by simp only [e]; rfl⟩
  · obtain ⟨k,e,hk⟩ := KL hw.txn; exact ⟨_,hk.map,fun m1 => by simp only [e]; rfl⟩
  · obtain ⟨k,e,hk⟩ := KL hw.low; exact ⟨_,hk.map,fun m1 => by simp only [e]; rfl⟩
  · obtain ⟨k,e,hk⟩ := KL hw.ver; exact ⟨_,hk.map,fun m1 => by simp only [e]; rfl⟩
  · obtain ⟨k,e,hk⟩ := KL hw.epoch; exact ⟨_,hk.map,fun m1 => by simp only [e]; rfl⟩
  · obtain ⟨k,e,hk⟩ := KL hw.move; exact ⟨_,hk.map,fun m1 => by simp only [e]; rfl⟩
  · obtain ⟨k,e,hk⟩ := KL hw.attempt; exact ⟨_,hk.map,fun m1 => by simp only [e]; rfl⟩
  · obtain ⟨k,e,hk⟩ := KL hw.num; exact ⟨_,hk.map,fun m1 => by simp only [e]; rfl⟩
  · exact ⟨_,(EN (bI m.code)).map,fun m1 => by simp only [Tz h.code]; rfl⟩
  · exact ⟨_,(EN (bI m.peer)).map,fun m1 => by simp only [Tz h.peer]; rfl⟩
  · exact ⟨_,(VJ m.flag).map,fun m1 => rfl⟩
  · exact ⟨_,(Lx (ks := [m.rg.1,m.rg.2]) fun k hk => by
      simp only [List.mem_cons,List.not_mem_nil,or_false] at hk
      rcases hk with rfl | rfl
      · have := h.rg.1; omega
      · have := h.rg.2; omega).map,fun m1 => rfl⟩
  · exact ⟨_,(Nf (f := eOpW) (by have := h.ops.1; omega) fun o ho => ZeW (h.ops.2 o ho)).map,fun m1 => rfl⟩
  · exact ⟨_,(Nf (f := eRs) (by have := h.res.1; omega) fun o ho => ZeY (h.res.2 o ho)).map,fun m1 => rfl⟩
  · exact ⟨_,(Nf (f := eOwW) (by have := h.own.1; omega) fun o ho => ZeX (h.own.2 o ho)).map,fun m1 => rfl⟩
theorem Qt {m : Ms} {p : BL × Nat × Nat × Nat} (h : MsGood m p) (hw : MsWf m) : ∀ (cs : List Int) (m1 : Ms),(∀ c ∈ cs,c ∈ [113,98,116,108,118,101,109,97,110,99,112,102,114,111,115,119]) → Inv (JS cs m1) (cs.flatMap (wOf m)) (cs.foldl (setF m) m1)
  | [],m1,_ => .pure
  | c :: cs,m1,hc => by
    obtain ⟨g,h1,h2⟩ := Zf h hw (hc c (List.mem_cons_self ..))
    rw [List.flatMap_cons,List.foldl_cons]
    refine h1.bind (q := fun g => JS cs (g m1)) ?_
    rw [h2]
    exact Qt h hw cs _ fun c h => hc c (List.mem_cons_of_mem _ h)
theorem Zc6 {m : Ms} {p : BL × Nat × Nat × Nat} (h : MsGood m p) : (lets p.1).foldl (setF m) { m0 with kind := m.kind,src := m.src,dst := m.dst } = m := by
  have hm := Em h.form
  have hz := h.zero
  have hc := h.client
  have z1 := hz (113,m.req == 0) (by simp [zTab])
  have z2 := hz (98,m.boot == 0) (by simp [zTab])
  have z3 := hz (116,m.txn == 0) (by simp [zTab])
  have z4 := hz (108,m.low == 0) (by simp [zTab])
  have z5 := hz (118,m.ver == 0) (by simp [zTab])
  have z6 := hz (101,m.epoch == 0) (by simp [zTab])
  have z7 := hz (109,m.move == 0) (by simp [zTab])
  have z8 := hz (97,m.attempt == 0) (by simp [zTab])
  have z9 := hz (110,m.num == 0) (by simp [zTab])
  have z10 := hz (99,m.code == 0) (by simp [zTab])
  have z11 := hz (112,m.peer == 0) (by simp [zTab])
  have z12 := hz (102,!m.flag) (by simp [zTab])
  have z13 := hz (114,m.rg.1 == [] && m.rg.2 == []) (by simp [zTab])
  have z14 := hz (111,(m.ops.length : Int) == 0) (by simp [zTab])
  have z15 := hz (115,(m.res.length : Int) == 0) (by simp [zTab])
  have z16 := hz (119,(m.own.length : Int) == 0) (by simp [zTab])
  clear hz h
  obtain ⟨kind,src,dst,client,code,peer,req,boot,txn,low,ver,epoch,move,attempt,num,flag,⟨rlo,rhi⟩,ops,res,own⟩ := m
  simp only at *
  subst hc
  simp only [AF,List.mem_cons,List.not_mem_nil,or_false,Prod.mk.injEq] at hm
  rcases hm with ⟨_,rfl⟩ | ⟨_,rfl⟩ | ⟨_,rfl⟩ | ⟨_,rfl⟩ | ⟨_,rfl⟩ | ⟨_,rfl⟩ | ⟨_,rfl⟩ | ⟨_,rfl⟩ | ⟨_,rfl⟩ | ⟨_,rfl⟩ | ⟨_,rfl⟩ | ⟨_,rfl⟩ | ⟨_,rfl⟩ | ⟨_,rfl⟩
  all_goals
    simp [lets] at z1 z2 z3 z4 z5 z6 z7 z8 z9 z10 z11 z12 z13 z14 z15 z16
    simp_all [lets,setF,m0]
theorem Zg {m : Ms} (hw : MsWf m) (he : eMs m = 0) : pMsg (CS m) = .ok (m,[]) := by
  obtain ⟨p,h⟩ := Y6 he
  have hm := Em h.form
  have hl : ∀ c ∈ lets p.1,c ∈ [113,98,116,108,118,101,109,97,110,99,112,102,114,111,115,119] := by
    have key : ∀ q ∈ AF,∀ c ∈ lets q.2.1,c ∈ [113,98,116,108,118,101,109,97,110,99,112,102,114,111,115,119] := by decide
    exact key _ hm
  have hbd : CS m = [bI m.kind] ++ ([bI m.src] ++ ([bI m.dst] ++ (lets p.1).flatMap (wOf m))) := by unfold CS; rw [h.form]; rfl
  have hI : Inv pMsg (CS m) m := by
    rw [hbd]
    refine (EN _).bind ?_
    rw [Tz h.kind,h.form]
    refine (EN _).bind ((EN _).bind ?_)
    rw [Tz h.src,Tz h.dst]
    have := Qt h hw (lets p.1) { m0 with kind := m.kind,src := m.src,dst := m.dst } hl
    rwa [Zc6 h] at this
  have := hI []
  rwa [List.append_nil] at this
theorem Zh {m : Ms} (hw : MsWf m) (he : eMs m = 0) : decB (CS m) = .ok m := by
  unfold decB
  rw [Zg hw he]
  simp only
  rw [if_pos he]
end Go.Proofs.YtmbhnbladmpnoaaGreat.Ab

/- Decode: its run. -/
namespace Go.Proofs.YtmbhnbladmpnoaaGreat.Ab
open Go
set_option maxRecDepth 10000
theorem Zi {R : Aa} {H : List Blk} (i f : Nat) (hi : Al[i]? = some (rowF f)) : (H ++ (Blk.map (AI H.length) 16 :: Al))[H.length + 1 + i]? = some (rowF f) := by
  rw [List.getElem?_append_right (by omega),show H.length + 1 + i - H.length = i + 1 by omega,List.getElem?_cons_succ,hi]
def Zc7 (fs : BL) (rest : List Int) (pf : Ms → Par Ms) : Prop := ∀ (N M A I lo : Nat) (m : Ms) (s : St) (x : BL × Int),N < M → M < A → A + 21 ≤ I → I < lo → Rd N s x → MsM rest m lo M s → lo ≤ s.heap.length → RAt A s → s.heap[A]? = some (.map (AI A) 16) → s.heap[I]? = some (itB fs 0) →
    ∃ (m' : Ms) (s' : St) (y : BL × Int),AV (Ay.b0 (run Tryz.prog (libL libT) Ad)) [lptr,rp N,mp M,.map (some A),.pointer (some ⟨I,0,none⟩),zMs] s = some (.exit 0,[lptr,rp N,mp M,zMs],s') ∧ Rd N s' y ∧ MsM [] m' lo M s' ∧ s.heap.length ≤ s'.heap.length ∧ (∀ b,b < lo → b ≠ N → b ≠ M → b ≠ I → s'.heap[b]? = s.heap[b]?) ∧ Does (pf m) x m' y
theorem Zj {k : Int} {p : BL × Nat × Nat × Nat} (hp : (k,p) ∈ AF) : Zc7 p.1 (lets p.1) (JS (lets p.1)) := fun N M A I lo m s x h1 h2 h3 h4 h5 h6 h7 h8 h9 h10 => Za5 hp h1 h2 h3 h4 (lets p.1) 0 m s x rfl (Nat.zero_le _) (WY hp) h5 h6 h7 h8 h9 h10
theorem Zk : Zc7 [] [] .pure := fun N M A I lo m s x h1 h2 h3 h4 h5 h6 h7 h8 h9 h10 => by
  refine ⟨m,s,x,?_,h5,h6,Nat.le_refl _,fun _ _ _ _ _ => rfl,.pure⟩
  have e0 : Ak 0 (.tuple #[.bool false]) = some (.bool false) := rfl
  have hn := O4 (p := []) h10
  rw [As]
  simp only [Ay.b0,BT,CU,Dh,DD,J9,LP,hn,e0,EVs]
theorem ZbG {fs : BL} {rest : List Int} {pf : Ms → Par Ms} {g1 g2 g3 : Value} (hL : Zc7 fs rest pf) {N M : Nat} {s : St} {x : BL × Int} {k : Nat} (hk : k ≤ 255) (hNM : N < M) (hx : Rd N s x) (hM : s.heap[M]? = some (.row 0 (msC { m0 with kind := (k : Int) } (.slice none 0 0) (.slice none 0 0) (.slice none 0 0)) .act)) :
    ∃ (u : Value) (t : St) (m : Ms) (y : BL × Int),Ay.j2 (run Tryz.prog (libL libT) Ad) [lptr,rp N,mp M,lptr,zMs,.agg #[sv fs,g1,g2,g3]] s = some (u,t) ∧ Does (Hk.bind fun a => Hk.bind fun b => pf { m0 with kind := (k : Int),src := (a : Int),dst := (b : Int) }) x m y ∧ BS N M s t ∧
      (y.2 ≠ 0 → u = .tuple #[zMs,.int .i64 y.2]) ∧ (y.2 = 0 → y.1 ≠ [] → u = .tuple #[zMs,.int .i64 11]) ∧ (y.2 = 0 → y.1 = [] → eMs m ≠ 0 → u = .tuple #[zMs,.int .i64 (eMs m)]) ∧ (y.2 = 0 → y.1 = [] → eMs m = 0 → ∃ vo vr vw,MsR [] m s.heap.length M t vo vr vw ∧ u = .tuple #[mV m vo vr vw,.int .i64 0]) := by
  have hMl := (List.getElem?_eq_some_iff.1 hM).1
  obtain ⟨a,u1,c1,s1,y1,f1,f2,f3,f4,f5,f6⟩ := A7 s x hx
  obtain ⟨rfl,ha⟩ := CP f5 f4
  have f1 : (run Tryz.prog (libL libT) Ad) 35 [rp N] s = some (.int .i64 (a : Int),s1) := f1
  obtain ⟨b,u2,c2,s2,y2,b1,b2,b3,b4,b5,b6⟩ := A7 s1 y1 f2
  obtain ⟨rfl,hb⟩ := CP b5 b4
  have b1 : (run Tryz.prog (libL libT) Ad) 35 [rp N] s1 = some (.int .i64 (b : Int),s2) := b1
  have k2 : Keep (some N) s s2 := f3.trans b3
  have n2 := k2.1
  have hM2 : s2.heap[M]? = some (.row 0 (msC { m0 with kind := (k : Int) } (.slice none 0 0) (.slice none 0 0) (.slice none 0 0)) .act) := by rw [k2.2 M hMl fun e => by have := Option.some.inj e; omega]; exact hM
  have st1 : A0 1 (.pointer (some ⟨M,1,none⟩)) (.int .i64 (a : Int)) s2 = some (s2.putB M (.row 0 (msC { m0 with kind := (k : Int),src := (a : Int) } (.slice none 0 0) (.slice none 0 0) (.slice none 0 0)) .act)) := De hM2 (by simp [msC]) rfl rfl
  have kp3 : BS N M s (s2.putB M (.row 0 (msC { m0 with kind := (k : Int),src := (a : Int) } (.slice none 0 0) (.slice none 0 0) (.slice none 0 0)) .act)) := (BS.of1 k2).trans Ep
  have hM3 : (s2.putB M (.row 0 (msC { m0 with kind := (k : Int),src := (a : Int) } (.slice none 0 0) (.slice none 0 0) (.slice none 0 0)) .act)).heap[M]? = some (.row 0 (msC { m0 with kind := (k : Int),src := (a : Int) } (.slice none 0 0) (.slice none 0 0) (.slice none 0 0)) .act) := CO (by omega)
  have hx3 := b2.put (B := .row 0 (msC { m0 with kind := (k : Int),src := (a : Int) } (.slice none 0 0) (.slice none 0 0) (.slice none 0 0)) .act) hNM
  generalize s2.putB M (.row 0 (msC { m0 with kind := (k : Int),src := (a : Int) } (.slice none 0 0) (.slice none 0 0) (.slice none 0 0)) .act) = s3 at *
  have st2 : A0 1 (.pointer (some ⟨M,2,none⟩)) (.int .i64 (b : Int)) s3 = some (s3.putB M (.row 0 (msC { m0 with kind := (k : Int),src := (a : Int),dst := (b : Int) } (.slice none 0 0) (.slice none 0 0) (.slice none 0 0)) .act)) := De hM3 (by simp [msC]) rfl rfl
  have n3 := kp3.1
  have kp4 : BS N M s (s3.putB M (.row 0 (msC { m0 with kind := (k : Int),src := (a : Int),dst := (b : Int) } (.slice none 0 0) (.slice none 0 0) (.slice none 0 0)) .act)) := kp3.trans Ep
  have hM4 : (s3.putB M (.row 0 (msC { m0 with kind := (k : Int),src := (a : Int),dst := (b : Int) } (.slice none 0 0) (.slice none 0 0) (.slice none 0 0)) .act)).heap[M]? = some (.row 0 (msC { m0 with kind := (k : Int),src := (a : Int),dst := (b : Int) } (.slice none 0 0) (.slice none 0 0) (.slice none 0 0)) .act) := CO (by omega)
  have hx4 := hx3.put (B := .row 0 (msC { m0 with kind := (k : Int),src := (a : Int),dst := (b : Int) } (.slice none 0 0) (.slice none 0 0) (.slice none 0 0)) .act) hNM
  generalize s3.putB M (.row 0 (msC { m0 with kind := (k : Int),src := (a : Int),dst := (b : Int) } (.slice none 0 0) (.slice none 0 0) (.slice none 0 0)) .act) = s4 at *
  obtain ⟨H⟩ := s4
  have hall := IK.wire_all (H8 IK H)
  have n4 := kp4.1
  have xa : Ext H.length (⟨H⟩ : St) ⟨H ++ (.map (AI H.length) 16 :: Al)⟩ := K4 H _
  have hA : (⟨H ++ (Blk.map (AI H.length) 16 :: Al)⟩ : St).heap[H.length]? = some (.map (AI H.length) 16) := by
    simp only
    rw [List.getElem?_append_right (Nat.le_refl _),Nat.sub_self]
    rfl
  have hra : RAt H.length (⟨H ++ (Blk.map (AI H.length) 16 :: Al)⟩ : St) := fun i f hi => Zi (R := (run Tryz.prog (libL libT) Ad)) i f hi
  have l5 : (⟨H ++ (Blk.map (AI H.length) 16 :: Al)⟩ : St).heap.length = H.length + 21 := by simp [Al]
  have nr : I8 (sv fs) (⟨H ++ (Blk.map (AI H.length) 16 :: Al)⟩ : St) = some (.pointer (some ⟨(⟨H ++ (Blk.map (AI H.length) 16 :: Al)⟩ : St).heap.length,0,none⟩),(⟨H ++ (Blk.map (AI H.length) 16 :: Al)⟩ : St).push (itB fs 0)) := rfl
  obtain ⟨s5,e5⟩ : ∃ s5,(⟨H ++ (Blk.map (AI H.length) 16 :: Al)⟩ : St) = s5 := ⟨_,rfl⟩
  rw [e5] at hall xa hA hra l5 nr
  have l6 : (s5.push (itB fs 0)).heap.length = s5.heap.length + 1 := AJ
  have o6 : ∀ b,b < s5.heap.length → (s5.push (itB fs 0)).heap[b]? = s5.heap[b]? := fun b hb => C4 hb
  have hI : (s5.push (itB fs 0)).heap[s5.heap.length]? = some (itB fs 0) := AE
  generalize s5.push (itB fs 0) = s6 at *
  have n4' : s.heap.length ≤ H.length := n4
  have hMH : M < H.length := by omega
  have o56 : ∀ b,b < H.length → s6.heap[b]? = (⟨H⟩ : St).heap[b]? := fun b hb => (o6 b (by omega)).trans (xa.2 b hb)
  have hx6 : Rd N s6 (y2.1,y2.2) := hx4.keep fun b hb => o56 b (by omega)
  have hm6 : MsM rest { m0 with kind := (k : Int),src := (a : Int),dst := (b : Int) } s6.heap.length M s6 := by
    refine ⟨.slice none 0 0,.slice none 0 0,.slice none 0 0,by rw [o56 M hMH]; exact hM4,?_,by simp [m0],by simp [m0],.nil,.nil,.nil,fun _ => rfl,fun _ => rfl,fun _ => rfl⟩
    exact ⟨wf_i hk,wf_i ha,wf_i hb,rfl,rfl,rfl,rfl,rfl,rfl,rfl,rfl,rfl,rfl,rfl,rfl⟩
  obtain ⟨m,s7,y,p1,p2,p3,p4,p5,p6⟩ := hL N M H.length s5.heap.length s6.heap.length { m0 with kind := (k : Int),src := (a : Int),dst := (b : Int) } s6 y2 hNM hMH (by omega) (by omega) hx6 hm6 (Nat.le_refl _) (fun i f hi => by
    have : i < 20 := by
      have := (List.getElem?_eq_some_iff.1 hi).1
      simpa [Al] using this
    rw [o6 _ (by omega)]
    exact hra i f hi) (by rw [o6 _ (by omega)]; exact hA) hI
  have hD : Does (Hk.bind fun a => Hk.bind fun b => pf { m0 with kind := (k : Int),src := (a : Int),dst := (b : Int) }) x m y := f6.bind (b6.bind p6)
  have kp7 : BS N M s s7 := ⟨by omega,fun c h1 h2 h3 => by rw [p5 c (by omega) h2 h3 (by omega),o56 c (by omega),kp4.2 c h1 h2 h3]⟩
  have a1 : ∀ i,Ac i (mp M) = some (.pointer (some ⟨M,i,none⟩)) := fun i => by simp [Ac]
  have a0 : Ac 0 lptr = some lptr := rfl
  have ls : Ao false 1 lptr (.agg #[sv fs,g1,g2,g3]) = some (sv fs) := rfl
  obtain ⟨w,hw⟩ := id p2
  have hl2 : ∀ t s3,AP (.slice t) w s3 = some (.int .i64 ((y.1.length : Nat) : Int)) := fun t s3 => AY hw.byt
  have start : ∀ u t,(Ay.j2 (run Tryz.prog (libL libT) Ad) [lptr,rp N,mp M,lptr,zMs,.agg #[sv fs,g1,g2,g3]] s = some (u,t)) = (((Ai (.bool (y.2 == 0)) true (some ([.bool (decide (((y.1.length : Nat) : Int) > 0))],s7)) (some ([undef],s7))).bind fun q46 =>
      (AM (.bool (y.2 == 0)) (getL q46.1 0) (.bool false)).bind fun v47 =>
      AA v47
       ((Ag Tryz.prog (run Tryz.prog (libL libT) Ad) (.func (.func 36) #[] #[]) [rp N,(.int .i64 11)] q46.2).bind fun r48 =>
      C9 (Ay.j1 (run Tryz.prog (libL libT) Ad)) [lptr,rp N,mp M,zMs] r48.2)
       (C9 (Ay.j1 (run Tryz.prog (libL libT) Ad)) [lptr,rp N,mp M,zMs] q46.2)) = some (u,t)) := fun u t => by
    unfold Ay.j2
    simp only [BT,CU,Dh,DD,J9,LP,Bc,f1,b1,a1,st1,st2,GM,hall,a0,ls,nr,p1,Cq,RL,Ej,hw.ld0,hw.ld1,hl2,EVs]
  by_cases hy : y.2 = 0
  · have hz : (y.2 == 0) = true := by simp [hy]
    cases hr : y.1 with
    | nil =>
      have d1 : decide (((y.1.length : Nat) : Int) > 0) = false := by rw [hr]; rfl
      obtain ⟨u,t,q1,q2,q3,q4,q5⟩ := Zd hNM (by omega) p2 p3 p4
      refine ⟨u,t,m,y,?_,hD,kp7.trans (.of1 q2),fun e => absurd hy e,fun _ e => absurd hr e,fun _ _ e => q4 hy e,fun _ _ e => ?_⟩
      · rw [start]
        simp only [hz,d1,B6,q1,EVs]
      · obtain ⟨vo,vr,vw,z1,z2⟩ := q5 hy e
        exact ⟨vo,vr,vw,⟨z1.row,z1.wf,z1.rg1,z1.rg2,z1.o.mono (by omega) (Nat.le_refl _),z1.r.mono (by omega) (Nat.le_refl _),z1.w.mono (by omega) (Nat.le_refl _),z1.zo,z1.zr,z1.zw⟩,z2⟩
    | cons c r =>
      have d1 : decide (((y.1.length : Nat) : Int) > 0) = true := by rw [hr]; simp
      have hx8 : Rd N (setR N w 11 s7) (y.1,11) := hw.seterr 11
      have hl8 : (setR N w 11 s7).heap.length = s7.heap.length := BI
      have hm8 : MsM [] m s6.heap.length M (setR N w 11 s7) := by
        obtain ⟨vo,vr,vw,hm⟩ := p3
        exact ⟨vo,vr,vw,hm.same (by omega) (Ce (by omega)) fun b h1 h2 => Ce (by omega)⟩
      obtain ⟨u,t,q1,q2,q3,q4,q5⟩ := Zd hNM (by omega) hx8 hm8 (by omega)
      refine ⟨u,t,m,y,?_,hD,kp7.trans ((BS.of1 CB).trans (.of1 q2)),fun e => absurd hy e,fun _ _ => q3 (by simp),fun _ e _ => by (rw [hr] at e; cases e),fun _ e _ => by (rw [hr] at e; cases e)⟩
      rw [start]
      simp only [hz,d1,A5,By hw hy 11,B6,q1,EVs]
  · have hz : (y.2 == 0) = false := by simp [hy]
    obtain ⟨u,t,q1,q2,q3,q4,q5⟩ := Zd hNM (by omega) p2 p3 p4
    refine ⟨u,t,m,y,?_,hD,kp7.trans (.of1 q2),fun e => q3 e,fun e => absurd e hy,fun e => absurd e hy,fun e => absurd e hy⟩
    rw [start]
    simp only [hz,B6,q1,EVs]
end Go.Proofs.YtmbhnbladmpnoaaGreat.Ab

/- Decode: what it gives. -/
namespace Go.Proofs.YtmbhnbladmpnoaaGreat.Ab
open Go
set_option maxRecDepth 10000
theorem ZeZ {v : Value} {s : St} {l : BL} (h : bytesOf v s = some l) (hl : l.length ≤ 140737488355328) (h0 : (B2 l).2 = 0) : (run Tryz.prog (libL libT) Ad) 34 [v] s = some (pkE (Af (B2 l).1 s).1,(Af (B2 l).1 s).2) := (Bq (g := Tc) rfl).trans (Zad h hl h0)
theorem Zl {v : Value} {s : St} {l : BL} (h : bytesOf v s = some l) (hl : l.length ≤ 140737488355328) (h0 : (B2 l).2 ≠ 0) : (run Tryz.prog (libL libT) Ad) 34 [v] s = some (nilE (B2 l).2,s) := (Bq (g := Tc) rfl).trans (Zae h hl h0)
theorem Ze0 {b o len cap : Nat} : AU Tryz.prog 73 [(0,.slice (some ⟨b,o,none⟩) len cap)] = some (.agg #[.slice (some ⟨b,o,none⟩) len cap,.int .i64 0]) := by kernel_rfl
theorem Ze1 (k : Int) : AU Tryz.prog 29 [(0,.int .i64 k)] = some (.agg (msC { m0 with kind := k } (.slice none 0 0) (.slice none 0 0) (.slice none 0 0)).toArray) := by kernel_rfl
structure MsO (lo : Nat) (m : Ms) (s : St) (vo vr vw : Value) : Prop where
  wf : MsWf m
  o : BH oOp 80 lo s.heap.length m.ops s vo
  r : BH oRs 48 lo s.heap.length m.res s vr
  w : BH oOw 24 lo s.heap.length m.own s vw
theorem MsO.msV {lo : Nat} {m : Ms} {s : St} {vo vr vw : Value} (h : MsO lo m s vo vr vw) : MsV m s vo vr vw := ⟨h.wf,h.o.listN,h.r.listN,h.w.listN⟩
theorem Zm {l : BL} : (B2 l).1.length ≤ l.length := by
  unfold B2
  split
  · simp
  split
  · simp
  split
  · simp
  split
  · simp
  · simp only [List.length_drop,List.length_take]
    omega
theorem Qu {v : Value} {s : St} {b : BL} (hv : bytesOf v s = some b) (hl : b.length ≤ 140737488355328) :
    (∃ e t,decW b = .error e ∧ e ≠ 0 ∧ (run Tryz.prog (libL libT) Ad) 13 [v] s = some (.tuple #[zMs,.int .i64 e],t) ∧ Ext s.heap.length s t) ∨ (∃ m vo vr vw t,decW b = .ok m ∧ eMs m = 0 ∧ (run Tryz.prog (libL libT) Ad) 13 [v] s = some (.tuple #[mV m vo vr vw,.int .i64 0],t) ∧ Ext s.heap.length s t ∧ MsO s.heap.length m t vo vr vw) := by
  by_cases h0 : (B2 b).2 = 0
  case neg =>
    have hne : ((B2 b).2 != 0) = true := by simp [h0]
    have x0 : Ak 0 (nilE (B2 b).2) = some (.slice none 0 0) := rfl
    have x1 : Ak 1 (nilE (B2 b).2) = some (.int .i64 (B2 b).2) := rfl
    refine .inl ⟨(B2 b).2,s,by unfold decW; rw [if_pos h0],h0,IR rfl ?_,.refl _ _⟩
    unfold Ay
    simp only [HL,Zl hv hl h0,x0,x1,hne,EVs]
    exact XO
  have hk := ZeZ hv hl h0
  have hx0 : ∀ w : Value,O9 w = false → Ak 0 (pkE w) = some w ∧ Ak 1 (pkE w) = some (.int .i64 0) := fun w h => ⟨by simp [pkE,Ak,h],rfl⟩
  have hz : ((0 : Int) != 0) = false := rfl
  have hdw : decW b = decB (B2 b).1 := by unfold decW; rw [if_neg (by simp [h0])]
  have hbl : (B2 b).1.length ≤ 140737488355328 := Nat.le_trans Zm hl
  generalize (B2 b).1 = body at *
  obtain ⟨y0,y1⟩ := hx0 (Af body s).1 rfl
  have hbb := Bk (l := body) (s := s)
  have xb : Ext s.heap.length s (Af body s).2 := A4 (Nat.le_refl _)
  have hab : AU Tryz.prog 73 [(0,(Af body s).1)] = some (.agg #[(Af body s).1,.int .i64 0]) := Ze0
  have hcv : An (.agg #[(Af body s).1,.int .i64 0]) = [(Af body s).1,.int .i64 0] := rfl
  have hnw : anew [(Af body s).1,.int .i64 0] (Af body s).2 = some (rp (Af body s).2.heap.length,(Af body s).2.push (.row 0 [(Af body s).1,.int .i64 0] .act)) := rfl
  have rd0 := ZdL hbb hbl
  have x2 : Ext (Af body s).2.heap.length (Af body s).2 ((Af body s).2.push (.row 0 [(Af body s).1,.int .i64 0] .act)) := .push _ (Nat.le_refl _) _
  have x3 := xb.trans (x2.less xb.1)
  have hNs : s.heap.length ≤ (Af body s).2.heap.length := xb.1
  generalize hw : (Af body s).1 = w at *
  generalize (Af body s).2 = s1 at *
  generalize hN : s1.heap.length = N at *
  have l2 : (s1.push (.row 0 [w,.int .i64 0] .act)).heap.length = N + 1 := by rw [AJ,hN]
  generalize s1.push (.row 0 [w,.int .i64 0] .act) = s2 at *
  obtain ⟨k,u3,c3,s3,z3,f1,f2,f3,f4,f5,f6⟩ := A7 s2 (body,0) rd0
  obtain ⟨rfl,hk3⟩ := CP f5 f4
  have f1 : (run Tryz.prog (libL libT) Ad) 35 [rp N] s2 = some (.int .i64 (k : Int),s3) := f1
  have n3 := f3.1
  have hnm : anew [(.int .i64 0),(.int .i64 0),(.int .i64 0),(.int .i64 0),(.int .i64 0),(.int .i64 0),(.int .u64 0),(.int .u64 0),(.int .u64 0),(.int .u64 0),(.int .u64 0),(.int .u64 0),(.int .u64 0),(.int .u64 0),(.int .u64 0),(.bool false),(.string ⟨#[]⟩),(.string ⟨#[]⟩),(.slice none 0 0),(.slice none 0 0),(.slice none 0 0)] s3 = some (mp s3.heap.length,s3.push (.row 0 (msC m0 (.slice none 0 0) (.slice none 0 0) (.slice none 0 0)) .act)) := rfl
  have hst : A0 21 (mp s3.heap.length) (.agg (msC { m0 with kind := (k : Int) } (.slice none 0 0) (.slice none 0 0) (.slice none 0 0)).toArray) (s3.push (.row 0 (msC m0 (.slice none 0 0) (.slice none 0 0) (.slice none 0 0)) .act)) = some (s3.push (.row 0 (msC { m0 with kind := (k : Int) } (.slice none 0 0) (.slice none 0 0) (.slice none 0 0)) .act)) :=
    (Iq (vs := msC { m0 with kind := (k : Int) } (.slice none 0 0) (.slice none 0 0) (.slice none 0 0)) (cells := msC m0 (.slice none 0 0) (.slice none 0 0) (.slice none 0 0)) AE rfl rfl rfl).trans (by rw [O5])
  have hM4 : (s3.push (.row 0 (msC { m0 with kind := (k : Int) } (.slice none 0 0) (.slice none 0 0) (.slice none 0 0)) .act)).heap[s3.heap.length]? = some (.row 0 (msC { m0 with kind := (k : Int) } (.slice none 0 0) (.slice none 0 0) (.slice none 0 0)) .act) := AE
  have rd4 : Rd N (s3.push (.row 0 (msC { m0 with kind := (k : Int) } (.slice none 0 0) (.slice none 0 0) (.slice none 0 0)) .act)) z3 := f2.push
  have k4 : BS N s3.heap.length s2 (s3.push (.row 0 (msC { m0 with kind := (k : Int) } (.slice none 0 0) (.slice none 0 0) (.slice none 0 0)) .act)) := (BS.of1 f3).trans CG
  have l4 : (s3.push (.row 0 (msC { m0 with kind := (k : Int) } (.slice none 0 0) (.slice none 0 0) (.slice none 0 0)) .act)).heap.length = s3.heap.length + 1 := AJ
  generalize s3.push (.row 0 (msC { m0 with kind := (k : Int) } (.slice none 0 0) (.slice none 0 0) (.slice none 0 0)) .act) = s4 at *
  generalize hMM : s3.heap.length = M at *
  have hNM : N < M := by omega
  have a0 : Ac 0 (mp M) = some (mp M) := rfl
  have l0 : Aq false 1 (mp M) s4 = some (.int .i64 (k : Int)) := RM hM4 (by simp) rfl
  have hfm := IK.form (k : Int) s4
  have fin : ∀ {t : St},BS N M s4 t → Ext s.heap.length s t := fun {t} h => by
    have h2 := k4.trans h
    refine ⟨Nat.le_trans x3.1 h2.1,fun c hc => ?_⟩
    have := x3.1
    rw [h2.2 c (by omega) (by omega) (by omega)]
    exact x3.2 c hc
  have start : ∀ (fs : BL) (g1 g2 g3 : Value) (u : Value) (t : St),frmV (k : Int) = .agg #[sv fs,g1,g2,g3] → AN 4 lptr (.agg #[sv fs,g1,g2,g3]) (.agg #[(.string ⟨#[]⟩),.nilFunc,.nilFunc,.nilFunc]) = some (.agg #[sv fs,g1,g2,g3]) →
      (AA (.bool (!(CC (k : Int)).isSome)) (((run Tryz.prog (libL libT) Ad) 36 [rp N,.int .i64 11] s4).bind fun r18 => Ay.j2 (run Tryz.prog (libL libT) Ad) [lptr,rp N,mp M,lptr,zMs,.agg #[sv fs,g1,g2,g3]] r18.2) (Ay.j2 (run Tryz.prog (libL libT) Ad) [lptr,rp N,mp M,lptr,zMs,.agg #[sv fs,g1,g2,g3]] s4) = some (u,t)) → (run Tryz.prog (libL libT) Ad) 13 [v] s = some (u,t) := fun fs g1 g2 g3 u t hf hs h => by
    refine IR rfl ?_
    have e0 : Ak 0 (.tuple #[frmV (k : Int),.bool (CC (k : Int)).isSome]) = some (.agg #[sv fs,g1,g2,g3]) := by rw [hf]; rfl
    have e1 : Ak 1 (.tuple #[frmV (k : Int),.bool (CC (k : Int)).isSome]) = some (.bool (CC (k : Int)).isSome) := rfl
    unfold Ay
    simp only [HL,hk,y0,y1,hz,hab,hcv,hnw,Bc,f1,Ze1,hnm,hst,a0,l0,Dq,hfm,e0,e1,hs,A5,B6,EVs]
    exact h
  cases hp : CC (k : Int) with
  | none =>
    have hf : frmV (k : Int) = .agg #[sv [],.nilFunc,.nilFunc,.nilFunc] := by unfold frmV; rw [hp]
    obtain ⟨v4,hv4⟩ := rd4
    obtain ⟨s5,y5,g1,g2,g3,g4⟩ := Dg hv4 11 (by decide)
    have hMl : M < s4.heap.length := by omega
    obtain ⟨u,t,m,y,q1,q2,q3,q4,_⟩ := ZbG (fs := []) (g1 := .nilFunc) (g2 := .nilFunc) (g3 := .nilFunc) Zk hk3 hNM g2 (by rw [g3.2 M hMl fun e => by have := Option.some.inj e; omega]; exact hM4)
    have hy5 : y5.2 ≠ 0 := by
      rw [g4]
      split
      · decide
      · assumption
    have hye : y.2 = y5.2 := q2.err hy5
    have hD : Does pMsg (body,0) m y := f6.bind (by
      rw [hp]
      exact .fail (by decide) (by rw [hye,g4]))
    have hyn : y.2 ≠ 0 := by rw [hye]; exact hy5
    refine .inl ⟨y.2,t,by rw [hdw]; unfold decB; rw [hD.err_of rfl hyn],hyn,start [] _ _ _ _ _ hf rfl ?_,fin ((BS.of1 g3).trans q3)⟩
    rw [hp]
    simp only [Option.isSome_none,Bool.not_false,g1,q1,EVs]
    rw [q4 hyn]
  | some p =>
    have hf : frmV (k : Int) = .agg #[sv p.1,fnV p.2.1,fnV p.2.2.1,fnV p.2.2.2] := by unfold frmV; rw [hp]; rfl
    have hpm := Em hp
    obtain ⟨u,t,m,y,q1,q2,q3,q4,q5,q6,q7⟩ := ZbG (fs := p.1) (g1 := fnV p.2.1) (g2 := fnV p.2.2.1) (g3 := fnV p.2.2.2) (Zj hpm) hk3 hNM rd4 hM4
    have hD : Does pMsg (body,0) m y := f6.bind (by rw [hp]; exact q2)
    have hgo : ∀ u',u = u' → (run Tryz.prog (libL libT) Ad) 13 [v] s = some (u',t) := fun u' e => start p.1 _ _ _ _ _ hf rfl (by
      rw [hp]
      simp only [Option.isSome_some,Bool.not_true,q1,EVs]
      rw [e])
    have hfin := fin q3
    by_cases hy : y.2 = 0
    · have hok := hD.ok_of rfl hy
      cases hr : y.1 with
      | nil =>
        rw [hr] at hok
        by_cases he : eMs m = 0
        · obtain ⟨vo,vr,vw,h1,h2⟩ := q7 hy hr he
          exact .inr ⟨m,vo,vr,vw,t,by rw [hdw]; unfold decB; rw [hok]; simp only; rw [if_pos he],he,hgo _ h2,hfin,h1.wf,h1.o.mono (by have := x3.1; omega) (Nat.le_refl _),h1.r.mono (by have := x3.1; omega) (Nat.le_refl _),h1.w.mono (by have := x3.1; omega) (Nat.le_refl _)⟩
        · exact .inl ⟨eMs m,t,by rw [hdw]; unfold decB; rw [hok]; simp only; rw [if_neg he],he,hgo _ (q6 hy hr he),hfin⟩
      | cons c r =>
        rw [hr] at hok
        exact .inl ⟨11,t,by rw [hdw]; unfold decB; rw [hok],by decide,hgo _ (q5 hy (by rw [hr]; simp)),hfin⟩
    · exact .inl ⟨y.2,t,by rw [hdw]; unfold decB; rw [hD.err_of rfl hy],hy,hgo _ (q4 hy),hfin⟩
end Go.Proofs.YtmbhnbladmpnoaaGreat.Ab

/- WireSpoilt: what the law says. -/
namespace Go.Proofs.YtmbhnbladmpnoaaGreat.Ab
open Go
set_option maxRecDepth 10000
theorem Zc8 {m : Ms} {s : St} {v : Value} (h : NArg msN m s v) : ∃ vo vr vw,v = mV m vo vr vw ∧ MsV m s vo vr vw := by
  obtain ⟨cs,rfl,hr⟩ := h
  obtain ⟨vo,vr,vw,rfl,h1,h2,h3,h4⟩ := ZT hr
  exact ⟨vo,vr,vw,rfl,h1,h2,h3,h4⟩
theorem UQ {R : Aa} {w at_ : Nat} (hw : w < 4294967296) {l : List UInt8} (hl : l.length ≤ 100000) (hat : at_ < 8 * l.length) {N : Nat} {c : Value} : ∀ (d k : Nat) (m : List UInt8) (s : St),k + d = 32 → at_ + k ≤ 8 * l.length → m.length = l.length → N ≤ s.heap.length → Own N 1 s c (bv m) → leX m = leX l ^^^ 2 ^ at_ * (w % 2 ^ k) →
    ∃ (m' : List UInt8) (w' : Nat) (s' : St),AV (AR.b0 R) [.int .i64 (at_ : Int),.int .u32 (w : Int),.bool true,c,.int .i64 ((8 * l.length : Nat) : Int),.bool (decide (w % 2 ^ k ≠ 0)),.int .i64 (k : Int)] s = some (.exit 0,[.bool true,c,.bool (decide (w' ≠ 0))],s') ∧ Own N 1 s' c (bv m') ∧ m'.length = l.length ∧ leX m' = leX l ^^^ 2 ^ at_ * w' ∧ w' < 4294967296 ∧ Ext N s s' := by
  intro d
  induction d with
  | zero =>
    intro k m s hk hk2 hm hN ho hx
    refine ⟨m,w % 2 ^ k,s,?_,ho,hm,hx,Nat.lt_of_le_of_lt (Nat.mod_le _ _) hw,.refl _ _⟩
    rw [As]
    have h1 : decide ((k : Int) < 32) = false := by simp; omega
    simp only [AR.b0,h1,EVs]
  | succ d IH =>
    intro k m s hk hk2 hm hN ho hx
    have h1 : decide ((k : Int) < 32) = true := by simp; omega
    have h2 : IntKind.wrap .i64 ((at_ : Int) + (k : Int)) = ((at_ + k : Nat) : Int) := by rw [wrap_i64 (by omega) (by omega)]; omega
    by_cases hend : at_ + k = 8 * l.length
    · refine ⟨m,w % 2 ^ k,s,?_,ho,hm,hx,Nat.lt_of_le_of_lt (Nat.mod_le _ _) hw,.refl _ _⟩
      rw [As]
      have h3 : decide (((at_ + k : Nat) : Int) < ((8 * l.length : Nat) : Int)) = false := by simp; omega
      simp only [AR.b0,h1,h2,h3,EVs]
    have h3 : decide (((at_ + k : Nat) : Int) < ((8 * l.length : Nat) : Int)) = true := by simp; omega
    have hsh : ∀ o1 o2,abin Tryz.prog .shr 44 o1 o2 (.int .u32 (w : Int)) (.int .i64 (k : Int)) = some (.int .u32 ((w / 2 ^ k : Nat) : Int)) := fun o1 o2 => T4 hw
    have han : ∀ o1 o2,abin Tryz.prog .and 44 o1 o2 (.int .u32 ((w / 2 ^ k : Nat) : Int)) (.int .u32 (1 : Int)) = some (.int .u32 ((w / 2 ^ k % 2 : Nat) : Int)) := fun o1 o2 => by
      rw [show (1 : Int) = ((1 : Nat) : Int) from rfl,Zb2 rfl (Nat.lt_of_le_of_lt (Nat.div_le_self _ _) hw) (by decide),Nat.and_one_is_mod]
    have hmod : w % 2 ^ (k + 1) = w % 2 ^ k + 2 ^ k * (w / 2 ^ k % 2) := Nat.mod_pow_succ
    have hw1 : IntKind.wrap .i64 ((k : Int) + 1) = ((k + 1 : Nat) : Int) := by rw [wrap_i64 (by omega) (by omega)]; omega
    rcases Nat.mod_two_eq_zero_or_one (w / 2 ^ k) with hb | hb
    · rw [hb] at hmod han
      have h4 : (((0 : Nat) : Int) == 1) = false := rfl
      obtain ⟨m',w',s',q1,q2⟩ := IH (k + 1) m s (by omega) (by omega) hm hN ho (by rw [hmod,Nat.mul_zero,Nat.add_zero]; exact hx)
      refine ⟨m',w',s',?_,q2⟩
      rw [hmod,Nat.mul_zero,Nat.add_zero] at q1
      rw [As]
      simp only [AR.b0,AR.j0,h1,h2,h3,hsh,han,h4,hw1,EVs]
      rw [q1]
    · rw [hb] at hmod han
      have h4 : (((1 : Nat) : Int) == 1) = true := rfl
      have hi : (at_ + k) / 8 < m.length := by omega
      have hp : 2 ^ ((at_ + k) % 8) < 256 := Nat.lt_of_lt_of_le (Nat.pow_lt_pow_right (by omega) (Nat.mod_lt _ (by omega))) (by decide : 2 ^ 8 ≤ 256)
      obtain ⟨p,s2,p1,p2,p3,o2,x2⟩ := X9 ho hi (m[(at_ + k) / 8] ^^^ UInt8.ofNat (2 ^ ((at_ + k) % 8))) (k := .i64)
      rw [ZdR hp] at p3
      have hq : ∀ o1 o2,abin Tryz.prog .quo 3 o1 o2 (.int .i64 ((at_ + k : Nat) : Int)) (.int .i64 (8 : Int)) = some (.int .i64 (((at_ + k) / 8 : Nat) : Int)) := fun o1 o2 => by
        rw [Zdo (by decide),show (((at_ + k : Nat) : Int)).tdiv 8 = (((at_ + k) / 8 : Nat) : Int) from rfl,wrap_i64 (by omega) (by omega)]
      have hr : ∀ o1 o2,abin Tryz.prog .rem 3 o1 o2 (.int .i64 ((at_ + k : Nat) : Int)) (.int .i64 (8 : Int)) = some (.int .i64 (((at_ + k) % 8 : Nat) : Int)) := fun o1 o2 => by
        rw [Wg (by decide)]; rfl
      have hs : ∀ o1 o2,abin Tryz.prog .shl 5 o1 o2 (.int .u8 (1 : Int)) (.int .i64 (((at_ + k) % 8 : Nat) : Int)) = some (.int .u8 ((2 ^ ((at_ + k) % 8) : Nat) : Int)) := fun o1 o2 => by
        rw [show (1 : Int) = ((1 : Nat) : Int) from rfl,ZF rfl,Nat.one_mul,show IntKind.u8.bits = 8 from rfl,Nat.mod_eq_of_lt (show 2 ^ ((at_ + k) % 8) < 2 ^ 8 from hp)]
      have hx2 : ∀ o1 o2,abin Tryz.prog .xor 5 o1 o2 (.int .u8 ((m[(at_ + k) / 8].toNat : Nat) : Int)) (.int .u8 ((2 ^ ((at_ + k) % 8) : Nat) : Int)) = some (.int .u8 ((m[(at_ + k) / 8].toNat ^^^ 2 ^ ((at_ + k) % 8) : Nat) : Int)) := fun o1 o2 => SC rfl (UInt8.toNat_lt _) hp
      have hlt : w % 2 ^ k < 2 ^ k := Nat.mod_lt _ (Nat.two_pow_pos k)
      have hx3 : leX (m.set ((at_ + k) / 8) (m[(at_ + k) / 8] ^^^ UInt8.ofNat (2 ^ ((at_ + k) % 8)))) = leX l ^^^ 2 ^ at_ * (w % 2 ^ (k + 1)) := by
        rw [Yo m _ _ hi,Bw hp,hx,hmod,Nat.mul_one,← Zcn hlt,UA,Nat.xor_assoc,← Nat.pow_add,← Nat.pow_add]
        congr 3
        omega
      have ht : decide (w % 2 ^ (k + 1) ≠ 0) = true := by
        have := Nat.two_pow_pos k
        simp only [decide_eq_true_eq]
        rw [hmod]
        omega
      obtain ⟨m',w',s',q1,q2,q3,q4,q5,q6⟩ := IH (k + 1) _ s2 (by omega) (by omega) (by simpa using hm) (Nat.le_trans hN x2.1) o2 hx3
      refine ⟨m',w',s',?_,q2,q3,q4,q5,x2.trans q6⟩
      rw [ht] at q1
      have hO : ownR s (undef,s2) = some (undef,s2) := by unfold ownR; rw [if_pos x2.1]
      rw [As]
      simp only [AR.b0,AR.j0,h1,h2,h3,hsh,han,h4,hw1,hq,hr,hs,hx2,p1,p2,p3,Za,hO,EVs]
      rw [q1]
theorem WireSpoilt_law (s : St) (m : Ms) (v : Value) (h : NArg msN m s v) (a : Int) (wa : (Lit.int .i64 a).wf = true) (y : Int) (wy : (Lit.int .u32 y).wf = true) : ∃ s',(run Tryz.prog (libL libT) Ad) 7 [v,.int .i64 a,.int .u32 y] s = some (.bool true,s') := by
  obtain ⟨w,rfl,hw⟩ := ZdQ wy
  obtain ⟨vo,vr,vw,rfl,hm⟩ := Zc8 h
  have hb : lbox (mV m vo vr vw) = some (mV m vo vr vw) := UC hm.leaf
  have hl : Ao true 21 lptr (mV m vo vr vw) = some (mV m vo vr vw) := Jq rfl
  have hr1 : ∀ (b : Bool) (s : St),retV [.bool b] s = some (.bool b,s) := fun n s => ret1 rfl
  suffices key : ∃ s',AR (run Tryz.prog (libL libT) Ad) (mV m vo vr vw) (.int .i64 a) (.int .u32 (w : Int)) s = some (.bool true,s') by
    obtain ⟨s',h⟩ := key
    exact ⟨s',Js rfl h⟩
  unfold AR
  by_cases he : eMs m = 0
  case neg =>
    obtain ⟨t,g1,g2⟩ := Y2 hm he
    have x0 : Ak 0 (.tuple #[.slice none 0 0,.int .i64 180]) = some (.slice none 0 0) := rfl
    have x1 : Ak 1 (.tuple #[.slice none 0 0,.int .i64 180]) = some (.int .i64 180) := rfl
    have z1 : ((180 : Int) != 0) = true := rfl
    have z2 : ((180 : Int) == 180) = true := rfl
    refine ⟨t,?_⟩
    simp only [hb,E7,YU,hl,Eu,g1,x0,x1,z1,z2,hr1,EVs]
  have hlen := Za0 he
  obtain ⟨t,g1,g2⟩ := Y3 hm he hlen
  have y1 : bytesOf (Af (BJ (CS m)) t).1 (Af (BJ (CS m)) t).2 = some (BJ (CS m)) := Bk
  have o1 : Own t.heap.length 1 (Af (BJ (CS m)) t).2 (Af (BJ (CS m)) t).1 (bv (BJ (CS m))) := CX (Nat.le_refl _) RT
  have n1 : t.heap.length ≤ (Af (BJ (CS m)) t).2.heap.length := (A4 (N := t.heap.length) (Nat.le_refl _)).1
  have xx0 : Ak 0 (pkE (Af (BJ (CS m)) t).1) = some (Af (BJ (CS m)) t).1 := rfl
  have xx1 : Ak 1 (pkE (Af (BJ (CS m)) t).1) = some (.int .i64 0) := rfl
  have hl6 : 6 ≤ (BJ (CS m)).length ∧ (BJ (CS m)).length ≤ 4103 := by
    have := H7 (CS m); have := OS (CS m); have := UB (n := (CS m).length) (by omega); have := @Uw (CS m).length; omega
  have hmul : IntKind.wrap .i64 (8 * (((BJ (CS m)).length : Nat) : Int)) = ((8 * (BJ (CS m)).length : Nat) : Int) := by rw [wrap_i64 (by omega) (by omega)]; omega
  have e2 : (((8 * (BJ (CS m)).length : Nat) : Int) == 0) = false := by rw [beq_eq_false_iff_ne]; omega
  generalize Af (BJ (CS m)) t = r1 at g1 y1 o1 n1 xx0 xx1
  have hn0 : ((8 * (BJ (CS m)).length : Nat) : Int) ≠ 0 := by omega
  obtain ⟨i,hi,ei⟩ := OR (a := a) (n := 8 * (BJ (CS m)).length) (by omega) (by omega)
  obtain ⟨m',w',s2,q1,q2,q3,q4,q5,q6⟩ := UQ (R := (run Tryz.prog (libL libT) Ad)) hw (l := BJ (CS m)) (by omega) hi (c := r1.1) (N := t.heap.length) 32 0 (BJ (CS m)) r1.2 rfl (by omega) rfl n1 o1 (by simp [Nat.mod_one])
  have z0 : decide (w % 2 ^ 0 ≠ 0) = false := by simp [Nat.mod_one]
  rw [z0] at q1
  have z1 : (((0 : Nat)) : Int) = 0 := rfl
  rw [z1] at q1
  have zn : ((0 : Int) != 0) = false := rfl
  have ze : ((0 : Int) == 0) = true := rfl
  by_cases e : w' = 0
  · have e3 : decide (w' ≠ 0) = false := by simp [e]
    have k1 := WF hlen q3 (by rw [q4,e,Nat.mul_zero,Nat.xor_zero])
    have hdw : decW m' = .ok m := by
      unfold decW
      rw [k1]
      simp only
      rw [if_neg (by simp),Zh hm.wf he]
    rcases Qu q2.bytes (by omega) with ⟨e4,t4,h1,h2,_⟩ | ⟨m4,vo4,vr4,vw4,t4,h1,h2,h3,h4,h5⟩
    · rw [hdw] at h1
      cases h1
    · have x0 : Ak 0 (.tuple #[mV m4 vo4 vr4 vw4,.int .i64 0]) = some (mV m4 vo4 vr4 vw4) := rfl
      have x1 : Ak 1 (.tuple #[mV m4 vo4 vr4 vw4,.int .i64 0]) = some (.int .i64 0) := rfl
      have st : AN 21 lptr (mV m4 vo4 vr4 vw4) zMs = some (mV m4 vo4 vr4 vw4) := zst rfl h5.msV.leaf
      refine ⟨t4,?_⟩
      simp only [hb,E7,YU,hl,Eu,g1,xx0,xx1,zn,AY y1,hmul,e2,Wg hn0,ei,q1,e3,G6,h3,x0,x1,st,ze,Bool.not_false,hr1,EVs]
  · have e3 : decide (w' ≠ 0) = true := by simp [e]
    have k1 := Zal hlen q3 q5 e q4
    have hdw : decW m' = .error 50 := by
      unfold decW
      rw [k1]
      rfl
    rcases Qu q2.bytes (by omega) with ⟨e4,t4,h1,h2,h3,_⟩ | ⟨m4,vo4,vr4,vw4,t4,h1,h2,h3,h4,h5⟩
    · rw [hdw] at h1
      have h1 : (50 : Int) = e4 := by injection h1
      subst h1
      have x0 : Ak 0 (.tuple #[zMs,.int .i64 50]) = some zMs := rfl
      have x1 : Ak 1 (.tuple #[zMs,.int .i64 50]) = some (.int .i64 50) := rfl
      have st : AN 21 lptr zMs zMs = some zMs := rfl
      have ld : Ao false 1 lptr zMs = some (.int .i64 0) := rfl
      have z50 : ((50 : Int) == 50) = true := rfl
      refine ⟨t4,?_⟩
      simp only [hb,E7,YU,hl,Eu,g1,xx0,xx1,zn,AY y1,hmul,e2,Wg hn0,ei,q1,e3,G6,h3,x0,x1,st,ld,z50,ze,Bool.not_true,hr1,EVs]
    · rw [hdw] at h1
      cases h1
end Go.Proofs.YtmbhnbladmpnoaaGreat.Ab

/- A law's arguments in memory,as the abstract machine has them: bytes. -/
namespace Go.Proofs.YtmbhnbladmpnoaaGreat.Ab
open Go
end Go.Proofs.YtmbhnbladmpnoaaGreat.Ab

/- A row's slice of whole numbers is no longer than its weight allows. (Began as the words that print.sh lays for rows over slices.) -/
namespace Go.Proofs.YtmbhnbladmpnoaaGreat.Ab
open Go Go.ChangeShapes Go.WideShapes
end Go.Proofs.YtmbhnbladmpnoaaGreat.Ab
