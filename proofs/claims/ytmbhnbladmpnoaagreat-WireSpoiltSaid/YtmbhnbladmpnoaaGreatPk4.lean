/- Texts of this proof, packed: SpAll, StrCmp, OwVal, OwArg, BIns, OpCmp, OpVal, OpLists, OpArg, WrVal, BList2, BList3, BOwn, BRead, LnGet, RcFun, FxNum, FxOct, FxRead, FxOctT, OctNum, WrForm, WrForm2, FxSum, FxCrc, FxBase, FxEncN, FxEnc, FrOut, FrFun. -/
import Derived.Test.YtmbhnbladmpnoaaGreatPk3
import Derived.Lib.Strings
import Derived.Lib.Bytealg
import Derived.ChangeSame
import Derived.WideShapes
import Derived.Lib.Overlaps
import Derived.Lib.AppendZerosOnto
import Derived.Deep.DeepAppendWide
import Derived.Shelf.Spec.SlicesInsert
set_option linter.unusedVariables false
set_option linter.unusedSimpArgs false
set_option linter.unusedSectionVars false
/- Pairs of strings: as values,and compared. -/
namespace Go.Proofs.YtmbhnbladmpnoaaGreat.Ab
open Go
theorem B1 {P : Program} {α β : Type} (m : Sem α) (f : α → Sem β) : A9 P (m >>= f) = (A9 P m).bind fun a => A9 P (f a) := by
  show A9 P (Sem.bind m f) = _
  induction m with
  | pure a => rfl
  | program k ih => simp only [Sem.bind,A9]; exact ih P
  | _ => rfl
theorem JH {P : Program} {α : Type} (a : α) : A9 P (Pure.pure a : Sem α) = some a := rfl
theorem Lk {P : Program} : A9 P (program : Sem Program) = some P := rfl
theorem Vk {P : Program} {t : TypeId} {d : TypeDesc} (h : P.underlying t = some d) : A9 P (underlying t) = some d := by
  unfold underlying
  rw [B1,Lk]
  simp only [Option.bind_some,h]
  rfl
theorem Zbi {P : Program} {d : Nat} {t : TypeId} {a b : ByteArray} (h : P.underlying t = some .string) : A9 P (Op.equalIn (d + 1) t (.string a) (.string b)) = some (a == b) := by
  unfold Op.equalIn
  rw [B1,Vk h]
  simp only [Option.bind_some,JH]
abbrev BL := List UInt8
abbrev Rg := BL × BL
def rv (r : Rg) : Value := .agg #[sv r.1,sv r.2]
def asBl : Value → Option BL
  | .string a => some a.data.toList
  | _ => none
def asRg : Value → Option Rg
  | .agg cs => match cs.toList with
    | [.string a,.string b] => some (a.data.toList,b.data.toList)
    | _ => none
  | _ => none
theorem XJ {v : Value} {l : BL} (h : asBl v = some l) : v = sv l := by
  unfold asBl at h
  split at h
  · cases h; exact Jo _
  · cases h
theorem XK {v : Value} {r : Rg} (h : asRg v = some r) : v = rv r := by
  unfold asRg at h
  split at h
  · rename_i cs
    split at h
    · rename_i a b e
      cases h
      obtain ⟨l⟩ := cs
      simp only at e
      subst e
      unfold rv
      rw [← Jo,← Jo]
    · cases h
  · cases h
theorem SS {a b : BL} : ((⟨a.toArray⟩ : ByteArray) == ⟨b.toArray⟩) = (a == b) := by
  show (a.toArray == b.toArray) = (a == b)
  simp
theorem Zbj (o1 o2 : Operand) (a b : Rg) : abin Tryz.prog .eql 24 o1 o2 (rv a) (rv b) = some (.bool (a.1 == b.1 && a.2 == b.2)) := by
  have hu := Vk Tryz.underlying24
  have hg : A9 Tryz.prog (eqGuard .eql 24 o1 o2 (.agg #[sv a.1,sv a.2]) (.agg #[sv b.1,sv b.2])) = some () := by kernel_rfl
  have hh : Tryz.prog.stoodInHeld 24 = false := by kernel_rfl
  have hp : ∀ x y : BL,A9 Tryz.prog (part 9 #[sv x,sv y] 0) = some (sv x) ∧ A9 Tryz.prog (part 9 #[sv x,sv y] 1) = some (sv y) := fun x y => by
    refine ⟨?_,?_⟩ <;> kernel_rfl
  have he : ∀ (n : Nat) (x y : BL),A9 Tryz.prog (Op.equalIn (n + 1) 9 (sv x) (sv y)) = some (x == y) := fun n x y => by
    unfold sv
    rw [Zbi Tryz.underlying9,SS]
  unfold abin R3 rv
  simp only
  have hc : (Bb (.agg #[sv a.1,sv a.2]) && Bb (.agg #[sv b.1,sv b.2])) = true := rfl
  rw [if_pos hc,B1,hg]
  simp only [Option.bind_some,binOp]
  rw [B1]
  have key : A9 Tryz.prog (Op.equal 24 (.agg #[sv a.1,sv a.2]) (.agg #[sv b.1,sv b.2])) = some (a.1 == b.1 && a.2 == b.2) := by
    unfold Op.equal Op.maxDepth Op.equalIn
    rw [B1,hu]
    simp only [Option.bind_some]
    rw [B1,Lk]
    simp only [Option.bind_some,hh,Bool.false_eq_true,if_false,B1]
    have hLo : ("Lo" ≠ "_") = True := by simp
    have hHi : ("Hi" ≠ "_") = True := by simp
    simp only [List.forIn_toArray,List.forIn_cons,List.forIn_nil]
    cases h1 : (a.1 == b.1)
    · simp only [Option.bind_some,B1,JH,Nat.reduceAdd,hLo,hHi,if_true,(hp _ _).1,(hp _ _).2,he,Bool.not_true,Bool.not_false,Bool.false_eq_true,if_false,Bool.true_and,Bool.false_and,Bool.and_true,h1]
    cases h2 : (a.2 == b.2)
    · simp only [Option.bind_some,B1,JH,Nat.reduceAdd,hLo,hHi,if_true,(hp _ _).1,(hp _ _).2,he,Bool.not_true,Bool.not_false,Bool.false_eq_true,if_false,Bool.true_and,Bool.false_and,Bool.and_true,h1,h2]
    · simp only [Option.bind_some,B1,JH,Nat.reduceAdd,hLo,hHi,if_true,(hp _ _).1,(hp _ _).2,he,Bool.not_true,Bool.not_false,Bool.false_eq_true,if_false,Bool.true_and,Bool.false_and,Bool.and_true,h1,h2]
  rw [key]
  rfl
theorem Zdy (o1 o2 : Operand) (a b : Rg) : abin Tryz.prog .neq 24 o1 o2 (rv a) (rv b) = some (.bool (!(a.1 == b.1 && a.2 == b.2))) := by
  have hu := Vk Tryz.underlying24
  have hg : A9 Tryz.prog (eqGuard .neq 24 o1 o2 (.agg #[sv a.1,sv a.2]) (.agg #[sv b.1,sv b.2])) = some () := by kernel_rfl
  have h0 := Zbj o1 o2 a b
  have hg0 : A9 Tryz.prog (eqGuard .eql 24 o1 o2 (.agg #[sv a.1,sv a.2]) (.agg #[sv b.1,sv b.2])) = some () := by kernel_rfl
  unfold abin R3 rv at h0 ⊢
  simp only at h0 ⊢
  have hc : (Bb (.agg #[sv a.1,sv a.2]) && Bb (.agg #[sv b.1,sv b.2])) = true := rfl
  rw [if_pos hc,B1,hg0] at h0
  rw [if_pos hc,B1,hg]
  simp only [Option.bind_some,binOp,B1,JH] at h0 ⊢
  cases e : A9 Tryz.prog (Op.equal 24 (.agg #[sv a.1,sv a.2]) (.agg #[sv b.1,sv b.2])) with
  | none => rw [e] at h0; cases h0
  | some r =>
    rw [e] at h0
    simp only [Option.bind_some] at h0 ⊢
    cases h0
    rfl
end Go.Proofs.YtmbhnbladmpnoaaGreat.Ab
/- Keys and ranges: what the functions do. -/
namespace Go.Proofs.YtmbhnbladmpnoaaGreat.Ab
open Go
def ckK (k : BL) : Bool := k != [] && decide (k.length ≤ 12)
def ckR (r : Rg) : Bool := decide (r.1.length ≤ 12) && decide (r.2.length ≤ 12) && (r.2 == [] || bl r.1 r.2)
def eK (k : BL) : Int := if ckK k then 0 else 20
def eR (r : Rg) : Int := if ckR r then 0 else 21
def gP (G : List Value → Option Value) : Sum := fun xs s => (G xs).map fun v => (v,s)
theorem sumP {lib : Lib} {f : FuncId} {G : List Value → Option Value} (h : ∀ xs v s,G xs = some v → FE v = true ∧ ∃ t,run Tryz.prog lib Ad f xs s = some (v,t)) : BM Tryz.prog lib Ad f (gP G) :=
  BM.plain (G := fun xs _ => G xs) fun xs s v hv => h xs v (frzS s) hv
def G1K (F : BL → Value) : List Value → Option Value
  | [v] => (asBl v).map F
  | _ => none
def G1R (F : Rg → Value) : List Value → Option Value
  | [v] => (asRg v).map F
  | _ => none
theorem Zdz {lib : Lib} {f : FuncId} {F : BL → Value} (h : ∀ k s,FE (F k) = true ∧ ∃ t,run Tryz.prog lib Ad f [sv k] s = some (F k,t)) : BM Tryz.prog lib Ad f (gP (G1K F)) := sumP fun xs v s hv => by
  unfold G1K at hv
  split at hv
  · simp only [Option.map_eq_some_iff] at hv
    obtain ⟨k,h1,rfl⟩ := hv
    rw [XJ h1]
    exact h k s
  · cases hv
theorem ZdA {lib : Lib} {f : FuncId} {F : Rg → Value} (h : ∀ k s,FE (F k) = true ∧ ∃ t,run Tryz.prog lib Ad f [rv k] s = some (F k,t)) : BM Tryz.prog lib Ad f (gP (G1R F)) := sumP fun xs v s hv => by
  unfold G1R at hv
  split at hv
  · simp only [Option.map_eq_some_iff] at hv
    obtain ⟨k,h1,rfl⟩ := hv
    rw [XK h1]
    exact h k s
  · cases hv
theorem KC : (Value.string ⟨#[]⟩) = sv [] := rfl
theorem ZK {k : BL} : decide (((k.length : Nat) : Int) > 12) = !decide (k.length ≤ 12) := by
  by_cases h : k.length ≤ 12
  · simp [h]; omega
  · simp [h]; omega
theorem ST {R : Aa} (k : BL) (s : St) : GR R (sv k) s = some (.int .i64 (eK k),s) := by
  unfold GR eK ckK
  rw [KC]
  simp only [Zdt,NR,ZK,EVs]
  cases h1 : (k == []) <;> cases h2 : decide (k.length ≤ 12) <;> simp only [bne,h1,h2,Bool.not_true,Bool.not_false,Bool.true_or,Bool.false_or,Bool.or_true,Bool.or_false,Bool.and_true,Bool.and_false,if_true,if_false,Bool.false_eq_true,EVs,retV] <;> rfl
theorem Oy {R : Aa} (k : BL) (s : St) : FT R (sv k) s = some (.int .i64 (eK k),s) := by
  unfold FT eK ckK
  have h0 : decide (((k.length : Nat) : Int) < 1) = (k == []) := by
    cases k with
    | nil => rfl
    | cons x k => simp; omega
  simp only [NR,h0,ZK,EVs]
  cases h1 : (k == []) <;> cases h2 : decide (k.length ≤ 12) <;> simp only [bne,h1,h2,Bool.not_true,Bool.not_false,Bool.true_or,Bool.false_or,Bool.or_true,Bool.or_false,Bool.and_true,Bool.and_false,if_true,if_false,Bool.false_eq_true,EVs,retV] <;> rfl
end Go.Proofs.YtmbhnbladmpnoaaGreat.Ab
/- Keys and ranges: what the functions do,further. -/
namespace Go.Proofs.YtmbhnbladmpnoaaGreat.Ab
open Go
theorem z_rv : (Value.agg #[.string ⟨#[]⟩,.string ⟨#[]⟩]) = rv ([],[]) := rfl
theorem Zbk (r : Rg) : lbox (rv r) = some (rv r) := rfl
theorem ZL (r : Rg) : Ao true 2 lptr (rv r) = some (rv r) := rfl
theorem ad_0 : Ac 0 lptr = some (.pointer (some ⟨0,0,none⟩)) := rfl
theorem ad_1 : Ac 1 lptr = some (.pointer (some ⟨0,1,none⟩)) := rfl
theorem ld_0 (r : Rg) : Ao false 1 lptr (rv r) = some (sv r.1) := rfl
theorem ZdB (r : Rg) : Ao false 1 (.pointer (some ⟨0,0,none⟩)) (rv r) = some (sv r.1) := rfl
theorem XL : (Value.agg #[sv [],sv []]) = rv ([],[]) := rfl
theorem ld_1 (r : Rg) : Ao false 1 (.pointer (some ⟨0,1,none⟩)) (rv r) = some (sv r.2) := rfl
theorem Gv {α : Type} {s : St} {a : α} : ownR s (a,s) = some (a,s) := by unfold ownR; rw [if_pos (Nat.le_refl _)]
theorem Zb6 {R : Aa} (s : St) : Vh R s = some (rv ([],[]),s) := rfl
theorem Qh {P : Program} {t : TypeId} {o1 o2 : Operand} {a b : BL} : abin P .geq t o1 o2 (sv a) (sv b) = some (.bool (!bl a b)) := Zdu
theorem XM {R : Aa} (hR : ∀ s,R 139 [] s = some (rv ([],[]),s)) (r : Rg) (s : St) : D4 R (rv r) s = some (.int .i64 (eR r),s) := by
  obtain ⟨a,b⟩ := r
  unfold D4
  simp only [z_rv,XL,Zbk,ZL,Rx,hR,Gv,Zbj,ad_0,ad_1,ld_0,ld_1,KC,NR,ZK,IP,Qh,EVs]
  unfold eR ckR
  by_cases h0 : a = [] ∧ b = []
  · obtain ⟨rfl,rfl⟩ := h0
    rfl
  · have e0 : (a == [] && b == []) = false := by
      cases h1 : (a == []) <;> cases h2 : (b == []) <;> simp_all
    simp only [e0,EVs]
    cases h1 : decide (a.length ≤ 12) <;> cases h2 : decide (b.length ≤ 12) <;> cases h3 : (b == []) <;> cases h4 : bl a b <;> simp only [D4.j0,h1,h2,h3,h4,Bool.not_true,Bool.not_false,Bool.true_or,Bool.false_or,Bool.or_true,Bool.or_false,Bool.and_true,Bool.and_false,Bool.true_and,Bool.false_and,if_true,if_false,Bool.false_eq_true,z_rv,XL,ZL,ld_0,ZdB,ld_1,EVs,retV] <;> rfl
theorem SU {R : Aa} (r : Rg) (s : St) : Jv R (rv r) s = some (.int .i64 (eR r),s) := by
  obtain ⟨a,b⟩ := r
  unfold Jv
  simp only [z_rv,XL,Zbk,ZL,ad_0,ad_1,ld_0,ld_1,KC,NR,ZK,IP,Qh,EVs]
  unfold eR ckR
  cases h1 : decide (a.length ≤ 12) <;> cases h2 : decide (b.length ≤ 12) <;> cases h3 : (b == []) <;> cases h4 : bl a b <;> simp only [h1,h2,h3,h4,Bool.not_true,Bool.not_false,Bool.true_or,Bool.false_or,Bool.or_true,Bool.or_false,Bool.and_true,Bool.and_false,Bool.true_and,Bool.false_and,if_true,if_false,Bool.false_eq_true,z_rv,XL,ZL,ld_0,ZdB,ld_1,EVs,retV] <;> rfl
end Go.Proofs.YtmbhnbladmpnoaaGreat.Ab
/- Keys and ranges: Has,least,below. -/
namespace Go.Proofs.YtmbhnbladmpnoaaGreat.Ab
open Go
end Go.Proofs.YtmbhnbladmpnoaaGreat.Ab
/- Ranges: what two have in common,and what covers. -/
namespace Go.Proofs.YtmbhnbladmpnoaaGreat.Ab
open Go
theorem ab2 (x y : BL) : AU Tryz.prog 24 [(0,sv x),(1,sv y)] = some (rv (x,y)) := by kernel_rfl
theorem eR_n {r : Rg} : (eR r != 0) = !ckR r := by unfold eR; cases ckR r <;> rfl
theorem eK_n {k : BL} : (eK k != 0) = !ckK k := by unfold eK; cases ckK k <;> rfl
end Go.Proofs.YtmbhnbladmpnoaaGreat.Ab
/- Ranges: the reference's answers to what two have in common,and to what covers. -/
namespace Go.Proofs.YtmbhnbladmpnoaaGreat.Ab
open Go
end Go.Proofs.YtmbhnbladmpnoaaGreat.Ab
/- Ranges: a range in two. -/
namespace Go.Proofs.YtmbhnbladmpnoaaGreat.Ab
open Go
end Go.Proofs.YtmbhnbladmpnoaaGreat.Ab
/- What is Bq of the functions of keys and ranges: told as sums. -/
namespace Go.Proofs.YtmbhnbladmpnoaaGreat.Ab
open Go
theorem progOk : QR Tryz.prog = true := by kernel_rfl
def gKey : Sum := gP (G1K fun k => .int .i64 (eK k))
def gChk : Sum := gP (G1R fun r => .int .i64 (eR r))
def G0 (v : Value) : List Value → Option Value
  | [] => some v
  | _ => none
def gAll : Sum := gP (G0 (rv ([],[])))
theorem SV {k : BL} {s : St} : gKey [sv k] s = some (.int .i64 (eK k),s) := rfl
theorem XN {r : Rg} {s : St} : gChk [rv r] s = some (.int .i64 (eR r),s) := rfl
theorem ZdC {s : St} : gAll [] s = some (rv ([],[]),s) := rfl
end Go.Proofs.YtmbhnbladmpnoaaGreat.Ab
/- The range of a key: the reference's loop. -/
namespace Go.Proofs.YtmbhnbladmpnoaaGreat.Ab
open Go
end Go.Proofs.YtmbhnbladmpnoaaGreat.Ab
/- The range of a key: what both functions do. -/
namespace Go.Proofs.YtmbhnbladmpnoaaGreat.Ab
open Go
end Go.Proofs.YtmbhnbladmpnoaaGreat.Ab
/- Strings have ranks: what is plain of keys and ranges. -/
namespace Go.Proofs.YtmbhnbladmpnoaaGreat.Ab
open Go
end Go.Proofs.YtmbhnbladmpnoaaGreat.Ab
/- What is plain of keys and ranges,further. -/
namespace Go.Proofs.YtmbhnbladmpnoaaGreat.Ab
open Go
theorem Zbl : ∀ {v o : BL},(∀ c ∈ v,c = 255) → bl o v = false → o.length ≤ v.length → o = v
  | [],[],_,_,_ => rfl
  | [],_ :: _,_,_,h => by simp at h
  | _ :: _,[],_,h,_ => by cases h
  | c :: v,y :: o,hv,h,hl => by
    have hc := hv c (List.mem_cons_self ..)
    subst hc
    have h1 : ¬ (y.toNat < (255 : UInt8).toNat ∨ (y = 255 ∧ bl o v = true)) := fun g => by rw [Jr.2 g] at h; cases h
    have h2 : (255 : UInt8).toNat = 255 := rfl
    have h3 := y.toNat_lt
    have hy : y = 255 := UInt8.toNat_inj.1 (by omega)
    subst hy
    rw [Zbl (v := v) (o := o) (fun c hc => hv c (List.mem_cons_of_mem _ hc)) (by
      cases e : bl o v with
      | false => rfl
      | true => exact absurd (.inr ⟨rfl,e⟩) h1) (by simpa using hl)]
theorem Zb7 {x : UInt8} (hx : x ≠ 255) {v : BL} (hv : ∀ c ∈ v,c = 255) : ∀ {u o : BL},bl o (u ++ x :: v) = false → bl o (u ++ [x + 1]) = true → o.length ≤ (u ++ x :: v).length → o = u ++ x :: v
  | [],[],h,_,_ => by cases h
  | [],y :: o,h,g,hl => by
    have hx1 : (x + 1).toNat = x.toNat + 1 := by
      have h1 := x.toNat_lt
      have h2 : x.toNat ≠ 255 := fun e => hx (UInt8.toNat_inj.1 e)
      rw [UInt8.toNat_add]
      have : (1 : UInt8).toNat = 1 := rfl
      omega
    have h1 : ¬ (y.toNat < x.toNat ∨ (y = x ∧ bl o v = true)) := fun g => by rw [List.nil_append,Jr.2 g] at h; cases h
    rw [List.nil_append,Jr] at g
    rw [ZI] at g
    have hy : y = x := UInt8.toNat_inj.1 (by
      rcases g with g | ⟨_,g⟩
      · omega
      · cases g)
    subst hy
    rw [Zbl (v := v) (o := o) hv (by
      cases e : bl o v with
      | false => rfl
      | true => exact absurd (.inr ⟨rfl,e⟩) h1) (by simpa using hl)]
    rfl
  | _ :: _,[],h,_,_ => by cases h
  | c :: u,y :: o,h,g,hl => by
    have h1 : ¬ (y.toNat < c.toNat ∨ (y = c ∧ bl o (u ++ x :: v) = true)) := fun g => by rw [List.cons_append,Jr.2 g] at h; cases h
    rw [List.cons_append,Jr] at g
    have hy : y = c := by
      rcases g with g | g
      · exact absurd (.inl g) h1
      · exact g.1
    subst hy
    have g2 : bl o (u ++ [x + 1]) = true := by
      rcases g with g | g
      · omega
      · exact g.2
    rw [Zb7 hx hv (u := u) (o := o) (by
      cases e : bl o (u ++ x :: v) with
      | false => rfl
      | true => exact absurd (.inr ⟨rfl,e⟩) h1) g2 (by simpa using hl)]
    rfl
theorem Ze2 {x : UInt8} (hx : x ≠ 255) {v : BL} : ∀ {u : BL},bl (u ++ x :: v) (u ++ [x + 1]) = true
  | [] => by
    rw [List.nil_append,List.nil_append,Jr]
    left
    have h1 := x.toNat_lt
    have h2 : x.toNat ≠ 255 := fun e => hx (UInt8.toNat_inj.1 e)
    rw [UInt8.toNat_add]
    have : (1 : UInt8).toNat = 1 := rfl
    omega
  | c :: u => by
    rw [List.cons_append,List.cons_append,Jr]
    exact .inr ⟨rfl,Ze2 hx⟩
end Go.Proofs.YtmbhnbladmpnoaaGreat.Ab

/- Compared strings: Bq by the kit's walk. -/
namespace Go.Proofs.YtmbhnbladmpnoaaGreat.Ab
open Go Go.RowKit Go.Lib
theorem H1 {P : Program} (hprog : QR P = true) {l : List (FuncId × Sum)} (hl : Br P (libL l)) {f : FuncId} {g : Sum} (hok : Ap P f = true)
    (hg : Br P (libL l) → ∀ args s v s',g args s = some (v,s') → ∀ wb ι w (args' : Array Value),Sim wb ι s.heap w → All2 (VRel ι) args args'.toList → Calls P f args' w fun e w' => ∃ v',e = .returned v' ∧ A8 wb ι s.heap w s'.heap v v' w') : Br P (libL ((f,g) :: l)) := by
  intro f' g' hf' args s v s' h wb ι w args' hs ha
  simp only [libL] at hf'
  split at hf'
  · rename_i hff
    cases hf'
    subst hff
    exact hg hl args s v s' h wb ι w args' hs ha
  · exact hl f' g' hf' args s v s' h wb ι w args' hs ha
set_option maxHeartbeats 1000000 in
set_option maxRecDepth 100000 in
theorem Ul (a b : ByteArray) (w : World) :
    Calls Tryz.prog 183 #[.string a,.string b] w fun e w' => e = .returned (.int .i64 (Lib.compareBytes a.data.toList b.data.toList)) ∧ w' = w := by
  go_enter Tryz.func183,Tryz.ntmps183
  go_wp2
  rw [run_callFunc_extern Tryz.func185 (by kernel_rfl) (by kernel_rfl) (by kernel_rfl) (e := Extern.BytealgCompare.compare) (by kernel_rfl),Lib.run_compareString]
  simp only [Result.andThen]
  rw [Oper.upon_value]
  go_wp2
  go_ret
  exact ⟨rfl,rfl⟩
end Go.Proofs.YtmbhnbladmpnoaaGreat.Ab

/- Owners: as values; which may be; what one has. -/
namespace Go.Proofs.YtmbhnbladmpnoaaGreat.Ab
open Go
theorem ZM {v : Value} {s : St} (h : E0 v = true := by rfl) : retV [v] s = some (v,s) := by simp [retV,h,FK]
theorem XO {u v : Value} {s : St} (h : E0 u = true := by rfl) (g : E0 v = true := by rfl) : retV [u,v] s = some (.tuple #[u,v],s) := by simp [retV,h,g,FK]
theorem Wl {i : Nat} (h : i < 140737488355328) : IntKind.wrap .i64 ((i : Int) + 1) = ((i + 1 : Nat) : Int) := by rw [wrap_i64 (by omega) (by omega)]; omega
theorem ZN {i : Nat} (h : i < 140737488355328) : IntKind.wrap .i64 (((i + 1 : Nat) : Int) - 1) = ((i : Nat) : Int) := by rw [wrap_i64 (by omega) (by omega)]; omega
abbrev Ow := BL × Int
def owV (o : Ow) : Value := .agg #[sv o.1,.int .i64 o.2]
def owC : Cod Ow where
  n := 2
  enc o := [sv o.1,.int .i64 o.2]
  pos := by decide
  len _ := rfl
  inj := by
    rintro ⟨a,i⟩ ⟨b,j⟩ h
    simp only [sv,List.cons.injEq,Value.string.injEq,Value.int.injEq,true_and,and_true,ByteArray.mk.injEq,true_and] at h
    have := congrArg Array.toList h.1
    simp only at this
    rw [Prod.mk.injEq]
    exact ⟨this,h.2⟩
  leaf _ := rfl
theorem Zbm (o : Ow) : Value.agg (owC.enc o).toArray = owV o := rfl
theorem w_st (o p : Ow) : AN 2 lptr (owV o) (owV p) = some (owV o) := rfl
theorem w_z : (Value.agg #[(.string ⟨#[]⟩),(.int .i64 0)]) = owV ([],0) := rfl
theorem w_z2 : (Value.agg #[sv [],(.int .i64 0)]) = owV ([],0) := rfl
theorem w_1 (o : Ow) : Ao false 1 (.pointer (some ⟨0,1,none⟩)) (owV o) = some (.int .i64 o.2) := rfl
theorem w_0 (o : Ow) : Ao false 1 lptr (owV o) = some (sv o.1) := rfl
theorem Ze3 (o : Ow) : lbox (owV o) = some (owV o) := rfl
def shOk (n : Int) : Bool := !(decide (n < 1)) && !(decide (n > 4))
def okF : Option BL → List Ow → Bool
  | _,[] => true
  | none,o :: l => shOk o.2 && okF (some o.1) l
  | some p,o :: l => shOk o.2 && (ckK o.1 && bl p o.1) && okF (some o.1) l
def okO (l : List Ow) : Bool := match l with
  | [] => false
  | o :: r => decide (r.length < 6) && o.1 == [] && okF none (o :: r)
def eO (l : List Ow) : Int := if okO l then 0 else 170
theorem eO_0 {l : List Ow} : (eO l == 0) = okO l := by unfold eO; cases okO l <;> rfl
def Hh (l : List Ow) : Nat → Option BL
  | 0 => none
  | i + 1 => l[i]?.map (·.1)
theorem RI {α : Type} {l rest : List α} {o : α} {i : Nat} (h : l.drop i = o :: rest) : ∃ hi : i < l.length,l[i] = o ∧ l.drop (i + 1) = rest := by
  have hi : i < l.length := by
    rcases Nat.lt_or_ge i l.length with g | g
    · exact g
    · rw [List.drop_eq_nil_of_le g] at h; cases h
  rw [← List.getElem_cons_drop (h := hi)] at h
  exact ⟨hi,(List.cons.inj h).1,(List.cons.inj h).2⟩
theorem Oz {R : Aa} (hK : ∀ k s,R 133 [sv k] s = some (.int .i64 (eK k),s)) {v : Value} {s : St} {l : List Ow} (h : Bm owC v s = some l) {i : Nat} (hi : i < l.length) (hl : l.length < 140737488355328) :
    Cw.b0 R [v,v,.int .i64 ((l.length : Nat) : Int),.int .i64 (i : Int)] s = if (shOk l[i].2 && (match Hh l i with | none => true | some p => ckK l[i].1 && bl p l[i].1)) = true then some (.normal,[v,v,.int .i64 ((l.length : Nat) : Int),.int .i64 ((i + 1 : Nat) : Int)],s) else some (.ret,[.int .i64 170],s) := by
  have h1 : decide ((i : Int) < ((l.length : Nat) : Int)) = true := by simp; omega
  obtain ⟨p,g1,g2⟩ := QV h hi (k := .i64) (n := 2) rfl
  rw [Zbm] at g2
  unfold Cw.b0
  simp only [BT,CU,Dh,DD,Pe,h1,Va,CV,g1,g2,KC,w_z,w_z2,w_st,w_1]
  have hsh : shOk l[i].2 = (!(decide (l[i].2 < 1)) && !(decide (l[i].2 > 4))) := rfl
  rw [hsh]
  cases c1 : decide (l[i].2 < 1)
  · cases c2 : decide (l[i].2 > 4)
    · cases i with
      | zero =>
        have c3 : decide (((0 : Nat) : Int) > 0) = false := rfl
        simp only [Hh,w_1,Et,c1,c2,c3,EVs,Gv,Wl (show 0 < 140737488355328 by omega),Bool.not_false,Bool.and_self,if_true]
      | succ j =>
        have c3 : decide (((j + 1 : Nat) : Int) > 0) = true := decide_eq_true (by omega)
        have hj : j < l.length := by omega
        obtain ⟨q,f1,q2,f2,f3⟩ := Gg h hj (j := 0) (c := sv l[j].1) rfl (k := .i64) (n := 2) rfl
        have hp : Hh l (j + 1) = some l[j].1 := by simp only [Hh,List.getElem?_eq_getElem hj,Option.map_some]
        rw [hp]
        cases c4 : ckK l[j + 1].1
        · simp only [w_0,w_1,Et,c1,c2,c3,EVs,Gv,B8,hK,eK_n,c4,Bool.not_false,Bool.not_true,Bool.and_self,Bool.false_and,Bool.and_false,Bool.false_eq_true,if_false]
        · cases c5 : bl l[j].1 l[j + 1].1
          · simp only [w_0,w_1,Et,c1,c2,c3,c4,c5,EVs,Gv,B8,hK,eK_n,ZN (show j < 140737488355328 by omega),f1,f2,f3,Qh,Bool.not_false,Bool.not_true,Bool.and_self,Bool.false_and,Bool.and_false,Bool.false_eq_true,if_false]
          · simp only [w_0,w_1,Et,c1,c2,c3,c4,c5,EVs,Gv,B8,hK,eK_n,ZN (show j < 140737488355328 by omega),f1,f2,f3,Qh,Wl (show j + 1 < 140737488355328 by omega),Bool.not_false,Bool.not_true,Bool.and_self,Bool.false_and,Bool.and_false,Bool.false_eq_true,if_true]
    · simp only [w_1,Et,c1,c2,EVs,Gv,Bool.not_false,Bool.not_true,Bool.and_false,Bool.false_and,Bool.false_eq_true,if_false]
  · simp only [c1,EVs,Gv,Bool.not_true,Bool.false_and,Bool.false_eq_true,if_false]
theorem MV {R : Aa} (hK : ∀ k s,R 133 [sv k] s = some (.int .i64 (eK k),s)) {v : Value} {s : St} {l : List Ow} (h : Bm owC v s = some l) (hl : l.length < 140737488355328) : ∀ (rest : List Ow) (i : Nat),l.drop i = rest → i ≤ l.length →
    AV (Cw.b0 R) [v,v,.int .i64 ((l.length : Nat) : Int),.int .i64 (i : Int)] s = if okF (Hh l i) rest = true then some (.exit 0,[],s) else some (.ret,[.int .i64 170],s) := by
  intro rest
  induction rest with
  | nil =>
    intro i hi hle
    have h1 : decide ((i : Int) < ((l.length : Nat) : Int)) = false := by
      have := List.drop_eq_nil_iff.1 hi
      simp; omega
    rw [As]
    simp only [Cw.b0,h1,EVs,okF,if_true]
  | cons o rest ih =>
    intro i hi hle
    obtain ⟨hlt,he,hd⟩ := RI hi
    rw [As,Oz hK h hlt hl,he]
    have hn : Hh l (i + 1) = some o.1 := by simp only [Hh,List.getElem?_eq_getElem hlt,he,Option.map_some]
    have key := ih (i + 1) hd (by omega)
    rw [hn] at key
    cases hp : Hh l i with
    | none =>
      simp only [okF,Bool.and_true]
      by_cases c : shOk o.2 = true
      · simp only [c,Bool.true_and,if_true,Qa,key]
      · have c2 : shOk o.2 = false := by simpa using c
        simp only [c2,Bool.false_and,Bool.false_eq_true,if_false,Qb]
    | some p =>
      simp only [okF]
      by_cases c : (shOk o.2 && (ckK o.1 && bl p o.1)) = true
      · simp only [c,Bool.true_and,if_true,Qa,key]
      · have c2 : (shOk o.2 && (ckK o.1 && bl p o.1)) = false := by simpa using c
        simp only [c2,Bool.false_and,Bool.false_eq_true,if_false,Qb]
theorem OA {R : Aa} (hK : ∀ k s,R 133 [sv k] s = some (.int .i64 (eK k),s)) {v : Value} {s : St} {l : List Ow} (h : Bm owC v s = some l) (hl : l.length < 140737488355328) : Cw R v s = some (.int .i64 (eO l),s) := by
  have key := MV hK h hl l 0 rfl (Nat.zero_le _)
  rw [show ((0 : Nat) : Int) = 0 from rfl] at key
  unfold Cw eO okO
  cases l with
  | nil =>
    have c1 : ∀ e s2,AP (.slice e) v s2 = some (.int .i64 0) := fun e s2 => DM h
    have z0 : decide ((0 : Int) < 1) = true := rfl
    have z1 : ((0 : Int) == 0) = true := rfl
    simp only [c1,z0,z1,EVs,retV]
    rfl
  | cons o r =>
    have c1 : (((o :: r).length : Int) == 0) = false := by simp only [List.length_cons,beq_eq_false_iff_ne]; omega
    have c1b : decide (((o :: r).length : Int) < 1) = false := by simp only [List.length_cons,decide_eq_false_iff_not]; omega
    have c2 : decide (((o :: r).length : Int) > 6) = !decide (r.length < 6) := by
      by_cases g : r.length < 6
      · simp only [g,decide_true,Bool.not_true,decide_eq_false_iff_not,List.length_cons]; omega
      · simp only [g,decide_false,Bool.not_false,decide_eq_true_eq,List.length_cons]; omega
    obtain ⟨p,f1,q,f2,f3⟩ := Gg h (i := 0) (by simp) (j := 0) (c := sv o.1) rfl (k := .i64) (n := 2) rfl
    have f1' : AC 2 v (.int .i64 0) = some p := f1
    simp only [DM h,c1,c1b,c2,KC,EVs]
    rcases Bool.eq_false_or_eq_true (decide (r.length < 6)) with g1 | g1
    · rcases Bool.eq_false_or_eq_true (o.1 == []) with g2 | g2
      · simp only [g1,Bool.not_true,EVs,f1',f2,f3,IP,g2,DM h,key]
        simp only [Hh,Bool.true_and]
        rcases Bool.eq_false_or_eq_true (okF none (o :: r)) with g3 | g3
        · simp only [g3,if_true,EVs,retV]
          rfl
        · simp only [g3,Bool.false_eq_true,if_false,EVs,retV]
          rfl
      · simp only [g1,Bool.not_true,EVs,f1',f2,f3,IP,g2,Bool.not_false,Bool.and_false,Bool.false_and,Bool.false_eq_true,if_false,retV]
        rfl
    · simp only [g1,Bool.not_false,EVs,Bool.false_and,Bool.false_eq_true,if_false,retV]
      rfl
theorem OB {R : Aa} (hK : ∀ k s,R 114 [sv k] s = some (.int .i64 (eK k),s)) {v : Value} {s : St} {l : List Ow} (h : Bm owC v s = some l) {i : Nat} (hi : i < l.length) (hl : l.length < 140737488355328) :
    Cv.b0 R [v,v,.int .i64 ((l.length : Nat) : Int),.int .i64 (i : Int)] s = if (shOk l[i].2 && (match Hh l i with | none => true | some p => ckK l[i].1 && bl p l[i].1)) = true then some (.normal,[v,v,.int .i64 ((l.length : Nat) : Int),.int .i64 ((i + 1 : Nat) : Int)],s) else some (.ret,[.int .i64 170],s) := by
  have h1 : decide ((i : Int) < ((l.length : Nat) : Int)) = true := by simp; omega
  obtain ⟨p,g1,g2⟩ := QV h hi (k := .i64) (n := 2) rfl
  rw [Zbm] at g2
  unfold Cv.b0
  simp only [BT,CU,Dh,DD,Pe,h1,Va,CV,g1,g2,KC,w_z,w_z2,w_st,w_1]
  have hsh : shOk l[i].2 = (!(decide (l[i].2 < 1)) && !(decide (l[i].2 > 4))) := rfl
  rw [hsh]
  cases c1 : decide (l[i].2 < 1)
  · cases c2 : decide (l[i].2 > 4)
    · cases i with
      | zero =>
        have c3 : decide (((0 : Nat) : Int) > 0) = false := rfl
        simp only [Hh,w_1,Et,c1,c2,c3,EVs,Gv,Wl (show 0 < 140737488355328 by omega),Bool.not_false,Bool.and_self,if_true]
      | succ j =>
        have c3 : decide (((j + 1 : Nat) : Int) > 0) = true := decide_eq_true (by omega)
        have hj : j < l.length := by omega
        obtain ⟨q,f1,q2,f2,f3⟩ := Gg h hj (j := 0) (c := sv l[j].1) rfl (k := .i64) (n := 2) rfl
        have hp : Hh l (j + 1) = some l[j].1 := by simp only [Hh,List.getElem?_eq_getElem hj,Option.map_some]
        rw [hp]
        cases c4 : ckK l[j + 1].1
        · simp only [w_0,w_1,Et,c1,c2,c3,EVs,Gv,Cx,hK,eK_n,c4,Bool.not_false,Bool.not_true,Bool.and_self,Bool.false_and,Bool.and_false,Bool.false_eq_true,if_false]
        · cases c5 : bl l[j].1 l[j + 1].1
          · simp only [w_0,w_1,Et,c1,c2,c3,c4,c5,EVs,Gv,Cx,hK,eK_n,ZN (show j < 140737488355328 by omega),f1,f2,f3,Qh,Bool.not_false,Bool.not_true,Bool.and_self,Bool.false_and,Bool.and_false,Bool.false_eq_true,if_false]
          · simp only [w_0,w_1,Et,c1,c2,c3,c4,c5,EVs,Gv,Cx,hK,eK_n,ZN (show j < 140737488355328 by omega),f1,f2,f3,Qh,Wl (show j + 1 < 140737488355328 by omega),Bool.not_false,Bool.not_true,Bool.and_self,Bool.false_and,Bool.and_false,Bool.false_eq_true,if_true]
    · simp only [w_1,Et,c1,c2,EVs,Gv,Bool.not_false,Bool.not_true,Bool.and_false,Bool.false_and,Bool.false_eq_true,if_false]
  · simp only [c1,EVs,Gv,Bool.not_true,Bool.false_and,Bool.false_eq_true,if_false]
theorem MW {R : Aa} (hK : ∀ k s,R 114 [sv k] s = some (.int .i64 (eK k),s)) {v : Value} {s : St} {l : List Ow} (h : Bm owC v s = some l) (hl : l.length < 140737488355328) : ∀ (rest : List Ow) (i : Nat),l.drop i = rest → i ≤ l.length →
    AV (Cv.b0 R) [v,v,.int .i64 ((l.length : Nat) : Int),.int .i64 (i : Int)] s = if okF (Hh l i) rest = true then some (.exit 0,[],s) else some (.ret,[.int .i64 170],s) := by
  intro rest
  induction rest with
  | nil =>
    intro i hi hle
    have h1 : decide ((i : Int) < ((l.length : Nat) : Int)) = false := by
      have := List.drop_eq_nil_iff.1 hi
      simp; omega
    rw [As]
    simp only [Cv.b0,h1,EVs,okF,if_true]
  | cons o rest ih =>
    intro i hi hle
    obtain ⟨hlt,he,hd⟩ := RI hi
    rw [As,OB hK h hlt hl,he]
    have hn : Hh l (i + 1) = some o.1 := by simp only [Hh,List.getElem?_eq_getElem hlt,he,Option.map_some]
    have key := ih (i + 1) hd (by omega)
    rw [hn] at key
    cases hp : Hh l i with
    | none =>
      simp only [okF,Bool.and_true]
      by_cases c : shOk o.2 = true
      · simp only [c,Bool.true_and,if_true,Qa,key]
      · have c2 : shOk o.2 = false := by simpa using c
        simp only [c2,Bool.false_and,Bool.false_eq_true,if_false,Qb]
    | some p =>
      simp only [okF]
      by_cases c : (shOk o.2 && (ckK o.1 && bl p o.1)) = true
      · simp only [c,Bool.true_and,if_true,Qa,key]
      · have c2 : (shOk o.2 && (ckK o.1 && bl p o.1)) = false := by simpa using c
        simp only [c2,Bool.false_and,Bool.false_eq_true,if_false,Qb]
theorem OC {R : Aa} (hK : ∀ k s,R 114 [sv k] s = some (.int .i64 (eK k),s)) {v : Value} {s : St} {l : List Ow} (h : Bm owC v s = some l) (hl : l.length < 140737488355328) : Cv R v s = some (.int .i64 (eO l),s) := by
  have key := MW hK h hl l 0 rfl (Nat.zero_le _)
  rw [show ((0 : Nat) : Int) = 0 from rfl] at key
  unfold Cv eO okO
  cases l with
  | nil =>
    have c1 : ∀ e s2,AP (.slice e) v s2 = some (.int .i64 0) := fun e s2 => DM h
    have z0 : decide ((0 : Int) < 1) = true := rfl
    have z1 : ((0 : Int) == 0) = true := rfl
    simp only [c1,z0,z1,EVs,retV]
    rfl
  | cons o r =>
    have c1 : (((o :: r).length : Int) == 0) = false := by simp only [List.length_cons,beq_eq_false_iff_ne]; omega
    have c1b : decide (((o :: r).length : Int) < 1) = false := by simp only [List.length_cons,decide_eq_false_iff_not]; omega
    have c2 : decide (((o :: r).length : Int) > 6) = !decide (r.length < 6) := by
      by_cases g : r.length < 6
      · simp only [g,decide_true,Bool.not_true,decide_eq_false_iff_not,List.length_cons]; omega
      · simp only [g,decide_false,Bool.not_false,decide_eq_true_eq,List.length_cons]; omega
    obtain ⟨p,f1,q,f2,f3⟩ := Gg h (i := 0) (by simp) (j := 0) (c := sv o.1) rfl (k := .i64) (n := 2) rfl
    have f1' : AC 2 v (.int .i64 0) = some p := f1
    simp only [DM h,c1,c1b,c2,KC,EVs]
    rcases Bool.eq_false_or_eq_true (decide (r.length < 6)) with g1 | g1
    · rcases Bool.eq_false_or_eq_true (o.1 == []) with g2 | g2
      · simp only [g1,Bool.not_true,EVs,f1',f2,f3,IP,g2,DM h,key]
        simp only [Hh,Bool.true_and]
        rcases Bool.eq_false_or_eq_true (okF none (o :: r)) with g3 | g3
        · simp only [g3,if_true,EVs,retV]
          rfl
        · simp only [g3,Bool.false_eq_true,if_false,EVs,retV]
          rfl
      · simp only [g1,Bool.not_true,EVs,f1',f2,f3,IP,g2,Bool.not_false,Bool.and_false,Bool.false_and,Bool.false_eq_true,if_false,retV]
        rfl
    · simp only [g1,Bool.not_false,EVs,Bool.false_and,Bool.false_eq_true,if_false,retV]
      rfl
end Go.Proofs.YtmbhnbladmpnoaaGreat.Ab

/- A law's arguments: lists of owners. -/
namespace Go.Proofs.YtmbhnbladmpnoaaGreat.Ab
open Go Go.ChangeShapes Go.WideShapes
theorem Zb8 : Tryz.prog.cellsOf 3 = 1 := by kernel_rfl
theorem Zb9 : Tryz.prog.cellsOf 9 = 1 := by kernel_rfl
set_option maxRecDepth 100000 in
theorem Ze4 {H : Type} {enc : TypeId × Value → H} {W : World} {base : Nat} {sp : Nat → Bool} {held : Bool} {n : Nat} {cs : List Value} {y : DataW H × List MemPlace} (h : DataW.trod enc Tryz.prog W base sp held n 91 cs = some y) : ∃ a : Ow,cs = owC.enc a := by
  obtain ⟨xs,m,_,rfl,hl,hlen,hf⟩ := DataW.trod_struct Tryz.underlying91 h
  have c : Tryz.prog.cellsOf 91 = 2 := by kernel_rfl
  rw [c] at hl
  match xs,hlen,cs,hl with
  | [y0,y1],_,[c0,c1],_ =>
    have t0 : DataW.trod enc Tryz.prog W base sp held m 9 (([c0,c1].drop 0).take (Tryz.prog.cellsOf 9)) = some y0 := hf 0 _ rfl
    have t1 : DataW.trod enc Tryz.prog W base sp held m 3 (([c0,c1].drop 1).take (Tryz.prog.cellsOf 3)) = some y1 := hf 1 _ rfl
    rw [Zb9] at t0
    rw [Zb8] at t1
    simp only [List.drop_succ_cons,List.drop_zero,List.take_succ_cons,List.take_zero] at t0 t1
    obtain ⟨a,e0,_,_⟩ := DataW.trod_string Tryz.underlying9 t0
    obtain ⟨b,e1,_,_⟩ := DataW.trod_int Tryz.underlying3 t1
    simp only [List.cons.injEq,and_true] at e0 e1
    subst e0 e1
    refine ⟨(a.data.toList,b),?_⟩
    show _ = [sv _,_]
    rw [← Jo]
end Go.Proofs.YtmbhnbladmpnoaaGreat.Ab

/- slices.Insert within a slice: what the kit's walk shows of the model,told of the abstract machine. -/
namespace Go.Proofs.YtmbhnbladmpnoaaGreat.Ab
open Go
structure InsWalk (P : Program) (f : FuncId) (t e tI ov : TypeId) (nn wd : Nat) : Prop where
  ht : P.underlying t = some (.slice e)
  hI : P.underlying tI = some (.int .i64)
  hn : BV P e = some nn
  hw : Ho P e = some wd
  hz : ∃ z,DZ P e = some z ∧ (An z).length = nn
  hn2 : 2 ≤ nn
  hw0 : 0 < wd
  hov : ∀ (w : World) (a b : Addr) (la ca lb cb : Nat),a.block ≠ b.block → ∀ tA tB kA kB,w.shape? a.block = some (tA,kA) → w.shape? b.block = some (tB,kB) → kB ≠ 0 → w.frozen? a = false → w.frozen? { block := a.block,off := kA } = false →
    (callFunc ov #[.slice (some a) la ca,.slice (some b) lb cb]).run P w = .ok (.value (.bool false)) w
  walkD : ∀ (b off n c i vb voff m vc : Nat) (w : World),i < n → 0 < m → n + m ≤ c → n + m ≤ 9223372036854775807 →
    (∀ lb cb,(callFunc ov #[.slice (some ⟨vb,voff,none⟩) m vc,.slice (some ⟨b,off + (i + m) * nn,none⟩) lb cb]).run P w = .ok (.value (.bool false)) w) →
    ∀ (W1 : World) (r1 : Value),(∀ ty dc sc,(Builtin.copy_ #[t,t] ty #[.slice (some ⟨b,off + (i + m) * nn,none⟩) (n + m - (i + m)) dc,.slice (some ⟨b,off + i * nn,none⟩) (n + m - i) sc]).run P w.drew = .ok r1 W1) →
    ∀ (W2 : World) (r2 : Value),(∀ ty dc,(Builtin.copy_ #[t,t] ty #[.slice (some ⟨b,off + i * nn,none⟩) (n + m - i) dc,.slice (some ⟨vb,voff,none⟩) m vc]).run P W1 = .ok r2 W2) →
    Calls P f #[.slice (some ⟨b,off,none⟩) n c,.int .i64 i,.slice (some ⟨vb,voff,none⟩) m vc] w fun e w' => e = .returned (.slice (some ⟨b,off,none⟩) (n + m) c) ∧ w' = W2
  walkE : ∀ (b off n c i vb voff m vc : Nat) (w : World),i < n → 0 < m → n ≤ c → c < n + m → n + m ≤ 9223372036854775807 →
    ∀ (W0 : World) (N cap : Nat),n + m ≤ cap → (∀ ty,(Builtin.append_ #[t,tI] ty #[.slice (some ⟨b,off,none⟩) i c,.int .i64 ((n : Int) + (m : Int) - (i : Int))]).run P w = .ok (.slice (some ⟨N,0,none⟩) (n + m) cap) W0) →
    ∀ (W1 : World) (r1 : Value),(∀ ty dc,(Builtin.copy_ #[t,t] ty #[.slice (some ⟨N,i * nn,none⟩) (n + m - i) dc,.slice (some ⟨vb,voff,none⟩) m vc]).run P W0 = .ok r1 W1) →
    ∀ (W2 : World) (r2 : Value),(∀ ty dc sc,(Builtin.copy_ #[t,t] ty #[.slice (some ⟨N,(i + m) * nn,none⟩) (n + m - (i + m)) dc,.slice (some ⟨b,off + i * nn,none⟩) (n - i) sc]).run P W1.drew = .ok r2 W2) →
    Calls P f #[.slice (some ⟨b,off,none⟩) n c,.int .i64 i,.slice (some ⟨vb,voff,none⟩) m vc] w fun e w' => e = .returned (.slice (some ⟨N,0,none⟩) (n + m) cap) ∧ w' = W2
end Go.Proofs.YtmbhnbladmpnoaaGreat.Ab

/- slices.Insert of pairs: Bq by the kit's walks. -/
namespace Go.Proofs.YtmbhnbladmpnoaaGreat.Ab
open Go Go.RowKit Go.Lib Go.Shelf
set_option maxHeartbeats 4000000 in
set_option maxRecDepth 100000 in
theorem InsD (b off n c i vb voff m vc : Nat) (w : World) (hi : i < n) (hm : 0 < m) (hroom : n + m ≤ c) (hc63 : n + m ≤ 9223372036854775807)
    (hov : ∀ lb cb,(callFunc 181 #[.slice (some ⟨vb,voff,none⟩) m vc,.slice (some ⟨b,off + (i + m) * 2,none⟩) lb cb]).run Tryz.prog w = .ok (.value (.bool false)) w)
    (W1 : World) (r1 : Value) (hcp1 : ∀ ty dc sc,(Builtin.copy_ #[85,85] ty #[.slice (some ⟨b,off + (i + m) * 2,none⟩) (n + m - (i + m)) dc,.slice (some ⟨b,off + i * 2,none⟩) (n + m - i) sc]).run Tryz.prog w.drew = .ok r1 W1)
    (W2 : World) (r2 : Value) (hcp2 : ∀ ty dc,(Builtin.copy_ #[85,85] ty #[.slice (some ⟨b,off + i * 2,none⟩) (n + m - i) dc,.slice (some ⟨vb,voff,none⟩) m vc]).run Tryz.prog W1 = .ok r2 W2) :
    Calls Tryz.prog 174 #[.slice (some ⟨b,off,none⟩) n c,.int .i64 i,.slice (some ⟨vb,voff,none⟩) m vc] w fun e w' => e = .returned (.slice (some ⟨b,off,none⟩) (n + m) c) ∧ w' = W2 := by
  have hz1 : ¬ ((m : Int) = 0) := by omega
  have hz2 : ¬ ((i : Int) = (n : Int)) := by omega
  have hsz : (Tryz.prog.info? 89).map (·.size) = some 2 := by kernel_rfl
  have hw1 : IntKind.i64.wrap ((i : Int) + (m : Int)) = (i : Int) + (m : Int) := by rw [IntKind.wrap_i64]; omega
  have hb1 : (0 : Int) ≤ (i : Int) + (m : Int) := by omega
  have hin : i ≤ n := by omega
  have htn : ((i : Int) + (m : Int)).toNat = i + m := by omega
  have hb2 : ¬ (c = i + m) := by omega
  have hb3 : (i : Int) ≤ (n : Int) + (m : Int) := by omega
  have hb4 : ¬ (c = i) := by omega
  have mixed : Tryz.prog.follows .mixedOrders = true := by kernel_rfl
  go_enter Tryz.func174,Tryz.ntmps174
  go_wp2_with (simp only [hov])
  go_region_law_o (refine step_copy_runI rfl _ _ 85 85 rfl _ _ (by simp [Act.eval,Act.put]) (by simp [Act.eval,Act.put]) (hcp1 _ _ _) ?_)
  go_wp2_with (at_builtin; refine wpList_copy_runI _ rfl _ _ 85 85 rfl _ _ rfl rfl (hcp2 _ _) ?_)
  go_ret
  exact ⟨rfl,rfl⟩
set_option maxHeartbeats 4000000 in
set_option maxRecDepth 100000 in
theorem InsE (b off n c i vb voff m vc : Nat) (w : World) (hi : i < n) (hm : 0 < m) (hnc : n ≤ c) (hroom : c < n + m) (hc63 : n + m ≤ 9223372036854775807)
    (W0 : World) (N cap : Nat) (hcap : n + m ≤ cap) (hap : ∀ ty,(Builtin.append_ #[85,3] ty #[.slice (some ⟨b,off,none⟩) i c,.int .i64 ((n : Int) + (m : Int) - (i : Int))]).run Tryz.prog w = .ok (.slice (some ⟨N,0,none⟩) (n + m) cap) W0)
    (W1 : World) (r1 : Value) (hcp1 : ∀ ty dc,(Builtin.copy_ #[85,85] ty #[.slice (some ⟨N,i * 2,none⟩) (n + m - i) dc,.slice (some ⟨vb,voff,none⟩) m vc]).run Tryz.prog W0 = .ok r1 W1)
    (W2 : World) (r2 : Value) (hcp2 : ∀ ty dc sc,(Builtin.copy_ #[85,85] ty #[.slice (some ⟨N,(i + m) * 2,none⟩) (n + m - (i + m)) dc,.slice (some ⟨b,off + i * 2,none⟩) (n - i) sc]).run Tryz.prog W1.drew = .ok r2 W2) :
    Calls Tryz.prog 174 #[.slice (some ⟨b,off,none⟩) n c,.int .i64 i,.slice (some ⟨vb,voff,none⟩) m vc] w fun e w' => e = .returned (.slice (some ⟨N,0,none⟩) (n + m) cap) ∧ w' = W2 := by
  have hz1 : ¬ ((m : Int) = 0) := by omega
  have hz2 : ¬ ((i : Int) = (n : Int)) := by omega
  have hz3 : (c : Int) < (n : Int) + (m : Int) := by omega
  have hsz : (Tryz.prog.info? 89).map (·.size) = some 2 := by kernel_rfl
  have hw1 : IntKind.i64.wrap ((i : Int) + (m : Int)) = (i : Int) + (m : Int) := by rw [IntKind.wrap_i64]; omega
  have hb1 : (0 : Int) ≤ (i : Int) + (m : Int) := by omega
  have hin : i ≤ n := by omega
  have hb3 : (i : Int) ≤ (n : Int) := by omega
  have hb5 : ¬ (cap = i + m) := by omega
  have hb6 : ¬ (c = i) := by omega
  have htn : ((i : Int) + (m : Int)).toNat = i + m := by omega
  have mixed : Tryz.prog.follows .mixedOrders = true := by kernel_rfl
  go_enter Tryz.func174,Tryz.ntmps174
  go_wp2_with (first
    | (at_builtin; refine Lib.wpList_append_run _ rfl _ _ _ _ rfl _ _ rfl rfl _ _ (hap _) ?_)
    | (at_builtin; refine wpList_copy_runI _ rfl _ _ 85 85 rfl _ _ rfl rfl (hcp1 _ _) ?_)
    | (at_builtin; refine wpList_copy_runI _ rfl _ _ 85 85 rfl _ _ rfl rfl (hcp2 _ _ _) ?_))
  go_region_law_o (refine step_copy_runI rfl _ _ 85 85 rfl (.slice (some ⟨N,(i + m) * 2,none⟩) (n + m - (i + m)) (cap - (i + m))) (.slice (some ⟨b,off + i * 2,none⟩) (n - i) (c - i)) (by simp [Act.eval,Act.put,hb5,hb6]) (by simp [Act.eval,Act.put,hb5,hb6]) (hcp2 3 (cap - (i + m)) (c - i)) ?_)
  go_wp2
  go_ret
  exact ⟨rfl,rfl⟩
end Go.Proofs.YtmbhnbladmpnoaaGreat.Ab

/- Operations,as values; the kinds' forms. -/
namespace Go.Proofs.YtmbhnbladmpnoaaGreat.Ab
open Go
theorem ZdD {β : Type} {a b c : Bool} {s : St} {K : List Value × St → Value → Option β} :
    ((Ai (.bool a) false (some ([.bool b],s)) (some ([undef],s))).bind fun q => (Ai (getL q.1 0) true (some ([.bool c],q.2)) (some ([undef],q.2))).bind fun q2 => (Ai (.bool a) false ((AM (getL q.1 0) (getL q2.1 0) (.bool false)).bind fun v => some ([v],q2.2)) (some ([undef],q2.2))).bind fun q3 => (AM (.bool a) (.bool true) (getL q3.1 0)).bind (K q3)) = K ([if a = true then undef else .bool (b && c)],s) (.bool (a || (b && c))) := by
  cases a <;> cases b <;> cases c <;> rfl
theorem ZdE {β : Type} {a b c : Bool} {s : St} {K : List Value × St → Value → Option β} :
    ((Ai (.bool a) true (some ([.bool b],s)) (some ([undef],s))).bind fun q => (Ai (getL q.1 0) false (some ([.bool c],q.2)) (some ([undef],q.2))).bind fun q2 => (Ai (.bool a) true ((AM (getL q.1 0) (.bool true) (getL q2.1 0)).bind fun v => some ([v],q2.2)) (some ([undef],q2.2))).bind fun q3 => (AM (.bool a) (getL q3.1 0) (.bool false)).bind (K q3)) = K ([if a = true then .bool (b || c) else undef],s) (.bool (a && (b || c))) := by
  cases a <;> cases b <;> cases c <;> rfl
theorem ZO {b : Bool} {β : Type} {x y : Option β} : AA (.bool b) x y = if b = true then x else y := by cases b <;> rfl
theorem ret1 {v : Value} {s : St} (h : E0 v = true := by rfl) : retV [v] s = some (v,s) := by simp [retV,h,FK]
structure OpT where
  kind : Int
  key : BL
  val : BL
  lo : BL
  hi : BL
  most : Int
def oC (o : OpT) : List Value := [.int .i64 o.kind,sv o.key,sv o.val,sv o.lo,sv o.hi,.int .i64 o.most]
def oV (o : OpT) : Value := .agg #[.int .i64 o.kind,sv o.key,sv o.val,sv o.lo,sv o.hi,.int .i64 o.most]
def asOp : Value → Option OpT
  | .agg cs => match cs.toList with
    | [.int .i64 k,.string a,.string b,.string c,.string d,.int .i64 m] => some ⟨k,a.data.toList,b.data.toList,c.data.toList,d.data.toList,m⟩
    | _ => none
  | _ => none
theorem XP {v : Value} {o : OpT} (h : asOp v = some o) : v = oV o := by
  unfold asOp at h
  split at h
  · rename_i cs
    split at h
    · rename_i k a b c d m e
      cases h
      obtain ⟨l⟩ := cs
      simp only at e
      subst e
      unfold oV
      rw [← Jo,← Jo,← Jo,← Jo]
    · cases h
  · cases h
theorem Um (o : OpT) : lbox (oV o) = some (oV o) := rfl
theorem Wm (o : OpT) : Ao true 6 lptr (oV o) = some (oV o) := rfl
theorem o_0 (o : OpT) : Ao false 1 lptr (oV o) = some (.int .i64 o.kind) := rfl
theorem o_1 (o : OpT) : Ao false 1 (.pointer (some ⟨0,1,none⟩)) (oV o) = some (sv o.key) := rfl
theorem o_2 (o : OpT) : Ao false 1 (.pointer (some ⟨0,2,none⟩)) (oV o) = some (sv o.val) := rfl
theorem o_3 (o : OpT) : Ao false 1 (.pointer (some ⟨0,3,none⟩)) (oV o) = some (sv o.lo) := rfl
theorem o_4 (o : OpT) : Ao false 1 (.pointer (some ⟨0,4,none⟩)) (oV o) = some (sv o.hi) := rfl
theorem o_5 (o : OpT) : Ao false 1 (.pointer (some ⟨0,5,none⟩)) (oV o) = some (.int .i64 o.most) := rfl
theorem o_st (o : OpT) : AN 6 lptr (oV o) (.agg #[(.int .i64 0),(.string ⟨#[]⟩),(.string ⟨#[]⟩),(.string ⟨#[]⟩),(.string ⟨#[]⟩),(.int .i64 0)]) = some (oV o) := rfl
theorem p_0 : Ac 0 lptr = some lptr := rfl
theorem p_1 : Ac 1 lptr = some (.pointer (some ⟨0,1,none⟩)) := rfl
theorem p_2 : Ac 2 lptr = some (.pointer (some ⟨0,2,none⟩)) := rfl
theorem p_3 : Ac 3 lptr = some (.pointer (some ⟨0,3,none⟩)) := rfl
theorem p_5 : Ac 5 lptr = some (.pointer (some ⟨0,5,none⟩)) := rfl
def G1O (F : OpT → Value) : List Value → Option Value
  | [v] => (asOp v).map F
  | _ => none
theorem XQ {lib : Lib} {f : FuncId} {F : OpT → Value} (h : ∀ o s,FE (F o) = true ∧ ∃ t,run Tryz.prog lib Ad f [oV o] s = some (F o,t)) : BM Tryz.prog lib Ad f (gP (G1O F)) := sumP fun xs v s hv => by
  unfold G1O at hv
  split at hv
  · simp only [Option.map_eq_some_iff] at hv
    obtain ⟨k,h1,rfl⟩ := hv
    rw [XP h1]
    exact h k s
  · cases hv
def G1I (F : Int → Value) : List Value → Option Value
  | [.int .i64 k] => some (F k)
  | _ => none
theorem ZdF {lib : Lib} {f : FuncId} {F : Int → Value} (h : ∀ k s,FE (F k) = true ∧ ∃ t,run Tryz.prog lib Ad f [.int .i64 k] s = some (F k,t)) : BM Tryz.prog lib Ad f (gP (G1I F)) := sumP fun xs v s hv => by
  unfold G1I at hv
  split at hv
  · cases hv
    exact h _ s
  · cases hv
theorem sum0 {lib : Lib} {f : FuncId} {v : Value} (h : ∀ s,FE v = true ∧ ∃ t,run Tryz.prog lib Ad f [] s = some (v,t)) : BM Tryz.prog lib Ad f (gP (G0 v)) := sumP fun xs u s hv => by
  unfold G0 at hv
  split at hv
  · cases hv
    exact h s
  · cases hv
def SW : Int → List Value
  | 1 => [.bool true,.bool false,.bool false,.bool false,.bool false,.func (.func 168) #[] #[]]
  | 2 => [.bool true,.bool true,.bool false,.bool false,.bool true,.func (.func 169) #[] #[]]
  | 3 => [.bool true,.bool false,.bool false,.bool false,.bool true,.func (.func 170) #[] #[]]
  | 4 => [.bool false,.bool false,.bool true,.bool true,.bool false,.func (.func 171) #[] #[]]
  | 5 => [.bool false,.bool false,.bool true,.bool false,.bool true,.func (.func 172) #[] #[]]
  | _ => [.bool false,.bool false,.bool false,.bool false,.bool false,.nilFunc]
def Fg (k : Int) : Value := .agg (SW k).toArray
def SX : Value := .agg (SW 0 ++ SW 1 ++ SW 2 ++ SW 3 ++ SW 4 ++ SW 5).toArray
def Ei (k : Int) : Bool := decide (1 ≤ k) && decide (k ≤ 5)
theorem OD {k : Int} (h : Ei k = true) : k = 1 ∨ k = 2 ∨ k = 3 ∨ k = 4 ∨ k = 5 := by
  unfold Ei at h
  simp at h
  omega
theorem Vl {k : Int} (h : Ei k = false) : Fg k = Fg 0 := by
  have : k ≠ 1 ∧ k ≠ 2 ∧ k ≠ 3 ∧ k ≠ 4 ∧ k ≠ 5 := by
    unfold Ei at h
    simp at h
    refine ⟨?_,?_,?_,?_,?_⟩ <;> (rintro rfl; revert h; decide)
  unfold Fg SW
  obtain ⟨h1,h2,h3,h4,h5⟩ := this
  split <;> simp_all
theorem XR {R : Aa} (s : St) : Vj R s = some (SX,s) := by kernel_rfl
def fmV (k : Int) : Value := .tuple #[Fg k,.bool (Ei k)]
theorem Wn {R : Aa} (hF : ∀ s,R 167 [] s = some (SX,s)) (k : Int) (s : St) : Om R (.int .i64 k) s = some (fmV k,s) := by
  unfold Om fmV
  cases h : Ei k
  · rw [Vl h]
    unfold Ei at h
    have h2 : (decide (k < 1) || decide (k > 5)) = true := by
      simp at h ⊢
      omega
    cases h1 : decide (k < 1) <;> rw [h1] at h2
    · have h3 : decide (k > 5) = true := by simpa using h2
      simp only [Pe,Et,h1,h3,EVs,retV]
      rfl
    · simp only [Pe,Et,h1,EVs,retV]
      rfl
  · have h1 : decide (k < 1) = false := by rcases OD h with rfl | rfl | rfl | rfl | rfl <;> rfl
    have h2 : decide (k > 5) = false := by rcases OD h with rfl | rfl | rfl | rfl | rfl <;> rfl
    have h3 : Hq true 6 6 SX (.int .i64 k) = some (Fg k) := by rcases OD h with rfl | rfl | rfl | rfl | rfl <;> rfl
    have h4 : AN 6 lptr (Fg k) (.agg #[(.bool false),(.bool false),(.bool false),(.bool false),(.bool false),.nilFunc]) = some (Fg k) := by rcases OD h with rfl | rfl | rfl | rfl | rfl <;> rfl
    have h5 : Ao true 6 lptr (Fg k) = some (Fg k) := by rcases OD h with rfl | rfl | rfl | rfl | rfl <;> rfl
    simp only [Pe,Et,h1,h2,RH,hF,h3,h4,h5,EVs,retV]
    rfl
theorem Wo (k : Int) : FE (fmV k) = true := by
  unfold fmV
  cases h : Ei k
  · rw [Vl h]; rfl
  · rcases OD h with rfl | rfl | rfl | rfl | rfl <;> rfl
theorem x_fm (k : Int) : Ak 0 (fmV k) = some (Fg k) ∧ Ak 1 (fmV k) = some (.bool (Ei k)) := ⟨rfl,rfl⟩
def XS : Sum := gP (G0 SX)
def gFm : Sum := gP (G1I fmV)
theorem ZP {s : St} : XS [] s = some (SX,s) := rfl
theorem ZdG {k : Int} {s : St} : gFm [.int .i64 k] s = some (fmV k,s) := rfl
def MX (k : Int) : Bool := k == 1 || k == 2 || k == 3
def OE (k : Int) : Bool := k == 4 || k == 5
def wrt (k : Int) : Bool := k == 2 || k == 3 || k == 5
def ckO (o : OpT) : Int :=
  if !Ei o.kind || (MX o.kind && (o.lo != [] || o.hi != [])) || (OE o.kind && o.key != []) || (o.kind != 2 && o.val != []) || (o.kind != 4 && o.most != 0) then 40
  else if MX o.kind && !ckK o.key then 20
  else if !decide (o.val.length ≤ 16) then 2
  else if OE o.kind && !ckR (o.lo,o.hi) then 21
  else if o.kind == 4 && (decide (o.most < 1) || decide (o.most > 4)) then 1
  else 0
theorem XT {o : OpT} (h : Ei o.kind = false) : ckO o = 40 := by unfold ckO; rw [h]; rfl
theorem ZdH {R : Aa} (o : OpT) (s : St) : Zb5 R (oV o) s = some (rv (o.lo,o.hi),s) := by
  unfold Zb5
  simp only [Um,o_3,o_4,ab2,EVs,retV]
  rfl
theorem Zca {k : BL} : decide (((k.length : Nat) : Int) > 16) = !decide (k.length ≤ 16) := by
  by_cases h : k.length ≤ 16
  · simp [h]; omega
  · simp [h]; omega
theorem f_ld (k : Int) (h : Ei k = true) : AN 6 lptr (Fg k) (.agg #[(.bool false),(.bool false),(.bool false),(.bool false),(.bool false),.nilFunc]) = some (Fg k) ∧
    Ao false 1 lptr (Fg k) = some (.bool (MX k)) ∧ Ao false 1 (.pointer (some ⟨0,1,none⟩)) (Fg k) = some (.bool (k == 2)) ∧ Ao false 1 (.pointer (some ⟨0,2,none⟩)) (Fg k) = some (.bool (OE k)) ∧ Ao false 1 (.pointer (some ⟨0,3,none⟩)) (Fg k) = some (.bool (k == 4)) ∧ Ao false 1 (.pointer (some ⟨0,4,none⟩)) (Fg k) = some (.bool (wrt k)) := by
  rcases OD h with rfl | rfl | rfl | rfl | rfl <;> exact ⟨rfl,rfl,rfl,rfl,rfl,rfl⟩
theorem Un {R : Aa} (hF : ∀ k s,R 141 [.int .i64 k] s = some (fmV k,s)) (hO : ∀ o s,R 166 [oV o] s = some (rv (o.lo,o.hi),s)) (hR : ∀ r s,R 62 [rv r] s = some (.int .i64 (eR r),s)) (hK : ∀ k s,R 133 [sv k] s = some (.int .i64 (eK k),s)) (o : OpT) (s : St) : B4 R (oV o) s = some (.int .i64 (ckO o),s) := by
  unfold B4
  simp only [Um,o_0,I2,hF,(x_fm _).1,(x_fm _).2,EVs]
  cases hk : Ei o.kind
  · rw [Vl hk,XT hk]
    have h1 : AN 6 lptr (Fg 0) (.agg #[(.bool false),(.bool false),(.bool false),(.bool false),(.bool false),.nilFunc]) = some (Fg 0) := rfl
    simp only [h1,Bool.not_false,EVs,B4.j0,retV]
    rfl
  obtain ⟨f0,f1,f2,f3,f4,f5⟩ := f_ld o.kind hk
  have hrk : OE o.kind = !MX o.kind := by rcases OD hk with h | h | h | h | h <;> rw [h] <;> rfl
  have hne : ∀ a b : BL,(!(a == [] && b == [])) = (a != [] || b != []) := fun a b => by simp [bne,Bool.not_and]
  have rne : ∀ (o1 o2 : Operand) (r : Rg),abin Tryz.prog .neq 24 o1 o2 (rv r) (.agg #[sv [],sv []]) = some (.bool (r.1 != [] || r.2 != [])) := fun o1 o2 r => by
    rw [XL,Zdy,hne]
  have hck : ckO o = if (MX o.kind && (o.lo != [] || o.hi != [])) || (!MX o.kind && o.key != []) || (o.kind != 2 && o.val != []) || (o.kind != 4 && o.most != 0) then 40
      else if MX o.kind && !ckK o.key then 20
      else if !decide (o.val.length ≤ 16) then 2
      else if !MX o.kind && !ckR (o.lo,o.hi) then 21
      else if o.kind == 4 && (decide (o.most < 1) || decide (o.most > 4)) then 1
      else 0 := by
    unfold ckO
    rw [hk,hrk]
    rfl
  rw [hck]
  have hb2 : (o.kind != 2) = !(o.kind == 2) := rfl
  have hb4 : (o.kind != 4) = !(o.kind == 4) := rfl
  rw [hrk] at f3
  rw [hb2,hb4]
  generalize MX o.kind = kd at *
  generalize (o.kind == 2) = k2 at *
  generalize (o.kind == 4) = k4 at *
  have hj : ∀ b,B4.j0 R [lptr,lptr,.bool b,oV o,Fg o.kind] s = some (.int .i64 (if b then 40 else if kd && !ckK o.key then 20
      else if !decide (o.val.length ≤ 16) then 2
      else if !kd && !ckR (o.lo,o.hi) then 21
      else if k4 && (decide (o.most < 1) || decide (o.most > 4)) then 1
      else 0),s) := fun b => by
    unfold B4.j0
    cases b
    · simp only [p_0,p_1,p_2,p_3,p_5,Wm,o_1,o_2,o_5,f1,f3,f4,NR,Zca,B8,hK,Io,hO,C0,hR,eK_n,eR_n,EVs]
      cases kd <;> cases h1 : ckK o.key <;> cases h2 : decide (o.val.length ≤ 16) <;> cases h3 : ckR (o.lo,o.hi) <;> cases k4 <;> cases h4 : decide (o.most < 1) <;> cases h5 : decide (o.most > 4) <;>
        simp only [h1,h2,h3,h4,h5,f1,f3,f4,o_1,o_2,o_5,Wm,NR,Zca,eK_n,eR_n,Io,hO,C0,hR,Bool.not_true,Bool.not_false,Bool.and_true,Bool.and_false,Bool.true_and,Bool.false_and,Bool.or_true,Bool.or_false,Bool.true_or,Bool.false_or,if_true,if_false,Bool.false_eq_true,EVs,retV] <;> rfl
    · simp only [EVs,retV]
      rfl
  simp only [KC,f0,f1,f2,f3,f4,o_1,o_2,o_5,Wm,IP,rne,Io,hO,Bool.not_true,hj,EVs]
  cases kd <;> cases h1 : (o.key == []) <;> cases k2 <;> cases h2 : (o.val == []) <;> cases h3 : (o.lo != [] || o.hi != []) <;> cases k4 <;> cases h4 : (o.most != 0) <;>
    simp only [h1,h2,h3,h4,f0,f1,f2,f3,f4,o_1,o_2,o_5,Wm,IP,rne,Io,hO,hj,bne,Bool.not_true,Bool.not_false,Bool.and_true,Bool.and_false,Bool.true_and,Bool.false_and,Bool.or_true,Bool.or_false,Bool.true_or,Bool.false_or,if_true,if_false,Bool.false_eq_true,EVs]
end Go.Proofs.YtmbhnbladmpnoaaGreat.Ab
/- Operations: the reference's answers,what they write,what they touch. -/
namespace Go.Proofs.YtmbhnbladmpnoaaGreat.Ab
open Go
set_option maxHeartbeats 2000000 in
theorem PT {R : Aa} (hR : ∀ r s,R 32 [rv r] s = some (.int .i64 (eR r),s)) (hK : ∀ k s,R 114 [sv k] s = some (.int .i64 (eK k),s)) (o : OpT) (s : St) : EL R (oV o) s = some (.int .i64 (ckO o),s) := by
  cases hk : Ei o.kind
  · rw [XT hk]
    have : (o.kind == 1) = false ∧ (o.kind == 2) = false ∧ (o.kind == 3) = false ∧ (o.kind == 4) = false ∧ (o.kind == 5) = false := by
      unfold Ei at hk
      refine ⟨?_,?_,?_,?_,?_⟩ <;> (rw [beq_eq_false_iff_ne]; intro e; rw [e] at hk; revert hk; decide)
    obtain ⟨k1,k2,k3,k4,k5⟩ := this
    unfold EL
    simp only [Um,o_0,k1,k2,k3,k4,k5,Bool.not_false,EVs,retV]
    rfl
  · obtain ⟨k,key,val,lo,hi,most⟩ := o
    simp only at hk
    have k11 : ((1 : Int) == 1) = true := rfl
    have k12 : ((1 : Int) == 2) = false := rfl
    have k13 : ((1 : Int) == 3) = false := rfl
    have k14 : ((1 : Int) == 4) = false := rfl
    have k15 : ((1 : Int) == 5) = false := rfl
    have k21 : ((2 : Int) == 1) = false := rfl
    have k22 : ((2 : Int) == 2) = true := rfl
    have k24 : ((2 : Int) == 4) = false := rfl
    have k25 : ((2 : Int) == 5) = false := rfl
    have k31 : ((3 : Int) == 1) = false := rfl
    have k32 : ((3 : Int) == 2) = false := rfl
    have k33 : ((3 : Int) == 3) = true := rfl
    have k34 : ((3 : Int) == 4) = false := rfl
    have k35 : ((3 : Int) == 5) = false := rfl
    have k41 : ((4 : Int) == 1) = false := rfl
    have k42 : ((4 : Int) == 2) = false := rfl
    have k43 : ((4 : Int) == 3) = false := rfl
    have k44 : ((4 : Int) == 4) = true := rfl
    have k51 : ((5 : Int) == 1) = false := rfl
    have k52 : ((5 : Int) == 2) = false := rfl
    have k53 : ((5 : Int) == 3) = false := rfl
    have k54 : ((5 : Int) == 4) = false := rfl
    have k55 : ((5 : Int) == 5) = true := rfl
    unfold EL ckO
    rw [hk]
    have n12 : ((1 : Int) != 2) = true := rfl
    have n14 : ((1 : Int) != 4) = true := rfl
    have n22 : ((2 : Int) != 2) = false := rfl
    have n24 : ((2 : Int) != 4) = true := rfl
    have n32 : ((3 : Int) != 2) = true := rfl
    have n34 : ((3 : Int) != 4) = true := rfl
    have n42 : ((4 : Int) != 2) = true := rfl
    have n44 : ((4 : Int) != 4) = false := rfl
    have n52 : ((5 : Int) != 2) = true := rfl
    have n54 : ((5 : Int) != 4) = true := rfl
    have hb : ∀ a b : BL,(a != b) = !(a == b) := fun _ _ => rfl
    have rI : ∀ (n : Int) (s : St),retV [.int .i64 n] s = some (.int .i64 n,s) := fun _ _ => rfl
    have hif : ∀ (c : Bool) (n m : Int),(if c = true then some ((Value.int .i64 n),s) else some (.int .i64 m,s)) = some (.int .i64 (if c = true then n else m),s) := fun c n m => by cases c <;> rfl
    rcases OD hk with rfl | rfl | rfl | rfl | rfl
    all_goals simp only [Um,o_0,o_1,o_2,o_3,o_4,o_5,KC,IP,MX,OE,hb,k11,k12,k13,k14,k15,k21,k22,k24,k25,k31,k32,k33,k34,k35,k41,k42,k43,k44,k51,k52,k53,k54,k55,n12,n14,n22,n24,n32,n34,n42,n44,n52,n54,Bool.not_true,Bool.not_false,Bool.and_true,Bool.and_false,Bool.true_and,Bool.false_and,Bool.or_true,Bool.or_false,Bool.true_or,Bool.false_or,Bool.or_self,Bool.and_self,if_true,if_false,Bool.false_eq_true,Cx,hK,Mh,hR,NR,Zca,ab2,ZdD,ZdE,eK_n,eR_n,Option.bind_assoc,EVs,rI,ZO,hif]
theorem f_wr (k : Int) : Ao false 1 (.pointer (some ⟨0,4,none⟩)) (Fg k) = some (.bool (wrt k)) ∧ AN 6 lptr (Fg k) (.agg #[(.bool false),(.bool false),(.bool false),(.bool false),(.bool false),.nilFunc]) = some (Fg k) := by
  cases h : Ei k
  · have : wrt k = false := by
      have h1 : (k == 2) = false ∧ (k == 3) = false ∧ (k == 5) = false := by
        unfold Ei at h
        refine ⟨?_,?_,?_⟩ <;> (rw [beq_eq_false_iff_ne]; intro e; rw [e] at h; revert h; decide)
      unfold wrt; rw [h1.1,h1.2.1,h1.2.2]; rfl
    rw [Vl h,this]; exact ⟨rfl,rfl⟩
  · rcases OD h with rfl | rfl | rfl | rfl | rfl <;> exact ⟨rfl,rfl⟩
theorem Wp {R : Aa} (hF : ∀ k s,R 141 [.int .i64 k] s = some (fmV k,s)) (o : OpT) (s : St) : N2 R (oV o) s = some (.bool (wrt o.kind),s) := by
  unfold N2
  simp only [Um,o_0,I2,hF,(x_fm _).1,(x_fm _).2,(f_wr _).1,(f_wr _).2,EVs,retV]
  rfl
theorem RJ {R : Aa} (o : OpT) (s : St) : HK R (oV o) s = some (.bool (wrt o.kind),s) := by
  unfold HK
  simp only [Um,o_0,Zb0,Option.bind_some]
  unfold wrt
  cases h2 : (o.kind == 2) <;> cases h3 : (o.kind == 3) <;> cases h5 : (o.kind == 5) <;> simp only [h2,h3,h5,o_0,EVs,retV] <;> rfl
end Go.Proofs.YtmbhnbladmpnoaaGreat.Ab

/- Lists of operations,and maps: which may be; what operations touch. -/
namespace Go.Proofs.YtmbhnbladmpnoaaGreat.Ab
open Go
theorem OF {a b : BL} (h : sv a = sv b) : a = b := by
  unfold sv at h
  injection h with h
  have := congrArg (fun x : ByteArray => x.data.toList) h
  simpa using this
theorem XU {k : IntKind} {a b : Int} (h : Value.int k a = .int k b) : a = b := by injection h
def prC : Cod Rg where
  n := 2
  enc r := [sv r.1,sv r.2]
  pos := by decide
  len _ := rfl
  inj a b h := by
    simp only [List.cons.injEq,and_true] at h
    exact Prod.ext (OF h.1) (OF h.2)
  leaf _ := rfl
def opC : Cod OpT where
  n := 6
  enc := oC
  pos := by decide
  len _ := rfl
  inj a b h := by
    obtain ⟨a1,a2,a3,a4,a5,a6⟩ := a
    obtain ⟨b1,b2,b3,b4,b5,b6⟩ := b
    simp only [oC,List.cons.injEq,and_true] at h
    obtain ⟨h1,h2,h3,h4,h5,h6⟩ := h
    rw [XU h1,OF h2,OF h3,OF h4,OF h5,XU h6]
  leaf _ := rfl
theorem Zbn (o : OpT) : Value.agg (opC.enc o).toArray = oV o := rfl
theorem H2 {n : Nat} (h : n < 140737488355328) : IntKind.wrap .i64 ((n : Int) + 1) = ((n + 1 : Nat) : Int) := by rw [wrap_i64 (by omega) (by omega)]; omega
theorem GS {α : Type} {l rest : List α} {a : α} {i : Nat} (h : l.drop i = a :: rest) : ∃ hi : i < l.length,l[i] = a ∧ l.drop (i + 1) = rest := by
  have hi : i < l.length := by
    rcases Nat.lt_or_ge i l.length with h1 | h1
    · exact h1
    · rw [List.drop_eq_nil_of_le h1] at h; cases h
  refine ⟨hi,?_,?_⟩
  · rw [List.drop_eq_getElem_cons hi] at h
    exact (List.cons.inj h).1
  · rw [List.drop_eq_getElem_cons hi] at h
    exact (List.cons.inj h).2
def allE : List OpT → Int
  | [] => 0
  | o :: l => if ckO o = 0 then allE l else ckO o
theorem H3 (o : OpT) (l : List OpT) : allE (o :: l) = if ckO o = 0 then allE l else ckO o := rfl
def chkE (l : List OpT) : Int := if l.length = 0 ∨ 4 < l.length then 3 else allE l
def endR (e : Int) : Ex × List Value := if e = 0 then (.exit 0,[]) else (.ret,[.int .i64 e])
theorem ZQ {R : Aa} (hC : ∀ o s,R 138 [oV o] s = some (.int .i64 (ckO o),s)) {v : Value} {s : St} {l : List OpT} (h : Bm opC v s = some l) (hl : l.length < 140737488355328) : ∀ (rest : List OpT) (i : Nat),l.drop i = rest → i ≤ l.length →
    AV (LZ.b0 R) [v,.int .i64 ((l.length : Nat) : Int),.int .i64 (i : Int)] s = some ((endR (allE rest)).1,(endR (allE rest)).2,s) := by
  intro rest
  induction rest with
  | nil =>
    intro i hi hle
    have h1 : decide ((i : Int) < ((l.length : Nat) : Int)) = false := by
      have := List.drop_eq_nil_iff.1 hi
      simp; omega
    rw [As]
    simp only [LZ.b0,h1,EVs]
    rfl
  | cons o rest ih =>
    intro i hi hle
    obtain ⟨hlt,he,hd⟩ := GS hi
    have h1 : decide ((i : Int) < ((l.length : Nat) : Int)) = true := by simp; omega
    obtain ⟨p,h2,h3⟩ := QV h hlt (k := .i64) (n := 6) rfl
    rw [Zbn,he] at h3
    rw [As]
    simp only [LZ.b0,h1,h2,h3,o_st,Wm,HT,hC,EVs]
    by_cases h4 : ckO o = 0
    · have h5 : (ckO o != 0) = false := by simp [h4]
      simp only [h5,H2 (show i < 140737488355328 by omega),EVs]
      rw [ih (i + 1) hd (by omega)]
      rw [H3,if_pos h4]
    · have h5 : (ckO o != 0) = true := by simp [h4]
      simp only [h5,EVs]
      rw [H3,if_neg h4]
      unfold endR
      rw [if_neg h4]
theorem ZR {R : Aa} (hC : ∀ o s,R 138 [oV o] s = some (.int .i64 (ckO o),s)) {v : Value} {s : St} {l : List OpT} (h : Bm opC v s = some l) (hl : l.length < 140737488355328) : LZ R v s = some (.int .i64 (allE l),s) := by
  have h1 := ZQ hC h hl l 0 rfl (Nat.zero_le _)
  rw [show ((0 : Nat) : Int) = 0 from rfl] at h1
  unfold LZ
  simp only [DM h,h1,EVs]
  unfold endR
  by_cases h2 : allE l = 0
  · simp only [if_pos h2,EVs,retV,h2]
    rfl
  · simp only [if_neg h2,EVs,retV]
    rfl
theorem Uo {R : Aa} (hC : ∀ o s,R 115 [oV o] s = some (.int .i64 (ckO o),s)) {v : Value} {s : St} {l : List OpT} (h : Bm opC v s = some l) (hl : l.length < 140737488355328) : ∀ (rest : List OpT) (i : Nat),l.drop i = rest → i ≤ l.length →
    AV (Eg.b0 R) [v,.int .i64 ((l.length : Nat) : Int),.int .i64 (i : Int)] s = some ((endR (allE rest)).1,(endR (allE rest)).2,s) := by
  intro rest
  induction rest with
  | nil =>
    intro i hi hle
    have h1 : decide ((i : Int) < ((l.length : Nat) : Int)) = false := by
      have := List.drop_eq_nil_iff.1 hi
      simp; omega
    rw [As]
    simp only [Eg.b0,h1,EVs]
    rfl
  | cons o rest ih =>
    intro i hi hle
    obtain ⟨hlt,he,hd⟩ := GS hi
    have h1 : decide ((i : Int) < ((l.length : Nat) : Int)) = true := by simp; omega
    obtain ⟨p,h2,h3⟩ := QV h hlt (k := .i64) (n := 6) rfl
    rw [Zbn,he] at h3
    rw [As]
    simp only [Eg.b0,h1,h2,h3,o_st,Wm,Kw,hC,EVs]
    by_cases h4 : ckO o = 0
    · have h5 : (ckO o != 0) = false := by simp [h4]
      simp only [h5,H2 (show i < 140737488355328 by omega),EVs]
      rw [ih (i + 1) hd (by omega)]
      rw [H3,if_pos h4]
    · have h5 : (ckO o != 0) = true := by simp [h4]
      simp only [h5,EVs]
      rw [H3,if_neg h4]
      unfold endR
      rw [if_neg h4]
theorem Wq {R : Aa} (hC : ∀ o s,R 115 [oV o] s = some (.int .i64 (ckO o),s)) {v : Value} {s : St} {l : List OpT} (h : Bm opC v s = some l) (hl : l.length < 140737488355328) : Eg R v s = some (.int .i64 (allE l),s) := by
  have h1 := Uo hC h hl l 0 rfl (Nat.zero_le _)
  rw [show ((0 : Nat) : Int) = 0 from rfl] at h1
  unfold Eg
  simp only [DM h,h1,EVs]
  unfold endR
  by_cases h2 : allE l = 0
  · simp only [if_pos h2,EVs,retV,h2]
    rfl
  · simp only [if_neg h2,EVs,retV]
    rfl
noncomputable def gL {α : Type} (C : Cod α) (F : List α → Value) : Sum := fun xs s => (match xs with | [v] => (Bm C v s).bind fun l => if l.length < 140737488355328 then some (F l) else none | _ => none).map fun v => (v,s)
theorem Zcb {α : Type} {C : Cod α} {F : List α → Value} {v : Value} {s : St} {l : List α} (h : Bm C v s = some l) (hl : l.length < 140737488355328) : gL C F [v] s = some (F l,s) := by
  simp only [gL,h,Option.bind_some,if_pos hl,Option.map_some]
theorem Qi {α : Type} {C : Cod α} {F : List α → Value} {lib : Lib} {f : FuncId} (hp : ∀ l,FE (F l) = true) (h : ∀ v s l,Bm C v s = some l → l.length < 140737488355328 → ∃ t,run Tryz.prog lib Ad f [v] s = some (F l,t)) : BM Tryz.prog lib Ad f (gL C F) :=
  BM.plain (G := fun xs s => match xs with | [v] => (Bm C v s).bind fun l => if l.length < 140737488355328 then some (F l) else none | _ => none) fun xs s v hh => by
    split at hh
    · rename_i v0
      simp only [Option.bind_eq_some_iff] at hh
      obtain ⟨l,h1,h2⟩ := hh
      split at h2
      · rename_i hl
        cases h2
        exact ⟨hp l,h v0 (frzS s) l (by rw [ZH]; exact h1) hl⟩
      · cases h2
    · cases hh
noncomputable def Up : Sum := gL opC fun l => .int .i64 (allE l)
noncomputable def Zcc : Sum := gL opC fun l => .int .i64 (chkE l)
theorem XV {v : Value} {s : St} {l : List OpT} (h : Bm opC v s = some l) (hl : l.length < 140737488355328) : Up [v] s = some (.int .i64 (allE l),s) := Zcb h hl
theorem many {n : Nat} : (((n : Nat) : Int) == 0 || decide (((n : Nat) : Int) > 4)) = decide (n = 0 ∨ 4 < n) := by
  by_cases h : n = 0
  · subst h; rfl
  · have h1 : (((n : Nat) : Int) == 0) = false := by rw [beq_eq_false_iff_ne]; omega
    rw [h1]
    simp [h]
    omega
theorem Zcd {R : Aa} (hA : ∀ xs s,R 131 xs s = Up xs s) {v : Value} {s : St} {l : List OpT} (h : Bm opC v s = some l) (hl : l.length < 140737488355328) : Q0 R v s = some (.int .i64 (chkE l),s) := by
  unfold Q0 chkE
  simp only [DM h,EVs,many]
  by_cases h1 : l.length = 0 ∨ 4 < l.length
  · have h2 : decide (l.length = 0 ∨ 4 < l.length) = true := decide_eq_true h1
    simp only [h2,if_pos h1,EVs,retV]
    rfl
  · have h2 : decide (l.length = 0 ∨ 4 < l.length) = false := decide_eq_false h1
    simp only [h2,if_neg h1,Ui,hA,XV h hl,EVs,retV]
    rfl
theorem Wr {R : Aa} (hA : ∀ xs s,R 29 xs s = Up xs s) {v : Value} {s : St} {l : List OpT} (h : Bm opC v s = some l) (hl : l.length < 140737488355328) : Ju R v s = some (.int .i64 (chkE l),s) := by
  have hlt : decide (((l.length : Nat) : Int) < 1) = (((l.length : Nat) : Int) == 0) := by
    by_cases h0 : l.length = 0
    · rw [h0]; rfl
    · have h1 : (((l.length : Nat) : Int) == 0) = false := by rw [beq_eq_false_iff_ne]; omega
      rw [h1]; simp; omega
  unfold Ju chkE
  simp only [DM h,hlt,EVs,many]
  by_cases h1 : l.length = 0 ∨ 4 < l.length
  · have h2 : decide (l.length = 0 ∨ 4 < l.length) = true := decide_eq_true h1
    simp only [h2,if_pos h1,EVs,retV]
    rfl
  · have h2 : decide (l.length = 0 ∨ 4 < l.length) = false := decide_eq_false h1
    simp only [h2,if_neg h1,Pk,hA,XV h hl,EVs,retV]
    rfl
end Go.Proofs.YtmbhnbladmpnoaaGreat.Ab

/- A law's arguments: operations,pairs,lists of them. -/
namespace Go.Proofs.YtmbhnbladmpnoaaGreat.Ab
open Go Go.ChangeShapes Go.WideShapes
set_option maxRecDepth 100000
theorem ZdI : Tryz.prog.cellsOf 3 = 1 := by kernel_rfl
theorem Zbo : Tryz.prog.cellsOf 9 = 1 := by kernel_rfl
theorem Zce {H : Type} {enc : TypeId × Value → H} {W : World} {base : Nat} {sp : Nat → Bool} {held : Bool} {n : Nat} {cs : List Value} {y : DataW H × List MemPlace} (h : DataW.trod enc Tryz.prog W base sp held n 89 cs = some y) : ∃ a : Rg,cs = prC.enc a := by
  obtain ⟨xs,m,_,rfl,hl,hlen,hf⟩ := DataW.trod_struct Tryz.underlying89 h
  have c : Tryz.prog.cellsOf 89 = 2 := by kernel_rfl
  rw [c] at hl
  match xs,hlen,cs,hl with
  | [y0,y1],_,[c0,c1],_ =>
    have t0 : DataW.trod enc Tryz.prog W base sp held m 9 (([c0,c1].drop 0).take (Tryz.prog.cellsOf 9)) = some y0 := hf 0 _ rfl
    have t1 : DataW.trod enc Tryz.prog W base sp held m 9 (([c0,c1].drop 1).take (Tryz.prog.cellsOf 9)) = some y1 := hf 1 _ rfl
    rw [Zbo] at t0 t1
    simp only [List.drop_succ_cons,List.drop_zero,List.take_succ_cons,List.take_zero] at t0 t1
    obtain ⟨a,e0,_,_⟩ := DataW.trod_string Tryz.underlying9 t0
    obtain ⟨b,e1,_,_⟩ := DataW.trod_string Tryz.underlying9 t1
    simp only [List.cons.injEq,and_true] at e0 e1
    subst e0 e1
    refine ⟨(a.data.toList,b.data.toList),?_⟩
    show _ = [sv _,sv _]
    rw [← Jo,← Jo]
theorem Ze5 {H : Type} {enc : TypeId × Value → H} {W : World} {base : Nat} {sp : Nat → Bool} {held : Bool} {n : Nat} {cs : List Value} {y : DataW H × List MemPlace} (h : DataW.trod enc Tryz.prog W base sp held n 69 cs = some y) : ∃ o : OpT,cs = opC.enc o := by
  obtain ⟨xs,m,_,rfl,hl,hlen,hf⟩ := DataW.trod_struct Tryz.underlying69 h
  have c : Tryz.prog.cellsOf 69 = 6 := by kernel_rfl
  rw [c] at hl
  match xs,hlen,cs,hl with
  | [y0,y1,y2,y3,y4,y5],_,[c0,c1,c2,c3,c4,c5],_ =>
    have t0 : DataW.trod enc Tryz.prog W base sp held m 3 (([c0,c1,c2,c3,c4,c5].drop 0).take (Tryz.prog.cellsOf 3)) = some y0 := hf 0 _ rfl
    have t1 : DataW.trod enc Tryz.prog W base sp held m 9 (([c0,c1,c2,c3,c4,c5].drop 1).take (Tryz.prog.cellsOf 9)) = some y1 := hf 1 _ rfl
    have t2 : DataW.trod enc Tryz.prog W base sp held m 9 (([c0,c1,c2,c3,c4,c5].drop 2).take (Tryz.prog.cellsOf 9)) = some y2 := hf 2 _ rfl
    have t3 : DataW.trod enc Tryz.prog W base sp held m 9 (([c0,c1,c2,c3,c4,c5].drop 3).take (Tryz.prog.cellsOf 9)) = some y3 := hf 3 _ rfl
    have t4 : DataW.trod enc Tryz.prog W base sp held m 9 (([c0,c1,c2,c3,c4,c5].drop 4).take (Tryz.prog.cellsOf 9)) = some y4 := hf 4 _ rfl
    have t5 : DataW.trod enc Tryz.prog W base sp held m 3 (([c0,c1,c2,c3,c4,c5].drop 5).take (Tryz.prog.cellsOf 3)) = some y5 := hf 5 _ rfl
    rw [ZdI] at t0 t5
    rw [Zbo] at t1 t2 t3 t4
    simp only [List.drop_succ_cons,List.drop_zero,List.take_succ_cons,List.take_zero] at t0 t1 t2 t3 t4 t5
    obtain ⟨k,e0,_,_⟩ := DataW.trod_int Tryz.underlying3 t0
    obtain ⟨s1,e1,_,_⟩ := DataW.trod_string Tryz.underlying9 t1
    obtain ⟨s2,e2,_,_⟩ := DataW.trod_string Tryz.underlying9 t2
    obtain ⟨s3,e3,_,_⟩ := DataW.trod_string Tryz.underlying9 t3
    obtain ⟨s4,e4,_,_⟩ := DataW.trod_string Tryz.underlying9 t4
    obtain ⟨k5,e5,_,_⟩ := DataW.trod_int Tryz.underlying3 t5
    simp only [List.cons.injEq,and_true] at e0 e1 e2 e3 e4 e5
    subst e0 e1 e2 e3 e4 e5
    refine ⟨⟨k,s1.data.toList,s2.data.toList,s3.data.toList,s4.data.toList,k5⟩,?_⟩
    show _ = [_,sv _,sv _,sv _,sv _,_]
    rw [← Jo,← Jo,← Jo,← Jo]
end Go.Proofs.YtmbhnbladmpnoaaGreat.Ab

/- Messages: how they lie in memory; a law's arguments. -/
namespace Go.Proofs.YtmbhnbladmpnoaaGreat.Ab
open Go Go.ChangeShapes Go.WideShapes
set_option maxRecDepth 100000
abbrev Rs := Bool × BL × List Rg
abbrev wfN (k : IntKind) : NCod Int := .ofC (intC k) fun i => (Lit.int k i).wf = true
abbrev stN : NCod BL := .ofC Zb3 fun k => k.length ≤ reachBytes
def rsN : NCod Rs := .map (.pair (.ofC blnC fun _ => True) (.pair stN (.pair (.list (.ofC prC fun _ => True) 32) .unit))) fun r => (r.1,r.2.1,r.2.2,())
structure Ms where
  kind : Int
  src : Int
  dst : Int
  client : Int
  code : Int
  peer : Int
  req : Int
  boot : Int
  txn : Int
  low : Int
  ver : Int
  epoch : Int
  move : Int
  attempt : Int
  num : Int
  flag : Bool
  rg : Rg
  ops : List OpT
  res : List Rs
  own : List Ow
abbrev rgN : NCod Rg := .ofC prC fun _ => True
abbrev opsN : NCod (List OpT) := .list (.ofC opC fun _ => True) 80
abbrev ZdJ : NCod (List Rs) := .list rsN 48
abbrev owsN : NCod (List Ow) := .list (.ofC owC fun _ => True) 24
def msN : NCod Ms := .map (.pair (wfN .i64) (.pair (wfN .i64) (.pair (wfN .i64) (.pair (wfN .i64) (.pair (wfN .i64) (.pair (wfN .i64) (.pair (wfN .u64) (.pair (wfN .u64) (.pair (wfN .u64) (.pair (wfN .u64) (.pair (wfN .u64) (.pair (wfN .u64) (.pair (wfN .u64) (.pair (wfN .u64) (.pair (wfN .u64)
  (.pair (.ofC blnC fun _ => True) (.pair rgN (.pair opsN (.pair ZdJ (.pair owsN .unit))))))))))))))))))))
  fun m => (m.kind,m.src,m.dst,m.client,m.code,m.peer,m.req,m.boot,m.txn,m.low,m.ver,m.epoch,m.move,m.attempt,m.num,m.flag,m.rg,m.ops,m.res,m.own,())
theorem XW : Fo Tryz.prog (.ofC prC fun _ => True) 89 := fun Hn enc W n cs y hy hw => by
  obtain ⟨a,rfl⟩ := Zce hy
  exact ER ⟨a,rfl,trivial⟩
theorem XX : Fo Tryz.prog (.ofC opC fun _ => True) 69 := fun Hn enc W n cs y hy hw => by
  obtain ⟨a,rfl⟩ := Ze5 hy
  exact ER ⟨a,rfl,trivial⟩
theorem XY : Fo Tryz.prog (.ofC owC fun _ => True) 91 := fun Hn enc W n cs y hy hw => by
  obtain ⟨a,rfl⟩ := Ze4 hy
  exact ER ⟨a,rfl,trivial⟩
theorem Fo.map {α β : Type} {P : Program} {A : NCod α} {f : β → α} {t : TypeId} (g : α → β) (hfg : ∀ a,f (g a) = a) (h : Fo P A t) : Fo P (A.map f) t := fun Hn enc W n cs y hy hw => XH (g := g) hfg (h Hn enc W n cs y hy hw)
theorem XZ : Fo Tryz.prog rgN 24 := fun Hn enc W n cs y hy hw => by
  have h := HI (C := .pair stN (.pair stN .unit)) Tryz.underlying24 (by kernel_rfl) (AQ rfl (by kernel_rfl) (HJ Tryz.underlying9) (AQ rfl (by kernel_rfl) (HJ Tryz.underlying9) K5)) Hn enc W n cs y hy hw
  intro ι H hs hro
  obtain ⟨a,K,κ,cs',h1,h2,h3,h4,c,d,rfl,⟨rfl,_⟩,c2,d2,rfl,⟨rfl,_⟩,rfl⟩ := h ι H hs hro
  exact ⟨(a.1,a.2.1),K,κ,_,h1,h2,h3,h4,rfl,trivial⟩
theorem ZS : Fo Tryz.prog rsN 87 :=
  Fo.map (fun p => (p.1,p.2.1,p.2.2.1)) (fun _ => rfl) (HI Tryz.underlying87 (by kernel_rfl) (AQ rfl (by kernel_rfl) (Qe Tryz.underlying4) (AQ rfl (by kernel_rfl) (HJ Tryz.underlying9) (AQ rfl (by kernel_rfl) (Ii Tryz.underlying85 (by kernel_rfl) (by decide) (by kernel_rfl) XW) K5))))
theorem X0 : Fo Tryz.prog opsN 25 := Ii Tryz.underlying25 (by kernel_rfl) (by decide) (by kernel_rfl) XX
theorem Ws : Fo Tryz.prog ZdJ 26 := Ii Tryz.underlying26 (by kernel_rfl) (by decide) (by kernel_rfl) ZS
theorem X2 : Fo Tryz.prog owsN 27 := Ii Tryz.underlying27 (by kernel_rfl) (by decide) (by kernel_rfl) XY
theorem opens_ms : Fo Tryz.prog msN 29 :=
  Fo.map (fun p => ⟨p.1,p.2.1,p.2.2.1,p.2.2.2.1,p.2.2.2.2.1,p.2.2.2.2.2.1,p.2.2.2.2.2.2.1,p.2.2.2.2.2.2.2.1,p.2.2.2.2.2.2.2.2.1,p.2.2.2.2.2.2.2.2.2.1,p.2.2.2.2.2.2.2.2.2.2.1,p.2.2.2.2.2.2.2.2.2.2.2.1,p.2.2.2.2.2.2.2.2.2.2.2.2.1,p.2.2.2.2.2.2.2.2.2.2.2.2.2.1,p.2.2.2.2.2.2.2.2.2.2.2.2.2.2.1,p.2.2.2.2.2.2.2.2.2.2.2.2.2.2.2.1,p.2.2.2.2.2.2.2.2.2.2.2.2.2.2.2.2.1,p.2.2.2.2.2.2.2.2.2.2.2.2.2.2.2.2.2.1,p.2.2.2.2.2.2.2.2.2.2.2.2.2.2.2.2.2.2.1,p.2.2.2.2.2.2.2.2.2.2.2.2.2.2.2.2.2.2.2.1⟩) (fun _ => rfl)
    (HI Tryz.underlying29 (by kernel_rfl)
      (AQ rfl (by kernel_rfl) (BX Tryz.underlying3) (AQ rfl (by kernel_rfl) (BX Tryz.underlying3) (AQ rfl (by kernel_rfl) (BX Tryz.underlying3) (AQ rfl (by kernel_rfl) (BX Tryz.underlying3) (AQ rfl (by kernel_rfl) (BX Tryz.underlying3) (AQ rfl (by kernel_rfl) (BX Tryz.underlying3)
        (AQ rfl (by kernel_rfl) (BX Tryz.underlying22) (AQ rfl (by kernel_rfl) (BX Tryz.underlying22) (AQ rfl (by kernel_rfl) (BX Tryz.underlying22) (AQ rfl (by kernel_rfl) (BX Tryz.underlying22) (AQ rfl (by kernel_rfl) (BX Tryz.underlying22)
          (AQ rfl (by kernel_rfl) (BX Tryz.underlying22) (AQ rfl (by kernel_rfl) (BX Tryz.underlying22) (AQ rfl (by kernel_rfl) (BX Tryz.underlying22) (AQ rfl (by kernel_rfl) (BX Tryz.underlying22)
            (AQ rfl (by kernel_rfl) (Qe Tryz.underlying4) (AQ rfl (by kernel_rfl) XZ (AQ rfl (by kernel_rfl) X0 (AQ rfl (by kernel_rfl) Ws (AQ rfl (by kernel_rfl) X2 K5)))))))))))))))))))))
def msC (m : Ms) (vo vr vw : Value) : List Value := [.int .i64 m.kind,.int .i64 m.src,.int .i64 m.dst,.int .i64 m.client,.int .i64 m.code,.int .i64 m.peer,.int .u64 m.req,.int .u64 m.boot,.int .u64 m.txn,.int .u64 m.low,.int .u64 m.ver,.int .u64 m.epoch,.int .u64 m.move,.int .u64 m.attempt,.int .u64 m.num,
  .bool m.flag,sv m.rg.1,sv m.rg.2,vo,vr,vw]
structure MsWf (m : Ms) : Prop where
  kind : (Lit.int .i64 m.kind).wf = true
  src : (Lit.int .i64 m.src).wf = true
  dst : (Lit.int .i64 m.dst).wf = true
  client : (Lit.int .i64 m.client).wf = true
  code : (Lit.int .i64 m.code).wf = true
  peer : (Lit.int .i64 m.peer).wf = true
  req : (Lit.int .u64 m.req).wf = true
  boot : (Lit.int .u64 m.boot).wf = true
  txn : (Lit.int .u64 m.txn).wf = true
  low : (Lit.int .u64 m.low).wf = true
  ver : (Lit.int .u64 m.ver).wf = true
  epoch : (Lit.int .u64 m.epoch).wf = true
  move : (Lit.int .u64 m.move).wf = true
  attempt : (Lit.int .u64 m.attempt).wf = true
  num : (Lit.int .u64 m.num).wf = true
theorem ZT {m : Ms} {s : St} {cs : List Value} (h : msN.rel m s cs) : ∃ vo vr vw,cs = msC m vo vr vw ∧ MsWf m ∧ Cm (.ofC opC fun _ => True) 80 m.ops s vo ∧ Cm rsN 48 m.res s vr ∧ Cm (.ofC owC fun _ => True) 24 m.own s vw := by
  obtain ⟨_,_,rfl,⟨rfl,h1⟩,_,_,rfl,⟨rfl,h2⟩,_,_,rfl,⟨rfl,h3⟩,_,_,rfl,⟨rfl,h4⟩,_,_,rfl,⟨rfl,h5⟩,_,_,rfl,⟨rfl,h6⟩,_,_,rfl,⟨rfl,h7⟩,_,_,rfl,⟨rfl,h8⟩,_,_,rfl,⟨rfl,h9⟩,_,_,rfl,⟨rfl,h10⟩,_,_,rfl,⟨rfl,h11⟩,_,_,rfl,⟨rfl,h12⟩,_,_,rfl,⟨rfl,h13⟩,_,_,rfl,⟨rfl,h14⟩,_,_,rfl,⟨rfl,h15⟩,
    _,_,rfl,⟨rfl,_⟩,_,_,rfl,⟨rfl,_⟩,_,_,rfl,⟨vo,rfl,ho⟩,_,_,rfl,⟨vr,rfl,hr⟩,_,_,rfl,⟨vw,rfl,hw⟩,rfl⟩ := h
  exact ⟨vo,vr,vw,rfl,⟨h1,h2,h3,h4,h5,h6,h7,h8,h9,h10,h11,h12,h13,h14,h15⟩,ho,hr,hw⟩
end Go.Proofs.YtmbhnbladmpnoaaGreat.Ab

/- Lists of one's own that are written into,shortened,made longer. -/
namespace Go.Proofs.YtmbhnbladmpnoaaGreat.Ab
open Go
def BW : Value → Option Nat
  | .slice (some a) _ _ => some a.block
  | _ => none
def Keep (B : Option Nat) (s t : St) : Prop := s.heap.length ≤ t.heap.length ∧ ∀ c,c < s.heap.length → B ≠ some c → t.heap[c]? = s.heap[c]?
def ZdK (s : St) (v v' : Value) : Prop := BW v' = BW v ∨ ∀ c,BW v' = some c → s.heap.length ≤ c
theorem Keep.refl (B : Option Nat) (s : St) : Keep B s s := ⟨Nat.le_refl _,fun _ _ _ => rfl⟩
theorem Keep.ext {N : Nat} {v : Value} {s t : St} (h : Keep (BW v) s t) (hN : N ≤ s.heap.length) (hb : ∀ c,BW v = some c → N ≤ c) : Ext N s t :=
  ⟨h.1,fun c hc => h.2 c (by omega) fun e => by have := hb c e; omega⟩
theorem Ext.keep {B : Option Nat} {s t : St} (h : Ext s.heap.length s t) : Keep B s t := ⟨h.1,fun c hc _ => h.2 c hc⟩
theorem CO {s : St} {b : Nat} {B : Blk} (h : b < s.heap.length) : (s.putB b B).heap[b]? = some B := by
  simp only [St.putB]
  rw [List.getElem?_set_self h]
theorem KD {s : St} {b : Nat} {B : Blk} : Keep (some b) s (s.putB b B) := ⟨by simp [St.putB],fun c _ hc => by
  simp only [St.putB]
  rw [List.getElem?_set_ne (fun e => hc (by rw [e]))]⟩
theorem Keep.trans {B : Option Nat} {s t u : St} (h : Keep B s t) (g : Keep B t u) : Keep B s u := ⟨Nat.le_trans h.1 g.1,fun c hc hB => (g.2 c (Nat.lt_of_lt_of_le hc h.1) hB).trans (h.2 c hc hB)⟩
theorem Keep.list {α : Type} {C : Cod α} {B : Option Nat} {s t : St} (h : Keep B s t) {v : Value} {l : List α} (hv : Bm C v s = some l) (hb : ∀ c,BW v = some c → B ≠ some c) : Bm C v t = some l := by
  refine (Cl C).2 ?_
  have hc := (Cl C).1 hv
  unfold cellsOf at hc ⊢
  split at hc
  · exact hc
  · rename_i b o len cap
    split at hc
    case isFalse => cases hc
    rename_i hlc
    rw [if_pos hlc]
    unfold readN at hc ⊢
    cases hr : Ab.readRow s b with
    | none => rw [hr] at hc; cases hc
    | some row =>
      have hlt := D3 hr
      have : Ab.readRow t b = Ab.readRow s b := by
        unfold Ab.readRow
        rw [h.2 b hlt (hb b rfl)]
      rw [this]; exact hc
  · cases hc
section
variable {α : Type} {C : Cod α}
theorem OwnC.blk {N : Nat} {s : St} {v : Value} {l : List α} (h : OwnC C N s v l) : ∀ c,BW v = some c → N ≤ c ∧ c < s.heap.length := by
  intro c hc
  rcases h with ⟨rfl,_⟩ | ⟨b,cap,rest,rfl,h1,h2,_⟩
  · cases hc
  · cases hc
    exact ⟨h1,(List.getElem?_eq_some_iff.1 h2).1⟩
theorem OwnC.mono {N M : Nat} {s : St} {v : Value} {l : List α} (h : OwnC C N s v l) (hM : M ≤ N) : OwnC C M s v l := by
  rcases h with h | ⟨b,cap,rest,e,h1,h2⟩
  · exact .inl h
  · exact .inr ⟨b,cap,rest,e,by omega,h2⟩
theorem OwnC.keep {N : Nat} {B : Option Nat} {s t : St} {v : Value} {l : List α} (h : OwnC C N s v l) (k : Keep B s t) (hb : ∀ c,BW v = some c → B ≠ some c) : OwnC C N t v l := by
  rcases h with h | ⟨b,cap,rest,rfl,h1,h2,h3⟩
  · exact .inl h
  · exact .inr ⟨b,cap,rest,rfl,h1,by rw [k.2 b (List.getElem?_eq_some_iff.1 h2).1 (hb b rfl)]; exact h2,h3⟩
theorem OwnC.notup {N : Nat} {s : St} {v : Value} {l : List α} (h : OwnC C N s v l) : E0 v = true := by
  rcases h with ⟨rfl,_⟩ | ⟨b,cap,rest,rfl,_⟩ <;> rfl
end
end Go.Proofs.YtmbhnbladmpnoaaGreat.Ab

/- Rows of one's own: parts of an element; what an 'append' leaves as it was. -/
namespace Go.Proofs.YtmbhnbladmpnoaaGreat.Ab
open Go
theorem FI {n w : Nat} {x y : Value} {s : St} {v' : Value} {t : St} (h : AD n w x y s = some (v',t)) : Keep (BW x) s t ∧ ZdK s x v' := by
  unfold AD at h
  split at h
  case isFalse => cases h
  simp only [Option.bind_eq_some_iff] at h
  obtain ⟨m,hm,new,hn,h⟩ := h
  split at h
  · split at h
    case isFalse => cases h
    split at h
    · cases h; exact ⟨.refl _ _,.inl rfl⟩
    · cases h
      exact ⟨(Ext.push _ (Nat.le_refl _) _).keep,.inr fun c hc => by cases hc; exact Nat.le_refl _⟩
  · rename_i b o len cap
    split at h
    case isFalse => cases h
    split at h
    · split at h
      · cases h; exact ⟨.refl _ _,.inl rfl⟩
      · simp only [Option.map_eq_some_iff] at h
        obtain ⟨s2,h2,h3⟩ := h
        cases h3
        unfold EB at h2
        split at h2
        · split at h2
          case isFalse => cases h2
          cases h2
          exact ⟨KD,.inl rfl⟩
        · cases h2
    · split at h
      · split at h
        case isFalse => cases h
        cases h
        refine ⟨KD.trans (Ext.push _ (Nat.le_refl _) _).keep,.inr fun c hc => ?_⟩
        cases hc
        exact Nat.le_refl _
      · cases h
  · cases h
theorem Own.keep {N n : Nat} {B : Option Nat} {s t : St} {v : Value} {cs : List Value} (h : Own N n s v cs) (k : Keep B s t) (hb : ∀ c,BW v = some c → B ≠ some c) : Own N n t v cs := by
  rcases h with h | ⟨b,len,rfl,h1,h2,h3⟩
  · exact .inl h
  · exact .inr ⟨b,len,rfl,h1,by rw [k.2 b (List.getElem?_eq_some_iff.1 h2).1 (hb b rfl)]; exact h2,h3⟩
theorem Own.blk {N n : Nat} {s : St} {v : Value} {cs : List Value} (h : Own N n s v cs) : ∀ c,BW v = some c → N ≤ c ∧ c < s.heap.length := by
  intro c hc
  rcases h with ⟨rfl,_⟩ | ⟨b,len,rfl,h1,h2,h3⟩
  · cases hc
  · cases hc; exact ⟨h1,(List.getElem?_eq_some_iff.1 h2).1⟩
theorem Own.notup {N n : Nat} {s : St} {v : Value} {cs : List Value} (h : Own N n s v cs) : E0 v = true := by
  rcases h with ⟨rfl,_⟩ | ⟨b,len,rfl,_⟩ <;> rfl
end Go.Proofs.YtmbhnbladmpnoaaGreat.Ab

/- Things of one's own that hold others: slices in slices,each row of one's own. -/
namespace Go.Proofs.YtmbhnbladmpnoaaGreat.Ab
open Go
structure OCod (α : Type) where
  C : NCod α
  own : Nat → Nat → α → St → List Value → Prop
  rel : ∀ {lo hi a s cs},own lo hi a s cs → C.rel a s cs
  keep : ∀ {lo hi a s t cs},own lo hi a s cs → (∀ b,lo ≤ b → b < hi → t.heap[b]? = s.heap[b]?) → own lo hi a t cs
  mono : ∀ {lo hi lo' hi' a s cs},own lo hi a s cs → lo' ≤ lo → hi ≤ hi' → own lo' hi' a s cs
  leaf : ∀ {lo hi a s cs},own lo hi a s cs → cs.all AH = true
def BH {α : Type} (O : OCod α) (B : Nat) (lo hi : Nat) (l : List α) (s : St) (v : Value) : Prop :=
  l.length * B ≤ reachBytes ∧ ((v = .slice none 0 0 ∧ l = []) ∨ ∃ (b : Nat) (css : List (List Value)),v = .slice (some ⟨b,0,none⟩) l.length l.length ∧ lo ≤ b ∧ b < hi ∧ 0 < l.length ∧ s.heap[b]? = some (.row O.C.n css.flatten .act) ∧ All2 (fun a c => O.own lo b a s c) l css)
theorem RK {α : Type} {O : OCod α} {lo b : Nat} {s : St} : ∀ {l : List α} {css : List (List Value)},All2 (fun a c => O.own lo b a s c) l css → css.flatten.length = l.length * O.C.n ∧ css.flatten.all AH = true
  | [],[],_ => ⟨by simp,rfl⟩
  | a :: l,c :: css,⟨h1,h2⟩ => by
    obtain ⟨g1,g2⟩ := RK h2
    refine ⟨?_,?_⟩
    · rw [List.flatten_cons,List.length_append,g1,O.C.len (O.rel h1),List.length_cons,Nat.add_mul]; omega
    · rw [List.flatten_cons,List.all_append,O.leaf h1,g2]; rfl
theorem BH.listN {α : Type} {O : OCod α} {B lo hi : Nat} {l : List α} {s : St} {v : Value} (h : BH O B lo hi l s v) : Cm O.C B l s v := by
  obtain ⟨h1,h2⟩ := h
  refine ⟨h1,?_⟩
  rcases h2 with h2 | ⟨b,css,g1,_,_,_,g2,g3⟩
  · exact .inl h2
  · exact .inr ⟨b,css,.act,_,g1,g2,by simp,g3.mono fun a c h => O.rel h⟩
theorem BH.keep {α : Type} {O : OCod α} {B lo hi : Nat} {l : List α} {s t : St} {v : Value} (h : BH O B lo hi l s v) (k : ∀ b,lo ≤ b → b < hi → t.heap[b]? = s.heap[b]?) : BH O B lo hi l t v := by
  obtain ⟨h1,h2⟩ := h
  refine ⟨h1,?_⟩
  rcases h2 with h2 | ⟨b,css,g1,g2,g3,g4,g5,g6⟩
  · exact .inl h2
  · exact .inr ⟨b,css,g1,g2,g3,g4,by rw [k b g2 g3]; exact g5,g6.mono fun a c h => O.keep h fun b' h1 h2 => k b' h1 (by omega)⟩
theorem BH.mono {α : Type} {O : OCod α} {B lo hi lo' hi' : Nat} {l : List α} {s : St} {v : Value} (h : BH O B lo hi l s v) (h1 : lo' ≤ lo) (h2 : hi ≤ hi') : BH O B lo' hi' l s v := by
  obtain ⟨h3,h4⟩ := h
  refine ⟨h3,?_⟩
  rcases h4 with h4 | ⟨b,css,g1,g2,g3,g4,g5,g6⟩
  · exact .inl h4
  · exact .inr ⟨b,css,g1,by omega,by omega,g4,g5,g6.mono fun a c h => O.mono h h1 (Nat.le_refl _)⟩
theorem BH.leaf {α : Type} {O : OCod α} {B lo hi : Nat} {l : List α} {s : St} {v : Value} (h : BH O B lo hi l s v) : AH v = true := by
  rcases h.2 with ⟨rfl,_⟩ | ⟨b,css,rfl,_⟩ <;> rfl
theorem BH.nil {α : Type} {O : OCod α} {B lo hi : Nat} {s : St} : BH O B lo hi ([] : List α) s (.slice none 0 0) := ⟨by simp,.inl ⟨rfl,rfl⟩⟩
theorem BH.own {α : Type} {O : OCod α} {B lo hi : Nat} {l : List α} {s : St} {v : Value} (h : BH O B lo hi l s v) : ∃ css : List (List Value),Own lo O.C.n s v css.flatten ∧ css.flatten.length = l.length * O.C.n := by
  rcases h.2 with ⟨rfl,rfl⟩ | ⟨b,css,rfl,g2,g3,g4,g5,g6⟩
  · exact ⟨[],.inl ⟨rfl,rfl⟩,by simp⟩
  · have := (RK g6).1
    exact ⟨css,.inr ⟨b,l.length,rfl,g2,g5,this,g4⟩,this⟩
namespace OCod
def ofC {α : Type} (C : Cod α) (Pr : α → Prop) : OCod α where
  C := .ofC C Pr
  own _ _ a s cs := cs = C.enc a ∧ Pr a
  rel h := h
  keep h _ := h
  mono h _ _ := h
  leaf h := by rw [h.1]; exact Ua (C.leaf _)
def list {α : Type} (O : OCod α) (B : Nat) : OCod (List α) where
  C := O.C.list B
  own lo hi l s cs := ∃ v,cs = [v] ∧ BH O B lo hi l s v
  rel h := by obtain ⟨v,rfl,h⟩ := h; exact ⟨v,rfl,h.listN⟩
  keep h k := by obtain ⟨v,rfl,h⟩ := h; exact ⟨v,rfl,h.keep k⟩
  mono h h1 h2 := by obtain ⟨v,rfl,h⟩ := h; exact ⟨v,rfl,h.mono h1 h2⟩
  leaf h := by obtain ⟨v,rfl,h⟩ := h; simp [h.leaf]
def unit : OCod Unit where
  C := .unit
  own _ _ _ _ cs := cs = []
  rel h := h
  keep h _ := h
  mono h _ _ := h
  leaf h := by rw [h]; rfl
def pair {α β : Type} (A : OCod α) (B : OCod β) : OCod (α × β) where
  C := A.C.pair B.C
  own lo hi p s cs := ∃ c d m,cs = c ++ d ∧ lo ≤ m ∧ m ≤ hi ∧ A.own lo m p.1 s c ∧ B.own m hi p.2 s d
  rel h := by obtain ⟨c,d,m,rfl,_,_,h1,h2⟩ := h; exact ⟨c,d,rfl,A.rel h1,B.rel h2⟩
  keep h k := by obtain ⟨c,d,m,rfl,g1,g2,h1,h2⟩ := h; exact ⟨c,d,m,rfl,g1,g2,A.keep h1 fun b e1 e2 => k b e1 (by omega),B.keep h2 fun b e1 e2 => k b (by omega) e2⟩
  mono h k1 k2 := by obtain ⟨c,d,m,rfl,g1,g2,h1,h2⟩ := h; exact ⟨c,d,m,rfl,by omega,by omega,A.mono h1 k1 (Nat.le_refl _),B.mono h2 (Nat.le_refl _) k2⟩
  leaf h := by obtain ⟨c,d,m,rfl,_,_,h1,h2⟩ := h; rw [List.all_append,A.leaf h1,B.leaf h2]; rfl
def map {α β : Type} (A : OCod α) (f : β → α) : OCod β where
  C := A.C.map f
  own lo hi b s cs := A.own lo hi (f b) s cs
  rel h := A.rel h
  keep h k := A.keep h k
  mono h h1 h2 := A.mono h h1 h2
  leaf h := A.leaf h
end OCod
theorem ZU {N n w : Nat} {s : St} {x : Value} {cells z : List Value} {v : Value} (h : Own N n s x cells) (hN : N ≤ s.heap.length) (hw : 0 < w) (hn : 0 < n) (hn2 : n ≤ 16777216) (hz : z.length = n) (hzl : z.all AH = true) (hv : (An v).length = n) (hvl : (An v).all AH = true) {len : Nat} (hlen : cells.length = len * n)
    (hb : (len + 1) * w ≤ 140737488355328) : ∃ r,Ar n z 1 [(0,v)] s = some r ∧ ∃ b t,AD n w x r.1 r.2 = some (.slice (some ⟨b,0,none⟩) (len + 1) (len + 1),t) ∧ t.heap[b]? = some (.row n (cells ++ An v) .act) ∧ s.heap.length ≤ b ∧ t.heap.length = b + 1 ∧ Keep (BW x) s t := by
  have h1 : Ar n z 1 [(0,v)] s = some (.slice (some ⟨s.heap.length,0,none⟩) 1 1,s.push (.row n (An v) .act)) := by
    have hrep : A3 z 1 = z := by simp [A3]
    have hput : AB z 0 (An v) = An v := by simp [AB,hv,hz]
    unfold Ar
    rw [if_pos ⟨by omega,hz,hzl⟩]
    simp only [hrep,Iz,Ly,Nat.zero_mul]
    rw [if_pos ⟨hv,by omega,hvl⟩,hput]
    rfl
  refine ⟨_,h1,?_⟩
  have hcells : cellsOf n (.slice (some ⟨s.heap.length,0,none⟩) 1 1) (s.push (.row n (An v) .act)) = some (An v) := by
    simp only [cellsOf,Nat.le_refl,if_true,readN,Ab.readRow,AE,Option.bind_some]
    rw [if_pos (by omega),List.drop_zero,Nat.one_mul,← hv,List.take_length]
  have hroom : Nl (len + 1) w := .inl hb
  have hk0 : Keep (BW x) s (s.push (.row n (An v) .act)) := (Ext.push _ (Nat.le_refl _) _).keep
  unfold AD
  rw [if_pos hw]
  simp only [lenV,Option.bind_some,M7 hcells]
  rcases h with ⟨rfl,rfl⟩ | ⟨b,len',rfl,g1,g2,g3,g4⟩
  · have hl0 : len = 0 := by
      have : len * n = 0 := by simpa using hlen.symm
      rcases Nat.mul_eq_zero.1 this with h | h <;> omega
    subst hl0
    simp only
    rw [if_pos (by simpa using hroom),if_neg (by omega)]
    refine ⟨_,_,rfl,by simpa using AE,by rw [AJ]; omega,AJ,hk0.trans (Ext.push _ (Nat.le_refl _) _).keep⟩
  · obtain rfl : len' = len := Nat.eq_of_mul_eq_mul_right hn (by omega)
    simp only
    have hbl : b < s.heap.length := (List.getElem?_eq_some_iff.1 g2).1
    rw [if_pos hroom,if_neg (by omega),C4 hbl,g2]
    simp only
    rw [if_pos ⟨trivial,trivial,by omega⟩]
    refine ⟨_,_,rfl,?_,by rw [AJ]; omega,?_,?_⟩
    · have e : (s.push (.row n (An v) .act)).heap.length = ((s.push (.row n (An v) .act)).putB b (.row n cells .dead)).heap.length := by simp [St.putB]
      rw [e]
      exact AE
    · rw [AJ]; simp [St.putB]
    · refine hk0.trans ((KD (b := b)).trans (Ext.push _ (Nat.le_refl _) _).keep)
theorem All2.snoc {α β : Type} {R : α → β → Prop} : ∀ {l : List α} {m : List β} {a : α} {b : β},All2 R l m → R a b → All2 R (l ++ [a]) (m ++ [b])
  | [],[],_,_,_,h => ⟨h,trivial⟩
  | _ :: _,_ :: _,_,_,⟨h1,h2⟩,h => ⟨h1,All2.snoc h2 h⟩
theorem BH.push {α : Type} {O : OCod α} {B lo hi m n w : Nat} {l : List α} {a : α} {s0 s : St} {x : Value} {z : List Value} {v : Value} (h : BH O B lo hi l s x) (hhi : hi ≤ m) (hm : m ≤ s.heap.length) (hlo : lo ≤ hi) (ha : O.own m s.heap.length a s (An v))
    (hw : 0 < w) (hn : n = O.C.n) (hpos : 0 < n) (hn2 : n ≤ 16777216) (hz : z.length = n) (hzl : z.all AH = true) (hb : (l.length + 1) * w ≤ 140737488355328) (hb2 : (l.length + 1) * B ≤ reachBytes) :
    ∃ r,Ar n z 1 [(0,v)] s = some r ∧ ∃ v' t,AD n w x r.1 r.2 = some (v',t) ∧ BH O B lo t.heap.length (l ++ [a]) t v' ∧ s.heap.length ≤ t.heap.length ∧ (∀ b,b < s.heap.length → (b < lo ∨ hi ≤ b) → t.heap[b]? = s.heap[b]?) ∧ E0 v' = true := by
  subst hn
  have hv : (An v).length = O.C.n := O.C.len (O.rel ha)
  obtain ⟨css,hown,hlen,hall,hblk⟩ : ∃ css : List (List Value),Own lo O.C.n s x css.flatten ∧ css.flatten.length = l.length * O.C.n ∧ (∀ b',s.heap.length ≤ b' → ∀ t : St,Keep (BW x) s t → All2 (fun a c => O.own lo b' a t c) l css) ∧ (∀ c,BW x = some c → lo ≤ c ∧ c < hi) := by
    rcases h.2 with ⟨rfl,rfl⟩ | ⟨b,css,rfl,g2,g3,g4,g5,g6⟩
    · exact ⟨[],.inl ⟨rfl,rfl⟩,by simp,fun _ _ _ _ => trivial,fun c hc => by cases hc⟩
    · have := (RK g6).1
      refine ⟨css,.inr ⟨b,l.length,rfl,g2,g5,this,g4⟩,this,fun b' hb' t k => g6.mono fun a c h => O.mono (O.keep h fun b2 h1 h2 => k.2 b2 (by omega) fun e => by have e2 : b = b2 := Option.some.inj e; omega) (Nat.le_refl _) (by omega),fun c hc => by cases hc; exact ⟨g2,g3⟩⟩
  obtain ⟨r,h1,b,t,h2,h3,h4,h5,h6⟩ := ZU (w := w) hown (by omega) hw hpos hn2 hz hzl hv (O.leaf ha) hlen hb
  refine ⟨r,h1,_,t,h2,⟨by simpa using hb2,.inr ⟨b,css ++ [An v],by simp,by omega,by omega,by simp,by simpa using h3,?_⟩⟩,h6.1,fun c hc hor => h6.2 c hc fun e => ?_,rfl⟩
  · refine (hall b h4 t h6).snoc (O.mono (O.keep ha fun b2 g1 g2 => h6.2 b2 g2 fun e => ?_) (by omega) h4)
    have := (hblk b2 e).2
    omega
  · have := hblk c e
    omega
end Go.Proofs.YtmbhnbladmpnoaaGreat.Ab

/- Readers: a row of one's own with what is left of some bytes and the first error; what reads is told by a parser. -/
namespace Go.Proofs.YtmbhnbladmpnoaaGreat.Ab
open Go
def Par (α : Type) := List UInt8 → Except Int (α × List UInt8)
namespace Par
def pure {α : Type} (a : α) : Par α := fun r => .ok (a,r)
def fail {α : Type} (e : Int) : Par α := fun _ => .error e
def bind {α β : Type} (p : Par α) (q : α → Par β) : Par β := fun r => match p r with
  | .ok (a,r') => q a r'
  | .error e => .error e
def map {α β : Type} (p : Par α) (f : α → β) : Par β := p.bind fun a => .pure (f a)
def rep {α : Type} (p : Par α) : Nat → Par (List α)
  | 0 => .pure []
  | k + 1 => p.bind fun a => (rep p k).bind fun l => .pure (a :: l)
end Par
structure Does {α : Type} (p : Par α) (x : List UInt8 × Int) (a : α) (y : List UInt8 × Int) : Prop where
  err : x.2 ≠ 0 → y.2 = x.2
  ok : x.2 = 0 → ∀ a0 r0,p x.1 = .ok (a0,r0) → y = (r0,0) ∧ a = a0
  bad : x.2 = 0 → ∀ e,p x.1 = .error e → y.2 = e ∧ e ≠ 0
section
variable {α β : Type} {x y z : List UInt8 × Int} {a : α} {b : β}
theorem Does.pure {a : α} : Does (.pure a) x a x := ⟨fun _ => rfl,fun h a0 r0 h1 => by cases h1; exact ⟨by rw [← h],rfl⟩,fun _ e h => by cases h⟩
theorem Does.bind {p : Par α} {q : α → Par β} (h : Does p x a y) (g : Does (q a) y b z) : Does (p.bind q) x b z := by
  refine ⟨fun hx => ?_,fun hx a0 r0 h1 => ?_,fun hx e h1 => ?_⟩
  · have := h.err hx
    rw [g.err (by rw [this]; exact hx),this]
  · unfold Par.bind at h1
    cases hp : p x.1 with
    | error e => rw [hp] at h1; cases h1
    | ok t =>
      obtain ⟨a1,r1⟩ := t
      rw [hp] at h1
      obtain ⟨rfl,rfl⟩ := h.ok hx a1 r1 hp
      exact g.ok rfl a0 r0 h1
  · unfold Par.bind at h1
    cases hp : p x.1 with
    | error e' =>
      rw [hp] at h1
      cases h1
      obtain ⟨h2,h3⟩ := h.bad hx e hp
      rw [g.err (by rw [h2]; exact h3),h2]
      exact ⟨rfl,h3⟩
    | ok t =>
      obtain ⟨a1,r1⟩ := t
      rw [hp] at h1
      obtain ⟨rfl,rfl⟩ := h.ok hx a1 r1 hp
      exact g.bad rfl e h1
theorem Does.map {p : Par α} {f : α → β} (h : Does p x a y) : Does (p.map f) x (f a) y := h.bind .pure
theorem Does.cons {p : Par α} {k : Nat} {m : List α} (h : Does p x a y) (g : Does (p.rep k) y m z) : Does (p.rep (k + 1)) x (a :: m) z := h.bind (g.bind .pure)
theorem Does.weaken {p : Par α} {a' : α} (h : Does p x a y) (g : y.2 = 0 → a' = a) : Does p x a' y := ⟨h.err,fun hx a0 r0 h1 => by
  obtain ⟨h2,h3⟩ := h.ok hx a0 r0 h1
  exact ⟨h2,by rw [g (by rw [h2]),h3]⟩,h.bad⟩
theorem Does.of_ok {p : Par α} {r0 : List UInt8} (hx : x.2 = 0) (hp : p x.1 = .ok (a,r0)) (hy : y = (r0,0)) : Does p x a y := by
  refine ⟨fun h => absurd hx h,fun _ a1 r1 h1 => ?_,fun _ e h1 => ?_⟩
  · rw [hp] at h1
    cases h1
    exact ⟨hy,rfl⟩
  · rw [hp] at h1; cases h1
theorem Does.of_err {p : Par α} {e : Int} (hx : x.2 = 0) (hp : p x.1 = .error e) (he : e ≠ 0) (hy : y.2 = e) : Does p x a y := by
  refine ⟨fun h => absurd hx h,fun _ a1 r1 h1 => ?_,fun _ e1 h1 => ?_⟩
  · rw [hp] at h1; cases h1
  · rw [hp] at h1
    cases h1
    exact ⟨hy,he⟩
theorem Does.stuck {p : Par α} (hx : x.2 ≠ 0) (h : y.2 = x.2) : Does p x a y := ⟨fun _ => h,fun h => absurd h hx,fun h => absurd h hx⟩
theorem Does.fail {e : Int} (he : e ≠ 0) (h : y.2 = if x.2 = 0 then e else x.2) : Does (.fail e) x a y := by
  refine ⟨fun hx => (by rw [h,if_neg hx]),fun _ _ _ h => (by cases h),fun hx e' h1 => ?_⟩
  have e1 : e = e' := by injection h1
  subst e1
  rw [h,if_pos hx]
  exact ⟨rfl,he⟩
theorem Does.ok_of {p : Par α} (h : Does p x a y) (hx : x.2 = 0) (hy : y.2 = 0) : p x.1 = .ok (a,y.1) := by
  cases hp : p x.1 with
  | error e =>
    obtain ⟨h1,h2⟩ := h.bad hx e hp
    exact absurd (h1 ▸ hy) h2
  | ok t =>
    obtain ⟨a0,r0⟩ := t
    obtain ⟨rfl,rfl⟩ := h.ok hx a0 r0 hp
    rfl
theorem Does.err_of {p : Par α} (h : Does p x a y) (hx : x.2 = 0) (hy : y.2 ≠ 0) : p x.1 = .error y.2 := by
  cases hp : p x.1 with
  | error e => rw [(h.bad hx e hp).1]
  | ok t =>
    obtain ⟨a0,r0⟩ := t
    obtain ⟨rfl,rfl⟩ := h.ok hx a0 r0 hp
    exact absurd rfl hy
theorem Does.same {p : Par α} {a1 a2 : α} {x y1 y2 : List UInt8 × Int} (h : Does p x a1 y1) (g : Does p x a2 y2) (hx : x.2 = 0) : y1.2 = y2.2 ∧ (y1.2 = 0 → a1 = a2 ∧ y1 = y2) := by
  cases hp : p x.1 with
  | error e =>
    obtain ⟨h1,h2⟩ := h.bad hx e hp
    obtain ⟨g1,g2⟩ := g.bad hx e hp
    exact ⟨by rw [h1,g1],fun h => absurd (h1 ▸ h) h2⟩
  | ok t =>
    obtain ⟨a0,r0⟩ := t
    obtain ⟨rfl,rfl⟩ := h.ok hx a0 r0 hp
    obtain ⟨rfl,rfl⟩ := g.ok hx _ r0 hp
    exact ⟨rfl,fun _ => ⟨rfl,rfl⟩⟩
end
abbrev rp (N : Nat) : Value := .pointer (some ⟨N,0,none⟩)
structure RdV (N : Nat) (s : St) (v : Value) (x : List UInt8 × Int) : Prop where
  blk : s.heap[N]? = some (.row 0 [v,.int .i64 x.2] .act)
  byt : bytesOf v s = some x.1
  apart : ∀ c,BW v = some c → c < N
  small : x.1.length ≤ 140737488355328
def Rd (N : Nat) (s : St) (x : List UInt8 × Int) : Prop := ∃ v,RdV N s v x
def setR (N : Nat) (v : Value) (e : Int) (s : St) : St := s.putB N (.row 0 [v,.int .i64 e] .act)
section
variable {N : Nat} {s t : St} {v u : Value} {x : List UInt8 × Int}
theorem RdV.lt (h : RdV N s v x) : N < s.heap.length := (List.getElem?_eq_some_iff.1 h.blk).1
theorem Cq : Ah (rp N) = some (rp N) := rfl
theorem RL : Ac 0 (rp N) = some (rp N) := rfl
theorem Ej : Ac 1 (rp N) = some (.pointer (some ⟨N,1,none⟩)) := by simp [Ac]
theorem RdV.row (h : RdV N s v x) : readRow s N = some [v,.int .i64 x.2] := by unfold Ab.readRow; rw [h.blk]
theorem RdV.ld0 (h : RdV N s v x) : Aq false 1 (rp N) s = some v := by simp [Aq,h.row]
theorem RdV.ld1 (h : RdV N s v x) : Aq false 1 (.pointer (some ⟨N,1,none⟩)) s = some (.int .i64 x.2) := by simp [Aq,h.row]
theorem X3 {v : Value} {s : St} {l : List UInt8} (h : bytesOf v s = some l) : AH v = true ∧ An v = [v] ∧ E0 v = true := by
  unfold bytesOf at h
  simp only [Option.bind_eq_some_iff] at h
  obtain ⟨cs,h1,_⟩ := h
  obtain ⟨a,len,cap,rfl,_⟩ := E6 h1
  exact ⟨rfl,rfl,rfl⟩
theorem RdV.st1 (h : RdV N s v x) (e : Int) : A0 1 (.pointer (some ⟨N,1,none⟩)) (.int .i64 e) s = some (setR N v e s) := by
  simp [A0,An,AH,EB,h.blk,AB,setR]
theorem RdV.st0 (h : RdV N s v x) (h1 : AH u = true) (h2 : An u = [u]) : A0 1 (rp N) u s = some (setR N u x.2 s) := by
  simp [A0,h1,h2,EB,h.blk,AB,setR]
theorem Wt {B : Nat} (h : Keep (some B) s t) {l : List UInt8} (hv : bytesOf v s = some l) (hb : BW v ≠ some B) : bytesOf v t = some l := by
  unfold bytesOf at hv ⊢
  simp only [Option.bind_eq_some_iff] at hv ⊢
  obtain ⟨cs,h1,h2⟩ := hv
  refine ⟨cs,?_,h2⟩
  unfold cellsOf at h1 ⊢
  split at h1
  · exact h1
  · rename_i b o len cap
    split at h1
    case isFalse => cases h1
    rename_i hlc
    rw [if_pos hlc]
    unfold readN at h1 ⊢
    have hbb : b ≠ B := fun e => hb (by rw [e]; rfl)
    cases hr : readRow s b with
    | none => rw [hr] at h1; cases h1
    | some row =>
      have : readRow t b = readRow s b := by unfold Ab.readRow; rw [h.2 b (D3 hr) (fun e => hbb (Option.some.inj e).symm)]
      rw [this]
      exact h1
  · cases h1
theorem CB {e : Int} : Keep (some N) s (setR N u e s) := KD
theorem RdV.set (h : RdV N s v x) {y : List UInt8 × Int} (hu : bytesOf u s = some y.1) (ha : ∀ c,BW u = some c → c < N) (hl : y.1.length ≤ 140737488355328) : RdV N (setR N u y.2 s) u y := ⟨CO h.lt,Wt CB hu (fun e => Nat.lt_irrefl _ (ha _ e)),ha,hl⟩
theorem RdV.seterr (h : RdV N s v x) (e : Int) : Rd N (setR N v e s) (x.1,e) := ⟨v,h.set (y := (x.1,e)) h.byt h.apart h.small⟩
theorem Wu {l : List UInt8} (h : bytesOf v s = some l) {i : Nat} (hi : i ≤ l.length) {k : IntKind} : ∃ u,Bj 1 v (some (.int k (i : Int))) none none = some u ∧ bytesOf u s = some (l.drop i) ∧ ∀ c,BW u = some c → BW v = some c := by
  obtain ⟨u,h1,h2⟩ := BF h (lo := some (.int k (i : Int))) (hi := none) (mx := none) (i := i) (j := l.length) (by simp [Bg]) rfl hi (Nat.le_refl _) (.inl rfl)
  refine ⟨u,h1,by rw [h2,List.take_of_length_le (by simp)],fun c hc => ?_⟩
  unfold Bj at h1
  split at h1
  case h_2 => cases h1
  rename_i a len cap
  unfold DF at h1
  split at h1
  case isFalse => cases h1
  simp only [Option.bind_eq_some_iff] at h1
  obtain ⟨m,_,hh,_,ll,_,h1⟩ := h1
  split at h1
  case isFalse => cases h1
  unfold Hr at h1
  split at h1
  · cases h1; cases hc
  · cases h1; exact hc
  · cases h1
theorem RdV.drop (h : RdV N s v x) {i : Nat} (hi : i ≤ x.1.length) {k : IntKind} : ∃ u,Bj 1 v (some (.int k (i : Int))) none none = some u ∧ A0 1 (rp N) u s = some (setR N u x.2 s) ∧ Rd N (setR N u x.2 s) (x.1.drop i,x.2) := by
  obtain ⟨u,h1,h2,h3⟩ := Wu h.byt hi (k := k)
  obtain ⟨g1,g2,_⟩ := X3 h2
  refine ⟨u,h1,h.st0 g1 g2,u,h.set (y := (x.1.drop i,x.2)) h2 (fun c e => h.apart c (h3 _ e)) (by have := h.small; simp; omega)⟩
end
theorem X4 {s : St} {v : Value} {l : List UInt8} (h : bytesOf v s = some l) : ∀ c,BW v = some c → c < s.heap.length := by
  intro c hc
  unfold bytesOf at h
  simp only [Option.bind_eq_some_iff] at h
  obtain ⟨cs,h1,h2⟩ := h
  unfold cellsOf at h1
  split at h1
  · cases hc
  · split at h1
    case isFalse => cases h1
    obtain ⟨row,g1,_⟩ := Ge h1
    cases hc
    exact D3 g1
  · cases h1
theorem ZdL {s : St} {v : Value} {l : List UInt8} (h : bytesOf v s = some l) (hl : l.length ≤ 140737488355328) : Rd s.heap.length (s.push (.row 0 [v,.int .i64 0] .act)) (l,0) :=
  ⟨v,AE,Ext.bytes (.push _ (Nat.le_refl _) _) h,X4 h,hl⟩
theorem Qj {s t : St} {v : Value} {l : List UInt8} (h : bytesOf v s = some l) (k : ∀ c,BW v = some c → t.heap[c]? = s.heap[c]?) : bytesOf v t = some l := by
  unfold bytesOf at h ⊢
  simp only [Option.bind_eq_some_iff] at h ⊢
  obtain ⟨cs,h1,h2⟩ := h
  refine ⟨cs,?_,h2⟩
  unfold cellsOf at h1 ⊢
  split at h1
  · exact h1
  · rename_i b o len cap
    split at h1
    case isFalse => cases h1
    rename_i hlc
    rw [if_pos hlc]
    unfold readN Ab.readRow at h1 ⊢
    rw [k b rfl]
    exact h1
  · cases h1
theorem Rd.keep {N : Nat} {s t : St} {x : List UInt8 × Int} (h : Rd N s x) (k : ∀ b,b ≤ N → t.heap[b]? = s.heap[b]?) : Rd N t x := by
  obtain ⟨v,h⟩ := h
  exact ⟨v,⟨by rw [k N (Nat.le_refl _)]; exact h.blk,Qj h.byt fun c hc => k c (Nat.le_of_lt (h.apart c hc)),h.apart,h.small⟩⟩
theorem Rd.ext {N : Nat} {s t : St} {x : List UInt8 × Int} (h : Rd N s x) (k : Ext s.heap.length s t) : Rd N t x := h.keep fun b hb => k.2 b (by obtain ⟨v,h⟩ := h; have := h.lt; omega)
theorem Rd.lt {N : Nat} {s : St} {x : List UInt8 × Int} (h : Rd N s x) : N < s.heap.length := by obtain ⟨v,h⟩ := h; exact h.lt
def MY (ag : Bool) (u : Value) (cs : List Value) : Prop := match ag with
  | true => u = .agg cs.toArray
  | false => cs = [u]
theorem MY.cells {ag : Bool} {u : Value} {cs : List Value} (h : MY ag u cs) (hl : cs.all AH = true) : An u = cs ∧ E0 u = true := by
  cases ag with
  | true =>
    have h : u = .agg cs.toArray := h
    subst h
    exact ⟨by simp [An],rfl⟩
  | false =>
    have h : cs = [u] := h
    subst h
    simp at hl
    cases u <;> first | exact ⟨rfl,rfl⟩ | (simp [AH] at hl)
def OG {α : Type} (N : Nat) (f : St → Option (Value × St)) (ag : Bool) (O : OCod α) (p : Par α) : Prop :=
  ∀ (s : St) (x : List UInt8 × Int),Rd N s x → ∃ (a : α) (u : Value) (cs : List Value) (s' : St) (y : List UInt8 × Int),f s = some (u,s') ∧ Rd N s' y ∧ Keep (some N) s s' ∧ MY ag u cs ∧ O.own s.heap.length s'.heap.length a s' cs ∧ Does p x a y
def FrM (N M : Nat) (s t : St) : Prop := s.heap.length ≤ t.heap.length ∧ ∀ c,c < M → c ≠ N → t.heap[c]? = s.heap[c]?
theorem FrM.refl (N M : Nat) (s : St) : FrM N M s s := ⟨Nat.le_refl _,fun _ _ _ => rfl⟩
theorem FrM.trans {N M : Nat} {s t u : St} (h : FrM N M s t) (g : FrM N M t u) : FrM N M s u := ⟨Nat.le_trans h.1 g.1,fun c h1 h2 => (g.2 c h1 h2).trans (h.2 c h1 h2)⟩
theorem FrM.keep {N : Nat} {s t : St} (h : FrM N s.heap.length s t) : Keep (some N) s t := ⟨h.1,fun c h1 h2 => h.2 c h1 fun e => h2 (by rw [e])⟩
theorem FrM.ext {N M : Nat} {s t : St} (h : Ext s.heap.length s t) (hM : M ≤ s.heap.length) : FrM N M s t := ⟨h.1,fun c h1 h2 => h.2 c (by omega)⟩
theorem BI {s : St} {b : Nat} {B : Blk} : (s.putB b B).heap.length = s.heap.length := by simp [St.putB]
theorem Ce {s : St} {b c : Nat} {B : Blk} (h : c ≠ b) : (s.putB b B).heap[c]? = s.heap[c]? := by simp only [St.putB]; rw [List.getElem?_set_ne (by omega)]
theorem Rd.put {N b : Nat} {s : St} {B : Blk} {x : List UInt8 × Int} (h : Rd N s x) (hb : N < b) : Rd N (s.putB b B) x := h.keep fun c hc => Ce (by omega)
theorem Rd.push {N : Nat} {s : St} {B : Blk} {x : List UInt8 × Int} (h : Rd N s x) : Rd N (s.push B) x := h.keep fun c hc => C4 (by have := h.lt; omega)
theorem RM {s : St} {B n i : Nat} {cells : List Value} {st : Stat} {c : Value} (h : s.heap[B]? = some (.row n cells st)) (hst : st ≠ .dead) (hc : cells[i]? = some c) : Aq false 1 (.pointer (some ⟨B,i,none⟩)) s = some c := by
  have : readRow s B = some cells := by
    unfold Ab.readRow
    rw [h]
    cases st with
    | dead => exact absurd rfl hst
    | act => rfl
    | ro => rfl
  simp [Aq,this,hc]
theorem Ip {s : St} {B n m : Nat} {cells : List Value} {st : Stat} (h : s.heap[B]? = some (.row n cells st)) (hst : st ≠ .dead) (hm : cells.length = m) : Aq true m (.pointer (some ⟨B,0,none⟩)) s = some (.agg cells.toArray) := by
  have : readRow s B = some cells := by
    unfold Ab.readRow
    rw [h]
    cases st with
    | dead => exact absurd rfl hst
    | act => rfl
    | ro => rfl
  subst hm
  simp [Aq,readN,this]
theorem De {s : St} {B n i : Nat} {cells : List Value} {v : Value} (h : s.heap[B]? = some (.row n cells .act)) (hi : i < cells.length) (hv : AH v = true) (hc : An v = [v]) : A0 1 (.pointer (some ⟨B,i,none⟩)) v s = some (s.putB B (.row n (cells.set i v) .act)) := by
  have hput : AB cells i [v] = cells.set i v := by
    unfold AB
    rw [List.set_eq_take_append_cons_drop,if_pos hi]
    simp
  simp [A0,hc,hv,EB,h,hput,Nat.succ_le_of_lt hi]
theorem Iq {s : St} {B n m : Nat} {cells vs : List Value} (h : s.heap[B]? = some (.row n cells .act)) (hm : vs.length = m) (hl : cells.length = m) (hv : vs.all AH = true) : A0 m (.pointer (some ⟨B,0,none⟩)) (.agg vs.toArray) s = some (s.putB B (.row n vs .act)) := by
  subst hm
  have h1 : An (.agg vs.toArray) = vs := by simp [An]
  have hput : AB cells 0 vs = vs := by simp [AB,hl]
  have hle : 0 + vs.length ≤ cells.length := by omega
  unfold A0
  simp only [h1]
  rw [if_pos ⟨trivial,hv⟩]
  unfold EB
  simp only [h]
  rw [if_pos hle,hput]
def natC (k : IntKind) : Cod Nat where
  n := 1
  enc i := [.int k (i : Int)]
  pos := by decide
  len _ := rfl
  inj a b h := by
    have := List.cons.inj h
    have h2 : (a : Int) = (b : Int) := by injection this.1
    exact_mod_cast h2
  leaf _ := rfl
abbrev oNat (k : IntKind) (m : Nat) : OCod Nat := .ofC (natC k) fun n => n ≤ m
abbrev oStr : OCod (List UInt8) := .ofC Zb3 fun k => k.length ≤ reachBytes
end Go.Proofs.YtmbhnbladmpnoaaGreat.Ab

/- Lists of what holds other things: their elements. -/
namespace Go.Proofs.YtmbhnbladmpnoaaGreat.Ab
open Go
theorem D5 {α : Type} {C : NCod α} {B : Nat} {l : List α} {s : St} {v : Value} (h : Cm C B l s v) : AH v = true := by
  rcases h.2 with ⟨rfl,_⟩ | ⟨b,css,st,k,rfl,_⟩ <;> rfl
theorem Bx {α : Type} {C : NCod α} {B : Nat} {l : List α} {s : St} {v : Value} (h : Cm C B l s v) (t : TypeId) (s2 : St) : AP (.slice t) v s2 = some (.int .i64 ((l.length : Nat) : Int)) := by
  rcases h.2 with ⟨rfl,rfl⟩ | ⟨b,css,st,k,rfl,_⟩ <;> rfl
theorem ZdM {α : Type} {C : NCod α} {s : St} : ∀ {l : List α} {css : List (List Value)},All2 (fun a c => C.rel a s c) l css → css.flatten.length = l.length * C.n ∧ ∀ (i : Nat) (hi : i < l.length),∃ c,(css.flatten.drop (i * C.n)).take C.n = c ∧ C.rel l[i] s c
  | [],[],_ => ⟨by simp,fun i hi => by simp at hi⟩
  | a :: l,c :: css,⟨h1,h2⟩ => by
    have hl := C.len h1
    obtain ⟨g1,g2⟩ := ZdM h2
    refine ⟨by rw [List.flatten_cons,List.length_append,g1,hl,List.length_cons,Nat.add_mul]; omega,fun i hi => ?_⟩
    cases i with
    | zero => exact ⟨c,by rw [List.flatten_cons,Nat.zero_mul,List.drop_zero,← hl,List.take_left],h1⟩
    | succ i =>
      obtain ⟨c',e1,e2⟩ := g2 i (by simpa using hi)
      refine ⟨c',?_,e2⟩
      rw [List.flatten_cons,Nat.add_mul,Nat.one_mul,← hl,Nat.add_comm,← List.drop_drop,List.drop_left,hl]
      exact e1
theorem X5 {α : Type} {C : NCod α} {B : Nat} {l : List α} {s : St} {v : Value} (h : Cm C B l s v) {i : Nat} (hi : i < l.length) : ∃ (b : Nat) (cells : List Value) (c : List Value),v = .slice (some ⟨b,0,none⟩) l.length l.length ∧ readRow s b = some cells ∧ cells.length = l.length * C.n ∧ (cells.drop (i * C.n)).take C.n = c ∧ C.rel l[i] s c := by
  rcases h.2 with ⟨rfl,rfl⟩ | ⟨b,css,st,k,rfl,h2,h3,h4⟩
  · simp at hi
  · obtain ⟨g1,g2⟩ := ZdM h4
    obtain ⟨c,e1,e2⟩ := g2 i hi
    refine ⟨b,css.flatten,c,rfl,?_,g1,e1,e2⟩
    unfold Ab.readRow
    rw [h2]
    cases st with
    | dead => exact absurd rfl h3
    | act => rfl
    | ro => rfl
theorem OH {α : Type} {C : NCod α} {B : Nat} {l : List α} {s : St} {v : Value} (h : Cm C B l s v) {i : Nat} (hi : i < l.length) {n : Nat} (hn : n = C.n) {ag : Bool} (hag : ag = true ∨ n = 1) : ∃ p u cs,AC n v (.int .i64 (i : Int)) = some p ∧ Aq ag n p s = some u ∧ Aq ag n p (frzS s) = some u ∧ MY ag u cs ∧ C.rel l[i] s cs := by
  subst hn
  obtain ⟨b,cells,c,rfl,h1,h2,h3,h4⟩ := X5 h hi
  have h1f : readRow (frzS s) b = some cells := by rw [D2]; exact h1
  have hle : (i + 1) * C.n ≤ cells.length := by rw [h2]; exact Nat.mul_le_mul_right _ hi
  rw [Nat.add_mul,Nat.one_mul] at hle
  have hidx : AC C.n (.slice (some ⟨b,0,none⟩) l.length l.length) (.int .i64 (i : Int)) = some (.pointer (some ⟨b,i * C.n,none⟩)) := by simp [AC]; omega
  have hcl := C.len h4
  cases ag with
  | true =>
    refine ⟨_,.agg c.toArray,c,hidx,?_,?_,rfl,h4⟩
    · simp only [Aq,if_true,readN,h1,Option.bind_some]
      rw [if_pos hle,h3]
      rfl
    · simp only [Aq,if_true,readN,h1f,Option.bind_some]
      rw [if_pos hle,h3]
      rfl
  | false =>
    have hn1 : C.n = 1 := by
      rcases hag with h | h
      · cases h
      · exact h
    rw [hn1] at hcl
    obtain ⟨x,rfl⟩ := List.length_eq_one_iff.1 hcl
    have hx : cells[i * C.n]? = some x := by
      have := congrArg (fun l => l[0]?) h3
      rw [hn1] at this
      simpa [hn1] using this
    refine ⟨_,x,[x],hidx,?_,?_,rfl,h4⟩
    · simp only [Aq,Bool.false_eq_true,if_false,h1,Option.bind_some,hx]
    · simp only [Aq,Bool.false_eq_true,if_false,h1f,Option.bind_some,hx]
end Go.Proofs.YtmbhnbladmpnoaaGreat.Ab

/- Lists that are looked through: whether one has something; whether they rise. -/
namespace Go.Proofs.YtmbhnbladmpnoaaGreat.Ab
open Go
def Asks {α : Type} (R : Aa) (C : NCod α) (ag : Bool) (s0 : St) (l : List α) (fv : Value) (p : α → Bool) : Prop :=
  ∀ a ∈ l,∀ t u cs,Ext s0.heap.length s0 t → C.rel a t cs → MY ag u cs → ∃ t',Ag Tryz.prog R fv [u] t = some (.bool (p a),t') ∧ Ext t.heap.length t t'
noncomputable def X6 (n : Nat) (ag : Bool) (R : Aa) (T : List Value) (s : St) : Res :=
(abin Tryz.prog .lss 3 (.tmp 8) (.tmp 7) (getL T 3) (getL T 2)).bind fun v1 =>
AA v1
 ((AC n (getL T 0) (getL T 3)).bind fun v2 =>
(Aq ag n v2 s).bind fun v3 =>
(Ag Tryz.prog R (getL T 1) [v3] s).bind fun r4 =>
AA r4.1
 (some (.ret,[(getL T 3)],r4.2))
 ((abin Tryz.prog .add 3 (.tmp 8) (.const (.int .i64 1)) (getL T 3) (.int .i64 1)).bind fun v5 =>
some (.normal,[(getL T 0),(getL T 1),(getL T 2),v5],r4.2)))
 (some (.exit 0,[],s))
def idxP {α : Type} (p : α → Bool) : Nat → List α → Option Nat
  | _,[] => none
  | i,a :: l => if p a = true then some i else idxP p (i + 1) l
theorem RN {α : Type} {p : α → Bool} : ∀ {l : List α} {i : Nat},(idxP p i l).isSome = l.any p
  | [],_ => rfl
  | a :: l,i => by
    simp only [idxP,List.any_cons]
    cases p a with
    | true => rfl
    | false => simpa using RN (l := l) (i := i + 1)
theorem ZV {α : Type} {R : Aa} {C : NCod α} {n : Nat} {ag : Bool} (hn : n = C.n) (hag : ag = true ∨ n = 1) {B : Nat} {s0 : St} {v fv : Value} {l : List α} {p : α → Bool} (h : Cm C B l s0 v) (hl : l.length < 140737488355328) (hp : Asks R C ag s0 l fv p) : ∀ (rest : List α) (i : Nat) (s : St),l.drop i = rest → i ≤ l.length → Ext s0.heap.length s0 s →
    ∃ t,AV (X6 n ag R) [v,fv,.int .i64 ((l.length : Nat) : Int),.int .i64 (i : Int)] s = (match idxP p i rest with | some k => some (.ret,[.int .i64 (k : Int)],t) | none => some (.exit 0,[],t)) ∧ Ext s0.heap.length s0 t := by
  intro rest
  induction rest with
  | nil =>
    intro i s hi hle hx
    have h1 : decide ((i : Int) < ((l.length : Nat) : Int)) = false := by
      have := List.drop_eq_nil_iff.1 hi
      simp; omega
    refine ⟨s,?_,hx⟩
    rw [As]
    simp only [X6,h1,idxP,EVs]
  | cons a rest ih =>
    intro i s hi hle hx
    obtain ⟨hlt,he,hd⟩ := RI hi
    have h1 : decide ((i : Int) < ((l.length : Nat) : Int)) = true := by simp; omega
    obtain ⟨q,u,cs,h2,h3,_,h4,h5⟩ := OH (h.ext hx) hlt hn hag
    rw [he] at h5
    obtain ⟨t,g1,g2⟩ := hp a (by rw [← he]; exact List.getElem_mem _) s u cs hx h5 h4
    rcases Bool.eq_false_or_eq_true (p a) with c | c
    · refine ⟨t,?_,hx.trans (g2.less hx.1)⟩
      rw [As]
      simp only [X6,h1,h2,h3,g1,c,idxP,if_true,EVs]
    · obtain ⟨t2,f1,f2⟩ := ih (i + 1) t hd (by omega) (hx.trans (g2.less hx.1))
      refine ⟨t2,?_,f2⟩
      rw [As]
      simp only [X6,h1,h2,h3,g1,c,idxP,Bool.false_eq_true,if_false,Wl (show i < 140737488355328 by omega),EVs]
      exact f1
theorem H4 {α : Type} {R : Aa} {C : NCod α} {n : Nat} {ag : Bool} (hn : n = C.n) (hag : ag = true ∨ n = 1) {B : Nat} {s0 : St} {v fv : Value} {l : List α} {p : α → Bool} {t1 : TypeId} (h : Cm C B l s0 v) (hl : l.length < 140737488355328) (hp : Asks R C ag s0 l fv p) :
    ∃ (k : Int) (t : St),((AP (.slice t1) v s0).bind fun v0 => (AV (X6 n ag R) [v,fv,v0,(.int .i64 0)] s0).bind fun r6 => exV r6.1 [(0,retV [(.int .i64 (-1))] r6.2.2)] (retV [(getL r6.2.1 0)] r6.2.2)) = some (.int .i64 k,t) ∧ decide (k ≥ 0) = l.any p ∧ Ext s0.heap.length s0 t := by
  obtain ⟨t,h1,h2⟩ := ZV hn hag h hl hp l 0 s0 rfl (Nat.zero_le _) (.refl _ _)
  rw [show ((0 : Nat) : Int) = 0 from rfl] at h1
  have ha := RN (p := p) (l := l) (i := 0)
  cases hk : idxP p 0 l with
  | none =>
    rw [hk] at h1 ha
    refine ⟨-1,t,?_,by rw [← ha]; rfl,h2⟩
    simp only [Bx h,h1,ZM (v := .int .i64 (-1)) rfl,EVs]
  | some k =>
    rw [hk] at h1 ha
    refine ⟨(k : Int),t,?_,by rw [← ha]; simp,h2⟩
    simp only [Bx h,h1,ZM (v := .int .i64 (k : Int)) rfl,EVs]
def Keys {α : Type} (R : Aa) (C : NCod α) (ag : Bool) (s0 : St) (l : List α) (fv : Value) (key : α → Int) : Prop :=
  ∀ a ∈ l,∀ u cs,C.rel a s0 cs → MY ag u cs → ∀ t,Ag Tryz.prog R fv [u] t = some (.int .u64 (key a),t)
end Go.Proofs.YtmbhnbladmpnoaaGreat.Ab

/- Numbers as bytes: what the program's functions do. -/
namespace Go.Proofs.YtmbhnbladmpnoaaGreat.Ab
open Go
def rdN : Nat → Nat → List UInt8 → Option (Nat × Nat × Int)
  | _,_,[] => none
  | i,n,c :: l =>
    if i = 9 ∧ 1 < c.toNat then some (0,0,11)
    else if c.toNat < 128 then (if c.toNat = 0 ∧ 0 < i then some (0,0,11) else some (n + c.toNat % 128 * 2 ^ (7 * i),i + 1,0))
    else rdN (i + 1) (n + c.toNat % 128 * 2 ^ (7 * i)) l
def Aw (l : List UInt8) : Nat × Nat × Int := (rdN 0 0 l).getD (0,0,10)
theorem ZdN (c : Nat) : c &&& 127 = c % 128 := Nat.and_two_pow_sub_one_eq_mod c 7
theorem OI {n m i : Nat} (h : n < 2 ^ i) : n ||| m * 2 ^ i = n + m * 2 ^ i := by
  rw [Nat.mul_comm,Nat.or_comm,← Nat.two_pow_add_eq_or_of_lt h,Nat.add_comm]
theorem L6 {R : Aa} {s : St} {v : Value} {l : List UInt8} (h : bytesOf v s = some l) : ∀ (rest : List UInt8) (i n : Nat),i ≤ 9 → l.drop i = rest → n < 2 ^ (7 * i) →
    AV (B7.b0 R) [.int .u64 (n : Int),v,.int .i64 ((l.length : Nat) : Int),.int .i64 (i : Int)] s =
      match rdN i n rest with
      | none => some (.exit 0,[],s)
      | some r => some (.ret,[.int .u64 (r.1 : Int),.int .i64 (r.2.1 : Int),.int .i64 r.2.2],s)
  | [],i,n,hi,hr,hn => by
    have hle : l.length ≤ i := List.drop_eq_nil_iff.1 hr
    rw [As]
    have hc : decide ((i : Int) < ((l.length : Nat) : Int)) = false := by simp; omega
    simp only [B7.b0,EVs,hc]
    rfl
  | c :: rest,i,n,hi,hr,hn => by
    have hlt : i < l.length := by
      rcases Nat.lt_or_ge i l.length with hh | hh
      · exact hh
      · rw [List.drop_eq_nil_of_le hh] at hr; cases hr
    have hci : l[i] = c := by
      have := List.drop_eq_getElem_cons hlt
      rw [hr] at this
      exact (List.cons.inj this).1.symm
    have hrest : l.drop (i + 1) = rest := by
      have := List.drop_eq_getElem_cons hlt
      rw [hr] at this
      exact (List.cons.inj this).2.symm
    obtain ⟨p,hp1,hp2⟩ := CL h hlt (k := .i64)
    rw [hci] at hp2
    have hcl := c.toNat_lt
    rw [As]
    have hc : decide ((i : Int) < ((l.length : Nat) : Int)) = true := by simp; omega
    simp only [B7.b0,EVs,hc,hp1,hp2]
    have hw1 : IntKind.wrap .i64 (7 * (i : Int)) = ((7 * i : Nat) : Int) := by rw [wrap_i64 (by omega) (by omega)]; push_cast; rfl
    have hw2 : IntKind.wrap .i64 ((i : Int) + 1) = ((i + 1 : Nat) : Int) := by rw [wrap_i64 (by omega) (by omega)]; push_cast; rfl
    have h127 : (127 : Int) = ((127 : Nat) : Int) := rfl
    rw [h127]
    simp only [Zb2 (k := .u8) rfl (show c.toNat < 2 ^ IntKind.bits .u8 from hcl) (show 127 < 2 ^ IntKind.bits .u8 by decide),ZdN,EVs,hw1,hw2]
    by_cases h9 : i = 9 ∧ 1 < c.toNat
    · have hb : (((i : Int) == 9) && decide ((c.toNat : Int) > 1)) = true := by simp; omega
      simp only [hb,EVs,rdN,if_pos h9]
      rfl
    · have hb : (((i : Int) == 9) && decide ((c.toNat : Int) > 1)) = false := by
        rw [Bool.eq_false_iff]; simp; omega
      have hc128 : c.toNat % 128 < 128 := Nat.mod_lt _ (by omega)
      have hconv : IntKind.wrap .u64 ((c.toNat % 128 : Nat) : Int) = ((c.toNat % 128 : Nat) : Int) := SB rfl (Nat.lt_trans hc128 (by decide))
      have hpow : c.toNat % 128 * 2 ^ (7 * i) < 2 ^ 64 ∧ n + c.toNat % 128 * 2 ^ (7 * i) < 2 ^ (7 * (i + 1)) := by
        refine ⟨?_,?_⟩
        · by_cases h8 : i ≤ 8
          · calc c.toNat % 128 * 2 ^ (7 * i) < 128 * 2 ^ (7 * i) := Nat.mul_lt_mul_of_pos_right hc128 (Nat.two_pow_pos _)
              _ ≤ 128 * 2 ^ 56 := Nat.mul_le_mul_left _ (Nat.pow_le_pow_right (by omega) (by omega))
              _ < 2 ^ 64 := by decide
          · have e9 : i = 9 := by omega
            have : c.toNat ≤ 1 := by omega
            subst e9
            have h1 : c.toNat % 128 ≤ 1 := by omega
            calc c.toNat % 128 * 2 ^ (7 * 9) ≤ 1 * 2 ^ (7 * 9) := Nat.mul_le_mul_right _ h1
              _ < 2 ^ 64 := by decide
        · have e : 2 ^ (7 * (i + 1)) = 128 * 2 ^ (7 * i) := by rw [show 7 * (i + 1) = 7 + 7 * i by omega,Nat.pow_add]
          rw [e]
          have : (c.toNat % 128 + 1) * 2 ^ (7 * i) ≤ 128 * 2 ^ (7 * i) := Nat.mul_le_mul_right _ (by omega)
          rw [Nat.add_mul] at this
          omega
      have hshl : ∀ t ox oy,abin Tryz.prog .shl t ox oy (.int .u64 ((c.toNat % 128 : Nat) : Int)) (.int .i64 ((7 * i : Nat) : Int)) = some (.int .u64 ((c.toNat % 128 * 2 ^ (7 * i) : Nat) : Int)) := fun t ox oy => by
        rw [ZF rfl,show c.toNat % 128 * 2 ^ (7 * i) % 2 ^ IntKind.bits .u64 = c.toNat % 128 * 2 ^ (7 * i) from Nat.mod_eq_of_lt hpow.1]
      have hn64 : n < 2 ^ IntKind.bits .u64 := Nat.lt_of_lt_of_le hn (Nat.pow_le_pow_right (by omega) (show 7 * i ≤ 64 by omega))
      have hor : ∀ t ox oy,abin Tryz.prog .or t ox oy (.int .u64 (n : Int)) (.int .u64 ((c.toNat % 128 * 2 ^ (7 * i) : Nat) : Int)) = some (.int .u64 ((n + c.toNat % 128 * 2 ^ (7 * i) : Nat) : Int)) := fun t ox oy => by
        rw [u_or rfl hn64 hpow.1,OI hn]
      have hlt128 : decide ((c.toNat : Int) < 128) = decide (c.toNat < 128) := decide_eq_decide.2 (by omega)
      simp only [hb,EVs,hconv,hshl,hor,hlt128]
      rw [rdN,if_neg h9]
      by_cases h1 : c.toNat < 128
      · simp only [decide_eq_true h1,EVs,if_pos h1]
        by_cases h2 : c.toNat = 0 ∧ 0 < i
        · have hb2 : (((c.toNat : Int) == 0) && decide ((i : Int) > 0)) = true := by simp; omega
          simp only [hb2,EVs,if_pos h2]
          rfl
        · have hb2 : (((c.toNat : Int) == 0) && decide ((i : Int) > 0)) = false := by
            rw [Bool.eq_false_iff]; simp; omega
          simp only [hb2,EVs,if_neg h2]
      · simp only [decide_eq_false h1,EVs,if_neg h1]
        by_cases h8 : i ≤ 8
        · exact L6 h rest (i + 1) _ (by omega) hrest hpow.2
        · omega
theorem Uq {R : Aa} {s : St} {v : Value} {l : List UInt8} (h : bytesOf v s = some l) : B7 R v s = some (.tuple #[.int .u64 ((Aw l).1 : Int),.int .i64 ((Aw l).2.1 : Int),.int .i64 (Aw l).2.2],s) := by
  have := L6 (R := R) h l 0 0 (by omega) rfl (by simp)
  unfold B7 Aw
  simp only [AY h,EVs]
  rw [show (0 : Int) = ((0 : Nat) : Int) from rfl,this]
  cases rdN 0 0 l with
  | none => rfl
  | some r => rfl
def encF : Nat → Nat → List UInt8
  | 0,_ => []
  | k + 1,n => if n < 128 then [UInt8.ofNat n] else UInt8.ofNat (n % 128 + 128) :: encF k (n / 128)
def enc (n : Nat) : List UInt8 := encF 10 n
theorem RO : ∀ (k n : Nat),(encF k n).length ≤ k
  | 0,_ => by simp [encF]
  | k + 1,n => by
    simp only [encF]
    split
    · simp
    · simp [RO k (n / 128)]
theorem Zcf {k n : Nat} : encF (k + 1) n ≠ [] := by
  simp only [encF]
  split <;> simp
theorem KE {n : Nat} : enc n ≠ [] := Zcf
theorem JI {n : Nat} : (enc n).length ≤ 10 := RO 10 n
theorem Bw {n : Nat} (h : n < 256) : ((UInt8.ofNat n).toNat : Nat) = n := by simp; omega
theorem SY {n : Nat} (h : n < 256) : bv [UInt8.ofNat n] = [.int .u8 ((n : Nat) : Int)] := by
  simp only [bv,List.map_cons,List.map_nil,Bw h]
theorem Ze6 (n : Nat) : n % 256 ||| 128 = n % 128 + 128 := by
  have h : n % 256 = n % 128 + 128 * (n / 128 % 2) := by omega
  rw [h]
  rcases Nat.mod_two_eq_zero_or_one (n / 128) with e | e
  · rw [e,Nat.mul_zero,Nat.add_zero]
    have := OI (n := n % 128) (m := 1) (i := 7) (Nat.mod_lt _ (by decide))
    simpa using this
  · rw [e,Nat.mul_one]
    have := OI (n := n % 128) (m := 1) (i := 7) (Nat.mod_lt _ (by decide))
    have h2 : n % 128 + 128 = n % 128 ||| 128 := by simpa using this.symm
    rw [h2,Nat.or_assoc,Nat.or_self]
theorem Vm {R : Aa} {N : Nat} : ∀ (k n : Nat) (acc : List UInt8) (s : St) (out : Value),n < 128 ^ (k + 1) → n < 2 ^ 64 → acc.length + k ≤ 100 → Own N 1 s out (bv acc) → N ≤ s.heap.length →
    ∃ (m : Nat) (out' : Value) (s' : St) (pre : List UInt8),AV (DO.b0 R) [.int .u64 (n : Int),out] s = some (.exit 0,[.int .u64 (m : Int),out'],s') ∧ m < 128 ∧ Own N 1 s' out' (bv (acc ++ pre)) ∧ encF (k + 1) n = pre ++ [UInt8.ofNat m] ∧ Ext N s s' ∧ N ≤ s'.heap.length ∧ pre.length ≤ k
  | 0,n,acc,s,out,h1,h2,h3,h4,h5 => by
    rw [As]
    have hc : decide ((n : Int) ≥ 128) = false := by simp; omega
    simp only [DO.b0,EVs,hc]
    exact ⟨n,out,s,[],rfl,by simpa using h1,by simpa using h4,by simp [encF]; omega,.refl _ _,h5,by simp⟩
  | k + 1,n,acc,s,out,h1,h2,h3,h4,h5 => by
    rw [As]
    by_cases hn : n < 128
    · have hc : decide ((n : Int) ≥ 128) = false := by simp; omega
      simp only [DO.b0,EVs,hc]
      exact ⟨n,out,s,[],rfl,hn,by simpa using h4,by rw [encF,if_pos hn]; rfl,.refl _ _,h5,by simp⟩
    · have hc : decide ((n : Int) ≥ 128) = true := by simp; omega
      have hu : ∀ t ox oy,abin Tryz.prog .or t ox oy (.int .u8 ((n % 256 : Nat) : Int)) (.int .u8 (128 : Int)) = some (.int .u8 ((n % 128 + 128 : Nat) : Int)) := fun t ox oy => by
        rw [show (128 : Int) = ((128 : Nat) : Int) from rfl,u_or rfl (show n % 256 < 2 ^ 8 from Nat.mod_lt _ (by decide)) (show 128 < 2 ^ 8 by decide),Ze6]
      have hs : ∀ t ox oy,abin Tryz.prog .shr t ox oy (.int .u64 (n : Int)) (.int .u64 (7 : Int)) = some (.int .u64 ((n / 128 : Nat) : Int)) := fun t ox oy => by
        rw [show (7 : Int) = ((7 : Nat) : Int) from rfl,T4 (show n < 2 ^ 64 from h2)]
      obtain ⟨r,g1,v',s',g2,g3,g4⟩ := XC (w := 1) (z := [.int .u8 0]) (v := .int .u8 ((n % 128 + 128 : Nat) : Int)) h4 h5 (by omega) (by omega) (by omega) rfl rfl rfl rfl (by rw [AX]; omega)
      simp only [DO.b0,EVs,hc,Ka,hu,g1,g2,hs]
      have h5' : N ≤ s'.heap.length := Nat.le_trans h5 g4.1
      have hacc : bv acc ++ An (.int .u8 ((n % 128 + 128 : Nat) : Int)) = bv (acc ++ [UInt8.ofNat (n % 128 + 128)]) := by
        rw [Cz,SY (by omega)]; rfl
      rw [hacc] at g3
      obtain ⟨m,out',s2,pre,f1,f2,f3,f4,f5,f6,f7⟩ := Vm k (n / 128) (acc ++ [UInt8.ofNat (n % 128 + 128)]) s' v' (by rw [Nat.pow_succ] at h1; omega) (by omega) (by simp; omega) g3 h5'
      refine ⟨m,out',s2,UInt8.ofNat (n % 128 + 128) :: pre,f1,f2,by simpa using f3,?_,g4.trans f5,f6,by simp; omega⟩
      rw [encF,if_neg hn,f4]
      rfl
theorem Zcg {R : Aa} {n : Nat} (hn : n < 2 ^ 64) (s : St) : ∃ v s',DO R (.int .u64 (n : Int)) s = some (v,s') ∧ Own s.heap.length 1 s' v (bv (enc n)) ∧ Ext s.heap.length s s' := by
  obtain ⟨m,out',s2,pre,f1,f2,f3,f4,f5,f6,f7⟩ := Vm (R := R) (N := s.heap.length) 9 n [] s (.slice none 0 0) (Nat.lt_of_lt_of_le hn (by decide)) hn (by simp) (Own.nil _ _ _) (Nat.le_refl _)
  obtain ⟨r,g1,v',s',g2,g3,g4⟩ := XC (w := 1) (z := [.int .u8 0]) (v := .int .u8 ((m : Nat) : Int)) f3 f6 (by omega) (by omega) (by omega) rfl rfl rfl rfl (by rw [AX]; simp; omega)
  have hm : m % 256 = m := by omega
  unfold DO
  simp only [f1,EVs,Ka,hm,g1,g2]
  have hacc : bv ([] ++ pre) ++ An (.int .u8 ((m : Nat) : Int)) = bv (enc n) := by
    unfold enc
    rw [f4,List.nil_append,Cz,SY (by omega)]; rfl
  rw [hacc] at g3
  refine ⟨v',s',?_,g3,f5.trans g4⟩
  rcases g3 with ⟨rfl,_⟩ | ⟨b,len,rfl,_⟩ <;> rfl
theorem Wv {lib : Lib} (hl : lib 103 = none) : ∀ (k n : Nat),n < 128 ^ (k + 1) → n < 2 ^ 64 → k ≤ 50 → ∀ (s : St),∃ v s',run Tryz.prog lib Ad 103 [.int .u64 (n : Int)] s = some (v,s') ∧ Own s.heap.length 1 s' v (bv (encF (k + 1) n)) ∧ Ext s.heap.length s s' := by
  intro k
  induction k with
  | zero =>
    intro n h1 h2 _ s
    have hn : n < 128 := by simpa using h1
    have hc : decide ((n : Int) < 128) = true := by simp; omega
    have hm : n % 256 = n := by omega
    have hb : Ar 1 [.int .u8 0] 1 [(0,.int .u8 ((n : Nat) : Int))] s = some (Af [UInt8.ofNat n] s) := by
      unfold Af
      rw [SY (by omega)]
      rfl
    refine ⟨_,_,HR hl (r := Af [UInt8.ofNat n] s) ?_,?_,A4 (Nat.le_refl _)⟩
    · unfold Kv
      simp only [EVs,hc,Ka,hm,hb]
      rfl
    · rw [encF,if_pos hn]
      exact CX (Nat.le_refl _) (by simp)
  | succ k ih =>
    intro n h1 h2 hk s
    by_cases hn : n < 128
    · have hc : decide ((n : Int) < 128) = true := by simp; omega
      have hm : n % 256 = n := by omega
      have hb : Ar 1 [.int .u8 0] 1 [(0,.int .u8 ((n : Nat) : Int))] s = some (Af [UInt8.ofNat n] s) := by
        unfold Af
        rw [SY (by omega)]
        rfl
      refine ⟨_,_,HR hl (r := Af [UInt8.ofNat n] s) ?_,?_,A4 (Nat.le_refl _)⟩
      · unfold Kv
        simp only [EVs,hc,Ka,hm,hb]
        rfl
      · rw [encF,if_pos hn]
        exact CX (Nat.le_refl _) (by simp)
    · have hc : decide ((n : Int) < 128) = false := by simp; omega
      have hrem : ∀ t ox oy,abin Tryz.prog .rem t ox oy (.int .u64 (n : Int)) (.int .u64 (128 : Int)) = some (.int .u64 ((n % 128 : Nat) : Int)) := fun t ox oy => by
        rw [Wg (by decide)]; rfl
      have hquo : ∀ t ox oy,abin Tryz.prog .quo t ox oy (.int .u64 (n : Int)) (.int .u64 (128 : Int)) = some (.int .u64 ((n / 128 : Nat) : Int)) := fun t ox oy => by
        rw [Zdo (by decide)]
        have : (n : Int).tdiv 128 = ((n / 128 : Nat) : Int) := rfl
        rw [this,QU,Nat.mod_eq_of_lt (by omega)]
      have hm : n % 128 % 256 = n % 128 := by omega
      have hw : IntKind.wrap .u8 (((n % 128 : Nat) : Int) + 128) = ((n % 128 + 128 : Nat) : Int) := by
        rw [show (((n % 128 : Nat) : Int) + 128) = ((n % 128 + 128 : Nat) : Int) by omega,Ka,Nat.mod_eq_of_lt (by omega)]
      have hb : Ar 1 [.int .u8 0] 1 [(0,.int .u8 ((n % 128 + 128 : Nat) : Int))] s = some (Af [UInt8.ofNat (n % 128 + 128)] s) := by
        unfold Af
        rw [SY (by omega)]
        rfl
      obtain ⟨v,s',g1,g2,g3⟩ := ih (n / 128) (by rw [Nat.pow_succ] at h1; omega) (by omega) (by omega) (Af [UInt8.ofNat (n % 128 + 128)] s).2
      have hO : Own s.heap.length 1 s' (Af [UInt8.ofNat (n % 128 + 128)] s).1 (bv [UInt8.ofNat (n % 128 + 128)]) :=
        .inr ⟨s.heap.length,1,rfl,Nat.le_refl _,by rw [g3.2 _ (by simp [Af,St.push])]; exact AE,by simp [bv],by omega⟩
      have hle : s.heap.length ≤ s'.heap.length := Nat.le_trans (by simp [Af,St.push]) g3.1
      have hlen := RO (k + 1) (n / 128)
      obtain ⟨v2,s2,f1,f2,f3⟩ := Gf (w := 1) hO hle (by omega) (by omega) (y := v) (m := (encF (k + 1) (n / 128)).length) (by
        rcases g2 with ⟨rfl,e⟩ | ⟨b,len,rfl,_,_,e,_⟩
        · rw [SE (m := []) e]; rfl
        · rw [AX,Nat.mul_one] at e; rw [e]; rfl) (M7 g2.cells) (by rw [AX,Nat.mul_one]) (by rw [AX,AX]; simp; omega)
      refine ⟨v2,s2,HR hl (r := (v2,s2)) ?_,?_,((A4 (Nat.le_refl _)).trans (g3.less (by simp [Af,St.push]))).trans f3⟩
      · unfold Kv
        simp only [EVs,hc,hrem,Ka,hm,hw,hb,hquo,D8,g1,f1]
        rcases f2 with ⟨rfl,_⟩ | ⟨b,len,rfl,_⟩ <;> rfl
      · rw [encF,if_neg hn,← List.singleton_append,Cz]
        exact f2
end Go.Proofs.YtmbhnbladmpnoaaGreat.Ab

/- Texts,numbers in four bytes,and what is Bq of the octet functions. -/
namespace Go.Proofs.YtmbhnbladmpnoaaGreat.Ab
open Go
def tup3 (n k : Nat) (e : Int) : Value := .tuple #[.int .u64 (n : Int),.int .i64 (k : Int),.int .i64 e]
def Ca : Sum := fun xs s => (match xs with | [v] => (bytesOf v s).map fun l => tup3 (Aw l).1 (Aw l).2.1 (Aw l).2.2 | _ => none).map fun v => (v,s)
def gNum : Sum := fun xs s => (match xs with | [.int .u64 a] => if 0 ≤ a ∧ a < 18446744073709551616 then some (enc a.toNat) else none | _ => none).map fun l => Af l s
theorem Fh {v : Value} {s : St} {l : List UInt8} (h : bytesOf v s = some l) : Ca [v] s = some (tup3 (Aw l).1 (Aw l).2.1 (Aw l).2.2,s) := by
  simp only [Ca,h,Option.map_some]
theorem Ll {n : Nat} {s : St} (h : n < 18446744073709551616) : gNum [.int .u64 (n : Int)] s = some (Af (enc n) s) := by
  simp only [gNum]
  rw [if_pos (by omega)]
  rfl
theorem Ur {lib : Lib} (hl : lib 117 = none) : BM Tryz.prog lib Ad 117 Ca :=
  BM.plain (G := fun xs s => match xs with | [v] => (bytesOf v s).map fun l => tup3 (Aw l).1 (Aw l).2.1 (Aw l).2.2 | _ => none) fun xs s v h => by
    split at h
    · simp only [Option.map_eq_some_iff] at h
      obtain ⟨l,hl2,rfl⟩ := h
      exact ⟨rfl,_,MR hl (Uq (by rw [Bp]; exact hl2))⟩
    · cases h
theorem Zch {lib : Lib} (hl : lib 45 = none) : BM Tryz.prog lib Ad 45 gNum :=
  BM.bytes (G := fun xs _ => match xs with | [.int .u64 a] => if 0 ≤ a ∧ a < 18446744073709551616 then some (enc a.toNat) else none | _ => none) fun xs s l h => by
    split at h
    · rename_i a
      split at h
      · rename_i ha
        cases h
        obtain ⟨n,rfl⟩ := Int.eq_ofNat_of_zero_le ha.1
        obtain ⟨v,s',h1,h2,_⟩ := Zcg (R := run Tryz.prog lib Ad) (n := n) (by omega) (frzS s)
        rw [Ch] at h2
        exact ⟨KE,v,s',SJ hl h1,h2⟩
      · cases h
    · cases h
theorem Ww {lib : Lib} (hl : lib 103 = none) : BM Tryz.prog lib Ad 103 gNum :=
  BM.bytes (G := fun xs _ => match xs with | [.int .u64 a] => if 0 ≤ a ∧ a < 18446744073709551616 then some (enc a.toNat) else none | _ => none) fun xs s l h => by
    split at h
    · rename_i a
      split at h
      · rename_i ha
        cases h
        obtain ⟨n,rfl⟩ := Int.eq_ofNat_of_zero_le ha.1
        have hn : n < 18446744073709551616 := by omega
        obtain ⟨v,s',h1,h2,_⟩ := Wv hl 9 n (Nat.lt_of_lt_of_le hn (by decide)) hn (by omega) (frzS s)
        rw [Ch] at h2
        exact ⟨KE,v,s',h1,h2⟩
      · cases h
    · cases h
theorem ZW : ∀ {l : List UInt8} {i n : Nat} {r : Nat × Nat × Int},rdN i n l = some r → (r.2.2 = 0 ∨ r.2.2 = 11) ∧ (r.2.2 ≠ 0 → r.1 = 0 ∧ r.2.1 = 0) ∧ (r.2.2 = 0 → i < r.2.1 ∧ r.2.1 ≤ i + l.length)
  | [],i,n,r,h => by simp [rdN] at h
  | c :: l,i,n,r,h => by
    simp only [rdN] at h
    split at h
    · cases h; simp
    · split at h
      · split at h
        · cases h; simp
        · cases h; simp
      · obtain ⟨h1,h2,h3⟩ := ZW h
        refine ⟨h1,h2,fun e => ?_⟩
        have := h3 e
        simp
        omega
theorem Gw (l : List UInt8) : (Aw l).2.2 = 0 → 0 < (Aw l).2.1 ∧ (Aw l).2.1 ≤ l.length := by
  unfold Aw
  cases h : rdN 0 0 l with
  | none => intro e; simp at e
  | some r => intro e; have := (ZW h).2.2 e; simp at this ⊢; omega
def Df : Nat → List UInt8 → Option Nat
  | 0,_ => none
  | _ + 1,[] => none
  | k + 1,c :: l => if c.toNat < 128 then some 0 else (Df k l).map (· + 1)
def Hb (l : List UInt8) (n : Nat) : Nat := l.foldr (fun c n => (n * 128 + c.toNat % 128) % 18446744073709551616) n
def Lm (l : List UInt8) : Nat × Nat × Int :=
  match Df 10 l with
  | some i => if enc (Hb (l.take (i + 1)) 0) = l.take (i + 1) then (Hb (l.take (i + 1)) 0,i + 1,0) else (0,0,11)
  | none => if 10 ≤ l.length then (0,0,11) else (0,0,10)
theorem X7 {l : List UInt8} {n : Nat} (h : n < 18446744073709551616) : Hb l n < 18446744073709551616 := by
  cases l with
  | nil => exact h
  | cons => exact Nat.mod_lt _ (by decide)
theorem Hc {R : Aa} {s : St} {v : Value} {l : List UInt8} (h : bytesOf v s = some l) (i : Value) : ∀ (j n : Nat),j ≤ l.length → j ≤ 100 → n < 18446744073709551616 →
    AV (A2.b1 R) [v,i,.int .u64 (n : Int),.int .i64 ((j : Int) - 1)] s = some (.exit 2,[v,i,.int .u64 ((Hb (l.take j) n : Nat) : Int)],s)
  | 0,n,hj,_,hn => by
    rw [As]
    have hc : decide (((0 : Nat) : Int) - 1 ≥ 0) = false := by simp
    simp only [A2.b1,EVs,hc]
    rfl
  | j + 1,n,hj,hj2,hn => by
    rw [As]
    have e0 : (((j + 1 : Nat) : Int) - 1) = (j : Int) := by omega
    rw [e0]
    have hc : decide ((j : Int) ≥ 0) = true := by simp
    obtain ⟨p,hp1,hp2⟩ := CL h (i := j) (by omega) (k := .i64)
    have hrem : ∀ t ox oy,abin Tryz.prog .rem t ox oy (.int .u8 ((l[j].toNat : Nat) : Int)) (.int .u8 (128 : Int)) = some (.int .u8 ((l[j].toNat % 128 : Nat) : Int)) := fun t ox oy => by
      rw [Wg (by decide)]; rfl
    have hmul : IntKind.wrap .u64 ((n : Int) * (128 : Int)) = ((n * 128 % 18446744073709551616 : Nat) : Int) := by
      rw [show (n : Int) * (128 : Int) = ((n * 128 : Nat) : Int) by omega,QU]
    have hcv : IntKind.wrap .u64 ((l[j].toNat % 128 : Nat) : Int) = ((l[j].toNat % 128 : Nat) : Int) := by rw [QU,Nat.mod_eq_of_lt (by omega)]
    have hadd : IntKind.wrap .u64 (((n * 128 % 18446744073709551616 : Nat) : Int) + ((l[j].toNat % 128 : Nat) : Int)) = (((n * 128 + l[j].toNat % 128) % 18446744073709551616 : Nat) : Int) := by
      rw [show ((n * 128 % 18446744073709551616 : Nat) : Int) + ((l[j].toNat % 128 : Nat) : Int) = ((n * 128 % 18446744073709551616 + l[j].toNat % 128 : Nat) : Int) by omega,QU]
      congr 1
      omega
    have hsub : IntKind.wrap .i64 ((j : Int) - 1) = (j : Int) - 1 := wrap_i64 (by omega) (by omega)
    simp only [A2.b1,EVs,hc]
    rw [hmul]
    simp only [EVs,hp1,hp2,hrem]
    rw [hcv,hadd,hsub]
    rw [Hc h i j _ (by omega) (by omega) (Nat.mod_lt _ (by decide))]
    have ht : l.take (j + 1) = l.take j ++ [l[j]] := by rw [List.take_succ_eq_append_getElem (by omega)]
    rw [ht]
    simp only [Hb,List.foldr_append,List.foldr_cons,List.foldr_nil]
theorem OJ {R : Aa} (hR : ∀ xs s,R 103 xs s = gNum xs s) {s : St} {v : Value} {l : List UInt8} (h : bytesOf v s = some l) : ∀ (rest : List UInt8) (i : Nat),i ≤ 10 → l.drop i = rest →
    match Df (10 - i) rest with
    | some d => ∃ s',AV (A2.b0 R) [v,.int .i64 (i : Int)] s = some (.ret,(if enc (Hb (l.take (i + d + 1)) 0) = l.take (i + d + 1) then [.int .u64 ((Hb (l.take (i + d + 1)) 0 : Nat) : Int),.int .i64 ((i + d + 1 : Nat) : Int),.int .i64 0] else [.int .u64 0,.int .i64 0,.int .i64 11]),s')
    | none => AV (A2.b0 R) [v,.int .i64 (i : Int)] s = some (.exit 0,[v],s) := by
  intro rest
  induction rest with
  | nil =>
    intro i hi hr
    have hle : l.length ≤ i := List.drop_eq_nil_iff.1 hr
    have : Df (10 - i) [] = none := by cases 10 - i <;> rfl
    rw [this]
    simp only
    rw [As]
    have hc : decide ((i : Int) < ((l.length : Nat) : Int)) = false := by simp; omega
    simp only [A2.b0,EVs,AY h,hc,Bool.false_and]
  | cons c rest IH =>
    intro i hi hr
    have hlt : i < l.length := by
      rcases Nat.lt_or_ge i l.length with hh | hh
      · exact hh
      · rw [List.drop_eq_nil_of_le hh] at hr; cases hr
    have hci : l[i] = c := by
      have := List.drop_eq_getElem_cons hlt
      rw [hr] at this
      exact (List.cons.inj this).1.symm
    have hrest : l.drop (i + 1) = rest := by
      have := List.drop_eq_getElem_cons hlt
      rw [hr] at this
      exact (List.cons.inj this).2.symm
    by_cases h10 : i = 10
    · subst h10
      have : Df (10 - 10) (c :: rest) = none := rfl
      rw [this]
      simp only
      rw [As]
      have hc : (decide (((10 : Nat) : Int) < ((l.length : Nat) : Int)) && decide (((10 : Nat) : Int) < 10)) = false := by simp
      simp only [A2.b0,EVs,AY h,hc]
    · obtain ⟨k,hk⟩ : ∃ k,10 - i = k + 1 := ⟨9 - i,by omega⟩
      have hk2 : 10 - (i + 1) = k := by omega
      obtain ⟨p,hp1,hp2⟩ := CL h hlt (k := .i64)
      rw [hci] at hp2
      have hcl := c.toNat_lt
      have hc : (decide ((i : Int) < ((l.length : Nat) : Int)) && decide ((i : Int) < 10)) = true := by simp; omega
      have hw2 : IntKind.wrap .i64 ((i : Int) + 1) = ((i + 1 : Nat) : Int) := by rw [wrap_i64 (by omega) (by omega)]; push_cast; rfl
      rw [hk,Df]
      by_cases h1 : c.toNat < 128
      · have hb : decide ((c.toNat : Int) ≥ 128) = false := by simp; omega
        rw [if_pos h1]
        simp only [Nat.add_zero]
        rw [As]
        have hin := Hc (R := R) h (.int .i64 (i : Int)) (i + 1) 0 (by omega) (by omega) (by omega)
        rw [show (((i + 1 : Nat) : Int) - 1) = (i : Int) by omega,show (((0 : Nat) : Int)) = (0 : Int) from rfl] at hin
        have hm64 := X7 (l := l.take (i + 1)) (n := 0) (by decide)
        generalize Hb (l.take (i + 1)) 0 = m at hin hm64 ⊢
        simp only [A2.b0,EVs,AY h,hc,hp1,hp2,hb]
        rw [hin]
        simp only [EVs,D8]
        rw [hR,Ll hm64]
        simp only [EVs]
        have hE : Ext s.heap.length s (Af (enc m) s).2 := A4 (Nat.le_refl _)
        have hs1 := Kb (s := frzS (Af (enc m) s).2) (v := (Af (enc m) s).1) (by rw [Bp]; exact Bk)
        obtain ⟨u,hu1,hu2⟩ := BF h (lo := none) (hi := some (.int .i64 ((i + 1 : Nat) : Int))) (mx := none) (i := 0) (j := i + 1) (by simp [Bg]) (by simp [Bg]; omega) (by omega) (by omega) (.inl rfl)
        have hs2 := Kb (s := frzS (Af (enc m) s).2) (v := u) (by rw [Bp]; exact hE.bytes hu2)
        simp only [SH,Wh,hs1,EVs,hw2,hu1,hs2]
        rw [List.drop_zero,Nat.sub_zero]
        generalize enc m = em at hE hs1 hs2 ⊢
        have hneq : ∀ t ox oy,abin Tryz.prog .neq t ox oy (.string ⟨em.toArray⟩) (.string ⟨(l.take (i + 1)).toArray⟩) = some (.bool (!(em == l.take (i + 1)))) := fun t ox oy => IP
        simp only [hneq,EVs]
        by_cases heq : em = l.take (i + 1)
        · have hbb : (!(em == l.take (i + 1))) = false := by simp [heq]
          rw [if_pos heq]
          simp only [hbb,EVs]
          exact ⟨_,rfl⟩
        · have hbb : (!(em == l.take (i + 1))) = true := by simp [heq]
          rw [if_neg heq]
          simp only [hbb,EVs]
          exact ⟨_,rfl⟩
      · have hb : decide ((c.toNat : Int) ≥ 128) = true := by simp; omega
        rw [if_neg h1]
        have ih := IH (i + 1) (by omega) hrest
        rw [hk2] at ih
        rw [As]
        simp only [A2.b0,EVs,AY h,hc,hp1,hp2,hb,hw2]
        cases hf : Df k rest with
        | none => rw [hf] at ih; exact ih
        | some d =>
          rw [hf] at ih
          simp only [Option.map_some] at ih ⊢
          rw [show i + (d + 1) + 1 = i + 1 + d + 1 by omega]
          exact ih
theorem PU {R : Aa} (hR : ∀ xs s,R 103 xs s = gNum xs s) {s : St} {v : Value} {l : List UInt8} (h : bytesOf v s = some l) : ∃ s',A2 R v s = some (tup3 (Lm l).1 (Lm l).2.1 (Lm l).2.2,s') := by
  have := OJ hR h l 0 (by omega) rfl
  rw [Nat.sub_zero,show (((0 : Nat) : Int)) = (0 : Int) from rfl] at this
  unfold A2 Lm
  cases hf : Df 10 l with
  | none =>
    rw [hf] at this
    simp only at this ⊢
    simp only [this,EVs,AY h]
    by_cases h10 : 10 ≤ l.length
    · have hb : decide (((l.length : Nat) : Int) ≥ 10) = true := by simp; omega
      simp only [hb,EVs,if_pos h10]
      exact ⟨_,rfl⟩
    · have hb : decide (((l.length : Nat) : Int) ≥ 10) = false := by simp; omega
      simp only [hb,EVs,if_neg h10]
      exact ⟨_,rfl⟩
  | some d =>
    rw [hf] at this
    simp only [Nat.zero_add] at this ⊢
    obtain ⟨s',this⟩ := this
    simp only [this,EVs]
    by_cases heq : enc (Hb (l.take (d + 1)) 0) = l.take (d + 1)
    · simp only [if_pos heq,EVs]
      exact ⟨_,rfl⟩
    · simp only [if_neg heq,EVs]
      exact ⟨_,rfl⟩
theorem Gx (l : List UInt8) : (Aw l).1 < 18446744073709551616 := by
  have key : ∀ (l : List UInt8) (i n : Nat) (r : Nat × Nat × Int),i ≤ 9 → n < 2 ^ (7 * i) → rdN i n l = some r → r.1 < 18446744073709551616 := by
    intro l
    induction l with
    | nil => intro i n r _ _ h; simp [rdN] at h
    | cons c l ih =>
      intro i n r hi hn h
      have hc128 : c.toNat % 128 < 128 := Nat.mod_lt _ (by omega)
      simp only [rdN] at h
      split at h
      · cases h; simp
      · rename_i h9
        have e : 2 ^ (7 * (i + 1)) = 128 * 2 ^ (7 * i) := by rw [show 7 * (i + 1) = 7 + 7 * i by omega,Nat.pow_add]
        have hnext : n + c.toNat % 128 * 2 ^ (7 * i) < 2 ^ (7 * (i + 1)) := by
          rw [e]
          have : (c.toNat % 128 + 1) * 2 ^ (7 * i) ≤ 128 * 2 ^ (7 * i) := Nat.mul_le_mul_right _ (by omega)
          rw [Nat.add_mul] at this
          omega
        split at h
        · rename_i hlt
          split at h
          · cases h; simp
          · cases h
            show n + c.toNat % 128 * 2 ^ (7 * i) < 18446744073709551616
            by_cases h8 : i ≤ 8
            · exact Nat.lt_of_lt_of_le hnext (Nat.le_trans (Nat.pow_le_pow_right (by omega) (show 7 * (i + 1) ≤ 63 by omega)) (by decide))
            · have e9 : i = 9 := by omega
              subst e9
              have h1 : c.toNat % 128 ≤ 1 := by omega
              have h2 : c.toNat % 128 * 2 ^ (7 * 9) ≤ 1 * 2 ^ (7 * 9) := Nat.mul_le_mul_right _ h1
              have h3 : (2 : Nat) ^ (7 * 9) = 9223372036854775808 := by decide
              omega
        · have hi8 : i ≤ 8 := by omega
          exact ih (i + 1) _ r (by omega) hnext h
  unfold Aw
  cases h : rdN 0 0 l with
  | none => simp
  | some r => exact key l 0 0 r (by omega) (by simp) h
end Go.Proofs.YtmbhnbladmpnoaaGreat.Ab

/- The two ways to read a number are one. -/
namespace Go.Proofs.YtmbhnbladmpnoaaGreat.Ab
open Go
def hn : List UInt8 → Nat
  | [] => 0
  | c :: l => hn l * 128 + c.toNat % 128
theorem SZ (l : List UInt8) : Hb l 0 = hn l % 18446744073709551616 := by
  induction l with
  | nil => rfl
  | cons c l ih =>
    show (Hb l 0 * 128 + c.toNat % 128) % 18446744073709551616 = _
    rw [ih,hn]
    omega
def High (l : List UInt8) : Prop := ∀ c ∈ l,128 ≤ c.toNat
def ZdO (u : List UInt8) : Prop := ∃ pre c,u = pre ++ [c] ∧ High pre ∧ c.toNat < 128 ∧ (c.toNat = 0 → pre = [])
theorem Us : ∀ (k n : Nat),n < 128 ^ k → hn (encF k n) = n
  | 0,n,h => by simp at h; subst h; rfl
  | k + 1,n,h => by
    simp only [encF]
    split
    · simp only [hn,Bw (show n < 256 by omega)]; omega
    · rw [Nat.pow_succ] at h
      simp only [hn,Bw (show n % 128 + 128 < 256 by omega),Us k (n / 128) (by omega)]
      omega
theorem Qk : ∀ (k n : Nat),n < 128 ^ (k + 1) → ∃ pre c,encF (k + 1) n = pre ++ [c] ∧ High pre ∧ c.toNat < 128 ∧ (c.toNat = 0 → n = 0 ∧ pre = [])
  | 0,n,h => by
    have hn : n < 128 := by simpa using h
    refine ⟨[],UInt8.ofNat n,by simp [encF,hn],fun c hc => by simp at hc,by rw [Bw (by omega)]; exact hn,fun e => ⟨by rw [Bw (by omega)] at e; exact e,rfl⟩⟩
  | k + 1,n,h => by
    by_cases hn : n < 128
    · refine ⟨[],UInt8.ofNat n,by simp [encF,hn],fun c hc => by simp at hc,by rw [Bw (by omega)]; exact hn,fun e => ⟨by rw [Bw (by omega)] at e; exact e,rfl⟩⟩
    · rw [Nat.pow_succ] at h
      obtain ⟨pre,c,h1,h2,h3,h4⟩ := Qk k (n / 128) (by omega)
      refine ⟨UInt8.ofNat (n % 128 + 128) :: pre,c,by rw [encF,if_neg hn,h1]; rfl,fun x hx => ?_,h3,fun e => ?_⟩
      · rcases List.mem_cons.1 hx with rfl | hx
        · rw [Bw (by omega)]; omega
        · exact h2 x hx
      · have := (h4 e).1; omega
theorem S0 {n : Nat} (h : n < 18446744073709551616) : ZdO (enc n) := by
  obtain ⟨pre,c,h1,h2,h3,h4⟩ := Qk 9 n (Nat.lt_of_lt_of_le h (by decide))
  exact ⟨pre,c,h1,h2,h3,fun e => (h4 e).2⟩
theorem X8 : ∀ (pre : List UInt8) (c : UInt8) (k : Nat),High pre → c.toNat < 128 → (c.toNat = 0 → pre = []) → pre.length < k → encF k (hn (pre ++ [c])) = pre ++ [c]
  | [],c,k,_,hc,_,hk => by
    obtain ⟨k,rfl⟩ : ∃ q,k = q + 1 := ⟨k - 1,by simp at hk; omega⟩
    have : hn ([] ++ [c]) = c.toNat := by simp [hn]; omega
    rw [this,encF,if_pos hc]
    simp
  | x :: pre,c,k,hp,hc,h0,hk => by
    obtain ⟨k,rfl⟩ : ∃ q,k = q + 1 := ⟨k - 1,by simp at hk; omega⟩
    have hx : 128 ≤ x.toNat := hp x (by simp)
    have hx2 := x.toNat_lt
    have hpos : 0 < hn (pre ++ [c]) := by
      have key : ∀ (q : List UInt8),0 < c.toNat → 0 < hn (q ++ [c]) := by
        intro q hc0
        induction q with
        | nil => simp [hn]; omega
        | cons y q ih => simp only [List.cons_append,hn]; omega
      refine key pre ?_
      rcases Nat.eq_zero_or_pos c.toNat with e | e
      · have := h0 e; simp at this
      · exact e
    have hv : hn (x :: pre ++ [c]) = hn (pre ++ [c]) * 128 + x.toNat % 128 := rfl
    rw [hv,encF,if_neg (by omega)]
    have e1 : (hn (pre ++ [c]) * 128 + x.toNat % 128) / 128 = hn (pre ++ [c]) := by omega
    have e2 : (hn (pre ++ [c]) * 128 + x.toNat % 128) % 128 + 128 = x.toNat := by omega
    rw [e1,e2,X8 pre c k (fun y hy => hp y (by simp [hy])) hc (fun e => by have := h0 e; simp at this) (by simp at hk; omega)]
    simp
theorem ZdP : ∀ (l : List UInt8),hn l < 128 ^ l.length
  | [] => by simp [hn]
  | c :: l => by
    have := ZdP l
    simp only [hn,List.length_cons,Nat.pow_succ]
    omega
theorem OK : ∀ (pre l : List UInt8),hn (pre ++ l) = hn pre + 128 ^ pre.length * hn l
  | [],l => by simp [hn]
  | c :: pre,l => by
    simp only [List.cons_append,hn,OK pre l,List.length_cons,Nat.pow_succ]
    rw [Nat.add_mul,Nat.mul_assoc,Nat.mul_comm (hn l) 128,← Nat.mul_assoc]
    omega
theorem Zci {u : List UInt8} (hu : u.length ≤ 10) : enc (Hb u 0) = u ↔ ZdO u ∧ hn u < 18446744073709551616 := by
  rw [SZ]
  constructor
  · intro h
    have hm : hn u % 18446744073709551616 < 18446744073709551616 := Nat.mod_lt _ (by decide)
    have hv := Us 10 (hn u % 18446744073709551616) (Nat.lt_of_lt_of_le hm (by decide))
    have h2 : hn u = hn u % 18446744073709551616 := by
      have : encF 10 (hn u % 18446744073709551616) = u := h
      rw [this] at hv
      exact hv
    refine ⟨?_,by omega⟩
    rw [← h]
    exact S0 hm
  · rintro ⟨⟨pre,c,rfl,h1,h2,h3⟩,h4⟩
    rw [Nat.mod_eq_of_lt h4]
    exact X8 pre c 10 h1 h2 h3 (by simp at hu; omega)
theorem L7 : ∀ {k : Nat} {l : List UInt8} {d : Nat},Df k l = some d → ∃ pre c rest,l = pre ++ c :: rest ∧ pre.length = d ∧ d < k ∧ High pre ∧ c.toNat < 128
  | 0,l,d,h => by simp [Df] at h
  | k + 1,[],d,h => by simp [Df] at h
  | k + 1,c :: l,d,h => by
    simp only [Df] at h
    split at h
    · rename_i hc; cases h; exact ⟨[],c,l,rfl,rfl,by omega,fun x hx => by simp at hx,hc⟩
    · rename_i hc
      simp only [Option.map_eq_some_iff] at h
      obtain ⟨e,he,rfl⟩ := h
      obtain ⟨pre,q,rest,rfl,rfl,h3,h4,h5⟩ := L7 he
      refine ⟨c :: pre,q,rest,rfl,rfl,by omega,fun x hx => ?_,h5⟩
      simp at hx
      rcases hx with rfl | hx
      · omega
      · exact h4 x hx
theorem L8 : ∀ {k : Nat} {l : List UInt8},Df k l = none → High (l.take k)
  | 0,l,_ => fun x hx => by simp at hx
  | k + 1,[],_ => fun x hx => by simp at hx
  | k + 1,c :: l,h => by
    simp only [Df] at h
    split at h
    · cases h
    · rename_i hc
      have h2 : Df k l = none := by simpa using h
      intro x hx
      simp at hx
      rcases hx with rfl | hx
      · omega
      · exact L8 h2 x hx
theorem Ut : ∀ (pre : List UInt8) (c : UInt8) (rest : List UInt8) (i n : Nat),High pre → c.toNat < 128 → i + pre.length ≤ 9 →
    rdN i n (pre ++ c :: rest) = if i + pre.length = 9 ∧ 1 < c.toNat then some (0,0,11) else if c.toNat = 0 ∧ 0 < i + pre.length then some (0,0,11) else some (n + 2 ^ (7 * i) * hn (pre ++ [c]),i + pre.length + 1,0)
  | [],c,rest,i,n,_,hc,hi => by
    simp only [List.nil_append,rdN,List.length_nil,Nat.add_zero]
    split
    · rfl
    · split
      · rfl
      · simp only [hn,Nat.zero_mul,Nat.zero_add]
        rw [Nat.mul_comm]
  | x :: pre,c,rest,i,n,hp,hc,hi => by
    have hx : 128 ≤ x.toNat := hp x (by simp)
    simp only [List.length_cons] at hi
    rw [List.cons_append,rdN,if_neg (by omega),if_neg (by omega),Ut pre c rest (i + 1) _ (fun y hy => hp y (by simp [hy])) hc (by omega)]
    simp only [List.length_cons]
    rw [show i + 1 + pre.length = i + (pre.length + 1) by omega]
    split
    · rfl
    · split
      · rfl
      · congr 2
        simp only [List.cons_append,hn]
        rw [show 7 * (i + 1) = 7 + 7 * i by omega,Nat.pow_add,Nat.mul_add,Nat.add_assoc]
        congr 1
        rw [Nat.mul_comm (x.toNat % 128),Nat.add_comm,show (2 : Nat) ^ 7 = 128 from rfl,← Nat.mul_assoc,Nat.mul_comm 128 (2 ^ (7 * i)),Nat.mul_assoc,Nat.mul_comm 128,Nat.mul_assoc]
theorem Vn : ∀ (l : List UInt8) (i n : Nat),i ≤ 9 → High (l.take (10 - i)) → rdN i n l = if i + l.length ≤ 9 then none else some (0,0,11)
  | [],i,n,hi,_ => by simp [rdN,hi]
  | x :: l,i,n,hi,hp => by
    obtain ⟨k,hk⟩ : ∃ k,10 - i = k + 1 := ⟨9 - i,by omega⟩
    rw [hk] at hp
    have hx : 128 ≤ x.toNat := hp x (by simp)
    by_cases h9 : i = 9
    · subst h9
      rw [rdN,if_pos ⟨rfl,by omega⟩,if_neg (by simp)]
    · rw [rdN,if_neg (by omega),if_neg (by omega),Vn l (i + 1) _ (by omega) (fun y hy => hp y (by
        rw [show 10 - (i + 1) = k by omega] at hy
        simp [hy]))]
      simp only [List.length_cons]
      rw [show i + 1 + l.length = i + (l.length + 1) by omega]
theorem Wx (l : List UInt8) : Lm l = Aw l := by
  unfold Lm Aw
  cases hf : Df 10 l with
  | none =>
    have := L8 hf
    rw [Vn l 0 0 (by omega) this,Nat.zero_add]
    simp only
    by_cases h : l.length ≤ 9
    · rw [if_pos h,if_neg (by omega)]; rfl
    · rw [if_neg h,if_pos (by omega)]; rfl
  | some d =>
    obtain ⟨pre,c,rest,rfl,rfl,h3,h4,h5⟩ := L7 hf
    rw [Ut pre c rest 0 0 h4 h5 (by omega)]
    simp only [Nat.zero_add]
    have ht : (pre ++ c :: rest).take (pre.length + 1) = pre ++ [c] := by
      rw [List.take_append,List.take_of_length_le (by omega),Nat.add_sub_cancel_left]
      rfl
    rw [ht]
    have hiff := Zci (u := pre ++ [c]) (by simp; omega)
    have hsum : hn (pre ++ [c]) = hn pre + 128 ^ pre.length * (c.toNat % 128) := by rw [OK]; simp [hn]
    have hpl := ZdP pre
    have hcm : c.toNat % 128 = c.toNat := Nat.mod_eq_of_lt h5
    rw [hcm] at hsum
    by_cases h9 : pre.length = 9 ∧ 1 < c.toNat
    · rw [if_pos h9]
      rw [if_neg]
      · rfl
      · intro he
        have := (hiff.1 he).2
        rw [hsum,h9.1] at this
        have h2 : 128 ^ 9 * 2 ≤ 128 ^ 9 * c.toNat := Nat.mul_le_mul_left _ h9.2
        have h3 : (128 : Nat) ^ 9 = 9223372036854775808 := by decide
        omega
    · rw [if_neg h9]
      by_cases h0 : c.toNat = 0 ∧ 0 < pre.length
      · rw [if_pos h0,if_neg]
        · rfl
        · intro he
          obtain ⟨⟨pre2,c2,e1,e2,e3,e4⟩,_⟩ := hiff.1 he
          have e5 := List.append_inj e1 (by have := congrArg List.length e1; simp at this; exact this)
          have e6 : c = c2 := by have := e5.2; simpa using this
          have := e4 (by rw [← e6]; exact h0.1)
          rw [← e5.1] at this
          rw [this] at h0
          simp at h0
      · rw [if_neg h0]
        have hlt : hn (pre ++ [c]) < 18446744073709551616 := by
          rw [hsum]
          by_cases h8 : pre.length ≤ 8
          · have h1 : (128 : Nat) ^ pre.length ≤ 128 ^ 8 := Nat.pow_le_pow_right (by omega) h8
            have h2 : 128 ^ pre.length * c.toNat ≤ 128 ^ 8 * 127 := Nat.mul_le_mul h1 (by omega)
            have h3 : (128 : Nat) ^ 8 = 72057594037927936 := by decide
            omega
          · have e9 : pre.length = 9 := by omega
            rw [e9] at hpl ⊢
            have h2 : 128 ^ 9 * c.toNat ≤ 128 ^ 9 * 1 := Nat.mul_le_mul_left _ (by omega)
            have h3 : (128 : Nat) ^ 9 = 9223372036854775808 := by decide
            omega
        rw [if_pos]
        · rw [SZ,Nat.mod_eq_of_lt hlt]
          simp
        · exact hiff.2 ⟨⟨pre,c,rfl,h4,h5,fun e => by
            rcases Nat.eq_zero_or_pos pre.length with h | h
            · exact List.length_eq_zero_iff.1 h
            · exact absurd ⟨e,h⟩ h0⟩,hlt⟩
end Go.Proofs.YtmbhnbladmpnoaaGreat.Ab

/- Texts. -/
namespace Go.Proofs.YtmbhnbladmpnoaaGreat.Ab
open Go
def Az (l : List UInt8) (most : Int) : List UInt8 × Nat × Int :=
  if (Aw l).2.2 ≠ 0 then ([],0,(Aw l).2.2)
  else if most < 0 ∨ most < (Aw l).1 then ([],0,2)
  else if l.length - (Aw l).2.1 < (Aw l).1 then ([],0,10)
  else ((l.drop (Aw l).2.1).take (Aw l).1,(Aw l).2.1 + (Aw l).1,0)
def tupT (t : List UInt8) (k : Nat) (e : Int) : Value := .tuple #[.string ⟨t.toArray⟩,.int .i64 (k : Int),.int .i64 e]
theorem S1 {R : Aa} (hR : ∀ xs s,R 117 xs s = Ca xs s) {s : St} {v : Value} {l : List UInt8} (h : bytesOf v s = some l) (hl : l.length ≤ 150000000000000) {most : Int} (hm1 : -9223372036854775808 ≤ most) (hm2 : most < 9223372036854775808) :
    FU R v (.int .i64 most) s = some (tupT (Az l most).1 (Az l most).2.1 (Az l most).2.2,s) := by
  have hk := Gw l
  have hn := Gx l
  unfold FU
  simp only [CN,hR,Fh h,EVs,tup3]
  simp only [Ak,List.getElem?_cons_zero,List.getElem?_cons_succ,O9,Bool.false_eq_true,if_false,EVs]
  unfold Az
  generalize Aw l = r at *
  obtain ⟨n,k,e⟩ := r
  simp only at hk hn ⊢
  by_cases he : e = 0
  · subst he
    have hk := hk rfl
    have hb0 : ((0 : Int) != 0) = false := rfl
    simp only [hb0,EVs,ne_eq,not_true_eq_false,if_false]
    by_cases hmn : most < 0 ∨ most < (n : Int)
    · have hb : (decide (most < 0) || decide ((n : Int) > IntKind.wrap .u64 most)) = true := by
        by_cases h0 : most < 0
        · simp [h0]
        · rw [D7 (by omega) (by omega)]; simp; omega
      simp only [hb,EVs,if_pos hmn]
      rfl
    · have hb : (decide (most < 0) || decide ((n : Int) > IntKind.wrap .u64 most)) = false := by
        rw [D7 (by omega) (by omega)]; simp; omega
      have hsub : IntKind.wrap .i64 (((l.length : Nat) : Int) - (k : Int)) = ((l.length - k : Nat) : Int) := by rw [wrap_i64 (by omega) (by omega)]; omega
      have hsub2 : IntKind.wrap .u64 ((l.length - k : Nat) : Int) = ((l.length - k : Nat) : Int) := D7 (by omega) (by omega)
      simp only [hb,EVs,if_neg hmn,AY h,hsub,hsub2]
      by_cases hs : l.length - k < n
      · have hb2 : decide ((n : Int) > ((l.length - k : Nat) : Int)) = true := by simp; omega
        simp only [hb2,EVs,if_pos hs]
        rfl
      · have hb2 : decide ((n : Int) > ((l.length - k : Nat) : Int)) = false := by simp; omega
        have hw1 : IntKind.wrap .i64 (n : Int) = (n : Int) := wrap_i64 (by omega) (by omega)
        have hw2 : IntKind.wrap .i64 ((k : Int) + (n : Int)) = ((k + n : Nat) : Int) := by rw [wrap_i64 (by omega) (by omega)]; push_cast; rfl
        obtain ⟨u,hu1,hu2⟩ := BF h (lo := some (.int .i64 (k : Int))) (hi := some (.int .i64 ((k + n : Nat) : Int))) (mx := none) (i := k) (j := k + n) (by simp [Bg]) (by simp [Bg]; omega) (by omega) (by omega) (.inl rfl)
        simp only [hb2,EVs,if_neg hs,hw1,hw2,hu1,Kb hu2]
        rw [show k + n - k = n by omega]
        rfl
  · have hb0 : (e != 0) = true := by simpa using he
    simp only [hb0,EVs,ne_eq,he,not_false_eq_true,if_true]
    rfl
theorem OL {R : Aa} (hR : ∀ xs s,R 120 xs s = Ca xs s) {s : St} {v : Value} {l : List UInt8} (h : bytesOf v s = some l) (hl : l.length ≤ 150000000000000) {most : Int} (hm1 : -9223372036854775808 ≤ most) (hm2 : most < 9223372036854775808) :
    F1 R v (.int .i64 most) s = some (tupT (Az l most).1 (Az l most).2.1 (Az l most).2.2,s) := by
  have hk := Gw l
  have hn := Gx l
  unfold F1
  simp only [FH,hR,Fh h,EVs,tup3]
  simp only [Ak,List.getElem?_cons_zero,List.getElem?_cons_succ,O9,Bool.false_eq_true,if_false,EVs]
  unfold Az
  generalize Aw l = r at *
  obtain ⟨n,k,e⟩ := r
  simp only at hk hn ⊢
  by_cases he : e = 0
  · subst he
    have hk := hk rfl
    have hb0 : ((0 : Int) != 0) = false := rfl
    simp only [hb0,EVs,ne_eq,not_true_eq_false,if_false]
    by_cases hmn : most < 0 ∨ most < (n : Int)
    · have hb : (decide (most < 0) || decide ((n : Int) > IntKind.wrap .u64 most)) = true := by
        by_cases h0 : most < 0
        · simp [h0]
        · rw [D7 (by omega) (by omega)]; simp; omega
      simp only [hb,EVs,if_pos hmn]
      rfl
    · have hb : (decide (most < 0) || decide ((n : Int) > IntKind.wrap .u64 most)) = false := by
        rw [D7 (by omega) (by omega)]; simp; omega
      have hsub : IntKind.wrap .i64 (((l.length : Nat) : Int) - (k : Int)) = ((l.length - k : Nat) : Int) := by rw [wrap_i64 (by omega) (by omega)]; omega
      have hsub2 : IntKind.wrap .u64 ((l.length - k : Nat) : Int) = ((l.length - k : Nat) : Int) := D7 (by omega) (by omega)
      simp only [hb,EVs,if_neg hmn,AY h,hsub,hsub2]
      by_cases hs : l.length - k < n
      · have hb2 : decide ((n : Int) > ((l.length - k : Nat) : Int)) = true := by simp; omega
        simp only [hb2,EVs,if_pos hs]
        rfl
      · have hb2 : decide ((n : Int) > ((l.length - k : Nat) : Int)) = false := by simp; omega
        have hw1 : IntKind.wrap .i64 (n : Int) = (n : Int) := wrap_i64 (by omega) (by omega)
        have hw2 : IntKind.wrap .i64 ((k : Int) + (n : Int)) = ((k + n : Nat) : Int) := by rw [wrap_i64 (by omega) (by omega)]; push_cast; rfl
        obtain ⟨u,hu1,hu2⟩ := BF h (lo := some (.int .i64 (k : Int))) (hi := some (.int .i64 ((k + n : Nat) : Int))) (mx := none) (i := k) (j := k + n) (by simp [Bg]) (by simp [Bg]; omega) (by omega) (by omega) (.inl rfl)
        simp only [hb2,EVs,if_neg hs,hw1,hw2,hu1,Kb hu2]
        rw [show k + n - k = n by omega]
        rfl
  · have hb0 : (e != 0) = true := by simpa using he
    simp only [hb0,EVs,ne_eq,he,not_false_eq_true,if_true]
    rfl
def S2 (t : ByteArray) : List UInt8 := enc t.size ++ t.data.toList
theorem ZX {t : ByteArray} : S2 t ≠ [] := by unfold S2; simp [KE]
theorem ZY {R : Aa} (hR : ∀ xs s,R 45 xs s = gNum xs s) {t : ByteArray} (ht : t.size ≤ 140737488300000) (s : St) : ∃ v s',Le R (.string t) s = some (v,s') ∧ Own s.heap.length 1 s' v (bv (S2 t)) ∧ Ext s.heap.length s s' := by
  have hO := CX (N := s.heap.length) (l := enc t.size) (s := s) (Nat.le_refl _) KE
  have hE := A4 (N := s.heap.length) (l := enc t.size) (s := s) (Nat.le_refl _)
  have hlen := @JI t.size
  have hbl : (DA t).length = t.size := by simp [DA]
  obtain ⟨v,s',h1,h2,h3⟩ := Gf (w := 1) hO (by simp [Af,St.push]) (by omega) (by omega) (y := .string t) (m := t.size) rfl (show EW 1 (.string t) _ = some (DA t) from rfl) (by rw [hbl]; omega) (by rw [AX,hbl]; omega)
  unfold Le
  have hw : IntKind.wrap .u64 ((t.size : Nat) : Int) = ((t.size : Nat) : Int) := D7 (by omega) (by omega)
  simp only [Zbg,EVs,Cd]
  rw [hw,hR,Ll (show t.size < 18446744073709551616 by omega)]
  simp only [EVs,h1]
  rw [SD,← Cz] at h2
  refine ⟨v,s',?_,h2,hE.trans h3⟩
  rcases h2 with ⟨rfl,_⟩ | ⟨b,len,rfl,_⟩ <;> rfl
theorem Uu {R : Aa} (hR : ∀ xs s,R 103 xs s = gNum xs s) {t : ByteArray} (ht : t.size ≤ 140737488300000) (s : St) : ∃ v s',Lg R (.string t) s = some (v,s') ∧ Own s.heap.length 1 s' v (bv (S2 t)) ∧ Ext s.heap.length s s' := by
  have hO := CX (N := s.heap.length) (l := enc t.size) (s := s) (Nat.le_refl _) KE
  have hE := A4 (N := s.heap.length) (l := enc t.size) (s := s) (Nat.le_refl _)
  have hlen := @JI t.size
  have hbl : (DA t).length = t.size := by simp [DA]
  obtain ⟨v,s',h1,h2,h3⟩ := Gf (w := 1) hO (by simp [Af,St.push]) (by omega) (by omega) (y := .string t) (m := t.size) rfl (show EW 1 (.string t) _ = some (DA t) from rfl) (by rw [hbl]; omega) (by rw [AX,hbl]; omega)
  unfold Lg
  have hw : IntKind.wrap .u64 ((t.size : Nat) : Int) = ((t.size : Nat) : Int) := D7 (by omega) (by omega)
  simp only [Zbg,EVs,D8]
  rw [hw,hR,Ll (show t.size < 18446744073709551616 by omega)]
  simp only [EVs,h1]
  rw [SD,← Cz] at h2
  refine ⟨v,s',?_,h2,hE.trans h3⟩
  rcases h2 with ⟨rfl,_⟩ | ⟨b,len,rfl,_⟩ <;> rfl
end Go.Proofs.YtmbhnbladmpnoaaGreat.Ab

/- Numbers and texts as bytes: what is Bq of the functions of layer 1. -/
namespace Go.Proofs.YtmbhnbladmpnoaaGreat.Ab
open Go
def Ek : Sum := fun xs s => (match xs with | [v,.int .i64 m] => if -9223372036854775808 ≤ m ∧ m < 9223372036854775808 then (bytesOf v s).bind fun l => if l.length ≤ 150000000000000 then some (tupT (Az l m).1 (Az l m).2.1 (Az l m).2.2) else none else none | _ => none).map fun v => (v,s)
theorem S3 {v : Value} {s : St} {l : List UInt8} {m : Int} (h : bytesOf v s = some l) (hl : l.length ≤ 150000000000000) (h1 : -9223372036854775808 ≤ m) (h2 : m < 9223372036854775808) : Ek [v,.int .i64 m] s = some (tupT (Az l m).1 (Az l m).2.1 (Az l m).2.2,s) := by
  simp only [Ek,if_pos (And.intro h1 h2),h,Option.bind_some,if_pos hl,Option.map_some]
theorem L9 {lib : Lib} {f : FuncId} (h : ∀ v s l m,bytesOf v s = some l → l.length ≤ 150000000000000 → -9223372036854775808 ≤ m → m < 9223372036854775808 → run Tryz.prog lib Ad f [v,.int .i64 m] s = some (tupT (Az l m).1 (Az l m).2.1 (Az l m).2.2,s)) : BM Tryz.prog lib Ad f Ek :=
  BM.plain (G := fun xs s => match xs with | [v,.int .i64 m] => if -9223372036854775808 ≤ m ∧ m < 9223372036854775808 then (bytesOf v s).bind fun l => if l.length ≤ 150000000000000 then some (tupT (Az l m).1 (Az l m).2.1 (Az l m).2.2) else none else none | _ => none) fun xs s v hh => by
    split at hh
    · rename_i v0 m
      split at hh
      · rename_i hm
        simp only [Option.bind_eq_some_iff] at hh
        obtain ⟨l,h1,h2⟩ := hh
        split at h2
        · rename_i hl
          cases h2
          exact ⟨rfl,_,h v0 (frzS s) l m (by rw [Bp]; exact h1) hl hm.1 hm.2⟩
        · cases h2
      · cases hh
    · cases hh
def S4 : Sum := fun xs s => (match xs with | [.string t] => if t.size ≤ 140737488300000 then some (S2 t) else none | _ => none).map fun l => Af l s
theorem ZZ {t : ByteArray} {s : St} (h : t.size ≤ 140737488300000) : S4 [.string t] s = some (Af (S2 t) s) := by
  simp only [S4,if_pos h,Option.map_some]
theorem Vo {lib : Lib} {f : FuncId} (h : ∀ t s,t.size ≤ 140737488300000 → ∃ v s',run Tryz.prog lib Ad f [.string t] s = some (v,s') ∧ Own s.heap.length 1 s' v (bv (S2 t))) : BM Tryz.prog lib Ad f S4 :=
  BM.bytes (G := fun xs _ => match xs with | [.string t] => if t.size ≤ 140737488300000 then some (S2 t) else none | _ => none) fun xs s l hh => by
    split at hh
    · rename_i t
      split at hh
      · rename_i ht
        cases hh
        obtain ⟨v,s',h1,h2⟩ := h t (frzS s) ht
        rw [Ch] at h2
        exact ⟨ZX,v,s',h1,h2⟩
      · cases hh
    · cases hh
theorem PV {lib : Lib} (hl : lib 120 = none) (hR : lib 103 = some gNum) : BM Tryz.prog lib Ad 120 Ca :=
  BM.plain (G := fun xs s => match xs with | [v] => (bytesOf v s).map fun l => tup3 (Aw l).1 (Aw l).2.1 (Aw l).2.2 | _ => none) fun xs s v h => by
    split at h
    · simp only [Option.map_eq_some_iff] at h
      obtain ⟨l,hl2,rfl⟩ := h
      obtain ⟨s',h1⟩ := PU (R := run Tryz.prog lib Ad) (fun xs s => Bq hR) (s := frzS s) (by rw [Bp]; exact hl2)
      rw [Wx] at h1
      exact ⟨rfl,_,MS hl h1⟩
    · cases h
theorem Wy {lib : Lib} (hl : lib 149 = none) (hN : lib 45 = some gNum) : BM Tryz.prog lib Ad 149 S4 := Vo fun t s ht => by
  obtain ⟨v,s',h1,h2,_⟩ := ZY (R := run Tryz.prog lib Ad) (fun xs s => Bq hN) ht s
  exact ⟨v,s',RE hl h1,h2⟩
theorem RP {lib : Lib} (hl : lib 161 = none) (hN : lib 103 = some gNum) : BM Tryz.prog lib Ad 161 S4 := Vo fun t s ht => by
  obtain ⟨v,s',h1,h2,_⟩ := Uu (R := run Tryz.prog lib Ad) (fun xs s => Bq hN) ht s
  exact ⟨v,s',RF hl h1,h2⟩
theorem PW {lib : Lib} (hl : lib 150 = none) (hN : lib 117 = some Ca) : BM Tryz.prog lib Ad 150 Ek := L9 fun v s l m h hl2 h1 h2 => Lf hl (S1 (fun xs s => Bq hN) h hl2 h1 h2)
theorem Ln {lib : Lib} (hl : lib 162 = none) (hN : lib 120 = some Ca) : BM Tryz.prog lib Ad 162 Ek := L9 fun v s l m h hl2 h1 h2 => Lh hl (OL (fun xs s => Bq hN) h hl2 h1 h2)
theorem x3_0 {n k : Nat} {e : Int} : Ak 0 (tup3 n k e) = some (.int .u64 n) := rfl
theorem x3_1 {n k : Nat} {e : Int} : Ak 1 (tup3 n k e) = some (.int .i64 k) := rfl
theorem x3_2 {n k : Nat} {e : Int} : Ak 2 (tup3 n k e) = some (.int .i64 e) := rfl
theorem xT_0 {t : List UInt8} {k : Nat} {e : Int} : Ak 0 (tupT t k e) = some (sv t) := rfl
theorem xT_1 {t : List UInt8} {k : Nat} {e : Int} : Ak 1 (tupT t k e) = some (.int .i64 k) := rfl
theorem xT_2 {t : List UInt8} {k : Nat} {e : Int} : Ak 2 (tupT t k e) = some (.int .i64 e) := rfl
theorem Ir {s : St} {v : Value} {l : List UInt8} (h : bytesOf v s = some l) : lenV v = some l.length := by
  have h2 := AY h (e := 0) (s2 := s)
  unfold bytesOf cellsOf at h
  split at h
  · simp only [Option.bind_some] at h
    cases h
    rfl
  · rw [Zdv] at h2
    simp only [lenV]
    simp only [Option.some.injEq,Value.int.injEq,true_and] at h2
    congr 1
    omega
  · cases h
theorem GT {s : St} {v : Value} {l : List UInt8} (h : bytesOf v s = some l) : EW 1 v s = some (bv l) := by
  unfold bytesOf at h
  simp only [Option.bind_eq_some_iff] at h
  obtain ⟨cs,h1,h2⟩ := h
  rw [M7 h1,Ih h2]
theorem KF {N : Nat} {s : St} {x v : Value} {l m : List UInt8} (h : Own N 1 s x (bv l)) (hN : N ≤ s.heap.length) (hv : bytesOf v s = some m) (hb : l.length + m.length ≤ 140737488355328) :
    ∃ v' s',AD 1 1 x v s = some (v',s') ∧ Own N 1 s' v' (bv (l ++ m)) ∧ Ext N s s' := by
  rw [Cz]
  exact Gf h hN (by omega) (by omega) (Ir hv) (GT hv) (by rw [AX]; omega) (by rw [AX,AX]; omega)
theorem Z0 {s : St} {v : Value} {m : List UInt8} (hv : bytesOf v s = some m) (hb : m.length ≤ 140737488355328) :
    ∃ v' s',AD 1 1 (.slice none 0 0) v s = some (v',s') ∧ Own s.heap.length 1 s' v' (bv m) ∧ Ext s.heap.length s s' :=
  KF (l := []) (Own.nil _ _ _) (Nat.le_refl _) hv (by simpa using hb)
theorem X9 {N : Nat} {s : St} {v : Value} {l : List UInt8} (h : Own N 1 s v (bv l)) {i : Nat} (hi : i < l.length) (x : UInt8) {k : IntKind} :
    ∃ p s',AC 1 v (.int k (i : Int)) = some p ∧ Aq false 1 p s = some (.int .u8 ((l[i].toNat : Nat) : Int)) ∧ A0 1 p (.int .u8 ((x.toNat : Nat) : Int)) s = some s' ∧ Own N 1 s' v (bv (l.set i x)) ∧ Ext N s s' := by
  obtain ⟨p,h1,h2⟩ := CL h.bytes hi (k := k)
  rcases h with ⟨_,h3⟩ | ⟨b,len,rfl,h4,h5,h6,h7⟩
  · have : l = [] := SE (m := []) h3
    subst this
    simp at hi
  · rw [AX,Nat.mul_one] at h6
    have hp : p = .pointer (some ⟨b,i,none⟩) := by
      have : AC 1 (.slice (some ⟨b,0,none⟩) len len) (.int k (i : Int)) = some (.pointer (some ⟨b,i,none⟩)) := by simp [AC]; omega
      rw [this] at h1
      exact (Option.some.inj h1).symm
    subst hp
    have hput : AB (bv l) i [Value.int .u8 ((x.toNat : Nat) : Int)] = bv (l.set i x) := by
      have e : bv (l.set i x) = (bv l).set i (.int .u8 ((x.toNat : Nat) : Int)) := by simp only [bv,List.map_set]
      rw [e,List.set_eq_take_append_cons_drop,if_pos (by rw [AX]; exact hi)]
      simp only [AB,List.length_cons,List.length_nil,List.append_assoc,List.singleton_append]
    refine ⟨_,s.putB b (.row 1 (bv (l.set i x)) .act),h1,h2,?_,.inr ⟨b,len,rfl,h4,?_,by rw [AX,List.length_set]; omega,h7⟩,?_⟩
    · unfold A0
      simp only [An,List.length_cons,List.length_nil,List.all_cons,List.all_nil,AH]
      unfold EB
      rw [h5]
      simp only [List.length_cons,List.length_nil,AX,hput]
      rw [if_pos (by simp),if_pos (by omega)]
    · have hb : b < s.heap.length := (List.getElem?_eq_some_iff.1 h5).1
      simp only [St.putB]
      rw [List.getElem?_set_self hb]
    · refine ⟨by simp [St.putB],fun c hc => ?_⟩
      simp only [St.putB]
      rw [List.getElem?_set_ne (by omega)]
theorem Ext.old {N : Nat} {s s' : St} (h : Ext N s s') {s0 : St} (h0 : Ext s0.heap.length s0 s) (hN : N = s0.heap.length) {v : Value} {l : List UInt8} (hv : bytesOf v s0 = some l) : bytesOf v s' = some l := by
  subst hN
  exact (h0.trans h).bytes hv
end Go.Proofs.YtmbhnbladmpnoaaGreat.Ab

/- Messages' forms: what each kind has. -/
namespace Go.Proofs.YtmbhnbladmpnoaaGreat.Ab
open Go
set_option maxRecDepth 10000
theorem Bt {P : Program} {kt : TypeId} {H K : List Blk} {es : List (Value × Value × Nat)} {c : Nat} {k v : Value} (h1 : O9 v = false) (h2 : EX es = false) (h3 : GB P false kt k = true) (h4 : Lz P kt k (es.map (·.1)) = some none) :
    Am P kt (.map (some H.length)) k v ⟨H ++ (.map es c :: K)⟩ = some ⟨H ++ (.map (es ++ [(k,v,c)]) (c + 1) :: K)⟩ := by
  have hg : (H ++ (Blk.map es c :: K))[H.length]? = some (.map es c) := by rw [List.getElem?_append_right (Nat.le_refl _),Nat.sub_self]; rfl
  unfold Am
  rw [if_neg (by rw [h1]; simp)]
  simp only [hg]
  rw [if_neg (by rw [h2]; simp),if_pos h3,h4]
  simp only [Option.bind_some,St.putB]
  congr 2
  rw [List.set_append_right _ _ (Nat.le_refl _),Nat.sub_self]
  rfl
theorem Z1 {P : Program} {kt : TypeId} {H K : List Blk} {es : List (Value × Value × Nat)} {c : Nat} {k z : Value} {ok : Bool} (h2 : EX es = false) : EY P kt z (.map (some H.length)) k ok ⟨H ++ (.map es c :: K)⟩ = EE P kt z es k ok := by
  have hg : (H ++ (Blk.map es c :: K))[H.length]? = some (.map es c) := by rw [List.getElem?_append_right (Nat.le_refl _),Nat.sub_self]; rfl
  unfold EY
  simp only [hg]
  rw [if_neg (by rw [h2]; simp)]
abbrev fnV (f : Nat) : Value := .func (.func f) #[] #[]
def AF : List (Int × BL × Nat × Nat × Nat) := [
  (1,[113,98,111],48,49,50),(2,[113,98,99,115],49,48,52),(3,[116,108,101,111],49,54,55),
  (4,[116,99,115],54,49,57),(5,[116,102],49,54,58),(6,[116],54,49,58),(7,[116],54,49,58),
  (8,[118,101,109,119],49,54,59),(9,[118],54,49,58),(10,[118,109,112,102,114],49,54,61),
  (11,[109,97,110,114,111],54,54,63),(12,[109,97,110],54,54,67),(13,[109],54,49,58),(14,[109],54,49,58)]
def CC (k : Int) : Option (BL × Nat × Nat × Nat) := (AF.find? fun p => p.1 == k).map (·.2)
def fmB (p : BL × Nat × Nat × Nat) : Value := .agg #[sv p.1,fnV p.2.1,fnV p.2.2.1,fnV p.2.2.2]
def frmV (k : Int) : Value := match CC k with
  | some p => fmB p
  | none => .agg #[sv [],.nilFunc,.nilFunc,.nilFunc]
def Bn : Nat → List (Int × BL × Nat × Nat × Nat) → List (Value × Value × Nat)
  | _,[] => []
  | i,p :: l => (.int .i64 p.1,fmB p.2,i) :: Bn (i + 1) l
theorem S5 {P : Program} {k : Int} : ∀ {l : List (Int × BL × Nat × Nat × Nat)} {i j : Nat},match l.find? fun p => p.1 == k with
    | some p => ∃ q e,Fx (.int .i64) (.int .i64 k) ((Bn i l).map (·.1)) j = some (some (j + q)) ∧ (Bn i l)[q]? = some e ∧ e.2.1 = fmB p.2
    | none => Fx (.int .i64) (.int .i64 k) ((Bn i l).map (·.1)) j = some none
  | [],i,j => rfl
  | p :: l,i,j => by
    have hs : Instr.sameNow (.int .i64) (.int .i64 k) (.int .i64 p.1) = some (p.1 == k) := by
      have : (p.1 == k) = (k == p.1) := by rw [Bool.eq_iff_iff]; simp only [beq_iff_eq]; exact eq_comm
      rw [this]
      rfl
    have ih := S5 (P := P) (k := k) (l := l) (i := i + 1) (j := j + 1)
    cases h : p.1 == k with
    | true =>
      rw [List.find?_cons,h]
      refine ⟨0,_,?_,rfl,rfl⟩
      simp only [Bn,List.map_cons,Fx,hs,h]
      rfl
    | false =>
      rw [List.find?_cons,h]
      have e : Fx (.int .i64) (.int .i64 k) ((Bn i (p :: l)).map (·.1)) j = Fx (.int .i64) (.int .i64 k) ((Bn (i + 1) l).map (·.1)) (j + 1) := by
        simp only [Bn,List.map_cons,Fx,hs,h]
      rw [e]
      cases hf : l.find? fun p => p.1 == k with
      | none => rw [hf] at ih; exact ih
      | some q =>
        rw [hf] at ih
        obtain ⟨a,x,h1,h2,h3⟩ := ih
        exact ⟨a + 1,x,by rw [h1]; congr 2; omega,by simpa [Bn] using h2,h3⟩
theorem Ya (k : Int) : EE Tryz.prog 3 (.agg #[sv [],.nilFunc,.nilFunc,.nilFunc]) (Bn 0 AF) (.int .i64 k) true = some (.tuple #[frmV k,.bool (CC k).isSome]) := by
  unfold EE
  rw [if_pos (show GB Tryz.prog (Bn 0 AF).isEmpty 3 (.int .i64 k) = true by kernel_rfl)]
  have hu : Tryz.prog.underlying 3 = some (.int .i64) := Tryz.underlying3
  have hf := S5 (P := Tryz.prog) (k := k) (l := AF) (i := 0) (j := 0)
  unfold Lz frmV CC
  rw [hu]
  simp only [Option.bind_some]
  cases h : AF.find? fun p => p.1 == k with
  | none =>
    rw [h] at hf
    rw [hf]
    rfl
  | some p =>
    rw [h] at hf
    obtain ⟨q,e,h1,h2,h3⟩ := hf
    rw [h1]
    simp only [Nat.zero_add,Option.bind_some,Nm,h2,h3]
    rfl
end Go.Proofs.YtmbhnbladmpnoaaGreat.Ab

/- Messages' forms: the function that gives a kind's. -/
namespace Go.Proofs.YtmbhnbladmpnoaaGreat.Ab
open Go
set_option maxRecDepth 10000
theorem OM {R : Aa} (k : Int) (s : St) : ∃ t,Jt R (.int .i64 k) s = some (.tuple #[frmV k,.bool (CC k).isSome],t) := by
  obtain ⟨H⟩ := s
  have a0 : AU Tryz.prog 49 [(0,(.string ⟨#[113,98,111]⟩)),(1,(.func (.func 48) #[] #[])),(2,(.func (.func 49) #[] #[])),(3,(.func (.func 50) #[] #[]))] = some (fmB ([113,98,111],48,49,50)) := by kernel_rfl
  have u0 : Am Tryz.prog 3 (.map (some H.length)) (.int .i64 1) (fmB ([113,98,111],48,49,50)) ⟨H ++ (.map (Bn 0 (AF.take 0)) 0 :: [])⟩ = some ⟨H ++ (.map (Bn 0 (AF.take 1)) 1 :: [])⟩ := Bt rfl rfl (by kernel_rfl) (by kernel_rfl)
  have a1 : AU Tryz.prog 49 [(0,(.string ⟨#[113,98,99,115]⟩)),(1,(.func (.func 49) #[] #[])),(2,(.func (.func 48) #[] #[])),(3,(.func (.func 52) #[] #[]))] = some (fmB ([113,98,99,115],49,48,52)) := by kernel_rfl
  have u1 : Am Tryz.prog 3 (.map (some H.length)) (.int .i64 2) (fmB ([113,98,99,115],49,48,52)) ⟨H ++ (.map (Bn 0 (AF.take 1)) 1 :: [])⟩ = some ⟨H ++ (.map (Bn 0 (AF.take 2)) 2 :: [])⟩ := Bt rfl rfl (by kernel_rfl) (by kernel_rfl)
  have a2 : AU Tryz.prog 49 [(0,(.string ⟨#[116,108,101,111]⟩)),(1,(.func (.func 49) #[] #[])),(2,(.func (.func 54) #[] #[])),(3,(.func (.func 55) #[] #[]))] = some (fmB ([116,108,101,111],49,54,55)) := by kernel_rfl
  have u2 : Am Tryz.prog 3 (.map (some H.length)) (.int .i64 3) (fmB ([116,108,101,111],49,54,55)) ⟨H ++ (.map (Bn 0 (AF.take 2)) 2 :: [])⟩ = some ⟨H ++ (.map (Bn 0 (AF.take 3)) 3 :: [])⟩ := Bt rfl rfl (by kernel_rfl) (by kernel_rfl)
  have a3 : AU Tryz.prog 49 [(0,(.string ⟨#[116,99,115]⟩)),(1,(.func (.func 54) #[] #[])),(2,(.func (.func 49) #[] #[])),(3,(.func (.func 57) #[] #[]))] = some (fmB ([116,99,115],54,49,57)) := by kernel_rfl
  have u3 : Am Tryz.prog 3 (.map (some H.length)) (.int .i64 4) (fmB ([116,99,115],54,49,57)) ⟨H ++ (.map (Bn 0 (AF.take 3)) 3 :: [])⟩ = some ⟨H ++ (.map (Bn 0 (AF.take 4)) 4 :: [])⟩ := Bt rfl rfl (by kernel_rfl) (by kernel_rfl)
  have a4 : AU Tryz.prog 49 [(0,(.string ⟨#[116,102]⟩)),(1,(.func (.func 49) #[] #[])),(2,(.func (.func 54) #[] #[])),(3,(.func (.func 58) #[] #[]))] = some (fmB ([116,102],49,54,58)) := by kernel_rfl
  have u4 : Am Tryz.prog 3 (.map (some H.length)) (.int .i64 5) (fmB ([116,102],49,54,58)) ⟨H ++ (.map (Bn 0 (AF.take 4)) 4 :: [])⟩ = some ⟨H ++ (.map (Bn 0 (AF.take 5)) 5 :: [])⟩ := Bt rfl rfl (by kernel_rfl) (by kernel_rfl)
  have a5 : AU Tryz.prog 49 [(0,(.string ⟨#[116]⟩)),(1,(.func (.func 54) #[] #[])),(2,(.func (.func 49) #[] #[])),(3,(.func (.func 58) #[] #[]))] = some (fmB ([116],54,49,58)) := by kernel_rfl
  have u5 : Am Tryz.prog 3 (.map (some H.length)) (.int .i64 6) (fmB ([116],54,49,58)) ⟨H ++ (.map (Bn 0 (AF.take 5)) 5 :: [])⟩ = some ⟨H ++ (.map (Bn 0 (AF.take 6)) 6 :: [])⟩ := Bt rfl rfl (by kernel_rfl) (by kernel_rfl)
  have a6 : AU Tryz.prog 49 [(0,(.string ⟨#[116]⟩)),(1,(.func (.func 54) #[] #[])),(2,(.func (.func 49) #[] #[])),(3,(.func (.func 58) #[] #[]))] = some (fmB ([116],54,49,58)) := by kernel_rfl
  have u6 : Am Tryz.prog 3 (.map (some H.length)) (.int .i64 7) (fmB ([116],54,49,58)) ⟨H ++ (.map (Bn 0 (AF.take 6)) 6 :: [])⟩ = some ⟨H ++ (.map (Bn 0 (AF.take 7)) 7 :: [])⟩ := Bt rfl rfl (by kernel_rfl) (by kernel_rfl)
  have a7 : AU Tryz.prog 49 [(0,(.string ⟨#[118,101,109,119]⟩)),(1,(.func (.func 49) #[] #[])),(2,(.func (.func 54) #[] #[])),(3,(.func (.func 59) #[] #[]))] = some (fmB ([118,101,109,119],49,54,59)) := by kernel_rfl
  have u7 : Am Tryz.prog 3 (.map (some H.length)) (.int .i64 8) (fmB ([118,101,109,119],49,54,59)) ⟨H ++ (.map (Bn 0 (AF.take 7)) 7 :: [])⟩ = some ⟨H ++ (.map (Bn 0 (AF.take 8)) 8 :: [])⟩ := Bt rfl rfl (by kernel_rfl) (by kernel_rfl)
  have a8 : AU Tryz.prog 49 [(0,(.string ⟨#[118]⟩)),(1,(.func (.func 54) #[] #[])),(2,(.func (.func 49) #[] #[])),(3,(.func (.func 58) #[] #[]))] = some (fmB ([118],54,49,58)) := by kernel_rfl
  have u8 : Am Tryz.prog 3 (.map (some H.length)) (.int .i64 9) (fmB ([118],54,49,58)) ⟨H ++ (.map (Bn 0 (AF.take 8)) 8 :: [])⟩ = some ⟨H ++ (.map (Bn 0 (AF.take 9)) 9 :: [])⟩ := Bt rfl rfl (by kernel_rfl) (by kernel_rfl)
  have a9 : AU Tryz.prog 49 [(0,(.string ⟨#[118,109,112,102,114]⟩)),(1,(.func (.func 49) #[] #[])),(2,(.func (.func 54) #[] #[])),(3,(.func (.func 61) #[] #[]))] = some (fmB ([118,109,112,102,114],49,54,61)) := by kernel_rfl
  have u9 : Am Tryz.prog 3 (.map (some H.length)) (.int .i64 10) (fmB ([118,109,112,102,114],49,54,61)) ⟨H ++ (.map (Bn 0 (AF.take 9)) 9 :: [])⟩ = some ⟨H ++ (.map (Bn 0 (AF.take 10)) 10 :: [])⟩ := Bt rfl rfl (by kernel_rfl) (by kernel_rfl)
  have a10 : AU Tryz.prog 49 [(0,(.string ⟨#[109,97,110,114,111]⟩)),(1,(.func (.func 54) #[] #[])),(2,(.func (.func 54) #[] #[])),(3,(.func (.func 63) #[] #[]))] = some (fmB ([109,97,110,114,111],54,54,63)) := by kernel_rfl
  have u10 : Am Tryz.prog 3 (.map (some H.length)) (.int .i64 11) (fmB ([109,97,110,114,111],54,54,63)) ⟨H ++ (.map (Bn 0 (AF.take 10)) 10 :: [])⟩ = some ⟨H ++ (.map (Bn 0 (AF.take 11)) 11 :: [])⟩ := Bt rfl rfl (by kernel_rfl) (by kernel_rfl)
  have a11 : AU Tryz.prog 49 [(0,(.string ⟨#[109,97,110]⟩)),(1,(.func (.func 54) #[] #[])),(2,(.func (.func 54) #[] #[])),(3,(.func (.func 67) #[] #[]))] = some (fmB ([109,97,110],54,54,67)) := by kernel_rfl
  have u11 : Am Tryz.prog 3 (.map (some H.length)) (.int .i64 12) (fmB ([109,97,110],54,54,67)) ⟨H ++ (.map (Bn 0 (AF.take 11)) 11 :: [])⟩ = some ⟨H ++ (.map (Bn 0 (AF.take 12)) 12 :: [])⟩ := Bt rfl rfl (by kernel_rfl) (by kernel_rfl)
  have a12 : AU Tryz.prog 49 [(0,(.string ⟨#[109]⟩)),(1,(.func (.func 54) #[] #[])),(2,(.func (.func 49) #[] #[])),(3,(.func (.func 58) #[] #[]))] = some (fmB ([109],54,49,58)) := by kernel_rfl
  have u12 : Am Tryz.prog 3 (.map (some H.length)) (.int .i64 13) (fmB ([109],54,49,58)) ⟨H ++ (.map (Bn 0 (AF.take 12)) 12 :: [])⟩ = some ⟨H ++ (.map (Bn 0 (AF.take 13)) 13 :: [])⟩ := Bt rfl rfl (by kernel_rfl) (by kernel_rfl)
  have a13 : AU Tryz.prog 49 [(0,(.string ⟨#[109]⟩)),(1,(.func (.func 54) #[] #[])),(2,(.func (.func 49) #[] #[])),(3,(.func (.func 58) #[] #[]))] = some (fmB ([109],54,49,58)) := by kernel_rfl
  have u13 : Am Tryz.prog 3 (.map (some H.length)) (.int .i64 14) (fmB ([109],54,49,58)) ⟨H ++ (.map (Bn 0 (AF.take 13)) 13 :: [])⟩ = some ⟨H ++ (.map (Bn 0 (AF.take 14)) 14 :: [])⟩ := Bt rfl rfl (by kernel_rfl) (by kernel_rfl)
  have m0 : GC none ⟨H⟩ = some (.map (some H.length),⟨H ++ (.map (Bn 0 (AF.take 0)) 0 :: [])⟩) := rfl
  have l0 : EY Tryz.prog 3 (.agg #[(.string ⟨#[]⟩),.nilFunc,.nilFunc,.nilFunc]) (.map (some H.length)) (.int .i64 k) true ⟨H ++ (.map (Bn 0 (AF.take 14)) 14 :: [])⟩ = some (.tuple #[frmV k,.bool (CC k).isSome]) := (Z1 rfl).trans (Ya k)
  have fr : ∀ v : Value,v = frmV k → AN 4 lptr v (.agg #[(.string ⟨#[]⟩),.nilFunc,.nilFunc,.nilFunc]) = some v ∧ Ao true 4 lptr v = some v ∧ O9 v = false ∧ E0 v = true := by
    rintro v rfl
    unfold frmV
    cases CC k <;> exact ⟨rfl,rfl,rfl,rfl⟩
  obtain ⟨f1,f2,f3,f4⟩ := fr _ rfl
  have x0 : Ak 0 (.tuple #[frmV k,.bool (CC k).isSome]) = some (frmV k) := by simp [Ak,f3]
  have x1 : Ak 1 (.tuple #[frmV k,.bool (CC k).isSome]) = some (.bool (CC k).isSome) := rfl
  refine ⟨⟨H ++ (.map (Bn 0 (AF.take 14)) 14 :: [])⟩,?_⟩
  unfold Jt
  rw [m0]
  try simp only [Option.bind_some]
  try rw [a0]
  try simp only [Option.bind_some]
  rw [u0]
  try simp only [Option.bind_some]
  try rw [a1]
  try simp only [Option.bind_some]
  rw [u1]
  try simp only [Option.bind_some]
  try rw [a2]
  try simp only [Option.bind_some]
  rw [u2]
  try simp only [Option.bind_some]
  try rw [a3]
  try simp only [Option.bind_some]
  rw [u3]
  try simp only [Option.bind_some]
  try rw [a4]
  try simp only [Option.bind_some]
  rw [u4]
  try simp only [Option.bind_some]
  try rw [a5]
  try simp only [Option.bind_some]
  rw [u5]
  try simp only [Option.bind_some]
  try rw [a6]
  try simp only [Option.bind_some]
  rw [u6]
  try simp only [Option.bind_some]
  try rw [a7]
  try simp only [Option.bind_some]
  rw [u7]
  try simp only [Option.bind_some]
  try rw [a8]
  try simp only [Option.bind_some]
  rw [u8]
  try simp only [Option.bind_some]
  try rw [a9]
  try simp only [Option.bind_some]
  rw [u9]
  try simp only [Option.bind_some]
  try rw [a10]
  try simp only [Option.bind_some]
  rw [u10]
  try simp only [Option.bind_some]
  try rw [a11]
  try simp only [Option.bind_some]
  rw [u11]
  try simp only [Option.bind_some]
  try rw [a12]
  try simp only [Option.bind_some]
  rw [u12]
  try simp only [Option.bind_some]
  try rw [a13]
  try simp only [Option.bind_some]
  rw [u13]
  try simp only [Option.bind_some]
  rw [l0]
  simp only [Option.bind_some,x0,x1,f1,f2]
  unfold retV
  rw [if_pos (show [frmV k,.bool (CC k).isSome].all E0 = true by simp only [List.all_cons,f4]; rfl)]
  rfl
end Go.Proofs.YtmbhnbladmpnoaaGreat.Ab

/- Numbers in four bytes,and sums: what the program's functions do. -/
namespace Go.Proofs.YtmbhnbladmpnoaaGreat.Ab
open Go
def fixB (n : Nat) : List UInt8 := [UInt8.ofNat (n % 256),UInt8.ofNat (n / 256 % 256),UInt8.ofNat (n / 65536 % 256),UInt8.ofNat (n / 16777216 % 256)]
def fixV (n : Nat) : Value := .agg #[.int .u8 ((n % 256 : Nat) : Int),.int .u8 ((n / 256 % 256 : Nat) : Int),.int .u8 ((n / 65536 % 256 : Nat) : Int),.int .u8 ((n / 16777216 % 256 : Nat) : Int)]
theorem Yb (n : Nat) : fixV n = .agg (bv (fixB n)).toArray := by
  have h : ∀ m : Nat,m % 256 % 256 = m % 256 := fun m => by omega
  simp [fixV,bv,fixB,h]
def RQ (n : Nat) : Nat → Nat → List Value → List Value
  | 0,_,cs => cs
  | d + 1,i,cs => RQ n d (i + 1) (cs.set i (.int .u8 ((n / 2 ^ (8 * i) % 256 : Nat) : Int)))
theorem Ql {R : Aa} {n : Nat} (hn : n < 4294967296) {s : St} {c0 : Value} : ∀ (d i : Nat) (cs : List Value),i + d = 4 → cs.length = 4 →
    AV (CZ.b0 R) [.int .u32 (n : Int),lptr,lptr,.int .i64 (i : Int),c0,.agg cs.toArray] s = some (.exit 0,[lptr,lptr,c0,.agg (RQ n d i cs).toArray],s)
  | 0,i,cs,hi,hc => by
    rw [As]
    have hb : decide ((i : Int) < 4) = false := by simp; omega
    simp only [CZ.b0,EVs,hb]
    rfl
  | d + 1,i,cs,hi,hc => by
    rw [As]
    have hb : decide ((i : Int) < 4) = true := by simp; omega
    have w : IntKind.wrap .i64 (8 * (i : Int)) = ((8 * i : Nat) : Int) := by rw [wrap_i64 (by omega) (by omega)]; push_cast; rfl
    have w2 : IntKind.wrap .i64 ((i : Int) + 1) = ((i + 1 : Nat) : Int) := by rw [wrap_i64 (by omega) (by omega)]; push_cast; rfl
    have hs : ∀ t ox oy,abin Tryz.prog .shr t ox oy (.int .u32 (n : Int)) (.int .i64 ((8 * i : Nat) : Int)) = some (.int .u32 ((n / 2 ^ (8 * i) : Nat) : Int)) := fun t ox oy => T4 (show n < 2 ^ 32 from hn)
    simp only [CZ.b0,EVs,hb,w,hs,Ka,XD (show i < 4 by omega),w2]
    rw [Zbh (by omega) rfl rfl]
    simp only [EVs]
    exact Ql hn d (i + 1) _ (by omega) (by simpa using hc)
theorem Yc {R : Aa} {n : Nat} (hn : n < 4294967296) (s : St) : CZ R (.int .u32 (n : Int)) s = some (fixV n,s) := by
  have hfill : RQ n 4 0 [.int .u8 0,.int .u8 0,.int .u8 0,.int .u8 0] = [.int .u8 ((n % 256 : Nat) : Int),.int .u8 ((n / 256 % 256 : Nat) : Int),.int .u8 ((n / 65536 % 256 : Nat) : Int),.int .u8 ((n / 16777216 % 256 : Nat) : Int)] := by
    simp [RQ]
  have hlp := Ql (R := R) hn (s := s) (c0 := .agg [.int .u8 0,.int .u8 0,.int .u8 0,.int .u8 0].toArray) 4 0 [.int .u8 0,.int .u8 0,.int .u8 0,.int .u8 0] rfl rfl
  rw [hfill] at hlp
  rw [show (((0 : Nat)) : Int) = 0 from rfl] at hlp
  have hbox := XE (cs := [.int .u8 0,.int .u8 0,.int .u8 0,.int .u8 0]) rfl
  have e1 := Jq (n := 4) (cs := [.int .u8 ((n % 256 : Nat) : Int),.int .u8 ((n / 256 % 256 : Nat) : Int),.int .u8 ((n / 65536 % 256 : Nat) : Int),.int .u8 ((n / 16777216 % 256 : Nat) : Int)]) rfl
  have e2 := K3 (n := 4) (cs := [.int .u8 0,.int .u8 0,.int .u8 0,.int .u8 0]) (ds := [.int .u8 ((n % 256 : Nat) : Int),.int .u8 ((n / 256 % 256 : Nat) : Int),.int .u8 ((n / 65536 % 256 : Nat) : Int),.int .u8 ((n / 16777216 % 256 : Nat) : Int)]) rfl rfl rfl
  unfold CZ
  simp only [hbox,EVs,hlp,e1,e2]
  rfl
def leN : Nat → List UInt8 → Nat
  | _,[] => 0
  | i,c :: l => c.toNat * 2 ^ (8 * i) + leN (i + 1) l
theorem PX {R : Aa} {s : St} {v : Value} {l : List UInt8} (h : bytesOf v s = some l) (hl : l.length = 4) : ∀ (rest : List UInt8) (i n : Nat),l.drop i = rest → n < 2 ^ (8 * i) →
    AV (BN.b0 R) [.int .u32 (n : Int),v,.int .i64 ((l.length : Nat) : Int),.int .i64 (i : Int)] s = some (.exit 0,[.int .u32 ((n + leN i rest : Nat) : Int)],s) := by
  intro rest
  induction rest with
  | nil =>
    intro i n hr hn
    have hle : l.length ≤ i := List.drop_eq_nil_iff.1 hr
    rw [As]
    have hc : decide ((i : Int) < ((l.length : Nat) : Int)) = false := by simp; omega
    simp only [BN.b0,EVs,hc]
    rfl
  | cons c rest IH =>
    intro i n hr hn
    have hlt : i < l.length := by
      rcases Nat.lt_or_ge i l.length with hh | hh
      · exact hh
      · rw [List.drop_eq_nil_of_le hh] at hr; cases hr
    have hci : l[i] = c := by
      have := List.drop_eq_getElem_cons hlt
      rw [hr] at this
      exact (List.cons.inj this).1.symm
    have hrest : l.drop (i + 1) = rest := by
      have := List.drop_eq_getElem_cons hlt
      rw [hr] at this
      exact (List.cons.inj this).2.symm
    obtain ⟨p,hp1,hp2⟩ := CL h hlt (k := .i64)
    rw [hci] at hp2
    have hcl := c.toNat_lt
    have e : 2 ^ (8 * (i + 1)) = 256 * 2 ^ (8 * i) := by rw [show 8 * (i + 1) = 8 + 8 * i by omega,Nat.pow_add]
    have h4 : (c.toNat + 1) * 2 ^ (8 * i) ≤ 256 * 2 ^ (8 * i) := Nat.mul_le_mul_right _ (by omega)
    rw [Nat.add_mul] at h4
    have h32 : 2 ^ (8 * (i + 1)) ≤ 2 ^ 32 := Nat.pow_le_pow_right (by omega) (by omega)
    have hc : decide ((i : Int) < ((l.length : Nat) : Int)) = true := by simp; omega
    have w : IntKind.wrap .i64 (8 * (i : Int)) = ((8 * i : Nat) : Int) := by rw [wrap_i64 (by omega) (by omega)]; push_cast; rfl
    have w2 : IntKind.wrap .i64 ((i : Int) + 1) = ((i + 1 : Nat) : Int) := by rw [wrap_i64 (by omega) (by omega)]; push_cast; rfl
    have hcv : IntKind.wrap .u32 ((c.toNat : Nat) : Int) = ((c.toNat : Nat) : Int) := by rw [QT,Nat.mod_eq_of_lt (by omega)]
    have hsh : ∀ t ox oy,abin Tryz.prog .shl t ox oy (.int .u32 ((c.toNat : Nat) : Int)) (.int .i64 ((8 * i : Nat) : Int)) = some (.int .u32 ((c.toNat * 2 ^ (8 * i) : Nat) : Int)) := fun t ox oy => by
      rw [ZF rfl,show c.toNat * 2 ^ (8 * i) % 2 ^ IntKind.bits .u32 = c.toNat * 2 ^ (8 * i) from Nat.mod_eq_of_lt (by show _ < 2 ^ 32; omega)]
    have hor : ∀ t ox oy,abin Tryz.prog .or t ox oy (.int .u32 (n : Int)) (.int .u32 ((c.toNat * 2 ^ (8 * i) : Nat) : Int)) = some (.int .u32 ((n + c.toNat * 2 ^ (8 * i) : Nat) : Int)) := fun t ox oy => by
      rw [u_or rfl (show n < 2 ^ 32 by omega) (show c.toNat * 2 ^ (8 * i) < 2 ^ 32 by omega),OI hn]
    rw [As]
    simp only [BN.b0,EVs,hc,hp1,hp2,w,w2]
    rw [hcv]
    simp only [EVs,hsh,hor]
    rw [IH (i + 1) _ hrest (by omega),leN,Nat.add_assoc]
def tupF (n : Nat) (e : Int) : Value := .tuple #[.int .u32 (n : Int),.int .i64 e]
def F2 (l : List UInt8) : Nat × Int := if l.length < 4 then (0,10) else (leN 0 (l.take 4),0)
theorem RR {R : Aa} {s : St} {v : Value} {l : List UInt8} (h : bytesOf v s = some l) : BN R v s = some (tupF (F2 l).1 (F2 l).2,s) := by
  unfold BN F2
  simp only [AY h,EVs]
  by_cases h4 : l.length < 4
  · have hb : decide (((l.length : Nat) : Int) < 4) = true := by simp; omega
    simp only [hb,EVs,if_pos h4]
    rfl
  · have hb : decide (((l.length : Nat) : Int) < 4) = false := by simp; omega
    obtain ⟨u,hu1,hu2⟩ := BF h (lo := none) (hi := some (.int .i64 4)) (mx := none) (i := 0) (j := 4) (by simp [Bg]) (by simp [Bg]) (by omega) (by omega) (.inl rfl)
    have hlp := PX (R := R) hu2 (by simp; omega) _ 0 0 rfl (by simp)
    simp only [hb,EVs,if_neg h4,hu1,AY hu2]
    rw [show (0 : Int) = ((0 : Nat) : Int) from rfl,hlp]
    simp only [EVs,List.drop_zero,Nat.sub_zero,Nat.zero_add]
    rfl
theorem Z2 (a b c d : Int) : AU Tryz.prog 94 [(0,.int .u8 a),(1,.int .u8 b),(2,.int .u8 c),(3,.int .u8 d)] = some (.agg #[.int .u8 a,.int .u8 b,.int .u8 c,.int .u8 d]) := by kernel_rfl
theorem S6 {R : Aa} {n : Nat} (hn : n < 4294967296) (s : St) : JE R (.int .u32 (n : Int)) s = some (fixV n,s) := by
  have hs : ∀ (k : Nat) t ox oy,abin Tryz.prog .shr t ox oy (.int .u32 (n : Int)) (.int .u64 ((k : Nat) : Int)) = some (.int .u32 ((n / 2 ^ k : Nat) : Int)) := fun k t ox oy => T4 (show n < 2 ^ 32 from hn)
  have hs1 : ∀ t ox oy,abin Tryz.prog .shr t ox oy (.int .u32 (n : Int)) (.int .u64 8) = some (.int .u32 ((n / 256 : Nat) : Int)) := fun t ox oy => hs 8 t ox oy
  have hs2 : ∀ t ox oy,abin Tryz.prog .shr t ox oy (.int .u32 (n : Int)) (.int .u64 16) = some (.int .u32 ((n / 65536 : Nat) : Int)) := fun t ox oy => hs 16 t ox oy
  have hs3 : ∀ t ox oy,abin Tryz.prog .shr t ox oy (.int .u32 (n : Int)) (.int .u64 24) = some (.int .u32 ((n / 16777216 : Nat) : Int)) := fun t ox oy => hs 24 t ox oy
  have hbox := XE (cs := [.int .u8 0,.int .u8 0,.int .u8 0,.int .u8 0]) rfl
  have e1 := Jq (n := 4) (cs := [.int .u8 ((n % 256 : Nat) : Int),.int .u8 ((n / 256 % 256 : Nat) : Int),.int .u8 ((n / 65536 % 256 : Nat) : Int),.int .u8 ((n / 16777216 % 256 : Nat) : Int)]) rfl
  have e2 := K3 (n := 4) (cs := [.int .u8 0,.int .u8 0,.int .u8 0,.int .u8 0]) (ds := [.int .u8 ((n % 256 : Nat) : Int),.int .u8 ((n / 256 % 256 : Nat) : Int),.int .u8 ((n / 65536 % 256 : Nat) : Int),.int .u8 ((n / 16777216 % 256 : Nat) : Int)]) rfl rfl rfl
  unfold JE
  simp only [hbox,EVs,hs1,hs2,hs3,Ka,Z2,e1,e2]
  rfl
theorem MZ {R : Aa} {s : St} {v : Value} {l : List UInt8} (h : bytesOf v s = some l) : Fe R v s = some (tupF (F2 l).1 (F2 l).2,s) := by
  unfold Fe F2
  simp only [AY h,EVs]
  by_cases h4 : l.length < 4
  · have hb : decide (((l.length : Nat) : Int) < 4) = true := by simp; omega
    simp only [hb,EVs,if_pos h4]
    rfl
  · have hb : decide (((l.length : Nat) : Int) < 4) = false := by simp; omega
    have hf : bytesOf v (frzS s) = some l := by rw [Bp]; exact h
    obtain ⟨p0,hp0,hq0⟩ := CL hf (i := 0) (by omega) (k := .i64)
    obtain ⟨p1,hp1,hq1⟩ := CL hf (i := 1) (by omega) (k := .i64)
    obtain ⟨p2,hp2,hq2⟩ := CL hf (i := 2) (by omega) (k := .i64)
    obtain ⟨p3,hp3,hq3⟩ := CL hf (i := 3) (by omega) (k := .i64)
    have hp0 : AC 1 v (.int .i64 0) = some p0 := hp0
    have hp1 : AC 1 v (.int .i64 1) = some p1 := hp1
    have hp2 : AC 1 v (.int .i64 2) = some p2 := hp2
    have hp3 : AC 1 v (.int .i64 3) = some p3 := hp3
    have ht : l.take 4 = [l[0],l[1],l[2],l[3]] := by
      clear hp0 hq0 hp1 hq1 hp2 hq2 hp3 hq3 hf h hb
      rcases l with _ | ⟨a,_ | ⟨b,_ | ⟨c,_ | ⟨d,r⟩⟩⟩⟩ <;> first | rfl | (simp at h4)
    rw [ht]
    generalize l[0] = c0 at *
    generalize l[1] = c1 at *
    generalize l[2] = c2 at *
    generalize l[3] = c3 at *
    have l0 := c0.toNat_lt
    have l1 := c1.toNat_lt
    have l2 := c2.toNat_lt
    have l3 := c3.toNat_lt
    have hcv : ∀ c : UInt8,IntKind.wrap .u32 ((c.toNat : Nat) : Int) = ((c.toNat : Nat) : Int) := fun c => by
      have := c.toNat_lt
      rw [QT,Nat.mod_eq_of_lt (by omega)]
    have hsh : ∀ (c : UInt8) (i : Nat) t ox oy,i ≤ 24 → abin Tryz.prog .shl t ox oy (.int .u32 ((c.toNat : Nat) : Int)) (.int .u64 ((i : Nat) : Int)) = some (.int .u32 ((c.toNat * 2 ^ i : Nat) : Int)) := fun c i t ox oy hi => by
      have := c.toNat_lt
      rw [ZF rfl,show c.toNat * 2 ^ i % 2 ^ IntKind.bits .u32 = c.toNat * 2 ^ i from Nat.mod_eq_of_lt ?_]
      show _ < 2 ^ 32
      have h5 : 2 ^ i ≤ 2 ^ 24 := Nat.pow_le_pow_right (by omega) hi
      calc c.toNat * 2 ^ i ≤ 255 * 2 ^ 24 := Nat.mul_le_mul (by omega) h5
        _ < 2 ^ 32 := by decide
    have s1 : ∀ t ox oy,abin Tryz.prog .shl t ox oy (.int .u32 ((c1.toNat : Nat) : Int)) (.int .u64 8) = some (.int .u32 ((c1.toNat * 256 : Nat) : Int)) := fun t ox oy => hsh c1 8 t ox oy (by omega)
    have s2 : ∀ t ox oy,abin Tryz.prog .shl t ox oy (.int .u32 ((c2.toNat : Nat) : Int)) (.int .u64 16) = some (.int .u32 ((c2.toNat * 65536 : Nat) : Int)) := fun t ox oy => hsh c2 16 t ox oy (by omega)
    have s3 : ∀ t ox oy,abin Tryz.prog .shl t ox oy (.int .u32 ((c3.toNat : Nat) : Int)) (.int .u64 24) = some (.int .u32 ((c3.toNat * 16777216 : Nat) : Int)) := fun t ox oy => hsh c3 24 t ox oy (by omega)
    have o1 : ∀ t ox oy,abin Tryz.prog .or t ox oy (.int .u32 ((c0.toNat : Nat) : Int)) (.int .u32 ((c1.toNat * 256 : Nat) : Int)) = some (.int .u32 ((c0.toNat + c1.toNat * 256 : Nat) : Int)) := fun t ox oy => by
      rw [u_or rfl (show c0.toNat < 2 ^ 32 by omega) (show c1.toNat * 256 < 2 ^ 32 by omega),show c1.toNat * 256 = c1.toNat * 2 ^ 8 from rfl,OI l0]
    have o2 : ∀ t ox oy,abin Tryz.prog .or t ox oy (.int .u32 ((c0.toNat + c1.toNat * 256 : Nat) : Int)) (.int .u32 ((c2.toNat * 65536 : Nat) : Int)) = some (.int .u32 ((c0.toNat + c1.toNat * 256 + c2.toNat * 65536 : Nat) : Int)) := fun t ox oy => by
      rw [u_or rfl (show c0.toNat + c1.toNat * 256 < 2 ^ 32 by omega) (show c2.toNat * 65536 < 2 ^ 32 by omega),show c2.toNat * 65536 = c2.toNat * 2 ^ 16 from rfl,OI (show c0.toNat + c1.toNat * 256 < 2 ^ 16 by omega)]
    have o3 : ∀ t ox oy,abin Tryz.prog .or t ox oy (.int .u32 ((c0.toNat + c1.toNat * 256 + c2.toNat * 65536 : Nat) : Int)) (.int .u32 ((c3.toNat * 16777216 : Nat) : Int)) = some (.int .u32 ((c0.toNat + c1.toNat * 256 + c2.toNat * 65536 + c3.toNat * 16777216 : Nat) : Int)) := fun t ox oy => by
      rw [u_or rfl (show c0.toNat + c1.toNat * 256 + c2.toNat * 65536 < 2 ^ 32 by omega) (show c3.toNat * 16777216 < 2 ^ 32 by omega),show c3.toNat * 16777216 = c3.toNat * 2 ^ 24 from rfl,OI (show c0.toNat + c1.toNat * 256 + c2.toNat * 65536 < 2 ^ 24 by omega)]
    have hle : leN 0 [c0,c1,c2,c3] = c0.toNat + c1.toNat * 256 + c2.toNat * 65536 + c3.toNat * 16777216 := by
      simp [leN]; omega
    simp only [hb,EVs,if_neg h4,hp0,hq0,hp1,hq1,hp2,hq2,hp3,hq3,hcv,s1,s2,s3,o1,o2,o3,hle]
    rfl
end Go.Proofs.YtmbhnbladmpnoaaGreat.Ab

/- Sums: what the program's functions do. -/
namespace Go.Proofs.YtmbhnbladmpnoaaGreat.Ab
open Go
def stp (r : Nat) : Nat := r / 2 ^^^ (if r % 2 = 1 then 3988292384 else 0)
def stpN : Nat → Nat → Nat
  | 0,r => r
  | k + 1,r => stpN k (stp r)
theorem S7 {r : Nat} (h : r < 4294967296) : stp r < 4294967296 := by
  unfold stp
  refine Nat.xor_lt_two_pow (n := 32) (by omega) ?_
  split <;> decide
theorem RS : ∀ {k r : Nat},r < 4294967296 → stpN k r < 4294967296
  | 0,_,h => h
  | k + 1,_,h => RS (k := k) (S7 h)
theorem ON {R : Aa} {s : St} {a b c d f g : Value} : ∀ (k j r : Nat),j + k = 8 → r < 4294967296 →
    AV (BG.b1 R) [a,b,c,.int .u32 (r : Int),d,.int .i64 (j : Int),f,g] s = some (.exit 2,[a,b,c,.int .u32 ((stpN k r : Nat) : Int),d,f,g],s)
  | 0,j,r,hj,hr => by
    rw [As]
    have hb : decide ((j : Int) < 8) = false := by simp; omega
    simp only [BG.b1,EVs,hb]
    rfl
  | k + 1,j,r,hj,hr => by
    rw [As]
    have hb : decide ((j : Int) < 8) = true := by simp; omega
    have w2 : IntKind.wrap .i64 ((j : Int) + 1) = ((j + 1 : Nat) : Int) := by rw [wrap_i64 (by omega) (by omega)]; push_cast; rfl
    have h1 : ∀ t ox oy,abin Tryz.prog .shr t ox oy (.int .u32 (r : Int)) (.int .u64 1) = some (.int .u32 ((r / 2 : Nat) : Int)) := fun t ox oy => by
      have := T4 (P := Tryz.prog) (t := t) (ox := ox) (oy := oy) (k := .u32) (a := r) (b := 1) (show r < 2 ^ 32 from hr) (k2 := .u64)
      rw [Nat.pow_one] at this
      exact this
    have h2 : ∀ t ox oy,abin Tryz.prog .and t ox oy (.int .u32 (r : Int)) (.int .u32 1) = some (.int .u32 ((r % 2 : Nat) : Int)) := fun t ox oy => by
      have := Zb2 (P := Tryz.prog) (t := t) (ox := ox) (oy := oy) (k := .u32) (a := r) (b := 1) rfl (show r < 2 ^ 32 from hr) (by decide)
      rw [Nat.and_one_is_mod] at this
      exact this
    have h3 : ∀ t ox oy,(aun .neg (.int .u32 ((r % 2 : Nat) : Int))).bind (fun v9 => abin Tryz.prog .and t ox oy (.int .u32 3988292384) v9) = some (.int .u32 ((if r % 2 = 1 then 3988292384 else 0 : Nat) : Int)) := fun t ox oy => by
      rcases Nat.mod_two_eq_zero_or_one r with e | e
      · rw [e]; rfl
      · rw [e]; rfl
    have h4 : ∀ t ox oy,abin Tryz.prog .xor t ox oy (.int .u32 ((r / 2 : Nat) : Int)) (.int .u32 ((if r % 2 = 1 then 3988292384 else 0 : Nat) : Int)) = some (.int .u32 ((stp r : Nat) : Int)) := fun t ox oy => by
      rw [SC rfl (show r / 2 < 2 ^ 32 by omega) (show (if r % 2 = 1 then 3988292384 else 0 : Nat) < 2 ^ 32 by split <;> decide)]
      rfl
    have h5 : ∀ (v : Value) t ox oy (F : Value → Option (Ex × List Value × St)),(aun .neg (.int .u32 ((r % 2 : Nat) : Int))).bind (fun v9 => (abin Tryz.prog .and t ox oy (.int .u32 3988292384) v9).bind F) = F (.int .u32 ((if r % 2 = 1 then 3988292384 else 0 : Nat) : Int)) := fun v t ox oy F => by
      have := h3 t ox oy
      rw [← Option.bind_assoc,this]
      rfl
    have e_neg' := @Zb1
    clear e_neg'
    simp only [BG.b1,Option.bind_some,BT,CU,Dh,DD,J9,LP,Xs,Xt,Pe,We,CV,hb,h1,h2]
    rw [h5 undef]
    simp only [EVs,h4,w2]
    exact ON k (j + 1) (stp r) (by omega) (S7 hr)
def tabL (n : Nat) : List Value := (List.range n).map fun i => .int .u32 ((stpN 8 i : Nat) : Int)
def tabC (n : Nat) : List Value := tabL n ++ List.replicate (256 - n) (.int .u32 0)
theorem M8 (n : Nat) : (tabL n).length = n := by simp [tabL]
theorem GU {n : Nat} (h : n ≤ 256) : (tabC n).length = 256 := by simp [tabC,M8]; omega
theorem Z3 {n : Nat} (h : n < 256) : (tabC n).set n (.int .u32 ((stpN 8 n : Nat) : Int)) = tabC (n + 1) := by
  unfold tabC
  rw [List.set_append_right _ _ (by rw [M8]; exact Nat.le_refl _),M8,Nat.sub_self]
  obtain ⟨k,hk⟩ : ∃ k,256 - n = k + 1 := ⟨255 - n,by omega⟩
  rw [hk,show 256 - (n + 1) = k by omega,List.replicate_succ,List.set_cons_zero]
  have : tabL (n + 1) = tabL n ++ [.int .u32 ((stpN 8 n : Nat) : Int)] := by simp [tabL,List.range_succ]
  rw [this,List.append_assoc]
  rfl
theorem S8 {n : Nat} : (tabC n).all AH = true := by
  simp [tabC,tabL,AH]
theorem OO {R : Aa} {s : St} {c0 : Value} : ∀ (k i : Nat),i + k = 256 →
    AV (BG.b0 R) [lptr,lptr,.int .i64 (i : Int),c0,.agg (tabC i).toArray] s = some (.exit 0,[lptr,lptr,c0,.agg (tabC 256).toArray],s)
  | 0,i,hi => by
    rw [As]
    have hb : decide ((i : Int) < 256) = false := by simp; omega
    obtain rfl : i = 256 := by omega
    simp only [BG.b0,EVs,hb]
  | k + 1,i,hi => by
    rw [As]
    have hb : decide ((i : Int) < 256) = true := by simp; omega
    have w2 : IntKind.wrap .i64 ((i : Int) + 1) = ((i + 1 : Nat) : Int) := by rw [wrap_i64 (by omega) (by omega)]; push_cast; rfl
    have hcv : IntKind.wrap .u32 (i : Int) = (i : Int) := by rw [QT,Nat.mod_eq_of_lt (by omega)]
    have hin := ON (R := R) (s := s) (a := lptr) (b := lptr) (c := .int .i64 (i : Int)) (d := .int .i64 (i : Int)) (f := c0) (g := .agg (tabC i).toArray) 8 0 i (by omega) (by omega)
    rw [show (((0 : Nat)) : Int) = 0 from rfl] at hin
    simp only [BG.b0,EVs,hb]
    rw [hcv,hin]
    simp only [EVs,XD (show i < 256 by omega)]
    rw [Zbh (by rw [GU (by omega)]; omega) rfl rfl]
    simp only [EVs]
    rw [w2,Z3 (by omega)]
    exact OO k (i + 1) (by omega)
def tabV : Value := .agg (tabC 256).toArray
theorem tab0 : List.replicate 256 (Value.int .u32 0) = tabC 0 := rfl
theorem Yd {R : Aa} (s : St) : BG R s = some (tabV,s) := by
  have ho := OO (R := R) (s := s) (c0 := .agg (tabC 0).toArray) 256 0 (by omega)
  rw [show (((0 : Nat)) : Int) = 0 from rfl] at ho
  unfold BG
  rw [tab0]
  simp only [EVs,ho]
  rw [Jq (GU (Nat.le_refl _))]
  simp only [EVs]
  rw [K3 (GU (by omega)) (GU (Nat.le_refl _)) S8]
  simp only [EVs]
  rw [Jq (GU (Nat.le_refl _))]
  rfl
def sumT (r : Nat) : List UInt8 → Nat
  | [] => r
  | c :: l => sumT (r / 256 ^^^ stpN 8 (r % 256 ^^^ c.toNat)) l
def sumR (r : Nat) : List UInt8 → Nat
  | [] => r
  | c :: l => sumR (stpN 8 (r ^^^ c.toNat)) l
theorem Z4 {R : Aa} {s : St} {v : Value} {l : List UInt8} (h : bytesOf v s = some l) : ∀ (rest : List UInt8) (i r : Nat),l.drop i = rest → l.length ≤ 140737488355328 → r < 4294967296 →
    AV (DP.b0 R) [lptr,.int .u32 (r : Int),v,.int .i64 ((l.length : Nat) : Int),.int .i64 (i : Int),tabV] s = some (.exit 0,[.int .u32 ((sumT r rest : Nat) : Int)],s) ∧ sumT r rest < 4294967296 := by
  intro rest
  induction rest with
  | nil =>
    intro i r hr hlen hlt
    have hle : l.length ≤ i := List.drop_eq_nil_iff.1 hr
    rw [As]
    have hc : decide ((i : Int) < ((l.length : Nat) : Int)) = false := by simp; omega
    simp only [DP.b0,EVs,hc]
    exact ⟨rfl,hlt⟩
  | cons c rest IH =>
    intro i r hr hlen hlt
    have hil : i < l.length := by
      rcases Nat.lt_or_ge i l.length with hh | hh
      · exact hh
      · rw [List.drop_eq_nil_of_le hh] at hr; cases hr
    have hci : l[i] = c := by
      have := List.drop_eq_getElem_cons hil
      rw [hr] at this
      exact (List.cons.inj this).1.symm
    have hrest : l.drop (i + 1) = rest := by
      have := List.drop_eq_getElem_cons hil
      rw [hr] at this
      exact (List.cons.inj this).2.symm
    obtain ⟨p,hp1,hp2⟩ := CL h hil (k := .i64)
    rw [hci] at hp2
    have hcl : c.toNat < 256 := c.toNat_lt
    have hc : decide ((i : Int) < ((l.length : Nat) : Int)) = true := by simp; omega
    have w2 : IntKind.wrap .i64 ((i : Int) + 1) = ((i + 1 : Nat) : Int) := by rw [wrap_i64 (by omega) (by omega)]; push_cast; rfl
    have hx : r % 256 ^^^ c.toNat < 256 := Nat.xor_lt_two_pow (n := 8) (Nat.mod_lt _ (by decide)) hcl
    have h1 : ∀ t ox oy,abin Tryz.prog .shr t ox oy (.int .u32 (r : Int)) (.int .u64 8) = some (.int .u32 ((r / 256 : Nat) : Int)) := fun t ox oy => T4 (P := Tryz.prog) (k := .u32) (a := r) (b := 8) (show r < 2 ^ 32 from hlt) (k2 := .u64)
    have h2 : ∀ t ox oy,abin Tryz.prog .xor t ox oy (.int .u8 ((r % 256 : Nat) : Int)) (.int .u8 ((c.toNat : Nat) : Int)) = some (.int .u8 ((r % 256 ^^^ c.toNat : Nat) : Int)) := fun t ox oy => SC rfl (show r % 256 < 2 ^ 8 from Nat.mod_lt _ (by decide)) hcl
    have hst := RS (k := 8) (r := r % 256 ^^^ c.toNat) (by omega)
    have hld : Ao false 1 (.pointer (some ⟨0,r % 256 ^^^ c.toNat,none⟩)) tabV = some (.int .u32 ((stpN 8 (r % 256 ^^^ c.toNat) : Nat) : Int)) := by
      refine Zdw ?_
      unfold tabC
      rw [List.getElem?_append_left (by rw [M8]; exact hx)]
      simp [tabL,hx]
    have h3 : ∀ t ox oy,abin Tryz.prog .xor t ox oy (.int .u32 ((r / 256 : Nat) : Int)) (.int .u32 ((stpN 8 (r % 256 ^^^ c.toNat) : Nat) : Int)) = some (.int .u32 ((r / 256 ^^^ stpN 8 (r % 256 ^^^ c.toNat) : Nat) : Int)) := fun t ox oy => SC rfl (show r / 256 < 2 ^ 32 by omega) hst
    rw [As]
    simp only [DP.b0,EVs,hc,hp1,hp2,h1,Ka,h2,XD hx,hld,h3,w2]
    exact IH (i + 1) _ hrest hlen (Nat.xor_lt_two_pow (n := 32) (by omega) hst)
theorem Ze7 {r : Nat} (h : r < 4294967296) : aun .xor (.int .u32 (r : Int)) = some (.int .u32 ((r ^^^ 4294967295 : Nat) : Int)) := by
  have := SC (P := Tryz.prog) (t := 0) (ox := .tmp 0) (oy := .tmp 0) (k := .u32) (a := 4294967295) (b := r) rfl (by decide) (show r < 2 ^ 32 from h)
  rw [Nat.xor_comm]
  exact this
def sumV (l : List UInt8) : Nat := sumT 4294967295 l ^^^ 4294967295
def Zcj (l : List UInt8) : Nat := sumR 4294967295 l ^^^ 4294967295
theorem Zck {R : Aa} {s : St} (hR : ∀ s,R 130 [] s = some (tabV,s)) {v : Value} {l : List UInt8} (h : bytesOf v s = some l) (hl : l.length ≤ 140737488355328) : DP R v s = some (.int .u32 ((sumV l : Nat) : Int),s) := by
  obtain ⟨h1,h2⟩ := Z4 (R := R) h l 0 4294967295 rfl hl (by decide)
  rw [show (((0 : Nat)) : Int) = 0 from rfl] at h1
  unfold DP
  simp only [MT,hR,EVs]
  rw [tab0]
  rw [show tabV = .agg (tabC 256).toArray from rfl,K3 (GU (by omega)) (GU (Nat.le_refl _)) S8]
  simp only [EVs,AY h]
  have h1' : AV (DP.b0 R) [lptr,.int .u32 4294967295,v,.int .i64 ((l.length : Nat) : Int),.int .i64 0,.agg (tabC 256).toArray] s = some (.exit 0,[.int .u32 ((sumT 4294967295 l : Nat) : Int)],s) := h1
  rw [h1']
  simp only [EVs]
  rw [Ze7 h2]
  rfl
theorem H5 {R : Aa} {s : St} {a b c : Value} : ∀ (k j r : Nat),j + k = 8 → r < 4294967296 →
    AV (Bs.b1 R) [.int .u32 (r : Int),.int .i64 (j : Int),a,b,c] s = some (.exit 2,[.int .u32 ((stpN k r : Nat) : Int),a,b,c],s)
  | 0,j,r,hj,hr => by
    rw [As]
    have hb : decide ((j : Int) < 8) = false := by simp; omega
    simp only [Bs.b1,EVs,hb]
    rfl
  | k + 1,j,r,hj,hr => by
    rw [As]
    have hb : decide ((j : Int) < 8) = true := by simp; omega
    have w2 : IntKind.wrap .i64 ((j : Int) + 1) = ((j + 1 : Nat) : Int) := by rw [wrap_i64 (by omega) (by omega)]; push_cast; rfl
    have h1 : ∀ t ox oy,abin Tryz.prog .shr t ox oy (.int .u32 (r : Int)) (.int .u64 1) = some (.int .u32 ((r / 2 : Nat) : Int)) := fun t ox oy => by
      have := T4 (P := Tryz.prog) (t := t) (ox := ox) (oy := oy) (k := .u32) (a := r) (b := 1) (show r < 2 ^ 32 from hr) (k2 := .u64)
      rw [Nat.pow_one] at this
      exact this
    have h2 : ∀ t ox oy,abin Tryz.prog .rem t ox oy (.int .u32 (r : Int)) (.int .u32 2) = some (.int .u32 ((r % 2 : Nat) : Int)) := fun t ox oy => by
      rw [Wg (by decide)]; rfl
    have h4 : ∀ t ox oy,abin Tryz.prog .xor t ox oy (.int .u32 ((r / 2 : Nat) : Int)) (.int .u32 3988292384) = some (.int .u32 ((r / 2 ^^^ 3988292384 : Nat) : Int)) := fun t ox oy => SC rfl (show r / 2 < 2 ^ 32 by omega) (by decide)
    rcases Nat.mod_two_eq_zero_or_one r with e | e
    · have hd : (((r % 2 : Nat) : Int) == 1) = false := by rw [e]; rfl
      simp only [Bs.b1,Bs.j0,EVs,hb,h1,h2,hd,w2]
      have hs : r / 2 = stp r := by unfold stp; rw [e,if_neg (by decide),Nat.xor_zero]
      rw [hs]
      exact H5 k (j + 1) (stp r) (by omega) (S7 hr)
    · have hd : (((r % 2 : Nat) : Int) == 1) = true := by rw [e]; rfl
      simp only [Bs.b1,Bs.j0,EVs,hb,h1,h2,hd,h4,w2]
      have hs : r / 2 ^^^ 3988292384 = stp r := by unfold stp; rw [e,if_pos rfl]
      rw [hs]
      exact H5 k (j + 1) (stp r) (by omega) (S7 hr)
theorem Uv {R : Aa} {s : St} {v : Value} {l : List UInt8} (h : bytesOf v s = some l) : ∀ (rest : List UInt8) (i r : Nat),l.drop i = rest → l.length ≤ 140737488355328 → r < 4294967296 →
    AV (Bs.b0 R) [.int .u32 (r : Int),v,.int .i64 ((l.length : Nat) : Int),.int .i64 (i : Int)] s = some (.exit 0,[.int .u32 ((sumR r rest : Nat) : Int)],s) ∧ sumR r rest < 4294967296 := by
  intro rest
  induction rest with
  | nil =>
    intro i r hr hlen hlt
    have hle : l.length ≤ i := List.drop_eq_nil_iff.1 hr
    rw [As]
    have hc : decide ((i : Int) < ((l.length : Nat) : Int)) = false := by simp; omega
    simp only [Bs.b0,EVs,hc]
    exact ⟨rfl,hlt⟩
  | cons c rest IH =>
    intro i r hr hlen hlt
    have hil : i < l.length := by
      rcases Nat.lt_or_ge i l.length with hh | hh
      · exact hh
      · rw [List.drop_eq_nil_of_le hh] at hr; cases hr
    have hci : l[i] = c := by
      have := List.drop_eq_getElem_cons hil
      rw [hr] at this
      exact (List.cons.inj this).1.symm
    have hrest : l.drop (i + 1) = rest := by
      have := List.drop_eq_getElem_cons hil
      rw [hr] at this
      exact (List.cons.inj this).2.symm
    obtain ⟨p,hp1,hp2⟩ := CL h hil (k := .i64)
    rw [hci] at hp2
    have hcl : c.toNat < 256 := c.toNat_lt
    have hc : decide ((i : Int) < ((l.length : Nat) : Int)) = true := by simp; omega
    have w2 : IntKind.wrap .i64 ((i : Int) + 1) = ((i + 1 : Nat) : Int) := by rw [wrap_i64 (by omega) (by omega)]; push_cast; rfl
    have hcv : IntKind.wrap .u32 ((c.toNat : Nat) : Int) = ((c.toNat : Nat) : Int) := by rw [QT,Nat.mod_eq_of_lt (by omega)]
    have hx : r ^^^ c.toNat < 4294967296 := Nat.xor_lt_two_pow (n := 32) hlt (by omega)
    have h2 : ∀ t ox oy,abin Tryz.prog .xor t ox oy (.int .u32 (r : Int)) (.int .u32 ((c.toNat : Nat) : Int)) = some (.int .u32 ((r ^^^ c.toNat : Nat) : Int)) := fun t ox oy => SC rfl (show r < 2 ^ 32 from hlt) (show c.toNat < 2 ^ 32 by omega)
    have hin := H5 (R := R) (s := s) (a := v) (b := .int .i64 ((l.length : Nat) : Int)) (c := .int .i64 (i : Int)) 8 0 (r ^^^ c.toNat) (by omega) hx
    rw [show (((0 : Nat)) : Int) = 0 from rfl] at hin
    rw [As]
    simp only [Bs.b0,EVs,hc,hp1,hp2]
    rw [hcv]
    simp only [h2,EVs,hin,w2]
    exact IH (i + 1) _ hrest hlen (RS hx)
theorem Wz {R : Aa} {s : St} {v : Value} {l : List UInt8} (h : bytesOf v s = some l) (hl : l.length ≤ 140737488355328) : Bs R v s = some (.int .u32 ((Zcj l : Nat) : Int),s) := by
  obtain ⟨h1,h2⟩ := Uv (R := R) h l 0 4294967295 rfl hl (by decide)
  rw [show (((0 : Nat)) : Int) = 0 from rfl] at h1
  have h1' : AV (Bs.b0 R) [.int .u32 4294967295,v,.int .i64 ((l.length : Nat) : Int),.int .i64 0] s = some (.exit 0,[.int .u32 ((sumR 4294967295 l : Nat) : Int)],s) := h1
  have hx : ∀ t ox oy,abin Tryz.prog .xor t ox oy (.int .u32 ((sumR 4294967295 l : Nat) : Int)) (.int .u32 4294967295) = some (.int .u32 ((sumR 4294967295 l ^^^ 4294967295 : Nat) : Int)) := fun t ox oy => SC rfl (show sumR 4294967295 l < 2 ^ 32 from h2) (by decide)
  unfold Bs
  simp only [AY h,EVs]
  rw [h1']
  simp only [EVs]
  rw [hx]
  rfl
theorem Z5 (a b : Nat) : (a ^^^ b) % 2 = 1 ↔ ¬ (a % 2 = 1 ↔ b % 2 = 1) := by
  have h := Nat.testBit_xor a b 0
  simp only [Nat.testBit_zero] at h
  by_cases e : a % 2 = 1 <;> by_cases g : b % 2 = 1 <;> simp [e,g] at h ⊢ <;> omega
theorem Zcl (a b : Nat) : stp (a ^^^ b) = stp a ^^^ stp b := by
  have h := Z5 a b
  unfold stp
  rw [Nat.xor_div_two]
  generalize 3988292384 = p
  generalize a / 2 = x
  generalize b / 2 = y
  by_cases e : a % 2 = 1 <;> by_cases g : b % 2 = 1
  · rw [if_neg (by simp [h,e,g]),if_pos e,if_pos g,Nat.xor_zero,Nat.xor_comm y p,← Nat.xor_assoc,Nat.xor_assoc x p p,Nat.xor_self,Nat.xor_zero]
  · rw [if_pos (by simp [h,e,g]),if_pos e,if_neg g,Nat.xor_zero,Nat.xor_assoc,Nat.xor_assoc,Nat.xor_comm y]
  · rw [if_pos (by simp [h,e,g]),if_neg e,if_pos g,Nat.xor_zero,Nat.xor_assoc]
  · rw [if_neg (by simp [h,e,g]),if_neg e,if_neg g]; simp
theorem Is : ∀ (k a b : Nat),stpN k (a ^^^ b) = stpN k a ^^^ stpN k b
  | 0,_,_ => rfl
  | k + 1,a,b => by rw [stpN,Zcl,Is k]; rfl
theorem Z6 (m : Nat) : stp (2 * m) = m := by
  unfold stp
  rw [if_neg (by omega),Nat.xor_zero]
  omega
theorem Gy : ∀ (k m : Nat),stpN k (2 ^ k * m) = m
  | 0,m => by simp [stpN]
  | k + 1,m => by
    rw [stpN,show 2 ^ (k + 1) * m = 2 * (2 ^ k * m) by rw [Nat.pow_succ]; rw [Nat.mul_comm (2 ^ k) 2,Nat.mul_assoc],Z6,Gy k]
theorem Vp (r : Nat) : r = 2 ^ 8 * (r / 256) ^^^ r % 256 := by
  have h := Nat.two_pow_add_eq_or_of_lt (i := 8) (show r % 256 < 2 ^ 8 from Nat.mod_lt _ (by decide)) (r / 256)
  have h2 : 2 ^ 8 * (r / 256) ||| r % 256 = 2 ^ 8 * (r / 256) ^^^ r % 256 := by
    apply Nat.eq_of_testBit_eq
    intro i
    rw [Nat.testBit_or,Nat.testBit_xor,Nat.testBit_two_pow_mul]
    by_cases hi : 8 ≤ i
    · have : (r % 256).testBit i = false := Nat.testBit_lt_two_pow (Nat.lt_of_lt_of_le (Nat.mod_lt _ (by decide)) (Nat.pow_le_pow_right (by omega) hi : 2 ^ 8 ≤ 2 ^ i))
      simp [this]
    · simp [hi]
  rw [← h2,← h]
  omega
theorem Z7 (r c : Nat) : r / 256 ^^^ stpN 8 (r % 256 ^^^ c) = stpN 8 (r ^^^ c) := by
  conv => rhs; rw [Vp r,Nat.xor_assoc,Is,Gy]
theorem OP : ∀ (l : List UInt8) (r : Nat),sumT r l = sumR r l
  | [],_ => rfl
  | c :: l,r => by rw [sumT,sumR,Z7,OP l]
theorem Zcm (l : List UInt8) : Zcj l = sumV l := by unfold Zcj sumV; rw [OP]
end Go.Proofs.YtmbhnbladmpnoaaGreat.Ab

/- Numbers and bytes: what is of use in each layer. -/
namespace Go.Proofs.YtmbhnbladmpnoaaGreat.Ab
open Go
def OQ (G : List UInt8 → Option Value) : Sum := fun xs s => (match xs with | [v] => (bytesOf v s).bind fun l => if l.length ≤ 140737488355328 then G l else none | _ => none).map fun v => (v,s)
theorem ES {G : List UInt8 → Option Value} {v : Value} {s : St} {l : List UInt8} (h : bytesOf v s = some l) (hl : l.length ≤ 140737488355328) : OQ G [v] s = (G l).map fun v => (v,s) := by
  simp only [OQ,h,Option.bind_some,if_pos hl]
theorem It {lib : Lib} {f : FuncId} {G : List UInt8 → Option Value} (h : ∀ v s l r,bytesOf v s = some l → l.length ≤ 140737488355328 → G l = some r → FE r = true ∧ ∃ t0,run Tryz.prog lib Ad f [v] s = some (r,t0)) : BM Tryz.prog lib Ad f (OQ G) :=
  BM.plain (G := fun xs s => match xs with | [v] => (bytesOf v s).bind fun l => if l.length ≤ 140737488355328 then G l else none | _ => none) fun xs s v hh => by
    split at hh
    · rename_i v0
      simp only [Option.bind_eq_some_iff] at hh
      obtain ⟨l,h1,h2⟩ := hh
      split at h2
      · rename_i hl
        exact h v0 (frzS s) l v (by rw [Bp]; exact h1) hl h2
      · cases h2
    · cases hh
def H6 : Sum := fun xs s => (match xs with | [.int .u32 a] => if 0 ≤ a ∧ a < 4294967296 then some (fixV a.toNat) else none | _ => none).map fun v => (v,s)
theorem S9 {n : Nat} {s : St} (h : n < 4294967296) : H6 [.int .u32 (n : Int)] s = some (fixV n,s) := by
  simp only [H6]
  rw [if_pos (by omega)]
  rfl
theorem Ta {lib : Lib} {f : FuncId} (h : ∀ n s,n < 4294967296 → run Tryz.prog lib Ad f [.int .u32 ((n : Nat) : Int)] s = some (fixV n,s)) : BM Tryz.prog lib Ad f H6 :=
  BM.plain (G := fun xs _ => match xs with | [.int .u32 a] => if 0 ≤ a ∧ a < 4294967296 then some (fixV a.toNat) else none | _ => none) fun xs s v hh => by
    split at hh
    · rename_i a
      split at hh
      · rename_i ha
        cases hh
        obtain ⟨n,rfl⟩ := Int.eq_ofNat_of_zero_le ha.1
        exact ⟨rfl,_,h n (frzS s) (by omega)⟩
      · cases hh
    · cases hh
def Vq (v : Value) : Sum := fun xs s => (match xs with | [] => some v | _ => none).map fun v => (v,s)
theorem Ye {v : Value} {s : St} : Vq v [] s = some (v,s) := rfl
theorem Yf {lib : Lib} {f : FuncId} {v : Value} (hv : FE v = true) (h : ∀ s,∃ t,run Tryz.prog lib Ad f [] s = some (v,t)) : BM Tryz.prog lib Ad f (Vq v) :=
  BM.plain (G := fun xs _ => match xs with | [] => some v | _ => none) fun xs s r hh => by
    split at hh
    · cases hh
      exact ⟨hv,h (frzS s)⟩
    · cases hh
theorem WA : FE tabV = true := by
  show (tabC 256).toArray.toList.all AZ = true
  simp [tabC,tabL,List.all_eq_true,AZ]
def gSum : Sum := OQ fun l => some (.int .u32 ((sumV l : Nat) : Int))
def CF : Sum := OQ fun l => some (tupF (F2 l).1 (F2 l).2)
theorem ZdQ {a : Int} (h : (Lit.int .u32 a).wf = true) : ∃ n : Nat,a = (n : Int) ∧ n < 4294967296 := by
  simp only [Lit.wf,Bool.and_eq_true,decide_eq_true_eq] at h
  have h1 : (0 : Int) ≤ a := h.1
  have h2 : a ≤ 4294967295 := h.2
  exact ⟨a.toNat,by omega,by omega⟩
theorem OR {a : Int} {n : Nat} (hn : 0 < n) (hn2 : n ≤ 1000000) : ∃ i : Nat,i < n ∧ (IntKind.wrap .i64 (a.tmod (n : Int) + (n : Int))).tmod (n : Int) = (i : Int) := by
  have h1 := Int.tmod_lt_of_pos a (show (0 : Int) < (n : Int) by omega)
  have h2 := Int.lt_tmod_of_pos a (show (0 : Int) < (n : Int) by omega)
  rw [wrap_i64 (by omega) (by omega)]
  generalize a.tmod (n : Int) = r at *
  refine ⟨((r + n) % n).toNat,?_,?_⟩
  · have := Int.emod_lt_of_pos (r + n) (show (0 : Int) < (n : Int) by omega)
    have := Int.emod_nonneg (r + n) (show (n : Int) ≠ 0 by omega)
    omega
  · rw [Int.tmod_eq_emod_of_nonneg (by omega)]
    have := Int.emod_nonneg (r + n) (show (n : Int) ≠ 0 by omega)
    omega
theorem ZdR {a : UInt8} {x : Nat} (hx : x < 256) : ((a ^^^ UInt8.ofNat x).toNat : Nat) = a.toNat ^^^ x := by
  rw [UInt8.toNat_xor,Bw hx]
theorem Zcn {a k : Nat} (h : a < 2 ^ k) : a ^^^ 2 ^ k = a + 2 ^ k := by
  have h1 := Nat.two_pow_add_eq_or_of_lt (i := k) h 1
  have h2 : 2 ^ k * 1 ||| a = 2 ^ k * 1 ^^^ a := by
    apply Nat.eq_of_testBit_eq
    intro i
    rw [Nat.testBit_or,Nat.testBit_xor,Nat.testBit_two_pow_mul]
    by_cases hi : k ≤ i
    · have : a.testBit i = false := Nat.testBit_lt_two_pow (Nat.lt_of_lt_of_le h (Nat.pow_le_pow_right (by omega) hi))
      simp [this]
    · simp [hi]
  rw [Nat.mul_one] at h1 h2
  rw [Nat.xor_comm,← h2,← h1,Nat.add_comm]
end Go.Proofs.YtmbhnbladmpnoaaGreat.Ab

/- Numbers' bytes: how long,what is read behind them,and back. -/
namespace Go.Proofs.YtmbhnbladmpnoaaGreat.Ab
open Go
theorem Tb : ∀ (k a b : Nat),a ≤ b → (encF k a).length ≤ (encF k b).length
  | 0,_,_,_ => by simp [encF]
  | k + 1,a,b,h => by
    simp only [encF]
    by_cases hb : b < 128
    · rw [if_pos hb,if_pos (by omega)]
      simp
    · rw [if_neg hb]
      by_cases ha : a < 128
      · rw [if_pos ha]; simp
      · rw [if_neg ha]
        simp only [List.length_cons]
        have := Tb k (a / 128) (b / 128) (Nat.div_le_div_right h)
        omega
theorem Z8 {a b : Nat} (h : a ≤ b) : (enc a).length ≤ (enc b).length := Tb 10 a b h
theorem ZdS {n : Nat} (h : n < 18446744073709551616) : hn (enc n) = n := Us 10 n (Nat.lt_of_lt_of_le h (by decide))
theorem Uw {n : Nat} : 0 < (enc n).length := List.length_pos_iff.2 KE
theorem JJ {n : Nat} (h : n < 18446744073709551616) (rest : List UInt8) : Aw (enc n ++ rest) = (n,(enc n).length,0) := by
  obtain ⟨pre,c,he,h1,h2,h3⟩ := S0 h
  have hl := @JI n
  have hh := ZdS h
  rw [he] at hl hh
  simp only [List.length_append,List.length_cons,List.length_nil] at hl
  unfold Aw
  rw [he,List.append_assoc,List.singleton_append,Ut pre c rest 0 0 h1 h2 (by omega)]
  have hc : ¬ (0 + pre.length = 9 ∧ 1 < c.toNat) := by
    rintro ⟨hp,hc⟩
    have : hn (pre ++ [c]) = hn pre + 128 ^ pre.length * hn [c] := OK pre [c]
    rw [hh] at this
    have e9 : pre.length = 9 := by omega
    rw [e9] at this
    have e1 : hn [c] = c.toNat := by simp only [hn]; omega
    rw [e1] at this
    have : (128 : Nat) ^ 9 * 2 ≤ 128 ^ 9 * c.toNat := Nat.mul_le_mul_left _ hc
    have e2 : (128 : Nat) ^ 9 * 2 = 18446744073709551616 := by decide
    omega
  rw [if_neg hc,if_neg (by rintro ⟨hz,hp⟩; have := h3 hz; rw [this] at hp; simp at hp)]
  simp only [Option.getD_some,Nat.mul_zero,Nat.pow_zero,Nat.one_mul,Nat.zero_add,List.length_append,List.length_cons,List.length_nil,hh]
end Go.Proofs.YtmbhnbladmpnoaaGreat.Ab

/- Numbers' bytes: how long,what is read behind them,and back. -/
namespace Go.Proofs.YtmbhnbladmpnoaaGreat.Ab
open Go
end Go.Proofs.YtmbhnbladmpnoaaGreat.Ab

/- Functions that hand back bytes of their own,and an error's number. -/
namespace Go.Proofs.YtmbhnbladmpnoaaGreat.Ab
open Go
def pkE (v : Value) : Value := .tuple #[v,.int .i64 0]
def outS (k : Value → Value) (s : St) : Value ⊕ List UInt8 → Value × St
  | .inl v => (v,s)
  | .inr l => (k (Af l s).1,(Af l s).2)
theorem BM.out {k : Value → Value} (hk : k = id ∨ k = pkE) {P : Program} {lib : Lib} {Ad : Hd} {f : FuncId} {G : List Value → St → Option (Value ⊕ List UInt8)}
    (h1 : ∀ args s v,G args s = some (.inl v) → FE v = true ∧ ∃ t0,run P lib Ad f args (frzS s) = some (v,t0))
    (h2 : ∀ args s l,G args s = some (.inr l) → ∃ b t0,run P lib Ad f args (frzS s) = some (k (.slice (some ⟨b,0,none⟩) l.length l.length),t0) ∧ s.heap.length ≤ b ∧ t0.heap[b]? = some (.row 1 (bv l) .act)) :
    BM P lib Ad f fun args s => (G args s).map (outS k s) := by
  intro args s v t hg
  simp only [Option.map_eq_some_iff] at hg
  obtain ⟨r,hr,e⟩ := hg
  cases r with
  | inl u =>
    cases e
    obtain ⟨g1,t0,g2⟩ := h1 args s v hr
    refine ⟨[],v,t0,fun _ => 0,by simp,g2,.pure ?_⟩
    cases v with
    | tuple a =>
      have := Vw.tup (ρ := Jn s.heap.length fun _ => 0) (D := s.heap.length) (l := a.toList) g1
      simpa using this
    | _ => exact Vw.const g1
  | inr l =>
    cases e
    obtain ⟨b,t0,g1,g2,g3⟩ := h2 args s l hr
    have hv := Vw0.row (N := s.heap.length) (i := b) (off := 0) (Nat.le_refl l.length) (Nat.le_refl l.length)
    refine ⟨_,_,t0,_,rfl,g1,.row g2 g3 (fun _ _ h => h) T7 ?_⟩
    rcases hk with rfl | rfl
    · exact .va (.l2 (.l1 (.l0 hv)))
    · refine .tuple (a := #[(.slice (some ⟨s.heap.length,0,none⟩) l.length l.length),.int .i64 0]) (a' := #[(.slice (some ⟨b,0,none⟩) l.length l.length),.int .i64 0]) ⟨.l2 (.l1 (.l0 hv)),.l2 (.l1 (.l0 (.same _ rfl))),trivial⟩
theorem Own.row {N : Nat} {s : St} {v : Value} {l : List UInt8} (h : Own N 1 s v (bv l)) (hl : l ≠ []) : ∃ b,v = .slice (some ⟨b,0,none⟩) l.length l.length ∧ N ≤ b ∧ s.heap[b]? = some (.row 1 (bv l) .act) := by
  rcases h with ⟨_,h3⟩ | ⟨b,len,rfl,h4,h5,h6,h7⟩
  · exact absurd (SE (m := []) h3) hl
  · rw [AX,Nat.mul_one] at h6
    subst h6
    exact ⟨b,rfl,h4,h5⟩
theorem Vr {s t : St} (h : ∀ c,c < s.heap.length → t.heap[c]? = s.heap[c]?) : Ext s.heap.length s t := ⟨by
  by_cases e : s.heap.length = 0
  · omega
  · have h2 := h (s.heap.length - 1) (by omega)
    have h3 : s.heap[s.heap.length - 1]? = some s.heap[s.heap.length - 1] := List.getElem?_eq_getElem (by omega)
    rw [h3] at h2
    have := (List.getElem?_eq_some_iff.1 h2).1
    omega,h⟩
def Cf (s : St) : List Value → Option (List (List UInt8))
  | [] => some []
  | v :: l => (bytesOf v s).bind fun b => (Cf s l).map fun r => b :: r
theorem GV {s : St} : ∀ {vs : List Value} {ls : List (List UInt8)},Cf s vs = some ls → ls.length = vs.length
  | [],_,h => by cases h; rfl
  | v :: vs,ls,h => by
    simp only [Cf,Option.bind_eq_some_iff,Option.map_eq_some_iff] at h
    obtain ⟨b,_,r,hr,rfl⟩ := h
    simp [GV hr]
theorem Fi {s : St} : ∀ {vs : List Value} {ls : List (List UInt8)} {i : Nat},Cf s vs = some ls → (hi : i < vs.length) → ∃ l,ls[i]? = some l ∧ bytesOf vs[i] s = some l
  | [],_,i,_,hi => by simp at hi
  | v :: vs,ls,i,h,hi => by
    simp only [Cf,Option.bind_eq_some_iff,Option.map_eq_some_iff] at h
    obtain ⟨b,hb,r,hr,rfl⟩ := h
    cases i with
    | zero => exact ⟨b,rfl,hb⟩
    | succ i =>
      obtain ⟨l,h1,h2⟩ := Fi hr (i := i) (by simpa using hi)
      exact ⟨l,by simpa using h1,by simpa using h2⟩
theorem JK {s s' : St} (h : ∀ v l,bytesOf v s = some l → bytesOf v s' = some l) : ∀ {vs : List Value} {ls : List (List UInt8)},Cf s vs = some ls → Cf s' vs = some ls
  | [],_,h2 => h2
  | v :: vs,ls,h2 => by
    simp only [Cf,Option.bind_eq_some_iff,Option.map_eq_some_iff] at h2 ⊢
    obtain ⟨b,hb,r,hr,rfl⟩ := h2
    exact ⟨b,h _ _ hb,r,JK h hr,rfl⟩
def Lp : Sum := fun xs s => (match xs with
  | [x] => (cellsOf 1 x s).bind fun vs => (Cf s vs).bind fun ls => if ls.flatten ≠ [] ∧ ls.flatten.length ≤ 140737488355328 ∧ ls.length ≤ 1000000 then some (Sum.inr ls.flatten) else none
  | _ => (none : Option (Value ⊕ List UInt8))).map (outS id s)
theorem Qm {x : Value} {s : St} {vs : List Value} {ls : List (List UInt8)} (h : cellsOf 1 x s = some vs) (h2 : Cf s vs = some ls) (h3 : ls.flatten ≠ []) (h4 : ls.flatten.length ≤ 140737488355328) (h5 : ls.length ≤ 1000000) : Lp [x] s = some (Af ls.flatten s) := by
  simp only [Lp,h,h2,Option.bind_some]
  rw [if_pos ⟨h3,h4,h5⟩]
  rfl
theorem Ux {R : Aa} {x : Value} {s : St} {vs : List Value} {ls : List (List UInt8)} (hx : cellsOf 1 x s = some vs) (hp : Cf s vs = some ls) (hb : ls.flatten.length ≤ 140737488355328) (hn : ls.length ≤ 1000000) : ∀ (d i : Nat),i + d = vs.length →
    AV (Au.b0 R) [x,.int .i64 (((ls.take i).flatten.length : Nat) : Int),x,.int .i64 ((vs.length : Nat) : Int),.int .i64 (i : Int)] s = some (.exit 0,[x,.int .i64 ((ls.flatten.length : Nat) : Int)],s) := by
  intro d
  have hl := GV hp
  induction d with
  | zero =>
    intro i hi
    have h1 : decide ((i : Int) < ((vs.length : Nat) : Int)) = false := by simp; omega
    rw [As,List.take_of_length_le (by omega)]
    simp only [Au.b0,h1,EVs]
  | succ d IH =>
    intro i hi
    have h1 : decide ((i : Int) < ((vs.length : Nat) : Int)) = true := by simp; omega
    obtain ⟨p,h2,h3,_⟩ := M6 hx (by omega) (i := i) (by omega) (k := .i64)
    have hi2 : i < vs.length := by omega
    obtain ⟨l,h4,h5⟩ := Fi hp hi2
    have h6 := h3 vs[i] rfl (by simp [hi2])
    have h7 : ls.take (i + 1) = ls.take i ++ [l] := by rw [List.take_add_one,h4]; rfl
    have h8 : (ls.take (i + 1)).flatten.length = (ls.take i).flatten.length + l.length := by rw [h7]; simp
    have h9 : (ls.take (i + 1)).flatten.length ≤ ls.flatten.length := by
      conv => rhs; rw [← List.take_append_drop (i + 1) ls,List.flatten_append,List.length_append]
      omega
    have hw : IntKind.wrap .i64 ((((ls.take i).flatten.length : Nat) : Int) + ((l.length : Nat) : Int)) = (((ls.take (i + 1)).flatten.length : Nat) : Int) := by rw [wrap_i64 (by omega) (by omega)]; omega
    have hw2 : IntKind.wrap .i64 ((i : Int) + 1) = ((i + 1 : Nat) : Int) := by rw [wrap_i64 (by omega) (by omega)]; omega
    have hneg : decide ((((ls.take (i + 1)).flatten.length : Nat) : Int) < 0) = false := by simp
    rw [As]
    simp only [Au.b0,Au.j0,h1,h2,h6,AY h5,hw,hw2,hneg,EVs]
    exact IH (i + 1) (by omega)
theorem Yg {s : St} {b len cap : Nat} {row : List UInt8} {v : Value} {m : List UInt8} (h : s.heap[b]? = some (.row 1 (bv row) .act)) (hv : bytesOf v s = some m) (hr : row.length = cap) (hl : len + m.length ≤ cap) (hb : cap ≤ 140737488355328) :
    ∃ s',AD 1 1 (.slice (some ⟨b,0,none⟩) len cap) v s = some (.slice (some ⟨b,0,none⟩) (len + m.length) cap,s') ∧ s'.heap[b]? = some (.row 1 (bv (row.take len ++ m ++ row.drop (len + m.length))) .act) ∧ s'.heap.length = s.heap.length ∧ ∀ c,c ≠ b → s'.heap[c]? = s.heap[c]? := by
  unfold AD
  rw [if_pos (by omega),Ir hv,GT hv]
  simp only [Option.bind_some]
  have hroom : Nl (len + m.length) 1 := .inl (by omega)
  rw [if_pos hroom,if_pos hl]
  by_cases hm : m.length = 0
  · have : m = [] := List.eq_nil_of_length_eq_zero hm
    subst this
    refine ⟨s,by simp,?_,rfl,fun c _ => rfl⟩
    rw [h]
    simp
  · rw [if_neg hm]
    have hbl : b < s.heap.length := (List.getElem?_eq_some_iff.1 h).1
    refine ⟨s.putB b (.row 1 (AB (bv row) (0 + len * 1) (bv m)) .act),?_,?_,by simp [St.putB],fun c hc => ?_⟩
    · unfold EB
      rw [h]
      simp only [AX]
      rw [if_pos (by omega)]
      rfl
    · simp only [St.putB]
      rw [List.getElem?_set_self hbl]
      congr 2
      unfold AB
      rw [Cz,Cz,Xy,XA,AX]
      simp
    · simp only [St.putB]
      rw [List.getElem?_set_ne (by omega)]
theorem Uy {R : Aa} {x : Value} {N : Nat} {vs : List Value} {ls : List (List UInt8)} (hb : ls.flatten.length ≤ 140737488355328) (hn : ls.length ≤ 1000000) {b : Nat} (hN : N ≤ b) : ∀ (d i : Nat) (s : St) (rest : List UInt8),i + d = vs.length → cellsOf 1 x s = some vs → Cf s vs = some ls →
    (∀ v l,bytesOf v s = some l → ∀ t : St,(∀ c,c ≠ b → t.heap[c]? = s.heap[c]?) → v ∈ vs ∨ v = x → bytesOf v t = some l) → (∀ t : St,(∀ c,c ≠ b → t.heap[c]? = s.heap[c]?) → cellsOf 1 x t = some vs) →
    s.heap[b]? = some (.row 1 (bv ((ls.take i).flatten ++ rest)) .act) → ((ls.take i).flatten ++ rest).length = ls.flatten.length →
    ∃ s',AV (Au.b1 R) [.slice (some ⟨b,0,none⟩) (ls.take i).flatten.length ls.flatten.length,x,.int .i64 ((vs.length : Nat) : Int),.int .i64 (i : Int)] s = some (.exit 2,[.slice (some ⟨b,0,none⟩) ls.flatten.length ls.flatten.length],s') ∧ s'.heap[b]? = some (.row 1 (bv ls.flatten) .act) := by
  intro d
  induction d with
  | zero =>
    intro i s rest hi hx hp _ _ hrow hlen
    have hl := GV hp
    have h1 : decide ((i : Int) < ((vs.length : Nat) : Int)) = false := by simp; omega
    have ht : ls.take i = ls := List.take_of_length_le (by omega)
    rw [ht] at hrow hlen ⊢
    refine ⟨s,?_,?_⟩
    · rw [As]
      simp only [Au.b1,h1,EVs]
    · have : rest = [] := by
        rw [List.length_append] at hlen
        exact List.eq_nil_of_length_eq_zero (by omega)
      rw [hrow,this,List.append_nil]
  | succ d IH =>
    intro i s rest hi hx hp hold hold2 hrow hlen
    have hl := GV hp
    have h1 : decide ((i : Int) < ((vs.length : Nat) : Int)) = true := by simp; omega
    obtain ⟨p,h2,h3,_⟩ := M6 hx (by omega) (i := i) (by omega) (k := .i64)
    have hi2 : i < vs.length := by omega
    obtain ⟨l,h4,h5⟩ := Fi hp hi2
    have h6 := h3 vs[i] rfl (by simp [hi2])
    have h7 : ls.take (i + 1) = ls.take i ++ [l] := by rw [List.take_add_one,h4]; rfl
    have h8 : (ls.take (i + 1)).flatten = (ls.take i).flatten ++ l := by rw [h7]; simp
    have h9 : (ls.take (i + 1)).flatten.length ≤ ls.flatten.length := by
      conv => rhs; rw [← List.take_append_drop (i + 1) ls,List.flatten_append,List.length_append]
      omega
    have hw2 : IntKind.wrap .i64 ((i : Int) + 1) = ((i + 1 : Nat) : Int) := by rw [wrap_i64 (by omega) (by omega)]; omega
    have h10 : (ls.take i).flatten.length + l.length = (ls.take (i + 1)).flatten.length := by rw [h8,List.length_append]
    obtain ⟨s2,g1,g2,g3,g4⟩ := Yg hrow h5 hlen (len := (ls.take i).flatten.length) (by omega) hb
    have hold' : ∀ v l,bytesOf v s2 = some l → ∀ t : St,(∀ c,c ≠ b → t.heap[c]? = s2.heap[c]?) → v ∈ vs ∨ v = x → bytesOf v t = some l := by
      intro v l' hv t ht hm
      have e1 : ∀ c,c ≠ b → t.heap[c]? = s.heap[c]? := fun c hc => (ht c hc).trans (g4 c hc)
      rcases hm with hm | hm
      · obtain ⟨j,hj,rfl⟩ := List.getElem_of_mem hm
        obtain ⟨l2,k1,k2⟩ := Fi hp hj
        have k3 := hold _ _ k2 s2 g4 (.inl hm)
        rw [k3] at hv
        cases hv
        exact hold _ _ k2 t e1 (.inl hm)
      · subst hm
        have k4 := hold2 s2 g4
        have k5 := hold2 t e1
        unfold bytesOf at hv ⊢
        rw [k4] at hv
        rw [k5]
        exact hv
    have hp2 : Cf s2 vs = some ls := by
      have : ∀ (ws : List Value) (ms : List (List UInt8)),(∀ v ∈ ws,v ∈ vs) → Cf s ws = some ms → Cf s2 ws = some ms := by
        intro ws
        induction ws with
        | nil => intro ms _ h; exact h
        | cons w ws ih =>
          intro ms hw h
          simp only [Cf,Option.bind_eq_some_iff,Option.map_eq_some_iff] at h ⊢
          obtain ⟨q,hq,r,hr,rfl⟩ := h
          exact ⟨q,hold _ _ hq s2 g4 (.inl (hw _ (List.mem_cons_self ..))),r,ih _ (fun v hv => hw _ (List.mem_cons_of_mem _ hv)) hr,rfl⟩
      exact this vs ls (fun _ h => h) hp
    have hr2 : (bv ((ls.take i).flatten ++ rest |>.take (ls.take i).flatten.length) ++ bv l ++ bv (((ls.take i).flatten ++ rest).drop ((ls.take i).flatten.length + l.length))) = bv ((ls.take (i + 1)).flatten ++ rest.drop l.length) := by
      rw [← Cz,← Cz,h8,List.take_left,← List.drop_drop,List.drop_left]
    rw [Cz,Cz,hr2] at g2
    obtain ⟨s3,q1,q2⟩ := IH (i + 1) s2 (rest.drop l.length) (by omega) (hold2 s2 g4) hp2 hold' (fun t ht => hold2 t fun c hc => (ht c hc).trans (g4 c hc)) g2 (by
      rw [List.length_append] at hlen ⊢
      rw [List.length_drop]
      omega)
    refine ⟨s3,?_,q2⟩
    rw [As]
    simp only [Au.b1,h1,h2,h6,g1,h10,hw2,EVs]
    exact q1
theorem Z9 {R : Aa} {n : Nat} (h0 : 0 < n) (h1 : n ≤ 140737488355328) (s : St) : AT R (.slice none 0 0) (.int .i64 (n : Int)) s = some (.slice (some ⟨s.heap.length,0,none⟩) 0 n,s.push (.row 1 (bv (List.replicate n 0)) .act)) := by
  have e1 : decide ((n : Int) < 0) = false := by simp
  have e2 : IntKind.wrap .i64 (0 - 0) = 0 := by decide
  have e3 : IntKind.wrap .i64 ((n : Int) - 0) = (n : Int) := by rw [wrap_i64 (by omega) (by omega)]; omega
  have e4 : decide ((n : Int) > 0) = true := by simp; omega
  have e5 : acap (.slice none 0 0) = some (.int .i64 0) := rfl
  have e6 : Bj 1 (.slice none 0 0) none (some (.int .i64 0)) none = some (.slice none 0 0) := rfl
  have hrep : A3 [Value.int .u8 0] n = bv (List.replicate n 0) := by
    clear h0 h1 e1 e3 e4
    induction n with
    | zero => rfl
    | succ n ih => rw [A3,ih]; rfl
  have e7 : Ib 1 1 [(.int .u8 0)] (.slice none 0 0) (.int .i64 (n : Int)) s = some (.slice (some ⟨s.heap.length,0,none⟩) n n,s.push (.row 1 (bv (List.replicate n 0)) .act)) := by
    unfold Ib
    simp only [Int.toNat_natCast,Nat.mul_one]
    rw [if_pos ⟨by omega,h1,by omega,by omega,rfl,rfl⟩,hrep]
  have e8 : Bj 1 (.slice (some ⟨s.heap.length,0,none⟩) n n) none (some (.int .i64 0)) none = some (.slice (some ⟨s.heap.length,0,none⟩) 0 n) := by
    simp [Bj,DF,Bg,Hr]
  have e9 : ∀ (ty : TypeId) s2,AP (.slice ty) (.slice none 0 0) s2 = some (.int .i64 0) := fun _ _ => rfl
  unfold AT
  simp only [AT.j0,AT.j1,e1,e2,e3,e4,e5,e6,e7,e8,e9,EVs,retV]
  rfl
def WB : Sum := fun xs s => match xs with
  | [.slice none 0 0,.int .i64 n] => if 0 < n ∧ n ≤ 140737488355328 then some (.slice (some ⟨s.heap.length,0,none⟩) 0 n.toNat,s.push (.row 1 (bv (List.replicate n.toNat 0)) .act)) else none
  | _ => none
theorem Zaa {n : Nat} (h0 : 0 < n) (h1 : n ≤ 140737488355328) (s : St) : WB [.slice none 0 0,.int .i64 (n : Int)] s = some (.slice (some ⟨s.heap.length,0,none⟩) 0 n,s.push (.row 1 (bv (List.replicate n 0)) .act)) := by
  unfold WB
  simp only [Int.toNat_natCast]
  rw [if_pos (by omega)]
theorem Zab {lib : Lib} (hl : lib 129 = none) : BM Tryz.prog lib Ad 129 WB := by
  intro args s v t hg
  unfold WB at hg
  split at hg
  · rename_i n
    split at hg
    case isFalse => cases hg
    rename_i hc
    cases hg
    obtain ⟨m,rfl⟩ := Int.eq_ofNat_of_zero_le (show 0 ≤ n by omega)
    have h := Z9 (R := run Tryz.prog lib Ad) (n := m) (by omega) (by omega) (frzS s)
    simp only [Int.toNat_natCast]
    refine ⟨_,_,_,_,rfl,Gm hl h,.row (N := s.heap.length) (i := (frzS s).heap.length) (by rw [Ch]; omega) AE (fun _ _ h => h) T7 (.va (.l2 (.l1 (.l0 (Vw0.row (Nat.zero_le _) (Nat.le_refl _))))))⟩
  · cases hg
theorem WC {lib : Lib} (hl : lib 44 = none) (hG : lib 129 = some WB) : BM Tryz.prog lib Ad 44 Lp := by
  refine BM.out (.inl rfl) (fun args s v h => ?_) (fun args s l h => ?_)
  · split at h
    · simp only [Option.bind_eq_some_iff] at h
      obtain ⟨vs,_,ls,_,h⟩ := h
      split at h <;> cases h
    · cases h
  · split at h
    · rename_i x
      simp only [Option.bind_eq_some_iff] at h
      obtain ⟨vs,hx,ls,hp,h⟩ := h
      split at h
      case isFalse => cases h
      rename_i hc
      obtain ⟨hne,hb,hn⟩ := hc
      cases h
      have hx2 : cellsOf 1 x (frzS s) = some vs := by rw [Jp]; exact hx
      have hp2 : Cf (frzS s) vs = some ls := JK (fun v l h => by rw [Bp]; exact h) hp
      have hpos : 0 < ls.flatten.length := List.length_pos_iff.2 hne
      have h1 := Ux (R := run Tryz.prog lib Ad) hx2 hp2 hb hn vs.length 0 (by omega)
      have e0 : (((ls.take 0).flatten.length : Nat) : Int) = 0 := rfl
      have e00 : ((0 : Nat) : Int) = 0 := rfl
      rw [e0,e00] at h1
      have hlen : ∀ (ty : TypeId) s2,AP (.slice ty) x s2 = some (.int .i64 ((vs.length : Nat) : Int)) := fun ty s2 => by
        obtain ⟨a,len,cap,rfl,e⟩ := E6 hx
        rw [Nat.mul_one] at e
        rw [e]; rfl
      have hext : Ext (frzS s).heap.length (frzS s) ((frzS s).push (.row 1 (bv (List.replicate ls.flatten.length 0)) .act)) := .push _ (Nat.le_refl _) _
      have hkeep : ∀ t : St,(∀ c,c ≠ (frzS s).heap.length → t.heap[c]? = ((frzS s).push (.row 1 (bv (List.replicate ls.flatten.length 0)) .act)).heap[c]?) → Ext (frzS s).heap.length (frzS s) t := fun t ht =>
        Vr fun c hc => by rw [ht c (by omega),C4 hc]
      have hins : ∀ v l,bytesOf v (frzS s) = some l → ∀ t : St,(∀ c,c ≠ (frzS s).heap.length → t.heap[c]? = ((frzS s).push (.row 1 (bv (List.replicate ls.flatten.length 0)) .act)).heap[c]?) → bytesOf v t = some l :=
        fun v l hv t ht => (hkeep t ht).bytes hv
      have hcel : ∀ t : St,(∀ c,c ≠ (frzS s).heap.length → t.heap[c]? = ((frzS s).push (.row 1 (bv (List.replicate ls.flatten.length 0)) .act)).heap[c]?) → cellsOf 1 x t = some vs :=
        fun t ht => (hkeep t ht).cells hx2
      obtain ⟨s3,q1,q2⟩ := Uy (R := run Tryz.prog lib Ad) (x := x) (N := s.heap.length) hb hn (b := (frzS s).heap.length) (by rw [Ch]; omega) vs.length 0 ((frzS s).push (.row 1 (bv (List.replicate ls.flatten.length 0)) .act)) (List.replicate ls.flatten.length 0) (by omega) (hext.cells hx2) (JK (fun v l h => hext.bytes h) hp2)
        (fun v l hv t ht hm => by
          have hold : ∃ l',bytesOf v (frzS s) = some l' := by
            rcases hm with hm | hm
            · obtain ⟨j,hj,rfl⟩ := List.getElem_of_mem hm
              obtain ⟨l2,_,k2⟩ := Fi hp2 hj
              exact ⟨l2,k2⟩
            · subst hm
              have := hcel _ (fun c _ => rfl)
              unfold bytesOf at hv ⊢
              rw [this] at hv
              rw [hx2]
              exact ⟨l,hv⟩
          obtain ⟨l',hl'⟩ := hold
          have k1 := hins v l' hl' _ (fun c _ => rfl)
          rw [k1] at hv
          cases hv
          exact hins v _ hl' t ht)
        hcel AE (by simp)
      have e1 : ((ls.take 0).flatten.length) = 0 := rfl
      rw [e1,e00] at q1
      refine ⟨(frzS s).heap.length,s3,?_,by rw [Ch]; omega,q2⟩
      refine Fp hl ?_
      unfold Au
      simp only [hlen,h1,Fq,Bq (P := Tryz.prog) (Ad := Ad) hG,Zaa hpos hb,EVs]
      simp only [q1,KZ,EVs,retV]
      rfl
    · cases h
end Go.Proofs.YtmbhnbladmpnoaaGreat.Ab

/- Datagrams: what the functions do. -/
namespace Go.Proofs.YtmbhnbladmpnoaaGreat.Ab
open Go
def Bl (l : List UInt8) : List UInt8 := 83 :: (enc l.length ++ l)
def BJ (l : List UInt8) : List UInt8 := Bl l ++ fixB (sumV (Bl l))
def B2 (l : List UInt8) : List UInt8 × Int :=
  if 4103 < l.length then ([],2) else if l.length < 6 then ([],10)
  else if leN 0 (l.drop (l.length - 4)) ≠ sumV (l.take (l.length - 4)) then ([],50)
  else if (l.take (l.length - 4)).getD 0 0 ≠ 83 ∨ (Aw ((l.take (l.length - 4)).drop 1)).2.2 ≠ 0 ∨ 4096 < (Aw ((l.take (l.length - 4)).drop 1)).1 ∨ l.length - 4 ≠ 1 + (Aw ((l.take (l.length - 4)).drop 1)).2.1 + (Aw ((l.take (l.length - 4)).drop 1)).1 then ([],11)
  else ((l.take (l.length - 4)).drop (1 + (Aw ((l.take (l.length - 4)).drop 1)).2.1),0)
theorem RT {l : List UInt8} : BJ l ≠ [] := by simp [BJ,Bl]
theorem Iu {n : Nat} : (fixB n).length = 4 := rfl
def nilE (e : Int) : Value := .tuple #[.slice none 0 0,.int .i64 e]
def Qn : Sum := fun xs s => (match xs with
  | [.slice none 0 0] => some (Sum.inl (Value.slice none 0 0))
  | [.slice (some a) len cap] => (bytesOf (.slice (some a) len cap) s).bind fun l => if l.length ≤ 140737488355328 then some (Sum.inr l) else none
  | _ => (none : Option (Value ⊕ List UInt8))).map (outS id s)
theorem Yh {a : Addr} {len cap : Nat} {s : St} {l : List UInt8} (h : bytesOf (.slice (some a) len cap) s = some l) (hl : l.length ≤ 140737488355328) : Qn [.slice (some a) len cap] s = some (Af l s) := by
  simp only [Qn,h,Option.bind_some,if_pos hl]
  rfl
def Uz : Sum := fun xs s => (match xs with
  | [v] => (bytesOf v s).bind fun l => if l.length ≤ 140737488355328 then (if 4096 < l.length then some (Sum.inl (nilE 2)) else some (Sum.inr (BJ l))) else none
  | _ => (none : Option (Value ⊕ List UInt8))).map (outS pkE s)
theorem Zac {v : Value} {s : St} {l : List UInt8} (h : bytesOf v s = some l) (hl : l.length ≤ 4096) : Uz [v] s = some (pkE (Af (BJ l) s).1,(Af (BJ l) s).2) := by
  simp only [Uz,h,Option.bind_some]
  rw [if_pos (by omega),if_neg (by omega)]
  rfl
def Tc : Sum := fun xs s => (match xs with
  | [v] => (bytesOf v s).bind fun l => if l.length ≤ 140737488355328 then (if (B2 l).2 = 0 then some (Sum.inr (B2 l).1) else some (Sum.inl (nilE (B2 l).2))) else none
  | _ => (none : Option (Value ⊕ List UInt8))).map (outS pkE s)
theorem Zad {v : Value} {s : St} {l : List UInt8} (h : bytesOf v s = some l) (hl : l.length ≤ 140737488355328) (h0 : (B2 l).2 = 0) : Tc [v] s = some (pkE (Af (B2 l).1 s).1,(Af (B2 l).1 s).2) := by
  simp only [Tc,h,Option.bind_some]
  rw [if_pos hl,if_pos h0]
  rfl
theorem Zae {v : Value} {s : St} {l : List UInt8} (h : bytesOf v s = some l) (hl : l.length ≤ 140737488355328) (h0 : (B2 l).2 ≠ 0) : Tc [v] s = some (nilE (B2 l).2,s) := by
  simp only [Tc,h,Option.bind_some]
  rw [if_pos hl,if_neg h0]
  rfl
theorem ZdT {t e : TypeId} (ht : Tryz.prog.underlying t = some (.slice e)) {o1 o2 : Operand} {a : Addr} {len cap : Nat} : abin Tryz.prog .eql t o1 o2 (.slice (some a) len cap) (.slice none 0 0) = some (.bool false) := by
  unfold abin
  rw [ht]
  rfl
theorem Zco {t e : TypeId} (ht : Tryz.prog.underlying t = some (.slice e)) {o1 o2 : Operand} : abin Tryz.prog .eql t o1 o2 (.slice none 0 0) (.slice none 0 0) = some (.bool true) := by
  unfold abin
  rw [ht]
  rfl
theorem Yi {R : Aa} {a : Addr} {len cap : Nat} {s : St} {l : List UInt8} (h : bytesOf (.slice (some a) len cap) s = some l) (hl : l.length ≤ 140737488355328) :
    ∃ b t,BY R (.slice (some a) len cap) s = some (.slice (some ⟨b,0,none⟩) l.length l.length,t) ∧ s.heap.length ≤ b ∧ t.heap[b]? = some (.row 1 (bv l) .act) := by
  have e1 : Ar 1 [(.int .u8 0)] 0 [] s = some (.slice (some ⟨s.heap.length,0,none⟩) 0 0,s.push (.row 1 [] .act)) := rfl
  have h2 : bytesOf (.slice (some a) len cap) (s.push (.row 1 [] .act)) = some l := (Ext.push _ (Nat.le_refl _) _).bytes h
  unfold BY
  simp only [ZdT Tryz.underlying31,e1,EVs]
  unfold AD
  rw [if_pos (by omega),Ir h2,GT h2]
  simp only [Option.bind_some]
  rw [if_pos (.inl (by omega))]
  by_cases hm : l.length = 0
  · have : l = [] := List.eq_nil_of_length_eq_zero hm
    subst this
    refine ⟨s.heap.length,s.push (.row 1 [] .act),?_,Nat.le_refl _,AE⟩
    rfl
  · rw [if_neg (by omega),AE]
    simp only
    rw [if_pos ⟨trivial,trivial,rfl⟩]
    refine ⟨(s.push (.row 1 [] .act)).heap.length,((s.push (.row 1 [] .act)).putB s.heap.length (.row 1 [] .dead)).push (.row 1 (bv l) .act),?_,by rw [AJ]; omega,?_⟩
    · simp only [Option.bind_some,retV,Nat.zero_add,List.nil_append]
      rfl
    · have : (s.push (.row 1 [] .act)).heap.length = ((s.push (.row 1 [] .act)).putB s.heap.length (.row 1 [] .dead)).heap.length := by simp [St.putB]
      rw [this]
      exact AE
theorem Yj {lib : Lib} (hl : lib 118 = none) : BM Tryz.prog lib Ad 118 Qn := by
  refine BM.out (.inl rfl) (fun args s v h => ?_) (fun args s l h => ?_)
  · split at h
    · cases h
      refine ⟨rfl,frzS s,Dl hl ?_⟩
      unfold BY
      simp only [Zco Tryz.underlying31,EVs,retV]
      rfl
    · simp only [Option.bind_eq_some_iff] at h
      obtain ⟨l,_,h⟩ := h
      split at h <;> cases h
    · cases h
  · split at h
    · cases h
    · simp only [Option.bind_eq_some_iff] at h
      obtain ⟨l',h1,h⟩ := h
      split at h
      case isFalse => cases h
      rename_i hle
      cases h
      obtain ⟨b,t,g1,g2,g3⟩ := Yi (R := run Tryz.prog lib Ad) (s := frzS s) (by rw [Bp]; exact h1) hle
      rw [Ch] at g2
      exact ⟨b,t,Dl hl g1,g2,g3⟩
    · cases h
theorem Gz {v : Value} {s : St} {l : List UInt8} (h : bytesOf v s = some l) : AH v = true ∧ An v = [v] := by
  unfold bytesOf cellsOf at h
  split at h
  · exact ⟨rfl,rfl⟩
  · exact ⟨rfl,rfl⟩
  · cases h
theorem ZdU {s : St} {a b c : Value} (ha : AH a = true ∧ An a = [a]) (hb : AH b = true ∧ An b = [b]) (hc : AH c = true ∧ An c = [c]) : Ar 1 [(.slice none 0 0)] 3 [(0,a),(1,b),(2,c)] s = some (.slice (some ⟨s.heap.length,0,none⟩) 3 3,s.push (.row 1 [a,b,c] .act)) := by
  unfold Ar
  rw [if_pos ⟨by decide,rfl,rfl⟩]
  simp [Iz,Ly,A3,AB,ha.1,ha.2,hb.1,hb.2,hc.1,hc.2]
theorem ZdV {s : St} {a b : Value} (ha : AH a = true ∧ An a = [a]) (hb : AH b = true ∧ An b = [b]) : Ar 1 [(.slice none 0 0)] 2 [(0,a),(1,b)] s = some (.slice (some ⟨s.heap.length,0,none⟩) 2 2,s.push (.row 1 [a,b] .act)) := by
  unfold Ar
  rw [if_pos ⟨by decide,rfl,rfl⟩]
  simp [Iz,Ly,A3,AB,ha.1,ha.2,hb.1,hb.2]
theorem Td {s : St} {cs : List Value} : cellsOf 1 (.slice (some ⟨s.heap.length,0,none⟩) cs.length cs.length) (s.push (.row 1 cs .act)) = some cs := by
  simp only [cellsOf,Nat.le_refl,if_true,readN,Ab.readRow,AE,Option.bind_some,Nat.mul_one,Nat.zero_add]
  rw [List.drop_zero,List.take_length]
theorem Yk {s : St} {n : Nat} : ∃ t,(anew [(.int .u8 0),(.int .u8 0),(.int .u8 0),(.int .u8 0)] s).bind (fun r => (A0 4 r.1 (fixV n) r.2).bind fun t => (EV 4 1 r.1 none none none t).map fun v => (v,t)) = some (.slice (some ⟨s.heap.length,0,none⟩) 4 4,t) ∧ bytesOf (.slice (some ⟨s.heap.length,0,none⟩) 4 4) t = some (fixB n) ∧ Ext s.heap.length s t := by
  refine ⟨(s.push (.row 0 [(.int .u8 0),(.int .u8 0),(.int .u8 0),(.int .u8 0)] .act)).putB s.heap.length (.row 0 (bv (fixB n)) .act),?_,?_,?_⟩
  · have h1 : anew [(.int .u8 0),(.int .u8 0),(.int .u8 0),(.int .u8 0)] s = some (.pointer (some ⟨s.heap.length,0,none⟩),s.push (.row 0 [(.int .u8 0),(.int .u8 0),(.int .u8 0),(.int .u8 0)] .act)) := rfl
    have h2 : A0 4 (.pointer (some ⟨s.heap.length,0,none⟩)) (fixV n) (s.push (.row 0 [(.int .u8 0),(.int .u8 0),(.int .u8 0),(.int .u8 0)] .act)) = some ((s.push (.row 0 [(.int .u8 0),(.int .u8 0),(.int .u8 0),(.int .u8 0)] .act)).putB s.heap.length (.row 0 (bv (fixB n)) .act)) := by
      rw [Yb]
      unfold A0 EB
      simp only [AE]
      rfl
    rw [h1]
    simp only [Option.bind_some]
    rw [h2]
    simp only [Option.bind_some]
    have h3 : ((s.push (.row 0 [(.int .u8 0),(.int .u8 0),(.int .u8 0),(.int .u8 0)] .act)).putB s.heap.length (.row 0 (bv (fixB n)) .act)).heap[s.heap.length]? = some (.row 0 (bv (fixB n)) .act) := by
      simp [St.putB,St.push]
    unfold EV
    simp only [h3]
    rfl
  · have h3 : ((s.push (.row 0 [(.int .u8 0),(.int .u8 0),(.int .u8 0),(.int .u8 0)] .act)).putB s.heap.length (.row 0 (bv (fixB n)) .act)).heap[s.heap.length]? = some (.row 0 (bv (fixB n)) .act) := by
      simp [St.putB,St.push]
    have h4 : Ab.readRow ((s.push (.row 0 [(.int .u8 0),(.int .u8 0),(.int .u8 0),(.int .u8 0)] .act)).putB s.heap.length (.row 0 (bv (fixB n)) .act)) s.heap.length = some (bv (fixB n)) := by
      unfold Ab.readRow
      rw [h3]
    unfold bytesOf cellsOf
    simp only [Nat.le_refl,if_true]
    unfold readN
    rw [h4,Option.bind_some,if_pos (by rw [AX,Iu]; decide),List.drop_zero,List.take_of_length_le (by rw [AX,Iu]; decide),Option.bind_some]
    exact SF (fixB n)
  · refine Vr fun c hc => ?_
    simp only [St.putB]
    rw [List.getElem?_set_ne (by omega),C4 hc]
theorem Yl : ∀ (l : List UInt8) {r : Nat},r < 4294967296 → sumT r l < 4294967296
  | [],_,h => h
  | c :: l,r,h => by
    rw [OP,sumR,← OP]
    refine Yl l (RS ?_)
    exact Nat.xor_lt_two_pow (n := 32) h (Nat.lt_trans c.toNat_lt (by decide))
theorem RU (l : List UInt8) : sumV l < 4294967296 := by
  unfold sumV
  exact Nat.xor_lt_two_pow (n := 32) (Yl l (by decide)) (by decide)
theorem Zaf {R : Aa} (hN : ∀ xs s,R 45 xs s = gNum xs s) (hC : ∀ xs s,R 44 xs s = Lp xs s) (hS : ∀ xs s,R 47 xs s = gSum xs s) (hF : ∀ xs s,R 46 xs s = H6 xs s) {v : Value} {s : St} {l : List UInt8} (h : bytesOf v s = some l) (hl : l.length ≤ 4096) :
    ∃ b t,Ik R v s = some (pkE (.slice (some ⟨b,0,none⟩) (BJ l).length (BJ l).length),t) ∧ s.heap.length ≤ b ∧ t.heap[b]? = some (.row 1 (bv (BJ l)) .act) := by
  have e1 : decide (((l.length : Nat) : Int) > 4096) = false := by simp; omega
  have e2 : Ar 1 [(.int .u8 0)] 1 [(0,(.int .u8 83))] s = some (Af [83] s) := rfl
  have e3 : IntKind.wrap .u64 ((l.length : Nat) : Int) = ((l.length : Nat) : Int) := D7 (by omega) (by omega)
  have hb1 : bytesOf (Af [83] s).1 (Af [83] s).2 = some [83] := Bk
  have x1 : Ext s.heap.length s (Af [83] s).2 := A4 (Nat.le_refl _)
  have x2 : Ext (Af [83] s).2.heap.length (Af [83] s).2 (Af (enc l.length) (Af [83] s).2).2 := A4 (Nat.le_refl _)
  generalize hs1 : Af [83] s = r1 at e2 hb1 x1 x2
  have hb2 : bytesOf (Af (enc l.length) r1.2).1 (Af (enc l.length) r1.2).2 = some (enc l.length) := Bk
  have e5 : gNum [.int .u64 ((l.length : Nat) : Int)] r1.2 = some (Af (enc l.length) r1.2) := Ll (by omega)
  generalize Af (enc l.length) r1.2 = r2 at e5 hb2 x2
  have y1 := x2.bytes hb1
  have y2 := x2.bytes (x1.bytes h)
  have e6 := ZdU (s := r2.2) (Gz hb1) (Gz hb2) (Gz h)
  have x3 : Ext r2.2.heap.length r2.2 (r2.2.push (.row 1 [r1.1,r2.1,v] .act)) := .push _ (Nat.le_refl _) _
  have hc3 : cellsOf 1 (.slice (some ⟨r2.2.heap.length,0,none⟩) 3 3) (r2.2.push (.row 1 [r1.1,r2.1,v] .act)) = some [r1.1,r2.1,v] := Td (s := r2.2) (cs := [r1.1,r2.1,v])
  have hp3 : Cf (r2.2.push (.row 1 [r1.1,r2.1,v] .act)) [r1.1,r2.1,v] = some [[83],enc l.length,l] := by
    simp only [Cf,x3.bytes y1,x3.bytes hb2,x3.bytes y2,Option.bind_some,Option.map_some]
  have hfl : [[83],enc l.length,l].flatten = Bl l := by simp [Bl]
  have hlen : (Bl l).length ≤ 5000 := by simp [Bl]; have := @JI l.length; omega
  have e7 := Qm hc3 hp3 (by rw [hfl]; simp [Bl]) (by rw [hfl]; omega) (by simp)
  rw [hfl] at e7
  generalize r2.2.push (.row 1 [r1.1,r2.1,v] .act) = s3 at e6 x3 e7
  have hb4 : bytesOf (Af (Bl l) s3).1 (Af (Bl l) s3).2 = some (Bl l) := Bk
  have x4 : Ext s3.heap.length s3 (Af (Bl l) s3).2 := A4 (Nat.le_refl _)
  generalize Af (Bl l) s3 = r4 at e7 hb4 x4
  have e8 : gSum [r4.1] r4.2 = some (.int .u32 ((sumV (Bl l) : Nat) : Int),r4.2) := by
    unfold gSum; rw [ES hb4 (by omega),Option.map_some]
  have hsum : sumV (Bl l) < 4294967296 := RU _
  have e9 : H6 [.int .u32 ((sumV (Bl l) : Nat) : Int)] r4.2 = some (fixV (sumV (Bl l)),r4.2) := S9 hsum
  obtain ⟨t5,e10,hb5,x5⟩ := Yk (s := r4.2) (n := sumV (Bl l))
  have y4 := x5.bytes hb4
  have e11 := ZdV (s := t5) (Gz hb4) (Gz hb5)
  have x6 : Ext t5.heap.length t5 (t5.push (.row 1 [r4.1,.slice (some ⟨r4.2.heap.length,0,none⟩) 4 4] .act)) := .push _ (Nat.le_refl _) _
  have hc6 : cellsOf 1 (.slice (some ⟨t5.heap.length,0,none⟩) 2 2) (t5.push (.row 1 [r4.1,.slice (some ⟨r4.2.heap.length,0,none⟩) 4 4] .act)) = some [r4.1,.slice (some ⟨r4.2.heap.length,0,none⟩) 4 4] := Td (s := t5) (cs := [r4.1,.slice (some ⟨r4.2.heap.length,0,none⟩) 4 4])
  have hp6 : Cf (t5.push (.row 1 [r4.1,.slice (some ⟨r4.2.heap.length,0,none⟩) 4 4] .act)) [r4.1,.slice (some ⟨r4.2.heap.length,0,none⟩) 4 4] = some [Bl l,fixB (sumV (Bl l))] := by
    simp only [Cf,x6.bytes y4,x6.bytes hb5,Option.bind_some,Option.map_some]
  have hfl6 : [Bl l,fixB (sumV (Bl l))].flatten = BJ l := by simp [BJ]
  have hlen6 : (BJ l).length ≤ 6000 := by simp [BJ,Iu]; omega
  have e12 := Qm hc6 hp6 (by rw [hfl6]; exact RT) (by rw [hfl6]; omega) (by simp)
  rw [hfl6] at e12
  have hle : s.heap.length ≤ (t5.push (.row 1 [r4.1,.slice (some ⟨r4.2.heap.length,0,none⟩) 4 4] .act)).heap.length := by
    have := x1.1; have := x2.1; have := x3.1; have := x4.1; have := x5.1; have := x6.1
    omega
  generalize t5.push (.row 1 [r4.1,.slice (some ⟨r4.2.heap.length,0,none⟩) 4 4] .act) = s6 at e11 e12 hle
  generalize BJ l = L at e12 hlen6 hfl6 ⊢
  refine ⟨s6.heap.length,(Af L s6).2,?_,hle,AE⟩
  simp only [Option.bind_eq_some_iff,Option.map_eq_some_iff,Prod.mk.injEq] at e10
  obtain ⟨q,h10,t,h11,w,h12,rfl,rfl⟩ := e10
  have e3' : AK .u64 (.int .i64 ((l.length : Nat) : Int)) = some (.int .u64 ((l.length : Nat) : Int)) := by rw [LQ,e3]
  clear hp6 hfl6 hc6 hp3 hfl hc3 hb5 hlen6 hb4 hlen hsum hb2 hb1 x1 x2 x3 x4 x5 x6 y1 y2 y4 hs1
  generalize fixV (sumV (Bl l)) = F at e9 h11
  generalize sumV (Bl l) = S at e8 e9
  unfold Ik
  simp only [AY h,e1,e2,e3',Option.bind_some,Es,Et]
  simp only [Cd,hN,e5,Option.bind_some]
  simp only [e6,Option.bind_some]
  simp only [CM,hC,e7,Option.bind_some]
  simp only [IV,hS,e8,Option.bind_some]
  simp only [Mi,hF,e9,Option.bind_some]
  simp only [h10,Option.bind_some]
  simp only [h11,Option.bind_some]
  simp only [h12,Option.bind_some]
  simp only [e11,Option.bind_some]
  simp only [CM,hC,e12,Option.bind_some]
  rfl
theorem Zag {lib : Lib} (hl : lib 17 = none) (hN : lib 45 = some gNum) (hC : lib 44 = some Lp) (hS : lib 47 = some gSum) (hF : lib 46 = some H6) : BM Tryz.prog lib Ad 17 Uz := by
  refine BM.out (.inr rfl) (fun args s v h => ?_) (fun args s l h => ?_)
  · split at h
    · rename_i v0
      simp only [Option.bind_eq_some_iff] at h
      obtain ⟨l,h1,h⟩ := h
      split at h
      case isFalse => cases h
      rename_i hle
      split at h
      case isFalse => cases h
      rename_i hlong
      cases h
      refine ⟨rfl,frzS s,Kc hl ?_⟩
      have h2 : bytesOf v0 (frzS s) = some l := by rw [Bp]; exact h1
      have e1 : decide (((l.length : Nat) : Int) > 4096) = true := by simp; omega
      unfold Ik
      simp only [AY h2,e1,EVs,retV]
      rfl
    · cases h
  · split at h
    · rename_i v0
      simp only [Option.bind_eq_some_iff] at h
      obtain ⟨l',h1,h⟩ := h
      split at h
      case isFalse => cases h
      split at h
      case isTrue => cases h
      cases h
      obtain ⟨b,t,g1,g2,g3⟩ := Zaf (R := run Tryz.prog lib Ad) (fun xs s => Bq hN) (fun xs s => Bq hC) (fun xs s => Bq hS) (fun xs s => Bq hF) (s := frzS s) (v := v0) (l := l') (by rw [Bp]; exact h1) (by omega)
      rw [Ch] at g2
      exact ⟨b,t,Kc hl g1,g2,g3⟩
    · cases h
end Go.Proofs.YtmbhnbladmpnoaaGreat.Ab
