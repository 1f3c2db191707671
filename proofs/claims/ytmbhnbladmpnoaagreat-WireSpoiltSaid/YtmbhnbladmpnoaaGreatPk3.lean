/- Texts of this proof, packed: BRow, BLaw, BList, BArgL, BNest, Lib0, BOrd, BRange, Sh. -/
import Derived.Test.YtmbhnbladmpnoaaGreatPk2
import Derived.WalkKit
import Derived.Laws.Strings
import Derived.ChangeArms
import Derived.DataReads
import Derived.SizedLaws
import Derived.Test.YtmbhnbladmpnoaaGreatProg
import Derived.KernelRfl
import Derived.RangeFuncLeaves
import Derived.RangeFuncKeeps
set_option linter.unusedVariables false
set_option linter.unusedSimpArgs false
set_option linter.unusedSectionVars false
/- From the abstract machine's word on a law to the law's call. -/
namespace Go.Proofs.YtmbhnbladmpnoaaGreat.Ab
open Go Go.RowKit
theorem law_calls {P : Program} {lib : Lib} {Ad : Hd} (hprog : QR P = true) (hlib : Br P lib) {n : FuncId} {args : List Value} {H : List Blk} {s1 : St} (hrun : run P lib Ad n args ⟨H⟩ = some (.bool true,s1)) (hok : Ap P n = true)
    {ι : Emb} {W : World} (hs : Sim W.heap.size ι H W) (hro : ∀ b : Nat,ownB H[b]? = false) {args' : Array Value} (ha : All2 (VRel ι) args args'.toList) :
    Calls P n args' W fun e W' => e = .returned (.bool true) ∧ Below W.heap.size W W' := by
  refine (NQ hprog hlib n args ⟨H⟩ _ _ hrun hok _ ι W args' hs ha).mono fun e W' ⟨v',he,κ,h1,h2,h3⟩ => ?_
  refine ⟨by rw [he,h3.inv_bool],⟨h2.os,h2.tape,h2.output,h2.size,fun k hk => h2.keep k hk fun a y hoa => ?_⟩⟩
  rw [hro a] at hoa
  cases hoa
theorem sim_nil (W : World) : Sim W.heap.size (fun _ => none) [] W where
  dom _ _ h := by cases h
  row _ _ _ _ h := by simp at h
  map _ _ _ h := by simp at h
  excl _ _ h := by simp [ownB] at h
  size := Nat.le_refl _
  loc _ _ _ _ h := by simp at h
def roB : Blk → Bool
  | .row _ _ .ro => true
  | _ => false
theorem roB_own {H : List Blk} (h : H.all roB = true) (b : Nat) : ownB H[b]? = false := by
  cases hb : H[b]? with
  | none => rfl
  | some x =>
    have := List.all_eq_true.1 h x (List.mem_of_getElem? hb)
    cases x with
    | row n c st => cases st <;> first | rfl | cases this
    | map => cases this
def U9 (b : Nat) (a : Option Addr) (len : Nat) : Value :=
  match a with
  | none => .slice none 0 0
  | some _ => .slice (some ⟨b,0,none⟩) len len
theorem ZbZ {W : World} {ι : Emb} {H : List Blk} (h : Sim W.heap.size ι H W) (hro : H.all roB = true) {a : Option Addr} {len cap : Nat} {cells : List Value}
    (hr : (a = none ∧ len = 0 ∧ cap = 0) ∨ ∃ x,a = some x ∧ len ≤ cap ∧ (∀ i,i < cap → ∃ v,W.cell? (x.add i) = some v) ∧ ∀ i v,cells[i]? = some v → ∃ v',W.cell? (x.add i) = some v' ∧ L2 ι v v') :
    ∃ κ,ι.le κ ∧ Sim W.heap.size κ (H ++ [Blk.row 0 cells .ro]) W ∧ (H ++ [Blk.row 0 cells .ro]).all roB = true ∧ VRel κ (U9 H.length a len) (.slice a len cap) := by
  have hall : (H ++ [Blk.row 0 cells .ro]).all roB = true := by simp [hro,roB]
  have hnone : ι H.length = none := by
    cases e : ι H.length with
    | none => rfl
    | some x => exact absurd (h.dom _ _ e) (Nat.lt_irrefl _)
  have same : ∀ (κ : Emb),κ = ι → Sim W.heap.size κ (H ++ [Blk.row 0 cells .ro]) W := by
    intro κ e
    subst e
    have hget : ∀ b x l,(H ++ [Blk.row 0 cells .ro])[b]? = some x → κ b = some l → H[b]? = some x := by
      intro b x l hb hl
      rwa [List.getElem?_append_left (h.dom b l hl)] at hb
    exact { dom := fun b x hx => by simp; exact Nat.lt_succ_of_lt (h.dom b x hx)
            row := fun b n c st hb hst l hl => h.row b n c st (hget b _ l hb hl) hst l hl
            map := fun b es clock hb l hl => h.map b es clock (hget b _ l hb hl) l hl
            excl := fun a b ha _ _ => by rw [roB_own hall a] at ha; cases ha
            size := h.size
            loc := fun b n c st hb hst l hl => h.loc b n c st (hget b _ l hb hl) hst l hl }
  rcases hr with ⟨rfl,rfl,rfl⟩ | ⟨x,rfl,hle,hcell,hc⟩
  · exact ⟨ι,.refl _,same ι rfl,hall,.va (.l2 (.l1 (.l0 .snil)))⟩
  · by_cases hcap : cap = 0
    · subst hcap
      obtain rfl : len = 0 := by omega
      exact ⟨ι,.refl _,same ι rfl,hall,.va (.l2 (.l1 (.l0 (.slice0 _ _))))⟩
    · obtain ⟨v0,hv0⟩ := hcell 0 (by omega)
      have hx0 : x.add 0 = x := rfl
      rw [hx0] at hv0
      have hblk : ∃ cs e fz,W.heap[x.block]? = some (.cells cs e fz) ∧ x.spot = none := by
        unfold World.cell? at hv0
        split at hv0
        · rename_i c e fz heq
          split at hv0
          · cases hv0
          · rename_i hsp; exact ⟨c,e,fz,heq,by simpa using hsp⟩
        · cases hv0
      obtain ⟨cs,e,fz,hw,hsp⟩ := hblk
      obtain ⟨xb,xo,xs⟩ := x
      simp only at hsp hw
      subst hsp
      let l0 : Loc := ⟨xb,xo,0,xo⟩
      let κ : Emb := fun b => if b = H.length then some l0 else ι b
      have hle' : ι.le κ := by
        intro b y hy
        show (if b = H.length then _ else _) = _
        rw [if_neg]
        · exact hy
        · intro e; rw [e,hnone] at hy; cases hy
      have hself : κ H.length = some l0 := if_pos rfl
      have hcs : ∀ i v,W.cell? (Addr.add ⟨xb,xo,none⟩ i) = some v → cs[xo + i]? = some v := by
        intro i v hv
        unfold World.cell? at hv
        have hb : (Addr.add ⟨xb,xo,none⟩ i).block = xb := by unfold Addr.add; split <;> rfl
        have ho : (Addr.add ⟨xb,xo,none⟩ i).off = xo + i := by unfold Addr.add; split <;> simp_all
        have hs2 : (Addr.add ⟨xb,xo,none⟩ i).spot = none := by unfold Addr.add; split <;> rfl
        rw [hb,hw] at hv
        simp only [hs2,ho] at hv
        simpa using hv
      refine ⟨κ,hle',?_,hall,.va (.l2 (.l1 (.l0 ?_)))⟩
      · have hget : ∀ b y l,(H ++ [Blk.row 0 cells .ro])[b]? = some y → κ b = some l → (b = H.length ∧ y = .row 0 cells .ro ∧ l = l0) ∨ (H[b]? = some y ∧ ι b = some l) := by
          intro b y l hb hl
          by_cases e : b = H.length
          · subst e
            rw [hself] at hl
            cases hl
            rw [List.getElem?_append_right (Nat.le_refl _)] at hb
            simp at hb
            exact .inl ⟨rfl,hb.symm,rfl⟩
          · have hl2 : ι b = some l := by
              have : κ b = ι b := if_neg e
              rw [← this]; exact hl
            rw [List.getElem?_append_left (h.dom b l hl2)] at hb
            exact .inr ⟨hb,hl2⟩
        constructor
        · intro b y hy
          simp
          by_cases e : b = H.length
          · omega
          · have : κ b = ι b := if_neg e
            rw [this] at hy
            exact Nat.lt_succ_of_lt (h.dom b y hy)
        · intro b n c st hb hst l hl
          rcases hget b _ l hb hl with ⟨rfl,he,rfl⟩ | ⟨h1,h2⟩
          · cases he
            refine ⟨cs,e,fz,hw,fun _ => (Array.getElem?_eq_some_iff.1 hw).1,fun hh => (by cases hh),fun i v hv => ?_⟩
            obtain ⟨v',h3,h4⟩ := hc i v hv
            exact ⟨v',hcs i v' h3,h4.mono hle'⟩
          · obtain ⟨cs',e',fz',q1,q2,q3,q4⟩ := h.row b n c st h1 hst l h2
            refine ⟨cs',e',fz',q1,q2,q3,fun i v hv => ?_⟩
            obtain ⟨v',h3,h4⟩ := q4 i v hv
            exact ⟨v',h3,h4.mono hle'⟩
        · intro b es clock hb l hl
          have := List.all_eq_true.1 hall _ (List.mem_of_getElem? hb)
          cases this
        · intro a b ha
          rw [roB_own hall a] at ha
          cases ha
        · exact h.size
        · intro b n c st hb hst l hl
          rcases hget b _ l hb hl with ⟨rfl,he,rfl⟩ | ⟨h1,h2⟩
          · cases he
            exact ⟨rfl,Nat.le_refl _⟩
          · exact h.loc b n c st h1 hst l h2
      · exact .slice 0 hself (Nat.le_refl _) hle (fun _ => by show xo + cap * 0 ≤ xo; simp)
def IsRow (k : IntKind) (w : World) (a : Option Addr) (len cap : Nat) (zs : List Int) : Prop :=
  (a = none ∧ len = 0 ∧ cap = 0 ∧ zs = []) ∨
  ∃ x,a = some x ∧ len ≤ cap ∧ cap ≤ maxLen ∧ zs.length = cap ∧ (∀ i,i < zs.length → w.cell? (x.add i) = some (.int k (zs.getD i 0))) ∧ ∀ n ∈ zs,(Lit.int k n).wf = true
end Go.Proofs.YtmbhnbladmpnoaaGreat.Ab

/- What the abstract machine's operations come to,at values of a Bq shape. -/
namespace Go.Proofs.YtmbhnbladmpnoaaGreat.Ab
open Go
theorem BT {a : Value} {l : List Value} : getL (a :: l) 0 = a := Eq.trans rfl (Eq.refl _)
theorem CU {a b : Value} {l : List Value} : getL (a :: b :: l) 1 = b := Eq.trans rfl (Eq.refl _)
theorem Dh {a b c : Value} {l : List Value} : getL (a :: b :: c :: l) 2 = c := Eq.trans rfl (Eq.refl _)
theorem DD {a b c d : Value} {l : List Value} : getL (a :: b :: c :: d :: l) 3 = d := Eq.trans rfl (Eq.refl _)
theorem J9 {a b c d e : Value} {l : List Value} : getL (a :: b :: c :: d :: e :: l) 4 = e := Eq.trans rfl (Eq.refl _)
theorem LP {a b c d e f : Value} {l : List Value} : getL (a :: b :: c :: d :: e :: f :: l) 5 = f := Eq.trans rfl (Eq.refl _)
theorem Xs {a b c d e f g : Value} {l : List Value} : getL (a :: b :: c :: d :: e :: f :: g :: l) 6 = g := Eq.trans rfl (Eq.refl _)
theorem Xt {a b c d e f g h : Value} {l : List Value} : getL (a :: b :: c :: d :: e :: f :: g :: h :: l) 7 = h := Eq.trans rfl (Eq.refl _)
theorem Zbd {a b c d e f g h i : Value} {l : List Value} : getL (a :: b :: c :: d :: e :: f :: g :: h :: i :: l) 8 = i := Eq.trans rfl (Eq.refl _)
theorem Zbe {a b c d e f g h i j : Value} {l : List Value} : getL (a :: b :: c :: d :: e :: f :: g :: h :: i :: j :: l) 9 = j := Eq.trans rfl (Eq.refl _)
theorem Xu {a b c d e f g h i j k : Value} {l : List Value} : getL (a :: b :: c :: d :: e :: f :: g :: h :: i :: j :: k :: l) 10 = k := Eq.trans rfl (Eq.refl _)
theorem Xv {a b c d e f g h i j k m : Value} {l : List Value} : getL (a :: b :: c :: d :: e :: f :: g :: h :: i :: j :: k :: m :: l) 11 = m := Eq.trans rfl (Eq.refl _)
theorem Xw {a b c d e f g h i j k m n : Value} {l : List Value} : getL (a :: b :: c :: d :: e :: f :: g :: h :: i :: j :: k :: m :: n :: l) 12 = n := Eq.trans rfl (Eq.refl _)
theorem Va {α β : Type} {a : α} {f : α → Option β} : (some a).bind f = f a := Eq.trans (Option.bind_some a f) (Eq.refl _)
theorem Zdm {α β : Type} {a : α} {f : α → β} : (some a).map f = some (f a) := Eq.trans rfl (Eq.refl _)
section
variable {β : Type}
theorem CV {x y : Option β} : AA (.bool true) x y = x := Eq.trans rfl (Eq.refl _)
theorem Es {x y : Option β} : AA (.bool false) x y = y := Eq.trans rfl (Eq.refl _)
theorem Sy {x y : Option β} : Ai (.bool true) true x y = x := Eq.trans rfl (Eq.refl _)
theorem CW {x y : Option β} : Ai (.bool false) false x y = x := Eq.trans rfl (Eq.refl _)
theorem Ed {x y : Option β} : Ai (.bool true) false x y = y := Eq.trans rfl (Eq.refl _)
theorem Sz {x y : Option β} : Ai (.bool false) true x y = y := Eq.trans rfl (Eq.refl _)
theorem Vb {w : Bool} {x y : Option β} : Ai undef w x y = y := Eq.trans rfl (Eq.refl _)
theorem HH {a b : Value} : AM (.bool true) a b = some a := Eq.trans rfl (Eq.refl _)
theorem E5 {a b : Value} : AM (.bool false) a b = some b := Eq.trans rfl (Eq.refl _)
theorem Vc {j : Nat} {l : List (Nat × Option β)} {r : Option β} : exV (.exit j) l r = Pb j l := Eq.trans rfl (Eq.refl _)
theorem Xx {l : List (Nat × Option β)} {r : Option β} : exV .ret l r = r := Eq.trans rfl (Eq.refl _)
theorem KZ {j : Nat} {x : Option β} {l : List (Nat × Option β)} : Pb j ((j,x) :: l) = x := if_pos rfl
theorem B6 {F : List Value → St → Option β} {X : List Value} {s : St} : C9 F X s = F X s := Eq.trans rfl (Eq.refl _)
theorem Qa {X : List Value} {s : St} {k : List Value → St → Res} : seqA (some (.normal,X,s)) k = k X s := Eq.trans rfl (Eq.refl _)
theorem Zbf {j : Nat} {X : List Value} {s : St} {k : List Value → St → Res} : seqA (some (.exit j,X,s)) k = some (.exit j,X,s) := Eq.trans rfl (Eq.refl _)
theorem Qb {X : List Value} {s : St} {k : List Value → St → Res} : seqA (some (.ret,X,s)) k = some (.ret,X,s) := Eq.trans rfl (Eq.refl _)
end
theorem SA {β : Type} {a b : Bool} {s : St} {K : List Value × St → Value → Option β} : ((Ai (.bool a) true (some ([.bool b],s)) (some ([undef],s))).bind fun q => (AM (.bool a) (getL q.1 0) (.bool false)).bind (K q)) = K ([if a = true then .bool b else undef],s) (.bool (a && b)) := by
  cases a <;> rfl
theorem Vd {β : Type} {a b : Bool} {s : St} {K : List Value × St → Value → Option β} : ((Ai (.bool a) false (some ([.bool b],s)) (some ([undef],s))).bind fun q => (AM (.bool a) (.bool true) (getL q.1 0)).bind (K q)) = K ([if a = true then undef else .bool b],s) (.bool (a || b)) := by
  cases a <;> rfl
section
variable {P : Program} {t : TypeId} {ox oy : Operand} {k : IntKind} {a b : Int}
theorem We : abin P .add t ox oy (.int k a) (.int k b) = some (.int k (k.wrap (a + b))) := by simp [abin,Dz]
theorem Wf : abin P .sub t ox oy (.int k a) (.int k b) = some (.int k (k.wrap (a - b))) := by simp [abin,Dz]
theorem Zdn : abin P .mul t ox oy (.int k a) (.int k b) = some (.int k (k.wrap (a * b))) := by simp [abin,Dz]
theorem Zdo (h : b ≠ 0) : abin P .quo t ox oy (.int k a) (.int k b) = some (.int k (k.wrap (a.tdiv b))) := by simp [abin,Dz,h]
theorem Wg (h : b ≠ 0) : abin P .rem t ox oy (.int k a) (.int k b) = some (.int k (a.tmod b)) := by simp [abin,Dz,h]
theorem Zb0 : abin P .eql t ox oy (.int k a) (.int k b) = some (.bool (a == b)) := by simp [abin,Dz]
theorem Mg : abin P .neq t ox oy (.int k a) (.int k b) = some (.bool (a != b)) := by simp [abin,Dz]
theorem Pe : abin P .lss t ox oy (.int k a) (.int k b) = some (.bool (decide (a < b))) := by simp [abin,Dz]
theorem Zdp : abin P .leq t ox oy (.int k a) (.int k b) = some (.bool (decide (a ≤ b))) := by simp [abin,Dz]
theorem Et : abin P .gtr t ox oy (.int k a) (.int k b) = some (.bool (decide (a > b))) := by simp [abin,Dz]
theorem Zdq : abin P .geq t ox oy (.int k a) (.int k b) = some (.bool (decide (a ≥ b))) := by simp [abin,Dz]
theorem LQ {k2 : IntKind} : AK k2 (.int k a) = some (.int k2 (k2.wrap a)) := Eq.trans rfl (Eq.refl _)
theorem Zdr {c : Bool} : aun .not (.bool c) = some (.bool !c) := Eq.trans rfl (Eq.refl _)
theorem Zb1 : aun .neg (.int k a) = some (.int k (k.wrap (0 - a))) := Eq.trans rfl (Eq.refl _)
end
theorem D7 {n : Int} (h0 : 0 ≤ n) (h : n < 18446744073709551616) : IntKind.wrap .u64 n = n := by simp [IntKind.wrap,IntKind.signed,IntKind.bits]; omega
theorem wrap_i64 {n : Int} (h0 : -9223372036854775808 ≤ n) (h : n < 9223372036854775808) : IntKind.wrap .i64 n = n := by simp [IntKind.wrap,IntKind.signed,IntKind.bits]; omega
theorem Ka {n : Nat} : IntKind.wrap .u8 (n : Int) = ((n % 256 : Nat) : Int) := by simp [IntKind.wrap,IntKind.signed,IntKind.bits]
theorem QT {n : Nat} : IntKind.wrap .u32 (n : Int) = ((n % 4294967296 : Nat) : Int) := by simp [IntKind.wrap,IntKind.signed,IntKind.bits]
theorem QU {n : Nat} : IntKind.wrap .u64 (n : Int) = ((n % 18446744073709551616 : Nat) : Int) := by simp [IntKind.wrap,IntKind.signed,IntKind.bits]
def TZ : IntKind → Bool
  | .u8 | .u16 | .u32 | .u64 => true
  | _ => false
theorem SB {k : IntKind} (hk : TZ k = true) {n : Nat} (h : n < 2 ^ k.bits) : k.wrap (n : Int) = (n : Int) := by
  have h2 : ((n : Int)) < ((2 ^ k.bits : Nat) : Int) := by exact_mod_cast h
  cases k <;> simp [TZ] at hk <;> simp [IntKind.wrap,IntKind.signed,IntKind.bits] at h2 ⊢ <;> omega
theorem Gd {w n : Nat} : BitVec.ofInt w (n : Int) = BitVec.ofNat w n := by
  apply BitVec.eq_of_toNat_eq
  simp [BitVec.toNat_ofInt]
section
variable {P : Program} {t : TypeId} {ox oy : Operand} {k : IntKind} {a b : Nat}
theorem Zb2 (hk : TZ k = true) (ha : a < 2 ^ k.bits) (hb : b < 2 ^ k.bits) : abin P .and t ox oy (.int k a) (.int k b) = some (.int k ((a &&& b : Nat) : Int)) := by
  have : (BitVec.ofInt k.bits (a : Int) &&& BitVec.ofInt k.bits (b : Int)).toNat = a &&& b := by
    rw [Gd,Gd,BitVec.toNat_and,BitVec.toNat_ofNat,BitVec.toNat_ofNat,Nat.mod_eq_of_lt ha,Nat.mod_eq_of_lt hb]
  simp only [abin,Dz,if_true,this]
  rw [SB hk (Nat.and_lt_two_pow _ hb)]
theorem u_or (hk : TZ k = true) (ha : a < 2 ^ k.bits) (hb : b < 2 ^ k.bits) : abin P .or t ox oy (.int k a) (.int k b) = some (.int k ((a ||| b : Nat) : Int)) := by
  have : (BitVec.ofInt k.bits (a : Int) ||| BitVec.ofInt k.bits (b : Int)).toNat = a ||| b := by
    rw [Gd,Gd,BitVec.toNat_or,BitVec.toNat_ofNat,BitVec.toNat_ofNat,Nat.mod_eq_of_lt ha,Nat.mod_eq_of_lt hb]
  simp only [abin,Dz,if_true,this]
  rw [SB hk (Nat.or_lt_two_pow ha hb)]
theorem SC (hk : TZ k = true) (ha : a < 2 ^ k.bits) (hb : b < 2 ^ k.bits) : abin P .xor t ox oy (.int k a) (.int k b) = some (.int k ((a ^^^ b : Nat) : Int)) := by
  have : (BitVec.ofInt k.bits (a : Int) ^^^ BitVec.ofInt k.bits (b : Int)).toNat = a ^^^ b := by
    rw [Gd,Gd,BitVec.toNat_xor,BitVec.toNat_ofNat,BitVec.toNat_ofNat,Nat.mod_eq_of_lt ha,Nat.mod_eq_of_lt hb]
  simp only [abin,Dz,if_true,this]
  rw [SB hk (Nat.xor_lt_two_pow ha hb)]
theorem T4 (ha : a < 2 ^ k.bits) {k2 : IntKind} : abin P .shr t ox oy (.int k a) (.int k2 b) = some (.int k ((a / 2 ^ b : Nat) : Int)) := by
  have hb : ¬ ((b : Int) < 0) := by omega
  simp only [abin,Dz,if_neg hb]
  congr 2
  rw [Int.toNat_natCast,Int.fdiv_eq_ediv_of_nonneg _ (by exact_mod_cast Nat.zero_le _)]
  have : (2 : Int) ^ (min b k.bits) = ((2 ^ (min b k.bits) : Nat) : Int) := by push_cast; rfl
  rw [this]
  rw [← Int.natCast_ediv]
  congr 1
  by_cases h : b ≤ k.bits
  · rw [Nat.min_eq_left h]
  · rw [Nat.min_eq_right (by omega),Nat.div_eq_of_lt ha,Nat.div_eq_of_lt]
    exact Nat.lt_of_lt_of_le ha (Nat.pow_le_pow_right (by omega) (by omega))
theorem ZF (hk : TZ k = true) {k2 : IntKind} : abin P .shl t ox oy (.int k a) (.int k2 b) = some (.int k ((a * 2 ^ b % 2 ^ k.bits : Nat) : Int)) := by
  have hb : ¬ ((b : Int) < 0) := by omega
  simp only [abin,Dz,if_neg hb]
  congr 2
  rw [Int.toNat_natCast]
  have hp : (a : Int) * 2 ^ (min b k.bits) = ((a * 2 ^ (min b k.bits) : Nat) : Int) := by push_cast; rfl
  rw [hp]
  have hw : ∀ n : Nat,k.wrap (n : Int) = ((n % 2 ^ k.bits : Nat) : Int) := fun n => by
    cases k <;> simp [TZ] at hk <;> simp [IntKind.wrap,IntKind.signed,IntKind.bits]
  rw [hw]
  congr 1
  by_cases h : b ≤ k.bits
  · rw [Nat.min_eq_left h]
  · rw [Nat.min_eq_right (by omega)]
    have h1 : a * 2 ^ k.bits % 2 ^ k.bits = 0 := Nat.mul_mod_left _ _
    have h2 : a * 2 ^ b % 2 ^ k.bits = 0 := by
      have : 2 ^ b = 2 ^ (b - k.bits) * 2 ^ k.bits := by rw [← Nat.pow_add]; congr 1; omega
      rw [this,← Nat.mul_assoc]
      exact Nat.mul_mod_left _ _
    rw [h1,h2]
end
def bv (l : List UInt8) : List Value := l.map fun b => .int .u8 ((b.toNat : Nat) : Int)
theorem AX {l : List UInt8} : (bv l).length = l.length := by simp [bv]
theorem Zds {l : List UInt8} {i : Nat} : (bv l)[i]? = (l[i]?).map fun b => .int .u8 ((b.toNat : Nat) : Int) := by simp [bv]
theorem Cz {l m : List UInt8} : bv (l ++ m) = bv l ++ bv m := by simp [bv]
theorem Xy {l : List UInt8} {n : Nat} : bv (l.take n) = (bv l).take n := by simp [bv]
theorem XA {l : List UInt8} {n : Nat} : bv (l.drop n) = (bv l).drop n := by simp [bv]
theorem T7 {l : List UInt8} : (bv l).all AZ = true := by simp [bv,AZ]
theorem SD {t : ByteArray} : DA t = bv t.data.toList := rfl
theorem SE {l m : List UInt8} (h : bv l = bv m) : l = m := by
  induction l generalizing m with
  | nil => cases m with
    | nil => rfl
    | cons => simp [bv] at h
  | cons x l ih => cases m with
    | nil => simp [bv] at h
    | cons y m =>
      simp only [bv,List.map_cons,List.cons.injEq,Value.int.injEq,true_and] at h
      have h1 : x.toNat = y.toNat := by exact_mod_cast h.1
      rw [UInt8.toNat_inj.1 h1,ih (m := m) h.2]
def ubs : List Value → Option (List UInt8)
  | [] => some []
  | .int .u8 n :: l => if 0 ≤ n ∧ n < 256 then (ubs l).map fun r => UInt8.ofNat n.toNat :: r else none
  | _ => none
theorem SF : ∀ (l : List UInt8),ubs (bv l) = some l
  | [] => rfl
  | x :: l => by
    have h := x.toNat_lt
    simp only [bv,List.map_cons,ubs]
    rw [if_pos (by omega)]
    have := SF l
    unfold bv at this
    rw [this]
    simp
theorem Ih : ∀ {cs : List Value} {l : List UInt8},ubs cs = some l → cs = bv l
  | [],l,h => by simp [ubs] at h; subst h; rfl
  | v :: cs,l,h => by
    unfold ubs at h
    split at h
    · rename_i heq; cases heq
    · rename_i n l' heq
      cases heq
      split at h
      · rename_i hn
        simp only [Option.map_eq_some_iff] at h
        obtain ⟨r,hr,rfl⟩ := h
        rw [Ih hr]
        simp only [bv,List.map_cons,List.cons.injEq,Value.int.injEq,true_and,and_true]
        have : (UInt8.ofNat n.toNat).toNat = n.toNat := by simp; omega
        rw [this]; omega
      · cases h
    · cases h
theorem Qc : ∀ (l : List UInt8),BB (bv l) = some l
  | [] => rfl
  | x :: l => by
    have h := x.toNat_lt
    simp only [bv,List.map_cons,BB]
    have := Qc l
    unfold bv at this
    rw [this]
    simp
def sv (l : List UInt8) : Value := .string ⟨l.toArray⟩
theorem Jo (t : ByteArray) : Value.string t = sv t.data.toList := by simp [sv]
section
variable {P : Program} {t : TypeId} {ox oy : Operand} {a b : List UInt8}
theorem Zdt : abin P .eql t ox oy (sv a) (sv b) = some (.bool (a == b)) := by simp [abin,Ng,sv]
theorem IP : abin P .neq t ox oy (sv a) (sv b) = some (.bool (!(a == b))) := by simp [abin,Ng,sv]
theorem Zdu : abin P .geq t ox oy (sv a) (sv b) = some (.bool (!(Op.bytesLess a b))) := by simp [abin,Ng,sv]
end
theorem NR {s : St} {a : List UInt8} : AP .string (sv a) s = some (.int .i64 ((a.length : Nat) : Int)) := by simp [AP,Qw,alen,sv,ByteArray.size]
def cellsOf (n : Nat) (v : Value) (s : St) : Option (List Value) :=
  match v with
  | .slice none 0 0 => some []
  | .slice (some ⟨b,o,none⟩) len cap => if len ≤ cap then readN s b o (len * n) else none
  | _ => none
def bytesOf (v : Value) (s : St) : Option (List UInt8) := (cellsOf 1 v s).bind ubs
theorem D2 {s : St} {b : Nat} : readRow (frzS s) b = readRow s b := by
  unfold readRow
  rw [GI]
  cases s.heap[b]? with
  | none => rfl
  | some x => cases x with
    | row n c st => cases st <;> rfl
    | map => rfl
theorem XB {s : St} {b o n : Nat} : readN (frzS s) b o n = readN s b o n := by unfold readN; rw [D2]
theorem Jp {s : St} {n : Nat} {v : Value} : cellsOf n v (frzS s) = cellsOf n v s := by
  unfold cellsOf
  split
  · rfl
  · rw [XB]
  · rfl
theorem Bp {s : St} {v : Value} : bytesOf v (frzS s) = bytesOf v s := by unfold bytesOf; rw [Jp]
theorem Ge {s : St} {b o n : Nat} {cs : List Value} (h : readN s b o n = some cs) : ∃ row,readRow s b = some row ∧ o + n ≤ row.length ∧ cs = (row.drop o).take n := by
  unfold readN at h
  simp only [Option.bind_eq_some_iff] at h
  obtain ⟨row,h1,h2⟩ := h
  split at h2
  · rename_i hle; cases h2; exact ⟨row,h1,hle,rfl⟩
  · cases h2
theorem E6 {s : St} {n : Nat} {v : Value} {cs : List Value} (h : cellsOf n v s = some cs) : ∃ a len cap,v = .slice a len cap ∧ cs.length = len * n := by
  unfold cellsOf at h
  split at h
  · cases h; exact ⟨_,_,_,rfl,by simp⟩
  · split at h
    case isFalse => cases h
    obtain ⟨row,_,h2,rfl⟩ := Ge h
    exact ⟨_,_,_,rfl,by simp; omega⟩
  · cases h
theorem Zdv {s : St} {a : Option Addr} {len cap : Nat} {e : TypeId} : AP (.slice e) (.slice a len cap) s = some (.int .i64 len) := rfl
theorem Zbg {s : St} {t : ByteArray} : AP .string (.string t) s = some (.int .i64 t.size) := rfl
theorem AY {s : St} {v : Value} {l : List UInt8} (h : bytesOf v s = some l) {e : TypeId} {s2 : St} : AP (.slice e) v s2 = some (.int .i64 ((l.length : Nat) : Int)) := by
  unfold bytesOf at h
  simp only [Option.bind_eq_some_iff] at h
  obtain ⟨cs,h1,h2⟩ := h
  obtain ⟨a,len,cap,rfl,h3⟩ := E6 h1
  have := Ih h2
  rw [this,AX] at h3
  rw [Zdv,h3,Nat.mul_one]
theorem M6 {s : St} {n : Nat} {v : Value} {cs : List Value} (h : cellsOf n v s = some cs) (hn : 0 < n) {i : Nat} (hi : (i + 1) * n ≤ cs.length) {k : IntKind} :
    ∃ p,AC n v (.int k (i : Int)) = some p ∧ (∀ c,n = 1 → cs[i]? = some c → Aq false 1 p s = some c) ∧ Aq true n p s = some (.agg ((cs.drop (i * n)).take n).toArray) := by
  unfold cellsOf at h
  split at h
  · cases h
    have : 0 < (i + 1) * n := Nat.mul_pos (by omega) hn
    simp only [List.length_nil] at hi
    omega
  · rename_i b o len cap
    split at h
    case isFalse => cases h
    obtain ⟨row,h1,h2,rfl⟩ := Ge h
    have hl : ((row.drop o).take (len * n)).length = len * n := by simp; omega
    rw [hl] at hi
    have hlt : i < len := by
      rcases Nat.lt_or_ge i len with hh | hh
      · exact hh
      · have := Nat.mul_le_mul_right n hh; rw [Nat.add_mul] at hi; omega
    refine ⟨.pointer (some ⟨b,o + i * n,none⟩),?_,fun c hn1 hc => ?_,?_⟩
    · simp [AC,hlt]
    · subst hn1
      simp only [Aq,h1,Option.bind_some,Bool.false_eq_true,if_false]
      rw [List.getElem?_take_of_lt (by omega),List.getElem?_drop] at hc
      simpa using hc
    · simp only [Aq,if_true,readN,h1,Option.bind_some]
      have h3 : i * n + n ≤ len * n := by rw [Nat.add_mul] at hi; omega
      rw [if_pos (by omega)]
      simp only [Option.map_some]
      congr 3
      rw [List.drop_take,List.drop_drop,List.take_take]
      congr 1
      omega
  · cases h
theorem CL {s : St} {v : Value} {l : List UInt8} (h : bytesOf v s = some l) {i : Nat} (hi : i < l.length) {k : IntKind} : ∃ p,AC 1 v (.int k (i : Int)) = some p ∧ Aq false 1 p s = some (.int .u8 ((l[i].toNat : Nat) : Int)) := by
  unfold bytesOf at h
  simp only [Option.bind_eq_some_iff] at h
  obtain ⟨cs,h1,h2⟩ := h
  have := Ih h2
  obtain ⟨p,h3,h4,_⟩ := M6 h1 (by omega) (i := i) (by rw [this,AX]; omega) (k := k)
  refine ⟨p,h3,h4 _ rfl ?_⟩
  rw [this,Zds,List.getElem?_eq_getElem hi]
  rfl
theorem Kb {s : St} {v : Value} {l : List UInt8} (h : bytesOf v s = some l) : Cs v s = some (.string ⟨l.toArray⟩) := by
  unfold bytesOf at h
  simp only [Option.bind_eq_some_iff] at h
  obtain ⟨cs,h1,h2⟩ := h
  have := Ih h2
  unfold cellsOf at h1
  split at h1
  · cases h1
    have : l = [] := by
      cases l with
      | nil => rfl
      | cons => simp [bv] at this
    subst this
    rfl
  · split at h1
    case isFalse => cases h1
    simp only [Cs]
    rw [Nat.mul_one] at h1
    rw [h1,this]
    simp [Qc]
  · cases h1
theorem T8 {s : St} {n : Nat} {a : Option Addr} {len cap : Nat} {cs : List Value} (h : cellsOf n (.slice a len cap) s = some cs) {lo hi mx : Option Value} {i j : Nat} (hlo : Bg 0 lo = some i) (hhi : Bg len hi = some j) (hij : i ≤ j) (hj : j ≤ len)
    (hmx : mx = none ∨ (hi.isSome = true ∧ ∀ c,Bg c mx = some j)) : ∃ u,Bj n (.slice a len cap) lo hi mx = some u ∧ cellsOf n u s = some ((cs.drop (i * n)).take ((j - i) * n)) := by
  unfold cellsOf at h
  split at h
  · rename_i heq
    cases heq
    cases h
    obtain rfl : j = 0 := by omega
    obtain rfl : i = 0 := by omega
    refine ⟨.slice none 0 0,?_,by simp [cellsOf]⟩
    simp only [Bj,DF,hlo,hhi]
    rcases hmx with rfl | ⟨h1,h2⟩
    · simp [Bg,Hr]
    · simp [h1,h2,Hr]
  · rename_i b o len2 cap2 heq
    cases heq
    split at h
    case isFalse => cases h
    rename_i hlc
    obtain ⟨row,h1,h2,rfl⟩ := Ge h
    have key : ∀ m,j ≤ m → m ≤ cap → (Hr n (some ⟨b,o,none⟩) i (j - i) (m - i)) = some (.slice (some ⟨b,o + i * n,none⟩) (j - i) (m - i)) ∧ cellsOf n (.slice (some ⟨b,o + i * n,none⟩) (j - i) (m - i)) s = some (((List.take (len * n) (List.drop o row)).drop (i * n)).take ((j - i) * n)) := by
      intro m hm1 hm2
      refine ⟨rfl,?_⟩
      simp only [cellsOf]
      rw [if_pos (by omega)]
      unfold readN
      rw [h1]
      simp only [Option.bind_some]
      have e1 : i * n + (j - i) * n = j * n := by rw [← Nat.add_mul]; congr 1; omega
      have e2 : j * n ≤ len * n := Nat.mul_le_mul_right _ hj
      rw [if_pos (by omega)]
      congr 1
      rw [List.drop_take,List.drop_drop,List.take_take]
      congr 1
      omega
    simp only [Bj,DF,hlo,hhi]
    rcases hmx with rfl | ⟨h3,h4⟩
    · obtain ⟨k1,k2⟩ := key cap (by omega) (Nat.le_refl _)
      refine ⟨_,?_,k2⟩
      simp only [Option.isNone_none,Bool.true_or,if_true,Bg,Option.bind_some]
      rw [if_pos ⟨hij,by omega,Nat.le_refl _⟩]
      exact k1
    · obtain ⟨k1,k2⟩ := key j (Nat.le_refl _) (by omega)
      refine ⟨_,?_,k2⟩
      simp only [h3,h4,Bool.or_true,if_true,Option.bind_some]
      rw [if_pos ⟨hij,Nat.le_refl _,by omega⟩]
      exact k1
  · cases h
theorem BF {s : St} {v : Value} {l : List UInt8} (h : bytesOf v s = some l) {lo hi mx : Option Value} {i j : Nat} (hlo : Bg 0 lo = some i) (hhi : Bg l.length hi = some j) (hij : i ≤ j) (hj : j ≤ l.length)
    (hmx : mx = none ∨ (hi.isSome = true ∧ ∀ c,Bg c mx = some j)) : ∃ u,Bj 1 v lo hi mx = some u ∧ bytesOf u s = some ((l.drop i).take (j - i)) := by
  unfold bytesOf at h
  simp only [Option.bind_eq_some_iff] at h
  obtain ⟨cs,h1,h2⟩ := h
  have hcs := Ih h2
  obtain ⟨a,len,cap,rfl,h3⟩ := E6 h1
  have hl : len = l.length := by rw [hcs,AX,Nat.mul_one] at h3; exact h3.symm
  subst hl
  obtain ⟨u,h4,h5⟩ := T8 h1 hlo hhi hij hj hmx
  refine ⟨u,h4,?_⟩
  unfold bytesOf
  rw [h5,Nat.mul_one,Nat.mul_one,hcs,← XA,← Xy]
  exact SF _
def Ext (N : Nat) (s s' : St) : Prop := s.heap.length ≤ s'.heap.length ∧ ∀ b,b < N → s'.heap[b]? = s.heap[b]?
theorem Ext.refl (N : Nat) (s : St) : Ext N s s := ⟨Nat.le_refl _,fun _ _ => rfl⟩
theorem Ext.trans {N : Nat} {s t u : St} (h : Ext N s t) (g : Ext N t u) : Ext N s u := ⟨Nat.le_trans h.1 g.1,fun b hb => (g.2 b hb).trans (h.2 b hb)⟩
theorem Ext.push (N : Nat) {s : St} (hN : N ≤ s.heap.length) (B : Blk) : Ext N s (s.push B) := ⟨by simp [St.push],fun b hb => by
  simp only [St.push]; rw [List.getElem?_append_left (by omega)]⟩
theorem AE {s : St} {B : Blk} : (s.push B).heap[s.heap.length]? = some B := by simp [St.push]
theorem C4 {s : St} {B : Blk} {b : Nat} (h : b < s.heap.length) : (s.push B).heap[b]? = s.heap[b]? := by
  simp only [St.push]; rw [List.getElem?_append_left h]
theorem AJ {s : St} {B : Blk} : (s.push B).heap.length = s.heap.length + 1 := by simp [St.push]
theorem Ext.readRow {N : Nat} {s s' : St} (h : Ext N s s') {b : Nat} (hb : b < N) : readRow s' b = readRow s b := by unfold Ab.readRow; rw [h.2 b hb]
theorem D3 {s : St} {b : Nat} {cs : List Value} (h : readRow s b = some cs) : b < s.heap.length := by
  unfold readRow at h
  rcases Nat.lt_or_ge b s.heap.length with hh | hh
  · exact hh
  · rw [List.getElem?_eq_none hh] at h; cases h
theorem Ext.cells {s s' : St} (h : Ext s.heap.length s s') {n : Nat} {v : Value} {cs : List Value} (hv : cellsOf n v s = some cs) : cellsOf n v s' = some cs := by
  unfold cellsOf at hv ⊢
  split at hv
  · exact hv
  · split at hv
    case isFalse => cases hv
    rename_i hlc
    rw [if_pos hlc]
    unfold readN at hv ⊢
    cases hr : Ab.readRow s _ with
    | none => rw [hr] at hv; cases hv
    | some row => rw [h.readRow (D3 hr)]; exact hv
  · cases hv
theorem Ext.bytes {s s' : St} (h : Ext s.heap.length s s') {v : Value} {l : List UInt8} (hv : bytesOf v s = some l) : bytesOf v s' = some l := by
  unfold bytesOf at hv ⊢
  simp only [Option.bind_eq_some_iff] at hv ⊢
  obtain ⟨cs,h1,h2⟩ := hv
  exact ⟨cs,h.cells h1,h2⟩
theorem Ext.less {N M : Nat} {s s' : St} (h : Ext N s s') (hM : M ≤ N) : Ext M s s' := ⟨h.1,fun b hb => h.2 b (by omega)⟩
def Own (N n : Nat) (s : St) (v : Value) (cells : List Value) : Prop :=
  (v = .slice none 0 0 ∧ cells = []) ∨ ∃ b len,v = .slice (some ⟨b,0,none⟩) len len ∧ N ≤ b ∧ s.heap[b]? = some (.row n cells .act) ∧ cells.length = len * n ∧ 0 < len
theorem Own.nil (N n : Nat) (s : St) : Own N n s (.slice none 0 0) [] := .inl ⟨rfl,rfl⟩
theorem Own.cells {N n : Nat} {s : St} {v : Value} {cells : List Value} (h : Own N n s v cells) : cellsOf n v s = some cells := by
  rcases h with ⟨rfl,rfl⟩ | ⟨b,len,rfl,_,h2,h3,h4⟩
  · rfl
  · simp only [cellsOf,Nat.le_refl,if_true,readN,Ab.readRow,h2,Option.bind_some]
    rw [if_pos (by omega),List.drop_zero,← h3,List.take_length]
theorem Own.bytes {N : Nat} {s : St} {v : Value} {l : List UInt8} (h : Own N 1 s v (bv l)) : bytesOf v s = some l := by
  unfold bytesOf
  rw [h.cells]
  exact SF l
theorem M7 {n : Nat} {y : Value} {s : St} {cs : List Value} (h : cellsOf n y s = some cs) : EW n y s = some cs := by
  unfold cellsOf at h
  split at h
  · exact h
  · split at h
    case isFalse => cases h
    exact h
  · cases h
theorem T9 {N n w : Nat} {s : St} {x y : Value} {cells new : List Value} (h : Own N n s x cells) (hN : N ≤ s.heap.length) (hw : 0 < w) (hn : 0 < n) {m : Nat} (hm : lenV y = some m) (hnew : EW n y s = some new) (hlen : new.length = m * n) (hb : ∀ q,q * n = cells.length + new.length → Nl q w) :
    ∃ v' s',AD n w x y s = some (v',s') ∧ Own N n s' v' (cells ++ new) ∧ Ext N s s' := by
  unfold AD
  rw [if_pos hw,hm,hnew]
  simp only [Option.bind_some]
  rcases h with ⟨rfl,rfl⟩ | ⟨b,len,rfl,h1,h2,h3,h4⟩
  · simp only
    have hb2 : Nl m w := hb m (by simp [hlen])
    rw [if_pos hb2]
    by_cases hm0 : m = 0
    · subst hm0
      have : new = [] := by simpa using hlen
      subst this
      exact ⟨_,_,by rw [if_pos rfl],.inl ⟨rfl,rfl⟩,.refl _ _⟩
    · rw [if_neg hm0]
      refine ⟨_,_,rfl,.inr ⟨s.heap.length,m,rfl,hN,by simpa using AE,by simpa using hlen,by omega⟩,.push N hN _⟩
  · have hb2 : Nl (len + m) w := hb _ (by rw [Nat.add_mul,h3,hlen])
    simp only
    rw [if_pos hb2]
    by_cases hm0 : m = 0
    · subst hm0
      have : new = [] := by simpa using hlen
      subst this
      refine ⟨_,_,by rw [if_pos (by omega),if_pos rfl],.inr ⟨b,len,rfl,h1,by simpa using h2,by simpa using h3,h4⟩,.refl _ _⟩
    · rw [if_neg (by omega),h2]
      simp only
      rw [if_pos ⟨trivial,trivial,h3.symm⟩]
      have hbl : b < s.heap.length := (List.getElem?_eq_some_iff.1 h2).1
      refine ⟨_,_,rfl,.inr ⟨s.heap.length,len + m,rfl,hN,?_,by rw [List.length_append,h3,hlen,Nat.add_mul],by omega⟩,⟨by simp [St.push,St.putB],fun c hc => ?_⟩⟩
      · have : s.heap.length = (s.putB b (.row n cells .dead)).heap.length := by simp [St.putB]
        rw [this]
        exact AE
      · simp only [St.push,St.putB]
        rw [List.getElem?_append_left (by simp; omega),List.getElem?_set_ne (by omega)]
theorem Gf {N n w : Nat} {s : St} {x y : Value} {cells new : List Value} (h : Own N n s x cells) (hN : N ≤ s.heap.length) (hw : 0 < w) (hn : 0 < n) {m : Nat} (hm : lenV y = some m) (hnew : EW n y s = some new) (hlen : new.length = m * n) (hb : (cells.length + new.length) * w ≤ 140737488355328 * n) :
    ∃ v' s',AD n w x y s = some (v',s') ∧ Own N n s' v' (cells ++ new) ∧ Ext N s s' :=
  T9 h hN hw hn hm hnew hlen fun q hq => .inl (by
    rw [← hq,Nat.mul_right_comm] at hb
    exact Nat.le_of_mul_le_mul_right hb hn)
theorem XC {N n w : Nat} {s : St} {x : Value} {cells z : List Value} {v : Value} (h : Own N n s x cells) (hN : N ≤ s.heap.length) (hw : 0 < w) (hn : 0 < n) (hn2 : n ≤ 16777216) (hz : z.length = n) (hzl : z.all AH = true) (hv : (An v).length = n) (hvl : (An v).all AH = true)
    (hb : (cells.length + n) * w ≤ 140737488355328 * n) : ∃ r,Ar n z 1 [(0,v)] s = some r ∧ ∃ v' s',AD n w x r.1 r.2 = some (v',s') ∧ Own N n s' v' (cells ++ An v) ∧ Ext N s s' := by
  have h1 : Ar n z 1 [(0,v)] s = some (.slice (some ⟨s.heap.length,0,none⟩) 1 1,s.push (.row n (An v) .act)) := by
    have hrep : A3 z 1 = z := by simp [A3]
    have hput : AB z 0 (An v) = An v := by
      simp [AB,hv,hz]
    unfold Ar
    rw [if_pos ⟨by omega,hz,hzl⟩]
    simp only [hrep,Iz,Ly,Nat.zero_mul]
    rw [if_pos ⟨hv,by omega,hvl⟩,hput]
    rfl
  refine ⟨_,h1,?_⟩
  have hE : Ext N s (s.push (.row n (An v) .act)) := .push N hN _
  have hcells : cellsOf n (.slice (some ⟨s.heap.length,0,none⟩) 1 1) (s.push (.row n (An v) .act)) = some (An v) := by
    simp only [cellsOf,Nat.le_refl,if_true,readN,Ab.readRow,AE,Option.bind_some]
    rw [if_pos (by omega),List.drop_zero,Nat.one_mul,← hv,List.take_length]
  have hO : Own N n (s.push (.row n (An v) .act)) x cells := by
    rcases h with h | ⟨b,len,e1,e2,e3,e4,e5⟩
    · exact .inl h
    · exact .inr ⟨b,len,e1,e2,by rw [C4 (List.getElem?_eq_some_iff.1 e3).1]; exact e3,e4,e5⟩
  obtain ⟨v',s',g1,g2,g3⟩ := Gf (w := w) hO (by rw [AJ]; omega) hw hn (y := .slice (some ⟨s.heap.length,0,none⟩) 1 1) (m := 1) rfl (M7 hcells) (by omega) (by rw [hv]; exact hb)
  exact ⟨v',s',g1,g2,hE.trans g3⟩
theorem XD {len : Nat} {k : IntKind} {i : Nat} (h : i < len) : GA len 1 lptr (.int k (i : Int)) = some (.pointer (some ⟨0,i,none⟩)) := by
  simp [GA,lptr,h]
theorem Zdw {i n : Nat} {cs : List Value} {v : Value} (h : cs[i]? = some v) : Ao false n (.pointer (some ⟨0,i,none⟩)) (.agg cs.toArray) = some v := by
  simp [Ao,h]
theorem Zbh {i : Nat} {cs : List Value} {v : Value} (hi : i < cs.length) (hv : AH v = true) (hc : An v = [v]) : AN 1 (.pointer (some ⟨0,i,none⟩)) v (.agg cs.toArray) = some (.agg (cs.set i v).toArray) := by
  have h : AB cs i [v] = cs.set i v := by
    unfold AB
    rw [List.set_eq_take_append_cons_drop,if_pos hi]
    simp
  unfold AN
  simp only [hc,List.length_singleton,List.all_cons,hv,List.all_nil,Bool.and_self,true_and]
  rw [if_pos (by simp; omega)]
  simp [h]
theorem Jq {n : Nat} {cs : List Value} (h : cs.length = n) : Ao true n lptr (.agg cs.toArray) = some (.agg cs.toArray) := by
  subst h
  unfold Ao lptr
  simp
theorem K3 {n : Nat} {cs ds : List Value} (h : cs.length = n) (g : ds.length = n) (hl : ds.all AH = true) : AN n lptr (.agg ds.toArray) (.agg cs.toArray) = some (.agg ds.toArray) := by
  subst h
  have h2 : AB cs 0 ds = ds := by simp [AB,g]
  have h3 : An (.agg ds.toArray) = ds := by simp [An]
  unfold AN lptr
  simp only [h3]
  rw [if_pos ⟨g,hl,by simp⟩]
  simp [h2]
theorem XE {cs : List Value} (h : cs.all AH = true) : lbox (.agg cs.toArray) = some (.agg cs.toArray) := by
  have h3 : An (.agg cs.toArray) = cs := by simp [An]
  unfold lbox
  rw [h3,if_pos h]
abbrev Sum := List Value → St → Option (Value × St)
def libL : List (FuncId × Sum) → Lib
  | [],_ => none
  | (g,h) :: l,f => if f = g then some h else libL l f
theorem SG (P : Program) : Br P (libL []) := fun _ _ h => by cases h
theorem Ax {P : Program} {Ad : Hd} (hprog : QR P = true) {l : List (FuncId × Sum)} (hl : Br P (libL l)) {f : FuncId} {g : Sum} (hok : Ap P f = true) (hg : BM P (libL l) Ad f g) : Br P (libL ((f,g) :: l)) :=
  ZbY hprog hl hok hg fun _ => rfl
theorem Bq {P : Program} {lib : Lib} {Ad : Hd} {f : FuncId} {g : Sum} (h : lib f = some g) {xs : List Value} {s : St} : run P lib Ad f xs s = g xs s := ZbX h
def Af (l : List UInt8) (s : St) : Value × St := (.slice (some ⟨s.heap.length,0,none⟩) l.length l.length,s.push (.row 1 (bv l) .act))
def FE : Value → Bool
  | .tuple a => a.toList.all Bb
  | v => Bb v
theorem BM.plain {P : Program} {lib : Lib} {Ad : Hd} {f : FuncId} {G : List Value → St → Option Value} (h : ∀ args s v,G args s = some v → FE v = true ∧ ∃ t0,run P lib Ad f args (frzS s) = some (v,t0)) :
    BM P lib Ad f fun args s => (G args s).map fun v => (v,s) := by
  intro args s v t hg
  simp only [Option.map_eq_some_iff] at hg
  obtain ⟨u,hu,e⟩ := hg
  cases e
  obtain ⟨h1,t0,h2⟩ := h args s v hu
  refine ⟨[],v,t0,fun _ => 0,by simp,h2,.pure ?_⟩
  cases v with
  | tuple a =>
    have := Vw.tup (ρ := Jn s.heap.length fun _ => 0) (D := s.heap.length) (l := a.toList) h1
    simpa using this
  | _ => exact Vw.const h1
theorem BM.bytes {P : Program} {lib : Lib} {Ad : Hd} {f : FuncId} {G : List Value → St → Option (List UInt8)} (h : ∀ args s l,G args s = some l → l ≠ [] ∧ ∃ v0 t0,run P lib Ad f args (frzS s) = some (v0,t0) ∧ Own s.heap.length 1 t0 v0 (bv l)) :
    BM P lib Ad f fun args s => (G args s).map fun l => Af l s := by
  intro args s v t hg
  simp only [Option.map_eq_some_iff] at hg
  obtain ⟨l,hl,e⟩ := hg
  cases e
  obtain ⟨hne,v0,t0,h2,h3⟩ := h args s l hl
  rcases h3 with ⟨_,h3⟩ | ⟨b,len,rfl,h4,h5,h6,h7⟩
  · exact absurd (SE (m := []) h3) hne
  · rw [AX,Nat.mul_one] at h6
    subst h6
    exact ⟨_,_,t0,_,rfl,h2,.row h4 h5 (fun _ _ h => h) T7 (Vw.slice (Nat.le_refl _) (Nat.le_refl _))⟩
theorem SH {l : List UInt8} {s : St} : DX s (Af l (frzS s)) = Af l s := by
  have := Ch s
  simp [DX,Af,St.push,this]
theorem Wh {l : List UInt8} {s : St} : DX s ((Af l (frzS s)).1,(Af l (frzS s)).2) = Af l s := SH
theorem Bk {l : List UInt8} {s : St} : bytesOf (Af l s).1 (Af l s).2 = some l := by
  unfold bytesOf Af
  simp only [cellsOf,Nat.le_refl,if_true,readN,Ab.readRow,AE,Option.bind_some,Nat.mul_one,Nat.zero_add,AX]
  rw [List.drop_zero,← AX,List.take_length]
  exact SF l
theorem CX {N : Nat} {l : List UInt8} {s : St} (h : N ≤ s.heap.length) (hl : l ≠ []) : Own N 1 (Af l s).2 (Af l s).1 (bv l) :=
  .inr ⟨s.heap.length,l.length,rfl,h,AE,by rw [AX,Nat.mul_one],List.length_pos_iff.2 hl⟩
theorem A4 {N : Nat} {l : List UInt8} {s : St} (h : N ≤ s.heap.length) : Ext N s (Af l s).2 := .push N h _
theorem EVs : (type_of% @Va) ∧ (type_of% @Zdm) ∧ (type_of% @BT) ∧ (type_of% @CU) ∧ (type_of% @Dh) ∧ (type_of% @DD) ∧ (type_of% @J9) ∧ (type_of% @LP) ∧ (type_of% @Xs) ∧ (type_of% @Xt) ∧ (type_of% @Zbd) ∧ (type_of% @Zbe) ∧ (type_of% @Xu) ∧ (type_of% @Xv) ∧ (type_of% @Xw) ∧ (type_of% @CV) ∧ (type_of% @Es) ∧ (type_of% @Sy) ∧ (type_of% @CW) ∧ (type_of% @Ed) ∧ (type_of% @Sz) ∧ (type_of% @Vb) ∧ (type_of% @HH) ∧ (type_of% @E5) ∧ (type_of% @Vc) ∧ (type_of% @Xx) ∧ (type_of% @KZ) ∧ (type_of% @B6) ∧ (type_of% @Qa) ∧ (type_of% @Zbf) ∧ (type_of% @Qb) ∧ (type_of% @We) ∧ (type_of% @Wf) ∧ (type_of% @Zdn) ∧ (type_of% @Zb0) ∧ (type_of% @Mg) ∧ (type_of% @Pe) ∧ (type_of% @Zdp) ∧ (type_of% @Et) ∧ (type_of% @Zdq) ∧ (type_of% @LQ) ∧ (type_of% @Zdr) ∧ (type_of% @Zb1) ∧ (type_of% @SA) ∧ (type_of% @Vd) := ⟨@Va,@Zdm,@BT,@CU,@Dh,@DD,@J9,@LP,@Xs,@Xt,@Zbd,@Zbe,@Xu,@Xv,@Xw,@CV,@Es,@Sy,@CW,@Ed,@Sz,@Vb,@HH,@E5,@Vc,@Xx,@KZ,@B6,@Qa,@Zbf,@Qb,@We,@Wf,@Zdn,@Zb0,@Mg,@Pe,@Zdp,@Et,@Zdq,@LQ,@Zdr,@Zb1,@SA,@Vd⟩
end Go.Proofs.YtmbhnbladmpnoaaGreat.Ab

/- Lists of plain things,in a slice: of so many cells each. -/
namespace Go.Proofs.YtmbhnbladmpnoaaGreat.Ab
open Go
structure Cod (α : Type) where
  n : Nat
  enc : α → List Value
  pos : 0 < n
  len : ∀ a,(enc a).length = n
  inj : ∀ a b,enc a = enc b → a = b
  leaf : ∀ a,(enc a).all AZ = true
section
variable {α : Type} (C : Cod α)
def encL (l : List α) : List Value := l.flatMap C.enc
theorem Ee (a : α) (l : List α) : encL C (a :: l) = C.enc a ++ encL C l := rfl
theorem C5 : ∀ (l : List α),(encL C l).length = l.length * C.n
  | [] => by simp [encL]
  | a :: l => by rw [Ee,List.length_append,C.len,C5 l,List.length_cons,Nat.add_mul]; omega
theorem NS : ∀ (l : List α) (i : Nat),(encL C l).drop (i * C.n) = encL C (l.drop i)
  | l,0 => by simp
  | [],i + 1 => by simp [encL]
  | a :: l,i + 1 => by
    rw [Ee,show (i + 1) * C.n = C.n + i * C.n by rw [Nat.add_mul]; omega,← List.drop_drop,List.drop_left' (C.len a),NS l i,List.drop_succ_cons]
theorem Ve : ∀ {l m : List α},encL C l = encL C m → l = m
  | [],[],_ => rfl
  | [],a :: m,h => by
    have h1 := congrArg List.length h
    rw [C5,C5,List.length_cons,Nat.add_mul] at h1
    have := C.pos
    simp only [List.length_nil,Nat.zero_mul] at h1
    omega
  | a :: l,[],h => by
    have h1 := congrArg List.length h
    rw [C5,C5,List.length_cons,Nat.add_mul] at h1
    have := C.pos
    simp only [List.length_nil,Nat.zero_mul] at h1
    omega
  | a :: l,b :: m,h => by
    rw [Ee,Ee] at h
    have h1 := (List.append_inj h (by rw [C.len,C.len])).1
    have h2 := (List.append_inj h (by rw [C.len,C.len])).2
    rw [C.inj _ _ h1,Ve h2]
open Classical in
noncomputable def decL (cs : List Value) : Option (List α) := if h : ∃ l,cs = encL C l then some (Classical.choose h) else none
theorem ZG (l : List α) : decL C (encL C l) = some l := by
  unfold decL
  have h : ∃ m,encL C l = encL C m := ⟨l,rfl⟩
  rw [dif_pos h]
  congr 1
  exact (Ve C (Classical.choose_spec h)).symm
theorem XF {cs : List Value} {l : List α} (h : decL C cs = some l) : cs = encL C l := by
  unfold decL at h
  split at h
  · rename_i hh
    cases h
    exact Classical.choose_spec hh
  · cases h
noncomputable def Bm (v : Value) (s : St) : Option (List α) := (cellsOf C.n v s).bind (decL C)
theorem Cl {v : Value} {s : St} {l : List α} : Bm C v s = some l ↔ cellsOf C.n v s = some (encL C l) := by
  unfold Bm
  constructor
  · intro h
    simp only [Option.bind_eq_some_iff] at h
    obtain ⟨cs,h1,h2⟩ := h
    rw [h1,XF C h2]
  · intro h
    rw [h]
    exact ZG C l
variable {C}
theorem ZH {v : Value} {s : St} : Bm C v (frzS s) = Bm C v s := by unfold Bm; rw [Jp]
theorem Wi {v : Value} {s : St} {l : List α} (h : Bm C v s = some l) : ∃ a cap,v = .slice a l.length cap := by
  obtain ⟨a,len,cap,rfl,h2⟩ := E6 ((Cl C).1 h)
  rw [C5] at h2
  have := C.pos
  have : len = l.length := (Nat.eq_of_mul_eq_mul_right this h2).symm
  subst this
  exact ⟨a,cap,rfl⟩
theorem DM {v : Value} {s s2 : St} {l : List α} (h : Bm C v s = some l) {e : TypeId} : AP (.slice e) v s2 = some (.int .i64 ((l.length : Nat) : Int)) := by
  obtain ⟨a,cap,rfl⟩ := Wi h
  rfl
theorem Vf (s : St) : Bm C (.slice none 0 0) s = some [] := (Cl C).2 rfl
theorem QV {v : Value} {s : St} {l : List α} (h : Bm C v s = some l) {i : Nat} (hi : i < l.length) {k : IntKind} {n : Nat} (hn : n = C.n) : ∃ p,AC n v (.int k (i : Int)) = some p ∧ Aq true n p s = some (.agg (C.enc l[i]).toArray) := by
  subst hn
  have hc := (Cl C).1 h
  have hle : (i + 1) * C.n ≤ (encL C l).length := by rw [C5]; exact Nat.mul_le_mul_right _ hi
  obtain ⟨p,h1,_,h3⟩ := M6 hc C.pos hle (k := k)
  refine ⟨p,h1,?_⟩
  rw [h3]
  congr 2
  rw [NS]
  have : l.drop i = l[i] :: l.drop (i + 1) := by rw [List.getElem_cons_drop]
  rw [this,Ee,List.take_left' (C.len _)]
theorem Gg {v : Value} {s : St} {l : List α} (h : Bm C v s = some l) {i j : Nat} (hi : i < l.length) {c : Value} (hc : (C.enc l[i])[j]? = some c) {k : IntKind} {n : Nat} (hn : n = C.n) : ∃ p,AC n v (.int k (i : Int)) = some p ∧ ∃ q,Ac j p = some q ∧ Aq false 1 q s = some c := by
  subst hn
  have hcs := (Cl C).1 h
  unfold cellsOf at hcs
  split at hcs
  · have := congrArg (Option.map List.length) hcs
    simp only [Option.map_some,List.length_nil,C5,Option.some.injEq] at this
    have h2 := C.pos
    have h3 : 0 < l.length * C.n := Nat.mul_pos (by omega) h2
    omega
  · rename_i b o len cap
    split at hcs
    case isFalse => cases hcs
    obtain ⟨row,h1,h2,h3⟩ := Ge hcs
    have hlen : len = l.length := by
      have := congrArg List.length h3
      rw [C5] at this
      simp at this
      have h4 := C.pos
      have h5 : len * C.n = l.length * C.n := by omega
      exact Nat.eq_of_mul_eq_mul_right h4 h5
    subst hlen
    refine ⟨.pointer (some ⟨b,o + i * C.n,none⟩),by simp [AC,hi],.pointer (some ⟨b,o + i * C.n + j,none⟩),rfl,?_⟩
    simp only [Aq,h1,Option.bind_some,Bool.false_eq_true,if_false]
    have hj : j < C.n := by
      have := (List.getElem?_eq_some_iff.1 hc).1
      rw [C.len] at this
      exact this
    have h4 : (encL C l)[i * C.n + j]? = some c := by
      rw [← List.getElem?_drop,NS]
      have : l.drop i = l[i] :: l.drop (i + 1) := by rw [List.getElem_cons_drop]
      rw [this,Ee,List.getElem?_append_left (by rw [C.len]; exact hj)]
      exact hc
    have h6 : i * C.n + C.n ≤ l.length * C.n := by rw [← Nat.succ_mul]; exact Nat.mul_le_mul_right _ hi
    rw [h3,List.getElem?_take_of_lt (by omega),List.getElem?_drop] at h4
    rw [Nat.add_assoc]
    exact h4
  · cases hcs
def OwnC (C : Cod α) (N : Nat) (s : St) (v : Value) (l : List α) : Prop :=
  (v = .slice none 0 0 ∧ l = []) ∨ ∃ b cap rest,v = .slice (some ⟨b,0,none⟩) l.length cap ∧ N ≤ b ∧ s.heap[b]? = some (.row C.n (encL C l ++ rest) .act) ∧ (encL C l ++ rest).length = cap * C.n ∧ rest.all AZ = true
theorem OwnC.cap_le {N : Nat} {s : St} {b len cap : Nat} {rest : List Value} {l : List α} (h : (encL C l ++ rest).length = cap * C.n) : l.length ≤ cap := by
  rw [List.length_append,C5] at h
  have := C.pos
  exact Nat.le_of_mul_le_mul_right (by omega : l.length * C.n ≤ cap * C.n) this
theorem OwnC.list {N : Nat} {s : St} {v : Value} {l : List α} (h : OwnC C N s v l) : Bm C v s = some l := by
  rcases h with ⟨rfl,rfl⟩ | ⟨b,cap,rest,rfl,h1,h2,h3,_⟩
  · exact Vf s
  · refine (Cl C).2 ?_
    have hle := OwnC.cap_le (N := N) (s := s) (b := b) (len := l.length) h3
    simp only [cellsOf,if_pos hle]
    unfold readN Ab.readRow
    rw [h2]
    simp only [Option.bind_some]
    have e : (encL C l).length = l.length * C.n := C5 C l
    rw [if_pos (by rw [List.length_append]; omega),List.drop_zero,← e,List.take_left]
theorem Ua {l : List Value} (h : l.all AZ = true) : l.all AH = true := by
  rw [List.all_eq_true] at h ⊢
  intro v hv
  have := h v hv
  cases v <;> first | rfl | (simp [AZ] at this)
end
end Go.Proofs.YtmbhnbladmpnoaaGreat.Ab

/- A law's arguments in memory: lists of plain things. -/
namespace Go.Proofs.YtmbhnbladmpnoaaGreat.Ab
open Go Go.ChangeShapes Go.WideShapes
theorem NT {α : Type} {p : Nat → α → Prop} : ∀ n,(∀ i,i < n → ∃ a,p i a) → ∃ l : List α,l.length = n ∧ ∀ (i : Nat) (h : i < l.length),p i l[i]
  | 0,_ => ⟨[],rfl,fun i h => by simp at h⟩
  | n + 1,h => by
    obtain ⟨l,h1,h2⟩ := NT n fun i hi => h i (by omega)
    obtain ⟨a,ha⟩ := h n (by omega)
    refine ⟨l ++ [a],by simp [h1],fun i hi => ?_⟩
    by_cases c : i < l.length
    · rw [List.getElem_append_left c]
      exact h2 i c
    · have : i = n := by simp at hi; omega
      subst this
      rw [List.getElem_append_right (by omega)]
      simpa [h1] using ha
theorem XG (x : Addr) (a b : Nat) : (x.add a).add b = x.add (a + b) := by
  unfold Addr.add
  split <;> split <;> simp_all <;> omega
end Go.Proofs.YtmbhnbladmpnoaaGreat.Ab

/- A law's arguments that hold others: slices in slices,structs of slices. How each thing lies in cells,and in what these point to; that an argument is such a thing. -/
namespace Go.Proofs.YtmbhnbladmpnoaaGreat.Ab
open Go Go.ChangeShapes Go.WideShapes
structure NCod (α : Type) where
  n : Nat
  rel : α → St → List Value → Prop
  len : ∀ {a s cs},rel a s cs → cs.length = n
  ext : ∀ {a s t cs},rel a s cs → Ext s.heap.length s t → rel a t cs
def Cm {α : Type} (C : NCod α) (B : Nat) (l : List α) (s : St) (v : Value) : Prop :=
  l.length * B ≤ reachBytes ∧ ((v = .slice none 0 0 ∧ l = []) ∨ ∃ (b : Nat) (css : List (List Value)) (st : Stat) (k : Nat),v = .slice (some ⟨b,0,none⟩) l.length l.length ∧ s.heap[b]? = some (.row k css.flatten st) ∧ st ≠ .dead ∧ All2 (fun a c => C.rel a s c) l css)
namespace NCod
def ofC {α : Type} (C : Cod α) (Pr : α → Prop) : NCod α where
  n := C.n
  rel a s cs := cs = C.enc a ∧ Pr a
  len h := by rw [h.1]; exact C.len _
  ext h _ := h
def list {α : Type} (C : NCod α) (B : Nat) : NCod (List α) where
  n := 1
  rel l s cs := ∃ v,cs = [v] ∧ Cm C B l s v
  len h := by obtain ⟨v,rfl,_⟩ := h; rfl
  ext h hx := by
    obtain ⟨v,rfl,h1,h2⟩ := h
    refine ⟨v,rfl,h1,?_⟩
    rcases h2 with h2 | ⟨b,css,st,k,g1,g2,g3,g4⟩
    · exact .inl h2
    · exact .inr ⟨b,css,st,k,g1,by rw [hx.2 b (List.getElem?_eq_some_iff.1 g2).1]; exact g2,g3,g4.mono fun a c h => C.ext h hx⟩
def unit : NCod Unit where
  n := 0
  rel _ _ cs := cs = []
  len h := by rw [h]; rfl
  ext h _ := h
def pair {α β : Type} (A : NCod α) (B : NCod β) : NCod (α × β) where
  n := A.n + B.n
  rel p s cs := ∃ c d,cs = c ++ d ∧ A.rel p.1 s c ∧ B.rel p.2 s d
  len h := by obtain ⟨c,d,rfl,h1,h2⟩ := h; rw [List.length_append,A.len h1,B.len h2]
  ext h hx := by obtain ⟨c,d,rfl,h1,h2⟩ := h; exact ⟨c,d,rfl,A.ext h1 hx,B.ext h2 hx⟩
def map {α β : Type} (A : NCod α) (f : β → α) : NCod β where
  n := A.n
  rel b s cs := A.rel (f b) s cs
  len h := A.len h
  ext h hx := A.ext h hx
end NCod
def OpensAt {α : Type} (W : World) (C : NCod α) (cs : List Value) : Prop := ∀ (ι : Emb) (H : List Blk),Sim W.heap.size ι H W → H.all roB = true →
  ∃ (a : α) (K : List Blk) (κ : Emb) (cs' : List Value),ι.le κ ∧ Sim W.heap.size κ (H ++ K) W ∧ (H ++ K).all roB = true ∧ All2 (L2 κ) cs' cs ∧ C.rel a ⟨H ++ K⟩ cs'
def Fo {α : Type} (P : Program) (C : NCod α) (t : TypeId) : Prop := ∀ (Hn : Type) (enc : TypeId × Value → Hn) (W : World) (n : Nat) (cs : List Value) (y : DataW Hn × List MemPlace),DataW.trod enc P W 0 (fun _ => true) true n t cs = some y → (∀ k ∈ y.1.weights P t,k ≤ reachBytes) → OpensAt W C cs
theorem ER {α : Type} {W : World} {C : Cod α} {Pr : α → Prop} {cs : List Value} (h : ∃ a,cs = C.enc a ∧ Pr a) : OpensAt W (.ofC C Pr) cs := by
  obtain ⟨a,rfl,hp⟩ := h
  intro ι H hs hro
  exact ⟨a,[],ι,C.enc a,.refl _,by rw [List.append_nil]; exact hs,by rw [List.append_nil]; exact hro,Dt (C.leaf a),rfl,hp⟩
theorem XH {α β : Type} {W : World} {A : NCod α} {f : β → α} {g : α → β} (hfg : ∀ a,f (g a) = a) {cs : List Value} (h : OpensAt W A cs) : OpensAt W (A.map f) cs := by
  intro ι H hs hro
  obtain ⟨a,K,κ,cs',h1,h2,h3,h4,h5⟩ := h ι H hs hro
  exact ⟨g a,K,κ,cs',h1,h2,h3,h4,by show A.rel (f (g a)) _ _; rw [hfg]; exact h5⟩
theorem Wj {W : World} : OpensAt W .unit [] := by
  intro ι H hs hro
  exact ⟨(),[],ι,[],.refl _,by rw [List.append_nil]; exact hs,by rw [List.append_nil]; exact hro,trivial,rfl⟩
theorem K4 (H K : List Blk) : Ext H.length ⟨H⟩ ⟨H ++ K⟩ := ⟨by simp,fun b hb => by simp only; rw [List.getElem?_append_left hb]⟩
theorem Wk {α β : Type} {W : World} {A : NCod α} {B : NCod β} {c d : List Value} (h : OpensAt W A c) (g : OpensAt W B d) : OpensAt W (A.pair B) (c ++ d) := by
  intro ι H hs hro
  obtain ⟨a,K,κ,c',h1,h2,h3,h4,h5⟩ := h ι H hs hro
  obtain ⟨b,K2,κ2,d',g1,g2,g3,g4,g5⟩ := g κ (H ++ K) h2 h3
  refine ⟨(a,b),K ++ K2,κ2,c' ++ d',h1.trans g1,by rw [← List.append_assoc]; exact g2,by rw [← List.append_assoc]; exact g3,(h4.mono fun _ _ h => h.mono g1).append g4,c',d',rfl,?_,by rw [← List.append_assoc]; exact g5⟩
  rw [← List.append_assoc]
  exact A.ext h5 (K4 _ _)
theorem Qd {α : Type} {W : World} {C : NCod α} : ∀ (ls : List (List Value)),(∀ c ∈ ls,OpensAt W C c) → ∀ (ι : Emb) (H : List Blk),Sim W.heap.size ι H W → H.all roB = true →
    ∃ (l : List α) (K : List Blk) (κ : Emb) (css : List (List Value)),ι.le κ ∧ Sim W.heap.size κ (H ++ K) W ∧ (H ++ K).all roB = true ∧ All2 (L2 κ) css.flatten ls.flatten ∧ All2 (fun a c => C.rel a ⟨H ++ K⟩ c) l css ∧ l.length = ls.length
  | [],_,ι,H,hs,hro => ⟨[],[],ι,[],.refl _,by rw [List.append_nil]; exact hs,by rw [List.append_nil]; exact hro,trivial,trivial,rfl⟩
  | c :: ls,h,ι,H,hs,hro => by
    obtain ⟨a,K,κ,c',h1,h2,h3,h4,h5⟩ := h c (List.mem_cons_self ..) ι H hs hro
    obtain ⟨l,K2,κ2,css,g1,g2,g3,g4,g5,g6⟩ := Qd ls (fun x hx => h x (List.mem_cons_of_mem _ hx)) κ (H ++ K) h2 h3
    refine ⟨a :: l,K ++ K2,κ2,c' :: css,h1.trans g1,by rw [← List.append_assoc]; exact g2,by rw [← List.append_assoc]; exact g3,?_,⟨?_,?_⟩,by simp [g6]⟩
    · rw [List.flatten_cons,List.flatten_cons]
      exact (h4.mono fun _ _ h => h.mono g1).append g4
    · rw [← List.append_assoc]
      exact C.ext h5 (K4 _ _)
    · rw [← List.append_assoc]
      exact g5
theorem NU {Hn : Type} {P : Program} {e : TypeId} : ∀ {l : List (DataW Hn)} {d : DataW Hn},d ∈ l → ∀ k ∈ d.weights P e,k ∈ DataW.weightsAll P e l
  | x :: l,d,h,k,hk => by
    simp only [DataW.weightsAll,List.mem_append]
    rcases List.mem_cons.1 h with rfl | h
    · exact .inl hk
    · exact .inr (NU h k hk)
theorem Ii {α : Type} {P : Program} {C : NCod α} {t e : TypeId} {B : Nat} (hu : P.underlying t = some (.slice e)) (hc : P.cellsOf e = C.n) (hpos : 0 < C.n) (hB : P.bytesOf e = B) (h : Fo P C e) : Fo P (C.list B) t := by
  intro Hn enc W n cs y hy hw ι H hs hro
  rcases DataW.trod_slice hu hy with ⟨rfl,rfl⟩ | ⟨x,len,cap,elems,rest,m,_,rfl,rfl,_,hle,hm,hlen,he,hsp,_⟩
  · exact ⟨[],[],ι,[.slice none 0 0],.refl _,by rw [List.append_nil]; exact hs,by rw [List.append_nil]; exact hro,⟨.l1 (.l0 .snil),trivial⟩,_,rfl,by simp,.inl ⟨rfl,rfl⟩⟩
  · obtain ⟨hr1,hr2⟩ := hsp rfl
    have hwt : (elems.length + rest.length) * B ≤ reachBytes := by
      have := hw ((elems.length + rest.length) * P.bytesOf e) (by simp [DataW.weights,hu])
      rwa [hB] at this
    have hwe : ∀ z ∈ elems,∀ k ∈ z.1.weights P e,k ≤ reachBytes := fun z hz k hk => hw k (by
      simp only [DataW.weights,hu,List.mem_cons,List.mem_append]
      exact .inr (.inl (NU (List.mem_map_of_mem (f := (·.1)) hz) k hk)))
    have each : ∀ i,i < len → ∃ c z,W.cells? 0 (x.add (i * C.n)) C.n = some c ∧ OpensAt W C c := fun i hi => by
      have h1 := he i hi
      rw [List.getElem?_eq_getElem (by omega),hc,Option.bind_eq_some_iff] at h1
      obtain ⟨c,h2,h3⟩ := h1
      exact ⟨c,c,h2,h Hn enc W m c _ h3 (hwe _ (List.getElem_mem _))⟩
    obtain ⟨ls,hl1,hl2⟩ := NT (α := List Value) (p := fun i c => W.cells? 0 (x.add (i * C.n)) C.n = some c ∧ OpensAt W C c) len fun i hi => by
      obtain ⟨c,_,h1,h2⟩ := each i hi
      exact ⟨c,h1,h2⟩
    obtain ⟨l,K,κ,css,k1,k2,k3,k4,k5,k6⟩ := Qd ls (fun c hc2 => by
      obtain ⟨i,hi,rfl⟩ := List.getElem_of_mem hc2
      exact (hl2 i hi).2) ι H hs hro
    have hcell : ∀ i,i < cap → ∃ v,W.cell? (x.add i) = some v := fun i hi => by
      have hq : i / C.n < cap := Nat.lt_of_le_of_lt (Nat.div_le_self _ _) hi
      have hj : i % C.n < C.n := Nat.mod_lt _ hpos
      have hsplit : i = i / C.n * C.n + i % C.n := by
        have := Nat.div_add_mod i C.n
        rw [Nat.mul_comm] at this
        exact this.symm
      have key : ∃ c,W.cells? 0 (x.add (i / C.n * C.n)) C.n = some c := by
        by_cases c : i / C.n < len
        · exact ⟨_,(hl2 _ (by omega)).1⟩
        · have := hr2 (i / C.n - len) (by omega)
          rw [show len + (i / C.n - len) = i / C.n by omega,List.getElem?_eq_getElem (by omega),hc,Option.bind_eq_some_iff] at this
          obtain ⟨c,h2,_⟩ := this
          exact ⟨c,h2⟩
      obtain ⟨c,hcc⟩ := key
      obtain ⟨_,h5,h6⟩ := World.cells?_some hcc
      have h7 := h6 _ hj
      rw [XG,← hsplit] at h7
      rw [h7]
      exact ⟨_,List.getElem?_eq_getElem (by omega)⟩
    have hflat : ∀ (ls : List (List Value)) (o : Nat),(∀ (i : Nat) (hi : i < ls.length),W.cells? 0 (x.add ((o + i) * C.n)) C.n = some ls[i]) → ∀ i v,ls.flatten[i]? = some v → W.cell? (x.add (o * C.n + i)) = some v := by
      intro ls
      induction ls with
      | nil => intro o _ i v hv; simp at hv
      | cons c ls ih =>
        intro o ho i v hv
        obtain ⟨_,h5,h6⟩ := World.cells?_some (ho 0 (by simp))
        rw [List.flatten_cons] at hv
        by_cases c1 : i < c.length
        · rw [List.getElem?_append_left c1] at hv
          have := h6 i (by simp at h5; omega)
          rw [XG,Nat.add_zero] at this
          rw [this]
          exact hv
        · rw [List.getElem?_append_right (by omega)] at hv
          have := ih (o + 1) (fun i hi => by
            have := ho (i + 1) (by simp; omega)
            rw [show o + 1 + i = o + (i + 1) by omega]
            simpa using this) _ v hv
          simp only [List.getElem_cons_zero] at h5
          rw [h5,Nat.add_mul,Nat.one_mul] at this
          rwa [show o * C.n + C.n + (i - C.n) = o * C.n + i by omega] at this
    have hfl := hflat ls 0 (fun i hi => by rw [Nat.zero_add]; exact (hl2 i hi).1)
    obtain ⟨κ2,r1,r2,r3,r4⟩ := ZbZ k2 k3 (cells := css.flatten) (.inr ⟨x,rfl,hle,hcell,fun i v hv => by
      obtain ⟨v',g1,g2⟩ := k4.get i v hv
      refine ⟨v',?_,g2⟩
      have := hfl i v' g1
      rwa [Nat.zero_mul,Nat.zero_add] at this⟩)
    have hll : l.length = len := by rw [k6,hl1]
    refine ⟨l,K ++ [.row 0 css.flatten .ro],κ2,[U9 (H ++ K).length (some x) len],k1.trans r1,by rw [← List.append_assoc]; exact r2,by rw [← List.append_assoc]; exact r3,⟨?_,trivial⟩,_,rfl,?_,.inr ⟨(H ++ K).length,css,.ro,0,?_,?_,by simp,?_⟩⟩
    · cases r4 with
      | va r4 => cases r4 with
        | l2 r4 => exact r4
    · rw [hll]
      exact Nat.le_trans (Nat.mul_le_mul_right _ (by omega)) hwt
    · rw [hll]; rfl
    · rw [← List.append_assoc]
      simp
    · rw [← List.append_assoc]
      exact All2.mono (R := fun a c => C.rel a ⟨H ++ K⟩ c) (fun a c h => C.ext (s := ⟨H ++ K⟩) h (K4 (H ++ K) _)) k5
def Vg {α : Type} (P : Program) (C : NCod α) (fs : List Field) (off : Nat) : Prop := ∀ (Hn : Type) (enc : TypeId × Value → Hn) (W : World) (n : Nat) (cs : List Value) (xs : List (DataW Hn × List MemPlace)),cs.length = off + C.n → xs.length = fs.length →
  (∀ (i : Nat) (f : Field),fs[i]? = some f → DataW.trod enc P W 0 (fun _ => true) true n f.type ((cs.drop f.offset).take (P.cellsOf f.type)) = xs[i]?) → (∀ k ∈ DataW.weightsEach P (fs.map (·.type)) (xs.map (·.1)),k ≤ reachBytes) → OpensAt W C (cs.drop off)
theorem K5 {P : Program} {off : Nat} : Vg P .unit [] off := by
  intro Hn enc W n cs xs hl _ _ _
  have : cs.drop off = [] := List.drop_eq_nil_of_le (by rw [hl]; exact Nat.le_refl _)
  rw [this]
  exact Wj
theorem AQ {α β : Type} {P : Program} {A : NCod α} {B : NCod β} {f : Field} {fs : List Field} {off : Nat} (ho : f.offset = off) (hn : P.cellsOf f.type = A.n) (h : Fo P A f.type) (g : Vg P B fs (off + A.n)) : Vg P (A.pair B) (f :: fs) off := by
  intro Hn enc W n cs xs hl hx hf hw
  cases xs with
  | nil => simp at hx
  | cons x xs =>
    have h0 := hf 0 f rfl
    rw [ho,hn] at h0
    have hA := h Hn enc W n _ x h0 fun k hk => hw k (by simp only [List.map_cons,DataW.weightsEach,List.mem_append]; exact .inl hk)
    have hl2 : (A.pair B).n = A.n + B.n := rfl
    have hB := g Hn enc W n cs xs (by rw [hl,hl2]; omega) (by simpa using hx) (fun i f' hi => by have := hf (i + 1) f' (by simpa using hi); simpa using this) fun k hk => hw k (by simp only [List.map_cons,DataW.weightsEach,List.mem_append]; exact .inr hk)
    have hsp : cs.drop off = (cs.drop off).take A.n ++ cs.drop (off + A.n) := by rw [← List.drop_drop,List.take_append_drop]
    rw [hsp]
    exact Wk hA hB
theorem HI {α : Type} {P : Program} {C : NCod α} {t : TypeId} {fs : Array Field} (hu : P.underlying t = some (.struct fs)) (hn : P.cellsOf t = C.n) (h : Vg P C fs.toList 0) : Fo P C t := by
  intro Hn enc W n cs y hy hw
  obtain ⟨xs,m,_,rfl,hl,hlen,hf⟩ := DataW.trod_struct hu hy
  have := h Hn enc W m cs xs (by rw [hl,hn,Nat.zero_add]) (by simpa using hlen) (fun i f hi => hf i f (by simpa using hi)) fun k hk => hw k (by simp only [DataW.weights,hu]; exact hk)
  rwa [List.drop_zero] at this
def intC (k : IntKind) : Cod Int where
  n := 1
  enc i := [.int k i]
  pos := by decide
  len _ := rfl
  inj a b h := by simpa using h
  leaf _ := rfl
def blnC : Cod Bool where
  n := 1
  enc b := [.bool b]
  pos := by decide
  len _ := rfl
  inj a b h := by simpa using h
  leaf _ := rfl
def Zb3 : Cod (List UInt8) where
  n := 1
  enc k := [sv k]
  pos := by decide
  len _ := rfl
  inj a b h := by
    simp only [sv,List.cons.injEq,Value.string.injEq,ByteArray.mk.injEq,and_true] at h
    have := congrArg Array.toList h
    simpa using this
  leaf _ := rfl
theorem BX {P : Program} {t : TypeId} {k : IntKind} (hu : P.underlying t = some (.int k)) : Fo P (.ofC (intC k) fun i => (Lit.int k i).wf = true) t := by
  intro Hn enc W n cs y hy hw
  obtain ⟨i,rfl,_,h⟩ := DataW.trod_int hu hy
  exact ER ⟨i,rfl,h⟩
theorem Qe {P : Program} {t : TypeId} (hu : P.underlying t = some .bool) : Fo P (.ofC blnC fun _ => True) t := by
  intro Hn enc W n cs y hy hw
  obtain ⟨i,rfl,_⟩ := DataW.trod_bool hu hy
  exact ER ⟨i,rfl,trivial⟩
theorem HJ {P : Program} {t : TypeId} (hu : P.underlying t = some .string) : Fo P (.ofC Zb3 fun k => k.length ≤ reachBytes) t := by
  intro Hn enc W n cs y hy hw
  obtain ⟨i,rfl,hyy,_⟩ := DataW.trod_string hu hy
  subst hyy
  refine ER ⟨i.data.toList,?_,hw _ (by simp [DataW.weights])⟩
  show _ = [sv _]
  rw [← Jo]
def NArg {α : Type} (C : NCod α) (a : α) (s : St) (v : Value) : Prop := ∃ cs,v = .agg cs.toArray ∧ C.rel a s cs
theorem NArg.ext {α : Type} {C : NCod α} {a : α} {s t : St} {v : Value} (h : NArg C a s v) (hx : Ext s.heap.length s t) : NArg C a t v := by
  obtain ⟨cs,rfl,h1⟩ := h
  exact ⟨cs,rfl,C.ext h1 hx⟩
theorem Cm.ext {α : Type} {C : NCod α} {B : Nat} {l : List α} {s t : St} {v : Value} (h : Cm C B l s v) (hx : Ext s.heap.length s t) : Cm C B l t v := by
  obtain ⟨v',e,h1⟩ := (C.list B).ext (s := s) (t := t) (cs := [v]) ⟨v,rfl,h⟩ hx
  cases e
  exact h1
theorem nest_w {Hn : Type} {P : Program} {ts : List TypeId} {ds : List (DataW Hn)} (h : (DataW.weightsEach P ts ds).all (· ≤ reachBytes) = true) {j : Nat} {t : TypeId} {d : DataW Hn} (ht : ts[j]? = some t) (hd : ds[j]? = some d) : ∀ k ∈ d.weights P t,k ≤ reachBytes := fun k hk => by
  have := List.all_eq_true.1 h _ (DataW.weights_mem_each ht hd k hk)
  simpa using this
theorem open_nest {α : Type} {Hn : Type} {enc : TypeId × Value → Hn} {P : Program} {W : World} {C : NCod α} {t : TypeId} (hO : Fo P C t) {v : Value} {d : DataW Hn} {ps : List MemPlace} (h : DataW.Trod enc P W 0 (fun _ => true) true t v d ps) (hw : ∀ k ∈ d.weights P t,k ≤ reachBytes) : OpensAt W C v.cells.toList := by
  obtain ⟨fuel,hf⟩ := h
  exact hO Hn enc W fuel _ _ hf hw
theorem sim_nest {α : Type} {W : World} {C : NCod α} {cs : Array Value} (hO : OpensAt W C cs.toList) {ι : Emb} {H : List Blk} (h : Sim W.heap.size ι H W) (hro : H.all roB = true) :
    ∃ (a : α) (K : List Blk) (v : Value),NArg C a ⟨H ++ K⟩ v ∧ ∃ κ,ι.le κ ∧ Sim W.heap.size κ (H ++ K) W ∧ (H ++ K).all roB = true ∧ VRel κ v (.agg cs) := by
  obtain ⟨a,K,κ,cs',h1,h2,h3,h4,h5⟩ := hO ι H h hro
  exact ⟨a,K,_,⟨cs',rfl,h5⟩,κ,h1,h2,h3,.va (.agg (by simpa using h4))⟩
theorem Cm.plain {α : Type} {C : Cod α} {Pr : α → Prop} {B : Nat} {l : List α} {s : St} {v : Value} (h : Cm (.ofC C Pr) B l s v) : Bm C v s = some l ∧ (∀ a ∈ l,Pr a) ∧ l.length * B ≤ 140737488351232 := by
  obtain ⟨h1,h2⟩ := h
  rcases h2 with ⟨rfl,rfl⟩ | ⟨b,css,st,k,rfl,g2,g3,g4⟩
  · exact ⟨Vf s,fun a ha => (by cases ha),h1⟩
  · have key : ∀ {l : List α} {css : List (List Value)},All2 (fun a c => (NCod.ofC C Pr).rel a s c) l css → css.flatten = encL C l ∧ ∀ a ∈ l,Pr a := by
      intro l
      induction l with
      | nil => intro css h; cases css with
        | nil => exact ⟨rfl,fun a ha => by cases ha⟩
        | cons => exact h.elim
      | cons a l ih => intro css h; cases css with
        | nil => exact h.elim
        | cons c css =>
          obtain ⟨⟨e,hp⟩,h2⟩ := h
          obtain ⟨i1,i2⟩ := ih h2
          refine ⟨by rw [List.flatten_cons,i1,Ee,e],fun x hx => ?_⟩
          rcases List.mem_cons.1 hx with rfl | hx
          · exact hp
          · exact i2 x hx
    obtain ⟨k1,k2⟩ := key g4
    refine ⟨(Cl C).2 ?_,k2,h1⟩
    have hr : readRow s b = some (encL C l) := by
      unfold Ab.readRow
      rw [g2,k1]
      cases st with
      | dead => exact absurd rfl g3
      | act => rfl
      | ro => rfl
    simp only [cellsOf,Nat.le_refl,if_true,readN,hr,Option.bind_some,Nat.zero_add]
    rw [if_pos (by rw [C5]; exact Nat.le_refl _),List.drop_zero,← C5 C,List.take_length]
end Go.Proofs.YtmbhnbladmpnoaaGreat.Ab

/- The seat's own program: its functions by the abstract machine. -/
namespace Go.Proofs.YtmbhnbladmpnoaaGreat.Ab
open Go
def Zdx (f : Nat) : List (Nat × Tn) → Tn
  | [] => []
  | (g,t) :: l => cond (Nat.beq f g) t (Zdx f l)
end Go.Proofs.YtmbhnbladmpnoaaGreat.Ab

/- Strings,in their order. -/
namespace Go.Proofs.YtmbhnbladmpnoaaGreat.Ab
open Go
abbrev bl (a b : List UInt8) : Bool := Op.bytesLess a b
theorem ZI (a : List UInt8) : bl a [] = false := by cases a <;> rfl
theorem Jr {x y : UInt8} {a b : List UInt8} : bl (x :: a) (y :: b) = true ↔ x.toNat < y.toNat ∨ (x = y ∧ bl a b = true) := by
  show (decide (x < y) || (x == y && Op.bytesLess a b)) = true ↔ _
  simp only [Bool.or_eq_true,decide_eq_true_eq,Bool.and_eq_true,beq_iff_eq,UInt8.lt_iff_toNat_lt]
end Go.Proofs.YtmbhnbladmpnoaaGreat.Ab

/- A range over a function,where the function gives its rounds as a list: rounds are run by the abstract machine. -/
namespace Go.Proofs.YtmbhnbladmpnoaaGreat.Ab
open Go Go.RowKit
structure FS (n wb : Nat) (ι : Emb) (T : Fr) (H : List Blk) (tmps : Array Value) (w : World) : Prop where
  sim : Sim wb ι H w
  nm : ∀ x,x < n → VRel ι (T x) (tmps.getD x undef)
def cutF (n : Nat) (T : Fr) : Fr := fun x => if x < n then T x else Ct
theorem FS.b {n wb : Nat} {ι : Emb} {T : Fr} {H : List Blk} {tmps : Array Value} {w : World} (h : FS n wb ι T H tmps w) : BSim [] n wb ι H w ι (fun _ => none) (cutF n T) H tmps w := by
  refine ⟨h.sim,⟨fun _ _ h => (by cases h),fun _ _ h => (by cases h),fun _ _ _ h => (by cases h)⟩,.refl _ _ _ h.sim.dom,fun x => ?_⟩
  unfold cutF
  by_cases c : x < n
  · rw [if_pos c]
    unfold NRel
    rw [if_pos c]
    exact h.nm x c
  · rw [if_neg c]; exact .poison
theorem BSim.fs {n wb : Nat} {ι0 ι : Emb} {H0 H : List Blk} {w0 w : World} {lam : Lam} {T : Fr} {tmps : Array Value} (h : BSim [] n wb ι0 H0 w0 ι lam T H tmps w) : FS n wb ι T H tmps w := by
  refine ⟨h.sim,fun x hx => ?_⟩
  have := h.nm x
  unfold NRel at this
  rw [if_pos hx] at this
  exact this
theorem FS.mono {n wb : Nat} {ι κ : Emb} {T T' : Fr} {H K : List Blk} {tmps tmps' : Array Value} {w v : World} (h : FS n wb ι T H tmps w) (g : FS n wb κ T' K tmps' v) (hl : ι.le κ) : FS n wb κ T K tmps v := ⟨g.sim,fun x hx => (h.nm x hx).mono hl⟩
section
variable {P : Program} {call : Aa} {n m wb : Nat}
theorem seg {c : Code} (hc : EH n c = true) {T T' : Fr} {s s' : St} {e : Ex} (h : Dp P [] n wb c (cutF n T) s e T' s') {X : Option Nat × Nat} {ι : Emb} {a : Act} {w : World} (hs : FS n wb ι T s.heap a.tmps w) (hz : a.tmps.size = n) {Q : Exit → Act → World → Prop}
    (hQ : ∀ ι' a' w',FS n wb ι' T' s'.heap a'.tmps w' → Step ι s.heap w ι' s'.heap w' → a'.tmps.size = n → a'.defers = a.defers → Q e.to a' w') : c.wpIn (FR X) X.2 P Q a w :=
  h X ι s.heap w ι (fun _ => none) a w hs.sim.size hs.b hz hc Q fun ι' lam' a' w' g1 g2 g3 => hQ ι' a' w' g1.fs g1.step g2 g3
def sel : List Nat → Code → Code
  | [],c => c
  | 0 :: p,.seq a _ => sel p a
  | 1 :: p,.seq _ b => sel p b
  | 2 :: p,.block _ a => sel p a
  | 2 :: p,.loop a => sel p a
  | 3 :: p,.rangeFunc _ _ a _ => sel p a
  | 4 :: p,.rangeFunc _ _ _ b => sel p b
  | _,_ => .skip
def Gh (fn : Func) : Code := fn.body.getD .skip
theorem Ij (hcall : DL P call) {wd : Nat} {c : Code} (hc : EH n c = true) {lo : Lo} {Li Lu : List Nat} {F : List Value → St → Res} (hF : ∀ T s,Cc P call [] AV wd c lo (ofL Li 0 T noT) s (fun e T s => some (e,toL Lu T,s)) = F T s) {T : Fr} {s s' : St} {e : Ex} {X' : List Value}
    (h : F (toL Li (cutF n T)) s = some (e,X',s')) : Dp P [] n wb c (cutF n T) s e (ofL Lu 0 X' noT) s' := by
  rw [← hF] at h
  obtain ⟨e1,T1,s1,h1,h2⟩ := NJ (wb := wb) (n := n) (m := 0) hcall rfl (fun body X s r h => Gb.1 h) c hc lo _ s _ _ h
  cases h1
  exact (h2.weakR (kept Lu T1)).weakL (kept Li (cutF n T))
def Zb4 (H : List Blk) : Prop := ∀ (b : Nat) es clock,H[b]? ≠ some (.map es clock)
theorem Sim.grown {ι : Emb} {H : List Blk} {w w' : World} {row : Option Nat} (h : Sim wb ι H w) (hm : Zb4 H) (hg : w.grownBy w' row) (hr : ∀ r,row = some r → ∃ o : Obj,w.heap[r]? = some o ∧ ∀ cs e fz,o ≠ .cells cs e fz) : Sim wb ι H w' where
  dom := h.dom
  row b n' cells st hb hst l hl := by
    obtain ⟨cs,e,fz,q1,q2,q3,q4⟩ := h.row b n' cells st hb hst l hl
    refine ⟨cs,e,fz,?_,q2,q3,q4⟩
    rw [hg.block _ (Array.getElem?_eq_some_iff.1 q1).1 fun e1 => ?_]
    · exact q1
    · obtain ⟨o,ho,hn⟩ := hr _ e1.symm
      rw [q1] at ho
      cases ho
      exact hn _ _ _ rfl
  map b es clock hb := absurd hb (hm b es clock)
  excl := h.excl
  size := Nat.le_trans h.size hg.size
  loc := h.loc
theorem FS.grown {ι : Emb} {T : Fr} {H : List Blk} {tmps : Array Value} {w w' : World} {row : Option Nat} (h : FS n wb ι T H tmps w) (hm : Zb4 H) (hg : w.grownBy w' row) (hr : ∀ r,row = some r → ∃ o : Obj,w.heap[r]? = some o ∧ ∀ cs e fz,o ≠ .cells cs e fz) : FS n wb ι T H tmps w' := ⟨h.sim.grown hm hg hr,h.nm⟩
theorem Step.grown {ι κ : Emb} {H K : List Blk} {w v v' : World} {row : Option Nat} (h : Step ι H w κ K v) (hg : v.grownBy v' row) (hr : ∀ r,row = some r → w.heap.size ≤ r) : Step ι H w κ K v' where
  le := h.le
  old := h.old
  img := h.img
  keep c hc hn := by
    rw [hg.block c (Nat.lt_of_lt_of_le hc h.size) fun e => ?_]
    · exact h.keep c hc hn
    · have := hr c e.symm; omega
  size := Nat.le_trans h.size hg.size
  os := hg.os.trans h.os
  tape := hg.tape.trans h.tape
  output := hg.output.trans h.output
  len := h.len
  own := h.own
def setP : List (Tmp × Value) → Fr → Fr
  | [],T => T
  | (p,v) :: l,T => setP l (setT T p v)
theorem FS.params {ι : Emb} {H : List Blk} {w : World} : ∀ {l : List (Tmp × Value)} {T : Fr} {tmps : Array Value},FS n wb ι T H tmps w → tmps.size = n → (∀ x ∈ l,Bb x.2 = true) →
    FS n wb ι (setP l T) H (l.foldl (fun t (x : Tmp × Value) => t.setIfInBounds x.1 x.2) tmps) w ∧ (l.foldl (fun t (x : Tmp × Value) => t.setIfInBounds x.1 x.2) tmps).size = n
  | [],T,tmps,h,hz,_ => ⟨h,hz⟩
  | (p,v) :: l,T,tmps,h,hz,hc => by
    refine FS.params (l := l) (T := setT T p v) (tmps := tmps.setIfInBounds p v) ⟨h.sim,fun x hx => ?_⟩ (by simpa using hz) fun y hy => hc y (List.mem_cons_of_mem _ hy)
    unfold setT
    by_cases e : x = p
    · subst e
      rw [Nat.beq_refl]
      have : (tmps.setIfInBounds x v).getD x undef = v := by simp [Array.getD,hz,hx]
      rw [cond_true,this]
      exact Jc (hc (x,v) (List.mem_cons_self ..))
    · have hb : Nat.beq x p = false := by
        cases hb : Nat.beq x p with
        | false => rfl
        | true => exact absurd (Nat.eq_of_beq_eq_true hb) e
      rw [hb,cond_false]
      have : (tmps.setIfInBounds p v).getD x undef = tmps.getD x undef := by
        simp [Array.getD,hz,hx,Array.getElem_setIfInBounds_ne,Ne.symm e]
      rw [this]
      exact h.nm x hx
end
end Go.Proofs.YtmbhnbladmpnoaaGreat.Ab

/- The program's functions,as the abstract machine runs them: printed. -/
namespace Go.Proofs.YtmbhnbladmpnoaaGreat.Ab
open Go
set_option maxRecDepth 100000
def Ad : Hd := fun f => Zdx f [(2,[]),(3,[(1,53)]),(4,[(5,48),(7,49)]),(5,[(6,44),(8,45)]),(6,[(2,74),(8,75),(10,76)]),(7,[(3,96),(13,97),(83,97)]),(8,[(3,76),(5,77),(7,78),(9,79),(46,76),(51,76),(56,76)]),(9,[(5,49),(33,49)]),(10,[(1,15)]),(12,[(1,131),(5,132),(6,131),(20,131),(24,131),(30,131),(34,131),(39,131),(45,131),(50,131),(56,131),(63,131),(67,131),(72,131),(77,131),(83,131),(89,131),(93,131),(100,131),(105,131),(111,131),(116,131)]),(13,[(2,93),(8,94),(45,94)]),(14,[(2,55),(7,56)]),(15,[]),(16,[(1,69),(6,69),(12,69),(18,69),(24,69),(34,69),(44,69),(47,69),(57,69),(63,69)]),(17,[]),(18,[]),(19,[(2,29),(4,30)]),(20,[]),(21,[(5,33),(23,33),(25,33),(27,33),(29,33)]),(22,[]),(23,[]),(24,[]),(25,[(1,64),(3,64),(7,64),(11,64),(17,64),(21,64),(30,64),(34,64),(41,64),(45,64),(50,64),(52,64),(56,64),(60,64)]),(26,[]),(27,[]),(28,[(6,48),(8,49),(19,48),(24,48),(29,48),(36,49),(41,49)]),(29,[(4,18)]),(30,[(4,57),(27,57),(31,57),(39,57),(50,57)]),(31,[]),(32,[(1,25),(3,25),(8,25),(14,25),(18,25),(20,25)]),(33,[(1,16),(3,16),(7,16),(12,16)]),(34,[]),(35,[]),(36,[]),(37,[]),(38,[(2,88)]),(39,[]),(40,[]),(41,[]),(42,[]),(43,[]),(44,[]),(45,[]),(46,[(2,17),(3,18),(14,18)]),(47,[(3,26),(20,26)]),(48,[]),(49,[]),(50,[(1,7),(3,7)]),(51,[]),(52,[(1,16),(3,16),(7,16),(12,16)]),(53,[]),(54,[]),(55,[(1,12),(3,12),(8,12)]),(56,[]),(57,[(1,16),(3,16),(7,16),(12,16)]),(58,[(1,3)]),(59,[(1,7),(3,7)]),(60,[(4,57),(27,57),(31,57),(39,57),(50,57)]),(61,[(1,12),(3,12),(7,12)]),(62,[(1,28),(8,28),(13,28),(18,28),(22,28),(24,28)]),(63,[(1,25),(3,25),(5,25),(9,25),(14,25),(20,25)]),(64,[]),(65,[(1,6)]),(66,[(1,13),(3,14),(6,13),(11,14)]),(67,[(1,8),(3,8),(5,8)]),(68,[(2,7)]),(69,[]),(70,[]),(71,[]),(72,[]),(73,[]),(74,[]),(75,[]),(76,[]),(77,[]),(78,[(2,7)]),(79,[]),(80,[]),(81,[]),(82,[]),(83,[]),(84,[]),(85,[]),(86,[]),(87,[]),(88,[]),(89,[]),(90,[]),(91,[(6,11)]),(92,[]),(93,[(3,26),(6,26),(11,26),(13,26),(15,26),(17,26),(21,26)]),(94,[(2,18)]),(95,[(6,11)]),(96,[]),(97,[(3,37),(6,38),(8,37),(11,37),(15,37),(21,37),(29,38),(31,38)]),(98,[(2,38)]),(99,[(6,11)]),(100,[]),(101,[(3,15),(6,15),(10,15)]),(102,[(2,12)]),(103,[]),(104,[(2,15)]),(105,[]),(106,[]),(107,[]),(108,[(6,46),(20,46),(26,46),(29,46),(32,46),(35,46),(39,46)]),(109,[(6,52),(8,53),(22,52),(25,52),(29,52),(35,52),(43,53),(46,53)]),(110,[(6,30),(20,30),(23,30)]),(111,[]),(112,[]),(113,[]),(114,[]),(115,[(1,107),(5,107),(9,107),(14,107),(18,107),(22,107),(35,107),(39,107),(48,107),(54,107),(58,107),(64,107),(68,107),(75,107),(80,107),(86,107),(88,107),(94,107),(98,107),(102,107)]),(116,[]),(117,[]),(118,[]),(119,[]),(120,[]),(121,[]),(122,[]),(123,[]),(124,[(5,43),(22,43),(25,43),(28,43),(31,43),(34,43),(37,43)]),(125,[(5,59),(7,60),(24,59),(27,59),(44,60),(47,60),(48,59),(53,59)]),(126,[(5,31),(22,31),(25,31)]),(127,[]),(128,[]),(129,[]),(130,[(0,24),(1,25),(21,25)]),(131,[(4,18)]),(132,[(1,13),(3,13),(8,13)]),(133,[]),(134,[]),(135,[(2,20),(4,20),(9,20),(15,20)]),(136,[]),(137,[(1,6)]),(138,[(1,83),(3,84),(6,83),(14,84),(18,83),(22,84),(26,83),(30,84),(39,84),(43,83),(48,84),(51,83),(57,83),(62,84),(71,84),(74,83),(78,83)]),(139,[(0,2)]),(140,[]),(141,[(2,14)]),(142,[]),(143,[]),(144,[]),(145,[]),(146,[]),(147,[]),(148,[]),(149,[]),(150,[]),(151,[(8,35)]),(152,[]),(153,[]),(154,[]),(155,[(8,35)]),(156,[]),(157,[]),(158,[(8,35)]),(159,[]),(160,[]),(161,[]),(162,[]),(163,[]),(164,[]),(165,[]),(166,[(1,8),(2,9),(3,8),(5,8)]),(167,[(0,7)]),(168,[(3,26),(5,27),(10,26)]),(169,[(3,35),(5,36),(10,35),(19,35),(21,35),(29,35)]),(170,[(3,23),(5,24),(10,23)]),(171,[(3,27),(5,28),(20,27)]),(172,[(3,20),(5,21)]),(173,[]),(174,[]),(175,[]),(176,[(3,30),(11,30),(18,30),(23,30)]),(177,[]),(178,[]),(179,[(2,9),(5,9)]),(180,[]),(182,[]),(183,[]),(184,[]),(186,[])]
noncomputable def AR.j0 (R : Aa) (T : List Value) (s : St) : Res :=
(abin Tryz.prog .add 3 (.tmp 49) (.const (.int .i64 1)) (getL T 6) (.int .i64 1)).bind fun v35 =>
some (.normal,[(getL T 0),(getL T 1),(getL T 2),(getL T 3),(getL T 4),(getL T 5),v35],s)
noncomputable def AR.b0 (R : Aa) (T : List Value) (s : St) : Res :=
(abin Tryz.prog .lss 3 (.tmp 40) (.const (.int .i64 32)) (getL T 6) (.int .i64 32)).bind fun v16 =>
(Ai v16 true ((abin Tryz.prog .add 3 (.tmp 43) (.tmp 44) (getL T 0) (getL T 6)).bind fun v17 =>
(abin Tryz.prog .lss 3 (.tmp 45) (.tmp 46) v17 (getL T 4)).bind fun v18 =>
some ([v18],s)) (some ([undef],s))).bind fun q19 =>
(AM v16 (getL q19.1 0) (.bool false)).bind fun v20 =>
AA v20
 ((abin Tryz.prog .shr 44 (.tmp 51) (.tmp 52) (getL T 1) (getL T 6)).bind fun v22 =>
(abin Tryz.prog .and 44 (.tmp 53) (.const (.int .u32 1)) v22 (.int .u32 1)).bind fun v23 =>
(abin Tryz.prog .eql 44 (.tmp 54) (.const (.int .u32 1)) v23 (.int .u32 1)).bind fun v24 =>
AA v24
 ((abin Tryz.prog .add 3 (.tmp 57) (.tmp 58) (getL T 0) (getL T 6)).bind fun v25 =>
(abin Tryz.prog .quo 3 (.tmp 59) (.const (.int .i64 8)) v25 (.int .i64 8)).bind fun v26 =>
(AC 1 (getL T 3) v26).bind fun v27 =>
(((Aq false 1 v27 q19.2).bind fun v37 =>
some (v37,q19.2)).bind (ownR q19.2)).bind fun r28 =>
(abin Tryz.prog .add 3 (.tmp 63) (.tmp 64) (getL T 0) (getL T 6)).bind fun v29 =>
(abin Tryz.prog .rem 3 (.tmp 65) (.const (.int .i64 8)) v29 (.int .i64 8)).bind fun v30 =>
(abin Tryz.prog .shl 5 (.const (.int .u8 1)) (.tmp 66) (.int .u8 1) v30).bind fun v31 =>
(abin Tryz.prog .xor 5 (.tmp 62) (.tmp 67) r28.1 v31).bind fun v32 =>
(AC 1 (getL T 3) v26).bind fun v33 =>
(((A0 1 v33 v32 r28.2).bind fun s36 =>
some (undef,s36)).bind (ownR r28.2)).bind fun r34 =>
C9 (AR.j0 R) [(getL T 0),(getL T 1),(getL T 2),(getL T 3),(getL T 4),(.bool true),(getL T 6)] r34.2)
 (C9 (AR.j0 R) [(getL T 0),(getL T 1),(getL T 2),(getL T 3),(getL T 4),(getL T 5),(getL T 6)] q19.2))
 (some (.exit 0,[(getL T 2),(getL T 3),(getL T 5)],q19.2))
noncomputable def AR (R : Aa) (x0 x1 x2 : Value) (s : St) : Option (Value × St) :=
(lbox x0).bind fun v0 =>
(Ag Tryz.prog R (.func (.func 8) #[] #[]) [] s).bind fun r1 =>
(Ao true 21 lptr v0).bind fun v2 =>
(Ag Tryz.prog R (.func (.func 9) #[] #[]) [v2] r1.2).bind fun r3 =>
(Ak 0 r3.1).bind fun v4 =>
(Ak 1 r3.1).bind fun v5 =>
(abin Tryz.prog .neq 32 (.tmp 21) (.const (.int .i64 0)) v5 (.int .i64 0)).bind fun v6 =>
AA v6
 ((Ai r1.1 true ((abin Tryz.prog .eql 32 (.tmp 25) (.const (.int .i64 180)) v5 (.int .i64 180)).bind fun v7 =>
some ([v7],r3.2)) (some ([undef],r3.2))).bind fun q8 =>
(AM r1.1 (getL q8.1 0) (.bool false)).bind fun v9 =>
retV [v9] q8.2)
 ((AP (.slice 5) v4 r3.2).bind fun v10 =>
(abin Tryz.prog .mul 3 (.const (.int .i64 8)) (.tmp 29) (.int .i64 8) v10).bind fun v11 =>
(abin Tryz.prog .eql 3 (.tmp 31) (.const (.int .i64 0)) v11 (.int .i64 0)).bind fun v12 =>
AA v12
 (retV [(.bool false)] r3.2)
 ((abin Tryz.prog .rem 3 (.tmp 33) (.tmp 34) x1 v11).bind fun v13 =>
(abin Tryz.prog .add 3 (.tmp 35) (.tmp 36) v13 v11).bind fun v14 =>
(abin Tryz.prog .rem 3 (.tmp 37) (.tmp 38) v14 v11).bind fun v15 =>
(AV (AR.b0 R) [v15,x2,r1.1,v4,v11,(.bool false),(.int .i64 0)] r3.2).bind fun r38 =>
exV r38.1 [(0,(Ag Tryz.prog R (.func (.func 13) #[] #[]) [(getL r38.2.1 1)] r38.2.2).bind fun r39 =>
(Ak 0 r39.1).bind fun v40 =>
(Ak 1 r39.1).bind fun v41 =>
(AN 21 lptr v40 (.agg #[(.int .i64 0),(.int .i64 0),(.int .i64 0),(.int .i64 0),(.int .i64 0),(.int .i64 0),(.int .u64 0),(.int .u64 0),(.int .u64 0),(.int .u64 0),(.int .u64 0),(.int .u64 0),(.int .u64 0),(.int .u64 0),(.int .u64 0),(.bool false),(.string ⟨#[]⟩),(.string ⟨#[]⟩),(.slice none 0 0),(.slice none 0 0),(.slice none 0 0)])).bind fun v42 =>
(Ai (getL r38.2.1 0) true (some ([(getL r38.2.1 2)],r39.2)) (some ([undef],r39.2))).bind fun q43 =>
(Ai (getL q43.1 0) true ((abin Tryz.prog .eql 32 (.tmp 79) (.const (.int .i64 50)) v41 (.int .i64 50)).bind fun v44 =>
some ([v44],q43.2)) (some ([undef],q43.2))).bind fun q45 =>
(Ai (getL r38.2.1 0) true ((AM (getL q43.1 0) (getL q45.1 0) (.bool false)).bind fun v46 =>
some ([v46],q45.2)) (some ([undef],q45.2))).bind fun q47 =>
(Ai (getL q47.1 0) true ((Ao false 1 lptr v42).bind fun v48 =>
(abin Tryz.prog .eql 3 (.tmp 84) (.const (.int .i64 0)) v48 (.int .i64 0)).bind fun v49 =>
some ([v49],q47.2)) (some ([undef],q47.2))).bind fun q50 =>
(Ai (getL r38.2.1 0) true ((AM (getL q47.1 0) (getL q50.1 0) (.bool false)).bind fun v51 =>
some ([v51],q50.2)) (some ([undef],q50.2))).bind fun q52 =>
(Ai (getL q52.1 0) false ((aun .not (getL r38.2.1 2)).bind fun v53 =>
some ([v53],q52.2)) (some ([undef],q52.2))).bind fun q54 =>
(Ai (getL q54.1 0) true ((abin Tryz.prog .eql 32 (.tmp 91) (.const (.int .i64 0)) v41 (.int .i64 0)).bind fun v55 =>
some ([v55],q54.2)) (some ([undef],q54.2))).bind fun q56 =>
(Ai (getL q52.1 0) false ((AM (getL q54.1 0) (getL q56.1 0) (.bool false)).bind fun v57 =>
some ([v57],q56.2)) (some ([undef],q56.2))).bind fun q58 =>
(Ai (getL r38.2.1 0) true ((AM (getL q52.1 0) (.bool true) (getL q58.1 0)).bind fun v59 =>
some ([v59],q58.2)) (some ([undef],q58.2))).bind fun q60 =>
(AM (getL r38.2.1 0) (getL q60.1 0) (.bool false)).bind fun v61 =>
retV [v61] q60.2)]
 (none)))
theorem Js {lib : Lib} (hl : lib 7 = none) {x0 x1 x2 : Value} {s : St} {r : Value × St} (h : AR (run Tryz.prog lib Ad) x0 x1 x2 s = some r) : run Tryz.prog lib Ad 7 [x0,x1,x2] s = some r :=
  At hl Tryz.func7 (Eq.trans (by kernel_rfl) h)
theorem law18_WireSpoilt_ok : Ap Tryz.prog 7 = true := by kernel_rfl
theorem GK : Ap Tryz.prog 8 = true := by kernel_rfl
theorem E7 {R : Aa} {xs : List Value} {s : St} : Ag Tryz.prog R (.func (.func 8) #[] #[]) xs s = R 8 xs s := Aj GK
noncomputable def CY.b0 (R : Aa) (T : List Value) (s : St) : Res :=
(JU (getL T 3) s).bind fun r23 =>
(Ak 0 r23.1).bind fun v24 =>
AA v24
 ((Ak 2 r23.1).bind fun v25 =>
(EY Tryz.prog 21 (.agg #[.nilFunc,.nilFunc,.nilFunc]) (getL T 1) v25 false r23.2).bind fun v26 =>
(Hp false 0 1 v26).bind fun v27 =>
(Ag Tryz.prog R v27 [(getL T 2),(getL T 0)] r23.2).bind fun r28 =>
some (.normal,[(getL T 0),(getL T 1),r28.1,(getL T 3)],r28.2))
 (some (.exit 0,[(getL T 2)],r23.2))
noncomputable def CY (R : Aa) (x0 : Value) (s : St) : Option (Value × St) :=
(anew (An x0) s).bind fun r0 =>
(Aq true 21 r0.1 r0.2).bind fun v1 =>
(Ag Tryz.prog R (.func (.func 11) #[] #[]) [v1] r0.2).bind fun r2 =>
(abin Tryz.prog .neq 32 (.tmp 13) (.const (.int .i64 0)) r2.1 (.int .i64 0)).bind fun v3 =>
AA v3
 (retV [(.slice none 0 0),r2.1] r2.2)
 ((Ac 0 r0.1).bind fun v4 =>
(Aq false 1 v4 r2.2).bind fun v5 =>
(Ag Tryz.prog R (.func (.func 19) #[] #[]) [v5] r2.2).bind fun r6 =>
(Ak 0 r6.1).bind fun v7 =>
(Ak 1 r6.1).bind fun v8 =>
(AN 4 lptr v7 (.agg #[(.string ⟨#[]⟩),.nilFunc,.nilFunc,.nilFunc])).bind fun v9 =>
(Ag Tryz.prog R (.func (.func 20) #[] #[]) [] r6.2).bind fun r10 =>
(Ac 0 r0.1).bind fun v11 =>
(Aq false 1 v11 r10.2).bind fun v12 =>
(AK .u8 v12).bind fun v13 =>
(Ac 1 r0.1).bind fun v14 =>
(Aq false 1 v14 r10.2).bind fun v15 =>
(AK .u8 v15).bind fun v16 =>
(Ac 2 r0.1).bind fun v17 =>
(Aq false 1 v17 r10.2).bind fun v18 =>
(AK .u8 v18).bind fun v19 =>
(Ar 1 [(.int .u8 0)] 3 [(0,v13),(1,v16),(2,v19)] r10.2).bind fun r20 =>
(Ao false 1 lptr v9).bind fun v21 =>
(I8 v21 r20.2).bind fun r22 =>
(AV (CY.b0 R) [r0.1,r10.1,r20.1,r22.1] r22.2).bind fun r29 =>
exV r29.1 [(0,(Ag Tryz.prog R (.func (.func 17) #[] #[]) [(getL r29.2.1 0)] r29.2.2).bind fun r30 =>
(Ak 0 r30.1).bind fun v31 =>
(Ak 1 r30.1).bind fun v32 =>
retV [v31,v32] r30.2)]
 (none))
theorem IQ {lib : Lib} (hl : lib 9 = none) {x0 : Value} {s : St} {r : Value × St} (h : CY (run Tryz.prog lib Ad) x0 s = some r) : run Tryz.prog lib Ad 9 [x0] s = some r :=
  At hl Tryz.func9 (Eq.trans (by kernel_rfl) h)
theorem Pf : Ap Tryz.prog 9 = true := by kernel_rfl
theorem Eu {R : Aa} {xs : List Value} {s : St} : Ag Tryz.prog R (.func (.func 9) #[] #[]) xs s = R 9 xs s := Aj Pf
noncomputable def wire_Check.A (R : Aa) (T : List Value) (s : St) : Res :=
(anew (An (getL T 0)) s).bind fun r0 =>
some (.normal,[r0.1,(.int .i64 0)],r0.2)
theorem wire_Check.A_eq (R : Aa) (T : List Value) (s : St) : Cc Tryz.prog R [] AV 62 (sel [0] (Gh Tryz.f11)) ⟨6,[],6⟩ (ofL [0] 0 T noT) s (fun e T s => some (e,toL [1,2] T,s)) = wire_Check.A R T s := by kernel_rfl
theorem wire_Check.A_w : EH 62 (sel [0] (Gh Tryz.f11)) = true := by kernel_rfl
noncomputable def wire_Check.B (R : Aa) (T : List Value) (s : St) : Res :=
(Ac 0 (getL T 0)).bind fun v0 =>
(Aq false 1 v0 s).bind fun v1 =>
(Ag Tryz.prog R (.func (.func 19) #[] #[]) [v1] s).bind fun r2 =>
(Ak 0 r2.1).bind fun v3 =>
(Ak 1 r2.1).bind fun v4 =>
(anew [(.string ⟨#[]⟩),.nilFunc,.nilFunc,.nilFunc] r2.2).bind fun r5 =>
(A0 4 r5.1 v3 r5.2).bind fun s6 =>
some (.normal,[(getL T 0),(getL T 1),r5.1,v4],s6)
theorem wire_Check.B_eq (R : Aa) (T : List Value) (s : St) : Cc Tryz.prog R [] AV 62 (sel [1,0] (Gh Tryz.f11)) ⟨30,[],30⟩ (ofL [1,2] 0 T noT) s (fun e T s => some (e,toL [1,2,3,4] T,s)) = wire_Check.B R T s := by kernel_rfl
theorem wire_Check.B_w : EH 62 (sel [1,0] (Gh Tryz.f11)) = true := by kernel_rfl
noncomputable def wire_Check.C (R : Aa) (T : List Value) (s : St) : Res :=
(aun .not (getL T 3)).bind fun v0 =>
(Ai v0 false ((Ac 1 (getL T 2)).bind fun v1 =>
(Aq false 1 v1 s).bind fun v2 =>
(Ac 1 (getL T 0)).bind fun v3 =>
(Aq false 1 v3 s).bind fun v4 =>
(Ag Tryz.prog R v2 [v4] s).bind fun r5 =>
(aun .not r5.1).bind fun v6 =>
some ([v6],r5.2)) (some ([undef],s))).bind fun q7 =>
(AM v0 (.bool true) (getL q7.1 0)).bind fun v8 =>
(Ai v8 false ((Ac 2 (getL T 2)).bind fun v9 =>
(Aq false 1 v9 q7.2).bind fun v10 =>
(Ac 2 (getL T 0)).bind fun v11 =>
(Aq false 1 v11 q7.2).bind fun v12 =>
(Ag Tryz.prog R v10 [v12] q7.2).bind fun r13 =>
(aun .not r13.1).bind fun v14 =>
some ([v14],r13.2)) (some ([undef],q7.2))).bind fun q15 =>
(AM v8 (.bool true) (getL q15.1 0)).bind fun v16 =>
(Ai v16 false ((Ac 3 (getL T 0)).bind fun v17 =>
(Aq false 1 v17 q15.2).bind fun v18 =>
(abin Tryz.prog .neq 3 (.tmp 33) (.const (.int .i64 0)) v18 (.int .i64 0)).bind fun v19 =>
some ([v19],q15.2)) (some ([undef],q15.2))).bind fun q20 =>
(AM v16 (.bool true) (getL q20.1 0)).bind fun v21 =>
(Ai v21 false ((Ac 3 (getL T 2)).bind fun v22 =>
(Aq false 1 v22 q20.2).bind fun v23 =>
(Aq true 21 (getL T 0) q20.2).bind fun v24 =>
(Ag Tryz.prog R v23 [v24] q20.2).bind fun r25 =>
(aun .not r25.1).bind fun v26 =>
some ([v26],r25.2)) (some ([undef],q20.2))).bind fun q27 =>
(AM v21 (.bool true) (getL q27.1 0)).bind fun v28 =>
AA v28
 (some (.ret,[(getL T 0),(.int .i64 180),(getL T 2)],q27.2))
 (some (.normal,[(getL T 0),(getL T 1),(getL T 2)],q27.2))
theorem wire_Check.C_eq (R : Aa) (T : List Value) (s : St) : Cc Tryz.prog R [] AV 62 (sel [1,1,0] (Gh Tryz.f11)) ⟨14,[],14⟩ (ofL [1,2,3,4] 0 T noT) s (fun e T s => some (e,toL [1,2,3] T,s)) = wire_Check.C R T s := by kernel_rfl
theorem wire_Check.C_w : EH 62 (sel [1,1,0] (Gh Tryz.f11)) = true := by kernel_rfl
noncomputable def wire_Check.D (R : Aa) (T : List Value) (s : St) : Res :=
(Ag Tryz.prog R (.func (.func 20) #[] #[]) [] s).bind fun r0 =>
(KN r0.1 r0.2).bind fun r1 =>
some (.normal,[(getL T 0),(getL T 1),(getL T 2),r1.1],r1.2)
theorem wire_Check.D_eq (R : Aa) (T : List Value) (s : St) : Cc Tryz.prog R [] AV 62 (sel [1,1,1,0,0] (Gh Tryz.f11)) ⟨17592186044430,[],17592186044430⟩ (ofL [1,2,3] 0 T noT) s (fun e T s => some (e,toL [1,2,3,44] T,s)) = wire_Check.D R T s := by kernel_rfl
theorem wire_Check.D_w : EH 62 (sel [1,1,1,0,0] (Gh Tryz.f11)) = true := by kernel_rfl
noncomputable def wire_Check.bd (R : Aa) (T : List Value) (s : St) : Res :=
(Ac 0 (getL T 2)).bind fun v0 =>
(Aq false 1 v0 s).bind fun v1 =>
(JT v1 s).bind fun r2 =>
(Ag Tryz.prog R (.func (.func 23) #[] #[]) [r2.1,(getL T 3)] r2.2).bind fun r3 =>
(aun .not r3.1).bind fun v4 =>
(Ai v4 true ((Ac 2 (getL T 4)).bind fun v5 =>
(Aq false 1 v5 r3.2).bind fun v6 =>
(Ag Tryz.prog R v6 [(getL T 0)] r3.2).bind fun r7 =>
(aun .not r7.1).bind fun v8 =>
some ([v8],r7.2)) (some ([undef],r3.2))).bind fun q9 =>
(AM v4 (getL q9.1 0) (.bool false)).bind fun v10 =>
AA v10
 (some (.ret,[(getL T 0),(.int .i64 180),(getL T 2),(getL T 5)],q9.2))
 (some (.normal,[(getL T 0),(getL T 1),(getL T 2),(getL T 5)],q9.2))
theorem wire_Check.bd_eq (R : Aa) (T : List Value) (s : St) : Cc Tryz.prog R [] AV 62 (sel [1,1,1,0,1,2,2,1,1,2,1] (Gh Tryz.f11)) ⟨17592186044430,[],17592186044430⟩ (ofL [1,2,3,5,6,44] 0 T noT) s (fun e T s => some (e,toL [1,2,3,44] T,s)) = wire_Check.bd R T s := by kernel_rfl
theorem wire_Check.bd_w : EH 62 (sel [1,1,1,0,1,2,2,1,1,2,1] (Gh Tryz.f11)) = true := by kernel_rfl
noncomputable def wire_Check.E (R : Aa) (T : List Value) (s : St) : Res :=
some (.ret,[(.int .i64 0)],s)
theorem wire_Check.E_eq (R : Aa) (T : List Value) (s : St) : Cc Tryz.prog R [] AV 62 (sel [1,1,1,1] (Gh Tryz.f11)) ⟨4,[],4⟩ (ofL [] 0 T noT) s (fun e T s => some (e,toL [2] T,s)) = wire_Check.E R T s := by kernel_rfl
theorem wire_Check.E_w : EH 62 (sel [1,1,1,1] (Gh Tryz.f11)) = true := by kernel_rfl
theorem GL : Ap Tryz.prog 11 = true := by kernel_rfl
theorem DN {R : Aa} {xs : List Value} {s : St} : Ag Tryz.prog R (.func (.func 11) #[] #[]) xs s = R 11 xs s := Aj GL
noncomputable def Ay.b0 (R : Aa) (T : List Value) (s : St) : Res :=
(JU (getL T 4) s).bind fun r29 =>
(Ak 0 r29.1).bind fun v30 =>
AA v30
 ((Ak 2 r29.1).bind fun v31 =>
(EY Tryz.prog 21 (.agg #[.nilFunc,.nilFunc,.nilFunc]) (getL T 3) v31 false r29.2).bind fun v32 =>
(Hp false 1 1 v32).bind fun v33 =>
(Ag Tryz.prog R v33 [(getL T 1),(getL T 2)] r29.2).bind fun r34 =>
some (.normal,[(getL T 0),(getL T 1),(getL T 2),(getL T 3),(getL T 4),(getL T 5)],r34.2))
 (some (.exit 0,[(getL T 0),(getL T 1),(getL T 2),(getL T 5)],r29.2))
noncomputable def Ay.j0 (R : Aa) (T : List Value) (s : St) : Option (Value × St) :=
(Ah (getL T 1)).bind fun v59 =>
(Ac 1 v59).bind fun v60 =>
(Aq false 1 v60 s).bind fun v61 =>
(abin Tryz.prog .neq 32 (.tmp 85) (.const (.int .i64 0)) v61 (.int .i64 0)).bind fun v62 =>
AA v62
 ((Ah (getL T 1)).bind fun v63 =>
(Ac 1 v63).bind fun v64 =>
(((Aq false 1 v64 s).bind fun v68 =>
some (v68,s)).bind (ownR s)).bind fun r65 =>
(AN 21 (getL T 0) (.agg #[(.int .i64 0),(.int .i64 0),(.int .i64 0),(.int .i64 0),(.int .i64 0),(.int .i64 0),(.int .u64 0),(.int .u64 0),(.int .u64 0),(.int .u64 0),(.int .u64 0),(.int .u64 0),(.int .u64 0),(.int .u64 0),(.int .u64 0),(.bool false),(.string ⟨#[]⟩),(.string ⟨#[]⟩),(.slice none 0 0),(.slice none 0 0),(.slice none 0 0)]) (getL T 3)).bind fun v66 =>
(Ao true 21 (getL T 0) v66).bind fun v67 =>
retV [v67,r65.1] r65.2)
 ((Aq true 21 (getL T 2) s).bind fun v69 =>
(AN 21 (getL T 0) v69 (getL T 3)).bind fun v70 =>
(Ao true 21 (getL T 0) v70).bind fun v71 =>
retV [v71,(.int .i64 0)] s)
noncomputable def Ay.j1 (R : Aa) (T : List Value) (s : St) : Option (Value × St) :=
(Ah (getL T 1)).bind fun v50 =>
(Ac 1 v50).bind fun v51 =>
(Aq false 1 v51 s).bind fun v52 =>
(abin Tryz.prog .eql 32 (.tmp 75) (.const (.int .i64 0)) v52 (.int .i64 0)).bind fun v53 =>
AA v53
 ((Aq true 21 (getL T 2) s).bind fun v54 =>
(Ag Tryz.prog R (.func (.func 11) #[] #[]) [v54] s).bind fun r55 =>
(Ah (getL T 1)).bind fun v56 =>
(Ac 1 v56).bind fun v57 =>
(A0 1 v57 r55.1 r55.2).bind fun s58 =>
C9 (Ay.j0 R) [(getL T 0),(getL T 1),(getL T 2),(getL T 3)] s58)
 (C9 (Ay.j0 R) [(getL T 0),(getL T 1),(getL T 2),(getL T 3)] s)
noncomputable def Ay.j2 (R : Aa) (T : List Value) (s : St) : Option (Value × St) :=
(Ag Tryz.prog R (.func (.func 35) #[] #[]) [(getL T 1)] s).bind fun r19 =>
(Ag Tryz.prog R (.func (.func 35) #[] #[]) [(getL T 1)] r19.2).bind fun r20 =>
(Ac 1 (getL T 2)).bind fun v21 =>
(A0 1 v21 r19.1 r20.2).bind fun s22 =>
(Ac 2 (getL T 2)).bind fun v23 =>
(A0 1 v23 r20.1 s22).bind fun s24 =>
(Ag Tryz.prog R (.func (.func 20) #[] #[]) [] s24).bind fun r25 =>
(Ac 0 (getL T 3)).bind fun v26 =>
(Ao false 1 v26 (getL T 5)).bind fun v27 =>
(I8 v27 r25.2).bind fun r28 =>
(AV (Ay.b0 R) [(getL T 0),(getL T 1),(getL T 2),r25.1,r28.1,(getL T 4)] r28.2).bind fun r35 =>
exV r35.1 [(0,(Ah (getL r35.2.1 1)).bind fun v37 =>
(Ac 1 v37).bind fun v38 =>
(Aq false 1 v38 r35.2.2).bind fun v39 =>
(abin Tryz.prog .eql 32 (.tmp 60) (.const (.int .i64 0)) v39 (.int .i64 0)).bind fun v40 =>
(Ai v40 true ((Ah (getL r35.2.1 1)).bind fun v41 =>
(Ac 0 v41).bind fun v42 =>
(Aq false 1 v42 r35.2.2).bind fun v43 =>
(AP (.slice 5) v43 r35.2.2).bind fun v44 =>
(abin Tryz.prog .gtr 3 (.tmp 67) (.const (.int .i64 0)) v44 (.int .i64 0)).bind fun v45 =>
some ([v45],r35.2.2)) (some ([undef],r35.2.2))).bind fun q46 =>
(AM v40 (getL q46.1 0) (.bool false)).bind fun v47 =>
AA v47
 ((Ag Tryz.prog R (.func (.func 36) #[] #[]) [(getL r35.2.1 1),(.int .i64 11)] q46.2).bind fun r48 =>
C9 (Ay.j1 R) [(getL r35.2.1 0),(getL r35.2.1 1),(getL r35.2.1 2),(getL r35.2.1 3)] r48.2)
 (C9 (Ay.j1 R) [(getL r35.2.1 0),(getL r35.2.1 1),(getL r35.2.1 2),(getL r35.2.1 3)] q46.2))]
 (none)
noncomputable def Ay (R : Aa) (x0 : Value) (s : St) : Option (Value × St) :=
(Ag Tryz.prog R (.func (.func 34) #[] #[]) [x0] s).bind fun r0 =>
(Ak 0 r0.1).bind fun v1 =>
(Ak 1 r0.1).bind fun v2 =>
(abin Tryz.prog .neq 32 (.tmp 18) (.const (.int .i64 0)) v2 (.int .i64 0)).bind fun v3 =>
AA v3
 (retV [(.agg #[(.int .i64 0),(.int .i64 0),(.int .i64 0),(.int .i64 0),(.int .i64 0),(.int .i64 0),(.int .u64 0),(.int .u64 0),(.int .u64 0),(.int .u64 0),(.int .u64 0),(.int .u64 0),(.int .u64 0),(.int .u64 0),(.int .u64 0),(.bool false),(.string ⟨#[]⟩),(.string ⟨#[]⟩),(.slice none 0 0),(.slice none 0 0),(.slice none 0 0)]),v2] r0.2)
 ((AU Tryz.prog 73 [(0,v1)]).bind fun v4 =>
(anew (An v4) r0.2).bind fun r5 =>
(Ag Tryz.prog R (.func (.func 35) #[] #[]) [r5.1] r5.2).bind fun r6 =>
(AU Tryz.prog 29 [(0,r6.1)]).bind fun v7 =>
(anew [(.int .i64 0),(.int .i64 0),(.int .i64 0),(.int .i64 0),(.int .i64 0),(.int .i64 0),(.int .u64 0),(.int .u64 0),(.int .u64 0),(.int .u64 0),(.int .u64 0),(.int .u64 0),(.int .u64 0),(.int .u64 0),(.int .u64 0),(.bool false),(.string ⟨#[]⟩),(.string ⟨#[]⟩),(.slice none 0 0),(.slice none 0 0),(.slice none 0 0)] r6.2).bind fun r8 =>
(A0 21 r8.1 v7 r8.2).bind fun s9 =>
(Ac 0 r8.1).bind fun v10 =>
(Aq false 1 v10 s9).bind fun v11 =>
(Ag Tryz.prog R (.func (.func 19) #[] #[]) [v11] s9).bind fun r12 =>
(Ak 0 r12.1).bind fun v13 =>
(Ak 1 r12.1).bind fun v14 =>
(AN 4 lptr v13 (.agg #[(.string ⟨#[]⟩),.nilFunc,.nilFunc,.nilFunc])).bind fun v15 =>
(aun .not v14).bind fun v17 =>
AA v17
 ((Ag Tryz.prog R (.func (.func 36) #[] #[]) [r5.1,(.int .i64 11)] r12.2).bind fun r18 =>
C9 (Ay.j2 R) [lptr,r5.1,r8.1,lptr,(.agg #[(.int .i64 0),(.int .i64 0),(.int .i64 0),(.int .i64 0),(.int .i64 0),(.int .i64 0),(.int .u64 0),(.int .u64 0),(.int .u64 0),(.int .u64 0),(.int .u64 0),(.int .u64 0),(.int .u64 0),(.int .u64 0),(.int .u64 0),(.bool false),(.string ⟨#[]⟩),(.string ⟨#[]⟩),(.slice none 0 0),(.slice none 0 0),(.slice none 0 0)]),v15] r18.2)
 (C9 (Ay.j2 R) [lptr,r5.1,r8.1,lptr,(.agg #[(.int .i64 0),(.int .i64 0),(.int .i64 0),(.int .i64 0),(.int .i64 0),(.int .i64 0),(.int .u64 0),(.int .u64 0),(.int .u64 0),(.int .u64 0),(.int .u64 0),(.int .u64 0),(.int .u64 0),(.int .u64 0),(.int .u64 0),(.bool false),(.string ⟨#[]⟩),(.string ⟨#[]⟩),(.slice none 0 0),(.slice none 0 0),(.slice none 0 0)]),v15] r12.2))
theorem IR {lib : Lib} (hl : lib 13 = none) {x0 : Value} {s : St} {r : Value × St} (h : Ay (run Tryz.prog lib Ad) x0 s = some r) : run Tryz.prog lib Ad 13 [x0] s = some r :=
  At hl Tryz.func13 (Eq.trans (by kernel_rfl) h)
theorem Pg : Ap Tryz.prog 13 = true := by kernel_rfl
theorem G6 {R : Aa} {xs : List Value} {s : St} : Ag Tryz.prog R (.func (.func 13) #[] #[]) xs s = R 13 xs s := Aj Pg
noncomputable def Ik (R : Aa) (x0 : Value) (s : St) : Option (Value × St) :=
(AP (.slice 5) x0 s).bind fun v0 =>
(abin Tryz.prog .gtr 3 (.tmp 7) (.const (.int .i64 4096)) v0 (.int .i64 4096)).bind fun v1 =>
AA v1
 (retV [(.slice none 0 0),(.int .i64 2)] s)
 ((Ar 1 [(.int .u8 0)] 1 [(0,(.int .u8 83))] s).bind fun r2 =>
(AP (.slice 5) x0 r2.2).bind fun v3 =>
(AK .u64 v3).bind fun v4 =>
(Ag Tryz.prog R (.func (.func 45) #[] #[]) [v4] r2.2).bind fun r5 =>
(Ar 1 [(.slice none 0 0)] 3 [(0,r2.1),(1,r5.1),(2,x0)] r5.2).bind fun r6 =>
(Ag Tryz.prog R (.func (.func 44) #[] #[]) [r6.1] r6.2).bind fun r7 =>
(Ag Tryz.prog R (.func (.func 47) #[] #[]) [r7.1] r7.2).bind fun r8 =>
(Ag Tryz.prog R (.func (.func 46) #[] #[]) [r8.1] r8.2).bind fun r9 =>
(anew [(.int .u8 0),(.int .u8 0),(.int .u8 0),(.int .u8 0)] r9.2).bind fun r10 =>
(A0 4 r10.1 r9.1 r10.2).bind fun s11 =>
(EV 4 1 r10.1 none none none s11).bind fun v12 =>
(Ar 1 [(.slice none 0 0)] 2 [(0,r7.1),(1,v12)] s11).bind fun r13 =>
(Ag Tryz.prog R (.func (.func 44) #[] #[]) [r13.1] r13.2).bind fun r14 =>
retV [r14.1,(.int .i64 0)] r14.2)
theorem Kc {lib : Lib} (hl : lib 17 = none) {x0 : Value} {s : St} {r : Value × St} (h : Ik (run Tryz.prog lib Ad) x0 s = some r) : run Tryz.prog lib Ad 17 [x0] s = some r :=
  At hl Tryz.func17 (Eq.trans (by kernel_rfl) h)
theorem Kd : Ap Tryz.prog 17 = true := by kernel_rfl
theorem NV {R : Aa} {xs : List Value} {s : St} : Ag Tryz.prog R (.func (.func 17) #[] #[]) xs s = R 17 xs s := Aj Kd
noncomputable def Jt (R : Aa) (x0 : Value) (s : St) : Option (Value × St) :=
(GC none s).bind fun r0 =>
(AU Tryz.prog 49 [(0,(.string ⟨#[113,98,111]⟩)),(1,(.func (.func 48) #[] #[])),(2,(.func (.func 49) #[] #[])),(3,(.func (.func 50) #[] #[]))]).bind fun v1 =>
(Am Tryz.prog 3 r0.1 (.int .i64 1) v1 r0.2).bind fun s2 =>
(AU Tryz.prog 49 [(0,(.string ⟨#[113,98,99,115]⟩)),(1,(.func (.func 49) #[] #[])),(2,(.func (.func 48) #[] #[])),(3,(.func (.func 52) #[] #[]))]).bind fun v3 =>
(Am Tryz.prog 3 r0.1 (.int .i64 2) v3 s2).bind fun s4 =>
(AU Tryz.prog 49 [(0,(.string ⟨#[116,108,101,111]⟩)),(1,(.func (.func 49) #[] #[])),(2,(.func (.func 54) #[] #[])),(3,(.func (.func 55) #[] #[]))]).bind fun v5 =>
(Am Tryz.prog 3 r0.1 (.int .i64 3) v5 s4).bind fun s6 =>
(AU Tryz.prog 49 [(0,(.string ⟨#[116,99,115]⟩)),(1,(.func (.func 54) #[] #[])),(2,(.func (.func 49) #[] #[])),(3,(.func (.func 57) #[] #[]))]).bind fun v7 =>
(Am Tryz.prog 3 r0.1 (.int .i64 4) v7 s6).bind fun s8 =>
(AU Tryz.prog 49 [(0,(.string ⟨#[116,102]⟩)),(1,(.func (.func 49) #[] #[])),(2,(.func (.func 54) #[] #[])),(3,(.func (.func 58) #[] #[]))]).bind fun v9 =>
(Am Tryz.prog 3 r0.1 (.int .i64 5) v9 s8).bind fun s10 =>
(AU Tryz.prog 49 [(0,(.string ⟨#[116]⟩)),(1,(.func (.func 54) #[] #[])),(2,(.func (.func 49) #[] #[])),(3,(.func (.func 58) #[] #[]))]).bind fun v11 =>
(Am Tryz.prog 3 r0.1 (.int .i64 6) v11 s10).bind fun s12 =>
(AU Tryz.prog 49 [(0,(.string ⟨#[116]⟩)),(1,(.func (.func 54) #[] #[])),(2,(.func (.func 49) #[] #[])),(3,(.func (.func 58) #[] #[]))]).bind fun v13 =>
(Am Tryz.prog 3 r0.1 (.int .i64 7) v13 s12).bind fun s14 =>
(AU Tryz.prog 49 [(0,(.string ⟨#[118,101,109,119]⟩)),(1,(.func (.func 49) #[] #[])),(2,(.func (.func 54) #[] #[])),(3,(.func (.func 59) #[] #[]))]).bind fun v15 =>
(Am Tryz.prog 3 r0.1 (.int .i64 8) v15 s14).bind fun s16 =>
(AU Tryz.prog 49 [(0,(.string ⟨#[118]⟩)),(1,(.func (.func 54) #[] #[])),(2,(.func (.func 49) #[] #[])),(3,(.func (.func 58) #[] #[]))]).bind fun v17 =>
(Am Tryz.prog 3 r0.1 (.int .i64 9) v17 s16).bind fun s18 =>
(AU Tryz.prog 49 [(0,(.string ⟨#[118,109,112,102,114]⟩)),(1,(.func (.func 49) #[] #[])),(2,(.func (.func 54) #[] #[])),(3,(.func (.func 61) #[] #[]))]).bind fun v19 =>
(Am Tryz.prog 3 r0.1 (.int .i64 10) v19 s18).bind fun s20 =>
(AU Tryz.prog 49 [(0,(.string ⟨#[109,97,110,114,111]⟩)),(1,(.func (.func 54) #[] #[])),(2,(.func (.func 54) #[] #[])),(3,(.func (.func 63) #[] #[]))]).bind fun v21 =>
(Am Tryz.prog 3 r0.1 (.int .i64 11) v21 s20).bind fun s22 =>
(AU Tryz.prog 49 [(0,(.string ⟨#[109,97,110]⟩)),(1,(.func (.func 54) #[] #[])),(2,(.func (.func 54) #[] #[])),(3,(.func (.func 67) #[] #[]))]).bind fun v23 =>
(Am Tryz.prog 3 r0.1 (.int .i64 12) v23 s22).bind fun s24 =>
(AU Tryz.prog 49 [(0,(.string ⟨#[109]⟩)),(1,(.func (.func 54) #[] #[])),(2,(.func (.func 49) #[] #[])),(3,(.func (.func 58) #[] #[]))]).bind fun v25 =>
(Am Tryz.prog 3 r0.1 (.int .i64 13) v25 s24).bind fun s26 =>
(AU Tryz.prog 49 [(0,(.string ⟨#[109]⟩)),(1,(.func (.func 54) #[] #[])),(2,(.func (.func 49) #[] #[])),(3,(.func (.func 58) #[] #[]))]).bind fun v27 =>
(Am Tryz.prog 3 r0.1 (.int .i64 14) v27 s26).bind fun s28 =>
(EY Tryz.prog 3 (.agg #[(.string ⟨#[]⟩),.nilFunc,.nilFunc,.nilFunc]) r0.1 x0 true s28).bind fun v29 =>
(Ak 0 v29).bind fun v30 =>
(Ak 1 v29).bind fun v31 =>
(AN 4 lptr v30 (.agg #[(.string ⟨#[]⟩),.nilFunc,.nilFunc,.nilFunc])).bind fun v32 =>
(Ao true 4 lptr v32).bind fun v33 =>
(AN 4 lptr v33 (.agg #[(.string ⟨#[]⟩),.nilFunc,.nilFunc,.nilFunc])).bind fun v34 =>
(Ao true 4 lptr v34).bind fun v35 =>
retV [v35,v31] s28
theorem Ph {lib : Lib} (hl : lib 19 = none) {x0 : Value} {s : St} {r : Value × St} (h : Jt (run Tryz.prog lib Ad) x0 s = some r) : run Tryz.prog lib Ad 19 [x0] s = some r :=
  At hl Tryz.func19 (Eq.trans (by kernel_rfl) h)
theorem IS : Ap Tryz.prog 19 = true := by kernel_rfl
theorem Dq {R : Aa} {xs : List Value} {s : St} : Ag Tryz.prog R (.func (.func 19) #[] #[]) xs s = R 19 xs s := Aj IS
noncomputable def wire_all (R : Aa) (s : St) : Option (Value × St) :=
(GC none s).bind fun r0 =>
(Ag Tryz.prog R (.func (.func 68) #[] #[]) [(.func (.func 69) #[] #[])] r0.2).bind fun r1 =>
(Am Tryz.prog 21 r0.1 (.int .i32 113) r1.1 r1.2).bind fun s2 =>
(Ag Tryz.prog R (.func (.func 68) #[] #[]) [(.func (.func 70) #[] #[])] s2).bind fun r3 =>
(Am Tryz.prog 21 r0.1 (.int .i32 98) r3.1 r3.2).bind fun s4 =>
(Ag Tryz.prog R (.func (.func 68) #[] #[]) [(.func (.func 71) #[] #[])] s4).bind fun r5 =>
(Am Tryz.prog 21 r0.1 (.int .i32 116) r5.1 r5.2).bind fun s6 =>
(Ag Tryz.prog R (.func (.func 68) #[] #[]) [(.func (.func 72) #[] #[])] s6).bind fun r7 =>
(Am Tryz.prog 21 r0.1 (.int .i32 108) r7.1 r7.2).bind fun s8 =>
(Ag Tryz.prog R (.func (.func 68) #[] #[]) [(.func (.func 73) #[] #[])] s8).bind fun r9 =>
(Am Tryz.prog 21 r0.1 (.int .i32 118) r9.1 r9.2).bind fun s10 =>
(Ag Tryz.prog R (.func (.func 68) #[] #[]) [(.func (.func 74) #[] #[])] s10).bind fun r11 =>
(Am Tryz.prog 21 r0.1 (.int .i32 101) r11.1 r11.2).bind fun s12 =>
(Ag Tryz.prog R (.func (.func 68) #[] #[]) [(.func (.func 75) #[] #[])] s12).bind fun r13 =>
(Am Tryz.prog 21 r0.1 (.int .i32 109) r13.1 r13.2).bind fun s14 =>
(Ag Tryz.prog R (.func (.func 68) #[] #[]) [(.func (.func 76) #[] #[])] s14).bind fun r15 =>
(Am Tryz.prog 21 r0.1 (.int .i32 97) r15.1 r15.2).bind fun s16 =>
(Ag Tryz.prog R (.func (.func 68) #[] #[]) [(.func (.func 77) #[] #[])] s16).bind fun r17 =>
(Am Tryz.prog 21 r0.1 (.int .i32 110) r17.1 r17.2).bind fun s18 =>
(Ag Tryz.prog R (.func (.func 78) #[] #[]) [(.func (.func 79) #[] #[])] s18).bind fun r19 =>
(Am Tryz.prog 21 r0.1 (.int .i32 99) r19.1 r19.2).bind fun s20 =>
(Ag Tryz.prog R (.func (.func 78) #[] #[]) [(.func (.func 80) #[] #[])] s20).bind fun r21 =>
(Am Tryz.prog 21 r0.1 (.int .i32 112) r21.1 r21.2).bind fun s22 =>
(AU Tryz.prog 58 [(0,(.func (.func 81) #[] #[])),(1,(.func (.func 83) #[] #[])),(2,(.func (.func 85) #[] #[]))]).bind fun v23 =>
(Am Tryz.prog 21 r0.1 (.int .i32 102) v23 s22).bind fun s24 =>
(AU Tryz.prog 58 [(0,(.func (.func 86) #[] #[])),(1,(.func (.func 88) #[] #[])),(2,(.func (.func 90) #[] #[]))]).bind fun v25 =>
(Am Tryz.prog 21 r0.1 (.int .i32 114) v25 s24).bind fun s26 =>
(Ag Tryz.prog R (.func (.func 91) #[] #[]) [(.func (.func 92) #[] #[]),(.func (.func 93) #[] #[]),(.func (.func 94) #[] #[])] s26).bind fun r27 =>
(Am Tryz.prog 21 r0.1 (.int .i32 111) r27.1 r27.2).bind fun s28 =>
(Ag Tryz.prog R (.func (.func 95) #[] #[]) [(.func (.func 96) #[] #[]),(.func (.func 97) #[] #[]),(.func (.func 98) #[] #[])] s28).bind fun r29 =>
(Am Tryz.prog 21 r0.1 (.int .i32 115) r29.1 r29.2).bind fun s30 =>
(Ag Tryz.prog R (.func (.func 99) #[] #[]) [(.func (.func 100) #[] #[]),(.func (.func 101) #[] #[]),(.func (.func 102) #[] #[])] s30).bind fun r31 =>
(Am Tryz.prog 21 r0.1 (.int .i32 119) r31.1 r31.2).bind fun s32 =>
retV [r0.1] s32
theorem Ub {lib : Lib} (hl : lib 20 = none) {s : St} {r : Value × St} (h : wire_all (run Tryz.prog lib Ad)  s = some r) : run Tryz.prog lib Ad 20 [] s = some r :=
  At hl Tryz.func20 (Eq.trans (by kernel_rfl) h)
theorem Uc : Ap Tryz.prog 20 = true := by kernel_rfl
theorem GM {R : Aa} {xs : List Value} {s : St} : Ag Tryz.prog R (.func (.func 20) #[] #[]) xs s = R 20 xs s := Aj Uc
noncomputable def Il (R : Aa) (x0 : Value) (s : St) : Option (Value × St) :=
(AP (.slice 5) x0 s).bind fun v0 =>
(abin Tryz.prog .gtr 3 (.tmp 7) (.const (.int .i64 4096)) v0 (.int .i64 4096)).bind fun v1 =>
AA v1
 (retV [(.slice none 0 0),(.int .i64 2)] s)
 ((Ar 1 [(.int .u8 0)] 1 [(0,(.int .u8 83))] s).bind fun r2 =>
(AP (.slice 5) x0 r2.2).bind fun v3 =>
(AK .u64 v3).bind fun v4 =>
(Ag Tryz.prog R (.func (.func 103) #[] #[]) [v4] r2.2).bind fun r5 =>
(AD 1 1 r2.1 r5.1 r5.2).bind fun r6 =>
(AD 1 1 r6.1 x0 r6.2).bind fun r7 =>
(Ag Tryz.prog R (.func (.func 105) #[] #[]) [r7.1] r7.2).bind fun r8 =>
(Ag Tryz.prog R (.func (.func 104) #[] #[]) [r8.1] r8.2).bind fun r9 =>
(AN 4 lptr r9.1 (.agg #[(.int .u8 0),(.int .u8 0),(.int .u8 0),(.int .u8 0)])).bind fun v10 =>
(Ao false 1 lptr v10).bind fun v11 =>
(Ao false 1 (.pointer (some ⟨0,1,none⟩)) v10).bind fun v12 =>
(Ao false 1 (.pointer (some ⟨0,2,none⟩)) v10).bind fun v13 =>
(Ao false 1 (.pointer (some ⟨0,3,none⟩)) v10).bind fun v14 =>
(Ar 1 [(.int .u8 0)] 4 [(0,v11),(1,v12),(2,v13),(3,v14)] r9.2).bind fun r15 =>
(AD 1 1 r7.1 r15.1 r15.2).bind fun r16 =>
retV [r16.1,(.int .i64 0)] r16.2)
theorem Ke {lib : Lib} (hl : lib 21 = none) {x0 : Value} {s : St} {r : Value × St} (h : Il (run Tryz.prog lib Ad) x0 s = some r) : run Tryz.prog lib Ad 21 [x0] s = some r :=
  At hl Tryz.func21 (Eq.trans (by kernel_rfl) h)
theorem QW : Ap Tryz.prog 21 = true := by kernel_rfl
noncomputable def slices_Contains_rune_rune (R : Aa) (x0 x1 : Value) (s : St) : Option (Value × St) :=
(Ag Tryz.prog R (.func (.func 111) #[] #[]) [x0,x1] s).bind fun r0 =>
(abin Tryz.prog .geq 3 (.tmp 7) (.const (.int .i64 0)) r0.1 (.int .i64 0)).bind fun v1 =>
retV [v1] r0.2
theorem EI {lib : Lib} (hl : lib 23 = none) {x0 x1 : Value} {s : St} {r : Value × St} (h : slices_Contains_rune_rune (run Tryz.prog lib Ad) x0 x1 s = some r) : run Tryz.prog lib Ad 23 [x0,x1] s = some r :=
  At hl Tryz.func23 (Eq.trans (by kernel_rfl) h)
theorem EJ : Ap Tryz.prog 23 = true := by kernel_rfl
theorem Ef {R : Aa} {xs : List Value} {s : St} : Ag Tryz.prog R (.func (.func 23) #[] #[]) xs s = R 23 xs s := Aj EJ
noncomputable def Ju (R : Aa) (x0 : Value) (s : St) : Option (Value × St) :=
(AP (.slice 69) x0 s).bind fun v0 =>
(abin Tryz.prog .lss 3 (.tmp 4) (.const (.int .i64 1)) v0 (.int .i64 1)).bind fun v1 =>
(Ai v1 false ((AP (.slice 69) x0 s).bind fun v2 =>
(abin Tryz.prog .gtr 3 (.tmp 8) (.const (.int .i64 4)) v2 (.int .i64 4)).bind fun v3 =>
some ([v3],s)) (some ([undef],s))).bind fun q4 =>
(AM v1 (.bool true) (getL q4.1 0)).bind fun v5 =>
AA v5
 (retV [(.int .i64 3)] q4.2)
 ((Ag Tryz.prog R (.func (.func 29) #[] #[]) [x0] q4.2).bind fun r6 =>
retV [r6.1] r6.2)
theorem Pi {lib : Lib} (hl : lib 27 = none) {x0 : Value} {s : St} {r : Value × St} (h : Ju (run Tryz.prog lib Ad) x0 s = some r) : run Tryz.prog lib Ad 27 [x0] s = some r :=
  At hl Tryz.func27 (Eq.trans (by kernel_rfl) h)
theorem Pj : Ap Tryz.prog 27 = true := by kernel_rfl
noncomputable def Eg.b0 (R : Aa) (T : List Value) (s : St) : Res :=
(abin Tryz.prog .lss 3 (.tmp 8) (.tmp 7) (getL T 2) (getL T 1)).bind fun v1 =>
AA v1
 ((AC 6 (getL T 0) (getL T 2)).bind fun v2 =>
(Aq true 6 v2 s).bind fun v3 =>
(AN 6 lptr v3 (.agg #[(.int .i64 0),(.string ⟨#[]⟩),(.string ⟨#[]⟩),(.string ⟨#[]⟩),(.string ⟨#[]⟩),(.int .i64 0)])).bind fun v4 =>
(Ao true 6 lptr v4).bind fun v5 =>
(Ag Tryz.prog R (.func (.func 115) #[] #[]) [v5] s).bind fun r6 =>
(abin Tryz.prog .neq 32 (.tmp 14) (.const (.int .i64 0)) r6.1 (.int .i64 0)).bind fun v7 =>
AA v7
 (some (.ret,[r6.1],r6.2))
 ((abin Tryz.prog .add 3 (.tmp 8) (.const (.int .i64 1)) (getL T 2) (.int .i64 1)).bind fun v8 =>
some (.normal,[(getL T 0),(getL T 1),v8],r6.2)))
 (some (.exit 0,[],s))
noncomputable def Eg (R : Aa) (x0 : Value) (s : St) : Option (Value × St) :=
(AP (.slice 69) x0 s).bind fun v0 =>
(AV (Eg.b0 R) [x0,v0,(.int .i64 0)] s).bind fun r9 =>
exV r9.1 [(0,retV [(.int .i64 0)] r9.2.2)]
 (retV [(getL r9.2.1 0)] r9.2.2)
theorem SI {lib : Lib} (hl : lib 29 = none) {x0 : Value} {s : St} {r : Value × St} (h : Eg (run Tryz.prog lib Ad) x0 s = some r) : run Tryz.prog lib Ad 29 [x0] s = some r :=
  At hl Tryz.func29 (Eq.trans (by kernel_rfl) h)
theorem LR : Ap Tryz.prog 29 = true := by kernel_rfl
theorem Pk {R : Aa} {xs : List Value} {s : St} : Ag Tryz.prog R (.func (.func 29) #[] #[]) xs s = R 29 xs s := Aj LR
noncomputable def Cv.b0 (R : Aa) (T : List Value) (s : St) : Res :=
(abin Tryz.prog .lss 3 (.tmp 22) (.tmp 21) (getL T 3) (getL T 2)).bind fun v13 =>
AA v13
 ((AC 2 (getL T 1) (getL T 3)).bind fun v14 =>
(Aq true 2 v14 s).bind fun v15 =>
(AN 2 lptr v15 (.agg #[(.string ⟨#[]⟩),(.int .i64 0)])).bind fun v16 =>
(Ao false 1 (.pointer (some ⟨0,1,none⟩)) v16).bind fun v17 =>
(abin Tryz.prog .lss 3 (.tmp 28) (.const (.int .i64 1)) v17 (.int .i64 1)).bind fun v18 =>
(Ai v18 false (some ([(.pointer (some ⟨0,1,none⟩))],s)) (some ([undef],s))).bind fun q19 =>
(Ai v18 false ((Ao false 1 (getL q19.1 0) v16).bind fun v20 =>
some ([v20],q19.2)) (some ([undef],q19.2))).bind fun q21 =>
(Ai v18 false ((abin Tryz.prog .gtr 3 (.tmp 32) (.const (.int .i64 4)) (getL q21.1 0) (.int .i64 4)).bind fun v22 =>
some ([v22],q21.2)) (some ([undef],q21.2))).bind fun q23 =>
(AM v18 (.bool true) (getL q23.1 0)).bind fun v24 =>
(Ai v24 false (some ([(getL T 3)],q23.2)) (some ([undef],q23.2))).bind fun q25 =>
(Ai v24 false ((abin Tryz.prog .gtr 3 (.tmp 36) (.const (.int .i64 0)) (getL q25.1 0) (.int .i64 0)).bind fun v26 =>
some ([v26],q25.2)) (some ([undef],q25.2))).bind fun q27 =>
(Ai v24 false (some ([(getL q27.1 0)],q27.2)) (some ([undef],q27.2))).bind fun q28 =>
(Ai (getL q28.1 0) true (some ([lptr],q28.2)) (some ([undef],q28.2))).bind fun q29 =>
(Ai (getL q28.1 0) true ((Ao false 1 (getL q29.1 0) v16).bind fun v30 =>
some ([v30],q29.2)) (some ([undef],q29.2))).bind fun q31 =>
((Ai (getL q28.1 0) true ((Ag Tryz.prog R (.func (.func 114) #[] #[]) [(getL q31.1 0)] q31.2).bind fun r57 =>
some (r57.1,r57.2)) (some (undef,q31.2))).bind (ownR q31.2)).bind fun r32 =>
(Ai (getL q28.1 0) true ((abin Tryz.prog .neq 32 (.tmp 41) (.const (.int .i64 0)) r32.1 (.int .i64 0)).bind fun v33 =>
some ([v33],r32.2)) (some ([undef],r32.2))).bind fun q34 =>
(Ai (getL q28.1 0) true (some ([(getL q34.1 0)],q34.2)) (some ([undef],q34.2))).bind fun q35 =>
(Ai (getL q35.1 0) false (some ([(getL T 0)],q35.2)) (some ([undef],q35.2))).bind fun q36 =>
(Ai (getL q35.1 0) false (some ([(getL T 3)],q36.2)) (some ([undef],q36.2))).bind fun q37 =>
(Ai (getL q35.1 0) false ((abin Tryz.prog .sub 3 (.tmp 45) (.const (.int .i64 1)) (getL q37.1 0) (.int .i64 1)).bind fun v38 =>
some ([v38],q37.2)) (some ([undef],q37.2))).bind fun q39 =>
(Ai (getL q35.1 0) false ((AC 2 (getL q36.1 0) (getL q39.1 0)).bind fun v40 =>
some ([v40],q39.2)) (some ([undef],q39.2))).bind fun q41 =>
(Ai (getL q35.1 0) false ((Ac 0 (getL q41.1 0)).bind fun v42 =>
some ([v42],q41.2)) (some ([undef],q41.2))).bind fun q43 =>
((Ai (getL q35.1 0) false ((Aq false 1 (getL q43.1 0) q43.2).bind fun v56 =>
some (v56,q43.2)) (some (undef,q43.2))).bind (ownR q43.2)).bind fun r44 =>
(Ai (getL q35.1 0) false (some ([lptr],r44.2)) (some ([undef],r44.2))).bind fun q45 =>
(Ai (getL q35.1 0) false ((Ao false 1 (getL q45.1 0) v16).bind fun v46 =>
some ([v46],q45.2)) (some ([undef],q45.2))).bind fun q47 =>
(Ai (getL q35.1 0) false ((abin Tryz.prog .geq 9 (.tmp 49) (.tmp 51) r44.1 (getL q47.1 0)).bind fun v48 =>
some ([v48],q47.2)) (some ([undef],q47.2))).bind fun q49 =>
(Ai (getL q28.1 0) true ((AM (getL q35.1 0) (.bool true) (getL q49.1 0)).bind fun v50 =>
some ([v50],q49.2)) (some ([undef],q49.2))).bind fun q51 =>
(Ai v24 false ((AM (getL q28.1 0) (getL q51.1 0) (.bool false)).bind fun v52 =>
some ([v52],q51.2)) (some ([undef],q51.2))).bind fun q53 =>
(AM v24 (.bool true) (getL q53.1 0)).bind fun v54 =>
AA v54
 (some (.ret,[(.int .i64 170)],q53.2))
 ((abin Tryz.prog .add 3 (.tmp 22) (.const (.int .i64 1)) (getL T 3) (.int .i64 1)).bind fun v55 =>
some (.normal,[(getL T 0),(getL T 1),(getL T 2),v55],q53.2)))
 (some (.exit 0,[],s))
noncomputable def Cv (R : Aa) (x0 : Value) (s : St) : Option (Value × St) :=
(AP (.slice 91) x0 s).bind fun v0 =>
(abin Tryz.prog .lss 3 (.tmp 6) (.const (.int .i64 1)) v0 (.int .i64 1)).bind fun v1 =>
(Ai v1 false ((AP (.slice 91) x0 s).bind fun v2 =>
(abin Tryz.prog .gtr 3 (.tmp 10) (.const (.int .i64 6)) v2 (.int .i64 6)).bind fun v3 =>
some ([v3],s)) (some ([undef],s))).bind fun q4 =>
(AM v1 (.bool true) (getL q4.1 0)).bind fun v5 =>
(Ai v5 false ((AC 2 x0 (.int .i64 0)).bind fun v6 =>
(Ac 0 v6).bind fun v7 =>
(Aq false 1 v7 q4.2).bind fun v8 =>
(abin Tryz.prog .neq 9 (.tmp 17) (.const (.string ⟨#[]⟩)) v8 (.string ⟨#[]⟩)).bind fun v9 =>
some ([v9],q4.2)) (some ([undef],q4.2))).bind fun q10 =>
(AM v5 (.bool true) (getL q10.1 0)).bind fun v11 =>
AA v11
 (retV [(.int .i64 170)] q10.2)
 ((AP (.slice 91) x0 q10.2).bind fun v12 =>
(AV (Cv.b0 R) [x0,x0,v12,(.int .i64 0)] q10.2).bind fun r58 =>
exV r58.1 [(0,retV [(.int .i64 0)] r58.2.2)]
 (retV [(getL r58.2.1 0)] r58.2.2))
theorem Pl {lib : Lib} (hl : lib 30 = none) {x0 : Value} {s : St} {r : Value × St} (h : Cv (run Tryz.prog lib Ad) x0 s = some r) : run Tryz.prog lib Ad 30 [x0] s = some r :=
  At hl Tryz.func30 (Eq.trans (by kernel_rfl) h)
theorem Pm : Ap Tryz.prog 30 = true := by kernel_rfl
noncomputable def Jv (R : Aa) (x0 : Value) (s : St) : Option (Value × St) :=
(lbox x0).bind fun v0 =>
(Ao false 1 lptr v0).bind fun v1 =>
(AP .string v1 s).bind fun v2 =>
(abin Tryz.prog .gtr 3 (.tmp 5) (.const (.int .i64 12)) v2 (.int .i64 12)).bind fun v3 =>
(Ai v3 false ((Ao false 1 (.pointer (some ⟨0,1,none⟩)) v0).bind fun v4 =>
(AP .string v4 s).bind fun v5 =>
(abin Tryz.prog .gtr 3 (.tmp 10) (.const (.int .i64 12)) v5 (.int .i64 12)).bind fun v6 =>
some ([v6],s)) (some ([undef],s))).bind fun q7 =>
(AM v3 (.bool true) (getL q7.1 0)).bind fun v8 =>
(Ai v8 false ((Ao false 1 (.pointer (some ⟨0,1,none⟩)) v0).bind fun v9 =>
(abin Tryz.prog .neq 9 (.tmp 15) (.const (.string ⟨#[]⟩)) v9 (.string ⟨#[]⟩)).bind fun v10 =>
some ([v10],q7.2)) (some ([undef],q7.2))).bind fun q11 =>
(Ai (getL q11.1 0) true ((Ao false 1 lptr v0).bind fun v12 =>
(Ao false 1 (.pointer (some ⟨0,1,none⟩)) v0).bind fun v13 =>
(abin Tryz.prog .geq 9 (.tmp 19) (.tmp 21) v12 v13).bind fun v14 =>
some ([v14],q11.2)) (some ([undef],q11.2))).bind fun q15 =>
(Ai v8 false ((AM (getL q11.1 0) (getL q15.1 0) (.bool false)).bind fun v16 =>
some ([v16],q15.2)) (some ([undef],q15.2))).bind fun q17 =>
(AM v8 (.bool true) (getL q17.1 0)).bind fun v18 =>
AA v18
 (retV [(.int .i64 21)] q17.2)
 (retV [(.int .i64 0)] q17.2)
theorem Pn {lib : Lib} (hl : lib 32 = none) {x0 : Value} {s : St} {r : Value × St} (h : Jv (run Tryz.prog lib Ad) x0 s = some r) : run Tryz.prog lib Ad 32 [x0] s = some r :=
  At hl Tryz.func32 (Eq.trans (by kernel_rfl) h)
theorem IT : Ap Tryz.prog 32 = true := by kernel_rfl
theorem Mh {R : Aa} {xs : List Value} {s : St} : Ag Tryz.prog R (.func (.func 32) #[] #[]) xs s = R 32 xs s := Aj IT
noncomputable def HK (R : Aa) (x0 : Value) (s : St) : Option (Value × St) :=
(lbox x0).bind fun v0 =>
(Ao false 1 lptr v0).bind fun v1 =>
(abin Tryz.prog .eql 3 (.tmp 4) (.const (.int .i64 2)) v1 (.int .i64 2)).bind fun v2 =>
(Ai v2 false ((Ao false 1 lptr v0).bind fun v3 =>
(abin Tryz.prog .eql 3 (.tmp 8) (.const (.int .i64 3)) v3 (.int .i64 3)).bind fun v4 =>
some ([v4],s)) (some ([undef],s))).bind fun q5 =>
(AM v2 (.bool true) (getL q5.1 0)).bind fun v6 =>
(Ai v6 false ((Ao false 1 lptr v0).bind fun v7 =>
(abin Tryz.prog .eql 3 (.tmp 13) (.const (.int .i64 5)) v7 (.int .i64 5)).bind fun v8 =>
some ([v8],q5.2)) (some ([undef],q5.2))).bind fun q9 =>
(AM v6 (.bool true) (getL q9.1 0)).bind fun v10 =>
retV [v10] q9.2
theorem NW {lib : Lib} (hl : lib 33 = none) {x0 : Value} {s : St} {r : Value × St} (h : HK (run Tryz.prog lib Ad) x0 s = some r) : run Tryz.prog lib Ad 33 [x0] s = some r :=
  At hl Tryz.func33 (Eq.trans (by kernel_rfl) h)
theorem NX : Ap Tryz.prog 33 = true := by kernel_rfl
noncomputable def Im (R : Aa) (x0 : Value) (s : St) : Option (Value × St) :=
(AP (.slice 5) x0 s).bind fun v0 =>
(abin Tryz.prog .gtr 3 (.tmp 13) (.const (.int .i64 4103)) v0 (.int .i64 4103)).bind fun v1 =>
AA v1
 (retV [(.slice none 0 0),(.int .i64 2)] s)
 ((AP (.slice 5) x0 s).bind fun v2 =>
(abin Tryz.prog .lss 3 (.tmp 16) (.const (.int .i64 6)) v2 (.int .i64 6)).bind fun v3 =>
AA v3
 (retV [(.slice none 0 0),(.int .i64 10)] s)
 ((AP (.slice 5) x0 s).bind fun v4 =>
(abin Tryz.prog .sub 3 (.tmp 19) (.const (.int .i64 4)) v4 (.int .i64 4)).bind fun v5 =>
(Bj 1 x0 none (some v5) (some v5)).bind fun v6 =>
(Bj 1 x0 (some v5) none none).bind fun v7 =>
(Ag Tryz.prog R (.func (.func 116) #[] #[]) [v7] s).bind fun r8 =>
(Ak 0 r8.1).bind fun v9 =>
(Ak 1 r8.1).bind fun v10 =>
(abin Tryz.prog .neq 32 (.tmp 33) (.const (.int .i64 0)) v10 (.int .i64 0)).bind fun v11 =>
(Ai v11 false ((Ag Tryz.prog R (.func (.func 47) #[] #[]) [v6] r8.2).bind fun r12 =>
(abin Tryz.prog .neq 44 (.tmp 36) (.tmp 38) v9 r12.1).bind fun v13 =>
some ([v13],r12.2)) (some ([undef],r8.2))).bind fun q14 =>
(AM v11 (.bool true) (getL q14.1 0)).bind fun v15 =>
AA v15
 (retV [(.slice none 0 0),(.int .i64 50)] q14.2)
 ((Bj 1 v6 (some (.int .i64 1)) none none).bind fun v16 =>
(Ag Tryz.prog R (.func (.func 117) #[] #[]) [v16] q14.2).bind fun r17 =>
(Ak 0 r17.1).bind fun v18 =>
(Ak 1 r17.1).bind fun v19 =>
(Ak 2 r17.1).bind fun v20 =>
(AC 1 v6 (.int .i64 0)).bind fun v21 =>
(Aq false 1 v21 r17.2).bind fun v22 =>
(abin Tryz.prog .neq 5 (.tmp 50) (.const (.int .u8 83)) v22 (.int .u8 83)).bind fun v23 =>
(Ai v23 false ((abin Tryz.prog .neq 32 (.tmp 53) (.const (.int .i64 0)) v20 (.int .i64 0)).bind fun v24 =>
some ([v24],r17.2)) (some ([undef],r17.2))).bind fun q25 =>
(AM v23 (.bool true) (getL q25.1 0)).bind fun v26 =>
(Ai v26 false ((abin Tryz.prog .gtr 22 (.tmp 57) (.const (.int .u64 4096)) v18 (.int .u64 4096)).bind fun v27 =>
some ([v27],q25.2)) (some ([undef],q25.2))).bind fun q28 =>
(AM v26 (.bool true) (getL q28.1 0)).bind fun v29 =>
(Ai v29 false ((AP (.slice 5) v6 q28.2).bind fun v30 =>
(abin Tryz.prog .add 3 (.const (.int .i64 1)) (.tmp 63) (.int .i64 1) v19).bind fun v31 =>
(AK .i64 v18).bind fun v32 =>
(abin Tryz.prog .add 3 (.tmp 64) (.tmp 66) v31 v32).bind fun v33 =>
(abin Tryz.prog .neq 3 (.tmp 62) (.tmp 67) v30 v33).bind fun v34 =>
some ([v34],q28.2)) (some ([undef],q28.2))).bind fun q35 =>
(AM v29 (.bool true) (getL q35.1 0)).bind fun v36 =>
AA v36
 (retV [(.slice none 0 0),(.int .i64 11)] q35.2)
 ((abin Tryz.prog .add 3 (.const (.int .i64 1)) (.tmp 71) (.int .i64 1) v19).bind fun v37 =>
(Bj 1 v6 (some v37) none none).bind fun v38 =>
(Ag Tryz.prog R (.func (.func 118) #[] #[]) [v38] q35.2).bind fun r39 =>
retV [r39.1,(.int .i64 0)] r39.2))))
theorem Kf {lib : Lib} (hl : lib 34 = none) {x0 : Value} {s : St} {r : Value × St} (h : Im (run Tryz.prog lib Ad) x0 s = some r) : run Tryz.prog lib Ad 34 [x0] s = some r :=
  At hl Tryz.func34 (Eq.trans (by kernel_rfl) h)
theorem Kg : Ap Tryz.prog 34 = true := by kernel_rfl
theorem HL {R : Aa} {xs : List Value} {s : St} : Ag Tryz.prog R (.func (.func 34) #[] #[]) xs s = R 34 xs s := Aj Kg
noncomputable def Bf.j0 (R : Aa) (T : List Value) (s : St) : Option (Value × St) :=
(Ah (getL T 0)).bind fun v13 =>
(Ac 1 v13).bind fun v14 =>
(Aq false 1 v14 s).bind fun v15 =>
(abin Tryz.prog .neq 32 (.tmp 22) (.const (.int .i64 0)) v15 (.int .i64 0)).bind fun v16 =>
AA v16
 (retV [(.int .i64 0)] s)
 ((Ah (getL T 0)).bind fun v17 =>
(Ac 0 v17).bind fun v18 =>
(Aq false 1 v18 s).bind fun v19 =>
(AC 1 v19 (.int .i64 0)).bind fun v20 =>
(Aq false 1 v20 s).bind fun v21 =>
(Ah (getL T 0)).bind fun v22 =>
(Ac 0 v22).bind fun v23 =>
(Aq false 1 v23 s).bind fun v24 =>
(Bj 1 v24 (some (.int .i64 1)) none none).bind fun v25 =>
(Ah (getL T 0)).bind fun v26 =>
(Ac 0 v26).bind fun v27 =>
(A0 1 v27 v25 s).bind fun s28 =>
(AK .i64 v21).bind fun v29 =>
retV [v29] s28)
noncomputable def Bf (R : Aa) (x0 : Value) (s : St) : Option (Value × St) :=
(Ah x0).bind fun v1 =>
(Ac 1 v1).bind fun v2 =>
(Aq false 1 v2 s).bind fun v3 =>
(abin Tryz.prog .eql 32 (.tmp 7) (.const (.int .i64 0)) v3 (.int .i64 0)).bind fun v4 =>
(Ai v4 true ((Ah x0).bind fun v5 =>
(Ac 0 v5).bind fun v6 =>
(Aq false 1 v6 s).bind fun v7 =>
(AP (.slice 5) v7 s).bind fun v8 =>
(abin Tryz.prog .eql 3 (.tmp 14) (.const (.int .i64 0)) v8 (.int .i64 0)).bind fun v9 =>
some ([v9],s)) (some ([undef],s))).bind fun q10 =>
(AM v4 (getL q10.1 0) (.bool false)).bind fun v11 =>
AA v11
 ((Ag Tryz.prog R (.func (.func 36) #[] #[]) [x0,(.int .i64 10)] q10.2).bind fun r12 =>
C9 (Bf.j0 R) [x0] r12.2)
 (C9 (Bf.j0 R) [x0] q10.2)
theorem Du {lib : Lib} (hl : lib 35 = none) {x0 : Value} {s : St} {r : Value × St} (h : Bf (run Tryz.prog lib Ad) x0 s = some r) : run Tryz.prog lib Ad 35 [x0] s = some r :=
  At hl Tryz.func35 (Eq.trans (by kernel_rfl) h)
theorem Jw : Ap Tryz.prog 35 = true := by kernel_rfl
theorem Bc {R : Aa} {xs : List Value} {s : St} : Ag Tryz.prog R (.func (.func 35) #[] #[]) xs s = R 35 xs s := Aj Jw
noncomputable def Ew (R : Aa) (x0 x1 : Value) (s : St) : Option (Value × St) :=
(Ah x0).bind fun v0 =>
(Ac 1 v0).bind fun v1 =>
(Aq false 1 v1 s).bind fun v2 =>
(abin Tryz.prog .eql 32 (.tmp 7) (.const (.int .i64 0)) v2 (.int .i64 0)).bind fun v3 =>
AA v3
 ((Ah x0).bind fun v4 =>
(Ac 1 v4).bind fun v5 =>
(A0 1 v5 x1 s).bind fun s6 =>
retV [] s6)
 (retV [] s)
theorem E8 {lib : Lib} (hl : lib 36 = none) {x0 x1 : Value} {s : St} {r : Value × St} (h : Ew (run Tryz.prog lib Ad) x0 x1 s = some r) : run Tryz.prog lib Ad 36 [x0,x1] s = some r :=
  At hl Tryz.func36 (Eq.trans (by kernel_rfl) h)
theorem Jx : Ap Tryz.prog 36 = true := by kernel_rfl
theorem A5 {R : Aa} {xs : List Value} {s : St} : Ag Tryz.prog R (.func (.func 36) #[] #[]) xs s = R 36 xs s := Aj Jx
noncomputable def In (R : Aa) (x0 : Value) (s : St) : Option (Value × St) :=
(AP (.slice 5) x0 s).bind fun v0 =>
(abin Tryz.prog .gtr 3 (.tmp 11) (.const (.int .i64 4103)) v0 (.int .i64 4103)).bind fun v1 =>
AA v1
 (retV [(.slice none 0 0),(.int .i64 2)] s)
 ((AP (.slice 5) x0 s).bind fun v2 =>
(abin Tryz.prog .lss 3 (.tmp 14) (.const (.int .i64 6)) v2 (.int .i64 6)).bind fun v3 =>
AA v3
 (retV [(.slice none 0 0),(.int .i64 10)] s)
 ((AP (.slice 5) x0 s).bind fun v4 =>
(abin Tryz.prog .sub 3 (.tmp 17) (.const (.int .i64 4)) v4 (.int .i64 4)).bind fun v5 =>
(Bj 1 x0 (some v5) none none).bind fun v6 =>
(Ag Tryz.prog R (.func (.func 119) #[] #[]) [v6] s).bind fun r7 =>
(Ak 0 r7.1).bind fun v8 =>
(Ak 1 r7.1).bind fun v9 =>
(Bj 1 x0 none (some v5) none).bind fun v10 =>
(Ag Tryz.prog R (.func (.func 105) #[] #[]) [v10] r7.2).bind fun r11 =>
(abin Tryz.prog .neq 44 (.tmp 26) (.tmp 30) v8 r11.1).bind fun v12 =>
AA v12
 (retV [(.slice none 0 0),(.int .i64 50)] r11.2)
 ((Bj 1 x0 (some (.int .i64 1)) (some v5) none).bind fun v13 =>
(Ag Tryz.prog R (.func (.func 120) #[] #[]) [v13] r11.2).bind fun r14 =>
(Ak 0 r14.1).bind fun v15 =>
(Ak 1 r14.1).bind fun v16 =>
(Ak 2 r14.1).bind fun v17 =>
(AC 1 x0 (.int .i64 0)).bind fun v18 =>
(Aq false 1 v18 r14.2).bind fun v19 =>
(abin Tryz.prog .neq 5 (.tmp 42) (.const (.int .u8 83)) v19 (.int .u8 83)).bind fun v20 =>
(Ai v20 false ((abin Tryz.prog .neq 32 (.tmp 45) (.const (.int .i64 0)) v17 (.int .i64 0)).bind fun v21 =>
some ([v21],r14.2)) (some ([undef],r14.2))).bind fun q22 =>
(AM v20 (.bool true) (getL q22.1 0)).bind fun v23 =>
(Ai v23 false ((abin Tryz.prog .gtr 22 (.tmp 49) (.const (.int .u64 4096)) v15 (.int .u64 4096)).bind fun v24 =>
some ([v24],q22.2)) (some ([undef],q22.2))).bind fun q25 =>
(AM v23 (.bool true) (getL q25.1 0)).bind fun v26 =>
(Ai v26 false ((AK .i64 v15).bind fun v27 =>
(abin Tryz.prog .sub 3 (.tmp 55) (.const (.int .i64 1)) v5 (.int .i64 1)).bind fun v28 =>
(abin Tryz.prog .sub 3 (.tmp 56) (.tmp 57) v28 v16).bind fun v29 =>
(abin Tryz.prog .neq 3 (.tmp 54) (.tmp 58) v27 v29).bind fun v30 =>
some ([v30],q25.2)) (some ([undef],q25.2))).bind fun q31 =>
(AM v26 (.bool true) (getL q31.1 0)).bind fun v32 =>
AA v32
 (retV [(.slice none 0 0),(.int .i64 11)] q31.2)
 ((abin Tryz.prog .add 3 (.const (.int .i64 1)) (.tmp 62) (.int .i64 1) v16).bind fun v33 =>
(Bj 1 x0 (some v33) (some v5) none).bind fun v34 =>
(AD 1 1 (.slice none 0 0) v34 q31.2).bind fun r35 =>
retV [r35.1,(.int .i64 0)] r35.2))))
theorem GN {lib : Lib} (hl : lib 37 = none) {x0 : Value} {s : St} {r : Value × St} (h : In (run Tryz.prog lib Ad) x0 s = some r) : run Tryz.prog lib Ad 37 [x0] s = some r :=
  At hl Tryz.func37 (Eq.trans (by kernel_rfl) h)
theorem QX : Ap Tryz.prog 37 = true := by kernel_rfl
noncomputable def Au.j0 (R : Aa) (T : List Value) (s : St) : Res :=
(abin Tryz.prog .add 3 (.tmp 11) (.const (.int .i64 1)) (getL T 4) (.int .i64 1)).bind fun v9 =>
some (.normal,[(getL T 0),(getL T 1),(getL T 2),(getL T 3),v9],s)
noncomputable def Au.b0 (R : Aa) (T : List Value) (s : St) : Res :=
(abin Tryz.prog .lss 3 (.tmp 11) (.tmp 10) (getL T 4) (getL T 3)).bind fun v1 =>
AA v1
 ((AC 1 (getL T 2) (getL T 4)).bind fun v3 =>
(Aq false 1 v3 s).bind fun v4 =>
(AP (.slice 5) v4 s).bind fun v5 =>
(abin Tryz.prog .add 3 (.tmp 15) (.tmp 17) (getL T 1) v5).bind fun v6 =>
(abin Tryz.prog .lss 3 (.tmp 19) (.const (.int .i64 0)) v6 (.int .i64 0)).bind fun v7 =>
AA v7
 ((UR 9 (.string ⟨#[108,101,110,32,111,117,116,32,111,102,32,114,97,110,103,101]⟩)).bind fun v8 =>
none)
 (C9 (Au.j0 R) [(getL T 0),v6,(getL T 2),(getL T 3),(getL T 4)] s))
 (some (.exit 0,[(getL T 0),(getL T 1)],s))
noncomputable def Au.b1 (R : Aa) (T : List Value) (s : St) : Res :=
(abin Tryz.prog .lss 3 (.tmp 27) (.tmp 26) (getL T 3) (getL T 2)).bind fun v13 =>
AA v13
 ((AC 1 (getL T 1) (getL T 3)).bind fun v14 =>
(Aq false 1 v14 s).bind fun v15 =>
(AD 1 1 (getL T 0) v15 s).bind fun r16 =>
(abin Tryz.prog .add 3 (.tmp 27) (.const (.int .i64 1)) (getL T 3) (.int .i64 1)).bind fun v17 =>
some (.normal,[r16.1,(getL T 1),(getL T 2),v17],r16.2))
 (some (.exit 2,[(getL T 0)],s))
noncomputable def Au (R : Aa) (x0 : Value) (s : St) : Option (Value × St) :=
(AP (.slice 31) x0 s).bind fun v0 =>
(AV (Au.b0 R) [x0,(.int .i64 0),x0,v0,(.int .i64 0)] s).bind fun r10 =>
exV r10.1 [(0,(Ag Tryz.prog R (.func (.func 129) #[] #[]) [(.slice none 0 0),(getL r10.2.1 1)] r10.2.2).bind fun r11 =>
(AP (.slice 31) (getL r10.2.1 0) r11.2).bind fun v12 =>
(AV (Au.b1 R) [r11.1,(getL r10.2.1 0),v12,(.int .i64 0)] r11.2).bind fun r18 =>
exV r18.1 [(2,retV [(getL r18.2.1 0)] r18.2.2)]
 (none))]
 (none)
theorem Fp {lib : Lib} (hl : lib 44 = none) {x0 : Value} {s : St} {r : Value × St} (h : Au (run Tryz.prog lib Ad) x0 s = some r) : run Tryz.prog lib Ad 44 [x0] s = some r :=
  At hl Tryz.func44 (Eq.trans (by kernel_rfl) h)
theorem C8 : Ap Tryz.prog 44 = true := by kernel_rfl
theorem CM {R : Aa} {xs : List Value} {s : St} : Ag Tryz.prog R (.func (.func 44) #[] #[]) xs s = R 44 xs s := Aj C8
noncomputable def DO.b0 (R : Aa) (T : List Value) (s : St) : Res :=
(abin Tryz.prog .geq 22 (.tmp 4) (.const (.int .u64 128)) (getL T 0) (.int .u64 128)).bind fun v0 =>
AA v0
 ((AK .u8 (getL T 0)).bind fun v1 =>
(abin Tryz.prog .or 5 (.tmp 8) (.const (.int .u8 128)) v1 (.int .u8 128)).bind fun v2 =>
(Ar 1 [(.int .u8 0)] 1 [(0,v2)] s).bind fun r3 =>
(AD 1 1 (getL T 1) r3.1 r3.2).bind fun r4 =>
(abin Tryz.prog .shr 22 (.tmp 12) (.const (.int .u64 7)) (getL T 0) (.int .u64 7)).bind fun v5 =>
some (.normal,[v5,r4.1],r4.2))
 (some (.exit 0,[(getL T 0),(getL T 1)],s))
noncomputable def DO (R : Aa) (x0 : Value) (s : St) : Option (Value × St) :=
(AV (DO.b0 R) [x0,(.slice none 0 0)] s).bind fun r6 =>
exV r6.1 [(0,(AK .u8 (getL r6.2.1 0)).bind fun v7 =>
(Ar 1 [(.int .u8 0)] 1 [(0,v7)] r6.2.2).bind fun r8 =>
(AD 1 1 (getL r6.2.1 1) r8.1 r8.2).bind fun r9 =>
retV [r9.1] r9.2)]
 (none)
theorem SJ {lib : Lib} (hl : lib 45 = none) {x0 : Value} {s : St} {r : Value × St} (h : DO (run Tryz.prog lib Ad) x0 s = some r) : run Tryz.prog lib Ad 45 [x0] s = some r :=
  At hl Tryz.func45 (Eq.trans (by kernel_rfl) h)
theorem LS : Ap Tryz.prog 45 = true := by kernel_rfl
theorem Cd {R : Aa} {xs : List Value} {s : St} : Ag Tryz.prog R (.func (.func 45) #[] #[]) xs s = R 45 xs s := Aj LS
noncomputable def CZ.b0 (R : Aa) (T : List Value) (s : St) : Res :=
(abin Tryz.prog .lss 3 (.tmp 5) (.const (.int .i64 4)) (getL T 3) (.int .i64 4)).bind fun v0 =>
AA v0
 ((abin Tryz.prog .mul 3 (.const (.int .i64 8)) (.tmp 10) (.int .i64 8) (getL T 3)).bind fun v1 =>
(abin Tryz.prog .shr 44 (.tmp 9) (.tmp 11) (getL T 0) v1).bind fun v2 =>
(AK .u8 v2).bind fun v3 =>
(GA 4 1 (getL T 2) (getL T 3)).bind fun v4 =>
(AN 1 v4 v3 (getL T 5)).bind fun v5 =>
(abin Tryz.prog .add 3 (.tmp 5) (.const (.int .i64 1)) (getL T 3) (.int .i64 1)).bind fun v6 =>
some (.normal,[(getL T 0),(getL T 1),(getL T 2),v6,(getL T 4),v5],s))
 (some (.exit 0,[(getL T 1),(getL T 2),(getL T 4),(getL T 5)],s))
noncomputable def CZ (R : Aa) (x0 : Value) (s : St) : Option (Value × St) :=
(AV (CZ.b0 R) [x0,lptr,lptr,(.int .i64 0),(.agg #[(.int .u8 0),(.int .u8 0),(.int .u8 0),(.int .u8 0)]),(.agg #[(.int .u8 0),(.int .u8 0),(.int .u8 0),(.int .u8 0)])] s).bind fun r7 =>
exV r7.1 [(0,(Ao true 4 (getL r7.2.1 1) (getL r7.2.1 3)).bind fun v8 =>
(AN 4 (getL r7.2.1 0) v8 (getL r7.2.1 2)).bind fun v9 =>
(Ao true 4 (getL r7.2.1 0) v9).bind fun v10 =>
retV [v10] r7.2.2)]
 (none)
theorem Po {lib : Lib} (hl : lib 46 = none) {x0 : Value} {s : St} {r : Value × St} (h : CZ (run Tryz.prog lib Ad) x0 s = some r) : run Tryz.prog lib Ad 46 [x0] s = some r :=
  At hl Tryz.func46 (Eq.trans (by kernel_rfl) h)
theorem IU : Ap Tryz.prog 46 = true := by kernel_rfl
theorem Mi {R : Aa} {xs : List Value} {s : St} : Ag Tryz.prog R (.func (.func 46) #[] #[]) xs s = R 46 xs s := Aj IU
noncomputable def DP.b0 (R : Aa) (T : List Value) (s : St) : Res :=
(abin Tryz.prog .lss 3 (.tmp 10) (.tmp 9) (getL T 4) (getL T 3)).bind fun v3 =>
AA v3
 ((AC 1 (getL T 2) (getL T 4)).bind fun v4 =>
(Aq false 1 v4 s).bind fun v5 =>
(abin Tryz.prog .shr 44 (.tmp 14) (.const (.int .u64 8)) (getL T 1) (.int .u64 8)).bind fun v6 =>
(AK .u8 (getL T 1)).bind fun v7 =>
(abin Tryz.prog .xor 5 (.tmp 17) (.tmp 18) v7 v5).bind fun v8 =>
(GA 256 1 (getL T 0) v8).bind fun v9 =>
(Ao false 1 v9 (getL T 5)).bind fun v10 =>
(abin Tryz.prog .xor 44 (.tmp 15) (.tmp 21) v6 v10).bind fun v11 =>
(abin Tryz.prog .add 3 (.tmp 10) (.const (.int .i64 1)) (getL T 4) (.int .i64 1)).bind fun v12 =>
some (.normal,[(getL T 0),v11,(getL T 2),(getL T 3),v12,(getL T 5)],s))
 (some (.exit 0,[(getL T 1)],s))
noncomputable def DP (R : Aa) (x0 : Value) (s : St) : Option (Value × St) :=
(Ag Tryz.prog R (.func (.func 130) #[] #[]) [] s).bind fun r0 =>
(AN 256 lptr r0.1 (.agg (List.replicate 256 (.int .u32 0)).toArray)).bind fun v1 =>
(AP (.slice 5) x0 r0.2).bind fun v2 =>
(AV (DP.b0 R) [lptr,(.int .u32 4294967295),x0,v2,(.int .i64 0),v1] r0.2).bind fun r13 =>
exV r13.1 [(0,(aun .xor (getL r13.2.1 0)).bind fun v14 =>
retV [v14] r13.2.2)]
 (none)
theorem SK {lib : Lib} (hl : lib 47 = none) {x0 : Value} {s : St} {r : Value × St} (h : DP (run Tryz.prog lib Ad) x0 s = some r) : run Tryz.prog lib Ad 47 [x0] s = some r :=
  At hl Tryz.func47 (Eq.trans (by kernel_rfl) h)
theorem LT : Ap Tryz.prog 47 = true := by kernel_rfl
theorem IV {R : Aa} {xs : List Value} {s : St} : Ag Tryz.prog R (.func (.func 47) #[] #[]) xs s = R 47 xs s := Aj LT
noncomputable def wire_client (R : Aa) (x0 : Value) (s : St) : Option (Value × St) :=
(abin Tryz.prog .gtr 3 (.tmp 3) (.const (.int .i64 10)) x0 (.int .i64 10)).bind fun v0 =>
(Ai v0 true ((abin Tryz.prog .leq 3 (.tmp 6) (.const (.int .i64 14)) x0 (.int .i64 14)).bind fun v1 =>
some ([v1],s)) (some ([undef],s))).bind fun q2 =>
(AM v0 (getL q2.1 0) (.bool false)).bind fun v3 =>
retV [v3] q2.2
theorem Pp {lib : Lib} (hl : lib 48 = none) {x0 : Value} {s : St} {r : Value × St} (h : wire_client (run Tryz.prog lib Ad) x0 s = some r) : run Tryz.prog lib Ad 48 [x0] s = some r :=
  At hl Tryz.func48 (Eq.trans (by kernel_rfl) h)
theorem Pq : Ap Tryz.prog 48 = true := by kernel_rfl
theorem Mj {R : Aa} {xs : List Value} {s : St} : Ag Tryz.prog R (.func (.func 48) #[] #[]) xs s = R 48 xs s := Aj Pq
noncomputable def wire_coord (R : Aa) (x0 : Value) (s : St) : Option (Value × St) :=
(abin Tryz.prog .eql 3 (.tmp 3) (.const (.int .i64 0)) x0 (.int .i64 0)).bind fun v0 =>
retV [v0] s
theorem QY {lib : Lib} (hl : lib 49 = none) {x0 : Value} {s : St} {r : Value × St} (h : wire_coord (run Tryz.prog lib Ad) x0 s = some r) : run Tryz.prog lib Ad 49 [x0] s = some r :=
  At hl Tryz.func49 (Eq.trans (by kernel_rfl) h)
theorem QZ : Ap Tryz.prog 49 = true := by kernel_rfl
theorem NY {R : Aa} {xs : List Value} {s : St} : Ag Tryz.prog R (.func (.func 49) #[] #[]) xs s = R 49 xs s := Aj QZ
noncomputable def wire_formOf_1 (R : Aa) (x0 : Value) (s : St) : Option (Value × St) :=
(lbox x0).bind fun v0 =>
(Ao false 1 (.pointer (some ⟨0,18,none⟩)) v0).bind fun v1 =>
(Ag Tryz.prog R (.func (.func 51) #[] #[]) [v1] s).bind fun r2 =>
(abin Tryz.prog .eql 32 (.tmp 5) (.const (.int .i64 0)) r2.1 (.int .i64 0)).bind fun v3 =>
retV [v3] r2.2
theorem Mk {lib : Lib} (hl : lib 50 = none) {x0 : Value} {s : St} {r : Value × St} (h : wire_formOf_1 (run Tryz.prog lib Ad) x0 s = some r) : run Tryz.prog lib Ad 50 [x0] s = some r :=
  At hl Tryz.func50 (Eq.trans (by kernel_rfl) h)
theorem Ml : Ap Tryz.prog 50 = true := by kernel_rfl
theorem Kh {R : Aa} {xs : List Value} {s : St} : Ag Tryz.prog R (.func (.func 50) #[] #[]) xs s = R 50 xs s := Aj Ml
noncomputable def Q0 (R : Aa) (x0 : Value) (s : St) : Option (Value × St) :=
(AP (.slice 69) x0 s).bind fun v0 =>
(abin Tryz.prog .eql 3 (.tmp 4) (.const (.int .i64 0)) v0 (.int .i64 0)).bind fun v1 =>
(Ai v1 false ((AP (.slice 69) x0 s).bind fun v2 =>
(abin Tryz.prog .gtr 3 (.tmp 8) (.const (.int .i64 4)) v2 (.int .i64 4)).bind fun v3 =>
some ([v3],s)) (some ([undef],s))).bind fun q4 =>
(AM v1 (.bool true) (getL q4.1 0)).bind fun v5 =>
AA v5
 (retV [(.int .i64 3)] q4.2)
 ((Ag Tryz.prog R (.func (.func 131) #[] #[]) [x0] q4.2).bind fun r6 =>
retV [r6.1] r6.2)
theorem Ud {lib : Lib} (hl : lib 51 = none) {x0 : Value} {s : St} {r : Value × St} (h : Q0 (run Tryz.prog lib Ad) x0 s = some r) : run Tryz.prog lib Ad 51 [x0] s = some r :=
  At hl Tryz.func51 (Eq.trans (by kernel_rfl) h)
theorem NZ : Ap Tryz.prog 51 = true := by kernel_rfl
theorem Q1 {R : Aa} {xs : List Value} {s : St} : Ag Tryz.prog R (.func (.func 51) #[] #[]) xs s = R 51 xs s := Aj NZ
noncomputable def wire_formOf_2 (R : Aa) (x0 : Value) (s : St) : Option (Value × St) :=
(lbox x0).bind fun v0 =>
(Ao false 1 (.pointer (some ⟨0,4,none⟩)) v0).bind fun v1 =>
(abin Tryz.prog .eql 3 (.tmp 4) (.const (.int .i64 1)) v1 (.int .i64 1)).bind fun v2 =>
(Ai v2 false ((Ao false 1 (.pointer (some ⟨0,4,none⟩)) v0).bind fun v3 =>
(abin Tryz.prog .eql 3 (.tmp 8) (.const (.int .i64 2)) v3 (.int .i64 2)).bind fun v4 =>
some ([v4],s)) (some ([undef],s))).bind fun q5 =>
(AM v2 (.bool true) (getL q5.1 0)).bind fun v6 =>
(Ai v6 true ((Ao false 1 (.pointer (some ⟨0,19,none⟩)) v0).bind fun v7 =>
(Ag Tryz.prog R (.func (.func 53) #[] #[]) [v7,(.int .i64 4)] q5.2).bind fun r8 =>
some ([r8.1],r8.2)) (some ([undef],q5.2))).bind fun q9 =>
(AM v6 (getL q9.1 0) (.bool false)).bind fun v10 =>
retV [v10] q9.2
theorem Mm {lib : Lib} (hl : lib 52 = none) {x0 : Value} {s : St} {r : Value × St} (h : wire_formOf_2 (run Tryz.prog lib Ad) x0 s = some r) : run Tryz.prog lib Ad 52 [x0] s = some r :=
  At hl Tryz.func52 (Eq.trans (by kernel_rfl) h)
theorem Mn : Ap Tryz.prog 52 = true := by kernel_rfl
theorem Ki {R : Aa} {xs : List Value} {s : St} : Ag Tryz.prog R (.func (.func 52) #[] #[]) xs s = R 52 xs s := Aj Mn
noncomputable def wire_results (R : Aa) (x0 x1 : Value) (s : St) : Option (Value × St) :=
(anew [.nilFunc] s).bind fun r0 =>
(A0 1 r0.1 (.func (.func 132) #[] #[]) r0.2).bind fun s1 =>
(AP (.slice 87) x0 s1).bind fun v2 =>
(abin Tryz.prog .leq 3 (.tmp 7) (.tmp 8) v2 x1).bind fun v3 =>
(Ai v3 true ((BD 135 [] [r0.1]).bind fun v4 =>
(Ag Tryz.prog R (.func (.func 134) #[] #[]) [x0,v4] s1).bind fun r5 =>
(aun .not r5.1).bind fun v6 =>
some ([v6],r5.2)) (some ([undef],s1))).bind fun q7 =>
(AM v3 (getL q7.1 0) (.bool false)).bind fun v8 =>
retV [v8] q7.2
theorem N0 {lib : Lib} (hl : lib 53 = none) {x0 x1 : Value} {s : St} {r : Value × St} (h : wire_results (run Tryz.prog lib Ad) x0 x1 s = some r) : run Tryz.prog lib Ad 53 [x0,x1] s = some r :=
  At hl Tryz.func53 (Eq.trans (by kernel_rfl) h)
theorem N1 : Ap Tryz.prog 53 = true := by kernel_rfl
theorem Gi {R : Aa} {xs : List Value} {s : St} : Ag Tryz.prog R (.func (.func 53) #[] #[]) xs s = R 53 xs s := Aj N1
noncomputable def wire_shard (R : Aa) (x0 : Value) (s : St) : Option (Value × St) :=
(abin Tryz.prog .geq 3 (.tmp 3) (.const (.int .i64 1)) x0 (.int .i64 1)).bind fun v0 =>
(Ai v0 true ((abin Tryz.prog .leq 3 (.tmp 6) (.const (.int .i64 4)) x0 (.int .i64 4)).bind fun v1 =>
some ([v1],s)) (some ([undef],s))).bind fun q2 =>
(AM v0 (getL q2.1 0) (.bool false)).bind fun v3 =>
retV [v3] q2.2
theorem Q2 {lib : Lib} (hl : lib 54 = none) {x0 : Value} {s : St} {r : Value × St} (h : wire_shard (run Tryz.prog lib Ad) x0 s = some r) : run Tryz.prog lib Ad 54 [x0] s = some r :=
  At hl Tryz.func54 (Eq.trans (by kernel_rfl) h)
theorem Q3 : Ap Tryz.prog 54 = true := by kernel_rfl
theorem E9 {R : Aa} {xs : List Value} {s : St} : Ag Tryz.prog R (.func (.func 54) #[] #[]) xs s = R 54 xs s := Aj Q3
noncomputable def wire_formOf_3 (R : Aa) (x0 : Value) (s : St) : Option (Value × St) :=
(lbox x0).bind fun v0 =>
(Ao false 1 (.pointer (some ⟨0,18,none⟩)) v0).bind fun v1 =>
(AP (.slice 69) v1 s).bind fun v2 =>
(abin Tryz.prog .gtr 3 (.tmp 5) (.const (.int .i64 0)) v2 (.int .i64 0)).bind fun v3 =>
(Ai v3 true ((Ao false 1 (.pointer (some ⟨0,18,none⟩)) v0).bind fun v4 =>
(Ag Tryz.prog R (.func (.func 56) #[] #[]) [v4,(.int .i64 24)] s).bind fun r5 =>
some ([r5.1],r5.2)) (some ([undef],s))).bind fun q6 =>
(AM v3 (getL q6.1 0) (.bool false)).bind fun v7 =>
retV [v7] q6.2
theorem Mo {lib : Lib} (hl : lib 55 = none) {x0 : Value} {s : St} {r : Value × St} (h : wire_formOf_3 (run Tryz.prog lib Ad) x0 s = some r) : run Tryz.prog lib Ad 55 [x0] s = some r :=
  At hl Tryz.func55 (Eq.trans (by kernel_rfl) h)
theorem Mp : Ap Tryz.prog 55 = true := by kernel_rfl
theorem Kj {R : Aa} {xs : List Value} {s : St} : Ag Tryz.prog R (.func (.func 55) #[] #[]) xs s = R 55 xs s := Aj Mp
noncomputable def wire_ops (R : Aa) (x0 x1 : Value) (s : St) : Option (Value × St) :=
(AP (.slice 69) x0 s).bind fun v0 =>
(abin Tryz.prog .leq 3 (.tmp 6) (.tmp 7) v0 x1).bind fun v1 =>
(Ai v1 true ((Ag Tryz.prog R (.func (.func 64) #[] #[]) [x0,(.func (.func 137) #[] #[])] s).bind fun r2 =>
(aun .not r2.1).bind fun v3 =>
some ([v3],r2.2)) (some ([undef],s))).bind fun q4 =>
(AM v1 (getL q4.1 0) (.bool false)).bind fun v5 =>
retV [v5] q4.2
theorem Ue {lib : Lib} (hl : lib 56 = none) {x0 x1 : Value} {s : St} {r : Value × St} (h : wire_ops (run Tryz.prog lib Ad) x0 x1 s = some r) : run Tryz.prog lib Ad 56 [x0,x1] s = some r :=
  At hl Tryz.func56 (Eq.trans (by kernel_rfl) h)
theorem Uf : Ap Tryz.prog 56 = true := by kernel_rfl
theorem EK {R : Aa} {xs : List Value} {s : St} : Ag Tryz.prog R (.func (.func 56) #[] #[]) xs s = R 56 xs s := Aj Uf
noncomputable def wire_formOf_4 (R : Aa) (x0 : Value) (s : St) : Option (Value × St) :=
(lbox x0).bind fun v0 =>
(Ao false 1 (.pointer (some ⟨0,4,none⟩)) v0).bind fun v1 =>
(abin Tryz.prog .geq 3 (.tmp 4) (.const (.int .i64 3)) v1 (.int .i64 3)).bind fun v2 =>
(Ai v2 true ((Ao false 1 (.pointer (some ⟨0,4,none⟩)) v0).bind fun v3 =>
(abin Tryz.prog .leq 3 (.tmp 8) (.const (.int .i64 5)) v3 (.int .i64 5)).bind fun v4 =>
some ([v4],s)) (some ([undef],s))).bind fun q5 =>
(AM v2 (getL q5.1 0) (.bool false)).bind fun v6 =>
(Ai v6 true ((Ao false 1 (.pointer (some ⟨0,19,none⟩)) v0).bind fun v7 =>
(Ag Tryz.prog R (.func (.func 53) #[] #[]) [v7,(.int .i64 24)] q5.2).bind fun r8 =>
some ([r8.1],r8.2)) (some ([undef],q5.2))).bind fun q9 =>
(AM v6 (getL q9.1 0) (.bool false)).bind fun v10 =>
retV [v10] q9.2
theorem Mq {lib : Lib} (hl : lib 57 = none) {x0 : Value} {s : St} {r : Value × St} (h : wire_formOf_4 (run Tryz.prog lib Ad) x0 s = some r) : run Tryz.prog lib Ad 57 [x0] s = some r :=
  At hl Tryz.func57 (Eq.trans (by kernel_rfl) h)
theorem Mr : Ap Tryz.prog 57 = true := by kernel_rfl
theorem Kk {R : Aa} {xs : List Value} {s : St} : Ag Tryz.prog R (.func (.func 57) #[] #[]) xs s = R 57 xs s := Aj Mr
noncomputable def wire_whatever (R : Aa) (x0 : Value) (s : St) : Option (Value × St) :=
(lbox x0).bind fun v0 =>
retV [(.bool true)] s
theorem Mt {lib : Lib} (hl : lib 58 = none) {x0 : Value} {s : St} {r : Value × St} (h : wire_whatever (run Tryz.prog lib Ad) x0 s = some r) : run Tryz.prog lib Ad 58 [x0] s = some r :=
  At hl Tryz.func58 (Eq.trans (by kernel_rfl) h)
theorem Mu : Ap Tryz.prog 58 = true := by kernel_rfl
theorem Kl {R : Aa} {xs : List Value} {s : St} : Ag Tryz.prog R (.func (.func 58) #[] #[]) xs s = R 58 xs s := Aj Mu
noncomputable def wire_formOf_5 (R : Aa) (x0 : Value) (s : St) : Option (Value × St) :=
(lbox x0).bind fun v0 =>
(Ao false 1 (.pointer (some ⟨0,20,none⟩)) v0).bind fun v1 =>
(Ag Tryz.prog R (.func (.func 60) #[] #[]) [v1] s).bind fun r2 =>
(abin Tryz.prog .eql 32 (.tmp 5) (.const (.int .i64 0)) r2.1 (.int .i64 0)).bind fun v3 =>
retV [v3] r2.2
theorem Mv {lib : Lib} (hl : lib 59 = none) {x0 : Value} {s : St} {r : Value × St} (h : wire_formOf_5 (run Tryz.prog lib Ad) x0 s = some r) : run Tryz.prog lib Ad 59 [x0] s = some r :=
  At hl Tryz.func59 (Eq.trans (by kernel_rfl) h)
theorem Mw : Ap Tryz.prog 59 = true := by kernel_rfl
theorem Km {R : Aa} {xs : List Value} {s : St} : Ag Tryz.prog R (.func (.func 59) #[] #[]) xs s = R 59 xs s := Aj Mw
noncomputable def Cw.b0 (R : Aa) (T : List Value) (s : St) : Res :=
(abin Tryz.prog .lss 3 (.tmp 22) (.tmp 21) (getL T 3) (getL T 2)).bind fun v13 =>
AA v13
 ((AC 2 (getL T 1) (getL T 3)).bind fun v14 =>
(Aq true 2 v14 s).bind fun v15 =>
(AN 2 lptr v15 (.agg #[(.string ⟨#[]⟩),(.int .i64 0)])).bind fun v16 =>
(Ao false 1 (.pointer (some ⟨0,1,none⟩)) v16).bind fun v17 =>
(abin Tryz.prog .lss 3 (.tmp 28) (.const (.int .i64 1)) v17 (.int .i64 1)).bind fun v18 =>
(Ai v18 false (some ([(.pointer (some ⟨0,1,none⟩))],s)) (some ([undef],s))).bind fun q19 =>
(Ai v18 false ((Ao false 1 (getL q19.1 0) v16).bind fun v20 =>
some ([v20],q19.2)) (some ([undef],q19.2))).bind fun q21 =>
(Ai v18 false ((abin Tryz.prog .gtr 3 (.tmp 32) (.const (.int .i64 4)) (getL q21.1 0) (.int .i64 4)).bind fun v22 =>
some ([v22],q21.2)) (some ([undef],q21.2))).bind fun q23 =>
(AM v18 (.bool true) (getL q23.1 0)).bind fun v24 =>
(Ai v24 false (some ([(getL T 3)],q23.2)) (some ([undef],q23.2))).bind fun q25 =>
(Ai v24 false ((abin Tryz.prog .gtr 3 (.tmp 36) (.const (.int .i64 0)) (getL q25.1 0) (.int .i64 0)).bind fun v26 =>
some ([v26],q25.2)) (some ([undef],q25.2))).bind fun q27 =>
(Ai v24 false (some ([(getL q27.1 0)],q27.2)) (some ([undef],q27.2))).bind fun q28 =>
(Ai (getL q28.1 0) true (some ([lptr],q28.2)) (some ([undef],q28.2))).bind fun q29 =>
(Ai (getL q28.1 0) true ((Ao false 1 (getL q29.1 0) v16).bind fun v30 =>
some ([v30],q29.2)) (some ([undef],q29.2))).bind fun q31 =>
((Ai (getL q28.1 0) true ((Ag Tryz.prog R (.func (.func 133) #[] #[]) [(getL q31.1 0)] q31.2).bind fun r57 =>
some (r57.1,r57.2)) (some (undef,q31.2))).bind (ownR q31.2)).bind fun r32 =>
(Ai (getL q28.1 0) true ((abin Tryz.prog .neq 32 (.tmp 41) (.const (.int .i64 0)) r32.1 (.int .i64 0)).bind fun v33 =>
some ([v33],r32.2)) (some ([undef],r32.2))).bind fun q34 =>
(Ai (getL q28.1 0) true (some ([(getL q34.1 0)],q34.2)) (some ([undef],q34.2))).bind fun q35 =>
(Ai (getL q35.1 0) false (some ([(getL T 0)],q35.2)) (some ([undef],q35.2))).bind fun q36 =>
(Ai (getL q35.1 0) false (some ([(getL T 3)],q36.2)) (some ([undef],q36.2))).bind fun q37 =>
(Ai (getL q35.1 0) false ((abin Tryz.prog .sub 3 (.tmp 45) (.const (.int .i64 1)) (getL q37.1 0) (.int .i64 1)).bind fun v38 =>
some ([v38],q37.2)) (some ([undef],q37.2))).bind fun q39 =>
(Ai (getL q35.1 0) false ((AC 2 (getL q36.1 0) (getL q39.1 0)).bind fun v40 =>
some ([v40],q39.2)) (some ([undef],q39.2))).bind fun q41 =>
(Ai (getL q35.1 0) false ((Ac 0 (getL q41.1 0)).bind fun v42 =>
some ([v42],q41.2)) (some ([undef],q41.2))).bind fun q43 =>
((Ai (getL q35.1 0) false ((Aq false 1 (getL q43.1 0) q43.2).bind fun v56 =>
some (v56,q43.2)) (some (undef,q43.2))).bind (ownR q43.2)).bind fun r44 =>
(Ai (getL q35.1 0) false (some ([lptr],r44.2)) (some ([undef],r44.2))).bind fun q45 =>
(Ai (getL q35.1 0) false ((Ao false 1 (getL q45.1 0) v16).bind fun v46 =>
some ([v46],q45.2)) (some ([undef],q45.2))).bind fun q47 =>
(Ai (getL q35.1 0) false ((abin Tryz.prog .geq 9 (.tmp 49) (.tmp 51) r44.1 (getL q47.1 0)).bind fun v48 =>
some ([v48],q47.2)) (some ([undef],q47.2))).bind fun q49 =>
(Ai (getL q28.1 0) true ((AM (getL q35.1 0) (.bool true) (getL q49.1 0)).bind fun v50 =>
some ([v50],q49.2)) (some ([undef],q49.2))).bind fun q51 =>
(Ai v24 false ((AM (getL q28.1 0) (getL q51.1 0) (.bool false)).bind fun v52 =>
some ([v52],q51.2)) (some ([undef],q51.2))).bind fun q53 =>
(AM v24 (.bool true) (getL q53.1 0)).bind fun v54 =>
AA v54
 (some (.ret,[(.int .i64 170)],q53.2))
 ((abin Tryz.prog .add 3 (.tmp 22) (.const (.int .i64 1)) (getL T 3) (.int .i64 1)).bind fun v55 =>
some (.normal,[(getL T 0),(getL T 1),(getL T 2),v55],q53.2)))
 (some (.exit 0,[],s))
noncomputable def Cw (R : Aa) (x0 : Value) (s : St) : Option (Value × St) :=
(AP (.slice 91) x0 s).bind fun v0 =>
(abin Tryz.prog .eql 3 (.tmp 6) (.const (.int .i64 0)) v0 (.int .i64 0)).bind fun v1 =>
(Ai v1 false ((AP (.slice 91) x0 s).bind fun v2 =>
(abin Tryz.prog .gtr 3 (.tmp 10) (.const (.int .i64 6)) v2 (.int .i64 6)).bind fun v3 =>
some ([v3],s)) (some ([undef],s))).bind fun q4 =>
(AM v1 (.bool true) (getL q4.1 0)).bind fun v5 =>
(Ai v5 false ((AC 2 x0 (.int .i64 0)).bind fun v6 =>
(Ac 0 v6).bind fun v7 =>
(Aq false 1 v7 q4.2).bind fun v8 =>
(abin Tryz.prog .neq 9 (.tmp 17) (.const (.string ⟨#[]⟩)) v8 (.string ⟨#[]⟩)).bind fun v9 =>
some ([v9],q4.2)) (some ([undef],q4.2))).bind fun q10 =>
(AM v5 (.bool true) (getL q10.1 0)).bind fun v11 =>
AA v11
 (retV [(.int .i64 170)] q10.2)
 ((AP (.slice 91) x0 q10.2).bind fun v12 =>
(AV (Cw.b0 R) [x0,x0,v12,(.int .i64 0)] q10.2).bind fun r58 =>
exV r58.1 [(0,retV [(.int .i64 0)] r58.2.2)]
 (retV [(getL r58.2.1 0)] r58.2.2))
theorem Ps {lib : Lib} (hl : lib 60 = none) {x0 : Value} {s : St} {r : Value × St} (h : Cw (run Tryz.prog lib Ad) x0 s = some r) : run Tryz.prog lib Ad 60 [x0] s = some r :=
  At hl Tryz.func60 (Eq.trans (by kernel_rfl) h)
theorem IW : Ap Tryz.prog 60 = true := by kernel_rfl
theorem Mx {R : Aa} {xs : List Value} {s : St} : Ag Tryz.prog R (.func (.func 60) #[] #[]) xs s = R 60 xs s := Aj IW
noncomputable def wire_formOf_6 (R : Aa) (x0 : Value) (s : St) : Option (Value × St) :=
(lbox x0).bind fun v0 =>
(Ao false 1 (.pointer (some ⟨0,5,none⟩)) v0).bind fun v1 =>
(Ag Tryz.prog R (.func (.func 54) #[] #[]) [v1] s).bind fun r2 =>
(Ai r2.1 true ((Ao true 2 (.pointer (some ⟨0,16,none⟩)) v0).bind fun v3 =>
(Ag Tryz.prog R (.func (.func 62) #[] #[]) [v3] r2.2).bind fun r4 =>
(abin Tryz.prog .eql 32 (.tmp 9) (.const (.int .i64 0)) r4.1 (.int .i64 0)).bind fun v5 =>
some ([v5],r4.2)) (some ([undef],r2.2))).bind fun q6 =>
(AM r2.1 (getL q6.1 0) (.bool false)).bind fun v7 =>
retV [v7] q6.2
theorem My {lib : Lib} (hl : lib 61 = none) {x0 : Value} {s : St} {r : Value × St} (h : wire_formOf_6 (run Tryz.prog lib Ad) x0 s = some r) : run Tryz.prog lib Ad 61 [x0] s = some r :=
  At hl Tryz.func61 (Eq.trans (by kernel_rfl) h)
theorem Mz : Ap Tryz.prog 61 = true := by kernel_rfl
theorem Kn {R : Aa} {xs : List Value} {s : St} : Ag Tryz.prog R (.func (.func 61) #[] #[]) xs s = R 61 xs s := Aj Mz
noncomputable def D4.j0 (R : Aa) (T : List Value) (s : St) : Option (Value × St) :=
AA (getL T 0)
 (retV [(.int .i64 21)] s)
 (retV [(.int .i64 0)] s)
noncomputable def D4 (R : Aa) (x0 : Value) (s : St) : Option (Value × St) :=
(lbox x0).bind fun v0 =>
(Ao true 2 lptr v0).bind fun v1 =>
(((Ag Tryz.prog R (.func (.func 139) #[] #[]) [] s).bind fun r20 =>
some (r20.1,r20.2)).bind (ownR s)).bind fun r2 =>
(abin Tryz.prog .eql 24 (.tmp 4) (.tmp 5) v1 r2.1).bind fun v3 =>
AA v3
 (retV [(.int .i64 0)] r2.2)
 ((Ao false 1 lptr v0).bind fun v5 =>
(AP .string v5 r2.2).bind fun v6 =>
(abin Tryz.prog .gtr 3 (.tmp 10) (.const (.int .i64 12)) v6 (.int .i64 12)).bind fun v7 =>
(Ai v7 false ((Ao false 1 (.pointer (some ⟨0,1,none⟩)) v0).bind fun v8 =>
(AP .string v8 r2.2).bind fun v9 =>
(abin Tryz.prog .gtr 3 (.tmp 15) (.const (.int .i64 12)) v9 (.int .i64 12)).bind fun v10 =>
some ([v10],r2.2)) (some ([undef],r2.2))).bind fun q11 =>
(AM v7 (.bool true) (getL q11.1 0)).bind fun v12 =>
AA v12
 (C9 (D4.j0 R) [v12] q11.2)
 ((Ao false 1 (.pointer (some ⟨0,1,none⟩)) v0).bind fun v13 =>
(abin Tryz.prog .neq 9 (.tmp 19) (.const (.string ⟨#[]⟩)) v13 (.string ⟨#[]⟩)).bind fun v14 =>
(Ai v14 true ((Ao false 1 lptr v0).bind fun v15 =>
(Ao false 1 (.pointer (some ⟨0,1,none⟩)) v0).bind fun v16 =>
(abin Tryz.prog .geq 9 (.tmp 23) (.tmp 25) v15 v16).bind fun v17 =>
some ([v17],q11.2)) (some ([undef],q11.2))).bind fun q18 =>
(AM v14 (getL q18.1 0) (.bool false)).bind fun v19 =>
C9 (D4.j0 R) [v19] q18.2))
theorem Q4 {lib : Lib} (hl : lib 62 = none) {x0 : Value} {s : St} {r : Value × St} (h : D4 (run Tryz.prog lib Ad) x0 s = some r) : run Tryz.prog lib Ad 62 [x0] s = some r :=
  At hl Tryz.func62 (Eq.trans (by kernel_rfl) h)
theorem Ko : Ap Tryz.prog 62 = true := by kernel_rfl
theorem C0 {R : Aa} {xs : List Value} {s : St} : Ag Tryz.prog R (.func (.func 62) #[] #[]) xs s = R 62 xs s := Aj Ko
noncomputable def wire_formOf_7 (R : Aa) (x0 : Value) (s : St) : Option (Value × St) :=
(lbox x0).bind fun v0 =>
(Ao false 1 (.pointer (some ⟨0,1,none⟩)) v0).bind fun v1 =>
(Ao false 1 (.pointer (some ⟨0,2,none⟩)) v0).bind fun v2 =>
(abin Tryz.prog .neq 3 (.tmp 4) (.tmp 6) v1 v2).bind fun v3 =>
(Ai v3 true ((Ao false 1 (.pointer (some ⟨0,18,none⟩)) v0).bind fun v4 =>
(Ag Tryz.prog R (.func (.func 56) #[] #[]) [v4,(.int .i64 6)] s).bind fun r5 =>
some ([r5.1],r5.2)) (some ([undef],s))).bind fun q6 =>
(AM v3 (getL q6.1 0) (.bool false)).bind fun v7 =>
(Ai v7 true ((Ao true 2 (.pointer (some ⟨0,16,none⟩)) v0).bind fun v8 =>
(Ag Tryz.prog R (.func (.func 62) #[] #[]) [v8] q6.2).bind fun r9 =>
(abin Tryz.prog .eql 32 (.tmp 16) (.const (.int .i64 0)) r9.1 (.int .i64 0)).bind fun v10 =>
some ([v10],r9.2)) (some ([undef],q6.2))).bind fun q11 =>
(AM v7 (getL q11.1 0) (.bool false)).bind fun v12 =>
(Ai v12 true ((Ao false 1 (.pointer (some ⟨0,18,none⟩)) v0).bind fun v13 =>
(Ag Tryz.prog R (.func (.func 64) #[] #[]) [v13,(.func (.func 65) #[] #[])] q11.2).bind fun r14 =>
(aun .not r14.1).bind fun v15 =>
some ([v15],r14.2)) (some ([undef],q11.2))).bind fun q16 =>
(AM v12 (getL q16.1 0) (.bool false)).bind fun v17 =>
retV [v17] q16.2
theorem MA {lib : Lib} (hl : lib 63 = none) {x0 : Value} {s : St} {r : Value × St} (h : wire_formOf_7 (run Tryz.prog lib Ad) x0 s = some r) : run Tryz.prog lib Ad 63 [x0] s = some r :=
  At hl Tryz.func63 (Eq.trans (by kernel_rfl) h)
theorem MB : Ap Tryz.prog 63 = true := by kernel_rfl
theorem Kp {R : Aa} {xs : List Value} {s : St} : Ag Tryz.prog R (.func (.func 63) #[] #[]) xs s = R 63 xs s := Aj MB
noncomputable def slices_ContainsFunc_api_Op_api_Op (R : Aa) (x0 x1 : Value) (s : St) : Option (Value × St) :=
(Ag Tryz.prog R (.func (.func 140) #[] #[]) [x0,x1] s).bind fun r0 =>
(abin Tryz.prog .geq 3 (.tmp 7) (.const (.int .i64 0)) r0.1 (.int .i64 0)).bind fun v1 =>
retV [v1] r0.2
theorem Di {lib : Lib} (hl : lib 64 = none) {x0 x1 : Value} {s : St} {r : Value × St} (h : slices_ContainsFunc_api_Op_api_Op (run Tryz.prog lib Ad) x0 x1 s = some r) : run Tryz.prog lib Ad 64 [x0,x1] s = some r :=
  At hl Tryz.func64 (Eq.trans (by kernel_rfl) h)
theorem Dj : Ap Tryz.prog 64 = true := by kernel_rfl
theorem BQ {R : Aa} {xs : List Value} {s : St} : Ag Tryz.prog R (.func (.func 64) #[] #[]) xs s = R 64 xs s := Aj Dj
noncomputable def wire_formOf_7_1 (R : Aa) (x0 : Value) (s : St) : Option (Value × St) :=
(lbox x0).bind fun v0 =>
(Ao true 6 lptr v0).bind fun v1 =>
(Ag Tryz.prog R (.func (.func 66) #[] #[]) [v1] s).bind fun r2 =>
(aun .not r2.1).bind fun v3 =>
retV [v3] r2.2
theorem Kq {lib : Lib} (hl : lib 65 = none) {x0 : Value} {s : St} {r : Value × St} (h : wire_formOf_7_1 (run Tryz.prog lib Ad) x0 s = some r) : run Tryz.prog lib Ad 65 [x0] s = some r :=
  At hl Tryz.func65 (Eq.trans (by kernel_rfl) h)
theorem Kr : Ap Tryz.prog 65 = true := by kernel_rfl
theorem IB {R : Aa} {xs : List Value} {s : St} : Ag Tryz.prog R (.func (.func 65) #[] #[]) xs s = R 65 xs s := Aj Kr
noncomputable def N2 (R : Aa) (x0 : Value) (s : St) : Option (Value × St) :=
(lbox x0).bind fun v0 =>
(Ao false 1 lptr v0).bind fun v1 =>
(Ag Tryz.prog R (.func (.func 141) #[] #[]) [v1] s).bind fun r2 =>
(Ak 0 r2.1).bind fun v3 =>
(Ak 1 r2.1).bind fun v4 =>
(AN 6 lptr v3 (.agg #[(.bool false),(.bool false),(.bool false),(.bool false),(.bool false),.nilFunc])).bind fun v5 =>
(Ao false 1 (.pointer (some ⟨0,4,none⟩)) v5).bind fun v6 =>
retV [v6] r2.2
theorem SL {lib : Lib} (hl : lib 66 = none) {x0 : Value} {s : St} {r : Value × St} (h : N2 (run Tryz.prog lib Ad) x0 s = some r) : run Tryz.prog lib Ad 66 [x0] s = some r :=
  At hl Tryz.func66 (Eq.trans (by kernel_rfl) h)
theorem LU : Ap Tryz.prog 66 = true := by kernel_rfl
theorem Pu {R : Aa} {xs : List Value} {s : St} : Ag Tryz.prog R (.func (.func 66) #[] #[]) xs s = R 66 xs s := Aj LU
noncomputable def wire_formOf_8 (R : Aa) (x0 : Value) (s : St) : Option (Value × St) :=
(lbox x0).bind fun v0 =>
(Ao false 1 (.pointer (some ⟨0,1,none⟩)) v0).bind fun v1 =>
(Ao false 1 (.pointer (some ⟨0,2,none⟩)) v0).bind fun v2 =>
(abin Tryz.prog .neq 3 (.tmp 4) (.tmp 6) v1 v2).bind fun v3 =>
retV [v3] s
theorem MC {lib : Lib} (hl : lib 67 = none) {x0 : Value} {s : St} {r : Value × St} (h : wire_formOf_8 (run Tryz.prog lib Ad) x0 s = some r) : run Tryz.prog lib Ad 67 [x0] s = some r :=
  At hl Tryz.func67 (Eq.trans (by kernel_rfl) h)
theorem MD : Ap Tryz.prog 67 = true := by kernel_rfl
theorem Ks {R : Aa} {xs : List Value} {s : St} : Ag Tryz.prog R (.func (.func 67) #[] #[]) xs s = R 67 xs s := Aj MD
noncomputable def wire_num (R : Aa) (x0 : Value) (s : St) : Option (Value × St) :=
(anew (An x0) s).bind fun r0 =>
(BD 142 [] [r0.1]).bind fun v1 =>
(BD 143 [] [r0.1]).bind fun v2 =>
(BD 145 [] [r0.1]).bind fun v3 =>
(AU Tryz.prog 58 [(0,v1),(1,v2),(2,v3)]).bind fun v4 =>
(AN 3 lptr v4 (.agg #[.nilFunc,.nilFunc,.nilFunc])).bind fun v5 =>
(Ao true 3 lptr v5).bind fun v6 =>
retV [v6] r0.2
theorem Ug {lib : Lib} (hl : lib 68 = none) {x0 : Value} {s : St} {r : Value × St} (h : wire_num (run Tryz.prog lib Ad) x0 s = some r) : run Tryz.prog lib Ad 68 [x0] s = some r :=
  At hl Tryz.func68 (Eq.trans (by kernel_rfl) h)
theorem Uh : Ap Tryz.prog 68 = true := by kernel_rfl
theorem Q5 {R : Aa} {xs : List Value} {s : St} : Ag Tryz.prog R (.func (.func 68) #[] #[]) xs s = R 68 xs s := Aj Uh
noncomputable def wire_all_1 (R : Aa) (x0 : Value) (s : St) : Option (Value × St) :=
(Ah x0).bind fun v0 =>
(Ac 6 v0).bind fun v1 =>
retV [v1] s
theorem Q6 {lib : Lib} (hl : lib 69 = none) {x0 : Value} {s : St} {r : Value × St} (h : wire_all_1 (run Tryz.prog lib Ad) x0 s = some r) : run Tryz.prog lib Ad 69 [x0] s = some r :=
  At hl Tryz.func69 (Eq.trans (by kernel_rfl) h)
theorem Q7 : Ap Tryz.prog 69 = true := by kernel_rfl
theorem N3 {R : Aa} {xs : List Value} {s : St} : Ag Tryz.prog R (.func (.func 69) #[] #[]) xs s = R 69 xs s := Aj Q7
noncomputable def wire_all_2 (R : Aa) (x0 : Value) (s : St) : Option (Value × St) :=
(Ah x0).bind fun v0 =>
(Ac 7 v0).bind fun v1 =>
retV [v1] s
theorem Q8 {lib : Lib} (hl : lib 70 = none) {x0 : Value} {s : St} {r : Value × St} (h : wire_all_2 (run Tryz.prog lib Ad) x0 s = some r) : run Tryz.prog lib Ad 70 [x0] s = some r :=
  At hl Tryz.func70 (Eq.trans (by kernel_rfl) h)
theorem Q9 : Ap Tryz.prog 70 = true := by kernel_rfl
theorem N4 {R : Aa} {xs : List Value} {s : St} : Ag Tryz.prog R (.func (.func 70) #[] #[]) xs s = R 70 xs s := Aj Q9
noncomputable def wire_all_3 (R : Aa) (x0 : Value) (s : St) : Option (Value × St) :=
(Ah x0).bind fun v0 =>
(Ac 8 v0).bind fun v1 =>
retV [v1] s
theorem Ra {lib : Lib} (hl : lib 71 = none) {x0 : Value} {s : St} {r : Value × St} (h : wire_all_3 (run Tryz.prog lib Ad) x0 s = some r) : run Tryz.prog lib Ad 71 [x0] s = some r :=
  At hl Tryz.func71 (Eq.trans (by kernel_rfl) h)
theorem Rb : Ap Tryz.prog 71 = true := by kernel_rfl
theorem N5 {R : Aa} {xs : List Value} {s : St} : Ag Tryz.prog R (.func (.func 71) #[] #[]) xs s = R 71 xs s := Aj Rb
noncomputable def wire_all_4 (R : Aa) (x0 : Value) (s : St) : Option (Value × St) :=
(Ah x0).bind fun v0 =>
(Ac 9 v0).bind fun v1 =>
retV [v1] s
theorem Rc {lib : Lib} (hl : lib 72 = none) {x0 : Value} {s : St} {r : Value × St} (h : wire_all_4 (run Tryz.prog lib Ad) x0 s = some r) : run Tryz.prog lib Ad 72 [x0] s = some r :=
  At hl Tryz.func72 (Eq.trans (by kernel_rfl) h)
theorem Re : Ap Tryz.prog 72 = true := by kernel_rfl
theorem N6 {R : Aa} {xs : List Value} {s : St} : Ag Tryz.prog R (.func (.func 72) #[] #[]) xs s = R 72 xs s := Aj Re
noncomputable def wire_all_5 (R : Aa) (x0 : Value) (s : St) : Option (Value × St) :=
(Ah x0).bind fun v0 =>
(Ac 10 v0).bind fun v1 =>
retV [v1] s
theorem Rf {lib : Lib} (hl : lib 73 = none) {x0 : Value} {s : St} {r : Value × St} (h : wire_all_5 (run Tryz.prog lib Ad) x0 s = some r) : run Tryz.prog lib Ad 73 [x0] s = some r :=
  At hl Tryz.func73 (Eq.trans (by kernel_rfl) h)
theorem Rh : Ap Tryz.prog 73 = true := by kernel_rfl
theorem N7 {R : Aa} {xs : List Value} {s : St} : Ag Tryz.prog R (.func (.func 73) #[] #[]) xs s = R 73 xs s := Aj Rh
noncomputable def wire_all_6 (R : Aa) (x0 : Value) (s : St) : Option (Value × St) :=
(Ah x0).bind fun v0 =>
(Ac 11 v0).bind fun v1 =>
retV [v1] s
theorem Ri {lib : Lib} (hl : lib 74 = none) {x0 : Value} {s : St} {r : Value × St} (h : wire_all_6 (run Tryz.prog lib Ad) x0 s = some r) : run Tryz.prog lib Ad 74 [x0] s = some r :=
  At hl Tryz.func74 (Eq.trans (by kernel_rfl) h)
theorem Rj : Ap Tryz.prog 74 = true := by kernel_rfl
theorem N8 {R : Aa} {xs : List Value} {s : St} : Ag Tryz.prog R (.func (.func 74) #[] #[]) xs s = R 74 xs s := Aj Rj
noncomputable def wire_all_7 (R : Aa) (x0 : Value) (s : St) : Option (Value × St) :=
(Ah x0).bind fun v0 =>
(Ac 12 v0).bind fun v1 =>
retV [v1] s
theorem Rk {lib : Lib} (hl : lib 75 = none) {x0 : Value} {s : St} {r : Value × St} (h : wire_all_7 (run Tryz.prog lib Ad) x0 s = some r) : run Tryz.prog lib Ad 75 [x0] s = some r :=
  At hl Tryz.func75 (Eq.trans (by kernel_rfl) h)
theorem Rm : Ap Tryz.prog 75 = true := by kernel_rfl
theorem N9 {R : Aa} {xs : List Value} {s : St} : Ag Tryz.prog R (.func (.func 75) #[] #[]) xs s = R 75 xs s := Aj Rm
noncomputable def wire_all_8 (R : Aa) (x0 : Value) (s : St) : Option (Value × St) :=
(Ah x0).bind fun v0 =>
(Ac 13 v0).bind fun v1 =>
retV [v1] s
theorem Rn {lib : Lib} (hl : lib 76 = none) {x0 : Value} {s : St} {r : Value × St} (h : wire_all_8 (run Tryz.prog lib Ad) x0 s = some r) : run Tryz.prog lib Ad 76 [x0] s = some r :=
  At hl Tryz.func76 (Eq.trans (by kernel_rfl) h)
theorem Ro : Ap Tryz.prog 76 = true := by kernel_rfl
theorem Oa {R : Aa} {xs : List Value} {s : St} : Ag Tryz.prog R (.func (.func 76) #[] #[]) xs s = R 76 xs s := Aj Ro
noncomputable def wire_all_9 (R : Aa) (x0 : Value) (s : St) : Option (Value × St) :=
(Ah x0).bind fun v0 =>
(Ac 14 v0).bind fun v1 =>
retV [v1] s
theorem Rp {lib : Lib} (hl : lib 77 = none) {x0 : Value} {s : St} {r : Value × St} (h : wire_all_9 (run Tryz.prog lib Ad) x0 s = some r) : run Tryz.prog lib Ad 77 [x0] s = some r :=
  At hl Tryz.func77 (Eq.trans (by kernel_rfl) h)
theorem Rq : Ap Tryz.prog 77 = true := by kernel_rfl
theorem Ob {R : Aa} {xs : List Value} {s : St} : Ag Tryz.prog R (.func (.func 77) #[] #[]) xs s = R 77 xs s := Aj Rq
noncomputable def wire_small (R : Aa) (x0 : Value) (s : St) : Option (Value × St) :=
(anew (An x0) s).bind fun r0 =>
(BD 146 [] [r0.1]).bind fun v1 =>
(BD 147 [] [r0.1]).bind fun v2 =>
(BD 148 [] [r0.1]).bind fun v3 =>
(AU Tryz.prog 58 [(0,v1),(1,v2),(2,v3)]).bind fun v4 =>
(AN 3 lptr v4 (.agg #[.nilFunc,.nilFunc,.nilFunc])).bind fun v5 =>
(Ao true 3 lptr v5).bind fun v6 =>
retV [v6] r0.2
theorem Rr {lib : Lib} (hl : lib 78 = none) {x0 : Value} {s : St} {r : Value × St} (h : wire_small (run Tryz.prog lib Ad) x0 s = some r) : run Tryz.prog lib Ad 78 [x0] s = some r :=
  At hl Tryz.func78 (Eq.trans (by kernel_rfl) h)
theorem Rt : Ap Tryz.prog 78 = true := by kernel_rfl
theorem Oc {R : Aa} {xs : List Value} {s : St} : Ag Tryz.prog R (.func (.func 78) #[] #[]) xs s = R 78 xs s := Aj Rt
noncomputable def wire_all_10 (R : Aa) (x0 : Value) (s : St) : Option (Value × St) :=
(Ah x0).bind fun v0 =>
(Ac 4 v0).bind fun v1 =>
retV [v1] s
theorem Pv {lib : Lib} (hl : lib 79 = none) {x0 : Value} {s : St} {r : Value × St} (h : wire_all_10 (run Tryz.prog lib Ad) x0 s = some r) : run Tryz.prog lib Ad 79 [x0] s = some r :=
  At hl Tryz.func79 (Eq.trans (by kernel_rfl) h)
theorem Pw : Ap Tryz.prog 79 = true := by kernel_rfl
theorem ME {R : Aa} {xs : List Value} {s : St} : Ag Tryz.prog R (.func (.func 79) #[] #[]) xs s = R 79 xs s := Aj Pw
noncomputable def wire_all_11 (R : Aa) (x0 : Value) (s : St) : Option (Value × St) :=
(Ah x0).bind fun v0 =>
(Ac 5 v0).bind fun v1 =>
retV [v1] s
theorem Px {lib : Lib} (hl : lib 80 = none) {x0 : Value} {s : St} {r : Value × St} (h : wire_all_11 (run Tryz.prog lib Ad) x0 s = some r) : run Tryz.prog lib Ad 80 [x0] s = some r :=
  At hl Tryz.func80 (Eq.trans (by kernel_rfl) h)
theorem Py : Ap Tryz.prog 80 = true := by kernel_rfl
theorem MF {R : Aa} {xs : List Value} {s : St} : Ag Tryz.prog R (.func (.func 80) #[] #[]) xs s = R 80 xs s := Aj Py
noncomputable def Od (R : Aa) (x0 x1 : Value) (s : St) : Option (Value × St) :=
(Ah x1).bind fun v0 =>
(Ac 15 v0).bind fun v1 =>
(Aq false 1 v1 s).bind fun v2 =>
(Ag Tryz.prog R (.func (.func 82) #[] #[]) [x0,v2] s).bind fun r3 =>
retV [r3.1] r3.2
theorem Pz {lib : Lib} (hl : lib 81 = none) {x0 x1 : Value} {s : St} {r : Value × St} (h : Od (run Tryz.prog lib Ad) x0 x1 s = some r) : run Tryz.prog lib Ad 81 [x0,x1] s = some r :=
  At hl Tryz.func81 (Eq.trans (by kernel_rfl) h)
theorem PA : Ap Tryz.prog 81 = true := by kernel_rfl
theorem MG {R : Aa} {xs : List Value} {s : St} : Ag Tryz.prog R (.func (.func 81) #[] #[]) xs s = R 81 xs s := Aj PA
noncomputable def Oe (R : Aa) (x0 x1 : Value) (s : St) : Option (Value × St) :=
AA x1
 ((Ar 1 [(.int .u8 0)] 1 [(0,(.int .u8 1))] s).bind fun r0 =>
(AD 1 1 x0 r0.1 r0.2).bind fun r1 =>
retV [r1.1] r1.2)
 ((Ar 1 [(.int .u8 0)] 1 [(0,(.int .u8 0))] s).bind fun r2 =>
(AD 1 1 x0 r2.1 r2.2).bind fun r3 =>
retV [r3.1] r3.2)
theorem LV {lib : Lib} (hl : lib 82 = none) {x0 x1 : Value} {s : St} {r : Value × St} (h : Oe (run Tryz.prog lib Ad) x0 x1 s = some r) : run Tryz.prog lib Ad 82 [x0,x1] s = some r :=
  At hl Tryz.func82 (Eq.trans (by kernel_rfl) h)
theorem SM : Ap Tryz.prog 82 = true := by kernel_rfl
theorem IX {R : Aa} {xs : List Value} {s : St} : Ag Tryz.prog R (.func (.func 82) #[] #[]) xs s = R 82 xs s := Aj SM
noncomputable def Of (R : Aa) (x0 x1 : Value) (s : St) : Option (Value × St) :=
(Ag Tryz.prog R (.func (.func 84) #[] #[]) [x0] s).bind fun r0 =>
(Ah x1).bind fun v1 =>
(Ac 15 v1).bind fun v2 =>
(A0 1 v2 r0.1 r0.2).bind fun s3 =>
retV [] s3
theorem PB {lib : Lib} (hl : lib 83 = none) {x0 x1 : Value} {s : St} {r : Value × St} (h : Of (run Tryz.prog lib Ad) x0 x1 s = some r) : run Tryz.prog lib Ad 83 [x0,x1] s = some r :=
  At hl Tryz.func83 (Eq.trans (by kernel_rfl) h)
theorem PC : Ap Tryz.prog 83 = true := by kernel_rfl
theorem MH {R : Aa} {xs : List Value} {s : St} : Ag Tryz.prog R (.func (.func 83) #[] #[]) xs s = R 83 xs s := Aj PC
noncomputable def BA.j0 (R : Aa) (T : List Value) (s : St) : Option (Value × St) :=
(abin Tryz.prog .eql 3 (.tmp 10) (.const (.int .i64 1)) (getL T 0) (.int .i64 1)).bind fun v4 =>
retV [v4] s
noncomputable def BA (R : Aa) (x0 : Value) (s : St) : Option (Value × St) :=
(Ag Tryz.prog R (.func (.func 35) #[] #[]) [x0] s).bind fun r0 =>
(abin Tryz.prog .gtr 3 (.tmp 6) (.const (.int .i64 1)) r0.1 (.int .i64 1)).bind fun v2 =>
AA v2
 ((Ag Tryz.prog R (.func (.func 36) #[] #[]) [x0,(.int .i64 11)] r0.2).bind fun r3 =>
C9 (BA.j0 R) [r0.1] r3.2)
 (C9 (BA.j0 R) [r0.1] r0.2)
theorem Fa {lib : Lib} (hl : lib 84 = none) {x0 : Value} {s : St} {r : Value × St} (h : BA (run Tryz.prog lib Ad) x0 s = some r) : run Tryz.prog lib Ad 84 [x0] s = some r :=
  At hl Tryz.func84 (Eq.trans (by kernel_rfl) h)
theorem Jy : Ap Tryz.prog 84 = true := by kernel_rfl
theorem Eh {R : Aa} {xs : List Value} {s : St} : Ag Tryz.prog R (.func (.func 84) #[] #[]) xs s = R 84 xs s := Aj Jy
noncomputable def wire_all_14 (R : Aa) (x0 : Value) (s : St) : Option (Value × St) :=
(Ah x0).bind fun v0 =>
(Ac 15 v0).bind fun v1 =>
(Aq false 1 v1 s).bind fun v2 =>
(aun .not v2).bind fun v3 =>
retV [v3] s
theorem PD {lib : Lib} (hl : lib 85 = none) {x0 : Value} {s : St} {r : Value × St} (h : wire_all_14 (run Tryz.prog lib Ad) x0 s = some r) : run Tryz.prog lib Ad 85 [x0] s = some r :=
  At hl Tryz.func85 (Eq.trans (by kernel_rfl) h)
theorem PE : Ap Tryz.prog 85 = true := by kernel_rfl
theorem MI {R : Aa} {xs : List Value} {s : St} : Ag Tryz.prog R (.func (.func 85) #[] #[]) xs s = R 85 xs s := Aj PE
noncomputable def Og (R : Aa) (x0 x1 : Value) (s : St) : Option (Value × St) :=
(Ah x1).bind fun v0 =>
(Ac 16 v0).bind fun v1 =>
(Ac 0 v1).bind fun v2 =>
((Aq false 1 v2 (frzS s)).bind fun v13 =>
some (v13,(frzS s))).bind fun r3 =>
(Ah x1).bind fun v4 =>
(Ac 16 v4).bind fun v5 =>
(Ac 1 v5).bind fun v6 =>
((Aq false 1 v6 (frzS s)).bind fun v12 =>
some (v12,(frzS s))).bind fun r7 =>
(((Ar 1 [(.string ⟨#[]⟩)] 2 [(0,r3.1),(1,r7.1)] s).bind fun r11 =>
some (r11.1,r11.2)).bind (ownR s)).bind fun r8 =>
(((Ag Tryz.prog R (.func (.func 87) #[] #[]) [x0,r8.1] r8.2).bind fun r10 =>
some (r10.1,r10.2)).bind (ownR r8.2)).bind fun r9 =>
retV [r9.1] r9.2
theorem PF {lib : Lib} (hl : lib 86 = none) {x0 x1 : Value} {s : St} {r : Value × St} (h : Og (run Tryz.prog lib Ad) x0 x1 s = some r) : run Tryz.prog lib Ad 86 [x0,x1] s = some r :=
  At hl Tryz.func86 (Eq.trans (by kernel_rfl) h)
theorem PG : Ap Tryz.prog 86 = true := by kernel_rfl
theorem MJ {R : Aa} {xs : List Value} {s : St} : Ag Tryz.prog R (.func (.func 86) #[] #[]) xs s = R 86 xs s := Aj PG
noncomputable def Fb.b0 (R : Aa) (T : List Value) (s : St) : Res :=
(abin Tryz.prog .lss 3 (.tmp 9) (.tmp 8) (getL T 3) (getL T 2)).bind fun v1 =>
AA v1
 ((AC 1 (getL T 1) (getL T 3)).bind fun v2 =>
(Aq false 1 v2 s).bind fun v3 =>
(Ag Tryz.prog R (.func (.func 149) #[] #[]) [v3] s).bind fun r4 =>
(AD 1 1 (getL T 0) r4.1 r4.2).bind fun r5 =>
(abin Tryz.prog .add 3 (.tmp 9) (.const (.int .i64 1)) (getL T 3) (.int .i64 1)).bind fun v6 =>
some (.normal,[r5.1,(getL T 1),(getL T 2),v6],r5.2))
 (some (.exit 0,[(getL T 0)],s))
noncomputable def Fb (R : Aa) (x0 x1 : Value) (s : St) : Option (Value × St) :=
(AP (.slice 9) x1 s).bind fun v0 =>
(AV (Fb.b0 R) [x0,x1,v0,(.int .i64 0)] s).bind fun r7 =>
exV r7.1 [(0,retV [(getL r7.2.1 0)] r7.2.2)]
 (none)
theorem SN {lib : Lib} (hl : lib 87 = none) {x0 x1 : Value} {s : St} {r : Value × St} (h : Fb (run Tryz.prog lib Ad) x0 x1 s = some r) : run Tryz.prog lib Ad 87 [x0,x1] s = some r :=
  At hl Tryz.func87 (Eq.trans (by kernel_rfl) h)
theorem SO : Ap Tryz.prog 87 = true := by kernel_rfl
theorem Dk {R : Aa} {xs : List Value} {s : St} : Ag Tryz.prog R (.func (.func 87) #[] #[]) xs s = R 87 xs s := Aj SO
noncomputable def Oh (R : Aa) (x0 x1 : Value) (s : St) : Option (Value × St) :=
(Ah x1).bind fun v0 =>
(Ac 16 v0).bind fun v1 =>
(Ac 0 v1).bind fun v2 =>
(Ah x1).bind fun v3 =>
(Ac 16 v3).bind fun v4 =>
(Ac 1 v4).bind fun v5 =>
(((Ar 1 [(.pointer none)] 2 [(0,v2),(1,v5)] s).bind fun r9 =>
some (r9.1,r9.2)).bind (ownR s)).bind fun r6 =>
(((Ag Tryz.prog R (.func (.func 89) #[] #[]) [x0,r6.1] r6.2).bind fun r8 =>
some (r8.1,r8.2)).bind (ownR r6.2)).bind fun r7 =>
retV [] r7.2
theorem PH {lib : Lib} (hl : lib 88 = none) {x0 x1 : Value} {s : St} {r : Value × St} (h : Oh (run Tryz.prog lib Ad) x0 x1 s = some r) : run Tryz.prog lib Ad 88 [x0,x1] s = some r :=
  At hl Tryz.func88 (Eq.trans (by kernel_rfl) h)
theorem PI : Ap Tryz.prog 88 = true := by kernel_rfl
theorem MK {R : Aa} {xs : List Value} {s : St} : Ag Tryz.prog R (.func (.func 88) #[] #[]) xs s = R 88 xs s := Aj PI
noncomputable def AG.j0 (R : Aa) (T : List Value) (s : St) : Res :=
(abin Tryz.prog .neq 32 (.tmp 31) (.const (.int .i64 0)) (getL T 4) (.int .i64 0)).bind fun v17 =>
AA v17
 ((Ag Tryz.prog R (.func (.func 36) #[] #[]) [(getL T 0),(getL T 4)] s).bind fun r18 =>
some (.ret,[],r18.2))
 ((Ah (getL T 0)).bind fun v19 =>
(Ac 0 v19).bind fun v20 =>
(((Aq false 1 v20 s).bind fun v31 =>
some (v31,s)).bind (ownR s)).bind fun r21 =>
(Bj 1 r21.1 (some (getL T 3)) none none).bind fun v22 =>
(Ah (getL T 1)).bind fun v23 =>
(((A0 1 v23 (getL T 2) r21.2).bind fun s30 =>
some (undef,s30)).bind (ownR r21.2)).bind fun r24 =>
(Ah (getL T 0)).bind fun v25 =>
(Ac 0 v25).bind fun v26 =>
(((A0 1 v26 v22 r24.2).bind fun s29 =>
some (undef,s29)).bind (ownR r24.2)).bind fun r27 =>
(abin Tryz.prog .add 3 (.tmp 11) (.const (.int .i64 1)) (getL T 7) (.int .i64 1)).bind fun v28 =>
some (.normal,[(getL T 0),(getL T 5),(getL T 6),v28],r27.2))
noncomputable def AG.b0 (R : Aa) (T : List Value) (s : St) : Res :=
(abin Tryz.prog .lss 3 (.tmp 11) (.tmp 10) (getL T 3) (getL T 2)).bind fun v1 =>
AA v1
 ((AC 1 (getL T 1) (getL T 3)).bind fun v2 =>
(Aq false 1 v2 s).bind fun v3 =>
(Ah (getL T 0)).bind fun v4 =>
(Ac 1 v4).bind fun v5 =>
(Aq false 1 v5 s).bind fun v6 =>
(abin Tryz.prog .neq 32 (.tmp 18) (.const (.int .i64 0)) v6 (.int .i64 0)).bind fun v7 =>
AA v7
 (some (.ret,[],s))
 ((Ah (getL T 0)).bind fun v8 =>
(Ac 0 v8).bind fun v9 =>
(Aq false 1 v9 s).bind fun v10 =>
(Ag Tryz.prog R (.func (.func 150) #[] #[]) [v10,(.int .i64 255)] s).bind fun r11 =>
(Ak 0 r11.1).bind fun v12 =>
(Ak 1 r11.1).bind fun v13 =>
(Ak 2 r11.1).bind fun v14 =>
(abin Tryz.prog .eql 32 (.tmp 29) (.const (.int .i64 2)) v14 (.int .i64 2)).bind fun v16 =>
AA v16
 (C9 (AG.j0 R) [(getL T 0),v3,v12,v13,(.int .i64 11),(getL T 1),(getL T 2),(getL T 3)] r11.2)
 (C9 (AG.j0 R) [(getL T 0),v3,v12,v13,v14,(getL T 1),(getL T 2),(getL T 3)] r11.2)))
 (some (.exit 0,[],s))
noncomputable def AG (R : Aa) (x0 x1 : Value) (s : St) : Option (Value × St) :=
(AP (.slice 108) x1 s).bind fun v0 =>
(AV (AG.b0 R) [x0,x1,v0,(.int .i64 0)] s).bind fun r32 =>
exV r32.1 [(0,retV [] r32.2.2)]
 (retV [] r32.2.2)
theorem IC {lib : Lib} (hl : lib 89 = none) {x0 x1 : Value} {s : St} {r : Value × St} (h : AG (run Tryz.prog lib Ad) x0 x1 s = some r) : run Tryz.prog lib Ad 89 [x0,x1] s = some r :=
  At hl Tryz.func89 (Eq.trans (by kernel_rfl) h)
theorem ID : Ap Tryz.prog 89 = true := by kernel_rfl
theorem BC {R : Aa} {xs : List Value} {s : St} : Ag Tryz.prog R (.func (.func 89) #[] #[]) xs s = R 89 xs s := Aj ID
noncomputable def wire_all_17 (R : Aa) (x0 : Value) (s : St) : Option (Value × St) :=
(Ah x0).bind fun v0 =>
(Ac 16 v0).bind fun v1 =>
(Aq true 2 v1 s).bind fun v2 =>
(abin Tryz.prog .eql 24 (.tmp 6) (.tmp 7) v2 (.agg #[(.string ⟨#[]⟩),(.string ⟨#[]⟩)])).bind fun v3 =>
retV [v3] s
theorem PJ {lib : Lib} (hl : lib 90 = none) {x0 : Value} {s : St} {r : Value × St} (h : wire_all_17 (run Tryz.prog lib Ad) x0 s = some r) : run Tryz.prog lib Ad 90 [x0] s = some r :=
  At hl Tryz.func90 (Eq.trans (by kernel_rfl) h)
theorem PK : Ap Tryz.prog 90 = true := by kernel_rfl
theorem ML {R : Aa} {xs : List Value} {s : St} : Ag Tryz.prog R (.func (.func 90) #[] #[]) xs s = R 90 xs s := Aj PK
noncomputable def wire_list_api_Op (R : Aa) (x0 x1 x2 : Value) (s : St) : Option (Value × St) :=
(anew (An x0) s).bind fun r0 =>
(anew (An x1) r0.2).bind fun r1 =>
(anew (An x2) r1.2).bind fun r2 =>
(BD 151 [] [r0.1,r1.1]).bind fun v3 =>
(BD 152 [] [r0.1,r2.1]).bind fun v4 =>
(BD 154 [] [r0.1]).bind fun v5 =>
(AU Tryz.prog 58 [(0,v3),(1,v4),(2,v5)]).bind fun v6 =>
(AN 3 lptr v6 (.agg #[.nilFunc,.nilFunc,.nilFunc])).bind fun v7 =>
(Ao true 3 lptr v7).bind fun v8 =>
retV [v8] r2.2
theorem Jz {lib : Lib} (hl : lib 91 = none) {x0 x1 x2 : Value} {s : St} {r : Value × St} (h : wire_list_api_Op (run Tryz.prog lib Ad) x0 x1 x2 s = some r) : run Tryz.prog lib Ad 91 [x0,x1,x2] s = some r :=
  At hl Tryz.func91 (Eq.trans (by kernel_rfl) h)
theorem JA : Ap Tryz.prog 91 = true := by kernel_rfl
theorem HM {R : Aa} {xs : List Value} {s : St} : Ag Tryz.prog R (.func (.func 91) #[] #[]) xs s = R 91 xs s := Aj JA
noncomputable def wire_all_18 (R : Aa) (x0 : Value) (s : St) : Option (Value × St) :=
(Ah x0).bind fun v0 =>
(Ac 18 v0).bind fun v1 =>
retV [v1] s
theorem PL {lib : Lib} (hl : lib 92 = none) {x0 : Value} {s : St} {r : Value × St} (h : wire_all_18 (run Tryz.prog lib Ad) x0 s = some r) : run Tryz.prog lib Ad 92 [x0] s = some r :=
  At hl Tryz.func92 (Eq.trans (by kernel_rfl) h)
theorem PM : Ap Tryz.prog 92 = true := by kernel_rfl
theorem MM {R : Aa} {xs : List Value} {s : St} : Ag Tryz.prog R (.func (.func 92) #[] #[]) xs s = R 92 xs s := Aj PM
noncomputable def LW (R : Aa) (x0 x1 : Value) (s : St) : Option (Value × St) :=
(lbox x1).bind fun v0 =>
((Ao false 1 lptr v0).bind fun v1 =>
(AK .u8 v1).bind fun v2 =>
(Ar 1 [(.int .u8 0)] 1 [(0,v2)] s).bind fun r3 =>
(AD 1 1 x0 r3.1 r3.2).bind fun r4 =>
(Ao false 1 (.pointer (some ⟨0,1,none⟩)) v0).bind fun v5 =>
(Ao false 1 (.pointer (some ⟨0,2,none⟩)) v0).bind fun v6 =>
(Ao false 1 (.pointer (some ⟨0,3,none⟩)) v0).bind fun v7 =>
(Ao false 1 (.pointer (some ⟨0,4,none⟩)) v0).bind fun v8 =>
(Ar 1 [(.string ⟨#[]⟩)] 4 [(0,v5),(1,v6),(2,v7),(3,v8)] r4.2).bind fun r9 =>
(Ag Tryz.prog R (.func (.func 87) #[] #[]) [r4.1,r9.1] r9.2).bind fun r10 =>
(Ao false 1 (.pointer (some ⟨0,5,none⟩)) v0).bind fun v11 =>
(AK .u8 v11).bind fun v12 =>
(Ar 1 [(.int .u8 0)] 1 [(0,v12)] r10.2).bind fun r13 =>
(AD 1 1 r10.1 r13.1 r13.2).bind fun r14 =>
some [x0,r3.1,r4.1,r9.1]).bind fun q15 =>
(Ao false 1 lptr v0).bind fun v16 =>
(AK .u8 v16).bind fun v17 =>
(((Ar 1 [(.int .u8 0)] 1 [(0,v17)] (⟨frzK [] 0 (s).heap⟩ : St)).bind fun r35 =>
some (r35.1,r35.2)).bind (Bz [] s)).bind fun r18 =>
(((AD 1 1 x0 r18.1 (⟨Eb (BK [(getL q15 0),(getL q15 1)]) 0 (r18.2).heap⟩ : St)).bind fun r34 =>
some (r34.1,r34.2)).bind (appR (BK [(getL q15 0),(getL q15 1)]) [] r18.2)).bind fun r19 =>
(Ao false 1 (.pointer (some ⟨0,1,none⟩)) v0).bind fun v20 =>
(Ao false 1 (.pointer (some ⟨0,2,none⟩)) v0).bind fun v21 =>
(Ao false 1 (.pointer (some ⟨0,3,none⟩)) v0).bind fun v22 =>
(Ao false 1 (.pointer (some ⟨0,4,none⟩)) v0).bind fun v23 =>
(((Ar 1 [(.string ⟨#[]⟩)] 4 [(0,v20),(1,v21),(2,v22),(3,v23)] (⟨frzK ((BK [(getL q15 0),(getL q15 1)]) ++ []) 0 (r19.2).heap⟩ : St)).bind fun r33 =>
some (r33.1,r33.2)).bind (Bz ((BK [(getL q15 0),(getL q15 1)]) ++ []) r19.2)).bind fun r24 =>
(((Ag Tryz.prog R (.func (.func 87) #[] #[]) [r19.1,r24.1] (⟨Eb (BK [(getL q15 2),(getL q15 3)]) 0 (r24.2).heap⟩ : St)).bind fun r32 =>
some (r32.1,r32.2)).bind (appR (BK [(getL q15 2),(getL q15 3)]) [] r24.2)).bind fun r25 =>
(Ao false 1 (.pointer (some ⟨0,5,none⟩)) v0).bind fun v26 =>
(AK .u8 v26).bind fun v27 =>
(((Ar 1 [(.int .u8 0)] 1 [(0,v27)] (⟨frzK ((BK [(getL q15 0),(getL q15 1)]) ++ ((BK [(getL q15 2),(getL q15 3)]) ++ [])) 0 (r25.2).heap⟩ : St)).bind fun r31 =>
some (r31.1,r31.2)).bind (Bz ((BK [(getL q15 0),(getL q15 1)]) ++ ((BK [(getL q15 2),(getL q15 3)]) ++ [])) r25.2)).bind fun r28 =>
(((AD 1 1 r25.1 r28.1 r28.2).bind fun r30 =>
some (r30.1,r30.2)).bind (ownR r28.2)).bind fun r29 =>
retV [r29.1] r29.2
theorem Oi {lib : Lib} (hl : lib 93 = none) {x0 x1 : Value} {s : St} {r : Value × St} (h : LW (run Tryz.prog lib Ad) x0 x1 s = some r) : run Tryz.prog lib Ad 93 [x0,x1] s = some r :=
  At hl Tryz.func93 (Eq.trans (by kernel_rfl) h)
theorem Oj : Ap Tryz.prog 93 = true := by kernel_rfl
theorem K6 {R : Aa} {xs : List Value} {s : St} : Ag Tryz.prog R (.func (.func 93) #[] #[]) xs s = R 93 xs s := Aj Oj
noncomputable def IY (R : Aa) (x0 : Value) (s : St) : Option (Value × St) :=
(Ag Tryz.prog R (.func (.func 35) #[] #[]) [x0] s).bind fun r0 =>
(AU Tryz.prog 69 [(0,r0.1)]).bind fun v1 =>
(anew [(.int .i64 0),(.string ⟨#[]⟩),(.string ⟨#[]⟩),(.string ⟨#[]⟩),(.string ⟨#[]⟩),(.int .i64 0)] r0.2).bind fun r2 =>
(A0 6 r2.1 v1 r2.2).bind fun s3 =>
(Ac 1 r2.1).bind fun v4 =>
(Ac 2 r2.1).bind fun v5 =>
(Ac 3 r2.1).bind fun v6 =>
(Ac 4 r2.1).bind fun v7 =>
(Ar 1 [(.pointer none)] 4 [(0,v4),(1,v5),(2,v6),(3,v7)] s3).bind fun r8 =>
(Ag Tryz.prog R (.func (.func 89) #[] #[]) [x0,r8.1] r8.2).bind fun r9 =>
(Ag Tryz.prog R (.func (.func 35) #[] #[]) [x0] r9.2).bind fun r10 =>
(Ac 5 r2.1).bind fun v11 =>
(A0 1 v11 r10.1 r10.2).bind fun s12 =>
(Aq true 6 r2.1 s12).bind fun v13 =>
(AN 6 lptr v13 (.agg #[(.int .i64 0),(.string ⟨#[]⟩),(.string ⟨#[]⟩),(.string ⟨#[]⟩),(.string ⟨#[]⟩),(.int .i64 0)])).bind fun v14 =>
(Ao true 6 lptr v14).bind fun v15 =>
retV [v15] s12
theorem K7 {lib : Lib} (hl : lib 94 = none) {x0 : Value} {s : St} {r : Value × St} (h : IY (run Tryz.prog lib Ad) x0 s = some r) : run Tryz.prog lib Ad 94 [x0] s = some r :=
  At hl Tryz.func94 (Eq.trans (by kernel_rfl) h)
theorem K8 : Ap Tryz.prog 94 = true := by kernel_rfl
theorem JB {R : Aa} {xs : List Value} {s : St} : Ag Tryz.prog R (.func (.func 94) #[] #[]) xs s = R 94 xs s := Aj K8
noncomputable def wire_list_api_Result (R : Aa) (x0 x1 x2 : Value) (s : St) : Option (Value × St) :=
(anew (An x0) s).bind fun r0 =>
(anew (An x1) r0.2).bind fun r1 =>
(anew (An x2) r1.2).bind fun r2 =>
(BD 155 [] [r0.1,r1.1]).bind fun v3 =>
(BD 156 [] [r0.1,r2.1]).bind fun v4 =>
(BD 157 [] [r0.1]).bind fun v5 =>
(AU Tryz.prog 58 [(0,v3),(1,v4),(2,v5)]).bind fun v6 =>
(AN 3 lptr v6 (.agg #[.nilFunc,.nilFunc,.nilFunc])).bind fun v7 =>
(Ao true 3 lptr v7).bind fun v8 =>
retV [v8] r2.2
theorem GO {lib : Lib} (hl : lib 95 = none) {x0 x1 x2 : Value} {s : St} {r : Value × St} (h : wire_list_api_Result (run Tryz.prog lib Ad) x0 x1 x2 s = some r) : run Tryz.prog lib Ad 95 [x0,x1,x2] s = some r :=
  At hl Tryz.func95 (Eq.trans (by kernel_rfl) h)
theorem GP : Ap Tryz.prog 95 = true := by kernel_rfl
theorem FO {R : Aa} {xs : List Value} {s : St} : Ag Tryz.prog R (.func (.func 95) #[] #[]) xs s = R 95 xs s := Aj GP
noncomputable def wire_all_19 (R : Aa) (x0 : Value) (s : St) : Option (Value × St) :=
(Ah x0).bind fun v0 =>
(Ac 19 v0).bind fun v1 =>
retV [v1] s
theorem PN {lib : Lib} (hl : lib 96 = none) {x0 : Value} {s : St} {r : Value × St} (h : wire_all_19 (run Tryz.prog lib Ad) x0 s = some r) : run Tryz.prog lib Ad 96 [x0] s = some r :=
  At hl Tryz.func96 (Eq.trans (by kernel_rfl) h)
theorem PO : Ap Tryz.prog 96 = true := by kernel_rfl
theorem MN {R : Aa} {xs : List Value} {s : St} : Ag Tryz.prog R (.func (.func 96) #[] #[]) xs s = R 96 xs s := Aj PO
noncomputable def BR.b0 (R : Aa) (T : List Value) (s : St) : Res :=
(abin Tryz.prog .lss 3 (.tmp 24) (.tmp 23) (getL T 3) (getL T 2)).bind fun v24 =>
AA v24
 ((AC 2 (getL T 1) (getL T 3)).bind fun v25 =>
(Aq true 2 v25 s).bind fun v26 =>
(AN 2 lptr v26 (.agg #[(.string ⟨#[]⟩),(.string ⟨#[]⟩)])).bind fun v27 =>
(Ao false 1 lptr v27).bind fun v28 =>
(Ao false 1 (.pointer (some ⟨0,1,none⟩)) v27).bind fun v29 =>
(Ar 1 [(.string ⟨#[]⟩)] 2 [(0,v28),(1,v29)] s).bind fun r30 =>
(Ag Tryz.prog R (.func (.func 87) #[] #[]) [(getL T 0),r30.1] r30.2).bind fun r31 =>
(abin Tryz.prog .add 3 (.tmp 24) (.const (.int .i64 1)) (getL T 3) (.int .i64 1)).bind fun v32 =>
some (.normal,[r31.1,(getL T 1),(getL T 2),v32],r31.2))
 (some (.exit 0,[(getL T 0)],s))
noncomputable def BR (R : Aa) (x0 x1 : Value) (s : St) : Option (Value × St) :=
(lbox x1).bind fun v0 =>
((Ao false 1 lptr v0).bind fun v1 =>
(Ag Tryz.prog R (.func (.func 82) #[] #[]) [x0,v1] s).bind fun r2 =>
(Ao false 1 (.pointer (some ⟨0,1,none⟩)) v0).bind fun v3 =>
(Ar 1 [(.string ⟨#[]⟩)] 1 [(0,v3)] r2.2).bind fun r4 =>
(Ag Tryz.prog R (.func (.func 87) #[] #[]) [r2.1,r4.1] r4.2).bind fun r5 =>
(Ao false 1 (.pointer (some ⟨0,2,none⟩)) v0).bind fun v6 =>
(AP (.slice 89) v6 r5.2).bind fun v7 =>
(AK .u64 v7).bind fun v8 =>
(Ag Tryz.prog R (.func (.func 45) #[] #[]) [v8] r5.2).bind fun r9 =>
(AD 1 1 r5.1 r9.1 r9.2).bind fun r10 =>
some [x0,v1,r2.1,r4.1]).bind fun q11 =>
(Ao false 1 lptr v0).bind fun v12 =>
(((Ag Tryz.prog R (.func (.func 82) #[] #[]) [x0,v12] (⟨Eb (BK [(getL q11 0),(getL q11 1)]) 0 (s).heap⟩ : St)).bind fun r39 =>
some (r39.1,r39.2)).bind (appR (BK [(getL q11 0),(getL q11 1)]) [] s)).bind fun r13 =>
(Ao false 1 (.pointer (some ⟨0,1,none⟩)) v0).bind fun v14 =>
(((Ar 1 [(.string ⟨#[]⟩)] 1 [(0,v14)] (⟨frzK ((BK [(getL q11 0),(getL q11 1)]) ++ []) 0 (r13.2).heap⟩ : St)).bind fun r38 =>
some (r38.1,r38.2)).bind (Bz ((BK [(getL q11 0),(getL q11 1)]) ++ []) r13.2)).bind fun r15 =>
(((Ag Tryz.prog R (.func (.func 87) #[] #[]) [r13.1,r15.1] (⟨Eb (BK [(getL q11 2),(getL q11 3)]) 0 (r15.2).heap⟩ : St)).bind fun r37 =>
some (r37.1,r37.2)).bind (appR (BK [(getL q11 2),(getL q11 3)]) [] r15.2)).bind fun r16 =>
(Ao false 1 (.pointer (some ⟨0,2,none⟩)) v0).bind fun v17 =>
(((AP (.slice 89) v17 (⟨frzK ((BK [(getL q11 0),(getL q11 1)]) ++ ((BK [(getL q11 2),(getL q11 3)]) ++ [])) 0 (r16.2).heap⟩ : St)).bind fun v36 =>
some (v36,(⟨frzK ((BK [(getL q11 0),(getL q11 1)]) ++ ((BK [(getL q11 2),(getL q11 3)]) ++ [])) 0 (r16.2).heap⟩ : St))).bind (Bz ((BK [(getL q11 0),(getL q11 1)]) ++ ((BK [(getL q11 2),(getL q11 3)]) ++ [])) r16.2)).bind fun r18 =>
(AK .u64 r18.1).bind fun v19 =>
(((Ag Tryz.prog R (.func (.func 45) #[] #[]) [v19] r18.2).bind fun r35 =>
some (r35.1,r35.2)).bind (ownR r18.2)).bind fun r20 =>
(((AD 1 1 r16.1 r20.1 r20.2).bind fun r34 =>
some (r34.1,r34.2)).bind (ownR r20.2)).bind fun r21 =>
(Ao false 1 (.pointer (some ⟨0,2,none⟩)) v0).bind fun v22 =>
(AP (.slice 89) v22 r21.2).bind fun v23 =>
(AV (BR.b0 R) [r21.1,v22,v23,(.int .i64 0)] r21.2).bind fun r33 =>
exV r33.1 [(0,retV [(getL r33.2.1 0)] r33.2.2)]
 (none)
theorem JC {lib : Lib} (hl : lib 97 = none) {x0 x1 : Value} {s : St} {r : Value × St} (h : BR (run Tryz.prog lib Ad) x0 x1 s = some r) : run Tryz.prog lib Ad 97 [x0,x1] s = some r :=
  At hl Tryz.func97 (Eq.trans (by kernel_rfl) h)
theorem JD : Ap Tryz.prog 97 = true := by kernel_rfl
theorem HN {R : Aa} {xs : List Value} {s : St} : Ag Tryz.prog R (.func (.func 97) #[] #[]) xs s = R 97 xs s := Aj JD
noncomputable def Bh.b0 (R : Aa) (T : List Value) (s : St) : Res :=
(abin Tryz.prog .gtr 3 (.tmp 15) (.const (.int .i64 0)) (getL T 3) (.int .i64 0)).bind fun v8 =>
(Ai v8 true ((Ah (getL T 0)).bind fun v9 =>
(Ac 1 v9).bind fun v10 =>
(Aq false 1 v10 s).bind fun v11 =>
(abin Tryz.prog .eql 32 (.tmp 21) (.const (.int .i64 0)) v11 (.int .i64 0)).bind fun v12 =>
some ([v12],s)) (some ([undef],s))).bind fun q13 =>
(AM v8 (getL q13.1 0) (.bool false)).bind fun v14 =>
AA v14
 ((anew [(.string ⟨#[]⟩),(.string ⟨#[]⟩)] q13.2).bind fun r15 =>
(Ac 0 r15.1).bind fun v16 =>
(Ac 1 r15.1).bind fun v17 =>
(Ar 1 [(.pointer none)] 2 [(0,v16),(1,v17)] r15.2).bind fun r18 =>
(Ag Tryz.prog R (.func (.func 89) #[] #[]) [(getL T 0),r18.1] r18.2).bind fun r19 =>
(Ac 2 (getL T 2)).bind fun v20 =>
(Aq false 1 v20 r19.2).bind fun v21 =>
(Aq true 2 r15.1 r19.2).bind fun v22 =>
(Ar 2 [(.string ⟨#[]⟩),(.string ⟨#[]⟩)] 1 [(0,v22)] r19.2).bind fun r23 =>
(AD 2 32 v21 r23.1 r23.2).bind fun r24 =>
(Ac 2 (getL T 2)).bind fun v25 =>
(A0 1 v25 r24.1 r24.2).bind fun s26 =>
(abin Tryz.prog .sub 3 (.tmp 24) (.const (.int .i64 1)) (getL T 3) (.int .i64 1)).bind fun v27 =>
some (.normal,[(getL T 0),(getL T 1),(getL T 2),v27,(getL T 4)],s26))
 (some (.exit 0,[(getL T 1),(getL T 2),(getL T 4)],q13.2))
noncomputable def Bh (R : Aa) (x0 : Value) (s : St) : Option (Value × St) :=
(Ag Tryz.prog R (.func (.func 84) #[] #[]) [x0] s).bind fun r0 =>
(AU Tryz.prog 87 [(0,r0.1)]).bind fun v1 =>
(anew [(.bool false),(.string ⟨#[]⟩),(.slice none 0 0)] r0.2).bind fun r2 =>
(A0 3 r2.1 v1 r2.2).bind fun s3 =>
(Ac 1 r2.1).bind fun v4 =>
(Ar 1 [(.pointer none)] 1 [(0,v4)] s3).bind fun r5 =>
(Ag Tryz.prog R (.func (.func 89) #[] #[]) [x0,r5.1] r5.2).bind fun r6 =>
(Ag Tryz.prog R (.func (.func 153) #[] #[]) [x0] r6.2).bind fun r7 =>
(AV (Bh.b0 R) [x0,lptr,r2.1,r7.1,(.agg #[(.bool false),(.string ⟨#[]⟩),(.slice none 0 0)])] r7.2).bind fun r28 =>
exV r28.1 [(0,(Aq true 3 (getL r28.2.1 1) r28.2.2).bind fun v29 =>
(AN 3 (getL r28.2.1 0) v29 (getL r28.2.1 2)).bind fun v30 =>
(Ao true 3 (getL r28.2.1 0) v30).bind fun v31 =>
retV [v31] r28.2.2)]
 (none)
theorem HO {lib : Lib} (hl : lib 98 = none) {x0 : Value} {s : St} {r : Value × St} (h : Bh (run Tryz.prog lib Ad) x0 s = some r) : run Tryz.prog lib Ad 98 [x0] s = some r :=
  At hl Tryz.func98 (Eq.trans (by kernel_rfl) h)
theorem HP : Ap Tryz.prog 98 = true := by kernel_rfl
theorem GQ {R : Aa} {xs : List Value} {s : St} : Ag Tryz.prog R (.func (.func 98) #[] #[]) xs s = R 98 xs s := Aj HP
noncomputable def wire_list_api_Owner (R : Aa) (x0 x1 x2 : Value) (s : St) : Option (Value × St) :=
(anew (An x0) s).bind fun r0 =>
(anew (An x1) r0.2).bind fun r1 =>
(anew (An x2) r1.2).bind fun r2 =>
(BD 158 [] [r0.1,r1.1]).bind fun v3 =>
(BD 159 [] [r0.1,r2.1]).bind fun v4 =>
(BD 160 [] [r0.1]).bind fun v5 =>
(AU Tryz.prog 58 [(0,v3),(1,v4),(2,v5)]).bind fun v6 =>
(AN 3 lptr v6 (.agg #[.nilFunc,.nilFunc,.nilFunc])).bind fun v7 =>
(Ao true 3 lptr v7).bind fun v8 =>
retV [v8] r2.2
theorem He {lib : Lib} (hl : lib 99 = none) {x0 x1 x2 : Value} {s : St} {r : Value × St} (h : wire_list_api_Owner (run Tryz.prog lib Ad) x0 x1 x2 s = some r) : run Tryz.prog lib Ad 99 [x0,x1,x2] s = some r :=
  At hl Tryz.func99 (Eq.trans (by kernel_rfl) h)
theorem Hf : Ap Tryz.prog 99 = true := by kernel_rfl
theorem Gj {R : Aa} {xs : List Value} {s : St} : Ag Tryz.prog R (.func (.func 99) #[] #[]) xs s = R 99 xs s := Aj Hf
noncomputable def wire_all_20 (R : Aa) (x0 : Value) (s : St) : Option (Value × St) :=
(Ah x0).bind fun v0 =>
(Ac 20 v0).bind fun v1 =>
retV [v1] s
theorem PP {lib : Lib} (hl : lib 100 = none) {x0 : Value} {s : St} {r : Value × St} (h : wire_all_20 (run Tryz.prog lib Ad) x0 s = some r) : run Tryz.prog lib Ad 100 [x0] s = some r :=
  At hl Tryz.func100 (Eq.trans (by kernel_rfl) h)
theorem PQ : Ap Tryz.prog 100 = true := by kernel_rfl
theorem MO {R : Aa} {xs : List Value} {s : St} : Ag Tryz.prog R (.func (.func 100) #[] #[]) xs s = R 100 xs s := Aj PQ
noncomputable def HQ (R : Aa) (x0 x1 : Value) (s : St) : Option (Value × St) :=
(lbox x1).bind fun v0 =>
((Ao false 1 lptr v0).bind fun v1 =>
(Ar 1 [(.string ⟨#[]⟩)] 1 [(0,v1)] s).bind fun r2 =>
(Ag Tryz.prog R (.func (.func 87) #[] #[]) [x0,r2.1] r2.2).bind fun r3 =>
(Ao false 1 (.pointer (some ⟨0,1,none⟩)) v0).bind fun v4 =>
(AK .u8 v4).bind fun v5 =>
(Ar 1 [(.int .u8 0)] 1 [(0,v5)] r3.2).bind fun r6 =>
(AD 1 1 r3.1 r6.1 r6.2).bind fun r7 =>
some [x0,r2.1]).bind fun q8 =>
(Ao false 1 lptr v0).bind fun v9 =>
(((Ar 1 [(.string ⟨#[]⟩)] 1 [(0,v9)] (⟨frzK [] 0 (s).heap⟩ : St)).bind fun r19 =>
some (r19.1,r19.2)).bind (Bz [] s)).bind fun r10 =>
(((Ag Tryz.prog R (.func (.func 87) #[] #[]) [x0,r10.1] (⟨Eb (BK [(getL q8 0),(getL q8 1)]) 0 (r10.2).heap⟩ : St)).bind fun r18 =>
some (r18.1,r18.2)).bind (appR (BK [(getL q8 0),(getL q8 1)]) [] r10.2)).bind fun r11 =>
(Ao false 1 (.pointer (some ⟨0,1,none⟩)) v0).bind fun v12 =>
(AK .u8 v12).bind fun v13 =>
(((Ar 1 [(.int .u8 0)] 1 [(0,v13)] (⟨frzK ((BK [(getL q8 0),(getL q8 1)]) ++ []) 0 (r11.2).heap⟩ : St)).bind fun r17 =>
some (r17.1,r17.2)).bind (Bz ((BK [(getL q8 0),(getL q8 1)]) ++ []) r11.2)).bind fun r14 =>
(((AD 1 1 r11.1 r14.1 r14.2).bind fun r16 =>
some (r16.1,r16.2)).bind (ownR r14.2)).bind fun r15 =>
retV [r15.1] r15.2
theorem Kt {lib : Lib} (hl : lib 101 = none) {x0 x1 : Value} {s : St} {r : Value × St} (h : HQ (run Tryz.prog lib Ad) x0 x1 s = some r) : run Tryz.prog lib Ad 101 [x0,x1] s = some r :=
  At hl Tryz.func101 (Eq.trans (by kernel_rfl) h)
theorem Ku : Ap Tryz.prog 101 = true := by kernel_rfl
theorem IE {R : Aa} {xs : List Value} {s : St} : Ag Tryz.prog R (.func (.func 101) #[] #[]) xs s = R 101 xs s := Aj Ku
noncomputable def Gk (R : Aa) (x0 : Value) (s : St) : Option (Value × St) :=
(anew [(.string ⟨#[]⟩),(.int .i64 0)] s).bind fun r0 =>
(Ac 0 r0.1).bind fun v1 =>
(Ar 1 [(.pointer none)] 1 [(0,v1)] r0.2).bind fun r2 =>
(Ag Tryz.prog R (.func (.func 89) #[] #[]) [x0,r2.1] r2.2).bind fun r3 =>
(Ag Tryz.prog R (.func (.func 35) #[] #[]) [x0] r3.2).bind fun r4 =>
(Ac 1 r0.1).bind fun v5 =>
(A0 1 v5 r4.1 r4.2).bind fun s6 =>
(Aq true 2 r0.1 s6).bind fun v7 =>
(AN 2 lptr v7 (.agg #[(.string ⟨#[]⟩),(.int .i64 0)])).bind fun v8 =>
(Ao true 2 lptr v8).bind fun v9 =>
retV [v9] s6
theorem IF {lib : Lib} (hl : lib 102 = none) {x0 : Value} {s : St} {r : Value × St} (h : Gk (run Tryz.prog lib Ad) x0 s = some r) : run Tryz.prog lib Ad 102 [x0] s = some r :=
  At hl Tryz.func102 (Eq.trans (by kernel_rfl) h)
theorem IG : Ap Tryz.prog 102 = true := by kernel_rfl
theorem Hg {R : Aa} {xs : List Value} {s : St} : Ag Tryz.prog R (.func (.func 102) #[] #[]) xs s = R 102 xs s := Aj IG
noncomputable def Kv (R : Aa) (x0 : Value) (s : St) : Option (Value × St) :=
(abin Tryz.prog .lss 22 (.tmp 3) (.const (.int .u64 128)) x0 (.int .u64 128)).bind fun v0 =>
AA v0
 ((AK .u8 x0).bind fun v1 =>
(Ar 1 [(.int .u8 0)] 1 [(0,v1)] s).bind fun r2 =>
retV [r2.1] r2.2)
 ((abin Tryz.prog .rem 22 (.tmp 8) (.const (.int .u64 128)) x0 (.int .u64 128)).bind fun v3 =>
(AK .u8 v3).bind fun v4 =>
(abin Tryz.prog .add 5 (.tmp 10) (.const (.int .u8 128)) v4 (.int .u8 128)).bind fun v5 =>
(Ar 1 [(.int .u8 0)] 1 [(0,v5)] s).bind fun r6 =>
(abin Tryz.prog .quo 22 (.tmp 13) (.const (.int .u64 128)) x0 (.int .u64 128)).bind fun v7 =>
(Ag Tryz.prog R (.func (.func 103) #[] #[]) [v7] r6.2).bind fun r8 =>
(AD 1 1 r6.1 r8.1 r8.2).bind fun r9 =>
retV [r9.1] r9.2)
theorem HR {lib : Lib} (hl : lib 103 = none) {x0 : Value} {s : St} {r : Value × St} (h : Kv (run Tryz.prog lib Ad) x0 s = some r) : run Tryz.prog lib Ad 103 [x0] s = some r :=
  At hl Tryz.func103 (Eq.trans (by kernel_rfl) h)
theorem LX : Ap Tryz.prog 103 = true := by kernel_rfl
theorem D8 {R : Aa} {xs : List Value} {s : St} : Ag Tryz.prog R (.func (.func 103) #[] #[]) xs s = R 103 xs s := Aj LX
noncomputable def JE (R : Aa) (x0 : Value) (s : St) : Option (Value × St) :=
(AK .u8 x0).bind fun v0 =>
(abin Tryz.prog .shr 44 (.tmp 5) (.const (.int .u64 8)) x0 (.int .u64 8)).bind fun v1 =>
(AK .u8 v1).bind fun v2 =>
(abin Tryz.prog .shr 44 (.tmp 8) (.const (.int .u64 16)) x0 (.int .u64 16)).bind fun v3 =>
(AK .u8 v3).bind fun v4 =>
(abin Tryz.prog .shr 44 (.tmp 11) (.const (.int .u64 24)) x0 (.int .u64 24)).bind fun v5 =>
(AK .u8 v5).bind fun v6 =>
(AU Tryz.prog 94 [(0,v0),(1,v2),(2,v4),(3,v6)]).bind fun v7 =>
(AN 4 lptr v7 (.agg #[(.int .u8 0),(.int .u8 0),(.int .u8 0),(.int .u8 0)])).bind fun v8 =>
(Ao true 4 lptr v8).bind fun v9 =>
retV [v9] s
theorem PR {lib : Lib} (hl : lib 104 = none) {x0 : Value} {s : St} {r : Value × St} (h : JE (run Tryz.prog lib Ad) x0 s = some r) : run Tryz.prog lib Ad 104 [x0] s = some r :=
  At hl Tryz.func104 (Eq.trans (by kernel_rfl) h)
theorem IZ : Ap Tryz.prog 104 = true := by kernel_rfl
theorem MP {R : Aa} {xs : List Value} {s : St} : Ag Tryz.prog R (.func (.func 104) #[] #[]) xs s = R 104 xs s := Aj IZ
noncomputable def Bs.j0 (R : Aa) (T : List Value) (s : St) : Res :=
(abin Tryz.prog .add 3 (.tmp 19) (.const (.int .i64 1)) (getL T 1) (.int .i64 1)).bind fun v12 =>
some (.normal,[(getL T 0),v12,(getL T 2),(getL T 3),(getL T 4)],s)
noncomputable def Bs.b1 (R : Aa) (T : List Value) (s : St) : Res :=
(abin Tryz.prog .lss 3 (.tmp 17) (.const (.int .i64 8)) (getL T 1) (.int .i64 8)).bind fun v6 =>
AA v6
 ((abin Tryz.prog .rem 44 (.tmp 21) (.const (.int .u32 2)) (getL T 0) (.int .u32 2)).bind fun v8 =>
(abin Tryz.prog .eql 44 (.tmp 22) (.const (.int .u32 1)) v8 (.int .u32 1)).bind fun v9 =>
AA v9
 ((abin Tryz.prog .shr 44 (.tmp 24) (.const (.int .u64 1)) (getL T 0) (.int .u64 1)).bind fun v10 =>
(abin Tryz.prog .xor 44 (.tmp 25) (.const (.int .u32 3988292384)) v10 (.int .u32 3988292384)).bind fun v11 =>
C9 (Bs.j0 R) [v11,(getL T 1),(getL T 2),(getL T 3),(getL T 4)] s)
 ((abin Tryz.prog .shr 44 (.tmp 27) (.const (.int .u64 1)) (getL T 0) (.int .u64 1)).bind fun v13 =>
C9 (Bs.j0 R) [v13,(getL T 1),(getL T 2),(getL T 3),(getL T 4)] s))
 (some (.exit 2,[(getL T 0),(getL T 2),(getL T 3),(getL T 4)],s))
noncomputable def Bs.b0 (R : Aa) (T : List Value) (s : St) : Res :=
(abin Tryz.prog .lss 3 (.tmp 9) (.tmp 8) (getL T 3) (getL T 2)).bind fun v1 =>
AA v1
 ((AC 1 (getL T 1) (getL T 3)).bind fun v2 =>
(Aq false 1 v2 s).bind fun v3 =>
(AK .u32 v3).bind fun v4 =>
(abin Tryz.prog .xor 44 (.tmp 13) (.tmp 15) (getL T 0) v4).bind fun v5 =>
(AV (Bs.b1 R) [v5,(.int .i64 0),(getL T 1),(getL T 2),(getL T 3)] s).bind fun r14 =>
exV r14.1 [(2,(abin Tryz.prog .add 3 (.tmp 9) (.const (.int .i64 1)) (getL r14.2.1 3) (.int .i64 1)).bind fun v15 =>
some (.normal,[(getL r14.2.1 0),(getL r14.2.1 1),(getL r14.2.1 2),v15],r14.2.2))]
 (none))
 (some (.exit 0,[(getL T 0)],s))
noncomputable def Bs (R : Aa) (x0 : Value) (s : St) : Option (Value × St) :=
(AP (.slice 5) x0 s).bind fun v0 =>
(AV (Bs.b0 R) [(.int .u32 4294967295),x0,v0,(.int .i64 0)] s).bind fun r16 =>
exV r16.1 [(0,(abin Tryz.prog .xor 44 (.tmp 30) (.const (.int .u32 4294967295)) (getL r16.2.1 0) (.int .u32 4294967295)).bind fun v17 =>
retV [v17] r16.2.2)]
 (none)
theorem SP {lib : Lib} (hl : lib 105 = none) {x0 : Value} {s : St} {r : Value × St} (h : Bs (run Tryz.prog lib Ad) x0 s = some r) : run Tryz.prog lib Ad 105 [x0] s = some r :=
  At hl Tryz.func105 (Eq.trans (by kernel_rfl) h)
theorem LY : Ap Tryz.prog 105 = true := by kernel_rfl
theorem I0 {R : Aa} {xs : List Value} {s : St} : Ag Tryz.prog R (.func (.func 105) #[] #[]) xs s = R 105 xs s := Aj LY
noncomputable def slices_Index_rune_rune.b0 (R : Aa) (T : List Value) (s : St) : Res :=
(abin Tryz.prog .lss 3 (.tmp 8) (.tmp 7) (getL T 3) (getL T 2)).bind fun v1 =>
AA v1
 ((AC 1 (getL T 0) (getL T 3)).bind fun v2 =>
(Aq false 1 v2 s).bind fun v3 =>
(abin Tryz.prog .eql 21 (.tmp 11) (.tmp 15) (getL T 1) v3).bind fun v4 =>
AA v4
 (some (.ret,[(getL T 3)],s))
 ((abin Tryz.prog .add 3 (.tmp 8) (.const (.int .i64 1)) (getL T 3) (.int .i64 1)).bind fun v5 =>
some (.normal,[(getL T 0),(getL T 1),(getL T 2),v5],s)))
 (some (.exit 0,[],s))
noncomputable def slices_Index_rune_rune (R : Aa) (x0 x1 : Value) (s : St) : Option (Value × St) :=
(AP (.slice 21) x0 s).bind fun v0 =>
(AV (slices_Index_rune_rune.b0 R) [x0,x1,v0,(.int .i64 0)] s).bind fun r6 =>
exV r6.1 [(0,retV [(.int .i64 (-1))] r6.2.2)]
 (retV [(getL r6.2.1 0)] r6.2.2)
theorem FP {lib : Lib} (hl : lib 111 = none) {x0 x1 : Value} {s : St} {r : Value × St} (h : slices_Index_rune_rune (run Tryz.prog lib Ad) x0 x1 s = some r) : run Tryz.prog lib Ad 111 [x0,x1] s = some r :=
  At hl Tryz.func111 (Eq.trans (by kernel_rfl) h)
theorem FQ : Ap Tryz.prog 111 = true := by kernel_rfl
theorem Fc {R : Aa} {xs : List Value} {s : St} : Ag Tryz.prog R (.func (.func 111) #[] #[]) xs s = R 111 xs s := Aj FQ
noncomputable def FT (R : Aa) (x0 : Value) (s : St) : Option (Value × St) :=
(AP .string x0 s).bind fun v0 =>
(abin Tryz.prog .lss 3 (.tmp 4) (.const (.int .i64 1)) v0 (.int .i64 1)).bind fun v1 =>
(Ai v1 false ((AP .string x0 s).bind fun v2 =>
(abin Tryz.prog .gtr 3 (.tmp 8) (.const (.int .i64 12)) v2 (.int .i64 12)).bind fun v3 =>
some ([v3],s)) (some ([undef],s))).bind fun q4 =>
(AM v1 (.bool true) (getL q4.1 0)).bind fun v5 =>
AA v5
 (retV [(.int .i64 20)] q4.2)
 (retV [(.int .i64 0)] q4.2)
theorem K9 {lib : Lib} (hl : lib 114 = none) {x0 : Value} {s : St} {r : Value × St} (h : FT (run Tryz.prog lib Ad) x0 s = some r) : run Tryz.prog lib Ad 114 [x0] s = some r :=
  At hl Tryz.func114 (Eq.trans (by kernel_rfl) h)
theorem Gl : Ap Tryz.prog 114 = true := by kernel_rfl
theorem Cx {R : Aa} {xs : List Value} {s : St} : Ag Tryz.prog R (.func (.func 114) #[] #[]) xs s = R 114 xs s := Aj Gl
noncomputable def EL (R : Aa) (x0 : Value) (s : St) : Option (Value × St) :=
(lbox x0).bind fun v0 =>
(Ao false 1 lptr v0).bind fun v1 =>
(abin Tryz.prog .eql 3 (.tmp 6) (.const (.int .i64 1)) v1 (.int .i64 1)).bind fun v2 =>
(Ai v2 false ((Ao false 1 lptr v0).bind fun v3 =>
(abin Tryz.prog .eql 3 (.tmp 10) (.const (.int .i64 2)) v3 (.int .i64 2)).bind fun v4 =>
some ([v4],s)) (some ([undef],s))).bind fun q5 =>
(AM v2 (.bool true) (getL q5.1 0)).bind fun v6 =>
(Ai v6 false ((Ao false 1 lptr v0).bind fun v7 =>
(abin Tryz.prog .eql 3 (.tmp 15) (.const (.int .i64 3)) v7 (.int .i64 3)).bind fun v8 =>
some ([v8],q5.2)) (some ([undef],q5.2))).bind fun q9 =>
(AM v6 (.bool true) (getL q9.1 0)).bind fun v10 =>
(Ao false 1 lptr v0).bind fun v11 =>
(abin Tryz.prog .eql 3 (.tmp 19) (.const (.int .i64 4)) v11 (.int .i64 4)).bind fun v12 =>
(Ai v12 false ((Ao false 1 lptr v0).bind fun v13 =>
(abin Tryz.prog .eql 3 (.tmp 23) (.const (.int .i64 5)) v13 (.int .i64 5)).bind fun v14 =>
some ([v14],q9.2)) (some ([undef],q9.2))).bind fun q15 =>
(AM v12 (.bool true) (getL q15.1 0)).bind fun v16 =>
(aun .not v10).bind fun v17 =>
(Ai v17 true ((aun .not v16).bind fun v18 =>
some ([v18],q15.2)) (some ([undef],q15.2))).bind fun q19 =>
(AM v17 (getL q19.1 0) (.bool false)).bind fun v20 =>
(Ai v20 false (some ([v10],q19.2)) (some ([undef],q19.2))).bind fun q21 =>
(Ai (getL q21.1 0) true ((Ao false 1 (.pointer (some ⟨0,3,none⟩)) v0).bind fun v22 =>
(abin Tryz.prog .neq 9 (.tmp 36) (.const (.string ⟨#[]⟩)) v22 (.string ⟨#[]⟩)).bind fun v23 =>
some ([v23],q21.2)) (some ([undef],q21.2))).bind fun q24 =>
(Ai (getL q24.1 0) false ((Ao false 1 (.pointer (some ⟨0,4,none⟩)) v0).bind fun v25 =>
(abin Tryz.prog .neq 9 (.tmp 40) (.const (.string ⟨#[]⟩)) v25 (.string ⟨#[]⟩)).bind fun v26 =>
some ([v26],q24.2)) (some ([undef],q24.2))).bind fun q27 =>
(Ai (getL q21.1 0) true ((AM (getL q24.1 0) (.bool true) (getL q27.1 0)).bind fun v28 =>
some ([v28],q27.2)) (some ([undef],q27.2))).bind fun q29 =>
(Ai v20 false ((AM (getL q21.1 0) (getL q29.1 0) (.bool false)).bind fun v30 =>
some ([v30],q29.2)) (some ([undef],q29.2))).bind fun q31 =>
(AM v20 (.bool true) (getL q31.1 0)).bind fun v32 =>
(Ai v32 false (some ([v16],q31.2)) (some ([undef],q31.2))).bind fun q33 =>
(Ai (getL q33.1 0) true ((Ao false 1 (.pointer (some ⟨0,1,none⟩)) v0).bind fun v34 =>
(abin Tryz.prog .neq 9 (.tmp 49) (.const (.string ⟨#[]⟩)) v34 (.string ⟨#[]⟩)).bind fun v35 =>
some ([v35],q33.2)) (some ([undef],q33.2))).bind fun q36 =>
(Ai v32 false ((AM (getL q33.1 0) (getL q36.1 0) (.bool false)).bind fun v37 =>
some ([v37],q36.2)) (some ([undef],q36.2))).bind fun q38 =>
(AM v32 (.bool true) (getL q38.1 0)).bind fun v39 =>
(Ai v39 false ((Ao false 1 lptr v0).bind fun v40 =>
(abin Tryz.prog .neq 3 (.tmp 55) (.const (.int .i64 2)) v40 (.int .i64 2)).bind fun v41 =>
some ([v41],q38.2)) (some ([undef],q38.2))).bind fun q42 =>
(Ai (getL q42.1 0) true ((Ao false 1 (.pointer (some ⟨0,2,none⟩)) v0).bind fun v43 =>
(abin Tryz.prog .neq 9 (.tmp 59) (.const (.string ⟨#[]⟩)) v43 (.string ⟨#[]⟩)).bind fun v44 =>
some ([v44],q42.2)) (some ([undef],q42.2))).bind fun q45 =>
(Ai v39 false ((AM (getL q42.1 0) (getL q45.1 0) (.bool false)).bind fun v46 =>
some ([v46],q45.2)) (some ([undef],q45.2))).bind fun q47 =>
(AM v39 (.bool true) (getL q47.1 0)).bind fun v48 =>
(Ai v48 false ((Ao false 1 lptr v0).bind fun v49 =>
(abin Tryz.prog .neq 3 (.tmp 65) (.const (.int .i64 4)) v49 (.int .i64 4)).bind fun v50 =>
some ([v50],q47.2)) (some ([undef],q47.2))).bind fun q51 =>
(Ai (getL q51.1 0) true ((Ao false 1 (.pointer (some ⟨0,5,none⟩)) v0).bind fun v52 =>
(abin Tryz.prog .neq 3 (.tmp 69) (.const (.int .i64 0)) v52 (.int .i64 0)).bind fun v53 =>
some ([v53],q51.2)) (some ([undef],q51.2))).bind fun q54 =>
(Ai v48 false ((AM (getL q51.1 0) (getL q54.1 0) (.bool false)).bind fun v55 =>
some ([v55],q54.2)) (some ([undef],q54.2))).bind fun q56 =>
(AM v48 (.bool true) (getL q56.1 0)).bind fun v57 =>
AA v57
 (retV [(.int .i64 40)] q56.2)
 ((Ai v10 true ((Ao false 1 (.pointer (some ⟨0,1,none⟩)) v0).bind fun v58 =>
(Ag Tryz.prog R (.func (.func 114) #[] #[]) [v58] q56.2).bind fun r59 =>
(abin Tryz.prog .neq 32 (.tmp 77) (.const (.int .i64 0)) r59.1 (.int .i64 0)).bind fun v60 =>
some ([v60],r59.2)) (some ([undef],q56.2))).bind fun q61 =>
(AM v10 (getL q61.1 0) (.bool false)).bind fun v62 =>
AA v62
 (retV [(.int .i64 20)] q61.2)
 ((Ao false 1 (.pointer (some ⟨0,2,none⟩)) v0).bind fun v63 =>
(AP .string v63 q61.2).bind fun v64 =>
(abin Tryz.prog .gtr 3 (.tmp 82) (.const (.int .i64 16)) v64 (.int .i64 16)).bind fun v65 =>
AA v65
 (retV [(.int .i64 2)] q61.2)
 ((Ai v16 true ((Ao false 1 (.pointer (some ⟨0,3,none⟩)) v0).bind fun v66 =>
(Ao false 1 (.pointer (some ⟨0,4,none⟩)) v0).bind fun v67 =>
(AU Tryz.prog 24 [(0,v66),(1,v67)]).bind fun v68 =>
(Ag Tryz.prog R (.func (.func 32) #[] #[]) [v68] q61.2).bind fun r69 =>
(abin Tryz.prog .neq 32 (.tmp 91) (.const (.int .i64 0)) r69.1 (.int .i64 0)).bind fun v70 =>
some ([v70],r69.2)) (some ([undef],q61.2))).bind fun q71 =>
(AM v16 (getL q71.1 0) (.bool false)).bind fun v72 =>
AA v72
 (retV [(.int .i64 21)] q71.2)
 ((Ao false 1 lptr v0).bind fun v73 =>
(abin Tryz.prog .eql 3 (.tmp 95) (.const (.int .i64 4)) v73 (.int .i64 4)).bind fun v74 =>
(Ai v74 true ((Ao false 1 (.pointer (some ⟨0,5,none⟩)) v0).bind fun v75 =>
(abin Tryz.prog .lss 3 (.tmp 99) (.const (.int .i64 1)) v75 (.int .i64 1)).bind fun v76 =>
some ([v76],q71.2)) (some ([undef],q71.2))).bind fun q77 =>
(Ai (getL q77.1 0) false ((Ao false 1 (.pointer (some ⟨0,5,none⟩)) v0).bind fun v78 =>
(abin Tryz.prog .gtr 3 (.tmp 103) (.const (.int .i64 4)) v78 (.int .i64 4)).bind fun v79 =>
some ([v79],q77.2)) (some ([undef],q77.2))).bind fun q80 =>
(Ai v74 true ((AM (getL q77.1 0) (.bool true) (getL q80.1 0)).bind fun v81 =>
some ([v81],q80.2)) (some ([undef],q80.2))).bind fun q82 =>
(AM v74 (getL q82.1 0) (.bool false)).bind fun v83 =>
AA v83
 (retV [(.int .i64 1)] q82.2)
 (retV [(.int .i64 0)] q82.2)))))
theorem MQ {lib : Lib} (hl : lib 115 = none) {x0 : Value} {s : St} {r : Value × St} (h : EL (run Tryz.prog lib Ad) x0 s = some r) : run Tryz.prog lib Ad 115 [x0] s = some r :=
  At hl Tryz.func115 (Eq.trans (by kernel_rfl) h)
theorem G7 : Ap Tryz.prog 115 = true := by kernel_rfl
theorem Kw {R : Aa} {xs : List Value} {s : St} : Ag Tryz.prog R (.func (.func 115) #[] #[]) xs s = R 115 xs s := Aj G7
noncomputable def BN.b0 (R : Aa) (T : List Value) (s : St) : Res :=
(abin Tryz.prog .lss 3 (.tmp 13) (.tmp 12) (getL T 3) (getL T 2)).bind fun v4 =>
AA v4
 ((AC 1 (getL T 1) (getL T 3)).bind fun v5 =>
(Aq false 1 v5 s).bind fun v6 =>
(AK .u32 v6).bind fun v7 =>
(abin Tryz.prog .mul 3 (.const (.int .i64 8)) (.tmp 21) (.int .i64 8) (getL T 3)).bind fun v8 =>
(abin Tryz.prog .shl 44 (.tmp 20) (.tmp 22) v7 v8).bind fun v9 =>
(abin Tryz.prog .or 44 (.tmp 18) (.tmp 23) (getL T 0) v9).bind fun v10 =>
(abin Tryz.prog .add 3 (.tmp 13) (.const (.int .i64 1)) (getL T 3) (.int .i64 1)).bind fun v11 =>
some (.normal,[v10,(getL T 1),(getL T 2),v11],s))
 (some (.exit 0,[(getL T 0)],s))
noncomputable def BN (R : Aa) (x0 : Value) (s : St) : Option (Value × St) :=
(AP (.slice 5) x0 s).bind fun v0 =>
(abin Tryz.prog .lss 3 (.tmp 8) (.const (.int .i64 4)) v0 (.int .i64 4)).bind fun v1 =>
AA v1
 (retV [(.int .u32 0),(.int .i64 10)] s)
 ((Bj 1 x0 none (some (.int .i64 4)) none).bind fun v2 =>
(AP (.slice 5) v2 s).bind fun v3 =>
(AV (BN.b0 R) [(.int .u32 0),v2,v3,(.int .i64 0)] s).bind fun r12 =>
exV r12.1 [(0,retV [(getL r12.2.1 0),(.int .i64 0)] r12.2.2)]
 (none))
theorem Kx {lib : Lib} (hl : lib 116 = none) {x0 : Value} {s : St} {r : Value × St} (h : BN (run Tryz.prog lib Ad) x0 s = some r) : run Tryz.prog lib Ad 116 [x0] s = some r :=
  At hl Tryz.func116 (Eq.trans (by kernel_rfl) h)
theorem FF : Ap Tryz.prog 116 = true := by kernel_rfl
theorem II {R : Aa} {xs : List Value} {s : St} : Ag Tryz.prog R (.func (.func 116) #[] #[]) xs s = R 116 xs s := Aj FF
noncomputable def B7.b0 (R : Aa) (T : List Value) (s : St) : Res :=
(abin Tryz.prog .lss 3 (.tmp 10) (.tmp 9) (getL T 3) (getL T 2)).bind fun v1 =>
AA v1
 ((AC 1 (getL T 1) (getL T 3)).bind fun v2 =>
(Aq false 1 v2 s).bind fun v3 =>
(abin Tryz.prog .eql 3 (.tmp 15) (.const (.int .i64 9)) (getL T 3) (.int .i64 9)).bind fun v4 =>
(Ai v4 true ((abin Tryz.prog .gtr 5 (.tmp 18) (.const (.int .u8 1)) v3 (.int .u8 1)).bind fun v5 =>
some ([v5],s)) (some ([undef],s))).bind fun q6 =>
(AM v4 (getL q6.1 0) (.bool false)).bind fun v7 =>
AA v7
 (some (.ret,[(.int .u64 0),(.int .i64 0),(.int .i64 11)],q6.2))
 ((abin Tryz.prog .and 5 (.tmp 22) (.const (.int .u8 127)) v3 (.int .u8 127)).bind fun v8 =>
(AK .u64 v8).bind fun v9 =>
(abin Tryz.prog .mul 3 (.const (.int .i64 7)) (.tmp 25) (.int .i64 7) (getL T 3)).bind fun v10 =>
(abin Tryz.prog .shl 22 (.tmp 24) (.tmp 26) v9 v10).bind fun v11 =>
(abin Tryz.prog .or 22 (.tmp 21) (.tmp 27) (getL T 0) v11).bind fun v12 =>
(abin Tryz.prog .lss 5 (.tmp 29) (.const (.int .u8 128)) v3 (.int .u8 128)).bind fun v13 =>
AA v13
 ((abin Tryz.prog .eql 5 (.tmp 31) (.const (.int .u8 0)) v3 (.int .u8 0)).bind fun v14 =>
(Ai v14 true ((abin Tryz.prog .gtr 3 (.tmp 34) (.const (.int .i64 0)) (getL T 3) (.int .i64 0)).bind fun v15 =>
some ([v15],q6.2)) (some ([undef],q6.2))).bind fun q16 =>
(AM v14 (getL q16.1 0) (.bool false)).bind fun v17 =>
AA v17
 (some (.ret,[(.int .u64 0),(.int .i64 0),(.int .i64 11)],q16.2))
 ((abin Tryz.prog .add 3 (.tmp 38) (.const (.int .i64 1)) (getL T 3) (.int .i64 1)).bind fun v18 =>
some (.ret,[v12,v18,(.int .i64 0)],q16.2)))
 ((abin Tryz.prog .add 3 (.tmp 10) (.const (.int .i64 1)) (getL T 3) (.int .i64 1)).bind fun v19 =>
some (.normal,[v12,(getL T 1),(getL T 2),v19],q6.2))))
 (some (.exit 0,[],s))
noncomputable def B7 (R : Aa) (x0 : Value) (s : St) : Option (Value × St) :=
(AP (.slice 5) x0 s).bind fun v0 =>
(AV (B7.b0 R) [(.int .u64 0),x0,v0,(.int .i64 0)] s).bind fun r20 =>
exV r20.1 [(0,retV [(.int .u64 0),(.int .i64 0),(.int .i64 10)] r20.2.2)]
 (retV [(getL r20.2.1 0),(getL r20.2.1 1),(getL r20.2.1 2)] r20.2.2)
theorem MR {lib : Lib} (hl : lib 117 = none) {x0 : Value} {s : St} {r : Value × St} (h : B7 (run Tryz.prog lib Ad) x0 s = some r) : run Tryz.prog lib Ad 117 [x0] s = some r :=
  At hl Tryz.func117 (Eq.trans (by kernel_rfl) h)
theorem G8 : Ap Tryz.prog 117 = true := by kernel_rfl
theorem CN {R : Aa} {xs : List Value} {s : St} : Ag Tryz.prog R (.func (.func 117) #[] #[]) xs s = R 117 xs s := Aj G8
noncomputable def BY (R : Aa) (x0 : Value) (s : St) : Option (Value × St) :=
(abin Tryz.prog .eql 31 (.tmp 3) (.const (.slice none 0 0)) x0 (.slice none 0 0)).bind fun v0 =>
AA v0
 (retV [(.slice none 0 0)] s)
 ((Ar 1 [(.int .u8 0)] 0 [] s).bind fun r1 =>
(AD 1 1 r1.1 x0 r1.2).bind fun r2 =>
retV [r2.1] r2.2)
theorem Dl {lib : Lib} (hl : lib 118 = none) {x0 : Value} {s : St} {r : Value × St} (h : BY (run Tryz.prog lib Ad) x0 s = some r) : run Tryz.prog lib Ad 118 [x0] s = some r :=
  At hl Tryz.func118 (Eq.trans (by kernel_rfl) h)
theorem Dm : Ap Tryz.prog 118 = true := by kernel_rfl
theorem Fd {R : Aa} {xs : List Value} {s : St} : Ag Tryz.prog R (.func (.func 118) #[] #[]) xs s = R 118 xs s := Aj Dm
noncomputable def Fe (R : Aa) (x0 : Value) (s : St) : Option (Value × St) :=
(AP (.slice 5) x0 s).bind fun v0 =>
(abin Tryz.prog .lss 3 (.tmp 5) (.const (.int .i64 4)) v0 (.int .i64 4)).bind fun v1 =>
AA v1
 (retV [(.int .u32 0),(.int .i64 10)] s)
 ((AC 1 x0 (.int .i64 0)).bind fun v2 =>
((Aq false 1 v2 (frzS s)).bind fun v23 =>
some (v23,(frzS s))).bind fun r3 =>
(AK .u32 r3.1).bind fun v4 =>
(AC 1 x0 (.int .i64 1)).bind fun v5 =>
((Aq false 1 v5 (frzS s)).bind fun v22 =>
some (v22,(frzS s))).bind fun r6 =>
(AK .u32 r6.1).bind fun v7 =>
(abin Tryz.prog .shl 44 (.tmp 14) (.const (.int .u64 8)) v7 (.int .u64 8)).bind fun v8 =>
(abin Tryz.prog .or 44 (.tmp 10) (.tmp 15) v4 v8).bind fun v9 =>
(AC 1 x0 (.int .i64 2)).bind fun v10 =>
((Aq false 1 v10 (frzS s)).bind fun v21 =>
some (v21,(frzS s))).bind fun r11 =>
(AK .u32 r11.1).bind fun v12 =>
(abin Tryz.prog .shl 44 (.tmp 20) (.const (.int .u64 16)) v12 (.int .u64 16)).bind fun v13 =>
(abin Tryz.prog .or 44 (.tmp 16) (.tmp 21) v9 v13).bind fun v14 =>
(AC 1 x0 (.int .i64 3)).bind fun v15 =>
((Aq false 1 v15 (frzS s)).bind fun v20 =>
some (v20,(frzS s))).bind fun r16 =>
(AK .u32 r16.1).bind fun v17 =>
(abin Tryz.prog .shl 44 (.tmp 26) (.const (.int .u64 24)) v17 (.int .u64 24)).bind fun v18 =>
(abin Tryz.prog .or 44 (.tmp 22) (.tmp 27) v14 v18).bind fun v19 =>
retV [v19,(.int .i64 0)] s)
theorem Ky {lib : Lib} (hl : lib 119 = none) {x0 : Value} {s : St} {r : Value × St} (h : Fe (run Tryz.prog lib Ad) x0 s = some r) : run Tryz.prog lib Ad 119 [x0] s = some r :=
  At hl Tryz.func119 (Eq.trans (by kernel_rfl) h)
theorem FG : Ap Tryz.prog 119 = true := by kernel_rfl
theorem IJ {R : Aa} {xs : List Value} {s : St} : Ag Tryz.prog R (.func (.func 119) #[] #[]) xs s = R 119 xs s := Aj FG
noncomputable def A2.b1 (R : Aa) (T : List Value) (s : St) : Res :=
(abin Tryz.prog .geq 3 (.tmp 24) (.const (.int .i64 0)) (getL T 3) (.int .i64 0)).bind fun v9 =>
AA v9
 ((abin Tryz.prog .mul 22 (.tmp 28) (.const (.int .u64 128)) (getL T 2) (.int .u64 128)).bind fun v10 =>
(AC 1 (getL T 0) (getL T 3)).bind fun v11 =>
(Aq false 1 v11 s).bind fun v12 =>
(abin Tryz.prog .rem 5 (.tmp 33) (.const (.int .u8 128)) v12 (.int .u8 128)).bind fun v13 =>
(AK .u64 v13).bind fun v14 =>
(abin Tryz.prog .add 22 (.tmp 29) (.tmp 35) v10 v14).bind fun v15 =>
(abin Tryz.prog .sub 3 (.tmp 26) (.const (.int .i64 1)) (getL T 3) (.int .i64 1)).bind fun v16 =>
some (.normal,[(getL T 0),(getL T 1),v15,v16],s))
 (some (.exit 2,[(getL T 0),(getL T 1),(getL T 2)],s))
noncomputable def A2.b0 (R : Aa) (T : List Value) (s : St) : Res :=
(AP (.slice 5) (getL T 0) s).bind fun v0 =>
(abin Tryz.prog .lss 3 (.tmp 8) (.tmp 10) (getL T 1) v0).bind fun v1 =>
(Ai v1 true ((abin Tryz.prog .lss 3 (.tmp 13) (.const (.int .i64 10)) (getL T 1) (.int .i64 10)).bind fun v2 =>
some ([v2],s)) (some ([undef],s))).bind fun q3 =>
(AM v1 (getL q3.1 0) (.bool false)).bind fun v4 =>
AA v4
 ((AC 1 (getL T 0) (getL T 1)).bind fun v5 =>
(Aq false 1 v5 q3.2).bind fun v6 =>
(abin Tryz.prog .geq 5 (.tmp 21) (.const (.int .u8 128)) v6 (.int .u8 128)).bind fun v7 =>
AA v7
 ((abin Tryz.prog .add 3 (.tmp 16) (.const (.int .i64 1)) (getL T 1) (.int .i64 1)).bind fun v8 =>
some (.normal,[(getL T 0),v8],q3.2))
 ((AV (A2.b1 R) [(getL T 0),(getL T 1),(.int .u64 0),(getL T 1)] q3.2).bind fun r17 =>
exV r17.1 [(2,(((Ag Tryz.prog R (.func (.func 103) #[] #[]) [(getL r17.2.1 2)] (frzS r17.2.2)).bind fun r27 =>
some (r27.1,r27.2)).map (DX r17.2.2)).bind fun r18 =>
((Cs r18.1 (frzS r18.2)).bind fun v26 =>
some (v26,(frzS r18.2))).bind fun r19 =>
(abin Tryz.prog .add 3 (.tmp 41) (.const (.int .i64 1)) (getL r17.2.1 1) (.int .i64 1)).bind fun v20 =>
(Bj 1 (getL r17.2.1 0) none (some v20) none).bind fun v21 =>
((Cs v21 (frzS r18.2)).bind fun v25 =>
some (v25,(frzS r18.2))).bind fun r22 =>
(abin Tryz.prog .neq 9 (.tmp 39) (.tmp 44) r19.1 r22.1).bind fun v23 =>
AA v23
 (some (.ret,[(.int .u64 0),(.int .i64 0),(.int .i64 11)],r18.2))
 ((abin Tryz.prog .add 3 (.tmp 47) (.const (.int .i64 1)) (getL r17.2.1 1) (.int .i64 1)).bind fun v24 =>
some (.ret,[(getL r17.2.1 2),v24,(.int .i64 0)],r18.2)))]
 (none)))
 (some (.exit 0,[(getL T 0)],q3.2))
noncomputable def A2 (R : Aa) (x0 : Value) (s : St) : Option (Value × St) :=
(AV (A2.b0 R) [x0,(.int .i64 0)] s).bind fun r28 =>
exV r28.1 [(0,(AP (.slice 5) (getL r28.2.1 0) r28.2.2).bind fun v29 =>
(abin Tryz.prog .geq 3 (.tmp 50) (.const (.int .i64 10)) v29 (.int .i64 10)).bind fun v30 =>
AA v30
 (retV [(.int .u64 0),(.int .i64 0),(.int .i64 11)] r28.2.2)
 (retV [(.int .u64 0),(.int .i64 0),(.int .i64 10)] r28.2.2))]
 (retV [(getL r28.2.1 0),(getL r28.2.1 1),(getL r28.2.1 2)] r28.2.2)
theorem MS {lib : Lib} (hl : lib 120 = none) {x0 : Value} {s : St} {r : Value × St} (h : A2 (run Tryz.prog lib Ad) x0 s = some r) : run Tryz.prog lib Ad 120 [x0] s = some r :=
  At hl Tryz.func120 (Eq.trans (by kernel_rfl) h)
theorem G9 : Ap Tryz.prog 120 = true := by kernel_rfl
theorem FH {R : Aa} {xs : List Value} {s : St} : Ag Tryz.prog R (.func (.func 120) #[] #[]) xs s = R 120 xs s := Aj G9
noncomputable def HS.j0 (R : Aa) (T : List Value) (s : St) : Option (Value × St) :=
(abin Tryz.prog .eql 3 (.tmp 10) (.const (.int .i64 1)) (getL T 0) (.int .i64 1)).bind fun v4 =>
retV [v4] s
noncomputable def HS (R : Aa) (x0 : Value) (s : St) : Option (Value × St) :=
(Ag Tryz.prog R (.func (.func 121) #[] #[]) [x0] s).bind fun r0 =>
(abin Tryz.prog .gtr 3 (.tmp 6) (.const (.int .i64 1)) r0.1 (.int .i64 1)).bind fun v2 =>
AA v2
 ((Ag Tryz.prog R (.func (.func 39) #[] #[]) [x0,(.int .i64 11)] r0.2).bind fun r3 =>
C9 (HS.j0 R) [r0.1] r3.2)
 (C9 (HS.j0 R) [r0.1] r0.2)
noncomputable def AT.j0 (R : Aa) (T : List Value) (s : St) : Option (Value × St) :=
retV [(getL T 0)] s
noncomputable def AT.j1 (R : Aa) (T : List Value) (s : St) : Option (Value × St) :=
(acap (getL T 0)).bind fun v4 =>
(AP (.slice 5) (getL T 0) s).bind fun v5 =>
(abin Tryz.prog .sub 3 (.tmp 10) (.tmp 12) v4 v5).bind fun v6 =>
(abin Tryz.prog .sub 3 (.tmp 8) (.tmp 13) (getL T 1) v6).bind fun v7 =>
(abin Tryz.prog .gtr 3 (.tmp 15) (.const (.int .i64 0)) v7 (.int .i64 0)).bind fun v8 =>
AA v8
 ((acap (getL T 0)).bind fun v9 =>
(Bj 1 (getL T 0) none (some v9) none).bind fun v10 =>
(Ib 1 1 [(.int .u8 0)] v10 v7 s).bind fun r11 =>
(AP (.slice 5) (getL T 0) r11.2).bind fun v12 =>
(Bj 1 r11.1 none (some v12) none).bind fun v13 =>
C9 (AT.j0 R) [v13] r11.2)
 (C9 (AT.j0 R) [(getL T 0)] s)
noncomputable def AT (R : Aa) (x0 x1 : Value) (s : St) : Option (Value × St) :=
(abin Tryz.prog .lss 3 (.tmp 5) (.const (.int .i64 0)) x1 (.int .i64 0)).bind fun v1 =>
AA v1
 ((UR 9 (.string ⟨#[99,97,110,110,111,116,32,98,101,32,110,101,103,97,116,105,118,101]⟩)).bind fun v2 =>
none)
 (C9 (AT.j1 R) [x0,x1] s)
theorem Gm {lib : Lib} (hl : lib 129 = none) {x0 x1 : Value} {s : St} {r : Value × St} (h : AT (run Tryz.prog lib Ad) x0 x1 s = some r) : run Tryz.prog lib Ad 129 [x0,x1] s = some r :=
  At hl Tryz.func129 (Eq.trans (by kernel_rfl) h)
theorem DE : Ap Tryz.prog 129 = true := by kernel_rfl
theorem Fq {R : Aa} {xs : List Value} {s : St} : Ag Tryz.prog R (.func (.func 129) #[] #[]) xs s = R 129 xs s := Aj DE
noncomputable def BG.b1 (R : Aa) (T : List Value) (s : St) : Res :=
(abin Tryz.prog .lss 3 (.tmp 9) (.const (.int .i64 8)) (getL T 5) (.int .i64 8)).bind fun v2 =>
AA v2
 ((abin Tryz.prog .shr 44 (.tmp 11) (.const (.int .u64 1)) (getL T 3) (.int .u64 1)).bind fun v3 =>
(abin Tryz.prog .and 44 (.tmp 13) (.const (.int .u32 1)) (getL T 3) (.int .u32 1)).bind fun v4 =>
(aun .neg v4).bind fun v5 =>
(abin Tryz.prog .and 44 (.const (.int .u32 3988292384)) (.tmp 15) (.int .u32 3988292384) v5).bind fun v6 =>
(abin Tryz.prog .xor 44 (.tmp 12) (.tmp 16) v3 v6).bind fun v7 =>
(abin Tryz.prog .add 3 (.tmp 9) (.const (.int .i64 1)) (getL T 5) (.int .i64 1)).bind fun v8 =>
some (.normal,[(getL T 0),(getL T 1),(getL T 2),v7,(getL T 4),v8,(getL T 6),(getL T 7)],s))
 (some (.exit 2,[(getL T 0),(getL T 1),(getL T 2),(getL T 3),(getL T 4),(getL T 6),(getL T 7)],s))
noncomputable def BG.b0 (R : Aa) (T : List Value) (s : St) : Res :=
(abin Tryz.prog .lss 3 (.tmp 4) (.const (.int .i64 256)) (getL T 2) (.int .i64 256)).bind fun v0 =>
AA v0
 ((AK .u32 (getL T 2)).bind fun v1 =>
(AV (BG.b1 R) [(getL T 0),(getL T 1),(getL T 2),v1,(getL T 2),(.int .i64 0),(getL T 3),(getL T 4)] s).bind fun r9 =>
exV r9.1 [(2,(GA 256 1 (getL r9.2.1 1) (getL r9.2.1 2)).bind fun v10 =>
(AN 1 v10 (getL r9.2.1 3) (getL r9.2.1 6)).bind fun v11 =>
(abin Tryz.prog .add 3 (.tmp 4) (.const (.int .i64 1)) (getL r9.2.1 4) (.int .i64 1)).bind fun v12 =>
some (.normal,[(getL r9.2.1 0),(getL r9.2.1 1),v12,(getL r9.2.1 5),v11],r9.2.2))]
 (none))
 (some (.exit 0,[(getL T 0),(getL T 1),(getL T 3),(getL T 4)],s))
noncomputable def BG (R : Aa) (s : St) : Option (Value × St) :=
(AV (BG.b0 R) [lptr,lptr,(.int .i64 0),(.agg (List.replicate 256 (.int .u32 0)).toArray),(.agg (List.replicate 256 (.int .u32 0)).toArray)] s).bind fun r13 =>
exV r13.1 [(0,(Ao true 256 (getL r13.2.1 1) (getL r13.2.1 3)).bind fun v14 =>
(AN 256 (getL r13.2.1 0) v14 (getL r13.2.1 2)).bind fun v15 =>
(Ao true 256 (getL r13.2.1 0) v15).bind fun v16 =>
retV [v16] r13.2.2)]
 (none)
theorem PS {lib : Lib} (hl : lib 130 = none) {s : St} {r : Value × St} (h : BG (run Tryz.prog lib Ad)  s = some r) : run Tryz.prog lib Ad 130 [] s = some r :=
  At hl Tryz.func130 (Eq.trans (by kernel_rfl) h)
theorem I1 : Ap Tryz.prog 130 = true := by kernel_rfl
theorem MT {R : Aa} {xs : List Value} {s : St} : Ag Tryz.prog R (.func (.func 130) #[] #[]) xs s = R 130 xs s := Aj I1
noncomputable def LZ.b0 (R : Aa) (T : List Value) (s : St) : Res :=
(abin Tryz.prog .lss 3 (.tmp 8) (.tmp 7) (getL T 2) (getL T 1)).bind fun v1 =>
AA v1
 ((AC 6 (getL T 0) (getL T 2)).bind fun v2 =>
(Aq true 6 v2 s).bind fun v3 =>
(AN 6 lptr v3 (.agg #[(.int .i64 0),(.string ⟨#[]⟩),(.string ⟨#[]⟩),(.string ⟨#[]⟩),(.string ⟨#[]⟩),(.int .i64 0)])).bind fun v4 =>
(Ao true 6 lptr v4).bind fun v5 =>
(Ag Tryz.prog R (.func (.func 138) #[] #[]) [v5] s).bind fun r6 =>
(abin Tryz.prog .neq 32 (.tmp 14) (.const (.int .i64 0)) r6.1 (.int .i64 0)).bind fun v7 =>
AA v7
 (some (.ret,[r6.1],r6.2))
 ((abin Tryz.prog .add 3 (.tmp 8) (.const (.int .i64 1)) (getL T 2) (.int .i64 1)).bind fun v8 =>
some (.normal,[(getL T 0),(getL T 1),v8],r6.2)))
 (some (.exit 0,[],s))
noncomputable def LZ (R : Aa) (x0 : Value) (s : St) : Option (Value × St) :=
(AP (.slice 69) x0 s).bind fun v0 =>
(AV (LZ.b0 R) [x0,v0,(.int .i64 0)] s).bind fun r9 =>
exV r9.1 [(0,retV [(.int .i64 0)] r9.2.2)]
 (retV [(getL r9.2.1 0)] r9.2.2)
theorem XI {lib : Lib} (hl : lib 131 = none) {x0 : Value} {s : St} {r : Value × St} (h : LZ (run Tryz.prog lib Ad) x0 s = some r) : run Tryz.prog lib Ad 131 [x0] s = some r :=
  At hl Tryz.func131 (Eq.trans (by kernel_rfl) h)
theorem SQ : Ap Tryz.prog 131 = true := by kernel_rfl
theorem Ui {R : Aa} {xs : List Value} {s : St} : Ag Tryz.prog R (.func (.func 131) #[] #[]) xs s = R 131 xs s := Aj SQ
noncomputable def wire_results_1 (R : Aa) (x0 : Value) (s : St) : Option (Value × St) :=
(lbox x0).bind fun v0 =>
(Ao false 1 lptr v0).bind fun v1 =>
(Ag Tryz.prog R (.func (.func 133) #[] #[]) [v1] s).bind fun r2 =>
(abin Tryz.prog .neq 32 (.tmp 5) (.const (.int .i64 0)) r2.1 (.int .i64 0)).bind fun v3 =>
(Ai v3 false ((Ao false 1 (.pointer (some ⟨0,1,none⟩)) v0).bind fun v4 =>
(AP .string v4 r2.2).bind fun v5 =>
(abin Tryz.prog .gtr 3 (.tmp 10) (.const (.int .i64 16)) v5 (.int .i64 16)).bind fun v6 =>
some ([v6],r2.2)) (some ([undef],r2.2))).bind fun q7 =>
(AM v3 (.bool true) (getL q7.1 0)).bind fun v8 =>
retV [v8] q7.2
theorem La {lib : Lib} (hl : lib 132 = none) {x0 : Value} {s : St} {r : Value × St} (h : wire_results_1 (run Tryz.prog lib Ad) x0 s = some r) : run Tryz.prog lib Ad 132 [x0] s = some r :=
  At hl Tryz.func132 (Eq.trans (by kernel_rfl) h)
theorem Lb : Ap Tryz.prog 132 = true := by kernel_rfl
theorem JF {R : Aa} {xs : List Value} {s : St} : Ag Tryz.prog R (.func (.func 132) #[] #[]) xs s = R 132 xs s := Aj Lb
noncomputable def GR (R : Aa) (x0 : Value) (s : St) : Option (Value × St) :=
(abin Tryz.prog .eql 9 (.tmp 3) (.const (.string ⟨#[]⟩)) x0 (.string ⟨#[]⟩)).bind fun v0 =>
(Ai v0 false ((AP .string x0 s).bind fun v1 =>
(abin Tryz.prog .gtr 3 (.tmp 7) (.const (.int .i64 12)) v1 (.int .i64 12)).bind fun v2 =>
some ([v2],s)) (some ([undef],s))).bind fun q3 =>
(AM v0 (.bool true) (getL q3.1 0)).bind fun v4 =>
AA v4
 (retV [(.int .i64 20)] q3.2)
 (retV [(.int .i64 0)] q3.2)
theorem MU {lib : Lib} (hl : lib 133 = none) {x0 : Value} {s : St} {r : Value × St} (h : GR (run Tryz.prog lib Ad) x0 s = some r) : run Tryz.prog lib Ad 133 [x0] s = some r :=
  At hl Tryz.func133 (Eq.trans (by kernel_rfl) h)
theorem Ha : Ap Tryz.prog 133 = true := by kernel_rfl
theorem B8 {R : Aa} {xs : List Value} {s : St} : Ag Tryz.prog R (.func (.func 133) #[] #[]) xs s = R 133 xs s := Aj Ha
noncomputable def slices_ContainsFunc_api_Result_api_Result (R : Aa) (x0 x1 : Value) (s : St) : Option (Value × St) :=
(Ag Tryz.prog R (.func (.func 164) #[] #[]) [x0,x1] s).bind fun r0 =>
(abin Tryz.prog .geq 3 (.tmp 7) (.const (.int .i64 0)) r0.1 (.int .i64 0)).bind fun v1 =>
retV [v1] r0.2
theorem Co {lib : Lib} (hl : lib 134 = none) {x0 x1 : Value} {s : St} {r : Value × St} (h : slices_ContainsFunc_api_Result_api_Result (run Tryz.prog lib Ad) x0 x1 s = some r) : run Tryz.prog lib Ad 134 [x0,x1] s = some r :=
  At hl Tryz.func134 (Eq.trans (by kernel_rfl) h)
theorem Cp : Ap Tryz.prog 134 = true := by kernel_rfl
theorem Cg {R : Aa} {xs : List Value} {s : St} : Ag Tryz.prog R (.func (.func 134) #[] #[]) xs s = R 134 xs s := Aj Cp
noncomputable def wire_results_2 (R : Aa) (x0 x1 : Value) (s : St) : Option (Value × St) :=
(lbox x0).bind fun v0 =>
(Ao false 1 (.pointer (some ⟨0,1,none⟩)) v0).bind fun v1 =>
(AP .string v1 s).bind fun v2 =>
(abin Tryz.prog .gtr 3 (.tmp 6) (.const (.int .i64 16)) v2 (.int .i64 16)).bind fun v3 =>
(Ai v3 false ((Ao false 1 (.pointer (some ⟨0,2,none⟩)) v0).bind fun v4 =>
(AP (.slice 89) v4 s).bind fun v5 =>
(abin Tryz.prog .gtr 3 (.tmp 11) (.const (.int .i64 4)) v5 (.int .i64 4)).bind fun v6 =>
some ([v6],s)) (some ([undef],s))).bind fun q7 =>
(AM v3 (.bool true) (getL q7.1 0)).bind fun v8 =>
(Ai v8 false ((Ao false 1 (.pointer (some ⟨0,2,none⟩)) v0).bind fun v9 =>
(Aq false 1 x1 q7.2).bind fun v10 =>
(Ag Tryz.prog R (.func (.func 136) #[] #[]) [v9,v10] q7.2).bind fun r11 =>
some ([r11.1],r11.2)) (some ([undef],q7.2))).bind fun q12 =>
(AM v8 (.bool true) (getL q12.1 0)).bind fun v13 =>
retV [v13] q12.2
theorem Lc {lib : Lib} (hl : lib 135 = none) {x0 x1 : Value} {s : St} {r : Value × St} (h : wire_results_2 (run Tryz.prog lib Ad) x0 x1 s = some r) : run Tryz.prog lib Ad 135 [x0,x1] s = some r :=
  At hl Tryz.func135 (Eq.trans (by kernel_rfl) h)
theorem Ld : Ap Tryz.prog 135 = true := by kernel_rfl
noncomputable def slices_ContainsFunc_api_Pair_api_Pair (R : Aa) (x0 x1 : Value) (s : St) : Option (Value × St) :=
(Ag Tryz.prog R (.func (.func 165) #[] #[]) [x0,x1] s).bind fun r0 =>
(abin Tryz.prog .geq 3 (.tmp 7) (.const (.int .i64 0)) r0.1 (.int .i64 0)).bind fun v1 =>
retV [v1] r0.2
theorem CQ {lib : Lib} (hl : lib 136 = none) {x0 x1 : Value} {s : St} {r : Value × St} (h : slices_ContainsFunc_api_Pair_api_Pair (run Tryz.prog lib Ad) x0 x1 s = some r) : run Tryz.prog lib Ad 136 [x0,x1] s = some r :=
  At hl Tryz.func136 (Eq.trans (by kernel_rfl) h)
theorem CR : Ap Tryz.prog 136 = true := by kernel_rfl
theorem CA {R : Aa} {xs : List Value} {s : St} : Ag Tryz.prog R (.func (.func 136) #[] #[]) xs s = R 136 xs s := Aj CR
noncomputable def wire_ops_1 (R : Aa) (x0 : Value) (s : St) : Option (Value × St) :=
(lbox x0).bind fun v0 =>
(Ao true 6 lptr v0).bind fun v1 =>
(Ag Tryz.prog R (.func (.func 138) #[] #[]) [v1] s).bind fun r2 =>
(abin Tryz.prog .neq 32 (.tmp 4) (.const (.int .i64 0)) r2.1 (.int .i64 0)).bind fun v3 =>
retV [v3] r2.2
theorem Ru {lib : Lib} (hl : lib 137 = none) {x0 : Value} {s : St} {r : Value × St} (h : wire_ops_1 (run Tryz.prog lib Ad) x0 s = some r) : run Tryz.prog lib Ad 137 [x0] s = some r :=
  At hl Tryz.func137 (Eq.trans (by kernel_rfl) h)
theorem Rv : Ap Tryz.prog 137 = true := by kernel_rfl
theorem Ok {R : Aa} {xs : List Value} {s : St} : Ag Tryz.prog R (.func (.func 137) #[] #[]) xs s = R 137 xs s := Aj Rv
noncomputable def B4.j0 (R : Aa) (T : List Value) (s : St) : Option (Value × St) :=
AA (getL T 2)
 (retV [(.int .i64 40)] s)
 ((Ac 0 (getL T 1)).bind fun v8 =>
(Ao false 1 v8 (getL T 4)).bind fun v9 =>
(Ai v9 true ((Ac 1 (getL T 0)).bind fun v10 =>
(Ao false 1 v10 (getL T 3)).bind fun v11 =>
(Ag Tryz.prog R (.func (.func 133) #[] #[]) [v11] s).bind fun r12 =>
(abin Tryz.prog .neq 32 (.tmp 53) (.const (.int .i64 0)) r12.1 (.int .i64 0)).bind fun v13 =>
some ([v13],r12.2)) (some ([undef],s))).bind fun q14 =>
(AM v9 (getL q14.1 0) (.bool false)).bind fun v15 =>
AA v15
 (retV [(.int .i64 20)] q14.2)
 ((Ac 2 (getL T 0)).bind fun v16 =>
(Ao false 1 v16 (getL T 3)).bind fun v17 =>
(AP .string v17 q14.2).bind fun v18 =>
(abin Tryz.prog .gtr 3 (.tmp 59) (.const (.int .i64 16)) v18 (.int .i64 16)).bind fun v19 =>
AA v19
 (retV [(.int .i64 2)] q14.2)
 ((Ac 2 (getL T 1)).bind fun v20 =>
(Ao false 1 v20 (getL T 4)).bind fun v21 =>
(Ai v21 true ((Ao true 6 (getL T 0) (getL T 3)).bind fun v22 =>
(Ag Tryz.prog R (.func (.func 166) #[] #[]) [v22] q14.2).bind fun r23 =>
(Ag Tryz.prog R (.func (.func 62) #[] #[]) [r23.1] r23.2).bind fun r24 =>
(abin Tryz.prog .neq 32 (.tmp 67) (.const (.int .i64 0)) r24.1 (.int .i64 0)).bind fun v25 =>
some ([v25],r24.2)) (some ([undef],q14.2))).bind fun q26 =>
(AM v21 (getL q26.1 0) (.bool false)).bind fun v27 =>
AA v27
 (retV [(.int .i64 21)] q26.2)
 ((Ac 3 (getL T 1)).bind fun v28 =>
(Ao false 1 v28 (getL T 4)).bind fun v29 =>
(Ai v29 true ((Ac 5 (getL T 0)).bind fun v30 =>
(Ao false 1 v30 (getL T 3)).bind fun v31 =>
(abin Tryz.prog .lss 3 (.tmp 75) (.const (.int .i64 1)) v31 (.int .i64 1)).bind fun v32 =>
some ([v32],q26.2)) (some ([undef],q26.2))).bind fun q33 =>
(Ai (getL q33.1 0) false ((Ac 5 (getL T 0)).bind fun v34 =>
(Ao false 1 v34 (getL T 3)).bind fun v35 =>
(abin Tryz.prog .gtr 3 (.tmp 79) (.const (.int .i64 4)) v35 (.int .i64 4)).bind fun v36 =>
some ([v36],q33.2)) (some ([undef],q33.2))).bind fun q37 =>
(Ai v29 true ((AM (getL q33.1 0) (.bool true) (getL q37.1 0)).bind fun v38 =>
some ([v38],q37.2)) (some ([undef],q37.2))).bind fun q39 =>
(AM v29 (getL q39.1 0) (.bool false)).bind fun v40 =>
AA v40
 (retV [(.int .i64 1)] q39.2)
 (retV [(.int .i64 0)] q39.2)))))
noncomputable def B4 (R : Aa) (x0 : Value) (s : St) : Option (Value × St) :=
(lbox x0).bind fun v0 =>
(Ao false 1 lptr v0).bind fun v1 =>
(Ag Tryz.prog R (.func (.func 141) #[] #[]) [v1] s).bind fun r2 =>
(Ak 0 r2.1).bind fun v3 =>
(Ak 1 r2.1).bind fun v4 =>
(AN 6 lptr v3 (.agg #[(.bool false),(.bool false),(.bool false),(.bool false),(.bool false),.nilFunc])).bind fun v5 =>
(aun .not v4).bind fun v7 =>
AA v7
 (C9 (B4.j0 R) [lptr,lptr,v7,v0,v5] r2.2)
 ((Ao false 1 lptr v5).bind fun v41 =>
(aun .not v41).bind fun v42 =>
(Ai v42 true ((Ao false 1 (.pointer (some ⟨0,1,none⟩)) v0).bind fun v43 =>
(abin Tryz.prog .neq 9 (.tmp 19) (.const (.string ⟨#[]⟩)) v43 (.string ⟨#[]⟩)).bind fun v44 =>
some ([v44],r2.2)) (some ([undef],r2.2))).bind fun q45 =>
(AM v42 (getL q45.1 0) (.bool false)).bind fun v46 =>
AA v46
 (C9 (B4.j0 R) [lptr,lptr,v46,v0,v5] q45.2)
 ((Ao false 1 (.pointer (some ⟨0,1,none⟩)) v5).bind fun v47 =>
(aun .not v47).bind fun v48 =>
(Ai v48 true ((Ao false 1 (.pointer (some ⟨0,2,none⟩)) v0).bind fun v49 =>
(abin Tryz.prog .neq 9 (.tmp 27) (.const (.string ⟨#[]⟩)) v49 (.string ⟨#[]⟩)).bind fun v50 =>
some ([v50],q45.2)) (some ([undef],q45.2))).bind fun q51 =>
(AM v48 (getL q51.1 0) (.bool false)).bind fun v52 =>
AA v52
 (C9 (B4.j0 R) [lptr,lptr,v52,v0,v5] q51.2)
 ((Ao false 1 (.pointer (some ⟨0,2,none⟩)) v5).bind fun v53 =>
(aun .not v53).bind fun v54 =>
(Ai v54 true ((Ao true 6 lptr v0).bind fun v55 =>
(Ag Tryz.prog R (.func (.func 166) #[] #[]) [v55] q51.2).bind fun r56 =>
(abin Tryz.prog .neq 24 (.tmp 35) (.tmp 36) r56.1 (.agg #[(.string ⟨#[]⟩),(.string ⟨#[]⟩)])).bind fun v57 =>
some ([v57],r56.2)) (some ([undef],q51.2))).bind fun q58 =>
(AM v54 (getL q58.1 0) (.bool false)).bind fun v59 =>
AA v59
 (C9 (B4.j0 R) [lptr,lptr,v59,v0,v5] q58.2)
 ((Ao false 1 (.pointer (some ⟨0,3,none⟩)) v5).bind fun v60 =>
(aun .not v60).bind fun v61 =>
(Ai v61 true ((Ao false 1 (.pointer (some ⟨0,5,none⟩)) v0).bind fun v62 =>
(abin Tryz.prog .neq 3 (.tmp 44) (.const (.int .i64 0)) v62 (.int .i64 0)).bind fun v63 =>
some ([v63],q58.2)) (some ([undef],q58.2))).bind fun q64 =>
(AM v61 (getL q64.1 0) (.bool false)).bind fun v65 =>
C9 (B4.j0 R) [lptr,lptr,v65,v0,v5] q64.2))))
theorem Rw {lib : Lib} (hl : lib 138 = none) {x0 : Value} {s : St} {r : Value × St} (h : B4 (run Tryz.prog lib Ad) x0 s = some r) : run Tryz.prog lib Ad 138 [x0] s = some r :=
  At hl Tryz.func138 (Eq.trans (by kernel_rfl) h)
theorem Kz : Ap Tryz.prog 138 = true := by kernel_rfl
theorem HT {R : Aa} {xs : List Value} {s : St} : Ag Tryz.prog R (.func (.func 138) #[] #[]) xs s = R 138 xs s := Aj Kz
noncomputable def Vh (R : Aa) (s : St) : Option (Value × St) :=
retV [(.agg #[(.string ⟨#[]⟩),(.string ⟨#[]⟩)])] s
theorem Uj {lib : Lib} (hl : lib 139 = none) {s : St} {r : Value × St} (h : Vh (run Tryz.prog lib Ad)  s = some r) : run Tryz.prog lib Ad 139 [] s = some r :=
  At hl Tryz.func139 (Eq.trans (by kernel_rfl) h)
theorem Ol : Ap Tryz.prog 139 = true := by kernel_rfl
theorem Rx {R : Aa} {xs : List Value} {s : St} : Ag Tryz.prog R (.func (.func 139) #[] #[]) xs s = R 139 xs s := Aj Ol
noncomputable def slices_IndexFunc_api_Op_api_Op.b0 (R : Aa) (T : List Value) (s : St) : Res :=
(abin Tryz.prog .lss 3 (.tmp 8) (.tmp 7) (getL T 3) (getL T 2)).bind fun v1 =>
AA v1
 ((AC 6 (getL T 0) (getL T 3)).bind fun v2 =>
(Aq true 6 v2 s).bind fun v3 =>
(Ag Tryz.prog R (getL T 1) [v3] s).bind fun r4 =>
AA r4.1
 (some (.ret,[(getL T 3)],r4.2))
 ((abin Tryz.prog .add 3 (.tmp 8) (.const (.int .i64 1)) (getL T 3) (.int .i64 1)).bind fun v5 =>
some (.normal,[(getL T 0),(getL T 1),(getL T 2),v5],r4.2)))
 (some (.exit 0,[],s))
noncomputable def slices_IndexFunc_api_Op_api_Op (R : Aa) (x0 x1 : Value) (s : St) : Option (Value × St) :=
(AP (.slice 69) x0 s).bind fun v0 =>
(AV (slices_IndexFunc_api_Op_api_Op.b0 R) [x0,x1,v0,(.int .i64 0)] s).bind fun r6 =>
exV r6.1 [(0,retV [(.int .i64 (-1))] r6.2.2)]
 (retV [(getL r6.2.1 0)] r6.2.2)
theorem DQ {lib : Lib} (hl : lib 140 = none) {x0 x1 : Value} {s : St} {r : Value × St} (h : slices_IndexFunc_api_Op_api_Op (run Tryz.prog lib Ad) x0 x1 s = some r) : run Tryz.prog lib Ad 140 [x0,x1] s = some r :=
  At hl Tryz.func140 (Eq.trans (by kernel_rfl) h)
theorem DR : Ap Tryz.prog 140 = true := by kernel_rfl
theorem Dv {R : Aa} {xs : List Value} {s : St} : Ag Tryz.prog R (.func (.func 140) #[] #[]) xs s = R 140 xs s := Aj DR
noncomputable def Om (R : Aa) (x0 : Value) (s : St) : Option (Value × St) :=
(abin Tryz.prog .lss 3 (.tmp 4) (.const (.int .i64 1)) x0 (.int .i64 1)).bind fun v0 =>
(Ai v0 false ((abin Tryz.prog .gtr 3 (.tmp 7) (.const (.int .i64 5)) x0 (.int .i64 5)).bind fun v1 =>
some ([v1],s)) (some ([undef],s))).bind fun q2 =>
(AM v0 (.bool true) (getL q2.1 0)).bind fun v3 =>
AA v3
 (retV [(.agg #[(.bool false),(.bool false),(.bool false),(.bool false),(.bool false),.nilFunc]),(.bool false)] q2.2)
 ((Ag Tryz.prog R (.func (.func 167) #[] #[]) [] q2.2).bind fun r4 =>
(Hq true 6 6 r4.1 x0).bind fun v5 =>
(AN 6 lptr v5 (.agg #[(.bool false),(.bool false),(.bool false),(.bool false),(.bool false),.nilFunc])).bind fun v6 =>
(Ao true 6 lptr v6).bind fun v7 =>
retV [v7,(.bool true)] r4.2)
theorem SR {lib : Lib} (hl : lib 141 = none) {x0 : Value} {s : St} {r : Value × St} (h : Om (run Tryz.prog lib Ad) x0 s = some r) : run Tryz.prog lib Ad 141 [x0] s = some r :=
  At hl Tryz.func141 (Eq.trans (by kernel_rfl) h)
theorem L3 : Ap Tryz.prog 141 = true := by kernel_rfl
theorem I2 {R : Aa} {xs : List Value} {s : St} : Ag Tryz.prog R (.func (.func 141) #[] #[]) xs s = R 141 xs s := Aj L3
noncomputable def Qf (R : Aa) (x0 x1 x2 : Value) (s : St) : Option (Value × St) :=
(Aq false 1 x2 s).bind fun v0 =>
(Ag Tryz.prog R v0 [x1] s).bind fun r1 =>
(Ah r1.1).bind fun v2 =>
(Aq false 1 v2 r1.2).bind fun v3 =>
(Ag Tryz.prog R (.func (.func 45) #[] #[]) [v3] r1.2).bind fun r4 =>
(AD 1 1 x0 r4.1 r4.2).bind fun r5 =>
retV [r5.1] r5.2
theorem Ry {lib : Lib} (hl : lib 142 = none) {x0 x1 x2 : Value} {s : St} {r : Value × St} (h : Qf (run Tryz.prog lib Ad) x0 x1 x2 s = some r) : run Tryz.prog lib Ad 142 [x0,x1,x2] s = some r :=
  At hl Tryz.func142 (Eq.trans (by kernel_rfl) h)
theorem Rz : Ap Tryz.prog 142 = true := by kernel_rfl
noncomputable def Qg (R : Aa) (x0 x1 x2 : Value) (s : St) : Option (Value × St) :=
(Aq false 1 x2 s).bind fun v0 =>
(Ag Tryz.prog R v0 [x1] s).bind fun r1 =>
(Ag Tryz.prog R (.func (.func 144) #[] #[]) [x0] r1.2).bind fun r2 =>
(Ah r1.1).bind fun v3 =>
(A0 1 v3 r2.1 r2.2).bind fun s4 =>
retV [] s4
theorem RA {lib : Lib} (hl : lib 143 = none) {x0 x1 x2 : Value} {s : St} {r : Value × St} (h : Qg (run Tryz.prog lib Ad) x0 x1 x2 s = some r) : run Tryz.prog lib Ad 143 [x0,x1,x2] s = some r :=
  At hl Tryz.func143 (Eq.trans (by kernel_rfl) h)
theorem RB : Ap Tryz.prog 143 = true := by kernel_rfl
noncomputable def DS (R : Aa) (x0 : Value) (s : St) : Option (Value × St) :=
(Ah x0).bind fun v0 =>
(Ac 1 v0).bind fun v1 =>
(Aq false 1 v1 s).bind fun v2 =>
(abin Tryz.prog .neq 32 (.tmp 9) (.const (.int .i64 0)) v2 (.int .i64 0)).bind fun v3 =>
AA v3
 (retV [(.int .u64 0)] s)
 ((Ah x0).bind fun v4 =>
(Ac 0 v4).bind fun v5 =>
(Aq false 1 v5 s).bind fun v6 =>
(Ag Tryz.prog R (.func (.func 117) #[] #[]) [v6] s).bind fun r7 =>
(Ak 0 r7.1).bind fun v8 =>
(Ak 1 r7.1).bind fun v9 =>
(Ak 2 r7.1).bind fun v10 =>
(abin Tryz.prog .neq 32 (.tmp 20) (.const (.int .i64 0)) v10 (.int .i64 0)).bind fun v11 =>
AA v11
 ((Ag Tryz.prog R (.func (.func 36) #[] #[]) [x0,v10] r7.2).bind fun r12 =>
retV [(.int .u64 0)] r12.2)
 ((Ah x0).bind fun v13 =>
(Ac 0 v13).bind fun v14 =>
(Aq false 1 v14 r7.2).bind fun v15 =>
(Bj 1 v15 (some v9) none none).bind fun v16 =>
(Ah x0).bind fun v17 =>
(Ac 0 v17).bind fun v18 =>
(A0 1 v18 v16 r7.2).bind fun s19 =>
retV [v8] s19))
theorem DT {lib : Lib} (hl : lib 144 = none) {x0 : Value} {s : St} {r : Value × St} (h : DS (run Tryz.prog lib Ad) x0 s = some r) : run Tryz.prog lib Ad 144 [x0] s = some r :=
  At hl Tryz.func144 (Eq.trans (by kernel_rfl) h)
theorem KA : Ap Tryz.prog 144 = true := by kernel_rfl
theorem Db {R : Aa} {xs : List Value} {s : St} : Ag Tryz.prog R (.func (.func 144) #[] #[]) xs s = R 144 xs s := Aj KA
noncomputable def wire_num_3 (R : Aa) (x0 x1 : Value) (s : St) : Option (Value × St) :=
(Aq false 1 x1 s).bind fun v0 =>
(Ag Tryz.prog R v0 [x0] s).bind fun r1 =>
(Ah r1.1).bind fun v2 =>
(Aq false 1 v2 r1.2).bind fun v3 =>
(abin Tryz.prog .eql 22 (.tmp 8) (.const (.int .u64 0)) v3 (.int .u64 0)).bind fun v4 =>
retV [v4] r1.2
theorem RC {lib : Lib} (hl : lib 145 = none) {x0 x1 : Value} {s : St} {r : Value × St} (h : wire_num_3 (run Tryz.prog lib Ad) x0 x1 s = some r) : run Tryz.prog lib Ad 145 [x0,x1] s = some r :=
  At hl Tryz.func145 (Eq.trans (by kernel_rfl) h)
theorem RD : Ap Tryz.prog 145 = true := by kernel_rfl
noncomputable def L4 (R : Aa) (x0 x1 x2 : Value) (s : St) : Option (Value × St) :=
(Aq false 1 x2 s).bind fun v0 =>
(Ag Tryz.prog R v0 [x1] s).bind fun r1 =>
(Ah r1.1).bind fun v2 =>
(Aq false 1 v2 r1.2).bind fun v3 =>
(AK .u8 v3).bind fun v4 =>
(Ar 1 [(.int .u8 0)] 1 [(0,v4)] r1.2).bind fun r5 =>
(AD 1 1 x0 r5.1 r5.2).bind fun r6 =>
retV [r6.1] r6.2
theorem On {lib : Lib} (hl : lib 146 = none) {x0 x1 x2 : Value} {s : St} {r : Value × St} (h : L4 (run Tryz.prog lib Ad) x0 x1 x2 s = some r) : run Tryz.prog lib Ad 146 [x0,x1,x2] s = some r :=
  At hl Tryz.func146 (Eq.trans (by kernel_rfl) h)
theorem Oo : Ap Tryz.prog 146 = true := by kernel_rfl
noncomputable def L5 (R : Aa) (x0 x1 x2 : Value) (s : St) : Option (Value × St) :=
(Aq false 1 x2 s).bind fun v0 =>
(Ag Tryz.prog R v0 [x1] s).bind fun r1 =>
(Ag Tryz.prog R (.func (.func 35) #[] #[]) [x0] r1.2).bind fun r2 =>
(Ah r1.1).bind fun v3 =>
(A0 1 v3 r2.1 r2.2).bind fun s4 =>
retV [] s4
theorem Oq {lib : Lib} (hl : lib 147 = none) {x0 x1 x2 : Value} {s : St} {r : Value × St} (h : L5 (run Tryz.prog lib Ad) x0 x1 x2 s = some r) : run Tryz.prog lib Ad 147 [x0,x1,x2] s = some r :=
  At hl Tryz.func147 (Eq.trans (by kernel_rfl) h)
theorem Or : Ap Tryz.prog 147 = true := by kernel_rfl
noncomputable def wire_small_3 (R : Aa) (x0 x1 : Value) (s : St) : Option (Value × St) :=
(Aq false 1 x1 s).bind fun v0 =>
(Ag Tryz.prog R v0 [x0] s).bind fun r1 =>
(Ah r1.1).bind fun v2 =>
(Aq false 1 v2 r1.2).bind fun v3 =>
(abin Tryz.prog .eql 3 (.tmp 8) (.const (.int .i64 0)) v3 (.int .i64 0)).bind fun v4 =>
retV [v4] r1.2
theorem Ot {lib : Lib} (hl : lib 148 = none) {x0 x1 : Value} {s : St} {r : Value × St} (h : wire_small_3 (run Tryz.prog lib Ad) x0 x1 s = some r) : run Tryz.prog lib Ad 148 [x0,x1] s = some r :=
  At hl Tryz.func148 (Eq.trans (by kernel_rfl) h)
theorem Ou : Ap Tryz.prog 148 = true := by kernel_rfl
noncomputable def Le (R : Aa) (x0 : Value) (s : St) : Option (Value × St) :=
(AP .string x0 s).bind fun v0 =>
(AK .u64 v0).bind fun v1 =>
(Ag Tryz.prog R (.func (.func 45) #[] #[]) [v1] s).bind fun r2 =>
(AD 1 1 r2.1 x0 r2.2).bind fun r3 =>
retV [r3.1] r3.2
theorem RE {lib : Lib} (hl : lib 149 = none) {x0 : Value} {s : St} {r : Value × St} (h : Le (run Tryz.prog lib Ad) x0 s = some r) : run Tryz.prog lib Ad 149 [x0] s = some r :=
  At hl Tryz.func149 (Eq.trans (by kernel_rfl) h)
theorem KB : Ap Tryz.prog 149 = true := by kernel_rfl
theorem Ov {R : Aa} {xs : List Value} {s : St} : Ag Tryz.prog R (.func (.func 149) #[] #[]) xs s = R 149 xs s := Aj KB
noncomputable def FU (R : Aa) (x0 x1 : Value) (s : St) : Option (Value × St) :=
(Ag Tryz.prog R (.func (.func 117) #[] #[]) [x0] s).bind fun r0 =>
(Ak 0 r0.1).bind fun v1 =>
(Ak 1 r0.1).bind fun v2 =>
(Ak 2 r0.1).bind fun v3 =>
(abin Tryz.prog .neq 32 (.tmp 17) (.const (.int .i64 0)) v3 (.int .i64 0)).bind fun v4 =>
AA v4
 (retV [(.string ⟨#[]⟩),(.int .i64 0),v3] r0.2)
 ((abin Tryz.prog .lss 3 (.tmp 21) (.const (.int .i64 0)) x1 (.int .i64 0)).bind fun v5 =>
(Ai v5 false ((AK .u64 x1).bind fun v6 =>
(abin Tryz.prog .gtr 22 (.tmp 24) (.tmp 26) v1 v6).bind fun v7 =>
some ([v7],r0.2)) (some ([undef],r0.2))).bind fun q8 =>
(AM v5 (.bool true) (getL q8.1 0)).bind fun v9 =>
AA v9
 (retV [(.string ⟨#[]⟩),(.int .i64 0),(.int .i64 2)] q8.2)
 ((AP (.slice 5) x0 q8.2).bind fun v10 =>
(abin Tryz.prog .sub 3 (.tmp 32) (.tmp 33) v10 v2).bind fun v11 =>
(AK .u64 v11).bind fun v12 =>
(abin Tryz.prog .gtr 22 (.tmp 30) (.tmp 35) v1 v12).bind fun v13 =>
AA v13
 (retV [(.string ⟨#[]⟩),(.int .i64 0),(.int .i64 10)] q8.2)
 ((AK .i64 v1).bind fun v14 =>
(abin Tryz.prog .add 3 (.tmp 39) (.tmp 41) v2 v14).bind fun v15 =>
(Bj 1 x0 (some v2) (some v15) none).bind fun v16 =>
(Cs v16 q8.2).bind fun v17 =>
(AK .i64 v1).bind fun v18 =>
(abin Tryz.prog .add 3 (.tmp 45) (.tmp 47) v2 v18).bind fun v19 =>
retV [v17,v19,(.int .i64 0)] q8.2)))
theorem Lf {lib : Lib} (hl : lib 150 = none) {x0 x1 : Value} {s : St} {r : Value × St} (h : FU (run Tryz.prog lib Ad) x0 x1 s = some r) : run Tryz.prog lib Ad 150 [x0,x1] s = some r :=
  At hl Tryz.func150 (Eq.trans (by kernel_rfl) h)
theorem Gn : Ap Tryz.prog 150 = true := by kernel_rfl
theorem Dw {R : Aa} {xs : List Value} {s : St} : Ag Tryz.prog R (.func (.func 150) #[] #[]) xs s = R 150 xs s := Aj Gn
noncomputable def Bv.b0 (R : Aa) (T : List Value) (s : St) : Res :=
(abin Tryz.prog .lss 3 (.tmp 25) (.tmp 24) (getL T 4) (getL T 3)).bind fun v13 =>
AA v13
 ((AC 6 (getL T 2) (getL T 4)).bind fun v14 =>
(Aq true 6 v14 s).bind fun v15 =>
(AN 6 lptr v15 (.agg #[(.int .i64 0),(.string ⟨#[]⟩),(.string ⟨#[]⟩),(.string ⟨#[]⟩),(.string ⟨#[]⟩),(.int .i64 0)])).bind fun v16 =>
(Aq false 1 (getL T 1) s).bind fun v17 =>
(Ao true 6 lptr v16).bind fun v18 =>
(Ag Tryz.prog R v17 [(getL T 0),v18] s).bind fun r19 =>
(abin Tryz.prog .add 3 (.tmp 25) (.const (.int .i64 1)) (getL T 4) (.int .i64 1)).bind fun v20 =>
some (.normal,[r19.1,(getL T 1),(getL T 2),(getL T 3),v20],r19.2))
 (some (.exit 0,[(getL T 0)],s))
noncomputable def Bv (R : Aa) (x0 x1 x2 x3 : Value) (s : St) : Option (Value × St) :=
(Aq false 1 x2 s).bind fun v0 =>
(Ag Tryz.prog R v0 [x1] s).bind fun r1 =>
(Ah r1.1).bind fun v2 =>
(Aq false 1 v2 r1.2).bind fun v3 =>
(AP (.slice 69) v3 r1.2).bind fun v4 =>
(AK .u64 v4).bind fun v5 =>
(Ag Tryz.prog R (.func (.func 45) #[] #[]) [v5] r1.2).bind fun r6 =>
(AD 1 1 x0 r6.1 r6.2).bind fun r7 =>
(Aq false 1 x2 r7.2).bind fun v8 =>
(Ag Tryz.prog R v8 [x1] r7.2).bind fun r9 =>
(Ah r9.1).bind fun v10 =>
(Aq false 1 v10 r9.2).bind fun v11 =>
(AP (.slice 69) v11 r9.2).bind fun v12 =>
(AV (Bv.b0 R) [r7.1,x3,v11,v12,(.int .i64 0)] r9.2).bind fun r21 =>
exV r21.1 [(0,retV [(getL r21.2.1 0)] r21.2.2)]
 (none)
theorem HU {lib : Lib} (hl : lib 151 = none) {x0 x1 x2 x3 : Value} {s : St} {r : Value × St} (h : Bv (run Tryz.prog lib Ad) x0 x1 x2 x3 s = some r) : run Tryz.prog lib Ad 151 [x0,x1,x2,x3] s = some r :=
  At hl Tryz.func151 (Eq.trans (by kernel_rfl) h)
theorem HV : Ap Tryz.prog 151 = true := by kernel_rfl
noncomputable def Bi.b0 (R : Aa) (T : List Value) (s : St) : Res :=
(abin Tryz.prog .gtr 3 (.tmp 9) (.const (.int .i64 0)) (getL T 4) (.int .i64 0)).bind fun v1 =>
(Ai v1 true ((Ah (getL T 0)).bind fun v2 =>
(Ac 1 v2).bind fun v3 =>
(Aq false 1 v3 s).bind fun v4 =>
(abin Tryz.prog .eql 32 (.tmp 15) (.const (.int .i64 0)) v4 (.int .i64 0)).bind fun v5 =>
some ([v5],s)) (some ([undef],s))).bind fun q6 =>
(AM v1 (getL q6.1 0) (.bool false)).bind fun v7 =>
AA v7
 (((Aq false 1 (getL T 2) q6.2).bind fun v8 =>
(Ag Tryz.prog R v8 [(getL T 1)] q6.2).bind fun r9 =>
(Aq false 1 (getL T 2) r9.2).bind fun v10 =>
(Ag Tryz.prog R v10 [(getL T 1)] r9.2).bind fun r11 =>
(Ah r11.1).bind fun v12 =>
(Aq false 1 v12 r11.2).bind fun v13 =>
(Aq false 1 (getL T 3) r11.2).bind fun v14 =>
(Ag Tryz.prog R v14 [(getL T 0)] r11.2).bind fun r15 =>
(Ar 6 [(.int .i64 0),(.string ⟨#[]⟩),(.string ⟨#[]⟩),(.string ⟨#[]⟩),(.string ⟨#[]⟩),(.int .i64 0)] 1 [(0,r15.1)] r15.2).bind fun r16 =>
(AD 6 80 v13 r16.1 r16.2).bind fun r17 =>
(Ah r9.1).bind fun v18 =>
(A0 1 v18 r17.1 r17.2).bind fun s19 =>
some [v12]).bind fun q20 =>
(((Aq false 1 (getL T 2) (⟨frzK [] 0 (q6.2).heap⟩ : St)).bind fun v43 =>
some (v43,(⟨frzK [] 0 (q6.2).heap⟩ : St))).bind (Bz [] q6.2)).bind fun r21 =>
(((Ag Tryz.prog R r21.1 [(getL T 1)] (⟨frzK [] 0 (r21.2).heap⟩ : St)).bind fun r42 =>
some (r42.1,r42.2)).bind (Bz [] r21.2)).bind fun r22 =>
(((Aq false 1 (getL T 2) (⟨frzK [] 0 (r22.2).heap⟩ : St)).bind fun v41 =>
some (v41,(⟨frzK [] 0 (r22.2).heap⟩ : St))).bind (Bz [] r22.2)).bind fun r23 =>
(((Ag Tryz.prog R r23.1 [(getL T 1)] (⟨frzK [] 0 (r23.2).heap⟩ : St)).bind fun r40 =>
some (r40.1,r40.2)).bind (Bz [] r23.2)).bind fun r24 =>
(Ah r24.1).bind fun v25 =>
(((Aq false 1 v25 (⟨frzK ((CK (q6.2).heap.length (q20.drop 0)) ++ []) 0 (r24.2).heap⟩ : St)).bind fun v39 =>
some (v39,(⟨frzK ((CK (q6.2).heap.length (q20.drop 0)) ++ []) 0 (r24.2).heap⟩ : St))).bind (Bz ((CK (q6.2).heap.length (q20.drop 0)) ++ []) r24.2)).bind fun r26 =>
(((Aq false 1 (getL T 3) (⟨frzK [] 0 (r26.2).heap⟩ : St)).bind fun v38 =>
some (v38,(⟨frzK [] 0 (r26.2).heap⟩ : St))).bind (Bz [] r26.2)).bind fun r27 =>
(((Ag Tryz.prog R r27.1 [(getL T 0)] (⟨Eb (CK (q6.2).heap.length (q20.drop 0)) 0 (r27.2).heap⟩ : St)).bind fun r37 =>
some (r37.1,r37.2)).bind (appR (CK (q6.2).heap.length (q20.drop 0)) [] r27.2)).bind fun r28 =>
(((Ar 6 [(.int .i64 0),(.string ⟨#[]⟩),(.string ⟨#[]⟩),(.string ⟨#[]⟩),(.string ⟨#[]⟩),(.int .i64 0)] 1 [(0,r28.1)] (⟨frzK [] 0 (r28.2).heap⟩ : St)).bind fun r36 =>
some (r36.1,r36.2)).bind (Bz [] r28.2)).bind fun r29 =>
(((AD 6 80 r26.1 r29.1 r29.2).bind fun r35 =>
some (r35.1,r35.2)).bind (ownR r29.2)).bind fun r30 =>
(Ah r22.1).bind fun v31 =>
(((A0 1 v31 r30.1 r30.2).bind fun s34 =>
some (undef,s34)).bind (ownR r30.2)).bind fun r32 =>
(abin Tryz.prog .sub 3 (.tmp 18) (.const (.int .i64 1)) (getL T 4) (.int .i64 1)).bind fun v33 =>
some (.normal,[(getL T 0),(getL T 1),(getL T 2),(getL T 3),v33],r32.2))
 (some (.exit 0,[],q6.2))
noncomputable def Bi (R : Aa) (x0 x1 x2 x3 : Value) (s : St) : Option (Value × St) :=
(Ag Tryz.prog R (.func (.func 153) #[] #[]) [x0] s).bind fun r0 =>
(AV (Bi.b0 R) [x0,x1,x2,x3,r0.1] r0.2).bind fun r44 =>
exV r44.1 [(0,retV [] r44.2.2)]
 (none)
theorem HW {lib : Lib} (hl : lib 152 = none) {x0 x1 x2 x3 : Value} {s : St} {r : Value × St} (h : Bi (run Tryz.prog lib Ad) x0 x1 x2 x3 s = some r) : run Tryz.prog lib Ad 152 [x0,x1,x2,x3] s = some r :=
  At hl Tryz.func152 (Eq.trans (by kernel_rfl) h)
theorem HX : Ap Tryz.prog 152 = true := by kernel_rfl
noncomputable def Ey (R : Aa) (x0 : Value) (s : St) : Option (Value × St) :=
(Ag Tryz.prog R (.func (.func 144) #[] #[]) [x0] s).bind fun r0 =>
(abin Tryz.prog .gtr 22 (.tmp 6) (.const (.int .u64 255)) r0.1 (.int .u64 255)).bind fun v1 =>
AA v1
 ((Ag Tryz.prog R (.func (.func 36) #[] #[]) [x0,(.int .i64 11)] r0.2).bind fun r2 =>
retV [(.int .i64 0)] r2.2)
 ((AK .i64 r0.1).bind fun v3 =>
retV [v3] r0.2)
theorem Ff {lib : Lib} (hl : lib 153 = none) {x0 : Value} {s : St} {r : Value × St} (h : Ey (run Tryz.prog lib Ad) x0 s = some r) : run Tryz.prog lib Ad 153 [x0] s = some r :=
  At hl Tryz.func153 (Eq.trans (by kernel_rfl) h)
theorem JG : Ap Tryz.prog 153 = true := by kernel_rfl
theorem B9 {R : Aa} {xs : List Value} {s : St} : Ag Tryz.prog R (.func (.func 153) #[] #[]) xs s = R 153 xs s := Aj JG
noncomputable def wire_list_api_Op_3 (R : Aa) (x0 x1 : Value) (s : St) : Option (Value × St) :=
(Aq false 1 x1 s).bind fun v0 =>
(Ag Tryz.prog R v0 [x0] s).bind fun r1 =>
(Ah r1.1).bind fun v2 =>
(Aq false 1 v2 r1.2).bind fun v3 =>
(AP (.slice 69) v3 r1.2).bind fun v4 =>
(abin Tryz.prog .eql 3 (.tmp 9) (.const (.int .i64 0)) v4 (.int .i64 0)).bind fun v5 =>
retV [v5] r1.2
theorem HY {lib : Lib} (hl : lib 154 = none) {x0 x1 : Value} {s : St} {r : Value × St} (h : wire_list_api_Op_3 (run Tryz.prog lib Ad) x0 x1 s = some r) : run Tryz.prog lib Ad 154 [x0,x1] s = some r :=
  At hl Tryz.func154 (Eq.trans (by kernel_rfl) h)
theorem HZ : Ap Tryz.prog 154 = true := by kernel_rfl
noncomputable def Ba.b0 (R : Aa) (T : List Value) (s : St) : Res :=
(abin Tryz.prog .lss 3 (.tmp 25) (.tmp 24) (getL T 4) (getL T 3)).bind fun v13 =>
AA v13
 ((AC 3 (getL T 2) (getL T 4)).bind fun v14 =>
(Aq true 3 v14 s).bind fun v15 =>
(AN 3 lptr v15 (.agg #[(.bool false),(.string ⟨#[]⟩),(.slice none 0 0)])).bind fun v16 =>
(Aq false 1 (getL T 1) s).bind fun v17 =>
(Ao true 3 lptr v16).bind fun v18 =>
(Ag Tryz.prog R v17 [(getL T 0),v18] s).bind fun r19 =>
(abin Tryz.prog .add 3 (.tmp 25) (.const (.int .i64 1)) (getL T 4) (.int .i64 1)).bind fun v20 =>
some (.normal,[r19.1,(getL T 1),(getL T 2),(getL T 3),v20],r19.2))
 (some (.exit 0,[(getL T 0)],s))
noncomputable def Ba (R : Aa) (x0 x1 x2 x3 : Value) (s : St) : Option (Value × St) :=
(Aq false 1 x2 s).bind fun v0 =>
(Ag Tryz.prog R v0 [x1] s).bind fun r1 =>
(Ah r1.1).bind fun v2 =>
(Aq false 1 v2 r1.2).bind fun v3 =>
(AP (.slice 87) v3 r1.2).bind fun v4 =>
(AK .u64 v4).bind fun v5 =>
(Ag Tryz.prog R (.func (.func 45) #[] #[]) [v5] r1.2).bind fun r6 =>
(AD 1 1 x0 r6.1 r6.2).bind fun r7 =>
(Aq false 1 x2 r7.2).bind fun v8 =>
(Ag Tryz.prog R v8 [x1] r7.2).bind fun r9 =>
(Ah r9.1).bind fun v10 =>
(Aq false 1 v10 r9.2).bind fun v11 =>
(AP (.slice 87) v11 r9.2).bind fun v12 =>
(AV (Ba.b0 R) [r7.1,x3,v11,v12,(.int .i64 0)] r9.2).bind fun r21 =>
exV r21.1 [(0,retV [(getL r21.2.1 0)] r21.2.2)]
 (none)
theorem FV {lib : Lib} (hl : lib 155 = none) {x0 x1 x2 x3 : Value} {s : St} {r : Value × St} (h : Ba (run Tryz.prog lib Ad) x0 x1 x2 x3 s = some r) : run Tryz.prog lib Ad 155 [x0,x1,x2,x3] s = some r :=
  At hl Tryz.func155 (Eq.trans (by kernel_rfl) h)
theorem FW : Ap Tryz.prog 155 = true := by kernel_rfl
noncomputable def A1.b0 (R : Aa) (T : List Value) (s : St) : Res :=
(abin Tryz.prog .gtr 3 (.tmp 9) (.const (.int .i64 0)) (getL T 4) (.int .i64 0)).bind fun v1 =>
(Ai v1 true ((Ah (getL T 0)).bind fun v2 =>
(Ac 1 v2).bind fun v3 =>
(Aq false 1 v3 s).bind fun v4 =>
(abin Tryz.prog .eql 32 (.tmp 15) (.const (.int .i64 0)) v4 (.int .i64 0)).bind fun v5 =>
some ([v5],s)) (some ([undef],s))).bind fun q6 =>
(AM v1 (getL q6.1 0) (.bool false)).bind fun v7 =>
AA v7
 (((Aq false 1 (getL T 2) q6.2).bind fun v8 =>
(Ag Tryz.prog R v8 [(getL T 1)] q6.2).bind fun r9 =>
(Aq false 1 (getL T 2) r9.2).bind fun v10 =>
(Ag Tryz.prog R v10 [(getL T 1)] r9.2).bind fun r11 =>
(Ah r11.1).bind fun v12 =>
(Aq false 1 v12 r11.2).bind fun v13 =>
(Aq false 1 (getL T 3) r11.2).bind fun v14 =>
(Ag Tryz.prog R v14 [(getL T 0)] r11.2).bind fun r15 =>
(Ar 3 [(.bool false),(.string ⟨#[]⟩),(.slice none 0 0)] 1 [(0,r15.1)] r15.2).bind fun r16 =>
(AD 3 48 v13 r16.1 r16.2).bind fun r17 =>
(Ah r9.1).bind fun v18 =>
(A0 1 v18 r17.1 r17.2).bind fun s19 =>
some [v12]).bind fun q20 =>
(((Aq false 1 (getL T 2) (⟨frzK [] 0 (q6.2).heap⟩ : St)).bind fun v43 =>
some (v43,(⟨frzK [] 0 (q6.2).heap⟩ : St))).bind (Bz [] q6.2)).bind fun r21 =>
(((Ag Tryz.prog R r21.1 [(getL T 1)] (⟨frzK [] 0 (r21.2).heap⟩ : St)).bind fun r42 =>
some (r42.1,r42.2)).bind (Bz [] r21.2)).bind fun r22 =>
(((Aq false 1 (getL T 2) (⟨frzK [] 0 (r22.2).heap⟩ : St)).bind fun v41 =>
some (v41,(⟨frzK [] 0 (r22.2).heap⟩ : St))).bind (Bz [] r22.2)).bind fun r23 =>
(((Ag Tryz.prog R r23.1 [(getL T 1)] (⟨frzK [] 0 (r23.2).heap⟩ : St)).bind fun r40 =>
some (r40.1,r40.2)).bind (Bz [] r23.2)).bind fun r24 =>
(Ah r24.1).bind fun v25 =>
(((Aq false 1 v25 (⟨frzK ((CK (q6.2).heap.length (q20.drop 0)) ++ []) 0 (r24.2).heap⟩ : St)).bind fun v39 =>
some (v39,(⟨frzK ((CK (q6.2).heap.length (q20.drop 0)) ++ []) 0 (r24.2).heap⟩ : St))).bind (Bz ((CK (q6.2).heap.length (q20.drop 0)) ++ []) r24.2)).bind fun r26 =>
(((Aq false 1 (getL T 3) (⟨frzK [] 0 (r26.2).heap⟩ : St)).bind fun v38 =>
some (v38,(⟨frzK [] 0 (r26.2).heap⟩ : St))).bind (Bz [] r26.2)).bind fun r27 =>
(((Ag Tryz.prog R r27.1 [(getL T 0)] (⟨Eb (CK (q6.2).heap.length (q20.drop 0)) 0 (r27.2).heap⟩ : St)).bind fun r37 =>
some (r37.1,r37.2)).bind (appR (CK (q6.2).heap.length (q20.drop 0)) [] r27.2)).bind fun r28 =>
(((Ar 3 [(.bool false),(.string ⟨#[]⟩),(.slice none 0 0)] 1 [(0,r28.1)] (⟨frzK [] 0 (r28.2).heap⟩ : St)).bind fun r36 =>
some (r36.1,r36.2)).bind (Bz [] r28.2)).bind fun r29 =>
(((AD 3 48 r26.1 r29.1 r29.2).bind fun r35 =>
some (r35.1,r35.2)).bind (ownR r29.2)).bind fun r30 =>
(Ah r22.1).bind fun v31 =>
(((A0 1 v31 r30.1 r30.2).bind fun s34 =>
some (undef,s34)).bind (ownR r30.2)).bind fun r32 =>
(abin Tryz.prog .sub 3 (.tmp 18) (.const (.int .i64 1)) (getL T 4) (.int .i64 1)).bind fun v33 =>
some (.normal,[(getL T 0),(getL T 1),(getL T 2),(getL T 3),v33],r32.2))
 (some (.exit 0,[],q6.2))
noncomputable def A1 (R : Aa) (x0 x1 x2 x3 : Value) (s : St) : Option (Value × St) :=
(Ag Tryz.prog R (.func (.func 153) #[] #[]) [x0] s).bind fun r0 =>
(AV (A1.b0 R) [x0,x1,x2,x3,r0.1] r0.2).bind fun r44 =>
exV r44.1 [(0,retV [] r44.2.2)]
 (none)
theorem FX {lib : Lib} (hl : lib 156 = none) {x0 x1 x2 x3 : Value} {s : St} {r : Value × St} (h : A1 (run Tryz.prog lib Ad) x0 x1 x2 x3 s = some r) : run Tryz.prog lib Ad 156 [x0,x1,x2,x3] s = some r :=
  At hl Tryz.func156 (Eq.trans (by kernel_rfl) h)
theorem FY : Ap Tryz.prog 156 = true := by kernel_rfl
noncomputable def wire_list_api_Result_3 (R : Aa) (x0 x1 : Value) (s : St) : Option (Value × St) :=
(Aq false 1 x1 s).bind fun v0 =>
(Ag Tryz.prog R v0 [x0] s).bind fun r1 =>
(Ah r1.1).bind fun v2 =>
(Aq false 1 v2 r1.2).bind fun v3 =>
(AP (.slice 87) v3 r1.2).bind fun v4 =>
(abin Tryz.prog .eql 3 (.tmp 9) (.const (.int .i64 0)) v4 (.int .i64 0)).bind fun v5 =>
retV [v5] r1.2
theorem FZ {lib : Lib} (hl : lib 157 = none) {x0 x1 : Value} {s : St} {r : Value × St} (h : wire_list_api_Result_3 (run Tryz.prog lib Ad) x0 x1 s = some r) : run Tryz.prog lib Ad 157 [x0,x1] s = some r :=
  At hl Tryz.func157 (Eq.trans (by kernel_rfl) h)
theorem F0 : Ap Tryz.prog 157 = true := by kernel_rfl
noncomputable def Bd.b0 (R : Aa) (T : List Value) (s : St) : Res :=
(abin Tryz.prog .lss 3 (.tmp 25) (.tmp 24) (getL T 4) (getL T 3)).bind fun v13 =>
AA v13
 ((AC 2 (getL T 2) (getL T 4)).bind fun v14 =>
(Aq true 2 v14 s).bind fun v15 =>
(AN 2 lptr v15 (.agg #[(.string ⟨#[]⟩),(.int .i64 0)])).bind fun v16 =>
(Aq false 1 (getL T 1) s).bind fun v17 =>
(Ao true 2 lptr v16).bind fun v18 =>
(Ag Tryz.prog R v17 [(getL T 0),v18] s).bind fun r19 =>
(abin Tryz.prog .add 3 (.tmp 25) (.const (.int .i64 1)) (getL T 4) (.int .i64 1)).bind fun v20 =>
some (.normal,[r19.1,(getL T 1),(getL T 2),(getL T 3),v20],r19.2))
 (some (.exit 0,[(getL T 0)],s))
noncomputable def Bd (R : Aa) (x0 x1 x2 x3 : Value) (s : St) : Option (Value × St) :=
(Aq false 1 x2 s).bind fun v0 =>
(Ag Tryz.prog R v0 [x1] s).bind fun r1 =>
(Ah r1.1).bind fun v2 =>
(Aq false 1 v2 r1.2).bind fun v3 =>
(AP (.slice 91) v3 r1.2).bind fun v4 =>
(AK .u64 v4).bind fun v5 =>
(Ag Tryz.prog R (.func (.func 45) #[] #[]) [v5] r1.2).bind fun r6 =>
(AD 1 1 x0 r6.1 r6.2).bind fun r7 =>
(Aq false 1 x2 r7.2).bind fun v8 =>
(Ag Tryz.prog R v8 [x1] r7.2).bind fun r9 =>
(Ah r9.1).bind fun v10 =>
(Aq false 1 v10 r9.2).bind fun v11 =>
(AP (.slice 91) v11 r9.2).bind fun v12 =>
(AV (Bd.b0 R) [r7.1,x3,v11,v12,(.int .i64 0)] r9.2).bind fun r21 =>
exV r21.1 [(0,retV [(getL r21.2.1 0)] r21.2.2)]
 (none)
theorem Gp {lib : Lib} (hl : lib 158 = none) {x0 x1 x2 x3 : Value} {s : St} {r : Value × St} (h : Bd (run Tryz.prog lib Ad) x0 x1 x2 x3 s = some r) : run Tryz.prog lib Ad 158 [x0,x1,x2,x3] s = some r :=
  At hl Tryz.func158 (Eq.trans (by kernel_rfl) h)
theorem Gq : Ap Tryz.prog 158 = true := by kernel_rfl
noncomputable def A6.b0 (R : Aa) (T : List Value) (s : St) : Res :=
(abin Tryz.prog .gtr 3 (.tmp 9) (.const (.int .i64 0)) (getL T 4) (.int .i64 0)).bind fun v1 =>
(Ai v1 true ((Ah (getL T 0)).bind fun v2 =>
(Ac 1 v2).bind fun v3 =>
(Aq false 1 v3 s).bind fun v4 =>
(abin Tryz.prog .eql 32 (.tmp 15) (.const (.int .i64 0)) v4 (.int .i64 0)).bind fun v5 =>
some ([v5],s)) (some ([undef],s))).bind fun q6 =>
(AM v1 (getL q6.1 0) (.bool false)).bind fun v7 =>
AA v7
 (((Aq false 1 (getL T 2) q6.2).bind fun v8 =>
(Ag Tryz.prog R v8 [(getL T 1)] q6.2).bind fun r9 =>
(Aq false 1 (getL T 2) r9.2).bind fun v10 =>
(Ag Tryz.prog R v10 [(getL T 1)] r9.2).bind fun r11 =>
(Ah r11.1).bind fun v12 =>
(Aq false 1 v12 r11.2).bind fun v13 =>
(Aq false 1 (getL T 3) r11.2).bind fun v14 =>
(Ag Tryz.prog R v14 [(getL T 0)] r11.2).bind fun r15 =>
(Ar 2 [(.string ⟨#[]⟩),(.int .i64 0)] 1 [(0,r15.1)] r15.2).bind fun r16 =>
(AD 2 24 v13 r16.1 r16.2).bind fun r17 =>
(Ah r9.1).bind fun v18 =>
(A0 1 v18 r17.1 r17.2).bind fun s19 =>
some [v12]).bind fun q20 =>
(((Aq false 1 (getL T 2) (⟨frzK [] 0 (q6.2).heap⟩ : St)).bind fun v43 =>
some (v43,(⟨frzK [] 0 (q6.2).heap⟩ : St))).bind (Bz [] q6.2)).bind fun r21 =>
(((Ag Tryz.prog R r21.1 [(getL T 1)] (⟨frzK [] 0 (r21.2).heap⟩ : St)).bind fun r42 =>
some (r42.1,r42.2)).bind (Bz [] r21.2)).bind fun r22 =>
(((Aq false 1 (getL T 2) (⟨frzK [] 0 (r22.2).heap⟩ : St)).bind fun v41 =>
some (v41,(⟨frzK [] 0 (r22.2).heap⟩ : St))).bind (Bz [] r22.2)).bind fun r23 =>
(((Ag Tryz.prog R r23.1 [(getL T 1)] (⟨frzK [] 0 (r23.2).heap⟩ : St)).bind fun r40 =>
some (r40.1,r40.2)).bind (Bz [] r23.2)).bind fun r24 =>
(Ah r24.1).bind fun v25 =>
(((Aq false 1 v25 (⟨frzK ((CK (q6.2).heap.length (q20.drop 0)) ++ []) 0 (r24.2).heap⟩ : St)).bind fun v39 =>
some (v39,(⟨frzK ((CK (q6.2).heap.length (q20.drop 0)) ++ []) 0 (r24.2).heap⟩ : St))).bind (Bz ((CK (q6.2).heap.length (q20.drop 0)) ++ []) r24.2)).bind fun r26 =>
(((Aq false 1 (getL T 3) (⟨frzK [] 0 (r26.2).heap⟩ : St)).bind fun v38 =>
some (v38,(⟨frzK [] 0 (r26.2).heap⟩ : St))).bind (Bz [] r26.2)).bind fun r27 =>
(((Ag Tryz.prog R r27.1 [(getL T 0)] (⟨Eb (CK (q6.2).heap.length (q20.drop 0)) 0 (r27.2).heap⟩ : St)).bind fun r37 =>
some (r37.1,r37.2)).bind (appR (CK (q6.2).heap.length (q20.drop 0)) [] r27.2)).bind fun r28 =>
(((Ar 2 [(.string ⟨#[]⟩),(.int .i64 0)] 1 [(0,r28.1)] (⟨frzK [] 0 (r28.2).heap⟩ : St)).bind fun r36 =>
some (r36.1,r36.2)).bind (Bz [] r28.2)).bind fun r29 =>
(((AD 2 24 r26.1 r29.1 r29.2).bind fun r35 =>
some (r35.1,r35.2)).bind (ownR r29.2)).bind fun r30 =>
(Ah r22.1).bind fun v31 =>
(((A0 1 v31 r30.1 r30.2).bind fun s34 =>
some (undef,s34)).bind (ownR r30.2)).bind fun r32 =>
(abin Tryz.prog .sub 3 (.tmp 18) (.const (.int .i64 1)) (getL T 4) (.int .i64 1)).bind fun v33 =>
some (.normal,[(getL T 0),(getL T 1),(getL T 2),(getL T 3),v33],r32.2))
 (some (.exit 0,[],q6.2))
noncomputable def A6 (R : Aa) (x0 x1 x2 x3 : Value) (s : St) : Option (Value × St) :=
(Ag Tryz.prog R (.func (.func 153) #[] #[]) [x0] s).bind fun r0 =>
(AV (A6.b0 R) [x0,x1,x2,x3,r0.1] r0.2).bind fun r44 =>
exV r44.1 [(0,retV [] r44.2.2)]
 (none)
theorem Gr {lib : Lib} (hl : lib 159 = none) {x0 x1 x2 x3 : Value} {s : St} {r : Value × St} (h : A6 (run Tryz.prog lib Ad) x0 x1 x2 x3 s = some r) : run Tryz.prog lib Ad 159 [x0,x1,x2,x3] s = some r :=
  At hl Tryz.func159 (Eq.trans (by kernel_rfl) h)
theorem Gs : Ap Tryz.prog 159 = true := by kernel_rfl
noncomputable def wire_list_api_Owner_3 (R : Aa) (x0 x1 : Value) (s : St) : Option (Value × St) :=
(Aq false 1 x1 s).bind fun v0 =>
(Ag Tryz.prog R v0 [x0] s).bind fun r1 =>
(Ah r1.1).bind fun v2 =>
(Aq false 1 v2 r1.2).bind fun v3 =>
(AP (.slice 91) v3 r1.2).bind fun v4 =>
(abin Tryz.prog .eql 3 (.tmp 9) (.const (.int .i64 0)) v4 (.int .i64 0)).bind fun v5 =>
retV [v5] r1.2
theorem Gt {lib : Lib} (hl : lib 160 = none) {x0 x1 : Value} {s : St} {r : Value × St} (h : wire_list_api_Owner_3 (run Tryz.prog lib Ad) x0 x1 s = some r) : run Tryz.prog lib Ad 160 [x0,x1] s = some r :=
  At hl Tryz.func160 (Eq.trans (by kernel_rfl) h)
theorem Gu : Ap Tryz.prog 160 = true := by kernel_rfl
noncomputable def Lg (R : Aa) (x0 : Value) (s : St) : Option (Value × St) :=
(AP .string x0 s).bind fun v0 =>
(AK .u64 v0).bind fun v1 =>
(Ag Tryz.prog R (.func (.func 103) #[] #[]) [v1] s).bind fun r2 =>
(AD 1 1 r2.1 x0 r2.2).bind fun r3 =>
retV [r3.1] r3.2
theorem RF {lib : Lib} (hl : lib 161 = none) {x0 : Value} {s : St} {r : Value × St} (h : Lg (run Tryz.prog lib Ad) x0 s = some r) : run Tryz.prog lib Ad 161 [x0] s = some r :=
  At hl Tryz.func161 (Eq.trans (by kernel_rfl) h)
theorem RG : Ap Tryz.prog 161 = true := by kernel_rfl
noncomputable def F1 (R : Aa) (x0 x1 : Value) (s : St) : Option (Value × St) :=
(Ag Tryz.prog R (.func (.func 120) #[] #[]) [x0] s).bind fun r0 =>
(Ak 0 r0.1).bind fun v1 =>
(Ak 1 r0.1).bind fun v2 =>
(Ak 2 r0.1).bind fun v3 =>
(abin Tryz.prog .neq 32 (.tmp 16) (.const (.int .i64 0)) v3 (.int .i64 0)).bind fun v4 =>
AA v4
 (retV [(.string ⟨#[]⟩),(.int .i64 0),v3] r0.2)
 ((abin Tryz.prog .lss 3 (.tmp 19) (.const (.int .i64 0)) x1 (.int .i64 0)).bind fun v5 =>
(Ai v5 false ((AK .u64 x1).bind fun v6 =>
(abin Tryz.prog .gtr 22 (.tmp 22) (.tmp 24) v1 v6).bind fun v7 =>
some ([v7],r0.2)) (some ([undef],r0.2))).bind fun q8 =>
(AM v5 (.bool true) (getL q8.1 0)).bind fun v9 =>
AA v9
 (retV [(.string ⟨#[]⟩),(.int .i64 0),(.int .i64 2)] q8.2)
 ((AP (.slice 5) x0 q8.2).bind fun v10 =>
(abin Tryz.prog .sub 3 (.tmp 29) (.tmp 30) v10 v2).bind fun v11 =>
(AK .u64 v11).bind fun v12 =>
(abin Tryz.prog .gtr 22 (.tmp 27) (.tmp 32) v1 v12).bind fun v13 =>
AA v13
 (retV [(.string ⟨#[]⟩),(.int .i64 0),(.int .i64 10)] q8.2)
 ((AK .i64 v1).bind fun v14 =>
(abin Tryz.prog .add 3 (.tmp 36) (.tmp 38) v2 v14).bind fun v15 =>
(Bj 1 x0 (some v2) (some v15) none).bind fun v16 =>
(Cs v16 q8.2).bind fun v17 =>
(AK .i64 v1).bind fun v18 =>
(abin Tryz.prog .add 3 (.tmp 42) (.tmp 44) v2 v18).bind fun v19 =>
retV [v17,v19,(.int .i64 0)] q8.2)))
theorem Lh {lib : Lib} (hl : lib 162 = none) {x0 x1 : Value} {s : St} {r : Value × St} (h : F1 (run Tryz.prog lib Ad) x0 x1 s = some r) : run Tryz.prog lib Ad 162 [x0,x1] s = some r :=
  At hl Tryz.func162 (Eq.trans (by kernel_rfl) h)
theorem Lj : Ap Tryz.prog 162 = true := by kernel_rfl
noncomputable def slices_IndexFunc_api_Result_api_Result.b0 (R : Aa) (T : List Value) (s : St) : Res :=
(abin Tryz.prog .lss 3 (.tmp 8) (.tmp 7) (getL T 3) (getL T 2)).bind fun v1 =>
AA v1
 ((AC 3 (getL T 0) (getL T 3)).bind fun v2 =>
(Aq true 3 v2 s).bind fun v3 =>
(Ag Tryz.prog R (getL T 1) [v3] s).bind fun r4 =>
AA r4.1
 (some (.ret,[(getL T 3)],r4.2))
 ((abin Tryz.prog .add 3 (.tmp 8) (.const (.int .i64 1)) (getL T 3) (.int .i64 1)).bind fun v5 =>
some (.normal,[(getL T 0),(getL T 1),(getL T 2),v5],r4.2)))
 (some (.exit 0,[],s))
noncomputable def slices_IndexFunc_api_Result_api_Result (R : Aa) (x0 x1 : Value) (s : St) : Option (Value × St) :=
(AP (.slice 87) x0 s).bind fun v0 =>
(AV (slices_IndexFunc_api_Result_api_Result.b0 R) [x0,x1,v0,(.int .i64 0)] s).bind fun r6 =>
exV r6.1 [(0,retV [(.int .i64 (-1))] r6.2.2)]
 (retV [(getL r6.2.1 0)] r6.2.2)
theorem CH {lib : Lib} (hl : lib 164 = none) {x0 x1 : Value} {s : St} {r : Value × St} (h : slices_IndexFunc_api_Result_api_Result (run Tryz.prog lib Ad) x0 x1 s = some r) : run Tryz.prog lib Ad 164 [x0,x1] s = some r :=
  At hl Tryz.func164 (Eq.trans (by kernel_rfl) h)
theorem CI : Ap Tryz.prog 164 = true := by kernel_rfl
theorem Cy {R : Aa} {xs : List Value} {s : St} : Ag Tryz.prog R (.func (.func 164) #[] #[]) xs s = R 164 xs s := Aj CI
noncomputable def slices_IndexFunc_api_Pair_api_Pair.b0 (R : Aa) (T : List Value) (s : St) : Res :=
(abin Tryz.prog .lss 3 (.tmp 8) (.tmp 7) (getL T 3) (getL T 2)).bind fun v1 =>
AA v1
 ((AC 2 (getL T 0) (getL T 3)).bind fun v2 =>
(Aq true 2 v2 s).bind fun v3 =>
(Ag Tryz.prog R (getL T 1) [v3] s).bind fun r4 =>
AA r4.1
 (some (.ret,[(getL T 3)],r4.2))
 ((abin Tryz.prog .add 3 (.tmp 8) (.const (.int .i64 1)) (getL T 3) (.int .i64 1)).bind fun v5 =>
some (.normal,[(getL T 0),(getL T 1),(getL T 2),v5],r4.2)))
 (some (.exit 0,[],s))
noncomputable def slices_IndexFunc_api_Pair_api_Pair (R : Aa) (x0 x1 : Value) (s : St) : Option (Value × St) :=
(AP (.slice 89) x0 s).bind fun v0 =>
(AV (slices_IndexFunc_api_Pair_api_Pair.b0 R) [x0,x1,v0,(.int .i64 0)] s).bind fun r6 =>
exV r6.1 [(0,retV [(.int .i64 (-1))] r6.2.2)]
 (retV [(getL r6.2.1 0)] r6.2.2)
theorem Dc {lib : Lib} (hl : lib 165 = none) {x0 x1 : Value} {s : St} {r : Value × St} (h : slices_IndexFunc_api_Pair_api_Pair (run Tryz.prog lib Ad) x0 x1 s = some r) : run Tryz.prog lib Ad 165 [x0,x1] s = some r :=
  At hl Tryz.func165 (Eq.trans (by kernel_rfl) h)
theorem Dd : Ap Tryz.prog 165 = true := by kernel_rfl
theorem C1 {R : Aa} {xs : List Value} {s : St} : Ag Tryz.prog R (.func (.func 165) #[] #[]) xs s = R 165 xs s := Aj Dd
noncomputable def Zb5 (R : Aa) (x0 : Value) (s : St) : Option (Value × St) :=
(lbox x0).bind fun v0 =>
(Ao false 1 (.pointer (some ⟨0,3,none⟩)) v0).bind fun v1 =>
(Ao false 1 (.pointer (some ⟨0,4,none⟩)) v0).bind fun v2 =>
(AU Tryz.prog 24 [(0,v1),(1,v2)]).bind fun v3 =>
(AN 2 lptr v3 (.agg #[(.string ⟨#[]⟩),(.string ⟨#[]⟩)])).bind fun v4 =>
(Ao true 2 lptr v4).bind fun v5 =>
retV [v5] s
theorem ZJ {lib : Lib} (hl : lib 166 = none) {x0 : Value} {s : St} {r : Value × St} (h : Zb5 (run Tryz.prog lib Ad) x0 s = some r) : run Tryz.prog lib Ad 166 [x0] s = some r :=
  At hl Tryz.func166 (Eq.trans (by kernel_rfl) h)
theorem Vi : Ap Tryz.prog 166 = true := by kernel_rfl
theorem Io {R : Aa} {xs : List Value} {s : St} : Ag Tryz.prog R (.func (.func 166) #[] #[]) xs s = R 166 xs s := Aj Vi
noncomputable def Vj (R : Aa) (s : St) : Option (Value × St) :=
(AU Tryz.prog 159 [(0,(.bool true)),(5,(.func (.func 168) #[] #[]))]).bind fun v0 =>
(AU Tryz.prog 159 [(0,(.bool true)),(1,(.bool true)),(4,(.bool true)),(5,(.func (.func 169) #[] #[]))]).bind fun v1 =>
(AU Tryz.prog 159 [(0,(.bool true)),(4,(.bool true)),(5,(.func (.func 170) #[] #[]))]).bind fun v2 =>
(AU Tryz.prog 159 [(2,(.bool true)),(3,(.bool true)),(5,(.func (.func 171) #[] #[]))]).bind fun v3 =>
(AU Tryz.prog 159 [(2,(.bool true)),(4,(.bool true)),(5,(.func (.func 172) #[] #[]))]).bind fun v4 =>
(AU Tryz.prog 169 [(1,v0),(2,v1),(3,v2),(4,v3),(5,v4)]).bind fun v5 =>
(AN 36 lptr v5 (.agg #[(.bool false),(.bool false),(.bool false),(.bool false),(.bool false),.nilFunc,(.bool false),(.bool false),(.bool false),(.bool false),(.bool false),.nilFunc,(.bool false),(.bool false),(.bool false),(.bool false),(.bool false),.nilFunc,(.bool false),(.bool false),(.bool false),(.bool false),(.bool false),.nilFunc,(.bool false),(.bool false),(.bool false),(.bool false),(.bool false),.nilFunc,(.bool false),(.bool false),(.bool false),(.bool false),(.bool false),.nilFunc])).bind fun v6 =>
(Ao true 36 lptr v6).bind fun v7 =>
retV [v7] s
theorem Uk {lib : Lib} (hl : lib 167 = none) {s : St} {r : Value × St} (h : Vj (run Tryz.prog lib Ad)  s = some r) : run Tryz.prog lib Ad 167 [] s = some r :=
  At hl Tryz.func167 (Eq.trans (by kernel_rfl) h)
theorem Ox : Ap Tryz.prog 167 = true := by kernel_rfl
theorem RH {R : Aa} {xs : List Value} {s : St} : Ag Tryz.prog R (.func (.func 167) #[] #[]) xs s = R 167 xs s := Aj Ox
end Go.Proofs.YtmbhnbladmpnoaaGreat.Ab
