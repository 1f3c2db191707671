/- Texts of this proof, packed: FrOpen, FxBurst, FrFacts, FrSeal, WrH, WrGood, WrGood2, WrAll, SameVal, WrZero, WrMap, BLive, WrMap2, WrChk, WrChk2, WrLive, FrRef, WrLib, AppG, StrVal, WrApp, WrApp2, WrApp3, WrEnc, WrEnc2. -/
import Derived.Test.YtmbhnbladmpnoaaGreatPk4
import Derived.Maps.RangeRun
set_option linter.unusedVariables false
set_option linter.unusedSimpArgs false
set_option linter.unusedSectionVars false
/- Datagrams: opening. -/
namespace Go.Proofs.YtmbhnbladmpnoaaGreat.Ab
open Go
theorem WD {v : Value} {s : St} {l : List UInt8} (h : bytesOf v s = some l) (hl : l ≠ []) : ∃ a len cap,v = .slice (some a) len cap := by
  unfold bytesOf cellsOf at h
  split at h
  · cases h; exact absurd rfl hl
  · exact ⟨_,_,_,rfl⟩
  · cases h
theorem Qo {a : Addr} {len cap : Nat} {lo hi mx : Option Value} {u : Value} (h : Bj 1 (.slice (some a) len cap) lo hi mx = some u) : ∃ a' len' cap',u = .slice (some a') len' cap' := by
  unfold Bj DF at h
  simp only at h
  by_cases hc : (mx.isNone || hi.isSome) = true
  case neg => rw [if_neg hc] at h; cases h
  rw [if_pos hc] at h
  simp only [Option.bind_eq_some_iff] at h
  obtain ⟨m,_,h',_,l,_,h⟩ := h
  split at h
  case isFalse => cases h
  obtain ⟨b,o,sp⟩ := a
  cases sp with
  | none => cases h; exact ⟨_,_,_,rfl⟩
  | some _ => cases h
theorem Ym {l : List UInt8} {i : Nat} (h : i < l.length) : l[i] = l.getD i 0 := by simp [h]
theorem Zbp {c : UInt8} : ((((c.toNat : Nat) : Int) != 83)) = decide (c ≠ 83) := by
  by_cases h : c = 83
  · subst h; rfl
  · have : c.toNat ≠ 83 := fun e => h (UInt8.toNat_inj.1 e)
    simp [h]
    omega
theorem Vs {l : List UInt8} (h : l.length = 4) : F2 l = (leN 0 l,0) := by
  unfold F2
  rw [if_neg (by omega),List.take_of_length_le (by omega)]
theorem Zah {R : Aa} (hN : ∀ xs s,R 117 xs s = Ca xs s) (hC : ∀ xs s,R 118 xs s = Qn xs s) (hS : ∀ xs s,R 47 xs s = gSum xs s) (hF : ∀ xs s,R 116 xs s = CF xs s) {v : Value} {s : St} {l : List UInt8} (h : bytesOf v s = some l) (hl : l.length ≤ 140737488355328) :
    if (B2 l).2 = 0 then Im R v s = some (pkE (Af (B2 l).1 s).1,(Af (B2 l).1 s).2) else Im R v s = some (nilE (B2 l).2,s) := by
  unfold B2 Im
  simp only [AY h,Option.bind_some,Et,Pe]
  by_cases c1 : 4103 < l.length
  · have e1 : decide (((l.length : Nat) : Int) > 4103) = true := by simp; omega
    rw [if_pos c1,if_neg (by decide)]
    simp only [e1,CV]
    rfl
  have e1 : decide (((l.length : Nat) : Int) > 4103) = false := by simp; omega
  rw [if_neg c1]
  by_cases c2 : l.length < 6
  · have e2 : decide (((l.length : Nat) : Int) < 6) = true := by simp; omega
    rw [if_pos c2,if_neg (by decide)]
    simp only [e1,e2,CV,Es]
    rfl
  have e2 : decide (((l.length : Nat) : Int) < 6) = false := by simp; omega
  rw [if_neg c2]
  have e3 : IntKind.wrap .i64 (((l.length : Nat) : Int) - 4) = ((l.length - 4 : Nat) : Int) := by rw [wrap_i64 (by omega) (by omega)]; omega
  obtain ⟨a,len,cap,rfl⟩ := WD h (fun e => by rw [e] at c2; simp at c2)
  obtain ⟨hd,g1,g2⟩ := BF h (lo := none) (hi := some (.int .i64 ((l.length - 4 : Nat) : Int))) (mx := some (.int .i64 ((l.length - 4 : Nat) : Int))) (i := 0) (j := l.length - 4) rfl (by simp [Bg]) (by omega) (by omega) (.inr ⟨rfl,fun c => by simp [Bg]⟩)
  obtain ⟨tl,g3,g4⟩ := BF h (lo := some (.int .i64 ((l.length - 4 : Nat) : Int))) (hi := none) (mx := none) (i := l.length - 4) (j := l.length) (by simp [Bg]) rfl (by omega) (by omega) (.inl rfl)
  obtain ⟨a2,len2,cap2,rfl⟩ := Qo g1
  simp only [List.drop_zero,Nat.sub_zero] at g2
  rw [List.take_of_length_le (by simp)] at g4
  have f1 : CF [tl] s = some (tupF (leN 0 (l.drop (l.length - 4))) 0,s) := by
    unfold CF
    rw [ES g4 (by simp; omega),Vs (by simp; omega),Option.map_some]
  have hlen : (l.take (l.length - 4)).length = l.length - 4 := by simp
  have f2 : gSum [.slice (some a2) len2 cap2] s = some (.int .u32 ((sumV (l.take (l.length - 4)) : Nat) : Int),s) := by
    unfold gSum; rw [ES g2 (by omega),Option.map_some]
  have f3 : ∀ n,Ak 0 (tupF n 0) = some (.int .u32 n) ∧ Ak 1 (tupF n 0) = some (.int .i64 0) := fun n => ⟨rfl,rfl⟩
  have z0 : ((0 : Int) != 0) = false := rfl
  simp only [e1,e2,e3,Es,Wf,Option.bind_some,g1,g3,II,hF,f1,(f3 _).1,(f3 _).2,Mg,z0]
  simp only [CW,IV,hS,f2,Option.bind_some,Mg,BT,E5]
  generalize hA : leN 0 (l.drop (l.length - 4)) = A
  generalize hB : sumV (l.take (l.length - 4)) = B
  by_cases c3 : A ≠ B
  · rw [if_pos c3,if_neg (by decide)]
    have e4 : (((A : Nat) : Int) != ((B : Nat) : Int)) = true := by simp; omega
    simp only [e4,CV]
    rfl
  rw [if_neg c3]
  have e4 : (((A : Nat) : Int) != ((B : Nat) : Int)) = false := by simp; omega
  clear f1 f2 hA hB
  generalize hH : l.take (l.length - 4) = H at g2 hlen
  obtain ⟨h1v,g5,g6⟩ := BF g2 (lo := some (.int .i64 1)) (hi := none) (mx := none) (i := 1) (j := H.length) (by simp [Bg]) rfl (by omega) (by omega) (.inl rfl)
  rw [List.take_of_length_le (by simp)] at g6
  have f4 : Ca [h1v] s = some (tup3 (Aw (H.drop 1)).1 (Aw (H.drop 1)).2.1 (Aw (H.drop 1)).2.2,s) := Fh g6
  have hk := Gw (H.drop 1)
  have hlt := Gx (H.drop 1)
  have hk0 : (Aw (H.drop 1)).2.1 ≤ 100000 := by
    by_cases e : (Aw (H.drop 1)).2.2 = 0
    · have := (hk e).2
      simp only [List.length_drop] at this
      omega
    · have : (Aw (H.drop 1)).2.1 = 0 := by
        unfold Aw at e ⊢
        cases e5 : rdN 0 0 (H.drop 1) with
        | none => rfl
        | some r => rw [e5] at e; exact ((ZW e5).2.1 e).2
      omega
  generalize Aw (H.drop 1) = r at f4 hk hlt hk0
  obtain ⟨n,k,e⟩ := r
  simp only at f4 hk hlt hk0 ⊢
  obtain ⟨p,g7,g8⟩ := CL g2 (i := 0) (by omega) (k := .i64)
  have z00 : ((0 : Nat) : Int) = 0 := rfl
  rw [z00] at g7
  rw [Ym (by omega)] at g8
  simp only [e4,Es,g5,Option.bind_some,CN,hN,f4,x3_0,x3_1,x3_2,g7,g8,Mg,Zbp]
  by_cases d1 : H.getD 0 0 ≠ 83
  · have e5 : decide (H.getD 0 0 ≠ 83) = true := decide_eq_true d1
    rw [if_pos (c := H.getD 0 0 ≠ 83 ∨ e ≠ 0 ∨ 4096 < n ∨ l.length - 4 ≠ 1 + k + n) (.inl d1),if_neg (by decide)]
    simp only [e5,EVs,AY g2]
    rfl
  have e5 : decide (H.getD 0 0 ≠ 83) = false := decide_eq_false d1
  by_cases d2 : e ≠ 0
  · have e6 : (e != 0) = true := by simp [d2]
    rw [if_pos (c := H.getD 0 0 ≠ 83 ∨ e ≠ 0 ∨ 4096 < n ∨ l.length - 4 ≠ 1 + k + n) (.inr (.inl d2)),if_neg (by decide)]
    simp only [e5,e6,CW,Ed,HH,E5,Option.bind_some,BT,CV]
    rfl
  have e6 : (e != 0) = false := by simpa using d2
  have e0 : e = 0 := by simpa using d2
  have hk2 := hk e0
  simp only [List.length_drop] at hk2
  by_cases d3 : 4096 < n
  · have e7 : decide (((n : Nat) : Int) > 4096) = true := by simp; omega
    rw [if_pos (c := H.getD 0 0 ≠ 83 ∨ e ≠ 0 ∨ 4096 < n ∨ l.length - 4 ≠ 1 + k + n) (.inr (.inr (.inl d3))),if_neg (by decide)]
    simp only [e5,e6,e7,CW,Ed,HH,E5,Option.bind_some,BT,CV,Et]
    rfl
  have e7 : decide (((n : Nat) : Int) > 4096) = false := by simp; omega
  have e8 : IntKind.wrap .i64 (1 + ((k : Nat) : Int)) = ((1 + k : Nat) : Int) := by rw [wrap_i64 (by omega) (by omega)]; omega
  have e9 : IntKind.wrap .i64 ((n : Nat) : Int) = ((n : Nat) : Int) := wrap_i64 (by omega) (by omega)
  have e10 : IntKind.wrap .i64 (((1 + k : Nat) : Int) + ((n : Nat) : Int)) = ((1 + k + n : Nat) : Int) := by rw [wrap_i64 (by omega) (by omega)]; omega
  by_cases d4 : l.length - 4 ≠ 1 + k + n
  · have e11 : (((H.length : Nat) : Int) != ((1 + k + n : Nat) : Int)) = true := by simp; omega
    rw [if_pos (c := H.getD 0 0 ≠ 83 ∨ e ≠ 0 ∨ 4096 < n ∨ l.length - 4 ≠ 1 + k + n) (.inr (.inr (.inr d4))),if_neg (by decide)]
    simp only [e5,e6,e7,e8,e9,e10,e11,CW,Ed,HH,E5,Option.bind_some,BT,CV,Et,We,LQ,Mg,AY g2]
    rfl
  have e11 : (((H.length : Nat) : Int) != ((1 + k + n : Nat) : Int)) = false := by simp; omega
  rw [if_neg (c := H.getD 0 0 ≠ 83 ∨ e ≠ 0 ∨ 4096 < n ∨ l.length - 4 ≠ 1 + k + n) (by
    rintro (g | g | g | g)
    · exact d1 g
    · exact d2 g
    · exact d3 g
    · exact d4 g),if_pos rfl]
  obtain ⟨bd,g9,g10⟩ := BF g2 (lo := some (.int .i64 ((1 + k : Nat) : Int))) (hi := none) (mx := none) (i := 1 + k) (j := H.length) (by simp [Bg]; omega) rfl (by omega) (by omega) (.inl rfl)
  rw [List.take_of_length_le (by simp)] at g10
  obtain ⟨a3,len3,cap3,rfl⟩ := Qo g9
  have f5 := Yh g10 (by simp; omega)
  simp only [e5,e6,e7,e8,e9,e10,e11,CW,E5,Option.bind_some,BT,Es,Et,We,LQ,Mg,AY g2,g9]
  simp only [Fd,hC,f5,Option.bind_some]
  rfl
theorem Zai {lib : Lib} (hl : lib 34 = none) (hN : lib 117 = some Ca) (hC : lib 118 = some Qn) (hS : lib 47 = some gSum) (hF : lib 116 = some CF) : BM Tryz.prog lib Ad 34 Tc := by
  have key : ∀ (v0 : Value) (s : St) (l : List UInt8),bytesOf v0 s = some l → l.length ≤ 140737488355328 → _ := fun v0 s l h1 hle =>
    Zah (R := run Tryz.prog lib Ad) (fun xs s => Bq hN) (fun xs s => Bq hC) (fun xs s => Bq hS) (fun xs s => Bq hF) (s := frzS s) (v := v0) (l := l) (by rw [Bp]; exact h1) hle
  refine BM.out (.inr rfl) (fun args s v h => ?_) (fun args s l h => ?_)
  · split at h
    · rename_i v0
      simp only [Option.bind_eq_some_iff] at h
      obtain ⟨l,h1,h⟩ := h
      split at h
      case isFalse => cases h
      rename_i hle
      split at h
      case isTrue => cases h
      rename_i h0
      cases h
      have := key v0 s l h1 hle
      rw [if_neg h0] at this
      exact ⟨rfl,_,Kf hl this⟩
    · cases h
  · split at h
    · rename_i v0
      simp only [Option.bind_eq_some_iff] at h
      obtain ⟨l',h1,h⟩ := h
      split at h
      case isFalse => cases h
      rename_i hle
      split at h
      case isFalse => cases h
      rename_i h0
      cases h
      have := key v0 s l' h1 hle
      rw [if_pos h0] at this
      exact ⟨_,_,Kf hl this,by rw [Ch]; omega,AE⟩
    · cases h
end Go.Proofs.YtmbhnbladmpnoaaGreat.Ab

/- The sum's algebra: what turns it. -/
namespace Go.Proofs.YtmbhnbladmpnoaaGreat.Ab
open Go
def leX : List UInt8 → Nat
  | [] => 0
  | c :: l => c.toNat ^^^ 2 ^ 8 * leX l
theorem RV : ∀ (j k r : Nat),stpN (j + k) r = stpN k (stpN j r)
  | 0,k,r => by rw [Nat.zero_add]; rfl
  | j + 1,k,r => by rw [show j + 1 + k = (j + k) + 1 by omega]; exact RV j k (stp r)
theorem Yn : ∀ (l : List UInt8) (r : Nat),sumR r l = stpN (8 * l.length) (r ^^^ leX l)
  | [],r => by simp [sumR,leX,stpN]
  | c :: l,r => by
    rw [sumR,Yn l,leX,List.length_cons,show 8 * (l.length + 1) = 8 + 8 * l.length by omega,RV,← Nat.xor_assoc,Is 8 (r ^^^ c.toNat),Gy]
theorem Zaj {r : Nat} (h : r < 4294967296) (e : stp r = 0) : r = 0 := by
  unfold stp at e
  have h2 := congrArg (· ^^^ (if r % 2 = 1 then 3988292384 else 0)) e
  simp only [Nat.xor_assoc,Nat.xor_self,Nat.xor_zero,Nat.zero_xor] at h2
  split at h2
  · omega
  · omega
theorem Te : ∀ (k : Nat) {r : Nat},r < 4294967296 → stpN k r = 0 → r = 0
  | 0,_,_,e => e
  | k + 1,r,h,e => Zaj h (Te k (S7 h) e)
theorem UA (n a b : Nat) : 2 ^ n * (a ^^^ b) = 2 ^ n * a ^^^ 2 ^ n * b := by
  apply Nat.eq_of_testBit_eq
  intro i
  rw [Nat.testBit_xor,Nat.testBit_two_pow_mul,Nat.testBit_two_pow_mul,Nat.testBit_two_pow_mul,Nat.testBit_xor]
  by_cases h : n ≤ i <;> simp [h]
theorem Yo : ∀ (l : List UInt8) (i : Nat) (x : UInt8) (h : i < l.length),leX (l.set i (l[i] ^^^ x)) = leX l ^^^ 2 ^ (8 * i) * x.toNat
  | [],i,x,h => by simp at h
  | c :: l,0,x,h => by
    simp only [List.set_cons_zero,List.getElem_cons_zero,leX,UInt8.toNat_xor,Nat.mul_zero,Nat.pow_zero,Nat.one_mul]
    rw [Nat.xor_assoc,Nat.xor_assoc,Nat.xor_comm x.toNat]
  | c :: l,i + 1,x,h => by
    simp only [List.length_cons] at h
    simp only [List.set_cons_succ,List.getElem_cons_succ,leX]
    rw [Yo l i x (by omega),UA,← Nat.xor_assoc,show 8 * (i + 1) = 8 + 8 * i by omega,Nat.pow_add,Nat.mul_assoc]
end Go.Proofs.YtmbhnbladmpnoaaGreat.Ab

/- Datagrams: what is plain of sealing and opening. -/
namespace Go.Proofs.YtmbhnbladmpnoaaGreat.Ab
open Go
theorem leN4 (a b c d : UInt8) : leN 0 [a,b,c,d] = a.toNat + 256 * (b.toNat + 256 * (c.toNat + 256 * d.toNat)) := by
  simp only [leN,Nat.zero_add,Nat.mul_zero,Nat.pow_zero,Nat.mul_one,Nat.reduceAdd,Nat.reduceMul,Nat.reducePow,Nat.add_zero]
  omega
theorem Ze8 {l : List UInt8} (h : l.length = 4) : ∃ a b c d,l = [a,b,c,d] := by
  match l,h with
  | [a,b,c,d],_ => exact ⟨a,b,c,d,rfl⟩
theorem Yp {n : Nat} (h : n < 4294967296) : leN 0 (fixB n) = n := by
  unfold fixB
  rw [leN4]
  rw [Bw (by omega),Bw (by omega),Bw (by omega),Bw (by omega)]
  omega
theorem Zak {a b : Nat} (h : a < 256) : a ^^^ 2 ^ 8 * b = a + 256 * b := by
  have h1 := Vp (a + 256 * b)
  have e1 : (a + 256 * b) / 256 = b := by omega
  have e2 : (a + 256 * b) % 256 = a := by omega
  rw [e1,e2] at h1
  rw [h1,Nat.xor_comm]
theorem Iv (c : UInt8) (l : List UInt8) : leX (c :: l) = c.toNat + 256 * leX l := Zak c.toNat_lt
theorem Ze9 {l : List UInt8} (h : l.length = 4) : leX l = leN 0 l := by
  obtain ⟨a,b,c,d,rfl⟩ := Ze8 h
  rw [leN4,Iv,Iv,Iv,Iv]
  rfl
theorem Yq : ∀ (a b : List UInt8),leX (a ++ b) = leX a ^^^ 2 ^ (8 * a.length) * leX b
  | [],b => by simp [leX]
  | c :: a,b => by
    have e : ∀ (c : UInt8) (l : List UInt8),leX (c :: l) = c.toNat ^^^ 2 ^ 8 * leX l := fun _ _ => rfl
    rw [List.cons_append,e,e,Yq a b,UA,← Nat.xor_assoc,List.length_cons,show 8 * (a.length + 1) = 8 + 8 * a.length by omega,Nat.pow_add,Nat.mul_assoc]
theorem Yr : ∀ {a b : List UInt8},a.length = b.length → leX a = leX b → a = b
  | [],[],_,_ => rfl
  | [],_ :: _,h,_ => by simp at h
  | _ :: _,[],h,_ => by simp at h
  | c :: a,d :: b,h,e => by
    rw [Iv,Iv] at e
    have h1 := c.toNat_lt; have h2 := d.toNat_lt
    have e1 : c.toNat = d.toNat := by omega
    rw [UInt8.toNat_inj.1 e1,Yr (a := a) (b := b) (by simpa using h) (by omega)]
theorem UB {n : Nat} (h : n < 16384) : (enc n).length ≤ 2 := by
  have := Z8 (a := n) (b := 16383) (by omega)
  have e : (enc 16383).length = 2 := by decide +kernel
  omega
theorem OS (l : List UInt8) : (Bl l).length = 1 + (enc l.length).length + l.length := by simp [Bl]; omega
theorem H7 (l : List UInt8) : (BJ l).length = (Bl l).length + 4 := by simp [BJ,Iu]
theorem Ys (l : List UInt8) : (BJ l).take ((BJ l).length - 4) = Bl l := by
  rw [H7,Nat.add_sub_cancel]
  unfold BJ
  exact List.take_left
theorem Yt (l : List UInt8) : (BJ l).drop ((BJ l).length - 4) = fixB (sumV (Bl l)) := by
  rw [H7,Nat.add_sub_cancel]
  unfold BJ
  exact List.drop_left
theorem Yu (l rest : List UInt8) (h : l.length ≤ 4096) : Aw ((Bl l ++ rest).drop 1) = (l.length,(enc l.length).length,0) := by
  have : (Bl l ++ rest).drop 1 = enc l.length ++ (l ++ rest) := by simp [Bl]
  rw [this]
  exact JJ (by omega) _
theorem WE (l : List UInt8) (h : l.length ≤ 4096) : Aw ((Bl l).drop 1) = (l.length,(enc l.length).length,0) := by
  have := Yu l [] h
  rwa [List.append_nil] at this
theorem Yv {l : List UInt8} (h : l.length ≤ 4096) : B2 (BJ l) = (l,0) := by
  have h1 := OS l
  have h2 := H7 l
  have h3 := UB (n := l.length) (by omega)
  have h4 := @Uw l.length
  unfold B2
  rw [if_neg (by omega),if_neg (by omega),Ys,Yt,Yp (RU _),if_neg (by simp),WE l h]
  have h5 : (Bl l).getD 0 0 = 83 := rfl
  rw [if_neg (by rw [h5]; simp; omega)]
  simp only [Prod.mk.injEq,and_true]
  unfold Bl
  rw [show 1 + (enc l.length).length = (enc l.length).length + 1 by omega,List.drop_succ_cons,List.drop_left]
theorem Yw {n : Nat} {B T : List UInt8} (hn : B.length = n) (hT : T.length = 4) (h : leN 0 T = sumV B) : stpN (8 * n) (leX (B ++ T)) = stpN (8 * n) 4294967295 ^^^ 4294967295 := by
  have h1 : sumV B = stpN (8 * n) 4294967295 ^^^ stpN (8 * n) (leX B) ^^^ 4294967295 := by
    unfold sumV
    rw [OP,Yn,Is,hn]
  rw [Yq,Is,hn,Gy,Ze9 hT,h,h1]
  generalize stpN (8 * n) 4294967295 = I
  generalize stpN (8 * n) (leX B) = a
  rw [Nat.xor_comm I a,Nat.xor_assoc a I,← Nat.xor_assoc a a,Nat.xor_self,Nat.zero_xor]
theorem Zal {l x : List UInt8} {at_ w : Nat} (hl : l.length ≤ 4096) (hx : x.length = (BJ l).length) (hw : w < 4294967296) (hne : w ≠ 0) (h : leX x = leX (BJ l) ^^^ 2 ^ at_ * w) : B2 x = ([],50) := by
  have h1 := OS l
  have h2 := H7 l
  have h3 := UB (n := l.length) (by omega)
  have h4 := @Uw l.length
  unfold B2
  rw [if_neg (by omega),if_neg (by omega),if_pos]
  intro hc
  have r1 := Yw (n := (Bl l).length) (B := Bl l) (T := fixB (sumV (Bl l))) rfl Iu (Yp (RU _))
  have r2 := Yw (n := (Bl l).length) (B := x.take (x.length - 4)) (T := x.drop (x.length - 4)) (by simp; omega) (by simp; omega) hc
  rw [List.take_append_drop,h,Is] at r2
  have r3 : leX (BJ l) = leX (Bl l ++ fixB (sumV (Bl l))) := rfl
  rw [r3,r1] at r2
  have r4 : stpN (8 * (Bl l).length) (2 ^ at_ * w) = 0 := by
    generalize stpN (8 * (Bl l).length) (2 ^ at_ * w) = D at r2
    generalize stpN (8 * (Bl l).length) 4294967295 ^^^ 4294967295 = I at r2
    have := congrArg (I ^^^ ·) r2
    simp only [← Nat.xor_assoc,Nat.xor_self,Nat.zero_xor] at this
    exact this
  by_cases hat : at_ ≤ 8 * (Bl l).length
  · rw [show 8 * (Bl l).length = at_ + (8 * (Bl l).length - at_) by omega,RV,Gy] at r4
    exact hne (Te _ hw r4)
  · rw [show at_ = 8 * (Bl l).length + (at_ - 8 * (Bl l).length) by omega,Nat.pow_add,Nat.mul_assoc,Gy] at r4
    rcases Nat.mul_eq_zero.1 r4 with r | r
    · have := Nat.two_pow_pos (at_ - 8 * (Bl l).length); omega
    · exact hne r
theorem WF {l x : List UInt8} (hl : l.length ≤ 4096) (hx : x.length = (BJ l).length) (h : leX x = leX (BJ l)) : B2 x = (l,0) := by
  rw [Yr hx h]
  exact Yv hl
end Go.Proofs.YtmbhnbladmpnoaaGreat.Ab

/- Datagrams: what is Bq of the layers below. -/
namespace Go.Proofs.YtmbhnbladmpnoaaGreat.Ab
open Go
def fl1 : List (FuncId × Sum) := [(45,gNum)]
def fl2 : List (FuncId × Sum) := (117,Ca) :: fl1
def fl3 : List (FuncId × Sum) := (130,Vq tabV) :: fl2
def fl4 : List (FuncId × Sum) := (46,H6) :: fl3
def fl5 : List (FuncId × Sum) := (116,CF) :: fl4
def fl6 : List (FuncId × Sum) := (47,gSum) :: fl5
def fl7 : List (FuncId × Sum) := (129,WB) :: fl6
def fl8 : List (FuncId × Sum) := (44,Lp) :: fl7
def fl9 : List (FuncId × Sum) := (118,Qn) :: fl8
def fl10 : List (FuncId × Sum) := (17,Uz) :: fl9
def fl11 : List (FuncId × Sum) := (34,Tc) :: fl10
theorem ZdW : Br Tryz.prog (libL fl1) := Ax progOk (SG _) LS (Zch rfl)
theorem ZdX : Br Tryz.prog (libL fl2) := Ax progOk ZdW G8 (Ur rfl)
theorem ZdY : Br Tryz.prog (libL fl3) := Ax progOk ZdX I1 (Yf WA fun s => ⟨s,PS rfl (Yd s)⟩)
theorem ZdZ : Br Tryz.prog (libL fl4) := Ax progOk ZdY IU (Ta fun _ s h => Po rfl (Yc h s))
theorem Zd0 : Br Tryz.prog (libL fl5) := Ax progOk ZdZ FF (It fun v s l r h _ e => by cases e; exact ⟨rfl,s,Kx rfl (RR h)⟩)
theorem Zd1 : Br Tryz.prog (libL fl6) := Ax progOk Zd0 LT (It fun v s l r h hl e => by cases e; exact ⟨rfl,s,SK rfl (Zck (fun s => (Bq (g := Vq tabV) rfl).trans Ye) h hl)⟩)
theorem Zd2 : Br Tryz.prog (libL fl7) := Ax progOk Zd1 DE (Zab rfl)
theorem Zd3 : Br Tryz.prog (libL fl8) := Ax progOk Zd2 C8 (WC rfl rfl)
theorem Zd4 : Br Tryz.prog (libL fl9) := Ax progOk Zd3 Dm (Yj rfl)
theorem Zcp : Br Tryz.prog (libL fl10) := Ax progOk Zd4 Kd (Zag rfl rfl rfl rfl rfl)
theorem Zcq : Br Tryz.prog (libL fl11) := Ax progOk Zcp Kg (Zai rfl rfl rfl rfl rfl)
abbrev flT := fl11
theorem Zbq : Br Tryz.prog (libL flT) := Zcq
end Go.Proofs.YtmbhnbladmpnoaaGreat.Ab

/- What a caller has to know where a message is looked at; what is Bq of the layers below (stage 1: all but Check itself). -/
namespace Go.Proofs.YtmbhnbladmpnoaaGreat.Ab
open Go
def gOf : Sum := gP (G1O fun o => rv (o.lo,o.hi))
def gCkO : Sum := gP (G1O fun o => .int .i64 (ckO o))
def gWr : Sum := gP (G1O fun o => .bool (wrt o.kind))
noncomputable def gEOr : Sum := gL owC fun l => .int .i64 (eO l)
def Zcr : Sum := gP (G1I fun k => .tuple #[frmV k,.bool (CC k).isSome])
theorem Zfa {o : OpT} {s : St} : gOf [oV o] s = some (rv (o.lo,o.hi),s) := rfl
theorem Yx {o : OpT} {s : St} : gCkO [oV o] s = some (.int .i64 (ckO o),s) := rfl
theorem Zfb {o : OpT} {s : St} : gWr [oV o] s = some (.bool (wrt o.kind),s) := rfl
theorem Zcs {k : Int} {s : St} : Zcr [.int .i64 k] s = some (.tuple #[frmV k,.bool (CC k).isSome],s) := rfl
theorem Yy (k : Int) : FE (.tuple #[frmV k,.bool (CC k).isSome]) = true := by
  unfold frmV
  cases CC k <;> rfl
noncomputable abbrev lib0 : List (FuncId × Sum) := flT
theorem Zct : Br Tryz.prog (libL lib0) := Zbq
noncomputable def lib1 : List (FuncId × Sum) := (133,gKey) :: lib0
theorem Zcu : Br Tryz.prog (libL lib1) := Ax progOk Zct Ha (Zdz fun k s => ⟨rfl,s,MU rfl (ST k s)⟩)
noncomputable def lib2 : List (FuncId × Sum) := (139,gAll) :: lib1
theorem Zcv : Br Tryz.prog (libL lib2) := Ax progOk Zcu Ol (sum0 fun s => ⟨rfl,s,Uj rfl (Zb6 s)⟩)
noncomputable def lib3 : List (FuncId × Sum) := (62,gChk) :: lib2
theorem Zcw : Br Tryz.prog (libL lib3) := Ax progOk Zcv Ko (ZdA fun r s => ⟨rfl,s,Q4 rfl (XM (fun s => (Bq (g := gAll) rfl).trans ZdC) r s)⟩)
noncomputable def lib4 : List (FuncId × Sum) := (167,XS) :: lib3
theorem Zcx : Br Tryz.prog (libL lib4) := Ax progOk Zcw Ox (sum0 fun s => ⟨rfl,s,Uk rfl (XR s)⟩)
noncomputable def lib5 : List (FuncId × Sum) := (141,gFm) :: lib4
theorem Zcy : Br Tryz.prog (libL lib5) := Ax progOk Zcx L3 (ZdF fun k s => ⟨Wo k,s,SR rfl (Wn (fun s => (Bq (g := XS) rfl).trans ZP) k s)⟩)
noncomputable def lib6 : List (FuncId × Sum) := (166,gOf) :: lib5
theorem Zcz : Br Tryz.prog (libL lib6) := Ax progOk Zcy Vi (XQ fun o s => ⟨rfl,s,ZJ rfl (ZdH o s)⟩)
noncomputable def lib7 : List (FuncId × Sum) := (138,gCkO) :: lib6
theorem ZcA : Br Tryz.prog (libL lib7) := Ax progOk Zcz Kz (XQ fun o s => ⟨rfl,s,Rw rfl (Un (fun k s => (Bq (g := gFm) rfl).trans ZdG) (fun o s => (Bq (g := gOf) rfl).trans Zfa) (fun r s => (Bq (g := gChk) rfl).trans XN) (fun k s => (Bq (g := gKey) rfl).trans SV) o s)⟩)
noncomputable def lib8 : List (FuncId × Sum) := (66,gWr) :: lib7
theorem ZcB : Br Tryz.prog (libL lib8) := Ax progOk ZcA LU (XQ fun o s => ⟨rfl,s,SL rfl (Wp (fun k s => (Bq (g := gFm) rfl).trans ZdG) o s)⟩)
noncomputable def lib9 : List (FuncId × Sum) := (131,Up) :: lib8
theorem ZcC : Br Tryz.prog (libL lib9) := Ax progOk ZcB SQ (Qi (fun _ => rfl) fun v s l h hl => ⟨s,XI rfl (ZR (fun o s => (Bq (g := gCkO) rfl).trans Yx) h hl)⟩)
noncomputable def Zd5 : List (FuncId × Sum) := (51,Zcc) :: lib9
theorem Zam : Br Tryz.prog (libL Zd5) := Ax progOk ZcC NZ (Qi (fun _ => rfl) fun v s l h hl => ⟨s,Ud rfl (Zcd (fun xs s => Bq (g := Up) rfl) h hl)⟩)
noncomputable def Zd6 : List (FuncId × Sum) := (60,gEOr) :: Zd5
theorem Zan : Br Tryz.prog (libL Zd6) := Ax progOk Zam IW (Qi (fun _ => rfl) fun v s l h hl => ⟨s,Ps rfl (OA (fun k s => (Bq (g := gKey) rfl).trans SV) h hl)⟩)
noncomputable def Zd7 : List (FuncId × Sum) := (19,Zcr) :: Zd6
theorem Zao : Br Tryz.prog (libL Zd7) := Ax progOk Zan IS (ZdF fun k s => let ⟨t,h⟩ := OM k s; ⟨Yy k,t,Ph rfl h⟩)
noncomputable def Zd8 : List (FuncId × Sum) := (114,gKey) :: Zd7
theorem Zap : Br Tryz.prog (libL Zd8) := Ax progOk Zao Gl (Zdz fun k s => ⟨rfl,s,K9 rfl (Oy k s)⟩)
noncomputable def Zd9 : List (FuncId × Sum) := (32,gChk) :: Zd8
theorem Zaq : Br Tryz.prog (libL Zd9) := Ax progOk Zap IT (ZdA fun r s => ⟨rfl,s,Pn rfl (SU r s)⟩)
noncomputable def Zea : List (FuncId × Sum) := (115,gCkO) :: Zd9
theorem Zar : Br Tryz.prog (libL Zea) := Ax progOk Zaq G7 (XQ fun o s => ⟨rfl,s,MQ rfl (PT (fun r s => (Bq (g := gChk) rfl).trans XN) (fun k s => (Bq (g := gKey) rfl).trans SV) o s)⟩)
noncomputable def Zeb : List (FuncId × Sum) := (33,gWr) :: Zea
theorem Zas : Br Tryz.prog (libL Zeb) := Ax progOk Zar NX (XQ fun o s => ⟨rfl,s,NW rfl (RJ o s)⟩)
noncomputable def Zec : List (FuncId × Sum) := (29,Up) :: Zeb
theorem Zat : Br Tryz.prog (libL Zec) := Ax progOk Zas LR (Qi (fun _ => rfl) fun v s l h hl => ⟨s,SI rfl (Wq (fun o s => (Bq (g := gCkO) rfl).trans Yx) h hl)⟩)
noncomputable def Zed : List (FuncId × Sum) := (27,Zcc) :: Zec
theorem Zau : Br Tryz.prog (libL Zed) := Ax progOk Zat Pj (Qi (fun _ => rfl) fun v s l h hl => ⟨s,Pi rfl (Wr (fun xs s => Bq (g := Up) rfl) h hl)⟩)
noncomputable def Zee : List (FuncId × Sum) := (30,gEOr) :: Zed
theorem Zav : Br Tryz.prog (libL Zee) := Ax progOk Zau Pm (Qi (fun _ => rfl) fun v s l h hl => ⟨s,Pl rfl (OC (fun k s => (Bq (g := gKey) rfl).trans SV) h hl)⟩)
noncomputable def Zef : List (FuncId × Sum) := (103,gNum) :: Zee
theorem Zaw : Br Tryz.prog (libL Zef) := Ax progOk Zav LX (Ww rfl)
noncomputable def Zeg : List (FuncId × Sum) := (120,Ca) :: Zef
theorem Zax : Br Tryz.prog (libL Zeg) := Ax progOk Zaw G9 (PV rfl rfl)
noncomputable def Zeh : List (FuncId × Sum) := (150,Ek) :: Zeg
theorem Zay : Br Tryz.prog (libL Zeh) := Ax progOk Zax Gn (PW rfl rfl)
noncomputable def Zei : List (FuncId × Sum) := (149,S4) :: Zeh
theorem Zaz : Br Tryz.prog (libL Zei) := Ax progOk Zay KB (Wy rfl rfl)
noncomputable def Zej : List (FuncId × Sum) := (161,S4) :: Zei
theorem ZaA : Br Tryz.prog (libL Zej) := Ax progOk Zaz RG (RP rfl rfl)
noncomputable def Zek : List (FuncId × Sum) := (162,Ek) :: Zej
theorem ZaB : Br Tryz.prog (libL Zek) := Ax progOk ZaA Lj (Ln rfl rfl)
noncomputable abbrev libS := Zek
theorem Yz : Br Tryz.prog (libL libS) := ZaB
structure WrH (R : Aa) : Prop where
  key : ∀ k s,R 133 [sv k] s = some (.int .i64 (eK k),s)
  chk : ∀ r s,R 62 [rv r] s = some (.int .i64 (eR r),s)
  ckO : ∀ o s,R 138 [oV o] s = some (.int .i64 (ckO o),s)
  wr : ∀ o s,R 66 [oV o] s = some (.bool (wrt o.kind),s)
  chkE : ∀ {v s l},Bm opC v s = some l → l.length < 140737488355328 → R 51 [v] s = some (.int .i64 (chkE l),s)
  chkW : ∀ {v s l},Bm owC v s = some l → l.length < 140737488355328 → R 60 [v] s = some (.int .i64 (eO l),s)
  form : ∀ k s,R 19 [.int .i64 k] s = some (.tuple #[frmV k,.bool (CC k).isSome],s)
  wire_client : ∀ {x0 : Value} {s : St} {r : Value × St},Ab.wire_client R x0 s = some r → R 48 [x0] s = some r
  wire_coord : ∀ {x0 : Value} {s : St} {r : Value × St},Ab.wire_coord R x0 s = some r → R 49 [x0] s = some r
  wire_shard : ∀ {x0 : Value} {s : St} {r : Value × St},Ab.wire_shard R x0 s = some r → R 54 [x0] s = some r
  wire_whatever : ∀ {x0 : Value} {s : St} {r : Value × St},Ab.wire_whatever R x0 s = some r → R 58 [x0] s = some r
  wire_formOf_1 : ∀ {x0 : Value} {s : St} {r : Value × St},Ab.wire_formOf_1 R x0 s = some r → R 50 [x0] s = some r
  wire_formOf_2 : ∀ {x0 : Value} {s : St} {r : Value × St},Ab.wire_formOf_2 R x0 s = some r → R 52 [x0] s = some r
  wire_formOf_3 : ∀ {x0 : Value} {s : St} {r : Value × St},Ab.wire_formOf_3 R x0 s = some r → R 55 [x0] s = some r
  wire_formOf_4 : ∀ {x0 : Value} {s : St} {r : Value × St},Ab.wire_formOf_4 R x0 s = some r → R 57 [x0] s = some r
  wire_formOf_5 : ∀ {x0 : Value} {s : St} {r : Value × St},Ab.wire_formOf_5 R x0 s = some r → R 59 [x0] s = some r
  wire_formOf_6 : ∀ {x0 : Value} {s : St} {r : Value × St},Ab.wire_formOf_6 R x0 s = some r → R 61 [x0] s = some r
  wire_formOf_7 : ∀ {x0 : Value} {s : St} {r : Value × St},Ab.wire_formOf_7 R x0 s = some r → R 63 [x0] s = some r
  wire_formOf_7_1 : ∀ {x0 : Value} {s : St} {r : Value × St},Ab.wire_formOf_7_1 R x0 s = some r → R 65 [x0] s = some r
  wire_formOf_8 : ∀ {x0 : Value} {s : St} {r : Value × St},Ab.wire_formOf_8 R x0 s = some r → R 67 [x0] s = some r
  wire_results : ∀ {x0 x1 : Value} {s : St} {r : Value × St},Ab.wire_results R x0 x1 s = some r → R 53 [x0,x1] s = some r
  wire_results_1 : ∀ {x0 : Value} {s : St} {r : Value × St},Ab.wire_results_1 R x0 s = some r → R 132 [x0] s = some r
  wire_results_2 : ∀ {x0 x1 : Value} {s : St} {r : Value × St},Ab.wire_results_2 R x0 x1 s = some r → R 135 [x0,x1] s = some r
  wire_ops : ∀ {x0 x1 : Value} {s : St} {r : Value × St},Ab.wire_ops R x0 x1 s = some r → R 56 [x0,x1] s = some r
  wire_ops_1 : ∀ {x0 : Value} {s : St} {r : Value × St},Ab.wire_ops_1 R x0 s = some r → R 137 [x0] s = some r
  slices_ContainsFunc_api_Op_api_Op : ∀ {x0 x1 : Value} {s : St} {r : Value × St},Ab.slices_ContainsFunc_api_Op_api_Op R x0 x1 s = some r → R 64 [x0,x1] s = some r
  slices_IndexFunc_api_Op_api_Op : ∀ {x0 x1 : Value} {s : St} {r : Value × St},Ab.slices_IndexFunc_api_Op_api_Op R x0 x1 s = some r → R 140 [x0,x1] s = some r
  slices_ContainsFunc_api_Result_api_Result : ∀ {x0 x1 : Value} {s : St} {r : Value × St},Ab.slices_ContainsFunc_api_Result_api_Result R x0 x1 s = some r → R 134 [x0,x1] s = some r
  slices_IndexFunc_api_Result_api_Result : ∀ {x0 x1 : Value} {s : St} {r : Value × St},Ab.slices_IndexFunc_api_Result_api_Result R x0 x1 s = some r → R 164 [x0,x1] s = some r
  slices_ContainsFunc_api_Pair_api_Pair : ∀ {x0 x1 : Value} {s : St} {r : Value × St},Ab.slices_ContainsFunc_api_Pair_api_Pair R x0 x1 s = some r → R 136 [x0,x1] s = some r
  slices_IndexFunc_api_Pair_api_Pair : ∀ {x0 x1 : Value} {s : St} {r : Value × St},Ab.slices_IndexFunc_api_Pair_api_Pair R x0 x1 s = some r → R 165 [x0,x1] s = some r
  wire_num : ∀ {x0 : Value} {s : St} {r : Value × St},Ab.wire_num R x0 s = some r → R 68 [x0] s = some r
  wire_small : ∀ {x0 : Value} {s : St} {r : Value × St},Ab.wire_small R x0 s = some r → R 78 [x0] s = some r
  wire_list_api_Op : ∀ {x0 x1 x2 : Value} {s : St} {r : Value × St},Ab.wire_list_api_Op R x0 x1 x2 s = some r → R 91 [x0,x1,x2] s = some r
  wire_list_api_Result : ∀ {x0 x1 x2 : Value} {s : St} {r : Value × St},Ab.wire_list_api_Result R x0 x1 x2 s = some r → R 95 [x0,x1,x2] s = some r
  wire_list_api_Owner : ∀ {x0 x1 x2 : Value} {s : St} {r : Value × St},Ab.wire_list_api_Owner R x0 x1 x2 s = some r → R 99 [x0,x1,x2] s = some r
  wire_all : ∀ {s : St} {r : Value × St},Ab.wire_all R  s = some r → R 20 [] s = some r
  wire_all_1 : ∀ {x0 : Value} {s : St} {r : Value × St},Ab.wire_all_1 R x0 s = some r → R 69 [x0] s = some r
  wire_all_2 : ∀ {x0 : Value} {s : St} {r : Value × St},Ab.wire_all_2 R x0 s = some r → R 70 [x0] s = some r
  wire_all_3 : ∀ {x0 : Value} {s : St} {r : Value × St},Ab.wire_all_3 R x0 s = some r → R 71 [x0] s = some r
  wire_all_4 : ∀ {x0 : Value} {s : St} {r : Value × St},Ab.wire_all_4 R x0 s = some r → R 72 [x0] s = some r
  wire_all_5 : ∀ {x0 : Value} {s : St} {r : Value × St},Ab.wire_all_5 R x0 s = some r → R 73 [x0] s = some r
  wire_all_6 : ∀ {x0 : Value} {s : St} {r : Value × St},Ab.wire_all_6 R x0 s = some r → R 74 [x0] s = some r
  wire_all_7 : ∀ {x0 : Value} {s : St} {r : Value × St},Ab.wire_all_7 R x0 s = some r → R 75 [x0] s = some r
  wire_all_8 : ∀ {x0 : Value} {s : St} {r : Value × St},Ab.wire_all_8 R x0 s = some r → R 76 [x0] s = some r
  wire_all_9 : ∀ {x0 : Value} {s : St} {r : Value × St},Ab.wire_all_9 R x0 s = some r → R 77 [x0] s = some r
  wire_all_10 : ∀ {x0 : Value} {s : St} {r : Value × St},Ab.wire_all_10 R x0 s = some r → R 79 [x0] s = some r
  wire_all_11 : ∀ {x0 : Value} {s : St} {r : Value × St},Ab.wire_all_11 R x0 s = some r → R 80 [x0] s = some r
  wire_all_14 : ∀ {x0 : Value} {s : St} {r : Value × St},Ab.wire_all_14 R x0 s = some r → R 85 [x0] s = some r
  wire_all_17 : ∀ {x0 : Value} {s : St} {r : Value × St},Ab.wire_all_17 R x0 s = some r → R 90 [x0] s = some r
  wire_all_18 : ∀ {x0 : Value} {s : St} {r : Value × St},Ab.wire_all_18 R x0 s = some r → R 92 [x0] s = some r
  wire_all_19 : ∀ {x0 : Value} {s : St} {r : Value × St},Ab.wire_all_19 R x0 s = some r → R 96 [x0] s = some r
  wire_all_20 : ∀ {x0 : Value} {s : St} {r : Value × St},Ab.wire_all_20 R x0 s = some r → R 100 [x0] s = some r
  wire_num_3 : ∀ {x0 x1 : Value} {s : St} {r : Value × St},Ab.wire_num_3 R x0 x1 s = some r → R 145 [x0,x1] s = some r
  wire_small_3 : ∀ {x0 x1 : Value} {s : St} {r : Value × St},Ab.wire_small_3 R x0 x1 s = some r → R 148 [x0,x1] s = some r
  wire_list_api_Op_3 : ∀ {x0 x1 : Value} {s : St} {r : Value × St},Ab.wire_list_api_Op_3 R x0 x1 s = some r → R 154 [x0,x1] s = some r
  wire_list_api_Result_3 : ∀ {x0 x1 : Value} {s : St} {r : Value × St},Ab.wire_list_api_Result_3 R x0 x1 s = some r → R 157 [x0,x1] s = some r
  wire_list_api_Owner_3 : ∀ {x0 x1 : Value} {s : St} {r : Value × St},Ab.wire_list_api_Owner_3 R x0 x1 s = some r → R 160 [x0,x1] s = some r
  slices_Contains_rune_rune : ∀ {x0 x1 : Value} {s : St} {r : Value × St},Ab.slices_Contains_rune_rune R x0 x1 s = some r → R 23 [x0,x1] s = some r
  slices_Index_rune_rune : ∀ {x0 x1 : Value} {s : St} {r : Value × St},Ab.slices_Index_rune_rune R x0 x1 s = some r → R 111 [x0,x1] s = some r
def Tf : List FuncId := [48,49,54,58,50,52,55,57,59,61,63,65,67,53,132,135,56,137,64,140,134,164,136,165,68,78,91,95,99,20,69,70,71,72,73,74,75,76,77,79,80,85,90,92,96,100,145,148,154,157,160,23,111]
theorem Zbr {L : List (FuncId × Sum)} (hn : ∀ f ∈ Tf,libL L f = none) (h1 : libL L 133 = some gKey) (h2 : libL L 62 = some gChk) (h3 : libL L 138 = some gCkO) (h4 : libL L 66 = some gWr) (h5 : libL L 51 = some Zcc) (h6 : libL L 60 = some gEOr) (h7 : libL L 19 = some Zcr) :
    WrH (run Tryz.prog (libL L) Ad) :=
  ⟨fun k s => (Bq h1).trans SV,fun r s => (Bq h2).trans XN,fun o s => (Bq h3).trans Yx,fun o s => (Bq h4).trans Zfb,fun h hl => (Bq h5).trans (Zcb h hl),fun h hl => (Bq h6).trans (Zcb h hl),fun k s => (Bq h7).trans Zcs,
    fun h => Pp (hn _ (by decide)) h,
    fun h => QY (hn _ (by decide)) h,
    fun h => Q2 (hn _ (by decide)) h,
    fun h => Mt (hn _ (by decide)) h,
    fun h => Mk (hn _ (by decide)) h,
    fun h => Mm (hn _ (by decide)) h,
    fun h => Mo (hn _ (by decide)) h,
    fun h => Mq (hn _ (by decide)) h,
    fun h => Mv (hn _ (by decide)) h,
    fun h => My (hn _ (by decide)) h,
    fun h => MA (hn _ (by decide)) h,
    fun h => Kq (hn _ (by decide)) h,
    fun h => MC (hn _ (by decide)) h,
    fun h => N0 (hn _ (by decide)) h,
    fun h => La (hn _ (by decide)) h,
    fun h => Lc (hn _ (by decide)) h,
    fun h => Ue (hn _ (by decide)) h,
    fun h => Ru (hn _ (by decide)) h,
    fun h => Di (hn _ (by decide)) h,
    fun h => DQ (hn _ (by decide)) h,
    fun h => Co (hn _ (by decide)) h,
    fun h => CH (hn _ (by decide)) h,
    fun h => CQ (hn _ (by decide)) h,
    fun h => Dc (hn _ (by decide)) h,
    fun h => Ug (hn _ (by decide)) h,
    fun h => Rr (hn _ (by decide)) h,
    fun h => Jz (hn _ (by decide)) h,
    fun h => GO (hn _ (by decide)) h,
    fun h => He (hn _ (by decide)) h,
    fun h => Ub (hn _ (by decide)) h,
    fun h => Q6 (hn _ (by decide)) h,
    fun h => Q8 (hn _ (by decide)) h,
    fun h => Ra (hn _ (by decide)) h,
    fun h => Rc (hn _ (by decide)) h,
    fun h => Rf (hn _ (by decide)) h,
    fun h => Ri (hn _ (by decide)) h,
    fun h => Rk (hn _ (by decide)) h,
    fun h => Rn (hn _ (by decide)) h,
    fun h => Rp (hn _ (by decide)) h,
    fun h => Pv (hn _ (by decide)) h,
    fun h => Px (hn _ (by decide)) h,
    fun h => PD (hn _ (by decide)) h,
    fun h => PJ (hn _ (by decide)) h,
    fun h => PL (hn _ (by decide)) h,
    fun h => PN (hn _ (by decide)) h,
    fun h => PP (hn _ (by decide)) h,
    fun h => RC (hn _ (by decide)) h,
    fun h => Ot (hn _ (by decide)) h,
    fun h => HY (hn _ (by decide)) h,
    fun h => FZ (hn _ (by decide)) h,
    fun h => Gt (hn _ (by decide)) h,
    fun h => EI (hn _ (by decide)) h,
    fun h => FP (hn _ (by decide)) h⟩
theorem Zbs : ∀ f ∈ Tf,libL libS f = none := by
  intro f hf
  simp only [Tf,List.mem_cons,List.not_mem_nil,or_false] at hf
  rcases hf with rfl | rfl | rfl | rfl | rfl | rfl | rfl | rfl | rfl | rfl | rfl | rfl | rfl | rfl | rfl | rfl | rfl | rfl | rfl | rfl | rfl | rfl | rfl | rfl | rfl | rfl | rfl | rfl | rfl | rfl | rfl | rfl | rfl | rfl | rfl | rfl | rfl | rfl | rfl | rfl | rfl | rfl | rfl | rfl | rfl | rfl | rfl | rfl | rfl | rfl | rfl | rfl | rfl <;> rfl
theorem Zfc : WrH (run Tryz.prog (libL libS) Ad) := Zbr Zbs rfl rfl rfl rfl rfl rfl rfl
end Go.Proofs.YtmbhnbladmpnoaaGreat.Ab

/- Which message may be: nodes,results,operations; what each kind asks. -/
namespace Go.Proofs.YtmbhnbladmpnoaaGreat.Ab
open Go
theorem Ci {R : Aa} {f : FuncId} (h : Ap Tryz.prog f = true) {fs cs xs : List Value} {s : St} : Ag Tryz.prog R (.func (.func f) fs.toArray cs.toArray) xs s = R f (fs ++ xs ++ cs) s := by
  simp [Ag,h]
theorem ZcD {s t : St} {b : Nat} {B : Blk} (h : s.heap[b]? = some B) (hx : Ext s.heap.length s t) : t.heap[b]? = some B := by
  rw [hx.2 b (List.getElem?_eq_some_iff.1 h).1]
  exact h
theorem UC {cs : List Value} (h : cs.all AH = true) : lbox (.agg cs.toArray) = some (.agg cs.toArray) := by
  have hc : An (.agg cs.toArray) = cs := by simp [An]
  unfold lbox
  rw [hc,if_pos h]
theorem Dn (b : Bool) (s : St) : retV [.bool b] s = some (.bool b,s) := ret1 rfl
theorem YA {k : BL} {s : St} : AP .string (sv k) s = some (.int .i64 ((k.length : Nat) : Int)) := rfl
theorem Vt {o : OpT} {t : St} {u : Value} {cs : List Value} (h : (NCod.ofC opC fun _ => True).rel o t cs) (g : MY true u cs) : u = oV o := by
  obtain ⟨rfl,_⟩ := h
  exact g
theorem Zel {r : Rs} {s : St} {cs : List Value} (h : rsN.rel r s cs) : ∃ l,cs = [.bool r.1,sv r.2.1,l] ∧ Cm (.ofC prC fun _ => True) 32 r.2.2 s l ∧ r.2.1.length ≤ reachBytes := by
  obtain ⟨_,_,rfl,⟨rfl,_⟩,_,_,rfl,⟨rfl,w1⟩,_,_,rfl,⟨l,rfl,hl⟩,rfl⟩ := h
  exact ⟨l,rfl,hl,w1⟩
theorem Dx {α : Type} {C : NCod α} {B : Nat} (hB : 2 ≤ B) {l : List α} {s : St} {v : Value} (h : Cm C B l s v) : l.length < 140737488355328 := by
  have h1 : l.length * B ≤ 140737488351232 := h.1
  have := Nat.mul_le_mul_left l.length hB
  omega
def Lq (f : Nat) (n : Int) : Bool := if f = 48 then decide (n > 10) && decide (n ≤ 14) else if f = 49 then n == 0 else decide (n ≥ 1) && decide (n ≤ 4)
def Ma : List Nat := [48,49,54]
variable {R : Aa} (H : WrH R)
include H
theorem OT (n : Int) (s : St) : R 54 [.int .i64 n] s = some (.bool (decide (n ≥ 1) && decide (n ≤ 4)),s) := by
  refine H.wire_shard ?_
  unfold wire_shard
  rcases Bool.eq_false_or_eq_true (decide (n ≥ 1)) with c | c <;> simp only [EVs,c,Bool.true_and,Bool.false_and,Dn]
theorem Vu {f : Nat} (hf : f ∈ Ma) (n : Int) (s : St) : Ag Tryz.prog R (fnV f) [.int .i64 n] s = some (.bool (Lq f n),s) := by
  simp only [Ma,List.mem_cons,List.not_mem_nil,or_false] at hf
  rcases hf with rfl | rfl | rfl
  · rw [Mj]
    refine H.wire_client ?_
    have e : Lq 48 n = (decide (n > 10) && decide (n ≤ 14)) := rfl
    rw [e]
    unfold wire_client
    rcases Bool.eq_false_or_eq_true (decide (n > 10)) with c | c <;> simp only [EVs,c,Bool.true_and,Bool.false_and,Dn]
  · rw [NY]
    refine H.wire_coord ?_
    have e : Lq 49 n = (n == 0) := rfl
    rw [e]
    unfold wire_coord
    simp only [EVs,Dn]
  · rw [E9]
    exact OT H n s
omit H
def YB (p : Rg) : Bool := (eK p.1 != 0) || decide ((p.2.length : Int) > 16)
def YC (r : Rs) : Bool := (decide ((r.2.1.length : Int) > 16) || decide ((r.2.2.length : Int) > 4)) || r.2.2.any YB
def PY (l : List Rs) (most : Int) : Bool := decide ((l.length : Int) ≤ most) && !(l.any YC)
def OU (l : List OpT) (most : Int) : Bool := decide ((l.length : Int) ≤ most) && !(l.any fun o => ckO o != 0)
include H
theorem WG {s0 : St} {l : List Rg} : Asks R (.ofC prC fun _ => True) true s0 l (fnV 132) YB := by
  intro p _ t u cs _ hr hs
  obtain ⟨rfl,_⟩ := hr
  have hs : u = rv p := hs
  subst hs
  refine ⟨t,?_,.refl _ _⟩
  rw [JF]
  refine H.wire_results_1 ?_
  have hb : lbox (rv p) = some (rv p) := rfl
  have l0 : Ao false 1 lptr (rv p) = some (sv p.1) := rfl
  have l1 : Ao false 1 (.pointer (some ⟨0,1,none⟩)) (rv p) = some (sv p.2) := rfl
  unfold wire_results_1 YB
  simp only [hb,l0,l1,B8,H.key,YA,EVs]
  exact ret1 rfl
theorem UD {s : St} {v fv : Value} {l : List Rg} {p : Rg → Bool} (h : Cm (.ofC prC fun _ => True) 32 l s v) (hp : Asks R (.ofC prC fun _ => True) true s l fv p) : ∃ t,R 136 [v,fv] s = some (.bool (l.any p),t) ∧ Ext s.heap.length s t := by
  obtain ⟨k,t,h1,h2,h3⟩ := H4 (t1 := 89) (n := 2) rfl (.inl rfl) h (Dx (by decide) h) hp
  refine ⟨t,H.slices_ContainsFunc_api_Pair_api_Pair ?_,h3⟩
  have h4 := H.slices_IndexFunc_api_Pair_api_Pair h1
  unfold slices_ContainsFunc_api_Pair_api_Pair
  simp only [C1,h4,h2,EVs]
  exact ret1 rfl
theorem UE {s : St} {v fv : Value} {l : List Rs} {p : Rs → Bool} (h : Cm rsN 48 l s v) (hp : Asks R rsN true s l fv p) : ∃ t,R 134 [v,fv] s = some (.bool (l.any p),t) ∧ Ext s.heap.length s t := by
  obtain ⟨k,t,h1,h2,h3⟩ := H4 (t1 := 87) (n := 3) rfl (.inl rfl) h (Dx (by decide) h) hp
  refine ⟨t,H.slices_ContainsFunc_api_Result_api_Result ?_,h3⟩
  have h4 := H.slices_IndexFunc_api_Result_api_Result h1
  unfold slices_ContainsFunc_api_Result_api_Result
  simp only [Cy,h4,h2,EVs]
  exact ret1 rfl
theorem OV {s : St} {v fv : Value} {l : List OpT} {p : OpT → Bool} (h : Cm (.ofC opC fun _ => True) 80 l s v) (hp : Asks R (.ofC opC fun _ => True) true s l fv p) : ∃ t,R 64 [v,fv] s = some (.bool (l.any p),t) ∧ Ext s.heap.length s t := by
  obtain ⟨k,t,h1,h2,h3⟩ := H4 (t1 := 69) (n := 6) rfl (.inl rfl) h (Dx (by decide) h) hp
  refine ⟨t,H.slices_ContainsFunc_api_Op_api_Op ?_,h3⟩
  have h4 := H.slices_IndexFunc_api_Op_api_Op h1
  unfold slices_ContainsFunc_api_Op_api_Op
  simp only [Dv,h4,h2,EVs]
  exact ret1 rfl
theorem WH {s0 : St} {A : Nat} (hA : s0.heap[A]? = some (.row 0 [fnV 132] .act)) {l : List Rs} : Asks R rsN true s0 l (.func (.func 135) #[] #[.pointer (some ⟨A,0,none⟩)]) YC := by
  intro r _ t u cs hx hr hs
  have hs : u = .agg cs.toArray := hs
  subst hs
  obtain ⟨o,rfl,ho,_⟩ := Zel hr
  have hb := UC (cs := [.bool r.1,sv r.2.1,o]) (by simp only [List.all_cons,D5 ho,List.all_nil]; rfl)
  have l1 : Ao false 1 (.pointer (some ⟨0,1,none⟩)) (.agg [.bool r.1,sv r.2.1,o].toArray) = some (sv r.2.1) := rfl
  have l2 : Ao false 1 (.pointer (some ⟨0,2,none⟩)) (.agg [.bool r.1,sv r.2.1,o].toArray) = some o := rfl
  have fA : Aq false 1 (.pointer (some ⟨A,0,none⟩)) t = some (fnV 132) := RM (ZcD hA hx) (by simp) rfl
  obtain ⟨t2,g1,g2⟩ := UD H ho (WG H (s0 := t) (l := r.2.2))
  have hcall : Ag Tryz.prog R (.func (.func 135) #[] #[.pointer (some ⟨A,0,none⟩)]) [.agg [.bool r.1,sv r.2.1,o].toArray] t = R 135 [.agg [.bool r.1,sv r.2.1,o].toArray,.pointer (some ⟨A,0,none⟩)] t := Ci (fs := []) (cs := [.pointer (some ⟨A,0,none⟩)]) Ld
  rw [hcall]
  have len := Bx ho
  unfold YC
  rcases Bool.eq_false_or_eq_true (decide ((r.2.1.length : Int) > 16) || decide ((r.2.2.length : Int) > 4)) with c | c
  · refine ⟨t,H.wire_results_2 ?_,.refl _ _⟩
    unfold wire_results_2
    simp only [hb,l1,l2,YA,len,EVs,c,Dn,Bool.true_or]
  · refine ⟨t2,H.wire_results_2 ?_,g2⟩
    unfold wire_results_2
    simp only [hb,l1,l2,YA,len,EVs,c,fA,CA,g1,Dn,Bool.false_or]
theorem OW {s : St} {v : Value} {l : List Rs} (h : Cm rsN 48 l s v) (most : Int) : ∃ t,R 53 [v,.int .i64 most] s = some (.bool (PY l most),t) ∧ Ext s.heap.length s t := by
  have hnw : anew [.nilFunc] s = some (.pointer (some ⟨s.heap.length,0,none⟩),s.push (.row 0 [.nilFunc] .act)) := rfl
  have hst : A0 1 (.pointer (some ⟨s.heap.length,0,none⟩)) (fnV 132) (s.push (.row 0 [.nilFunc] .act)) = some (s.push (.row 0 [fnV 132] .act)) := by
    have h1 := De (s := s.push (.row 0 [.nilFunc] .act)) (B := s.heap.length) (v := fnV 132) AE (i := 0) (by simp) rfl rfl
    rw [h1]
    simp [St.push,St.putB]
  have hx : Ext s.heap.length s (s.push (.row 0 [fnV 132] .act)) := .push _ (Nat.le_refl _) _
  have hmk : BD 135 [] [.pointer (some ⟨s.heap.length,0,none⟩)] = some (.func (.func 135) #[] #[.pointer (some ⟨s.heap.length,0,none⟩)]) := rfl
  have len := Bx h
  obtain ⟨t,g1,g2⟩ := UE H (h.ext hx) (WH H (s0 := s.push (.row 0 [fnV 132] .act)) (A := s.heap.length) AE)
  unfold PY
  rcases Bool.eq_false_or_eq_true (decide ((l.length : Int) ≤ most)) with c | c
  · refine ⟨t,H.wire_results ?_,hx.trans (g2.less hx.1)⟩
    unfold wire_results
    simp only [hnw,hst,len,hmk,Cg,g1,EVs,c,Bool.true_and,Dn]
  · refine ⟨_,H.wire_results ?_,hx⟩
    unfold wire_results
    simp only [hnw,hst,len,hmk,EVs,c,Bool.false_and,Dn]
theorem ZaC {s0 : St} {l : List OpT} : Asks R (.ofC opC fun _ => True) true s0 l (fnV 137) fun o => ckO o != 0 := by
  intro o _ t u cs _ hr hs
  obtain rfl := Vt hr hs
  refine ⟨t,?_,.refl _ _⟩
  rw [Ok]
  refine H.wire_ops_1 ?_
  have hb : lbox (oV o) = some (oV o) := rfl
  have hl : Ao true 6 lptr (oV o) = some (oV o) := rfl
  unfold wire_ops_1
  simp only [hb,hl,HT,H.ckO,EVs]
  exact ret1 rfl
theorem ZcE {s0 : St} {l : List OpT} : Asks R (.ofC opC fun _ => True) true s0 l (fnV 65) fun o => !wrt o.kind := by
  intro o _ t u cs _ hr hs
  obtain rfl := Vt hr hs
  refine ⟨t,?_,.refl _ _⟩
  rw [IB]
  refine H.wire_formOf_7_1 ?_
  have hb : lbox (oV o) = some (oV o) := rfl
  have hl : Ao true 6 lptr (oV o) = some (oV o) := rfl
  unfold wire_formOf_7_1
  simp only [hb,hl,Pu,H.wr,EVs]
  exact ret1 rfl
theorem YD {s : St} {v : Value} {l : List OpT} (h : Cm (.ofC opC fun _ => True) 80 l s v) (most : Int) : ∃ t,R 56 [v,.int .i64 most] s = some (.bool (OU l most),t) ∧ Ext s.heap.length s t := by
  have len := Bx h
  obtain ⟨t,g1,g2⟩ := OV H h (ZaC H)
  unfold OU
  rcases Bool.eq_false_or_eq_true (decide ((l.length : Int) ≤ most)) with c | c
  · refine ⟨t,H.wire_ops ?_,g2⟩
    unfold wire_ops
    simp only [len,BQ,g1,EVs,c,Bool.true_and,Dn]
  · refine ⟨s,H.wire_ops ?_,.refl _ _⟩
    unfold wire_ops
    simp only [len,EVs,c,Bool.false_and,Dn]
end Go.Proofs.YtmbhnbladmpnoaaGreat.Ab

/- Which message may be: what each kind asks of its fields. -/
namespace Go.Proofs.YtmbhnbladmpnoaaGreat.Ab
open Go
def Vv : List Nat := [50,52,55,57,59,61,63,67,58]
def Tg (n : Int) : Bool := decide (n ≥ 1) && decide (n ≤ 4)
def KG (f : Nat) (m : Ms) : Bool :=
  if f = 50 then chkE m.ops == 0
  else if f = 52 then (m.code == 1 || m.code == 2) && PY m.res 4
  else if f = 55 then decide ((m.ops.length : Int) > 0) && OU m.ops 24
  else if f = 57 then (decide (m.code ≥ 3) && decide (m.code ≤ 5)) && PY m.res 24
  else if f = 59 then eO m.own == 0
  else if f = 61 then Tg m.peer && eR m.rg == 0
  else if f = 63 then ((m.src != m.dst && OU m.ops 6) && eR m.rg == 0) && !(m.ops.any fun o => !wrt o.kind)
  else if f = 67 then m.src != m.dst
  else true
structure MsV (m : Ms) (s : St) (vo vr vw : Value) : Prop where
  wf : MsWf m
  o : Cm (.ofC opC fun _ => True) 80 m.ops s vo
  r : Cm rsN 48 m.res s vr
  w : Cm (.ofC owC fun _ => True) 24 m.own s vw
theorem MsV.ext {m : Ms} {s t : St} {vo vr vw : Value} (h : MsV m s vo vr vw) (hx : Ext s.heap.length s t) : MsV m t vo vr vw := ⟨h.wf,h.o.ext hx,h.r.ext hx,h.w.ext hx⟩
theorem MsV.leaf {m : Ms} {s : St} {vo vr vw : Value} (h : MsV m s vo vr vw) : (msC m vo vr vw).all AH = true := by
  have h1 := D5 h.o
  have h2 := D5 h.r
  have h3 := D5 h.w
  simp only [msC,List.all_cons,h1,h2,h3,List.all_nil]
  rfl
abbrev mV (m : Ms) (vo vr vw : Value) : Value := .agg (msC m vo vr vw).toArray
section
variable (m : Ms) (vo vr vw : Value)
theorem YE : Ao false 1 (.pointer (some ⟨0,1,none⟩)) (mV m vo vr vw) = some (.int .i64 m.src) := rfl
theorem YF : Ao false 1 (.pointer (some ⟨0,2,none⟩)) (mV m vo vr vw) = some (.int .i64 m.dst) := rfl
theorem Vx : Ao false 1 (.pointer (some ⟨0,4,none⟩)) (mV m vo vr vw) = some (.int .i64 m.code) := rfl
theorem Zbt : Ao false 1 (.pointer (some ⟨0,5,none⟩)) (mV m vo vr vw) = some (.int .i64 m.peer) := rfl
theorem l_rg : Ao true 2 (.pointer (some ⟨0,16,none⟩)) (mV m vo vr vw) = some (rv m.rg) := rfl
theorem UF : Ao false 1 (.pointer (some ⟨0,18,none⟩)) (mV m vo vr vw) = some vo := rfl
theorem ZaD : Ao false 1 (.pointer (some ⟨0,19,none⟩)) (mV m vo vr vw) = some vr := rfl
theorem Zfd : Ao false 1 (.pointer (some ⟨0,20,none⟩)) (mV m vo vr vw) = some vw := rfl
end
variable {R : Aa} (H : WrH R)
include H
theorem ZaE {f : Nat} (hf : f ∈ Vv) {m : Ms} {s : St} {vo vr vw : Value} (h : MsV m s vo vr vw) : ∃ t,Ag Tryz.prog R (fnV f) [mV m vo vr vw] s = some (.bool (KG f m),t) ∧ Ext s.heap.length s t := by
  have hb := UC h.leaf
  have ho := (h.o.plain).1
  have hw := (h.w.plain).1
  have so := Dx (by decide) h.o
  have sw := Dx (by decide) h.w
  have len := Bx h.o
  simp only [Vv,List.mem_cons,List.not_mem_nil,or_false] at hf
  rcases hf with rfl | rfl | rfl | rfl | rfl | rfl | rfl | rfl | rfl
  · rw [Kh,show KG 50 m = (chkE m.ops == 0) from rfl]
    refine ⟨s,H.wire_formOf_1 ?_,.refl _ _⟩
    unfold wire_formOf_1
    simp only [hb,UF,Q1,H.chkE ho so,EVs,Dn]
  · rw [Ki,show KG 52 m = ((m.code == 1 || m.code == 2) && PY m.res 4) from rfl]
    obtain ⟨t,g1,g2⟩ := OW H h.r 4
    rcases Bool.eq_false_or_eq_true (m.code == 1 || m.code == 2) with c | c
    · refine ⟨t,H.wire_formOf_2 ?_,g2⟩
      unfold wire_formOf_2
      simp only [hb,Vx,ZaD,Gi,g1,EVs,c,Bool.true_and,Dn]
    · refine ⟨s,H.wire_formOf_2 ?_,.refl _ _⟩
      unfold wire_formOf_2
      simp only [hb,Vx,ZaD,EVs,c,Bool.false_and,Dn]
  · rw [Kj,show KG 55 m = (decide ((m.ops.length : Int) > 0) && OU m.ops 24) from rfl]
    obtain ⟨t,g1,g2⟩ := YD H h.o 24
    rcases Bool.eq_false_or_eq_true (decide ((m.ops.length : Int) > 0)) with c | c
    · refine ⟨t,H.wire_formOf_3 ?_,g2⟩
      unfold wire_formOf_3
      simp only [hb,UF,len,EK,g1,EVs,c,Bool.true_and,Dn]
    · refine ⟨s,H.wire_formOf_3 ?_,.refl _ _⟩
      unfold wire_formOf_3
      simp only [hb,UF,len,EVs,c,Bool.false_and,Dn]
  · rw [Kk,show KG 57 m = ((decide (m.code ≥ 3) && decide (m.code ≤ 5)) && PY m.res 24) from rfl]
    obtain ⟨t,g1,g2⟩ := OW H h.r 24
    rcases Bool.eq_false_or_eq_true (decide (m.code ≥ 3) && decide (m.code ≤ 5)) with c | c
    · refine ⟨t,H.wire_formOf_4 ?_,g2⟩
      unfold wire_formOf_4
      simp only [hb,Vx,ZaD,Gi,g1,EVs,c,Bool.true_and,Dn]
    · refine ⟨s,H.wire_formOf_4 ?_,.refl _ _⟩
      unfold wire_formOf_4
      simp only [hb,Vx,ZaD,EVs,c,Bool.false_and,Dn]
  · rw [Km,show KG 59 m = (eO m.own == 0) from rfl]
    refine ⟨s,H.wire_formOf_5 ?_,.refl _ _⟩
    unfold wire_formOf_5
    simp only [hb,Zfd,Mx,H.chkW hw sw,EVs,Dn]
  · rw [Kn,show KG 61 m = (Tg m.peer && eR m.rg == 0) from rfl]
    refine ⟨s,H.wire_formOf_6 ?_,.refl _ _⟩
    unfold wire_formOf_6 Tg
    rcases Bool.eq_false_or_eq_true (decide (m.peer ≥ 1) && decide (m.peer ≤ 4)) with c | c
    · simp only [hb,Zbt,l_rg,E9,OT H,C0,H.chk,c,EVs,Bool.true_and,Dn]
    · simp only [hb,Zbt,l_rg,E9,OT H,c,EVs,Bool.false_and,Dn]
  · rw [Kp,show KG 63 m = (((m.src != m.dst && OU m.ops 6) && eR m.rg == 0) && !(m.ops.any fun o => !wrt o.kind)) from rfl]
    obtain ⟨t,g1,g2⟩ := YD H h.o 6
    obtain ⟨t2,k1,k2⟩ := OV H (h.o.ext g2) (ZcE H)
    rcases Bool.eq_false_or_eq_true (m.src != m.dst) with c | c
    · rcases Bool.eq_false_or_eq_true (OU m.ops 6) with c2 | c2
      · rcases Bool.eq_false_or_eq_true (eR m.rg == 0) with c3 | c3
        · refine ⟨t2,H.wire_formOf_7 ?_,g2.trans (k2.less g2.1)⟩
          unfold wire_formOf_7
          simp only [hb,YE,YF,UF,l_rg,EK,g1,C0,H.chk,BQ,k1,EVs,c,c2,c3,Bool.true_and,Bool.and_self,Dn]
        · refine ⟨t,H.wire_formOf_7 ?_,g2⟩
          unfold wire_formOf_7
          simp only [hb,YE,YF,UF,l_rg,EK,g1,C0,H.chk,EVs,c,c2,c3,Bool.true_and,Bool.and_false,Bool.false_and,Dn]
      · refine ⟨t,H.wire_formOf_7 ?_,g2⟩
        unfold wire_formOf_7
        simp only [hb,YE,YF,UF,l_rg,EK,g1,EVs,c,c2,Bool.and_false,Bool.false_and,Dn]
    · refine ⟨s,H.wire_formOf_7 ?_,.refl _ _⟩
      unfold wire_formOf_7
      simp only [hb,YE,YF,UF,l_rg,EVs,c,Bool.false_and,Dn]
  · rw [Ks,show KG 67 m = (m.src != m.dst) from rfl]
    refine ⟨s,H.wire_formOf_8 ?_,.refl _ _⟩
    unfold wire_formOf_8
    simp only [hb,YE,YF,EVs,Dn]
  · rw [Kl,show KG 58 m = true from rfl]
    refine ⟨s,H.wire_whatever ?_,.refl _ _⟩
    unfold wire_whatever
    simp only [hb,EVs,Dn]
end Go.Proofs.YtmbhnbladmpnoaaGreat.Ab

/- All fields of messages,by their letters: the map. -/
namespace Go.Proofs.YtmbhnbladmpnoaaGreat.Ab
open Go
set_option maxRecDepth 10000
def numV (p : Value) : Value := .agg #[.func (.func 142) #[] #[p],.func (.func 143) #[] #[p],.func (.func 145) #[] #[p]]
def smlV (p : Value) : Value := .agg #[.func (.func 146) #[] #[p],.func (.func 147) #[] #[p],.func (.func 148) #[] #[p]]
def lstV (a b c : Nat) (p q r : Value) : Value := .agg #[.func (.func a) #[] #[p,q],.func (.func b) #[] #[p,r],.func (.func c) #[] #[p]]
def flgV : Value := .agg #[fnV 81,fnV 83,fnV 85]
def rngV : Value := .agg #[fnV 86,fnV 88,fnV 90]
abbrev ptA (N i : Nat) : Value := .pointer (some ⟨N + 1 + i,0,none⟩)
def rowF (f : Nat) : Blk := .row 0 [fnV f] .act
def Al : List Blk := [rowF 69,rowF 70,rowF 71,rowF 72,rowF 73,rowF 74,rowF 75,rowF 76,rowF 77,rowF 79,rowF 80,rowF 92,rowF 93,rowF 94,rowF 96,rowF 97,rowF 98,rowF 100,rowF 101,rowF 102]
def AI (N : Nat) : List (Value × Value × Nat) := [(.int .i32 113,numV (ptA N 0),0),
  (.int .i32 98,numV (ptA N 1),1),
  (.int .i32 116,numV (ptA N 2),2),
  (.int .i32 108,numV (ptA N 3),3),
  (.int .i32 118,numV (ptA N 4),4),
  (.int .i32 101,numV (ptA N 5),5),
  (.int .i32 109,numV (ptA N 6),6),
  (.int .i32 97,numV (ptA N 7),7),
  (.int .i32 110,numV (ptA N 8),8),
  (.int .i32 99,smlV (ptA N 9),9),
  (.int .i32 112,smlV (ptA N 10),10),
  (.int .i32 102,flgV,11),
  (.int .i32 114,rngV,12),
  (.int .i32 111,lstV 151 152 154 (ptA N 11) (ptA N 12) (ptA N 13),13),
  (.int .i32 115,lstV 155 156 157 (ptA N 14) (ptA N 15) (ptA N 16),14),
  (.int .i32 119,lstV 158 159 160 (ptA N 17) (ptA N 18) (ptA N 19),15)]
theorem Fj {H : List Blk} {m : Blk} {K : List Blk} {v : Value} (h1 : AH v = true) (h2 : An v = [v]) : anew (An v) ⟨H ++ (m :: K)⟩ = some (ptA H.length K.length,⟨H ++ (m :: (K ++ [.row 0 [v] .act]))⟩) := by
  rw [h2]
  unfold anew
  rw [if_pos (by simp [h1])]
  have e : H.length + (K.length + 1) = H.length + 1 + K.length := by omega
  simp [St.push,e]
section
variable {R : Aa} {H : List Blk} {m : Blk} {K : List Blk}
theorem GW (f : Nat) : wire_num R (fnV f) ⟨H ++ (m :: K)⟩ = some (numV (ptA H.length K.length),⟨H ++ (m :: (K ++ [rowF f]))⟩) := by
  have h1 := Fj (H := H) (m := m) (K := K) (v := fnV f) rfl rfl
  have h2 : AU Tryz.prog 58 [(0,.func (.func 142) #[] #[ptA H.length K.length]),(1,.func (.func 143) #[] #[ptA H.length K.length]),(2,.func (.func 145) #[] #[ptA H.length K.length])] = some (numV (ptA H.length K.length)) := by kernel_rfl
  have h3 : ∀ g,BD g [] [ptA H.length K.length] = some (.func (.func g) #[] #[ptA H.length K.length]) := fun g => rfl
  have h4 : AN 3 lptr (numV (ptA H.length K.length)) (.agg #[.nilFunc,.nilFunc,.nilFunc]) = some (numV (ptA H.length K.length)) := rfl
  have h5 : Ao true 3 lptr (numV (ptA H.length K.length)) = some (numV (ptA H.length K.length)) := rfl
  unfold wire_num
  simp only [h1,h2,h3,h4,h5,EVs]
  rfl
theorem Th (f : Nat) : wire_small R (fnV f) ⟨H ++ (m :: K)⟩ = some (smlV (ptA H.length K.length),⟨H ++ (m :: (K ++ [rowF f]))⟩) := by
  have h1 := Fj (H := H) (m := m) (K := K) (v := fnV f) rfl rfl
  have h2 : AU Tryz.prog 58 [(0,.func (.func 146) #[] #[ptA H.length K.length]),(1,.func (.func 147) #[] #[ptA H.length K.length]),(2,.func (.func 148) #[] #[ptA H.length K.length])] = some (smlV (ptA H.length K.length)) := by kernel_rfl
  have h3 : ∀ g,BD g [] [ptA H.length K.length] = some (.func (.func g) #[] #[ptA H.length K.length]) := fun g => rfl
  have h4 : AN 3 lptr (smlV (ptA H.length K.length)) (.agg #[.nilFunc,.nilFunc,.nilFunc]) = some (smlV (ptA H.length K.length)) := rfl
  have h5 : Ao true 3 lptr (smlV (ptA H.length K.length)) = some (smlV (ptA H.length K.length)) := rfl
  unfold wire_small
  simp only [h1,h2,h3,h4,h5,EVs]
  rfl
theorem WI (f g h : Nat) : wire_list_api_Op R (fnV f) (fnV g) (fnV h) ⟨H ++ (m :: K)⟩ = some (lstV 151 152 154 (ptA H.length K.length) (ptA H.length (K.length + 1)) (ptA H.length (K.length + 2)),⟨H ++ (m :: (K ++ [rowF f,rowF g,rowF h]))⟩) := by
  have h1 := Fj (H := H) (m := m) (K := K) (v := fnV f) rfl rfl
  have h2 := Fj (H := H) (m := m) (K := K ++ [rowF f]) (v := fnV g) rfl rfl
  have h3 := Fj (H := H) (m := m) (K := K ++ [rowF f,rowF g]) (v := fnV h) rfl rfl
  have e1 : (K ++ [rowF f]).length = K.length + 1 := by simp
  have e2 : (K ++ [rowF f,rowF g]).length = K.length + 2 := by simp
  have e3 : K ++ [rowF f] ++ [Blk.row 0 [fnV g] .act] = K ++ [rowF f,rowF g] := by simp [rowF]
  have e4 : K ++ [rowF f,rowF g] ++ [Blk.row 0 [fnV h] .act] = K ++ [rowF f,rowF g,rowF h] := by simp [rowF]
  have e0 : K ++ [Blk.row 0 [fnV f] .act] = K ++ [rowF f] := rfl
  rw [e0] at h1
  rw [e1,e3] at h2
  rw [e2,e4] at h3
  have h6 : ∀ p q r : Nat,AU Tryz.prog 58 [(0,.func (.func 151) #[] #[ptA H.length p,ptA H.length q]),(1,.func (.func 152) #[] #[ptA H.length p,ptA H.length r]),(2,.func (.func 154) #[] #[ptA H.length p])] = some (lstV 151 152 154 (ptA H.length p) (ptA H.length q) (ptA H.length r)) := fun p q r => by kernel_rfl
  have h7 : ∀ g p,BD g [] [ptA H.length p] = some (.func (.func g) #[] #[ptA H.length p]) := fun g p => rfl
  have h8 : ∀ g p q,BD g [] [ptA H.length p,ptA H.length q] = some (.func (.func g) #[] #[ptA H.length p,ptA H.length q]) := fun g p q => rfl
  have h4 : ∀ p q r : Nat,AN 3 lptr (lstV 151 152 154 (ptA H.length p) (ptA H.length q) (ptA H.length r)) (.agg #[.nilFunc,.nilFunc,.nilFunc]) = some (lstV 151 152 154 (ptA H.length p) (ptA H.length q) (ptA H.length r)) := fun p q r => rfl
  have h5 : ∀ p q r : Nat,Ao true 3 lptr (lstV 151 152 154 (ptA H.length p) (ptA H.length q) (ptA H.length r)) = some (lstV 151 152 154 (ptA H.length p) (ptA H.length q) (ptA H.length r)) := fun p q r => rfl
  unfold wire_list_api_Op
  simp only [h1,h2,h3,h4,h5,h6,h7,h8,EVs]
  rfl
theorem PZ (f g h : Nat) : wire_list_api_Result R (fnV f) (fnV g) (fnV h) ⟨H ++ (m :: K)⟩ = some (lstV 155 156 157 (ptA H.length K.length) (ptA H.length (K.length + 1)) (ptA H.length (K.length + 2)),⟨H ++ (m :: (K ++ [rowF f,rowF g,rowF h]))⟩) := by
  have h1 := Fj (H := H) (m := m) (K := K) (v := fnV f) rfl rfl
  have h2 := Fj (H := H) (m := m) (K := K ++ [rowF f]) (v := fnV g) rfl rfl
  have h3 := Fj (H := H) (m := m) (K := K ++ [rowF f,rowF g]) (v := fnV h) rfl rfl
  have e1 : (K ++ [rowF f]).length = K.length + 1 := by simp
  have e2 : (K ++ [rowF f,rowF g]).length = K.length + 2 := by simp
  have e3 : K ++ [rowF f] ++ [Blk.row 0 [fnV g] .act] = K ++ [rowF f,rowF g] := by simp [rowF]
  have e4 : K ++ [rowF f,rowF g] ++ [Blk.row 0 [fnV h] .act] = K ++ [rowF f,rowF g,rowF h] := by simp [rowF]
  have e0 : K ++ [Blk.row 0 [fnV f] .act] = K ++ [rowF f] := rfl
  rw [e0] at h1
  rw [e1,e3] at h2
  rw [e2,e4] at h3
  have h6 : ∀ p q r : Nat,AU Tryz.prog 58 [(0,.func (.func 155) #[] #[ptA H.length p,ptA H.length q]),(1,.func (.func 156) #[] #[ptA H.length p,ptA H.length r]),(2,.func (.func 157) #[] #[ptA H.length p])] = some (lstV 155 156 157 (ptA H.length p) (ptA H.length q) (ptA H.length r)) := fun p q r => by kernel_rfl
  have h7 : ∀ g p,BD g [] [ptA H.length p] = some (.func (.func g) #[] #[ptA H.length p]) := fun g p => rfl
  have h8 : ∀ g p q,BD g [] [ptA H.length p,ptA H.length q] = some (.func (.func g) #[] #[ptA H.length p,ptA H.length q]) := fun g p q => rfl
  have h4 : ∀ p q r : Nat,AN 3 lptr (lstV 155 156 157 (ptA H.length p) (ptA H.length q) (ptA H.length r)) (.agg #[.nilFunc,.nilFunc,.nilFunc]) = some (lstV 155 156 157 (ptA H.length p) (ptA H.length q) (ptA H.length r)) := fun p q r => rfl
  have h5 : ∀ p q r : Nat,Ao true 3 lptr (lstV 155 156 157 (ptA H.length p) (ptA H.length q) (ptA H.length r)) = some (lstV 155 156 157 (ptA H.length p) (ptA H.length q) (ptA H.length r)) := fun p q r => rfl
  unfold wire_list_api_Result
  simp only [h1,h2,h3,h4,h5,h6,h7,h8,EVs]
  rfl
theorem RW (f g h : Nat) : wire_list_api_Owner R (fnV f) (fnV g) (fnV h) ⟨H ++ (m :: K)⟩ = some (lstV 158 159 160 (ptA H.length K.length) (ptA H.length (K.length + 1)) (ptA H.length (K.length + 2)),⟨H ++ (m :: (K ++ [rowF f,rowF g,rowF h]))⟩) := by
  have h1 := Fj (H := H) (m := m) (K := K) (v := fnV f) rfl rfl
  have h2 := Fj (H := H) (m := m) (K := K ++ [rowF f]) (v := fnV g) rfl rfl
  have h3 := Fj (H := H) (m := m) (K := K ++ [rowF f,rowF g]) (v := fnV h) rfl rfl
  have e1 : (K ++ [rowF f]).length = K.length + 1 := by simp
  have e2 : (K ++ [rowF f,rowF g]).length = K.length + 2 := by simp
  have e3 : K ++ [rowF f] ++ [Blk.row 0 [fnV g] .act] = K ++ [rowF f,rowF g] := by simp [rowF]
  have e4 : K ++ [rowF f,rowF g] ++ [Blk.row 0 [fnV h] .act] = K ++ [rowF f,rowF g,rowF h] := by simp [rowF]
  have e0 : K ++ [Blk.row 0 [fnV f] .act] = K ++ [rowF f] := rfl
  rw [e0] at h1
  rw [e1,e3] at h2
  rw [e2,e4] at h3
  have h6 : ∀ p q r : Nat,AU Tryz.prog 58 [(0,.func (.func 158) #[] #[ptA H.length p,ptA H.length q]),(1,.func (.func 159) #[] #[ptA H.length p,ptA H.length r]),(2,.func (.func 160) #[] #[ptA H.length p])] = some (lstV 158 159 160 (ptA H.length p) (ptA H.length q) (ptA H.length r)) := fun p q r => by kernel_rfl
  have h7 : ∀ g p,BD g [] [ptA H.length p] = some (.func (.func g) #[] #[ptA H.length p]) := fun g p => rfl
  have h8 : ∀ g p q,BD g [] [ptA H.length p,ptA H.length q] = some (.func (.func g) #[] #[ptA H.length p,ptA H.length q]) := fun g p q => rfl
  have h4 : ∀ p q r : Nat,AN 3 lptr (lstV 158 159 160 (ptA H.length p) (ptA H.length q) (ptA H.length r)) (.agg #[.nilFunc,.nilFunc,.nilFunc]) = some (lstV 158 159 160 (ptA H.length p) (ptA H.length q) (ptA H.length r)) := fun p q r => rfl
  have h5 : ∀ p q r : Nat,Ao true 3 lptr (lstV 158 159 160 (ptA H.length p) (ptA H.length q) (ptA H.length r)) = some (lstV 158 159 160 (ptA H.length p) (ptA H.length q) (ptA H.length r)) := fun p q r => rfl
  unfold wire_list_api_Owner
  simp only [h1,h2,h3,h4,h5,h6,h7,h8,EVs]
  rfl
end
theorem H8 {R : Aa} (Q : WrH R) (H : List Blk) : wire_all R ⟨H⟩ = some (.map (some H.length),⟨H ++ (.map (AI H.length) 16 :: Al)⟩) := by
  have m0 : GC none ⟨H⟩ = some (.map (some H.length),⟨H ++ (.map ((AI H.length).take 0) 0 :: Al.take 0)⟩) := rfl
  have n0 : R 68 [fnV 69] ⟨H ++ (.map ((AI H.length).take 0) 0 :: Al.take 0)⟩ = some (numV (ptA H.length 0),⟨H ++ (.map ((AI H.length).take 0) 0 :: Al.take 1)⟩) := Q.wire_num (GW (H := H) (K := Al.take 0) 69)
  have n1 : R 68 [fnV 70] ⟨H ++ (.map ((AI H.length).take 1) 1 :: Al.take 1)⟩ = some (numV (ptA H.length 1),⟨H ++ (.map ((AI H.length).take 1) 1 :: Al.take 2)⟩) := Q.wire_num (GW (H := H) (K := Al.take 1) 70)
  have n2 : R 68 [fnV 71] ⟨H ++ (.map ((AI H.length).take 2) 2 :: Al.take 2)⟩ = some (numV (ptA H.length 2),⟨H ++ (.map ((AI H.length).take 2) 2 :: Al.take 3)⟩) := Q.wire_num (GW (H := H) (K := Al.take 2) 71)
  have n3 : R 68 [fnV 72] ⟨H ++ (.map ((AI H.length).take 3) 3 :: Al.take 3)⟩ = some (numV (ptA H.length 3),⟨H ++ (.map ((AI H.length).take 3) 3 :: Al.take 4)⟩) := Q.wire_num (GW (H := H) (K := Al.take 3) 72)
  have n4 : R 68 [fnV 73] ⟨H ++ (.map ((AI H.length).take 4) 4 :: Al.take 4)⟩ = some (numV (ptA H.length 4),⟨H ++ (.map ((AI H.length).take 4) 4 :: Al.take 5)⟩) := Q.wire_num (GW (H := H) (K := Al.take 4) 73)
  have n5 : R 68 [fnV 74] ⟨H ++ (.map ((AI H.length).take 5) 5 :: Al.take 5)⟩ = some (numV (ptA H.length 5),⟨H ++ (.map ((AI H.length).take 5) 5 :: Al.take 6)⟩) := Q.wire_num (GW (H := H) (K := Al.take 5) 74)
  have n6 : R 68 [fnV 75] ⟨H ++ (.map ((AI H.length).take 6) 6 :: Al.take 6)⟩ = some (numV (ptA H.length 6),⟨H ++ (.map ((AI H.length).take 6) 6 :: Al.take 7)⟩) := Q.wire_num (GW (H := H) (K := Al.take 6) 75)
  have n7 : R 68 [fnV 76] ⟨H ++ (.map ((AI H.length).take 7) 7 :: Al.take 7)⟩ = some (numV (ptA H.length 7),⟨H ++ (.map ((AI H.length).take 7) 7 :: Al.take 8)⟩) := Q.wire_num (GW (H := H) (K := Al.take 7) 76)
  have n8 : R 68 [fnV 77] ⟨H ++ (.map ((AI H.length).take 8) 8 :: Al.take 8)⟩ = some (numV (ptA H.length 8),⟨H ++ (.map ((AI H.length).take 8) 8 :: Al.take 9)⟩) := Q.wire_num (GW (H := H) (K := Al.take 8) 77)
  have n9 : R 78 [fnV 79] ⟨H ++ (.map ((AI H.length).take 9) 9 :: Al.take 9)⟩ = some (smlV (ptA H.length 9),⟨H ++ (.map ((AI H.length).take 9) 9 :: Al.take 10)⟩) := Q.wire_small (Th (H := H) (K := Al.take 9) 79)
  have n10 : R 78 [fnV 80] ⟨H ++ (.map ((AI H.length).take 10) 10 :: Al.take 10)⟩ = some (smlV (ptA H.length 10),⟨H ++ (.map ((AI H.length).take 10) 10 :: Al.take 11)⟩) := Q.wire_small (Th (H := H) (K := Al.take 10) 80)
  have n11 : AU Tryz.prog 58 [(0,fnV 81),(1,fnV 83),(2,fnV 85)] = some flgV := by kernel_rfl
  have n12 : AU Tryz.prog 58 [(0,fnV 86),(1,fnV 88),(2,fnV 90)] = some rngV := by kernel_rfl
  have n13 : R 91 [fnV 92,fnV 93,fnV 94] ⟨H ++ (.map ((AI H.length).take 13) 13 :: Al.take 11)⟩ = some (lstV 151 152 154 (ptA H.length 11) (ptA H.length 12) (ptA H.length 13),⟨H ++ (.map ((AI H.length).take 13) 13 :: Al.take 14)⟩) := Q.wire_list_api_Op (WI (H := H) (K := Al.take 11) 92 93 94)
  have n14 : R 95 [fnV 96,fnV 97,fnV 98] ⟨H ++ (.map ((AI H.length).take 14) 14 :: Al.take 14)⟩ = some (lstV 155 156 157 (ptA H.length 14) (ptA H.length 15) (ptA H.length 16),⟨H ++ (.map ((AI H.length).take 14) 14 :: Al.take 17)⟩) := Q.wire_list_api_Result (PZ (H := H) (K := Al.take 14) 96 97 98)
  have n15 : R 99 [fnV 100,fnV 101,fnV 102] ⟨H ++ (.map ((AI H.length).take 15) 15 :: Al.take 17)⟩ = some (lstV 158 159 160 (ptA H.length 17) (ptA H.length 18) (ptA H.length 19),⟨H ++ (.map ((AI H.length).take 15) 15 :: Al.take 20)⟩) := Q.wire_list_api_Owner (RW (H := H) (K := Al.take 17) 100 101 102)
  have u0 : Am Tryz.prog 21 (.map (some H.length)) (.int .i32 113) (numV (ptA H.length 0)) ⟨H ++ (.map ((AI H.length).take 0) 0 :: Al.take 1)⟩ = some ⟨H ++ (.map ((AI H.length).take 1) 1 :: Al.take 1)⟩ := Bt rfl rfl (by kernel_rfl) (by kernel_rfl)
  have u1 : Am Tryz.prog 21 (.map (some H.length)) (.int .i32 98) (numV (ptA H.length 1)) ⟨H ++ (.map ((AI H.length).take 1) 1 :: Al.take 2)⟩ = some ⟨H ++ (.map ((AI H.length).take 2) 2 :: Al.take 2)⟩ := Bt rfl rfl (by kernel_rfl) (by kernel_rfl)
  have u2 : Am Tryz.prog 21 (.map (some H.length)) (.int .i32 116) (numV (ptA H.length 2)) ⟨H ++ (.map ((AI H.length).take 2) 2 :: Al.take 3)⟩ = some ⟨H ++ (.map ((AI H.length).take 3) 3 :: Al.take 3)⟩ := Bt rfl rfl (by kernel_rfl) (by kernel_rfl)
  have u3 : Am Tryz.prog 21 (.map (some H.length)) (.int .i32 108) (numV (ptA H.length 3)) ⟨H ++ (.map ((AI H.length).take 3) 3 :: Al.take 4)⟩ = some ⟨H ++ (.map ((AI H.length).take 4) 4 :: Al.take 4)⟩ := Bt rfl rfl (by kernel_rfl) (by kernel_rfl)
  have u4 : Am Tryz.prog 21 (.map (some H.length)) (.int .i32 118) (numV (ptA H.length 4)) ⟨H ++ (.map ((AI H.length).take 4) 4 :: Al.take 5)⟩ = some ⟨H ++ (.map ((AI H.length).take 5) 5 :: Al.take 5)⟩ := Bt rfl rfl (by kernel_rfl) (by kernel_rfl)
  have u5 : Am Tryz.prog 21 (.map (some H.length)) (.int .i32 101) (numV (ptA H.length 5)) ⟨H ++ (.map ((AI H.length).take 5) 5 :: Al.take 6)⟩ = some ⟨H ++ (.map ((AI H.length).take 6) 6 :: Al.take 6)⟩ := Bt rfl rfl (by kernel_rfl) (by kernel_rfl)
  have u6 : Am Tryz.prog 21 (.map (some H.length)) (.int .i32 109) (numV (ptA H.length 6)) ⟨H ++ (.map ((AI H.length).take 6) 6 :: Al.take 7)⟩ = some ⟨H ++ (.map ((AI H.length).take 7) 7 :: Al.take 7)⟩ := Bt rfl rfl (by kernel_rfl) (by kernel_rfl)
  have u7 : Am Tryz.prog 21 (.map (some H.length)) (.int .i32 97) (numV (ptA H.length 7)) ⟨H ++ (.map ((AI H.length).take 7) 7 :: Al.take 8)⟩ = some ⟨H ++ (.map ((AI H.length).take 8) 8 :: Al.take 8)⟩ := Bt rfl rfl (by kernel_rfl) (by kernel_rfl)
  have u8 : Am Tryz.prog 21 (.map (some H.length)) (.int .i32 110) (numV (ptA H.length 8)) ⟨H ++ (.map ((AI H.length).take 8) 8 :: Al.take 9)⟩ = some ⟨H ++ (.map ((AI H.length).take 9) 9 :: Al.take 9)⟩ := Bt rfl rfl (by kernel_rfl) (by kernel_rfl)
  have u9 : Am Tryz.prog 21 (.map (some H.length)) (.int .i32 99) (smlV (ptA H.length 9)) ⟨H ++ (.map ((AI H.length).take 9) 9 :: Al.take 10)⟩ = some ⟨H ++ (.map ((AI H.length).take 10) 10 :: Al.take 10)⟩ := Bt rfl rfl (by kernel_rfl) (by kernel_rfl)
  have u10 : Am Tryz.prog 21 (.map (some H.length)) (.int .i32 112) (smlV (ptA H.length 10)) ⟨H ++ (.map ((AI H.length).take 10) 10 :: Al.take 11)⟩ = some ⟨H ++ (.map ((AI H.length).take 11) 11 :: Al.take 11)⟩ := Bt rfl rfl (by kernel_rfl) (by kernel_rfl)
  have u11 : Am Tryz.prog 21 (.map (some H.length)) (.int .i32 102) (flgV) ⟨H ++ (.map ((AI H.length).take 11) 11 :: Al.take 11)⟩ = some ⟨H ++ (.map ((AI H.length).take 12) 12 :: Al.take 11)⟩ := Bt rfl rfl (by kernel_rfl) (by kernel_rfl)
  have u12 : Am Tryz.prog 21 (.map (some H.length)) (.int .i32 114) (rngV) ⟨H ++ (.map ((AI H.length).take 12) 12 :: Al.take 11)⟩ = some ⟨H ++ (.map ((AI H.length).take 13) 13 :: Al.take 11)⟩ := Bt rfl rfl (by kernel_rfl) (by kernel_rfl)
  have u13 : Am Tryz.prog 21 (.map (some H.length)) (.int .i32 111) (lstV 151 152 154 (ptA H.length 11) (ptA H.length 12) (ptA H.length 13)) ⟨H ++ (.map ((AI H.length).take 13) 13 :: Al.take 14)⟩ = some ⟨H ++ (.map ((AI H.length).take 14) 14 :: Al.take 14)⟩ := Bt rfl rfl (by kernel_rfl) (by kernel_rfl)
  have u14 : Am Tryz.prog 21 (.map (some H.length)) (.int .i32 115) (lstV 155 156 157 (ptA H.length 14) (ptA H.length 15) (ptA H.length 16)) ⟨H ++ (.map ((AI H.length).take 14) 14 :: Al.take 17)⟩ = some ⟨H ++ (.map ((AI H.length).take 15) 15 :: Al.take 17)⟩ := Bt rfl rfl (by kernel_rfl) (by kernel_rfl)
  have u15 : Am Tryz.prog 21 (.map (some H.length)) (.int .i32 119) (lstV 158 159 160 (ptA H.length 17) (ptA H.length 18) (ptA H.length 19)) ⟨H ++ (.map ((AI H.length).take 15) 15 :: Al.take 20)⟩ = some ⟨H ++ (.map ((AI H.length).take 16) 16 :: Al.take 20)⟩ := Bt rfl rfl (by kernel_rfl) (by kernel_rfl)
  unfold wire_all
  rw [m0]
  simp only [Option.bind_some,Q5,Oc,HM,FO,Gj]
  rw [n0]
  simp only [Option.bind_some]
  rw [u0]
  try simp only [Option.bind_some]
  rw [n1]
  simp only [Option.bind_some]
  rw [u1]
  try simp only [Option.bind_some]
  rw [n2]
  simp only [Option.bind_some]
  rw [u2]
  try simp only [Option.bind_some]
  rw [n3]
  simp only [Option.bind_some]
  rw [u3]
  try simp only [Option.bind_some]
  rw [n4]
  simp only [Option.bind_some]
  rw [u4]
  try simp only [Option.bind_some]
  rw [n5]
  simp only [Option.bind_some]
  rw [u5]
  try simp only [Option.bind_some]
  rw [n6]
  simp only [Option.bind_some]
  rw [u6]
  try simp only [Option.bind_some]
  rw [n7]
  simp only [Option.bind_some]
  rw [u7]
  try simp only [Option.bind_some]
  rw [n8]
  simp only [Option.bind_some]
  rw [u8]
  try simp only [Option.bind_some]
  rw [n9]
  simp only [Option.bind_some]
  rw [u9]
  try simp only [Option.bind_some]
  rw [n10]
  simp only [Option.bind_some]
  rw [u10]
  try simp only [Option.bind_some]
  rw [n11]
  simp only [Option.bind_some]
  rw [u11]
  try simp only [Option.bind_some]
  rw [n12]
  simp only [Option.bind_some]
  rw [u12]
  try simp only [Option.bind_some]
  rw [n13]
  simp only [Option.bind_some]
  rw [u13]
  try simp only [Option.bind_some]
  rw [n14]
  simp only [Option.bind_some]
  rw [u14]
  try simp only [Option.bind_some]
  rw [n15]
  simp only [Option.bind_some]
  rw [u15]
  try simp only [Option.bind_some]
  rfl
end Go.Proofs.YtmbhnbladmpnoaaGreat.Ab

/- Structs: whether two are the same. -/
namespace Go.Proofs.YtmbhnbladmpnoaaGreat.Ab
open Go
def RX (P : Program) (d : Nat) (xs ys : Array Value) : List Field → List Bool → Prop
  | [],[] => True
  | f :: fs,e :: es => f.name ≠ "_" ∧ (∃ p q,A9 P (part f.type xs f.offset) = some p ∧ A9 P (part f.type ys f.offset) = some q ∧ A9 P (Op.equalIn d f.type p q) = some e) ∧ RX P d xs ys fs es
  | _,_ => False
theorem Mb {P : Program} {d : Nat} {xs ys : Array Value} : ∀ {fs : List Field} {es : List Bool},RX P d xs ys fs es →
    A9 P (ForIn.forIn fs ((none,()) : Option Bool × Unit) (fun f __s =>
      if f.name ≠ "_" then do
        let __do_lift ← part f.type xs f.offset
        let __do_lift_1 ← part f.type ys f.offset
        let __do_lift ← Op.equalIn d f.type __do_lift __do_lift_1
        if (!__do_lift) = true then Pure.pure (ForInStep.done (some false,()))
        else Pure.pure (ForInStep.yield (none,()))
      else Pure.pure (ForInStep.yield (none,()))) : Sem (Option Bool × Unit)) = some (if es.all id = true then none else some false,())
  | [],[],_ => rfl
  | f :: fs,e :: es,⟨hn,⟨p,q,h1,h2,h3⟩,h⟩ => by
    have ih := Mb h
    rw [List.forIn_cons,B1,if_pos hn,B1,h1,Option.bind_some,B1,h2,Option.bind_some,B1,h3,Option.bind_some]
    cases e with
    | false => rfl
    | true =>
      simp only [Bool.not_true,Bool.false_eq_true,if_false,JH,Option.bind_some]
      rw [ih]
      rfl
theorem YG {P : Program} {t : TypeId} {fs : Array Field} {d : Nat} {xs ys : Array Value} (hu : P.underlying t = some (.struct fs)) (hh : P.stoodInHeld t = false) {es : List Bool} (h : RX P d xs ys fs.toList es) : A9 P (Op.equalIn (d + 1) t (.agg xs) (.agg ys)) = some (es.all id) := by
  unfold Op.equalIn
  rw [B1,Vk hu]
  simp only [Option.bind_some]
  rw [B1,Lk]
  simp only [Option.bind_some,hh,Bool.false_eq_true,if_false,B1]
  have := Mb h
  obtain ⟨l⟩ := fs
  simp only [List.forIn_toArray] at this ⊢
  rw [this]
  simp only [Option.bind_some]
  cases es.all id <;> rfl
theorem ZcF {P : Program} {t : TypeId} {ox oy : Operand} {xs ys : List Value} {b : Bool} (hx : xs.all AZ = true) (hy : ys.all AZ = true) (hg : A9 P (eqGuard .eql t ox oy (.agg xs.toArray) (.agg ys.toArray)) = some ()) (h : A9 P (Op.equal t (.agg xs.toArray) (.agg ys.toArray)) = some b) : abin P .eql t ox oy (.agg xs.toArray) (.agg ys.toArray) = some (.bool b) := by
  unfold abin R3
  simp only
  have hc : (Bb (.agg xs.toArray) && Bb (.agg ys.toArray)) = true := by simp only [Bb,hx,hy,Bool.and_self]
  rw [if_pos hc,B1,hg]
  simp only [Option.bind_some,binOp,B1,h,JH]
theorem Zbu (n : Nat) (x y : BL) : A9 Tryz.prog (Op.equalIn (n + 1) 9 (sv x) (sv y)) = some (x == y) := by
  unfold sv
  rw [Zbi Tryz.underlying9,SS]
end Go.Proofs.YtmbhnbladmpnoaaGreat.Ab

/- Which field of a message is zero. -/
namespace Go.Proofs.YtmbhnbladmpnoaaGreat.Ab
open Go
set_option maxRecDepth 10000
theorem Zfe (n : Nat) (a b : Rg) : A9 Tryz.prog (Op.equalIn (n + 2) 24 (rv a) (rv b)) = some ([a.1 == b.1,a.2 == b.2].all id) :=
  YG Tryz.underlying24 (by kernel_rfl) ⟨by decide,⟨_,_,by kernel_rfl,by kernel_rfl,Zbu _ _ _⟩,by decide,⟨_,_,by kernel_rfl,by kernel_rfl,Zbu _ _ _⟩,trivial⟩
theorem Zem (m n : Nat) (h : m = n + 2) (a b : Rg) : A9 Tryz.prog (Op.equalIn m 24 (rv a) (rv b)) = some ([a.1 == b.1,a.2 == b.2].all id) := by
  subst h
  exact Zfe n a b
theorem Zen : Op.maxDepth = 9998 + 2 := by decide
theorem Zeo (o1 o2 : Operand) (a b : Rg) : abin Tryz.prog .eql 24 o1 o2 (rv a) (rv b) = some (.bool (a.1 == b.1 && a.2 == b.2)) := by
  have hg : A9 Tryz.prog (eqGuard .eql 24 o1 o2 (.agg (prC.enc a).toArray) (.agg (prC.enc b).toArray)) = some () := by kernel_rfl
  have he : A9 Tryz.prog (Op.equal 24 (rv a) (rv b)) = some ([a.1 == b.1,a.2 == b.2].all id) := by
    unfold Op.equal
    exact Zem _ 9998 Zen a b
  have := ZcF (xs := prC.enc a) (ys := prC.enc b) (prC.leaf a) (prC.leaf b) hg he
  rw [show ([a.1 == b.1,a.2 == b.2].all id) = (a.1 == b.1 && a.2 == b.2) by simp] at this
  exact this
theorem CJ {t : St} {B i : Nat} {cells : List Value} {c : Value} (h : readRow t B = some cells) (hc : cells[i]? = some c) : Aq false 1 (.pointer (some ⟨B,i,none⟩)) t = some c := by simp [Aq,h,hc]
theorem BZ {t : St} {B : Nat} {c : Value} (h : readRow t B = some [c]) : Aq false 1 (.pointer (some ⟨B,0,none⟩)) t = some c := CJ h rfl
theorem Zep {t : St} {B i : Nat} {cells : List Value} {a b : Value} (h : readRow t B = some cells) (ha : cells[i]? = some a) (hb : cells[i + 1]? = some b) : Aq true 2 (.pointer (some ⟨B,i,none⟩)) t = some (.agg #[a,b]) := by
  obtain ⟨h1,h2⟩ := List.getElem?_eq_some_iff.1 hb
  obtain ⟨h3,h4⟩ := List.getElem?_eq_some_iff.1 ha
  simp only [Aq,if_true,readN,h,Option.bind_some]
  rw [if_pos (by omega)]
  have : (cells.drop i).take 2 = [a,b] := by
    rw [List.drop_eq_getElem_cons h3,List.drop_eq_getElem_cons h1,h4,h2]
    rfl
  rw [this]
  rfl
theorem YH {t : St} {B n : Nat} {cells : List Value} (h : readRow t B = some cells) (hn : cells.length = n) : Aq true n (.pointer (some ⟨B,0,none⟩)) t = some (.agg cells.toArray) := by
  subst hn
  simp [Aq,readN,h]
theorem BO {s t : St} (hx : Ext s.heap.length s t) {B : Nat} {cells : List Value} (h : readRow s B = some cells) : readRow t B = some cells := by
  rw [← h]
  unfold Ab.readRow
  rw [hx.2 B (D3 h)]
theorem El {s : St} {B n : Nat} {cells : List Value} {st : Stat} (h : s.heap[B]? = some (.row n cells st)) (hst : st ≠ .dead) : readRow s B = some cells := by
  unfold Ab.readRow
  rw [h]
  cases st with
  | dead => exact absurd rfl hst
  | act => rfl
  | ro => rfl
abbrev mp (M : Nat) : Value := .pointer (some ⟨M,0,none⟩)
def DU : List (Nat × Nat) := [(69,6),(70,7),(71,8),(72,9),(73,10),(74,11),(75,12),(76,13),(77,14),(79,4),(80,5),(92,18),(96,19),(100,20)]
variable {R : Aa} (Q : WrH R)
include Q
theorem Dy {f ix : Nat} (h : (f,ix) ∈ DU) {M : Nat} {s : St} : Ag Tryz.prog R (fnV f) [mp M] s = some (.pointer (some ⟨M,ix,none⟩),s) := by
  have h1 : Ah (mp M) = some (mp M) := rfl
  have h2 : ∀ i,Ac i (mp M) = some (.pointer (some ⟨M,i,none⟩)) := fun i => by simp [Ac]
  have h3 : ∀ i,retV [.pointer (some ⟨M,i,none⟩)] s = some (.pointer (some ⟨M,i,none⟩),s) := fun i => ret1 rfl
  simp only [DU,List.mem_cons,List.not_mem_nil,or_false,Prod.mk.injEq] at h
  rcases h with ⟨rfl,rfl⟩ | ⟨rfl,rfl⟩ | ⟨rfl,rfl⟩ | ⟨rfl,rfl⟩ | ⟨rfl,rfl⟩ | ⟨rfl,rfl⟩ | ⟨rfl,rfl⟩ | ⟨rfl,rfl⟩ | ⟨rfl,rfl⟩ | ⟨rfl,rfl⟩ | ⟨rfl,rfl⟩ | ⟨rfl,rfl⟩ | ⟨rfl,rfl⟩ | ⟨rfl,rfl⟩
  · rw [N3]; refine Q.wire_all_1 ?_; unfold wire_all_1; simp only [h1,h2,h3,Option.bind_some]
  · rw [N4]; refine Q.wire_all_2 ?_; unfold wire_all_2; simp only [h1,h2,h3,Option.bind_some]
  · rw [N5]; refine Q.wire_all_3 ?_; unfold wire_all_3; simp only [h1,h2,h3,Option.bind_some]
  · rw [N6]; refine Q.wire_all_4 ?_; unfold wire_all_4; simp only [h1,h2,h3,Option.bind_some]
  · rw [N7]; refine Q.wire_all_5 ?_; unfold wire_all_5; simp only [h1,h2,h3,Option.bind_some]
  · rw [N8]; refine Q.wire_all_6 ?_; unfold wire_all_6; simp only [h1,h2,h3,Option.bind_some]
  · rw [N9]; refine Q.wire_all_7 ?_; unfold wire_all_7; simp only [h1,h2,h3,Option.bind_some]
  · rw [Oa]; refine Q.wire_all_8 ?_; unfold wire_all_8; simp only [h1,h2,h3,Option.bind_some]
  · rw [Ob]; refine Q.wire_all_9 ?_; unfold wire_all_9; simp only [h1,h2,h3,Option.bind_some]
  · rw [ME]; refine Q.wire_all_10 ?_; unfold wire_all_10; simp only [h1,h2,h3,Option.bind_some]
  · rw [MF]; refine Q.wire_all_11 ?_; unfold wire_all_11; simp only [h1,h2,h3,Option.bind_some]
  · rw [MM]; refine Q.wire_all_18 ?_; unfold wire_all_18; simp only [h1,h2,h3,Option.bind_some]
  · rw [MN]; refine Q.wire_all_19 ?_; unfold wire_all_19; simp only [h1,h2,h3,Option.bind_some]
  · rw [MO]; refine Q.wire_all_20 ?_; unfold wire_all_20; simp only [h1,h2,h3,Option.bind_some]
section
variable {f ix M C : Nat} {t : St} {cells : List Value} (hf : (f,ix) ∈ DU) (hM : readRow t M = some cells) (hC : readRow t C = some [fnV f])
include hf hM hC
theorem EM {n : Int} (hi : cells[ix]? = some (.int .u64 n)) : Ag Tryz.prog R (.func (.func 145) #[] #[.pointer (some ⟨C,0,none⟩)]) [mp M] t = some (.bool (n == 0),t) := by
  rw [show (Value.func (.func 145) #[] #[.pointer (some ⟨C,0,none⟩)]) = .func (.func 145) ([] : List Value).toArray [.pointer (some ⟨C,0,none⟩)].toArray from rfl,Ci RD]
  refine Q.wire_num_3 ?_
  have e : Ah (.pointer (some ⟨M,ix,none⟩)) = some (.pointer (some ⟨M,ix,none⟩)) := rfl
  unfold wire_num_3
  simp only [BZ hC,Dy Q hf,e,CJ hM hi,EVs,Dn]
theorem Qp {n : Int} (hi : cells[ix]? = some (.int .i64 n)) : Ag Tryz.prog R (.func (.func 148) #[] #[.pointer (some ⟨C,0,none⟩)]) [mp M] t = some (.bool (n == 0),t) := by
  rw [show (Value.func (.func 148) #[] #[.pointer (some ⟨C,0,none⟩)]) = .func (.func 148) ([] : List Value).toArray [.pointer (some ⟨C,0,none⟩)].toArray from rfl,Ci Ou]
  refine Q.wire_small_3 ?_
  have e : Ah (.pointer (some ⟨M,ix,none⟩)) = some (.pointer (some ⟨M,ix,none⟩)) := rfl
  unfold wire_small_3
  simp only [BZ hC,Dy Q hf,e,CJ hM hi,EVs,Dn]
theorem UG {v : Value} {n : Int} (hi : cells[ix]? = some v) (hv : ∀ ty s,AP (.slice ty) v s = some (.int .i64 n)) : Ag Tryz.prog R (.func (.func 154) #[] #[.pointer (some ⟨C,0,none⟩)]) [mp M] t = some (.bool (n == 0),t) := by
  rw [show (Value.func (.func 154) #[] #[.pointer (some ⟨C,0,none⟩)]) = .func (.func 154) ([] : List Value).toArray [.pointer (some ⟨C,0,none⟩)].toArray from rfl,Ci HZ]
  refine Q.wire_list_api_Op_3 ?_
  have e : Ah (.pointer (some ⟨M,ix,none⟩)) = some (.pointer (some ⟨M,ix,none⟩)) := rfl
  unfold wire_list_api_Op_3
  simp only [BZ hC,Dy Q hf,e,CJ hM hi,hv,EVs,Dn]
theorem OX {v : Value} {n : Int} (hi : cells[ix]? = some v) (hv : ∀ ty s,AP (.slice ty) v s = some (.int .i64 n)) : Ag Tryz.prog R (.func (.func 157) #[] #[.pointer (some ⟨C,0,none⟩)]) [mp M] t = some (.bool (n == 0),t) := by
  rw [show (Value.func (.func 157) #[] #[.pointer (some ⟨C,0,none⟩)]) = .func (.func 157) ([] : List Value).toArray [.pointer (some ⟨C,0,none⟩)].toArray from rfl,Ci F0]
  refine Q.wire_list_api_Result_3 ?_
  have e : Ah (.pointer (some ⟨M,ix,none⟩)) = some (.pointer (some ⟨M,ix,none⟩)) := rfl
  unfold wire_list_api_Result_3
  simp only [BZ hC,Dy Q hf,e,CJ hM hi,hv,EVs,Dn]
theorem P0 {v : Value} {n : Int} (hi : cells[ix]? = some v) (hv : ∀ ty s,AP (.slice ty) v s = some (.int .i64 n)) : Ag Tryz.prog R (.func (.func 160) #[] #[.pointer (some ⟨C,0,none⟩)]) [mp M] t = some (.bool (n == 0),t) := by
  rw [show (Value.func (.func 160) #[] #[.pointer (some ⟨C,0,none⟩)]) = .func (.func 160) ([] : List Value).toArray [.pointer (some ⟨C,0,none⟩)].toArray from rfl,Ci Gu]
  refine Q.wire_list_api_Owner_3 ?_
  have e : Ah (.pointer (some ⟨M,ix,none⟩)) = some (.pointer (some ⟨M,ix,none⟩)) := rfl
  unfold wire_list_api_Owner_3
  simp only [BZ hC,Dy Q hf,e,CJ hM hi,hv,EVs,Dn]
end
section
variable {M : Nat} {t : St} {cells : List Value} (hM : readRow t M = some cells)
include hM
theorem YI {b : Bool} (hi : cells[15]? = some (.bool b)) : Ag Tryz.prog R (fnV 85) [mp M] t = some (.bool (!b),t) := by
  rw [MI]
  refine Q.wire_all_14 ?_
  have h1 : Ah (mp M) = some (mp M) := rfl
  have h2 : Ac 15 (mp M) = some (.pointer (some ⟨M,15,none⟩)) := by simp [Ac]
  unfold wire_all_14
  simp only [h1,h2,CJ hM hi,EVs,Dn]
theorem WJ {r : Rg} (hi : cells[16]? = some (sv r.1)) (hj : cells[17]? = some (sv r.2)) : Ag Tryz.prog R (fnV 90) [mp M] t = some (.bool (r.1 == [] && r.2 == []),t) := by
  rw [ML]
  refine Q.wire_all_17 ?_
  have h1 : Ah (mp M) = some (mp M) := rfl
  have h2 : Ac 16 (mp M) = some (.pointer (some ⟨M,16,none⟩)) := by simp [Ac]
  have h3 : (.agg #[(.string ⟨#[]⟩),(.string ⟨#[]⟩)] : Value) = rv ([],[]) := rfl
  have h4 : (.agg #[sv r.1,sv r.2] : Value) = rv r := rfl
  unfold wire_all_17
  simp only [h1,h2,Zep hM hi hj,h3,h4,Zeo,EVs,Dn]
end
omit Q
def zTab (m : Ms) : List (Int × Bool) := [(113,m.req == 0),(98,m.boot == 0),(116,m.txn == 0),(108,m.low == 0),(118,m.ver == 0),(101,m.epoch == 0),(109,m.move == 0),(97,m.attempt == 0),(110,m.num == 0),(99,m.code == 0),(112,m.peer == 0),(102,!m.flag),(114,m.rg.1 == [] && m.rg.2 == []),(111,(m.ops.length : Int) == 0),(115,(m.res.length : Int) == 0),(119,(m.own.length : Int) == 0)]
def ZOk (R : Aa) (M : Nat) (Pt : St → Prop) (e : Value × Value × Nat) (p : Int × Bool) : Prop :=
  e.1 = .int .i32 p.1 ∧ ∃ x y z,e.2.1 = .agg #[x,y,z] ∧ [x,y,z].all AH = true ∧ ∀ t,Pt t → Ag Tryz.prog R z [mp M] t = some (.bool p.2,t)
def ZAt (m : Ms) (vo vr vw : Value) (M N : Nat) (t : St) : Prop := readRow t M = some (msC m vo vr vw) ∧ ∀ i f,Al[i]? = some (rowF f) → readRow t (N + 1 + i) = some [fnV f]
theorem ZAt.ext {m : Ms} {vo vr vw : Value} {M N : Nat} {s t : St} (h : ZAt m vo vr vw M N s) (hx : Ext s.heap.length s t) : ZAt m vo vr vw M N t := ⟨BO hx h.1,fun i f hi => BO hx (h.2 i f hi)⟩
include Q
theorem ZaF {m : Ms} {s0 : St} {vo vr vw : Value} (h : MsV m s0 vo vr vw) (M N : Nat) : All2 (ZOk R M (ZAt m vo vr vw M N)) (AI N) (zTab m) := by
  have lo := Bx h.o
  have lr := Bx h.r
  have lw := Bx h.w
  refine ⟨⟨rfl,_,_,_,rfl,rfl,fun t ht => EM Q (f := 69) (ix := 6) (by decide) ht.1 (ht.2 0 _ rfl) rfl⟩,
    ⟨rfl,_,_,_,rfl,rfl,fun t ht => EM Q (f := 70) (ix := 7) (by decide) ht.1 (ht.2 1 _ rfl) rfl⟩,
    ⟨rfl,_,_,_,rfl,rfl,fun t ht => EM Q (f := 71) (ix := 8) (by decide) ht.1 (ht.2 2 _ rfl) rfl⟩,
    ⟨rfl,_,_,_,rfl,rfl,fun t ht => EM Q (f := 72) (ix := 9) (by decide) ht.1 (ht.2 3 _ rfl) rfl⟩,
    ⟨rfl,_,_,_,rfl,rfl,fun t ht => EM Q (f := 73) (ix := 10) (by decide) ht.1 (ht.2 4 _ rfl) rfl⟩,
    ⟨rfl,_,_,_,rfl,rfl,fun t ht => EM Q (f := 74) (ix := 11) (by decide) ht.1 (ht.2 5 _ rfl) rfl⟩,
    ⟨rfl,_,_,_,rfl,rfl,fun t ht => EM Q (f := 75) (ix := 12) (by decide) ht.1 (ht.2 6 _ rfl) rfl⟩,
    ⟨rfl,_,_,_,rfl,rfl,fun t ht => EM Q (f := 76) (ix := 13) (by decide) ht.1 (ht.2 7 _ rfl) rfl⟩,
    ⟨rfl,_,_,_,rfl,rfl,fun t ht => EM Q (f := 77) (ix := 14) (by decide) ht.1 (ht.2 8 _ rfl) rfl⟩,
    ⟨rfl,_,_,_,rfl,rfl,fun t ht => Qp Q (f := 79) (ix := 4) (by decide) ht.1 (ht.2 9 _ rfl) rfl⟩,
    ⟨rfl,_,_,_,rfl,rfl,fun t ht => Qp Q (f := 80) (ix := 5) (by decide) ht.1 (ht.2 10 _ rfl) rfl⟩,
    ⟨rfl,_,_,_,rfl,rfl,fun t ht => YI Q ht.1 rfl⟩,
    ⟨rfl,_,_,_,rfl,rfl,fun t ht => WJ Q ht.1 rfl rfl⟩,
    ⟨rfl,_,_,_,rfl,rfl,fun t ht => UG Q (f := 92) (ix := 18) (by decide) ht.1 (ht.2 11 _ rfl) rfl lo⟩,
    ⟨rfl,_,_,_,rfl,rfl,fun t ht => OX Q (f := 96) (ix := 19) (by decide) ht.1 (ht.2 14 _ rfl) rfl lr⟩,
    ⟨rfl,_,_,_,rfl,rfl,fun t ht => P0 Q (f := 100) (ix := 20) (by decide) ht.1 (ht.2 17 _ rfl) rfl lw⟩,trivial⟩
end Go.Proofs.YtmbhnbladmpnoaaGreat.Ab

/- A message is looked at: the one function that ranges over a map (of all fields),told by a run of its pieces. -/
namespace Go.Proofs.YtmbhnbladmpnoaaGreat.Ab
open Go Go.RowKit
open Go.ChangeMaps (setBlock)
def pc (F : List Value → St → Res) (X : List Value) (s : St) : Option (List Value × St) := (F X s).bind fun r => match r.1 with
  | .normal => some r.2
  | _ => none
theorem UH {F : List Value → St → Res} {X : List Value} {s : St} {r : List Value × St} (h : pc F X s = some r) : F X s = some (.normal,r.1,r.2) := by
  unfold pc at h
  obtain ⟨⟨e,y⟩,h1,h2⟩ := Option.bind_eq_some_iff.1 h
  cases e with
  | normal => cases h2; exact h1
  | ret => cases h2
  | exit => cases h2
theorem FS.start {n wb : Nat} {ι : Emb} {s : St} {w : World} {args : List Value} {args' : Array Value} (hs : Sim wb ι s.heap w) (ha : All2 (VRel ι) args args'.toList) (hn : args.length ≤ n) :
    FS n wb ι (LA args) s.heap (args' ++ Array.replicate (n - args'.size) undef) w ∧ (args' ++ Array.replicate (n - args'.size) undef).size = n := by
  have hsz : args'.size = args.length := by simpa using ha.length.symm
  exact ⟨⟨hs,fun x _ => U7 ha _ x⟩,by simp; omega⟩
theorem OY {P : Program} {X : Option Nat × Nat} {ops : Array Oper} {i : Nat} {o : Oper} {rest : List Nat} {Q : Exit → Act → World → Prop} {a : Act} {w : World} {R : Value → World → Prop} (ho : ops[i]? = some o) (hg : o.guard = none) (h : OpOk P o a w R)
    (hQ : ∀ v' w',R v' w' → wpOpsIn (FR X) X.2 P ops Q rest (a.put o.dst v') w') : wpOpsIn (FR X) X.2 P ops Q (i :: rest) a w := by
  rw [wpOpsIn_cons]
  unfold wpOpIn
  simp only [ho]
  have hw : Region.wanted o (yielded ops a.tmps) = true := by unfold Region.wanted; rw [hg]
  rw [if_pos hw]
  exact h.wp fun v' w' hr => hQ v' w' hr
theorem Vy {a : Act} {d x : Nat} {v : Value} (hd : d < a.tmps.size) : (a.put (some d) v).tmps.getD x undef = if x = d then v else a.tmps.getD x undef := by
  by_cases e : x = d
  · subst e; rw [if_pos rfl]; exact GG hd
  · rw [if_neg e]; exact KR (by simpa using e)
theorem FS.put {n wb : Nat} {ι : Emb} {T : Fr} {H : List Blk} {a : Act} {w : World} (h : FS n wb ι T H a.tmps w) (hz : a.tmps.size = n) {d : Nat} (hd : d < n) {v v' : Value} (hv : VRel ι v v') : FS n wb ι (setT T d v) H (a.put (some d) v').tmps w := by
  refine ⟨h.sim,fun x hx => ?_⟩
  rw [Vy (by omega)]
  unfold setT
  by_cases e : x = d
  · subst e
    rw [if_pos rfl,Nat.beq_refl,cond_true]
    exact hv
  · have hb : Nat.beq x d = false := by
      cases hb : Nat.beq x d with
      | false => rfl
      | true => exact absurd (Nat.eq_of_beq_eq_true hb) e
    rw [if_neg e,hb,cond_false]
    exact h.nm x hx
theorem FS.poke {n wb : Nat} {ι : Emb} {T : Fr} {H : List Blk} {a : Act} {w : World} (h : FS n wb ι T H a.tmps w) (hz : a.tmps.size = n) {d : Nat} (hd : d < n) (hT : T d = Ct) {v' : Value} : FS n wb ι T H (a.put (some d) v').tmps w := by
  refine ⟨h.sim,fun x hx => ?_⟩
  rw [Vy (by omega)]
  by_cases e : x = d
  · subst e
    rw [if_pos rfl,hT]
    exact .poison _
  · rw [if_neg e]; exact h.nm x hx
theorem FS.weak {n wb : Nat} {ι : Emb} {T T' : Fr} {H : List Blk} {tmps : Array Value} {w : World} (h : FS n wb ι T H tmps w) (hw : ∀ x,T' x = T x ∨ T' x = Ct) : FS n wb ι T' H tmps w := ⟨h.sim,fun x hx => by
  rcases hw x with e | e
  · rw [e]; exact h.nm x hx
  · rw [e]; exact .poison _⟩
def YJ (D : Nat) (v : Value) : Prop := v = Ct ∨ Bb v = true ∨ ∃ b off,v = .pointer (some ⟨b,off,none⟩) ∧ b < D
theorem YJ.rel {D : Nat} {ι κ : Emb} {v v' : Value} (h : YJ D v) (hold : ∀ b,b < D → κ b = ι b) (g : VRel κ v v') : VRel ι v v' := by
  rcases h with rfl | h | ⟨b,off,rfl,hb⟩
  · exact .poison _
  · rw [F7 h g]
    exact Jc h
  · obtain ⟨_,l,hl,rfl⟩ := g.inv_ptr
    exact .of0 (.ptr off (by rw [← hold b hb]; exact hl))
theorem OZ {P : Program} {o : Oper} {a : Act} {w w' : World} {x : Operand} {str : Bool} {v : Value} (ho : o.op = .next x str) (h : (Instr.next (a.eval x) str o.type).run P w = .ok v w') : OpOk P o a w fun v' u => v' = v ∧ u = w' := by
  refine .inl ⟨v,w',?_,rfl,rfl⟩
  simp [execOp,ho,h,Result.andThen]
theorem Ti {P : Program} {o : Oper} {a : Act} {w w' : World} {x : Operand} {v : Value} (ho : o.op = .entry x) (h : (Instr.entry (a.eval x)).run P w = .ok v w') : OpOk P o a w fun v' u => v' = v ∧ u = w' := by
  refine .inl ⟨v,w',?_,rfl,rfl⟩
  simp [execOp,ho,h,Result.andThen]
theorem I3 {P : Program} {o : Oper} {a : Act} {w : World} {x : Operand} {i : Nat} {vs : Array Value} {v : Value} (ho : o.op = .extract x i) (e : a.eval x = .tuple vs) (h : vs[i]? = some v) : OpOk P o a w fun v' u => v' = v ∧ u = w := by
  refine .inl ⟨v,w,?_,rfl,rfl⟩
  simp [execOp,ho,e,Instr.extract,h,Result.andThen]
def Zbv : Code → Array Oper
  | .region _ ops _ => ops
  | _ => #[]
noncomputable abbrev cB : Code := Gh Tryz.f11
noncomputable def ops5 : Array Oper := Zbv (sel [1,1,1,0,1,2,2,0] cB)
noncomputable def ops6 : Array Oper := Zbv (sel [1,1,1,0,1,2,2,1,1,2,0] cB)
theorem YK : cB = .seq (sel [0] cB) (.seq (sel [1,0] cB) (.seq (sel [1,1,0] cB) (.seq (.seq (sel [1,1,1,0,0] cB) (.block 0 (.loop (.seq (.region 5 ops5 false) (.seq (.cond (.tmp 46) .skip (.exit 0)) (.block 1 (.seq (.region 6 ops6 false) (sel [1,1,1,0,1,2,2,1,1,2,1] cB)))))))) (sel [1,1,1,1] cB)))) := by kernel_rfl
theorem ZaG : Tryz.f11.body = some cB := by kernel_rfl
theorem Zff : Tryz.f11.ntmps = 62 := by kernel_rfl
theorem YL : Tryz.f11.results.toList = [.tmp 2] := by kernel_rfl
theorem Zeq : (ops5[0]?).map (fun o => (o.op,o.dst,o.guard)) = some (.next (.tmp 44) false,some 45,none) := by kernel_rfl
theorem Zer : (ops5[1]?).map (fun o => (o.op,o.dst,o.guard)) = some (.extract (.tmp 45) 0,some 46,none) := by kernel_rfl
theorem Zes : ops5.size = 2 := by kernel_rfl
theorem Zet : (ops6[0]?).map (fun o => (o.op,o.dst,o.guard)) = some (.entry (.tmp 44),some 47,none) := by kernel_rfl
theorem Zbw : ops6.size = 6 := by kernel_rfl
theorem Zeu : (ops6.toList.drop 1).all (fun o => EC 62 ops6 o && o.guard.isNone) = true := by kernel_rfl
theorem RY {ops : Array Oper} {i : Nat} {x : Op} {d : Option Tmp} (h : (ops[i]?).map (fun o => (o.op,o.dst,o.guard)) = some (x,d,none)) : ∃ o,ops[i]? = some o ∧ o.op = x ∧ o.dst = d ∧ o.guard = none := by
  obtain ⟨o,h1,h2⟩ := Option.map_eq_some_iff.1 h
  simp only [Prod.mk.injEq] at h2
  exact ⟨o,h1,h2.1,h2.2.1,h2.2.2⟩
noncomputable def F6 (T : List Value) (s : St) : Option (List Value × St) :=
  (Ak 0 (getL T 4)).bind fun v48 => (Ak 1 (getL T 4)).bind fun v49 => (anew [.nilFunc,.nilFunc,.nilFunc] s).bind fun r => (A0 3 r.1 v49 r.2).bind fun s' => some ([getL T 0,getL T 1,getL T 2,v48,r.1,getL T 3],s')
theorem Zfg (R : Aa) (T : List Value) (s : St) : seqB Tryz.prog R [] (ops6.toList.drop 1) (ofL [1,2,3,44,47] 0 T noT) s (fun T s => some (toL [1,2,3,5,6,44] T,s)) = F6 T s := by kernel_rfl
noncomputable def oneC (R : Aa) (X : List Value) (e : Value × Value × Nat) (s : St) : Option (Ex × Value) :=
  (F6 [getL X 0,getL X 1,getL X 2,getL X 3,.tuple #[e.1,e.2.1]] s).bind fun u => (wire_Check.bd R u.1 u.2).bind fun z => some (z.1,getL z.2.1 1)
noncomputable def allC (R : Aa) (X : List Value) (s : St) : List (Value × Value × Nat) → Option Bool
  | [] => some true
  | e :: es => (oneC R X e s).bind fun z => match z with
    | (.normal,_) => allC R X s es
    | (.ret,.int .i64 180) => (allC R X s es).map fun _ => false
    | _ => none
def JL (c : Nat) : List (Value × Value × Nat) → Bool
  | [] => true
  | e :: es => Nat.ble (e.2.2 + 1) c && (es.all fun x => !Nat.beq x.2.2 e.2.2) && JL c es
def Tj (v : Value) (s : St) : Option (Nat × Nat × Nat × List (Value × Value × Nat)) :=
  match v with
  | .pointer (some ⟨bi,0,none⟩) => match s.heap[bi]? with
    | some (.map [(.tuple _,.map (some bm),c)] _) => match s.heap[bm]? with
      | some (.map es c') => cond (Nat.beq c c' && !EX es && JL c es) (some (bi,bm,c,es)) none
      | _ => none
    | _ => none
  | _ => none
def JM (D : Nat) (v : Value) : Bool := match v with
  | .pointer (some ⟨b,_,none⟩) => Nat.ble (b + 1) D
  | v => Bb v
def ZcG : Value → Option Int
  | .int .i64 n => some n
  | _ => none
noncomputable def JN (R : Aa) (x0 : Value) (s : St) : Option Int :=
  (pc (wire_Check.A R) [x0] s).bind fun a =>
  (pc (wire_Check.B R) a.1 a.2).bind fun b =>
  (wire_Check.C R b.1 b.2).bind fun c => match c.1 with
  | .ret => ZcG (getL c.2.1 1)
  | .normal => (pc (wire_Check.D R) c.2.1 c.2.2).bind fun d => (Tj (getL d.1 3) d.2).bind fun i =>
    cond (Nat.ble s.heap.length i.1 && JM d.2.heap.length (getL d.1 0) && JM d.2.heap.length (getL d.1 1) && JM d.2.heap.length (getL d.1 2) && JM d.2.heap.length (getL d.1 3))
      ((allC R d.1 (frzS d.2) i.2.2.2).map fun g => cond g 0 180) none
  | _ => none
theorem ZcH {R : Aa} {T : List Value} {s : St} {r : Ex × List Value × St} (h : wire_Check.bd R T s = some r) : (r.1 = .normal ∧ r.2.1 = [getL T 0,getL T 1,getL T 2,getL T 5]) ∨ (r.1 = .ret ∧ r.2.1 = [getL T 0,.int .i64 180,getL T 2,getL T 5]) := by
  unfold wire_Check.bd at h
  simp only [Option.bind_eq_some_iff] at h
  obtain ⟨_,_,_,_,_,_,_,_,_,_,_,_,v10,_,h⟩ := h
  unfold AA at h
  split at h
  · split at h
    · cases h; exact .inr ⟨rfl,rfl⟩
    · cases h; exact .inl ⟨rfl,rfl⟩
  · cases h
theorem O0 {R : Aa} {X : List Value} {s : St} : ∀ {es : List (Value × Value × Nat)} {g : Bool},allC R X s es = some g →
    (∀ e ∈ es,(∃ v,oneC R X e s = some (.normal,v)) ∨ (oneC R X e s = some (.ret,.int .i64 180) ∧ g = false)) ∧ ((∀ e ∈ es,∃ v,oneC R X e s = some (.normal,v)) → g = true)
  | [],g,h => by
    cases h
    exact ⟨fun e he => (by cases he),fun _ => rfl⟩
  | e :: es,g,h => by
    simp only [allC,Option.bind_eq_some_iff] at h
    obtain ⟨⟨ex,v⟩,h1,h⟩ := h
    split at h
    · rename_i v' heq
      cases heq
      obtain ⟨g1,g2⟩ := O0 h
      refine ⟨fun x hx => ?_,fun hh => g2 fun x hx => hh x (List.mem_cons_of_mem _ hx)⟩
      rcases List.mem_cons.1 hx with rfl | hx
      · exact .inl ⟨_,h1⟩
      · exact g1 x hx
    · rename_i heq
      cases heq
      obtain ⟨g0,h2,rfl⟩ := Option.map_eq_some_iff.1 h
      obtain ⟨g1,g2⟩ := O0 h2
      refine ⟨fun x hx => ?_,fun hh => ?_⟩
      · rcases List.mem_cons.1 hx with rfl | hx
        · exact .inr ⟨h1,rfl⟩
        · rcases g1 x hx with hx | hx
          · exact .inl hx
          · exact .inr ⟨hx.1,rfl⟩
      · obtain ⟨v,hv⟩ := hh e (List.mem_cons_self ..)
        rw [h1] at hv
        cases hv
    · cases h
theorem Vz {c : Nat} : ∀ {es : List (Value × Value × Nat)},JL c es = true → (∀ e ∈ es,e.2.2 < c) ∧ (es.map (·.2.2)).Nodup
  | [],_ => ⟨fun e he => (by cases he),List.nodup_nil⟩
  | e :: es,h => by
    simp only [JL,Bool.and_eq_true,List.all_eq_true,Bool.not_eq_true'] at h
    obtain ⟨⟨h1,h2⟩,h3⟩ := h
    obtain ⟨g1,g2⟩ := Vz h3
    refine ⟨fun x hx => ?_,?_⟩
    · rcases List.mem_cons.1 hx with rfl | hx
      · exact Nat.le_of_ble_eq_true h1
      · exact g1 x hx
    · rw [List.map_cons,List.nodup_cons]
      refine ⟨fun hm => ?_,g2⟩
      obtain ⟨x,hx,he⟩ := List.mem_map.1 hm
      have := h2 x hx
      rw [he,Nat.beq_refl] at this
      cases this
theorem Tk {ι : Emb} : ∀ {es : List (Value × Value × Nat)} {es' : List MapEntry},All2 (G5 ι) es es' → es'.map (·.born) = es.map (·.2.2)
  | [],[],_ => rfl
  | x :: es,e :: es',⟨h1,h2⟩ => by simp [h1.2.2.2,Tk h2]
theorem RZ {α β : Type} {R : α → β → Prop} : ∀ {l : List α} {m : List β} {b : β},All2 R l m → b ∈ m → ∃ a ∈ l,R a b
  | [],[],_,_,h => by cases h
  | a :: l,c :: m,b,⟨h1,h2⟩,h => by
    rcases List.mem_cons.1 h with rfl | h
    · exact ⟨a,List.mem_cons_self ..,h1⟩
    · obtain ⟨x,hx,hr⟩ := RZ h2 h
      exact ⟨x,List.mem_cons_of_mem _ hx,hr⟩
theorem Tl {α β : Type} {R : α → β → Prop} : ∀ {l : List α} {m : List β} {a : α},All2 R l m → a ∈ l → ∃ b ∈ m,R a b
  | [],[],_,_,h => by cases h
  | a :: l,c :: m,b,⟨h1,h2⟩,h => by
    rcases List.mem_cons.1 h with rfl | h
    · exact ⟨c,List.mem_cons_self ..,h1⟩
    · obtain ⟨x,hx,hr⟩ := Tl h2 h
      exact ⟨x,List.mem_cons_of_mem _ hx,hr⟩
structure Kept (rb : Nat) (w v : World) : Prop where
  size : w.heap.size ≤ v.heap.size
  keep : ∀ c,c < w.heap.size → c ≠ rb → v.heap[c]? = w.heap[c]?
  os : v.os = w.os
  tape : v.tape = w.tape
  output : v.output = w.output
theorem Kept.trans {rb : Nat} {w v u : World} (h : Kept rb w v) (g : Kept rb v u) : Kept rb w u := ⟨Nat.le_trans h.size g.size,fun c hc hn => (g.keep c (Nat.lt_of_lt_of_le hc h.size) hn).trans (h.keep c hc hn),g.os.trans h.os,g.tape.trans h.tape,g.output.trans h.output⟩
theorem YM (s : St) : Zb4 (frzS s).heap := fun b es c h => by
  rw [GI] at h
  cases hx : s.heap[b]? with
  | none => rw [hx] at h; cases h
  | some x =>
    rw [hx] at h
    cases x with
    | row n c st => cases st <;> simp [frzB] at h
    | map => simp [frzB] at h
structure Rnd (d : St) (X : List Value) (κ : Emb) (rb mb cl : Nat) (es : List (Value × Value × Nat)) (es' : Array MapEntry) (w4 : World) : Prop where
  ents : All2 (G5 κ) es es'.toList
  map : w4.heap[mb]? = some (.map es' cl)
  ne : mb ≠ rb
  lt : rb < w4.heap.size
  borns : JL cl es = true
  back : ∀ i,i < 4 → YJ d.heap.length (getL X i)
  it : ∃ bi l,getL X 3 = .pointer (some ⟨bi,0,none⟩) ∧ κ bi = some l ∧ l.blk = rb ∧ l.off = 0
abbrev TX (X : List Value) : Fr := ofL [1,2,3,44] 0 X noT
def LInv (R : Aa) (d : St) (X : List Value) (κ : Emb) (rb mb cl : Nat) (es : List (Value × Value × Nat)) (es' : Array MapEntry) (w4 : World) (a : Act) (w : World) : Prop :=
  ∃ seen c0,cl ≤ c0 ∧ w.heap[rb]? = some (.mapIter (some mb) cl seen c0) ∧ (∀ x ∈ es'.toList,seen.contains x.born = true → ∀ e ∈ es,G5 κ e x → ∃ v,oneC R X e (frzS d) = some (.normal,v)) ∧
    FS 62 w4.heap.size κ (TX X) (frzS d).heap a.tmps w ∧ a.tmps.size = 62 ∧ a.defers = [] ∧ Kept rb w4 w
theorem YN {es : List (Value × Value × Nat)} (h : (es.map (·.2.2)).Nodup) {x y : Value × Value × Nat} (hx : x ∈ es) (hy : y ∈ es) (e : x.2.2 = y.2.2) : x = y := by
  induction es with
  | nil => cases hx
  | cons z es ih =>
    rw [List.map_cons,List.nodup_cons] at h
    rcases List.mem_cons.1 hx with hx | hx
    · rcases List.mem_cons.1 hy with hy | hy
      · rw [hx,hy]
      · exact absurd (List.mem_map.2 ⟨y,hy,by rw [← e,hx]⟩) h.1
    · rcases List.mem_cons.1 hy with hy | hy
      · exact absurd (List.mem_map.2 ⟨x,hx,by rw [e,hy]⟩) h.1
      · exact ih h.2 hx hy
theorem YO {R : Aa} (hR : DL Tryz.prog R) {d : St} {X : List Value} {κ : Emb} {rb mb cl : Nat} {es : List (Value × Value × Nat)} {es' : Array MapEntry} {w4 : World} (hd : Rnd d X κ rb mb cl es es' w4)
    (hall : ∀ e ∈ es,(∃ v,oneC R X e (frzS d) = some (.normal,v)) ∨ oneC R X e (frzS d) = some (.ret,.int .i64 180)) {Q : Exit → Act → World → Prop}
    (hdone : (∀ e ∈ es,∃ v,oneC R X e (frzS d) = some (.normal,v)) → ∀ a w,FS 62 w4.heap.size κ (TX X) (frzS d).heap a.tmps w → a.tmps.size = 62 → a.defers = [] → Kept rb w4 w → Q (.exit 0) a w)
    (hret : (∃ e ∈ es,oneC R X e (frzS d) = some (.ret,.int .i64 180)) → ∀ a w,a.tmps.getD 2 undef = .int .i64 180 → a.tmps.size = 62 → a.defers = [] → Kept rb w4 w → Q .ret a w)
    {a : Act} {w : World} (hI : LInv R d X κ rb mb cl es es' w4 a w) :
    (Code.seq (.region 5 ops5 false) (.seq (.cond (.tmp 46) .skip (.exit 0)) (.block 1 (.seq (.region 6 ops6 false) (sel [1,1,1,0,1,2,2,1,1,2,1] cB))))).wpIn (FR (none,0)) 0 Tryz.prog (Exit.then (fun a' w' => LInv R d X κ rb mb cl es es' w4 a' w' ∧ (leftOf es' (w'.iterSeen rb)).size < (leftOf es' (w.iterSeen rb)).size) Q) a w := by
  obtain ⟨seen,c0,hc0,hit,hgood,hfs,hz,hdef,hk⟩ := hI
  have hmlt : mb < w4.heap.size := (Array.getElem?_eq_some_iff.1 hd.map).1
  have hb : w.heap[mb]? = some (.map es' cl) := (hk.keep mb hmlt hd.ne).trans hd.map
  obtain ⟨hbl,hnd⟩ := Vz hd.borns
  have hold : ∀ x ∈ es'.toList,x.born < cl := fun x hx => by
    obtain ⟨e,he,hr⟩ := RZ hd.ents hx
    rw [hr.2.2.2]
    exact hbl e he
  have hnd' : (es'.toList.map (·.born)).Nodup := by rw [Tk hd.ents]; exact hnd
  obtain ⟨bi,lb,hx3,hlb,rfl,hoff⟩ := hd.it
  have hev : a.eval (.tmp 44) = .pointer (some ⟨lb.blk,0,none⟩) := by
    have h44 : VRel κ (getL X 3) (a.tmps.getD 44 undef) := hfs.nm 44 (by decide)
    rw [hx3] at h44
    obtain ⟨_,l,hl,e⟩ := h44.inv_ptr
    rw [hlb] at hl
    cases hl
    rw [hoff] at e
    exact e
  obtain ⟨o0,p0,q0,r0,g0⟩ := RY Zeq
  obtain ⟨o1,p1,q1,r1,g1⟩ := RY Zer
  have hT : ∀ x,x ≠ 1 → x ≠ 2 → x ≠ 3 → x ≠ 44 → TX X x = Ct := fun x h1 h2 h3 h4 => by
    rcases QM (L := [1,2,3,44]) (T2 := TX X) (T0 := noT) x with ⟨hm,_⟩ | ⟨hm,he⟩
    · simp at hm; omega
    · exact he
  refine wpIn_seq (wpIn_region ?_)
  rw [Zes,show List.range 2 = [0,1] from rfl]
  rcases run_next_at (P := Tryz.prog) w o0.type lb.blk mb cl c0 seen es' cl hit hb hold hc0 with ⟨h0,hrun⟩ | ⟨e0,he0,w1,hal,hrun⟩
  · have k0 := OZ (a := a) (w := w) (w' := w) (v := .tuple #[.bool false]) q0 (by rw [hev]; exact hrun)
    refine OY (X := (none,0)) p0 g0 k0 ?_
    intro v' u hh
    rw [hh.1,hh.2,r0]
    have hz1 : (a.put (some 45) (.tuple #[.bool false])).tmps.size = 62 := by rw [Fz]; exact hz
    have k1 := I3 (P := Tryz.prog) (a := a.put (some 45) (.tuple #[.bool false])) (w := w) q1 (vs := #[.bool false]) (v := .bool false) (by show (a.put (some 45) _).tmps.getD 45 undef = _; exact GG (by omega)) rfl
    refine OY (X := (none,0)) p1 g1 k1 ?_
    intro v' u hh
    rw [hh.1,hh.2,r1]
    have hz2 : ((a.put (some 45) (.tuple #[.bool false])).put (some 46) (.bool false)).tmps.size = 62 := by rw [Fz]; exact hz1
    have f1 := hfs.poke hz (d := 45) (by decide) (hT 45 (by decide) (by decide) (by decide) (by decide)) (v' := .tuple #[.bool false])
    have f2 := f1.poke hz1 (d := 46) (by decide) (hT 46 (by decide) (by decide) (by decide) (by decide)) (v' := .bool false)
    refine wpIn_seq (wpIn_cond_false (by show Array.getD _ 46 undef = _; exact GG (by omega)) (wpIn_exit ?_))
    refine hdone (fun e he => ?_) _ _ f2 hz2 (by rw [DB,DB]; exact hdef) hk
    obtain ⟨x,hx,hr⟩ := Tl hd.ents he
    exact hgood x hx (all_seen es' seen h0 x hx) e he hr
  · have hem := (mem_left he0).1
    obtain ⟨e1,he1,hent⟩ := RZ hd.ents hem
    have hrb1 : w1.heap[lb.blk]? = some (.mapIter (some mb) cl seen c0) := by rcases hal with rfl | rfl <;> exact hit
    have hset : (setBlock w1 lb.blk (.mapIter (some mb) cl (seen.push e0.born) cl)).heap[lb.blk]? = some (.mapIter (some mb) cl (seen.push e0.born) cl) ∧ ∀ r',r' ≠ lb.blk → (setBlock w1 lb.blk (.mapIter (some mb) cl (seen.push e0.born) cl)).heap[r']? = w1.heap[r']? := MapKept.heap_set hrb1
    obtain ⟨w2,hw2⟩ : ∃ w2,setBlock w1 lb.blk (.mapIter (some mb) cl (seen.push e0.born) cl) = w2 := ⟨_,rfl⟩
    rw [hw2] at hrun hset
    have hgr : w.grownBy w2 (some lb.blk) := by
      rw [← hw2]
      rcases hal with rfl | rfl
      · exact ⟨rfl,rfl,rfl,by simp [setBlock],fun i _ hi => by rw [hw2]; exact hset.2 i (fun e => hi (by rw [e]))⟩
      · exact ⟨rfl,rfl,rfl,by simp [setBlock],fun i _ hi => by rw [hw2]; exact hset.2 i (fun e => hi (by rw [e]))⟩
    have hit2 := hset.1
    have hb2 : w2.heap[mb]? = some (.map es' cl) := by rw [hgr.block mb (Array.getElem?_eq_some_iff.1 hb).1 (fun e => hd.ne (by cases e; rfl))]; exact hb
    have hk2 : Kept lb.blk w4 w2 := hk.trans ⟨hgr.size,fun c hc hn => hgr.block c hc (fun e => hn (by cases e; rfl)),hgr.os,hgr.tape,hgr.output⟩
    have hfs2 : FS 62 w4.heap.size κ (TX X) (frzS d).heap a.tmps w2 := hfs.grown (YM d) hgr fun r e => by cases e; exact ⟨_,hit,fun _ _ _ e => by cases e⟩
    have k0 := OZ (a := a) (w := w) (w' := w2) (v := .tuple #[.bool true,e0.key,e0.val]) q0 (by rw [hev]; exact hrun)
    refine OY (X := (none,0)) p0 g0 k0 ?_
    intro v' u hh
    rw [hh.1,hh.2,r0]
    obtain ⟨a1,ha1⟩ : ∃ a1,a.put (some 45) (.tuple #[.bool true,e0.key,e0.val]) = a1 := ⟨_,rfl⟩
    have hz1 : a1.tmps.size = 62 := by rw [← ha1,Fz]; exact hz
    have k1 := I3 (P := Tryz.prog) (a := a1) (w := w2) q1 (vs := #[.bool true,e0.key,e0.val]) (v := .bool true) (by rw [← ha1]; show (a.put (some 45) _).tmps.getD 45 undef = _; exact GG (by omega)) rfl
    rw [ha1]
    refine OY (X := (none,0)) p1 g1 k1 ?_
    intro v' u hh
    rw [hh.1,hh.2,r1]
    obtain ⟨a2,ha2⟩ : ∃ a2,a1.put (some 46) (.bool true) = a2 := ⟨_,rfl⟩
    have hz2 : a2.tmps.size = 62 := by rw [← ha2,Fz]; exact hz1
    have f1 : FS 62 w4.heap.size κ (TX X) (frzS d).heap a1.tmps w2 := by rw [← ha1]; exact hfs2.poke hz (d := 45) (by decide) (hT 45 (by decide) (by decide) (by decide) (by decide))
    have f2 : FS 62 w4.heap.size κ (TX X) (frzS d).heap a2.tmps w2 := by rw [← ha2]; exact f1.poke hz1 (d := 46) (by decide) (hT 46 (by decide) (by decide) (by decide) (by decide))
    have hdef2 : a2.defers = [] := by rw [← ha2,← ha1,DB,DB]; exact hdef
    have hev2 : a2.eval (.tmp 44) = .pointer (some ⟨lb.blk,0,none⟩) := by
      have h44 : VRel κ (getL X 3) (a2.tmps.getD 44 undef) := f2.nm 44 (by decide)
      rw [hx3] at h44
      obtain ⟨_,l,hl,e⟩ := h44.inv_ptr
      rw [hlb] at hl
      cases hl
      rw [hoff] at e
      exact e
    rw [ha2]
    refine wpIn_seq (wpIn_cond_true (by rw [← ha2]; show Array.getD _ 46 undef = _; exact GG (by omega)) (wpIn_skip ?_))
    refine wpIn_block (wpIn_seq (wpIn_region ?_))
    rw [Zbw,show List.range 6 = 0 :: (List.range' 1 5 ++ []) from rfl]
    obtain ⟨o6,p6,q6,r6,g6⟩ := RY Zet
    have k6 := Ti (P := Tryz.prog) (a := a2) (w := w2) (w' := w2) (v := .tuple #[e0.key,e0.val]) q6 (by rw [hev2]; exact run_entry_at w2 lb.blk mb cl seen es' cl e0 hit2 hb2 hem hnd')
    refine OY (X := (none,0)) p6 g6 k6 ?_
    intro v' u hh
    rw [hh.1,hh.2,r6]
    obtain ⟨a3,ha3⟩ : ∃ a3,a2.put (some 47) (.tuple #[e0.key,e0.val]) = a3 := ⟨_,rfl⟩
    have hz3 : a3.tmps.size = 62 := by rw [← ha3,Fz]; exact hz2
    have hvt : VRel κ (.tuple #[e1.1,e1.2.1]) (.tuple #[e0.key,e0.val]) := by
      rw [hent.1]
      exact .tuple ⟨JX hent.2.1,hent.2.2.1,trivial⟩
    have f3 : FS 62 w4.heap.size κ (setT (TX X) 47 (.tuple #[e1.1,e1.2.1])) (frzS d).heap a3.tmps w2 := by rw [← ha3]; exact f2.put hz2 (by decide) hvt
    rw [ha3]
    have hout := hall e1 he1
    have hone : ∃ z,oneC R X e1 (frzS d) = some z := by
      rcases hout with ⟨v,h⟩ | h <;> exact ⟨_,h⟩
    obtain ⟨⟨ex,vx⟩,hone⟩ := hone
    have hone' := hone
    unfold oneC at hone'
    simp only [Option.bind_eq_some_iff] at hone'
    obtain ⟨⟨u1,s1⟩,hF6,⟨ez,Xz,sz⟩,hbd,hzz⟩ := hone'
    have hu1 : ∃ v5 v6,u1 = [getL X 0,getL X 1,getL X 2,v5,v6,getL X 3] := by
      have h := hF6
      simp only [F6,Option.bind_eq_some_iff] at h
      obtain ⟨v48,_,v49,_,r,_,s',_,h⟩ := h
      cases h
      exact ⟨_,_,rfl⟩
    have hop := Zfg R [getL X 0,getL X 1,getL X 2,getL X 3,.tuple #[e1.1,e1.2.1]] (frzS d)
    rw [hF6] at hop
    obtain ⟨T6,s6,hk6,hdo6,_⟩ := J1 (P := Tryz.prog) (n := 62) (m := 0) (wb := w4.heap.size) hR (tn := []) rfl (ops := ops6) (G := none) (.inl rfl) (l := ops6.toList.drop 1) (i := 1) (fun j hj => by rw [List.getElem?_drop]; simp) (fun o ho => by
      have := List.all_eq_true.1 Zeu o ho
      simp only [Bool.and_eq_true,Option.isNone_iff_eq_none] at this
      exact this) (fun g t e => by cases e) hop
    cases hk6
    have hlen : (ops6.toList.drop 1).length = 5 := by simp [Zbw]
    rw [hlen] at hdo6
    have hfr : [getL X 0,getL X 1,getL X 2,getL X 3,.tuple #[e1.1,e1.2.1]] = toL [1,2,3,44,47] (cutF 62 (setT (TX X) 47 (.tuple #[e1.1,e1.2.1]))) := rfl
    refine hdo6 (none,0) κ (frzS d).heap w2 κ (fun _ => none) a3 w2 hk2.size (f3.b.weak fun x => by rw [hfr]; exact kept _ _ x) hz3 _ [] fun ι' lam' a' w' g1 g2 g3 => ?_
    have hF : FS 62 w4.heap.size ι' T6 s1.heap a'.tmps w' := g1.fs
    have hS : Step κ (frzS d).heap w2 ι' s1.heap w' := g1.step
    refine seg (X := (none,0)) wire_Check.bd_w (Ij hR wire_Check.bd_w (wire_Check.bd_eq R) (T := T6) hbd) hF g2 fun ι2 f4 w3 k1 k2 k3 k4 => ?_
    have hst := hS.trans k2
    have hkeep : ∀ c,c < w2.heap.size → w3.heap[c]? = w2.heap[c]? := fun c hc => hst.keep c hc fun b y hb => by rw [GJ] at hb; cases hb
    have hdef4 : f4.defers = [] := by rw [k4,g3,← ha3,DB]; exact hdef2
    have hk3 : Kept lb.blk w4 w3 := hk2.trans ⟨hst.size,fun c hc _ => hkeep c hc,hst.os,hst.tape,hst.output⟩
    have hrlt : lb.blk < w2.heap.size := Nat.lt_of_lt_of_le hd.lt hk2.size
    obtain ⟨v5,v6,hu⟩ := hu1
    cases hzz
    rcases ZcH hbd with ⟨hz1',hx'⟩ | ⟨hz1',hx'⟩
    · simp only at hz1' hx'
      subst hz1'
      rw [hu] at hx'
      show LInv R d X κ lb.blk mb cl es es' w4 f4 w3 ∧ _
      have hitx : w3.heap[lb.blk]? = some (.mapIter (some mb) cl (seen.push e0.born) cl) := (hkeep _ hrlt).trans hit2
      refine ⟨⟨seen.push e0.born,cl,Nat.le_refl _,hitx,fun x hx hs e he hr => ?_,⟨hfs2.sim.later hkeep hst.size,fun x hx => ?_⟩,k3,hdef4,hk3⟩,?_⟩
      · rw [contains_push] at hs
        rcases Bool.or_eq_true _ _ ▸ hs with h1 | h1
        · exact hgood x hx h1 e he hr
        · have h1 : x.born = e0.born := beq_iff_eq.1 h1
          have : e = e1 := YN hnd he he1 (by rw [← hr.2.2.2,h1,hent.2.2.2])
          rw [this]
          exact ⟨_,hone⟩
      · have hv := k1.nm x hx
        have hfx : ofL [1,2,3,44] 0 Xz noT = TX X := by rw [hx']; rfl
        rw [hfx] at hv
        refine YJ.rel (D := d.heap.length) (κ := ι2) ?_ (fun b hb => hst.old b (by rw [Ch]; exact hb)) hv
        by_cases c1 : x = 1
        · subst c1; exact hd.back 0 (by decide)
        by_cases c2 : x = 2
        · subst c2; exact hd.back 1 (by decide)
        by_cases c3 : x = 3
        · subst c3; exact hd.back 2 (by decide)
        by_cases c4 : x = 44
        · subst c4; exact hd.back 3 (by decide)
        · exact .inl (hT x c1 c2 c3 c4)
      · have e3 : w3.iterSeen lb.blk = seen.push e0.born := by simp [World.iterSeen,hitx]
        have e4 : w.iterSeen lb.blk = seen := by simp [World.iterSeen,hit]
        rw [e3,e4]
        exact left_shrinks es' seen e0 he0
    · simp only at hz1' hx'
      subst hz1'
      rw [hu] at hx'
      have hv := k1.nm 2 (by decide)
      rw [hx'] at hv
      have hv : VRel ι2 (.int .i64 180) (f4.tmps.getD 2 undef) := hv
      refine hret ⟨e1,he1,?_⟩ f4 w3 hv.inv_int k3 hdef4 hk3
      rw [hone,hx']
      rfl
end Go.Proofs.YtmbhnbladmpnoaaGreat.Ab

/- A function of no arguments,run by the kernel on an empty heap. -/
namespace Go.Proofs.YtmbhnbladmpnoaaGreat.Ab
open Go
theorem Sim.empty (w : World) : Sim w.heap.size (fun _ => none) [] w where
  dom b x h := by cases h
  row b n cells st h := by simp at h
  map b es clock h := by simp at h
  excl a b h := by simp [ownB] at h
  size := Nat.le_refl _
  loc b n cells st h := by simp at h
def R0 (r : Option (Value × St)) : Bool := match r with
  | some (.bool true,_) => true
  | _ => false
theorem Tm {P : Program} {lib : Lib} {Ad : Hd} (hprog : QR P = true) (hlib : Br P lib) {f : FuncId} (hok : Ap P f = true) {j : Nat} (h : R0 (fnB P lib Ad j f [] ⟨[]⟩) = true)
    {s : St} {wb : Nat} {ι : Emb} {w : World} {args' : Array Value} (hs : Sim wb ι s.heap w) (ha : All2 (VRel ι) [] args'.toList) : Calls P f args' w fun e w' => ∃ v',e = .returned v' ∧ A8 wb ι s.heap w s.heap (.bool true) v' w' := by
  unfold R0 at h
  split at h
  case h_2 => cases h
  rename_i t hr
  refine (NL hprog hlib j f [] ⟨[]⟩ _ _ hr hok w.heap.size (fun _ => none) w args' (Sim.empty w) (by
    obtain ⟨l⟩ := args'
    cases l with
    | nil => trivial
    | cons => exact ha.elim)).mono fun e w' ⟨v',he,κ,h1,h2,h3⟩ => ⟨v',he,?_⟩
  have hsame : ∀ c,c < w.heap.size → w'.heap[c]? = w.heap[c]? := fun c hc => h2.keep c hc fun a y ha => by simp [ownB] at ha
  refine ⟨ι,hs.later hsame h2.size,⟨.refl _,fun _ _ => rfl,fun b x hx hb => absurd (hs.dom b x hx) (by omega),fun c hc _ => hsame c hc,h2.size,h2.os,h2.tape,h2.output,Nat.le_refl _,fun _ _ h => h⟩,?_⟩
  have : v' = .bool true := h3.inv_bool
  subst this
  exact .va (.l2 (.l1 (.l0 (.bool _))))
end Go.Proofs.YtmbhnbladmpnoaaGreat.Ab

/- The function that ranges over the map of all fields: what its pieces say is what it says. -/
namespace Go.Proofs.YtmbhnbladmpnoaaGreat.Ab
open Go Go.RowKit
open Go.ChangeMaps (setBlock)
theorem UI {v : Value} {s : St} {bi bm cl : Nat} {es : List (Value × Value × Nat)} (h : Tj v s = some (bi,bm,cl,es)) :
    v = .pointer (some ⟨bi,0,none⟩) ∧ (∃ t k,s.heap[bi]? = some (.map [(.tuple t,.map (some bm),cl)] k)) ∧ s.heap[bm]? = some (.map es cl) ∧ EX es = false ∧ JL cl es = true := by
  unfold Tj at h
  split at h
  case h_2 => cases h
  rename_i b
  split at h
  case h_2 => cases h
  rename_i t m c k hb
  split at h
  case h_2 => cases h
  rename_i es' c' hm
  cases hc : (Nat.beq c c' && !EX es' && JL c es') with
  | false => rw [hc] at h; cases h
  | true =>
    rw [hc] at h
    cases h
    simp only [Bool.and_eq_true,Bool.not_eq_true'] at hc
    rw [← Nat.eq_of_beq_eq_true hc.1.1] at hm
    exact ⟨rfl,⟨t,k,hb⟩,hm,hc.1.2,hc.2⟩
theorem M9 {D : Nat} {v : Value} (h : JM D v = true) : YJ D v := by
  unfold JM at h
  split at h
  · rename_i b off
    exact .inr (.inr ⟨b,off,rfl,Nat.le_of_ble_eq_true h⟩)
  · exact .inr (.inl h)
theorem WK {v : Value} {n : Int} (h : ZcG v = some n) : v = .int .i64 n := by
  unfold ZcG at h
  split at h
  · cases h; rfl
  · cases h
theorem Lr {wb : Nat} {ι : Emb} {s : St} {w : World} (hs : Sim wb ι s.heap w) {r : Int} {a : Act} {w' : World} (h2 : a.tmps.getD 2 undef = .int .i64 r) (hz : a.tmps.size = 62) (hdef : a.defers = []) (hsame : ∀ c,c < w.heap.size → w'.heap[c]? = w.heap[c]?) (hsize : w.heap.size ≤ w'.heap.size) (hos : w'.os = w.os) (htape : w'.tape = w.tape) (hout : w'.output = w.output) :
    bodyPost Tryz.prog Tryz.f11 (fun e w' => ∃ v',e = .returned v' ∧ A8 wb ι s.heap w s.heap (.int .i64 r) v' w') .ret a w' := by
  have hfs : FS 62 w'.heap.size (fun _ => none) (setT noT 2 (.int .i64 r)) (⟨[]⟩ : St).heap a.tmps w' := by
    refine ⟨Sim.empty w',fun x hx => ?_⟩
    by_cases e : x = 2
    · subst e
      rw [h2]
      exact .of0 (.int _ _)
    · have : setT noT 2 (.int .i64 r) x = Ct := by
        unfold setT
        have hb : Nat.beq x 2 = false := by
          cases hb : Nat.beq x 2 with
          | false => rfl
          | true => exact absurd (Nat.eq_of_beq_eq_true hb) e
        rw [hb]
        rfl
      rw [this]
      exact .poison _
  obtain ⟨v',h6,h7⟩ := J8 (P := Tryz.prog) (fn := Tryz.f11) (s := ⟨[]⟩) (m := 0) rfl hfs.b (vs := [.int .i64 r]) (by rw [YL]; rfl) rfl (by rw [YL]; rfl)
  have h7 : VRel (fun _ => none) (.int .i64 r) v' := h7
  rw [h7.inv_int] at h6
  exact ⟨hdef,_,h6,_,rfl,ι,hs.later hsame hsize,⟨.refl _,fun _ _ => rfl,fun b x hx hb => absurd (hs.dom b x hx) (by omega),fun c hc _ => hsame c hc,hsize,hos,htape,hout,Nat.le_refl _,fun _ _ h => h⟩,.of0 (.int _ _)⟩
theorem O1 {R : Aa} (hR : DL Tryz.prog R) {x0 : Value} {s : St} {r : Int} (h : JN R x0 (frzS s) = some r) {wb : Nat} {ι : Emb} {w : World} {args' : Array Value} (hs : Sim wb ι s.heap w) (ha : All2 (VRel ι) [x0] args'.toList) :
    Calls Tryz.prog 11 args' w fun e w' => ∃ v',e = .returned v' ∧ A8 wb ι s.heap w s.heap (.int .i64 r) v' w' := by
  unfold JN at h
  obtain ⟨a1,hA,h⟩ := Option.bind_eq_some_iff.1 h
  obtain ⟨b1,hB,h⟩ := Option.bind_eq_some_iff.1 h
  obtain ⟨⟨ec,Xc,sc⟩,hC,h⟩ := Option.bind_eq_some_iff.1 h
  have hA' := UH hA
  have hB' := UH hB
  refine (callsIn_wide (n := 0)).1 (callsIn_of_wp (F := FR (none,0)) Tryz.func11 ZaG trivial ?_ rfl)
  rw [Zff]
  obtain ⟨hf0,hz0⟩ := FS.start (n := 62) hs.frz ha (by simp)
  rw [YK]
  refine wpIn_seq ?_
  refine seg (X := (none,0)) wire_Check.A_w (Ij hR wire_Check.A_w (wire_Check.A_eq R) (T := LA [x0]) hA') hf0 hz0 fun ι1 f1 w1 g1 g2 g3 g4 => ?_
  refine wpIn_seq ?_
  refine seg (X := (none,0)) wire_Check.B_w (Ij hR wire_Check.B_w (wire_Check.B_eq R) (T := ofL [1,2] 0 a1.1 noT) hB') g1 g3 fun ι2 f2 w2 k1 k2 k3 k4 => ?_
  refine wpIn_seq ?_
  refine seg (X := (none,0)) wire_Check.C_w (Ij hR wire_Check.C_w (wire_Check.C_eq R) (T := ofL [1,2,3,4] 0 b1.1 noT) hC) k1 k3 fun ι3 f3 w3 l1 l2 l3 l4 => ?_
  have hst3 := (g2.trans k2).trans l2
  have own0 : ∀ b y,ownB (frzS s).heap[b]? = true → ι b = some y → ∀ c,y.blk ≠ c := fun b y hb => by rw [GJ] at hb; cases hb
  have hdef3 : f3.defers = [] := by rw [l4,k4,g4]
  cases ec with
  | exit => cases h
  | ret =>
    have hv : VRel ι3 (getL Xc 1) (f3.tmps.getD 2 undef) := l1.nm 2 (by decide)
    rw [WK h] at hv
    exact Lr hs hv.inv_int l3 hdef3 (fun c hc => hst3.keep c hc fun b y hb hy => own0 b y hb hy c) hst3.size hst3.os hst3.tape hst3.output
  | normal =>
    simp only at h
    obtain ⟨d1,hD,h⟩ := Option.bind_eq_some_iff.1 h
    obtain ⟨⟨bi,bm,cl,es⟩,hit,h⟩ := Option.bind_eq_some_iff.1 h
    have hD' := UH hD
    cases hcc : (Nat.ble (frzS s).heap.length bi && JM d1.2.heap.length (getL d1.1 0) && JM d1.2.heap.length (getL d1.1 1) && JM d1.2.heap.length (getL d1.1 2) && JM d1.2.heap.length (getL d1.1 3)) with
    | false => simp only [hcc] at h; cases h
    | true =>
    simp only [hcc,cond_true] at h
    obtain ⟨g,hg,rfl⟩ := Option.map_eq_some_iff.1 h
    simp only [Bool.and_eq_true] at hcc
    obtain ⟨⟨⟨⟨hbi,hb0⟩,hb1⟩,hb2⟩,hb3⟩ := hcc
    obtain ⟨hx3,⟨tt,kk,hbit⟩,hbm,hni,hbo⟩ := UI hit
    show Code.wpIn _ _ _ _ _ _ _
    refine wpIn_seq ?_
    refine wpIn_seq ?_
    refine seg (X := (none,0)) wire_Check.D_w (Ij hR wire_Check.D_w (wire_Check.D_eq R) (T := ofL [1,2,3] 0 Xc noT) hD') l1 l3 fun ι4 f4 w4 m1 m2 m3 m4 => ?_
    have hst4 := hst3.trans m2
    have hdef4 : f4.defers = [] := by rw [m4]; exact hdef3
    have h44 : VRel ι4 (getL d1.1 3) (f4.tmps.getD 44 undef) := m1.nm 44 (by decide)
    rw [hx3] at h44
    obtain ⟨_,lb,hlb,_⟩ := h44.inv_ptr
    obtain ⟨_,⟨_,hoff⟩,ob,hob,hm⟩ := m1.sim.map bi _ kk hbit lb hlb
    obtain ⟨lm,hlm,rfl⟩ : ∃ lm,ι4 bm = some lm ∧ ob = .mapIter (some lm.blk) cl #[] cl := by
      rcases hm with ⟨es',rfl,hm⟩ | ⟨_,_,e,_⟩ | ⟨rr,cc,l,e,hl,rfl⟩
      · obtain ⟨e,_,hm⟩ := hm.get 0 _ rfl
        exact absurd hm.2.1 (by simp [Bb,AZ])
      · cases e
      · simp only [List.cons.injEq,Prod.mk.injEq,Value.map.injEq,Option.some.injEq,and_true] at e
        obtain ⟨_,rfl,rfl⟩ := e
        exact ⟨l,hl,rfl⟩
    obtain ⟨_,_,om,hom,hm2⟩ := m1.sim.map bm es cl hbm lm hlm
    obtain ⟨es',rfl,hents⟩ := hm2.map (by rw [hni]; simp)
    have hne : lm.blk ≠ lb.blk := fun e => by rw [e,hob] at hom; cases hom
    have hblt : lb.blk < w4.heap.size := (Array.getElem?_eq_some_iff.1 hob).1
    have hnew : w.heap.size ≤ lb.blk := by
      rcases hst4.img bi lb hlb (Nat.le_of_ble_eq_true hbi) with h1 | ⟨a,y,hy,_⟩
      · exact h1
      · rw [GJ] at hy; cases hy
    obtain ⟨hall,hall2⟩ := O0 hg
    have hd : Rnd d1.2 d1.1 ι4 lb.blk lm.blk cl es es' w4 := by
      refine ⟨hents,hom,hne,hblt,hbo,fun i hi => ?_,bi,lb,hx3,hlb,rfl,hoff⟩
      match i,hi with
      | 0,_ => exact M9 hb0
      | 1,_ => exact M9 hb1
      | 2,_ => exact M9 hb2
      | 3,_ => exact M9 hb3
      | i + 4,hi => omega
    have hsame : ∀ w',Kept lb.blk w4 w' → ∀ c,c < w.heap.size → w'.heap[c]? = w.heap[c]? := fun w' hk c hc => (hk.keep c (Nat.lt_of_lt_of_le hc hst4.size) (by omega)).trans (hst4.keep c hc fun b y hb hy => own0 b y hb hy c)
    refine wpIn_block (wpIn_loop (LInv R d1.2 d1.1 ι4 lb.blk lm.blk cl es es' w4) (fun _ w' => (leftOf es' (w'.iterSeen lb.blk)).size) ⟨#[],cl,Nat.le_refl _,hob,fun x _ hx => by simp at hx,⟨m1.sim.frz,m1.nm⟩,m3,hdef4,⟨Nat.le_refl _,fun _ _ _ => rfl,rfl,rfl,rfl⟩⟩ fun a5 w5 hI => ?_)
    refine YO hR hd (fun e he => (hall e he).imp id (·.1)) ?_ ?_ hI
    · intro hn a6 w6 n1 n2 n3 n4
      have hgt : g = true := hall2 hn
      subst hgt
      show Code.wpIn _ _ _ _ _ _ _
      refine seg (X := (none,0)) wire_Check.E_w (Ij hR wire_Check.E_w (wire_Check.E_eq R) (T := TX d1.1) (e := .ret) (s' := frzS d1.2) (X' := [.int .i64 0]) rfl) n1 n2 fun ι7 f7 w7 p1 p2 p3 p4 => ?_
      have hv : VRel ι7 (.int .i64 0) (f7.tmps.getD 2 undef) := p1.nm 2 (by decide)
      have hk7 : Kept lb.blk w4 w7 := n4.trans ⟨p2.size,fun c hc _ => p2.keep c hc (fun b y hb => by rw [GJ] at hb; cases hb),p2.os,p2.tape,p2.output⟩
      exact Lr hs hv.inv_int p3 (by rw [p4]; exact n3) (hsame _ hk7) (Nat.le_trans hst4.size hk7.size) (hk7.os.trans hst4.os) (hk7.tape.trans hst4.tape) (hk7.output.trans hst4.output)
    · intro ⟨e,he,hr⟩ a6 w6 n1 n2 n3 n4
      have hgf : g = false := by
        rcases hall e he with ⟨v,hv⟩ | hv
        · rw [hr] at hv; cases hv
        · exact hv.2
      subst hgf
      exact Lr hs n1 n2 n3 (hsame _ n4) (Nat.le_trans hst4.size n4.size) (n4.os.trans hst4.os) (n4.tape.trans hst4.tape) (n4.output.trans hst4.output)
end Go.Proofs.YtmbhnbladmpnoaaGreat.Ab

/- Check: what it says of a message. -/
namespace Go.Proofs.YtmbhnbladmpnoaaGreat.Ab
open Go
set_option maxRecDepth 10000
def lets (l : BL) : List Int := l.map fun b => ((b.toNat : Nat) : Int)
theorem ZaH : ∀ p ∈ AF,(Conv.runesFrom ⟨p.2.1.toArray⟩ (⟨p.2.1.toArray⟩ : ByteArray).size 0 #[]).toList = (lets p.2.1).map fun c => .int .i32 c := by
  intro p hp
  simp only [AF,List.mem_cons,List.not_mem_nil,or_false] at hp
  rcases hp with rfl | rfl | rfl | rfl | rfl | rfl | rfl | rfl | rfl | rfl | rfl | rfl | rfl | rfl <;> kernel_rfl
abbrev ZcI : NCod Int := .ofC (intC .i32) fun _ => True
theorem WL {s : St} {b : Nat} {l : List Int} (h : s.heap[b]? = some (.row 1 (l.map fun c => .int .i32 c) .act)) (hl : l.length ≤ 1000) : Cm ZcI 4 l s (.slice (some ⟨b,0,none⟩) l.length l.length) := by
  refine ⟨by unfold reachBytes; omega,.inr ⟨b,l.map fun c => [.int .i32 c],.act,1,rfl,?_,by simp,?_⟩⟩
  · rw [h]
    congr 2
    clear h hl
    induction l with
    | nil => rfl
    | cons a l ih => simp only [List.map_cons,List.flatten_cons,← ih]; rfl
  · clear h hl
    induction l with
    | nil => trivial
    | cons a l ih => exact ⟨⟨rfl,trivial⟩,ih⟩
theorem WM {R : Aa} {s : St} {v : Value} {l : List Int} {x : Int} (h : Cm ZcI 4 l s v) (hl : l.length < 140737488355328) : ∀ (rest : List Int) (i : Nat),l.drop i = rest → i ≤ l.length →
    AV (slices_Index_rune_rune.b0 R) [v,.int .i32 x,.int .i64 ((l.length : Nat) : Int),.int .i64 (i : Int)] s = match idxP (fun n => x == n) i rest with | some k => some (.ret,[.int .i64 (k : Int)],s) | none => some (.exit 0,[],s) := by
  intro rest
  induction rest with
  | nil =>
    intro i hi hle
    have h1 : decide ((i : Int) < ((l.length : Nat) : Int)) = false := by
      have := List.drop_eq_nil_iff.1 hi
      simp; omega
    rw [As]
    simp only [slices_Index_rune_rune.b0,h1,idxP,EVs]
  | cons a rest ih =>
    intro i hi hle
    obtain ⟨hlt,he,hd⟩ := RI hi
    have h1 : decide ((i : Int) < ((l.length : Nat) : Int)) = true := by simp; omega
    obtain ⟨q,u,cs,h2,h3,_,h4,h5⟩ := OH h hlt (n := 1) rfl (ag := false) (.inr rfl)
    rw [he] at h5
    have hu : u = .int .i32 a := by
      obtain ⟨e,_⟩ := h5
      have h4 : cs = [u] := h4
      rw [h4] at e
      exact (List.cons.inj e).1
    subst hu
    have nx := ih (i + 1) hd (by omega)
    rw [As]
    rcases Bool.eq_false_or_eq_true (x == a) with c | c
    · simp only [slices_Index_rune_rune.b0,h1,h2,h3,c,idxP,if_true,EVs]
    · simp only [slices_Index_rune_rune.b0,h1,h2,h3,c,idxP,Bool.false_eq_true,if_false,Wl (show i < 140737488355328 by omega),EVs]
      exact nx
variable {R : Aa} (Q : WrH R)
include Q
theorem WN {s : St} {v : Value} {l : List Int} {x : Int} (h : Cm ZcI 4 l s v) : R 23 [v,.int .i32 x] s = some (.bool (l.any fun n => x == n),s) := by
  have hl := Dx (by decide) h
  have k1 := WM (R := R) (x := x) h hl l 0 rfl (Nat.zero_le _)
  rw [show ((0 : Nat) : Int) = 0 from rfl] at k1
  have ha := RN (p := fun n => x == n) (l := l) (i := 0)
  have hidx : ∃ k : Int,R 111 [v,.int .i32 x] s = some (.int .i64 k,s) ∧ decide (k ≥ 0) = l.any fun n => x == n := by
    cases hk : idxP (fun n => x == n) 0 l with
    | none =>
      rw [hk] at k1 ha
      refine ⟨-1,Q.slices_Index_rune_rune ?_,by rw [← ha]; rfl⟩
      unfold slices_Index_rune_rune
      simp only [Bx h,k1,ZM (v := .int .i64 (-1)) rfl,EVs]
    | some k =>
      rw [hk] at k1 ha
      refine ⟨(k : Int),Q.slices_Index_rune_rune ?_,by rw [← ha]; simp⟩
      unfold slices_Index_rune_rune
      simp only [Bx h,k1,ZM (v := .int .i64 (k : Int)) rfl,EVs]
  obtain ⟨k,h1,h2⟩ := hidx
  refine Q.slices_Contains_rune_rune ?_
  unfold slices_Contains_rune_rune
  simp only [Fc,h1,h2,EVs]
  exact ret1 rfl
theorem ZcJ {p : Int × BL × Nat × Nat × Nat} (hp : p ∈ AF) {Pt : St → Prop} (hPt : ∀ s t,Pt s → Ext s.heap.length s t → Pt t) {M F : Nat} {t2 t44 : Value} {s : St} (hs : Pt s) {g1 g2 g3 : Value} (hF : readRow s F = some [sv p.2.1,g1,g2,g3]) {e : Value × Value × Nat} {q : Int × Bool} (he : ZOk R M Pt e q) :
    oneC R [mp M,t2,.pointer (some ⟨F,0,none⟩),t44] e s = some (if ((lets p.2.1).any (fun n => q.1 == n) || q.2) = true then (.normal,t2) else (.ret,.int .i64 180)) := by
  obtain ⟨h1,x,y,z,h2,h3,h4⟩ := he
  have hlen : p.2.1.length ≤ 1000 := by
    simp only [AF,List.mem_cons,List.not_mem_nil,or_false] at hp
    rcases hp with rfl | rfl | rfl | rfl | rfl | rfl | rfl | rfl | rfl | rfl | rfl | rfl | rfl | rfl <;> decide
  have hll : (lets p.2.1).length = p.2.1.length := by simp [lets]
  -- the struct of the field
  have n1 : anew [.nilFunc,.nilFunc,.nilFunc] s = some (.pointer (some ⟨s.heap.length,0,none⟩),s.push (.row 0 [.nilFunc,.nilFunc,.nilFunc] .act)) := rfl
  have n2 : A0 3 (.pointer (some ⟨s.heap.length,0,none⟩)) (.agg #[x,y,z]) (s.push (.row 0 [.nilFunc,.nilFunc,.nilFunc] .act)) = some (s.push (.row 0 [x,y,z] .act)) := by
    have := Iq (s := s.push (.row 0 [.nilFunc,.nilFunc,.nilFunc] .act)) (B := s.heap.length) (m := 3) (vs := [x,y,z]) AE rfl rfl h3
    rw [show (Value.agg #[x,y,z]) = .agg [x,y,z].toArray from rfl,this]
    simp [St.push,St.putB]
  have hx1 : Ext s.heap.length s (s.push (.row 0 [x,y,z] .act)) := .push _ (Nat.le_refl _) _
  have e6 : F6 [mp M,t2,.pointer (some ⟨F,0,none⟩),t44,.tuple #[e.1,e.2.1]] s = some ([mp M,t2,.pointer (some ⟨F,0,none⟩),.int .i32 q.1,.pointer (some ⟨s.heap.length,0,none⟩),t44],s.push (.row 0 [x,y,z] .act)) := by
    have a0 : Ak 0 (.tuple #[e.1,e.2.1]) = some (.int .i32 q.1) := by rw [h1,h2]; rfl
    have a1 : Ak 1 (.tuple #[e.1,e.2.1]) = some (.agg #[x,y,z]) := by rw [h2]; rfl
    unfold F6
    simp only [BT,CU,Dh,DD,J9,a0,a1,n1,n2,Option.bind_some]
  have hc : readRow (s.push (.row 0 [x,y,z] .act)) s.heap.length = some [x,y,z] := El AE (by simp)
  have hFf := BO hx1 hF
  obtain ⟨s1,hs1⟩ : ∃ s1,s.push (.row 0 [x,y,z] .act) = s1 := ⟨_,rfl⟩
  rw [hs1] at e6 hc hFf hx1
  -- the letters
  have r1 : JT (sv p.2.1) s1 = some (.slice (some ⟨s1.heap.length,0,none⟩) (lets p.2.1).length (lets p.2.1).length,s1.push (.row 1 ((lets p.2.1).map fun c => .int .i32 c) .act)) := by
    have := ZaH p hp
    have hsz : (Conv.runesFrom ⟨p.2.1.toArray⟩ (⟨p.2.1.toArray⟩ : ByteArray).size 0 #[]).size = (lets p.2.1).length := by rw [← Array.length_toList,this]; simp
    show some (Value.slice _ (Conv.runesFrom ⟨p.2.1.toArray⟩ (⟨p.2.1.toArray⟩ : ByteArray).size 0 #[]).size (Conv.runesFrom ⟨p.2.1.toArray⟩ (⟨p.2.1.toArray⟩ : ByteArray).size 0 #[]).size,s1.push (.row 1 (Conv.runesFrom ⟨p.2.1.toArray⟩ (⟨p.2.1.toArray⟩ : ByteArray).size 0 #[]).toList .act)) = _
    rw [this,hsz]
  have hx2 : Ext s1.heap.length s1 (s1.push (.row 1 ((lets p.2.1).map fun c => .int .i32 c) .act)) := .push _ (Nat.le_refl _) _
  have hcon := WN Q (x := q.1) (WL (s := s1.push (.row 1 ((lets p.2.1).map fun c => .int .i32 c) .act)) AE (by omega))
  have hc2 := BO hx2 hc
  have hz := h4 _ (hPt _ _ (hPt _ _ hs hx1) hx2)
  generalize s1.push (.row 1 ((lets p.2.1).map fun c => .int .i32 c) .act) = s2 at *
  have a1 : Ac 0 (.pointer (some ⟨F,0,none⟩)) = some (.pointer (some ⟨F,0,none⟩)) := rfl
  have a2 : ∀ b,Ac 2 (.pointer (some ⟨b,0,none⟩)) = some (.pointer (some ⟨b,2,none⟩)) := fun b => by simp [Ac]
  have l1 : Aq false 1 (.pointer (some ⟨F,0,none⟩)) s1 = some (sv p.2.1) := CJ hFf rfl
  have l2 : Aq false 1 (.pointer (some ⟨s.heap.length,2,none⟩)) s2 = some z := CJ hc2 rfl
  unfold oneC
  simp only [BT,CU,Dh,DD,e6,Option.bind_some]
  unfold wire_Check.bd
  simp only [BT,CU,Dh,DD,J9,LP,a1,l1,r1,Option.bind_some,Ef,hcon,EVs]
  cases hb : (lets p.2.1).any (fun n => q.1 == n) with
  | true => simp only [Bool.not_true,EVs,Bool.true_or,if_true]
  | false =>
    simp only [Bool.not_false,a2,l2,hz,EVs,Bool.false_or]
    cases q.2 with
    | true => simp only [Bool.not_true,EVs,if_true]
    | false => simp only [Bool.not_false,EVs,Bool.false_eq_true,if_false]
theorem Qq {p : Int × BL × Nat × Nat × Nat} (hp : p ∈ AF) {Pt : St → Prop} (hPt : ∀ s t,Pt s → Ext s.heap.length s t → Pt t) {M F : Nat} {t2 t44 : Value} {s : St} (hs : Pt s) {g1 g2 g3 : Value} (hF : readRow s F = some [sv p.2.1,g1,g2,g3]) : ∀ {es : List (Value × Value × Nat)} {qs : List (Int × Bool)},All2 (ZOk R M Pt) es qs →
    allC R [mp M,t2,.pointer (some ⟨F,0,none⟩),t44] s es = some (qs.all fun q => (lets p.2.1).any (fun n => q.1 == n) || q.2)
  | [],[],_ => rfl
  | e :: es,q :: qs,⟨h1,h2⟩ => by
    have ih := Qq hp hPt (t2 := t2) (t44 := t44) hs hF h2
    have h := ZcJ Q hp hPt (t2 := t2) (t44 := t44) hs hF h1
    simp only [allC,h,Option.bind_some,List.all_cons]
    cases hb : ((lets p.2.1).any (fun n => q.1 == n) || q.2) with
    | true => simp only [if_true,ih,Bool.true_and]
    | false => simp only [Bool.false_eq_true,if_false,ih,Option.map_some,Bool.false_and]
omit Q
def M0 (m : Ms) : Bool := match CC m.kind with
  | none => true
  | some p => ((!Lq p.2.1 m.src || !Lq p.2.2.1 m.dst) || m.client != 0) || !KG p.2.2.2 m
def O2 (m : Ms) : Bool := match CC m.kind with
  | none => true
  | some p => !(zTab m).all fun q => (lets p.1).any (fun n => q.1 == n) || q.2
def eMs (m : Ms) : Int := if (M0 m || O2 m) = true then 180 else 0
theorem Em {k : Int} {p : BL × Nat × Nat × Nat} (h : CC k = some p) : (k,p) ∈ AF := by
  unfold CC at h
  obtain ⟨q,h1,rfl⟩ := Option.map_eq_some_iff.1 h
  have h2 := List.mem_of_find?_eq_some h1
  have h3 := List.find?_some h1
  have : q.1 = k := by simpa using h3
  rw [← this]
  exact h2
theorem YP {k : Int} {p : BL × Nat × Nat × Nat} (h : CC k = some p) : p.2.1 ∈ Ma ∧ p.2.2.1 ∈ Ma ∧ p.2.2.2 ∈ Vv := by
  have hm := Em h
  have key : ∀ q ∈ AF,q.2.2.1 ∈ Ma ∧ q.2.2.2.1 ∈ Ma ∧ q.2.2.2.2 ∈ Vv := by decide
  exact key _ hm
end Go.Proofs.YtmbhnbladmpnoaaGreat.Ab

/- Check: the run of its pieces; what is Bq of it. -/
namespace Go.Proofs.YtmbhnbladmpnoaaGreat.Ab
open Go
set_option maxRecDepth 10000
theorem ZcK {s : St} {b n : Nat} {cells : List Value} {st : Stat} (h : s.heap[b]? = some (.row n cells st)) (hst : st ≠ .dead) : ∃ st',(frzS s).heap[b]? = some (.row n cells st') ∧ st' ≠ .dead := by
  rw [GI,h]
  cases st with
  | dead => exact absurd rfl hst
  | act => exact ⟨.ro,rfl,by simp⟩
  | ro => exact ⟨.ro,rfl,by simp⟩
theorem KH {α : Type} {C : NCod α} (hC : ∀ a s cs,C.rel a s cs → C.rel a (frzS s) cs) {B : Nat} {l : List α} {s : St} {v : Value} (h : Cm C B l s v) : Cm C B l (frzS s) v := by
  obtain ⟨h1,h2⟩ := h
  refine ⟨h1,?_⟩
  rcases h2 with h2 | ⟨b,css,st,k,g1,g2,g3,g4⟩
  · exact .inl h2
  · obtain ⟨st',k1,k2⟩ := ZcK g2 g3
    exact .inr ⟨b,css,st',k,g1,k1,k2,g4.mono fun a c h => hC a s c h⟩
theorem Zev (a : Rs) (s : St) (cs : List Value) (h : rsN.rel a s cs) : rsN.rel a (frzS s) cs := by
  obtain ⟨_,_,rfl,h1,_,_,rfl,h2,_,_,rfl,⟨l,rfl,hl⟩,rfl⟩ := h
  exact ⟨_,_,rfl,h1,_,_,rfl,h2,_,_,rfl,⟨l,rfl,KH (fun _ _ _ h => h) hl⟩,rfl⟩
theorem MsV.frz {m : Ms} {s : St} {vo vr vw : Value} (h : MsV m s vo vr vw) : MsV m (frzS s) vo vr vw := ⟨h.wf,KH (fun _ _ _ h => h) h.o,KH Zev h.r,KH (fun _ _ _ h => h) h.w⟩
section
variable {R : Aa} (Q : WrH R)
include Q
theorem YQ {m : Ms} {s : St} {vo vr vw : Value} (h : MsV m s vo vr vw) {p : BL × Nat × Nat × Nat} (hp : CC m.kind = some p) {M F : Nat} (hM : readRow s M = some (msC m vo vr vw)) (hF : readRow s F = some [sv p.1,fnV p.2.1,fnV p.2.2.1,fnV p.2.2.2]) :
    ∃ t,Ext s.heap.length s t ∧ wire_Check.C R [mp M,.int .i64 0,.pointer (some ⟨F,0,none⟩),.bool true] s = some (if M0 m = true then (.ret,[mp M,.int .i64 180,.pointer (some ⟨F,0,none⟩)],t) else (.normal,[mp M,.int .i64 0,.pointer (some ⟨F,0,none⟩)],t)) := by
  obtain ⟨f1,f2,f3⟩ := YP hp
  have a1 : ∀ b i,Ac i (.pointer (some ⟨b,0,none⟩)) = some (.pointer (some ⟨b,i,none⟩)) := fun b i => by simp [Ac]
  have lF1 : Aq false 1 (.pointer (some ⟨F,1,none⟩)) s = some (fnV p.2.1) := CJ hF rfl
  have lF2 : Aq false 1 (.pointer (some ⟨F,2,none⟩)) s = some (fnV p.2.2.1) := CJ hF rfl
  have lF3 : Aq false 1 (.pointer (some ⟨F,3,none⟩)) s = some (fnV p.2.2.2) := CJ hF rfl
  have lM1 : Aq false 1 (.pointer (some ⟨M,1,none⟩)) s = some (.int .i64 m.src) := CJ hM rfl
  have lM2 : Aq false 1 (.pointer (some ⟨M,2,none⟩)) s = some (.int .i64 m.dst) := CJ hM rfl
  have lM3 : Aq false 1 (.pointer (some ⟨M,3,none⟩)) s = some (.int .i64 m.client) := CJ hM rfl
  have lM : Aq true 21 (.pointer (some ⟨M,0,none⟩)) s = some (mV m vo vr vw) := YH hM rfl
  have c1 := Vu Q f1 m.src s
  have c2 := Vu Q f2 m.dst s
  obtain ⟨t,c3,hx⟩ := ZaE Q f3 h
  have hbad : M0 m = (((!Lq p.2.1 m.src || !Lq p.2.2.1 m.dst) || m.client != 0) || !KG p.2.2.2 m) := by unfold M0; rw [hp]
  rw [hbad]
  unfold wire_Check.C
  simp only [BT,CU,Dh,DD]
  cases b1 : Lq p.2.1 m.src with
  | false =>
    refine ⟨s,.refl _ _,?_⟩
    simp only [a1,lF1,lM1,c1,b1,Bool.not_true,Bool.not_false,Bool.true_or,if_true,EVs]
  | true =>
    cases b2 : Lq p.2.2.1 m.dst with
    | false =>
      refine ⟨s,.refl _ _,?_⟩
      simp only [a1,lF1,lM1,lF2,lM2,c1,c2,b1,b2,Bool.not_true,Bool.not_false,Bool.true_or,Bool.or_true,Bool.false_or,if_true,EVs]
    | true =>
      cases b3 : m.client != 0 with
      | true =>
        refine ⟨s,.refl _ _,?_⟩
        simp only [a1,lF1,lM1,lF2,lM2,lM3,c1,c2,b1,b2,b3,Bool.not_true,Bool.not_false,Bool.true_or,Bool.or_true,Bool.false_or,Bool.or_false,if_true,EVs]
      | false =>
        cases b4 : KG p.2.2.2 m with
        | false =>
          refine ⟨t,hx,?_⟩
          rw [b4] at c3
          simp only [a1,lF1,lM1,lF2,lM2,lM3,lF3,lM,c1,c2,c3,b1,b2,b3,Bool.not_true,Bool.not_false,Bool.true_or,Bool.or_true,Bool.false_or,Bool.or_false,if_true,EVs]
        | true =>
          refine ⟨t,hx,?_⟩
          rw [b4] at c3
          simp only [a1,lF1,lM1,lF2,lM2,lM3,lF3,lM,c1,c2,c3,b1,b2,b3,Bool.not_true,Bool.not_false,Bool.true_or,Bool.or_true,Bool.false_or,Bool.or_false,Bool.false_eq_true,if_false,EVs]
theorem ZaI {m : Ms} {s : St} {vo vr vw : Value} (h : MsV m s vo vr vw) : JN R (mV m vo vr vw) s = some (eMs m) := by
  have hc : An (mV m vo vr vw) = msC m vo vr vw := by simp [An]
  have n1 : anew (msC m vo vr vw) s = some (mp s.heap.length,s.push (.row 0 (msC m vo vr vw) .act)) := by unfold anew; rw [if_pos h.leaf]
  have hx1 : Ext s.heap.length s (s.push (.row 0 (msC m vo vr vw) .act)) := .push _ (Nat.le_refl _) _
  have h1 := h.ext hx1
  have hM1 : readRow (s.push (.row 0 (msC m vo vr vw) .act)) s.heap.length = some (msC m vo vr vw) := El AE (by simp)
  have hlen1 : (s.push (.row 0 (msC m vo vr vw) .act)).heap.length = s.heap.length + 1 := AJ
  obtain ⟨s1,e1⟩ : ∃ s1,s.push (.row 0 (msC m vo vr vw) .act) = s1 := ⟨_,rfl⟩
  rw [e1] at n1 hx1 h1 hM1 hlen1
  have a0 : ∀ b,Ac 0 (.pointer (some ⟨b,0,none⟩)) = some (.pointer (some ⟨b,0,none⟩)) := fun b => rfl
  have l0 : Aq false 1 (mp s.heap.length) s1 = some (.int .i64 m.kind) := CJ hM1 rfl
  have n2 : anew [(.string ⟨#[]⟩),.nilFunc,.nilFunc,.nilFunc] s1 = some (.pointer (some ⟨s1.heap.length,0,none⟩),s1.push (.row 0 [(.string ⟨#[]⟩),.nilFunc,.nilFunc,.nilFunc] .act)) := rfl
  have hA : pc (wire_Check.A R) [mV m vo vr vw] s = some ([mp s.heap.length,.int .i64 0],s1) := by
    unfold pc wire_Check.A
    simp only [BT,hc,n1,Option.bind_some]
  cases hp : CC m.kind with
  | none =>
    have hB : pc (wire_Check.B R) [mp s.heap.length,.int .i64 0] s1 = some ([mp s.heap.length,.int .i64 0,.pointer (some ⟨s1.heap.length,0,none⟩),.bool false],s1.push (.row 0 [(.string ⟨#[]⟩),.nilFunc,.nilFunc,.nilFunc] .act)) := by
      have hf : frmV m.kind = .agg #[sv [],.nilFunc,.nilFunc,.nilFunc] := by unfold frmV; rw [hp]
      have x0 : Ak 0 (.tuple #[frmV m.kind,.bool (CC m.kind).isSome]) = some (.agg #[sv [],.nilFunc,.nilFunc,.nilFunc]) := by rw [hf]; rfl
      have x1 : Ak 1 (.tuple #[frmV m.kind,.bool (CC m.kind).isSome]) = some (.bool false) := by rw [hp]; rfl
      have st : A0 4 (.pointer (some ⟨s1.heap.length,0,none⟩)) (.agg #[sv [],.nilFunc,.nilFunc,.nilFunc]) (s1.push (.row 0 [(.string ⟨#[]⟩),.nilFunc,.nilFunc,.nilFunc] .act)) = some (s1.push (.row 0 [(.string ⟨#[]⟩),.nilFunc,.nilFunc,.nilFunc] .act)) := by
        have := Iq (s := s1.push (.row 0 [(.string ⟨#[]⟩),.nilFunc,.nilFunc,.nilFunc] .act)) (B := s1.heap.length) (m := 4) (vs := [sv [],.nilFunc,.nilFunc,.nilFunc]) AE rfl rfl rfl
        rw [show (Value.agg #[sv [],.nilFunc,.nilFunc,.nilFunc]) = .agg [sv [],.nilFunc,.nilFunc,.nilFunc].toArray from rfl,this]
        simp [St.push,St.putB,sv]
      unfold pc wire_Check.B
      simp only [BT,CU,a0,l0,Dq,Q.form,x0,x1,n2,st,Option.bind_some]
    have he : eMs m = 180 := by
      have : M0 m = true := by unfold M0; rw [hp]
      unfold eMs
      rw [this]
      rfl
    unfold JN
    simp only [hA,hB,Option.bind_some]
    unfold wire_Check.C
    simp only [BT,CU,Dh,DD,Bool.not_false,EVs]
    rw [he]
    rfl
  | some p =>
    have hpm := Em hp
    have hlf : [sv p.1,fnV p.2.1,fnV p.2.2.1,fnV p.2.2.2].all AH = true := rfl
    have hB : pc (wire_Check.B R) [mp s.heap.length,.int .i64 0] s1 = some ([mp s.heap.length,.int .i64 0,.pointer (some ⟨s1.heap.length,0,none⟩),.bool true],s1.push (.row 0 [sv p.1,fnV p.2.1,fnV p.2.2.1,fnV p.2.2.2] .act)) := by
      have hf : frmV m.kind = fmB p := by unfold frmV; rw [hp]
      have x0 : Ak 0 (.tuple #[frmV m.kind,.bool (CC m.kind).isSome]) = some (.agg [sv p.1,fnV p.2.1,fnV p.2.2.1,fnV p.2.2.2].toArray) := by rw [hf]; rfl
      have x1 : Ak 1 (.tuple #[frmV m.kind,.bool (CC m.kind).isSome]) = some (.bool true) := by rw [hp]; rfl
      have st : A0 4 (.pointer (some ⟨s1.heap.length,0,none⟩)) (.agg [sv p.1,fnV p.2.1,fnV p.2.2.1,fnV p.2.2.2].toArray) (s1.push (.row 0 [(.string ⟨#[]⟩),.nilFunc,.nilFunc,.nilFunc] .act)) = some (s1.push (.row 0 [sv p.1,fnV p.2.1,fnV p.2.2.1,fnV p.2.2.2] .act)) := by
        have := Iq (s := s1.push (.row 0 [(.string ⟨#[]⟩),.nilFunc,.nilFunc,.nilFunc] .act)) (B := s1.heap.length) (m := 4) (vs := [sv p.1,fnV p.2.1,fnV p.2.2.1,fnV p.2.2.2]) AE rfl rfl rfl
        rw [this]
        simp [St.push,St.putB]
      unfold pc wire_Check.B
      simp only [BT,CU,a0,l0,Dq,Q.form,x0,x1,n2,st,Option.bind_some]
    have hx2 : Ext s1.heap.length s1 (s1.push (.row 0 [sv p.1,fnV p.2.1,fnV p.2.2.1,fnV p.2.2.2] .act)) := .push _ (Nat.le_refl _) _
    have h2 := h1.ext hx2
    have hM2 := BO hx2 hM1
    have hF2 : readRow (s1.push (.row 0 [sv p.1,fnV p.2.1,fnV p.2.2.1,fnV p.2.2.2] .act)) s1.heap.length = some [sv p.1,fnV p.2.1,fnV p.2.2.1,fnV p.2.2.2] := El AE (by simp)
    have hlen2 : (s1.push (.row 0 [sv p.1,fnV p.2.1,fnV p.2.2.1,fnV p.2.2.2] .act)).heap.length = s1.heap.length + 1 := AJ
    generalize s1.push (.row 0 [sv p.1,fnV p.2.1,fnV p.2.2.1,fnV p.2.2.2] .act) = s2 at *
    obtain ⟨t,hxt,hC⟩ := YQ Q h2 hp hM2 hF2
    unfold JN
    simp only [hA,hB,hC,Option.bind_some]
    unfold eMs
    cases hb : M0 m with
    | true =>
      simp only [if_true,Bool.true_or]
      rfl
    | false =>
      simp only [Bool.false_eq_true,if_false,Bool.false_or]
      obtain ⟨Ht⟩ := t
      have hall := H8 Q Ht
      have hg : (Ht ++ (Blk.map (AI Ht.length) 16 :: Al))[Ht.length]? = some (.map (AI Ht.length) 16) := by rw [List.getElem?_append_right (Nat.le_refl _),Nat.sub_self]; rfl
      have har : KN (.map (some Ht.length)) ⟨Ht ++ (.map (AI Ht.length) 16 :: Al)⟩ = some (.pointer (some ⟨(Ht ++ (Blk.map (AI Ht.length) 16 :: Al)).length,0,none⟩),(⟨Ht ++ (.map (AI Ht.length) 16 :: Al)⟩ : St).push (.map [(.tuple #[],.map (some Ht.length),16)] 0)) := by
        unfold KN
        simp only [hg]
        rfl
      have hxa : Ext (⟨Ht⟩ : St).heap.length ⟨Ht⟩ ⟨Ht ++ (.map (AI Ht.length) 16 :: Al)⟩ := K4 Ht _
      have hxb : Ext (⟨Ht ++ (Blk.map (AI Ht.length) 16 :: Al)⟩ : St).heap.length ⟨Ht ++ (.map (AI Ht.length) 16 :: Al)⟩ ((⟨Ht ++ (.map (AI Ht.length) 16 :: Al)⟩ : St).push (.map [(.tuple #[],.map (some Ht.length),16)] 0)) := .push _ (Nat.le_refl _) _
      have hrows : ∀ i f,Al[i]? = some (rowF f) → readRow (⟨Ht ++ (Blk.map (AI Ht.length) 16 :: Al)⟩ : St) (Ht.length + 1 + i) = some [fnV f] := fun i f hi => by
        refine El (st := .act) (n := 0) ?_ (by simp)
        rw [List.getElem?_append_right (by omega),show Ht.length + 1 + i - Ht.length = i + 1 by omega,List.getElem?_cons_succ,hi]
        rfl
      obtain ⟨s4,e4⟩ : ∃ s4,(⟨Ht ++ (.map (AI Ht.length) 16 :: Al)⟩ : St).push (.map [(.tuple #[],.map (some Ht.length),16)] 0) = s4 := ⟨_,rfl⟩
      have hlen4 : s4.heap.length = (Ht ++ (Blk.map (AI Ht.length) 16 :: Al)).length + 1 := by rw [← e4,AJ]
      have hbi : s4.heap[(Ht ++ (Blk.map (AI Ht.length) 16 :: Al)).length]? = some (.map [(.tuple #[],.map (some Ht.length),16)] 0) := by rw [← e4]; exact AE
      have hbm : s4.heap[Ht.length]? = some (.map (AI Ht.length) 16) := by
        rw [← e4,C4 (by simp)]
        exact hg
      rw [e4] at har hxb
      have hD : pc (wire_Check.D R) [mp s.heap.length,.int .i64 0,.pointer (some ⟨s1.heap.length,0,none⟩)] ⟨Ht⟩ = some ([mp s.heap.length,.int .i64 0,.pointer (some ⟨s1.heap.length,0,none⟩),.pointer (some ⟨(Ht ++ (Blk.map (AI Ht.length) 16 :: Al)).length,0,none⟩)],s4) := by
        unfold pc wire_Check.D
        simp only [BT,CU,Dh,GM,Q.wire_all hall,har,Option.bind_some]
      have hit : Tj (.pointer (some ⟨(Ht ++ (Blk.map (AI Ht.length) 16 :: Al)).length,0,none⟩)) s4 = some ((Ht ++ (Blk.map (AI Ht.length) 16 :: Al)).length,Ht.length,16,AI Ht.length) := by
        unfold Tj
        simp only [hbi,hbm]
        rfl
      have hlt : s2.heap.length ≤ Ht.length := hxt.1
      have hZ : ZAt m vo vr vw s.heap.length Ht.length (frzS s4) := by
        refine ⟨by rw [D2]; exact BO hxb (BO hxa (BO hxt hM2)),fun i f hi => by rw [D2]; exact BO hxb (hrows i f hi)⟩
      have hF4 : readRow (frzS s4) s1.heap.length = some [sv p.1,fnV p.2.1,fnV p.2.2.1,fnV p.2.2.2] := by rw [D2]; exact BO hxb (BO hxa (BO hxt hF2))
      have hrd := Qq Q hpm (fun _ _ => ZAt.ext) (t2 := .int .i64 0) (t44 := .pointer (some ⟨(Ht ++ (Blk.map (AI Ht.length) 16 :: Al)).length,0,none⟩)) hZ hF4 (ZaF Q h s.heap.length Ht.length)
      have hex : O2 m = !(zTab m).all fun q => (lets p.1).any (fun n => q.1 == n) || q.2 := by unfold O2; rw [hp]
      have hL : (Ht ++ (Blk.map (AI Ht.length) 16 :: Al)).length = Ht.length + 21 := by simp [Al]
      have hcond : (Nat.ble s.heap.length (Ht ++ (Blk.map (AI Ht.length) 16 :: Al)).length && JM s4.heap.length (mp s.heap.length) && JM s4.heap.length (.int .i64 0) && JM s4.heap.length (.pointer (some ⟨s1.heap.length,0,none⟩)) && JM s4.heap.length (.pointer (some ⟨(Ht ++ (Blk.map (AI Ht.length) 16 :: Al)).length,0,none⟩))) = true := by
        simp only [JM,Bool.and_eq_true,Nat.ble_eq]
        refine ⟨⟨⟨⟨by omega,by omega⟩,rfl⟩,by omega⟩,by omega⟩
      simp only [hD,hit,BT,CU,Dh,DD,hcond,cond_true,hrd,Option.bind_some,Option.map_some,hex]
      cases (zTab m).all fun q => (lets p.1).any (fun n => q.1 == n) || q.2 <;> rfl
end
noncomputable def YR : Sum
  | [x0],s => (JN (run Tryz.prog (libL libS) Ad) x0 (frzS s)).map fun r => (.int .i64 r,s)
  | _,_ => none
noncomputable def libU : List (FuncId × Sum) := (11,YR) :: libS
theorem ZcL : Br Tryz.prog (libL libU) := H1 progOk Yz GL fun _ args s v s' h wb ι w args' hs ha => by
  unfold YR at h
  split at h
  · obtain ⟨r,h1,h2⟩ := Option.map_eq_some_iff.1 h
    cases h2
    exact O1 (NQ progOk Yz) h1 hs ha
  · cases h
theorem ZaJ {m : Ms} {s : St} {vo vr vw : Value} (h : MsV m s vo vr vw) : YR [mV m vo vr vw] s = some (.int .i64 (eMs m),s) := by
  simp only [YR,ZaI Zfc h.frz,Option.map_some]
end Go.Proofs.YtmbhnbladmpnoaaGreat.Ab

/- The chapter's examples: run by the kernel. -/
namespace Go.Proofs.YtmbhnbladmpnoaaGreat.Ab
open Go Go.RowKit
noncomputable def Zew : Aa := fnB Tryz.prog (libL []) Ad 40
theorem ZaK : DL Tryz.prog Zew := NL progOk (SG _) 40
noncomputable def Zex : Sum
  | [x0],s => (JN Zew x0 (frzS s)).map fun r => (.int .i64 r,s)
  | _,_ => none
noncomputable def libC : List (FuncId × Sum) := (11,Zex) :: flT
theorem ZcM : Br Tryz.prog (libL libC) := H1 progOk Zbq GL fun _ args s v s' h wb ι w args' hs ha => by
  unfold Zex at h
  split at h
  · obtain ⟨r,h1,h2⟩ := Option.map_eq_some_iff.1 h
    cases h2
    exact O1 ZaK h1 hs ha
  · cases h
theorem YS : R0 (fnB Tryz.prog (libL libC) Ad 60 8 [] ⟨[]⟩) = true := by kernel_rfl
def YT : Sum := gP (G0 (.bool true))
theorem ZcN {s : St} : YT [] s = some (.bool true,s) := rfl
theorem WO {l : List (FuncId × Sum)} (_ : Br Tryz.prog (libL l)) : ∀ args s v s',YT args s = some (v,s') → ∀ wb ι w (args' : Array Value),Sim wb ι s.heap w → All2 (VRel ι) args args'.toList → Calls Tryz.prog 8 args' w fun e w' => ∃ v',e = .returned v' ∧ A8 wb ι s.heap w s'.heap v v' w' := by
  intro args s v s' h wb ι w args' hs ha
  unfold YT gP G0 at h
  simp only [Option.map_eq_some_iff] at h
  obtain ⟨u,h,e⟩ := h
  cases e
  split at h
  · cases h
    exact Tm progOk ZcM GK YS hs ha
  · cases h
end Go.Proofs.YtmbhnbladmpnoaaGreat.Ab

/- Datagrams: the document's answer. -/
namespace Go.Proofs.YtmbhnbladmpnoaaGreat.Ab
open Go
theorem ZcO : ∀ {l : List UInt8},l.length = 4 → ∃ a b c d,l = [a,b,c,d]
  | [a,b,c,d],_ => ⟨a,b,c,d,rfl⟩
  | [],h => by simp at h
  | [_],h => by simp at h
  | [_,_],h => by simp at h
  | [_,_,_],h => by simp at h
  | _ :: _ :: _ :: _ :: _ :: _,h => by simp at h
theorem UJ {R : Aa} (hN : ∀ xs s,R 103 xs s = gNum xs s) (hS : ∀ xs s,R 105 xs s = gSum xs s) (hF : ∀ xs s,R 104 xs s = H6 xs s) {v : Value} {s : St} {l : List UInt8} (h : bytesOf v s = some l) (hl : l.length ≤ 4096) :
    ∃ w t,Il R v s = some (pkE w,t) ∧ Own s.heap.length 1 t w (bv (BJ l)) := by
  have e1 : decide (((l.length : Nat) : Int) > 4096) = false := by simp; omega
  have e2 : Ar 1 [(.int .u8 0)] 1 [(0,(.int .u8 83))] s = some (Af [83] s) := rfl
  have e3 : IntKind.wrap .u64 ((l.length : Nat) : Int) = ((l.length : Nat) : Int) := D7 (by omega) (by omega)
  have o1 : Own s.heap.length 1 (Af [83] s).2 (Af [83] s).1 (bv [83]) := CX (Nat.le_refl _) (by simp)
  have x1 : Ext s.heap.length s (Af [83] s).2 := A4 (Nat.le_refl _)
  generalize Af [83] s = r1 at e2 o1 x1
  have e5 : gNum [.int .u64 ((l.length : Nat) : Int)] r1.2 = some (Af (enc l.length) r1.2) := Ll (by omega)
  have x2 : Ext r1.2.heap.length r1.2 (Af (enc l.length) r1.2).2 := A4 (Nat.le_refl _)
  have hb2 : bytesOf (Af (enc l.length) r1.2).1 (Af (enc l.length) r1.2).2 = some (enc l.length) := Bk
  generalize Af (enc l.length) r1.2 = r2 at e5 x2 hb2
  have hlen : (Bl l).length ≤ 5000 := by simp [Bl]; have := @JI l.length; omega
  have o2 : Own s.heap.length 1 r2.2 r1.1 (bv [83]) := by
    rcases o1 with h | ⟨b,len,q1,q2,q3,q4,q5⟩
    · exact .inl h
    · exact .inr ⟨b,len,q1,q2,by rw [x2.2 b (List.getElem?_eq_some_iff.1 q3).1]; exact q3,q4,q5⟩
  have hlb : (Bl l).length = 1 + (enc l.length).length + l.length := by simp [Bl]; omega
  obtain ⟨v3,s3,e6,o3,x3⟩ := KF o2 (Nat.le_trans x1.1 x2.1) hb2 (by simp only [List.length_singleton]; omega)
  have hv3 : bytesOf v s3 = some l := Ext.old x3 (x1.trans (x2.less x1.1)) rfl h
  obtain ⟨v4,s4,e7,o4,x4⟩ := KF o3 (Nat.le_trans (Nat.le_trans x1.1 x2.1) x3.1) hv3 (by rw [List.length_append,List.length_singleton]; omega)
  have hB : [83] ++ enc l.length ++ l = Bl l := by simp [Bl]
  rw [hB] at o4
  have e8 : gSum [v4] s4 = some (.int .u32 ((sumV (Bl l) : Nat) : Int),s4) := by
    unfold gSum; rw [ES o4.bytes (by omega),Option.map_some]
  have hsum : sumV (Bl l) < 4294967296 := RU _
  have e9 : H6 [.int .u32 ((sumV (Bl l) : Nat) : Int)] s4 = some (fixV (sumV (Bl l)),s4) := S9 hsum
  obtain ⟨a,b,c,d,hfb⟩ := ZcO (Iu (n := sumV (Bl l)))
  have hfv : fixV (sumV (Bl l)) = .agg #[.int .u8 a.toNat,.int .u8 b.toNat,.int .u8 c.toNat,.int .u8 d.toNat] := by rw [Yb,hfb]; rfl
  rw [hfv] at e9
  have f0 : AN 4 lptr (.agg #[.int .u8 a.toNat,.int .u8 b.toNat,.int .u8 c.toNat,.int .u8 d.toNat]) (.agg #[(.int .u8 0),(.int .u8 0),(.int .u8 0),(.int .u8 0)]) = some (.agg #[.int .u8 a.toNat,.int .u8 b.toNat,.int .u8 c.toNat,.int .u8 d.toNat]) := rfl
  have f1 : Ao false 1 lptr (.agg #[.int .u8 a.toNat,.int .u8 b.toNat,.int .u8 c.toNat,.int .u8 d.toNat]) = some (.int .u8 a.toNat) := rfl
  have f2 : Ao false 1 (.pointer (some ⟨0,1,none⟩)) (.agg #[.int .u8 a.toNat,.int .u8 b.toNat,.int .u8 c.toNat,.int .u8 d.toNat]) = some (.int .u8 b.toNat) := rfl
  have f3 : Ao false 1 (.pointer (some ⟨0,2,none⟩)) (.agg #[.int .u8 a.toNat,.int .u8 b.toNat,.int .u8 c.toNat,.int .u8 d.toNat]) = some (.int .u8 c.toNat) := rfl
  have f4 : Ao false 1 (.pointer (some ⟨0,3,none⟩)) (.agg #[.int .u8 a.toNat,.int .u8 b.toNat,.int .u8 c.toNat,.int .u8 d.toNat]) = some (.int .u8 d.toNat) := rfl
  have e10 : Ar 1 [(.int .u8 0)] 4 [(0,.int .u8 a.toNat),(1,.int .u8 b.toNat),(2,.int .u8 c.toNat),(3,.int .u8 d.toNat)] s4 = some (Af [a,b,c,d] s4) := rfl
  have x5 : Ext s4.heap.length s4 (Af [a,b,c,d] s4).2 := A4 (Nat.le_refl _)
  have hb5 : bytesOf (Af [a,b,c,d] s4).1 (Af [a,b,c,d] s4).2 = some [a,b,c,d] := Bk
  generalize Af [a,b,c,d] s4 = r5 at e10 x5 hb5
  have o5 : Own s.heap.length 1 r5.2 v4 (bv (Bl l)) := by
    rcases o4 with h | ⟨b,len,q1,q2,q3,q4,q5⟩
    · exact .inl h
    · exact .inr ⟨b,len,q1,q2,by rw [x5.2 b (List.getElem?_eq_some_iff.1 q3).1]; exact q3,q4,q5⟩
  obtain ⟨v6,s6,e11,o6,x6⟩ := KF o5 (Nat.le_trans (Nat.le_trans (Nat.le_trans (Nat.le_trans x1.1 x2.1) x3.1) x4.1) x5.1) hb5 (by simp only [List.length_cons,List.length_nil]; omega)
  have hL : Bl l ++ [a,b,c,d] = BJ l := by unfold BJ; rw [hfb]
  rw [hL] at o6
  have hnt : E0 v6 = true := o6.notup
  refine ⟨v6,s6,?_,o6⟩
  clear o6 o5 o4 o3 o2 o1 hL hfv hfb hsum hlb hlen hB x1 x2 x3 x4 x5 x6 hb2 hb5 hv3
  generalize sumV (Bl l) = S at e8 e9
  have e3' : AK .u64 (.int .i64 ((l.length : Nat) : Int)) = some (.int .u64 ((l.length : Nat) : Int)) := by rw [LQ,e3]
  have l2 : ∀ ty s',AP (.slice ty) v s' = some (.int .i64 ((l.length : Nat) : Int)) := fun ty s' => AY h
  unfold Il
  simp only [l2,e1,e2,e3',Option.bind_some,Es,Et]
  simp only [D8,hN,e5,Option.bind_some]
  simp only [e6,Option.bind_some]
  simp only [e7,Option.bind_some]
  simp only [I0,hS,e8,Option.bind_some]
  simp only [MP,hF,e9,Option.bind_some]
  simp only [f0,Option.bind_some]
  simp only [f1,f2,f3,f4,Option.bind_some]
  simp only [e10,Option.bind_some]
  simp only [e11,Option.bind_some]
  unfold retV
  rw [if_pos (show [v6,.int .i64 0].all E0 = true by simp only [List.all_cons,hnt]; rfl)]
  rfl
theorem UK {lib : Lib} (hl : lib 21 = none) (hN : lib 103 = some gNum) (hS : lib 105 = some gSum) (hF : lib 104 = some H6) : BM Tryz.prog lib Ad 21 Uz := by
  refine BM.out (.inr rfl) (fun args s v h => ?_) (fun args s l h => ?_)
  · split at h
    · rename_i v0
      simp only [Option.bind_eq_some_iff] at h
      obtain ⟨l,h1,h⟩ := h
      split at h
      case isFalse => cases h
      rename_i hle
      split at h
      case isFalse => cases h
      rename_i hlong
      cases h
      refine ⟨rfl,frzS s,Ke hl ?_⟩
      have h2 : bytesOf v0 (frzS s) = some l := by rw [Bp]; exact h1
      have e1 : decide (((l.length : Nat) : Int) > 4096) = true := by simp; omega
      unfold Il
      simp only [AY h2,e1,EVs,retV]
      rfl
    · cases h
  · split at h
    · rename_i v0
      simp only [Option.bind_eq_some_iff] at h
      obtain ⟨l',h1,h⟩ := h
      split at h
      case isFalse => cases h
      split at h
      case isTrue => cases h
      cases h
      obtain ⟨w,t,g1,g2⟩ := UJ (R := run Tryz.prog lib Ad) (fun xs s => Bq hN) (fun xs s => Bq hS) (fun xs s => Bq hF) (s := frzS s) (v := v0) (l := l') (by rw [Bp]; exact h1) (by omega)
      obtain ⟨b,rfl,g3,g4⟩ := g2.row RT
      rw [Ch] at g3
      exact ⟨b,t,Ke hl g1,g3,g4⟩
    · cases h
theorem UL {R : Aa} (hN : ∀ xs s,R 120 xs s = Ca xs s) (hS : ∀ xs s,R 105 xs s = gSum xs s) (hF : ∀ xs s,R 119 xs s = CF xs s) {v : Value} {s : St} {l : List UInt8} (h : bytesOf v s = some l) (hl : l.length ≤ 140737488355328) :
    if (B2 l).2 = 0 then ∃ w t,In R v s = some (pkE w,t) ∧ Own s.heap.length 1 t w (bv (B2 l).1) ∧ Ext s.heap.length s t else In R v s = some (nilE (B2 l).2,s) := by
  have l2 : ∀ ty s',AP (.slice ty) v s' = some (.int .i64 ((l.length : Nat) : Int)) := fun ty s' => AY h
  unfold B2 In
  simp only [l2,Option.bind_some,Et,Pe]
  by_cases c1 : 4103 < l.length
  · have e1 : decide (((l.length : Nat) : Int) > 4103) = true := by simp; omega
    rw [if_pos c1,if_neg (by decide)]
    simp only [e1,CV]
    rfl
  have e1 : decide (((l.length : Nat) : Int) > 4103) = false := by simp; omega
  rw [if_neg c1]
  by_cases c2 : l.length < 6
  · have e2 : decide (((l.length : Nat) : Int) < 6) = true := by simp; omega
    rw [if_pos c2,if_neg (by decide)]
    simp only [e1,e2,CV,Es]
    rfl
  have e2 : decide (((l.length : Nat) : Int) < 6) = false := by simp; omega
  rw [if_neg c2]
  have e3 : IntKind.wrap .i64 (((l.length : Nat) : Int) - 4) = ((l.length - 4 : Nat) : Int) := by rw [wrap_i64 (by omega) (by omega)]; omega
  obtain ⟨hd,g1,g2⟩ := BF h (lo := none) (hi := some (.int .i64 ((l.length - 4 : Nat) : Int))) (mx := none) (i := 0) (j := l.length - 4) rfl (by simp [Bg]) (by omega) (by omega) (.inl rfl)
  obtain ⟨tl,g3,g4⟩ := BF h (lo := some (.int .i64 ((l.length - 4 : Nat) : Int))) (hi := none) (mx := none) (i := l.length - 4) (j := l.length) (by simp [Bg]) rfl (by omega) (by omega) (.inl rfl)
  simp only [List.drop_zero,Nat.sub_zero] at g2
  rw [List.take_of_length_le (by simp)] at g4
  have f1 : CF [tl] s = some (tupF (leN 0 (l.drop (l.length - 4))) 0,s) := by
    unfold CF
    rw [ES g4 (by simp; omega),Vs (by simp; omega),Option.map_some]
  have hlen : (l.take (l.length - 4)).length = l.length - 4 := by simp
  have f2 : gSum [hd] s = some (.int .u32 ((sumV (l.take (l.length - 4)) : Nat) : Int),s) := by
    unfold gSum; rw [ES g2 (by omega),Option.map_some]
  have f3 : ∀ n,Ak 0 (tupF n 0) = some (.int .u32 n) ∧ Ak 1 (tupF n 0) = some (.int .i64 0) := fun n => ⟨rfl,rfl⟩
  simp only [e1,e2,e3,Es,Wf,Option.bind_some,g1,g3,IJ,hF,f1,(f3 _).1,(f3 _).2,Mg]
  simp only [I0,hS,f2,Option.bind_some,Mg]
  generalize hA : leN 0 (l.drop (l.length - 4)) = A
  generalize hB : sumV (l.take (l.length - 4)) = B
  by_cases c3 : A ≠ B
  · rw [if_pos c3,if_neg (by decide)]
    have e4 : (((A : Nat) : Int) != ((B : Nat) : Int)) = true := by simp; omega
    simp only [e4,CV]
    rfl
  rw [if_neg c3]
  have e4 : (((A : Nat) : Int) != ((B : Nat) : Int)) = false := by simp; omega
  clear f1 f2 hA hB
  obtain ⟨h1v,g5,g6⟩ := BF h (lo := some (.int .i64 1)) (hi := some (.int .i64 ((l.length - 4 : Nat) : Int))) (mx := none) (i := 1) (j := l.length - 4) (by simp [Bg]) (by simp [Bg]) (by omega) (by omega) (.inl rfl)
  have hdt : (l.drop 1).take (l.length - 4 - 1) = (l.take (l.length - 4)).drop 1 := by rw [List.drop_take]
  rw [hdt] at g6
  obtain ⟨p,g7,g8⟩ := CL h (i := 0) (by omega) (k := .i64)
  have z00 : ((0 : Nat) : Int) = 0 := rfl
  rw [z00] at g7
  rw [Ym (by omega)] at g8
  have h00 : l.getD 0 0 = (l.take (l.length - 4)).getD 0 0 := by
    simp only [List.getD_eq_getElem?_getD]
    rw [List.getElem?_take,if_pos (by omega)]
  rw [h00] at g8
  generalize hH : l.take (l.length - 4) = H at g2 hlen g6 g8
  have f4 : Ca [h1v] s = some (tup3 (Aw (H.drop 1)).1 (Aw (H.drop 1)).2.1 (Aw (H.drop 1)).2.2,s) := Fh g6
  have hk := Gw (H.drop 1)
  have hlt := Gx (H.drop 1)
  have hk0 : (Aw (H.drop 1)).2.1 ≤ 100000 := by
    by_cases e : (Aw (H.drop 1)).2.2 = 0
    · have := (hk e).2
      simp only [List.length_drop] at this
      omega
    · have : (Aw (H.drop 1)).2.1 = 0 := by
        unfold Aw at e ⊢
        cases e5 : rdN 0 0 (H.drop 1) with
        | none => rfl
        | some r => rw [e5] at e; exact ((ZW e5).2.1 e).2
      omega
  generalize hrr : Aw (H.drop 1) = r at f4 hk hlt hk0
  obtain ⟨n,k,e⟩ := r
  simp only at f4 hk hlt hk0 ⊢
  simp only [e4,Es,g5,Option.bind_some,FH,hN,f4,x3_0,x3_1,x3_2,g7,g8,Mg,Zbp]
  by_cases d1 : H.getD 0 0 ≠ 83
  · have e5 : decide (H.getD 0 0 ≠ 83) = true := decide_eq_true d1
    rw [if_pos (c := H.getD 0 0 ≠ 83 ∨ e ≠ 0 ∨ 4096 < n ∨ l.length - 4 ≠ 1 + k + n) (.inl d1),if_neg (by decide)]
    simp only [e5,EVs]
    rfl
  have e5 : decide (H.getD 0 0 ≠ 83) = false := decide_eq_false d1
  by_cases d2 : e ≠ 0
  · have e6 : (e != 0) = true := by simp [d2]
    rw [if_pos (c := H.getD 0 0 ≠ 83 ∨ e ≠ 0 ∨ 4096 < n ∨ l.length - 4 ≠ 1 + k + n) (.inr (.inl d2)),if_neg (by decide)]
    simp only [e5,e6,CW,Ed,HH,E5,Option.bind_some,BT,CV]
    rfl
  have e6 : (e != 0) = false := by simpa using d2
  have e0 : e = 0 := by simpa using d2
  have hk2 := hk e0
  simp only [List.length_drop] at hk2
  by_cases d3 : 4096 < n
  · have e7 : decide (((n : Nat) : Int) > 4096) = true := by simp; omega
    rw [if_pos (c := H.getD 0 0 ≠ 83 ∨ e ≠ 0 ∨ 4096 < n ∨ l.length - 4 ≠ 1 + k + n) (.inr (.inr (.inl d3))),if_neg (by decide)]
    simp only [e5,e6,e7,CW,Ed,HH,E5,Option.bind_some,BT,CV,Et]
    rfl
  have e7 : decide (((n : Nat) : Int) > 4096) = false := by simp; omega
  have e8 : IntKind.wrap .i64 (1 + ((k : Nat) : Int)) = ((1 + k : Nat) : Int) := by rw [wrap_i64 (by omega) (by omega)]; omega
  have e9 : IntKind.wrap .i64 ((n : Nat) : Int) = ((n : Nat) : Int) := wrap_i64 (by omega) (by omega)
  have e10 : IntKind.wrap .i64 (((l.length - 4 : Nat) : Int) - 1) = ((l.length - 4 - 1 : Nat) : Int) := by rw [wrap_i64 (by omega) (by omega)]; omega
  have e12 : IntKind.wrap .i64 (((l.length - 4 - 1 : Nat) : Int) - ((k : Nat) : Int)) = ((l.length - 4 - 1 - k : Nat) : Int) := by rw [wrap_i64 (by omega) (by omega)]; omega
  by_cases d4 : l.length - 4 ≠ 1 + k + n
  · have e11 : (((n : Nat) : Int) != ((l.length - 4 - 1 - k : Nat) : Int)) = true := by simp; omega
    rw [if_pos (c := H.getD 0 0 ≠ 83 ∨ e ≠ 0 ∨ 4096 < n ∨ l.length - 4 ≠ 1 + k + n) (.inr (.inr (.inr d4))),if_neg (by decide)]
    simp only [e5,e6,e7,e9,e10,e11,e12,CW,Ed,HH,E5,Option.bind_some,BT,CV,Et,Wf,LQ,Mg]
    rfl
  have e11 : (((n : Nat) : Int) != ((l.length - 4 - 1 - k : Nat) : Int)) = false := by simp; omega
  rw [if_neg (c := H.getD 0 0 ≠ 83 ∨ e ≠ 0 ∨ 4096 < n ∨ l.length - 4 ≠ 1 + k + n) (by
    rintro (g | g | g | g)
    · exact d1 g
    · exact d2 g
    · exact d3 g
    · exact d4 g),if_pos rfl]
  obtain ⟨bd,g9,g10⟩ := BF h (lo := some (.int .i64 ((1 + k : Nat) : Int))) (hi := some (.int .i64 ((l.length - 4 : Nat) : Int))) (mx := none) (i := 1 + k) (j := l.length - 4) (by simp [Bg]; omega) (by simp [Bg]) (by omega) (by omega) (.inl rfl)
  have hdt2 : (l.drop (1 + k)).take (l.length - 4 - (1 + k)) = H.drop (1 + k) := by rw [← hH,List.drop_take]
  rw [hdt2] at g10
  obtain ⟨w,t,f5,f6,f7⟩ := Z0 g10 (by simp; omega)
  refine ⟨w,t,?_,f6,f7⟩
  have hnt : E0 w = true := f6.notup
  simp only [e5,e6,e7,e8,e9,e10,e11,e12,CW,E5,Option.bind_some,BT,Es,Et,We,Wf,LQ,Mg,g9]
  simp only [f5,Option.bind_some]
  unfold retV
  rw [if_pos (show [w,.int .i64 0].all E0 = true by simp only [List.all_cons,hnt]; rfl)]
  rfl
def Zbx : Sum := fun xs s => (match xs with
  | [v] => (bytesOf v s).bind fun l => if l.length ≤ 140737488355328 then (if (B2 l).2 = 0 then (if (B2 l).1 = [] then some (Sum.inl (nilE 0)) else some (Sum.inr (B2 l).1)) else some (Sum.inl (nilE (B2 l).2))) else none
  | _ => (none : Option (Value ⊕ List UInt8))).map (outS pkE s)
theorem UM {lib : Lib} (hl : lib 37 = none) (hN : lib 120 = some Ca) (hS : lib 105 = some gSum) (hF : lib 119 = some CF) : BM Tryz.prog lib Ad 37 Zbx := by
  have key : ∀ (v0 : Value) (s : St) (l : List UInt8),bytesOf v0 s = some l → l.length ≤ 140737488355328 → _ := fun v0 s l h1 hle =>
    UL (R := run Tryz.prog lib Ad) (fun xs s => Bq hN) (fun xs s => Bq hS) (fun xs s => Bq hF) (s := frzS s) (v := v0) (l := l) (by rw [Bp]; exact h1) hle
  refine BM.out (.inr rfl) (fun args s v h => ?_) (fun args s l h => ?_)
  · split at h
    · rename_i v0
      simp only [Option.bind_eq_some_iff] at h
      obtain ⟨l,h1,h⟩ := h
      split at h
      case isFalse => cases h
      rename_i hle
      have hk := key v0 s l h1 hle
      split at h
      · rename_i h0
        rw [if_pos h0] at hk
        split at h
        case isFalse => cases h
        rename_i he
        cases h
        obtain ⟨w,t,g1,g2,_⟩ := hk
        rw [he] at g2
        rcases g2 with ⟨rfl,_⟩ | ⟨b,len,_,_,_,g5,g6⟩
        · exact ⟨rfl,_,GN hl g1⟩
        · simp [bv] at g5
          omega
      · rename_i h0
        rw [if_neg h0] at hk
        cases h
        exact ⟨rfl,_,GN hl hk⟩
    · cases h
  · split at h
    · rename_i v0
      simp only [Option.bind_eq_some_iff] at h
      obtain ⟨l',h1,h⟩ := h
      split at h
      case isFalse => cases h
      rename_i hle
      have hk := key v0 s l' h1 hle
      split at h
      case isFalse => cases h
      rename_i h0
      rw [if_pos h0] at hk
      split at h
      case isTrue => cases h
      rename_i he
      cases h
      obtain ⟨w,t,g1,g2,_⟩ := hk
      obtain ⟨b,rfl,g3,g4⟩ := g2.row he
      rw [Ch] at g3
      exact ⟨b,t,GN hl g1,g3,g4⟩
    · cases h
end Go.Proofs.YtmbhnbladmpnoaaGreat.Ab

/- What is Bq at layer 18. -/
namespace Go.Proofs.YtmbhnbladmpnoaaGreat.Ab
open Go
noncomputable def Zey : List (FuncId × Sum) := (105,gSum) :: libU
noncomputable def Zez : List (FuncId × Sum) := (104,H6) :: Zey
noncomputable def ZeA : List (FuncId × Sum) := (119,CF) :: Zez
noncomputable def ZeB : List (FuncId × Sum) := (21,Uz) :: ZeA
noncomputable def ZeC : List (FuncId × Sum) := (37,Zbx) :: ZeB
noncomputable def ZeD : List (FuncId × Sum) := (8,YT) :: ZeC
noncomputable abbrev libT := ZeD
theorem ZaL : Br Tryz.prog (libL Zey) := Ax progOk ZcL LY (It fun v s l r h hl e => by cases e; rw [← Zcm]; exact ⟨rfl,s,SP rfl (Wz h hl)⟩)
theorem ZaM : Br Tryz.prog (libL Zez) := Ax progOk ZaL IZ (Ta fun _ s h => PR rfl (S6 h s))
theorem ZaN : Br Tryz.prog (libL ZeA) := Ax progOk ZaM FG (It fun v s l r h _ e => by cases e; exact ⟨rfl,s,Ky rfl (MZ h)⟩)
theorem ZaO : Br Tryz.prog (libL ZeB) := Ax progOk ZaN QW (UK rfl rfl rfl rfl)
theorem ZaP : Br Tryz.prog (libL ZeC) := Ax progOk ZaO QX (UM rfl rfl rfl rfl)
theorem ZaQ : Br Tryz.prog (libL ZeD) := H1 progOk ZaP GK WO
theorem libT_ok : Br Tryz.prog (libL libT) := ZaQ
theorem ZeE : ∀ f ∈ Tf,libL libT f = none := by
  intro f hf
  have h := Zbs f hf
  simp only [Tf,List.mem_cons,List.not_mem_nil,or_false] at hf
  rcases hf with rfl | rfl | rfl | rfl | rfl | rfl | rfl | rfl | rfl | rfl | rfl | rfl | rfl | rfl | rfl | rfl | rfl | rfl | rfl | rfl | rfl | rfl | rfl | rfl | rfl | rfl | rfl | rfl | rfl | rfl | rfl | rfl | rfl | rfl | rfl | rfl | rfl | rfl | rfl | rfl | rfl | rfl | rfl | rfl | rfl | rfl | rfl | rfl | rfl | rfl | rfl | rfl | rfl <;> rfl
theorem IK : WrH (run Tryz.prog (libL libT) Ad) := Zbr ZeE rfl rfl rfl rfl rfl rfl rfl
theorem YU {s : St} : (run Tryz.prog (libL libT) Ad) 8 [] s = some (.bool true,s) := (Bq (g := YT) rfl).trans ZcN
theorem UN {m : Ms} {s : St} {vo vr vw : Value} (h : MsV m s vo vr vw) : (run Tryz.prog (libL libT) Ad) 11 [mV m vo vr vw] s = some (.int .i64 (eMs m),s) := (Bq (g := YR) rfl).trans (ZaJ h)
theorem ZeF {v : Value} {s : St} {l : BL} (h : bytesOf v s = some l) (hl : l.length ≤ 4096) : (run Tryz.prog (libL libT) Ad) 17 [v] s = some (pkE (Af (BJ l) s).1,(Af (BJ l) s).2) := (Bq (g := Uz) rfl).trans (Zac h hl)
theorem To {n : Nat} (hn : n < 18446744073709551616) {s : St} : (run Tryz.prog (libL libT) Ad) 45 [.int .u64 (n : Int)] s = some (Af (enc n) s) := (Bq (g := gNum) rfl).trans (Ll hn)
def tB (k : BL) : BL := enc k.length ++ k
theorem ZcP {k : BL} (hk : k.length ≤ 140737488300000) {s : St} : (run Tryz.prog (libL libT) Ad) 149 [sv k] s = some (Af (tB k) s) := (Bq (g := S4) rfl).trans (ZZ (t := ⟨k.toArray⟩) (s := s) hk)
theorem kRN {s : St} {v : Value} {l : BL} (h : bytesOf v s = some l) : (run Tryz.prog (libL libT) Ad) 117 [v] s = some (tup3 (Aw l).1 (Aw l).2.1 (Aw l).2.2,s) := (Bq (g := Ca) rfl).trans (Fh h)
theorem kRT {s : St} {v : Value} {l : BL} (h : bytesOf v s = some l) (hl : l.length ≤ 140737488355328) : (run Tryz.prog (libL libT) Ad) 150 [v,.int .i64 255] s = some (tupT (Az l 255).1 (Az l 255).2.1 (Az l 255).2.2,s) := (Bq (g := Ek) rfl).trans (S3 h (by omega) (by omega) (by omega))
end Go.Proofs.YtmbhnbladmpnoaaGreat.Ab

/- Bytes that are appended to bytes of one's own,one after another. -/
namespace Go.Proofs.YtmbhnbladmpnoaaGreat.Ab
open Go
theorem En {N : Nat} {s : St} {x : Value} {cs : List Value} {B : Blk} (h : Own N 1 s x cs) : Own N 1 (s.push B) x cs := by
  rcases h with h | ⟨b,len,rfl,h1,h2,h3,h4⟩
  · exact .inl h
  · refine .inr ⟨b,len,rfl,h1,?_,h3,h4⟩
    simp only [St.push]
    rw [List.getElem?_append_left (List.getElem?_eq_some_iff.1 h2).1]
    exact h2
theorem YV {s0 t : St} (hx : Ext s0.heap.length s0 t) {ag : Bool} {n : Nat} {p u : Value} (h : Aq ag n p s0 = some u) : Aq ag n p t = some u := by
  unfold Aq at h ⊢
  split at h
  · rename_i b off
    cases ag with
    | true =>
      simp only [if_true,Option.map_eq_some_iff] at h ⊢
      obtain ⟨cs,h1,h2⟩ := h
      refine ⟨cs,?_,h2⟩
      unfold Ab.readN at h1 ⊢
      simp only [Option.bind_eq_some_iff] at h1 ⊢
      obtain ⟨r,g1,g2⟩ := h1
      exact ⟨r,by rw [Ext.readRow hx (D3 g1)]; exact g1,g2⟩
    | false =>
      simp only [Bool.false_eq_true,if_false,Option.bind_eq_some_iff] at h ⊢
      obtain ⟨r,g1,g2⟩ := h
      exact ⟨r,by rw [Ext.readRow hx (D3 g1)]; exact g1,g2⟩
  · cases h
def App (N : Nat) (s : St) (x : Value) (m : List UInt8) (r : Value × St) : Prop :=
  Own N 1 r.2 r.1 (bv m) ∧ Keep (BW x) s r.2 ∧ ZdK s x r.1
theorem App.len {N : Nat} {s : St} {x : Value} {m : List UInt8} {r : Value × St} (h : App N s x m r) : s.heap.length ≤ r.2.heap.length := h.2.1.1
theorem App.start {N : Nat} {s : St} {x : Value} {l : List UInt8} (h : Own N 1 s x (bv l)) : App N s x l (x,s) := ⟨h,.refl _ _,.inl rfl⟩
theorem App.trans {N : Nat} {s : St} {x : Value} {m m2 : List UInt8} {r r2 : Value × St} (h : App N s x m r) (g : App N r.2 r.1 m2 r2) : App N s x m2 r2 := by
  refine ⟨g.1,⟨Nat.le_trans h.2.1.1 g.2.1.1,fun c hc hB => ?_⟩,?_⟩
  · rw [g.2.1.2 c (Nat.lt_of_lt_of_le hc h.2.1.1) fun e => ?_,h.2.1.2 c hc hB]
    rcases h.2.2 with h3 | h3
    · exact hB (by rw [← h3]; exact e)
    · exact absurd (h3 c e) (by omega)
  · rcases g.2.2 with g3 | g3
    · rcases h.2.2 with h3 | h3
      · exact .inl (g3.trans h3)
      · exact .inr fun c hc => h3 c (by rw [← g3]; exact hc)
    · exact .inr fun c hc => Nat.le_trans h.2.1.1 (g3 c hc)
theorem App.ext {N : Nat} {s : St} {x : Value} {l m : List UInt8} {r : Value × St} (h : App N s x m r) (ho : Own N 1 s x (bv l)) (hN : N ≤ s.heap.length) : Ext N s r.2 := h.2.1.ext hN fun c hc => (ho.blk c hc).1
theorem App.list {α : Type} {C : Cod α} {N : Nat} {s : St} {x v : Value} {m : List UInt8} {l : List α} {r : Value × St} (h : App N s x m r) (hv : Bm C v s = some l) (hne : ∀ c,BW v = some c → BW x ≠ some c) : Bm C v r.2 = some l := h.2.1.list hv hne
theorem App.ne {N : Nat} {s : St} {x : Value} {m : List UInt8} {r : Value × St} (h : App N s x m r) {c : Nat} (hc : c < s.heap.length) (hne : BW x ≠ some c) : BW r.1 ≠ some c := fun e => by
  rcases h.2.2 with h3 | h3
  · exact hne (by rw [← h3]; exact e)
  · exact absurd (h3 c e) (by omega)
theorem App.push {N : Nat} {s : St} {x : Value} {m : List UInt8} {r : Value × St} {B : Blk} (h : App N (s.push B) x m r) : App N s x m r := by
  refine ⟨h.1,⟨by have := h.2.1.1; rw [AJ] at this; omega,fun c hc hB => ?_⟩,?_⟩
  · rw [h.2.1.2 c (by rw [AJ]; omega) hB]
    simp only [St.push]
    rw [List.getElem?_append_left hc]
  · rcases h.2.2 with h3 | h3
    · exact .inl h3
    · exact .inr fun c hc => by have := h3 c hc; rw [AJ] at this; omega
theorem Tp {N : Nat} {s : St} {x v : Value} {l m : List UInt8} (h : Own N 1 s x (bv l)) (hN : N ≤ s.heap.length) (hv : bytesOf v s = some m) (hb : l.length + m.length ≤ 140737488355328) : ∃ r,AD 1 1 x v s = some r ∧ App N s x (l ++ m) r := by
  obtain ⟨v',s',h1,h2,_⟩ := KF h hN hv hb
  obtain ⟨k1,k2⟩ := FI h1
  exact ⟨(v',s'),h1,h2,k1,k2⟩
theorem O3 {N : Nat} {s : St} {x : Value} {l m : List UInt8} (h : Own N 1 s x (bv l)) (hN : N ≤ s.heap.length) (hb : l.length + m.length ≤ 140737488355328) : ∃ r,AD 1 1 x (Af m s).1 (Af m s).2 = some r ∧ App N s x (l ++ m) r := by
  have h1 : Own N 1 (Af m s).2 x (bv l) := En h
  obtain ⟨r,g1,g2⟩ := Tp h1 (Nat.le_trans hN (A4 (N := s.heap.length) (Nat.le_refl _)).1) Bk hb
  exact ⟨r,g1,g2.push⟩
theorem D6 {N : Nat} {r : Value × St} {m : List UInt8} (h : Own N 1 r.2 r.1 (bv m)) : retV [r.1] r.2 = some (r.1,r.2) := ret1 h.notup
theorem Ls {s : St} {r : Value × St} (h : s.heap.length ≤ r.2.heap.length) : ownR s (r.1,r.2) = some (r.1,r.2) := by unfold ownR; rw [if_pos h]
theorem YW {N : Nat} {s : St} {x w : Value} {l m : List UInt8} {f : St → Option (Value × St)} (ho : Own N 1 s x (bv l)) (hN : N ≤ s.heap.length) (hf : ∀ s',Own N 1 s' x (bv l) → N ≤ s'.heap.length → (∀ b ∈ blkV w,s'.heap[b]? = s.heap[b]?) → ∃ r,f s' = some r ∧ App N s' x m r) :
    ∃ r,((f (⟨Eb (BK [x,w]) 0 s.heap⟩ : St)).bind fun r => some (r.1,r.2)).bind (appR (BK [x,w]) [] s) = some r ∧ App N s x m r ∧ ∃ s' r0,s'.heap.length = s.heap.length ∧ Own N 1 s' x (bv l) ∧ (∀ b ∈ blkV w,s'.heap[b]? = s.heap[b]?) ∧ f s' = some r0 ∧ r.1 = r0.1 ∧ r.2.heap.length = r0.2.heap.length := by
  have hB : ∀ b,(BK [x,w]).contains b = true ↔ (BW x = some b ∨ b ∈ blkV w) := fun b => by
    rw [show BK [x,w] = blkV x ++ (blkV w ++ []) from rfl,List.append_nil,List.contains_iff_mem,List.mem_append]
    rcases ho with ⟨rfl,_⟩ | ⟨c,len,rfl,_⟩
    · simp [blkV,BW]
    · simp only [blkV,BW,List.mem_cons,List.not_mem_nil,or_false,Option.some.injEq]
      constructor
      · rintro (h | h)
        · exact .inl h.symm
        · exact .inr h
      · rintro (h | h)
        · exact .inl h.symm
        · exact .inr h
  generalize BK [x,w] = B at *
  have hxN : ∀ b,BW x = some b → N ≤ b := fun b hb => (ho.blk b hb).1
  have ho1 : Own N 1 (⟨Eb B 0 s.heap⟩ : St) x (bv l) := by
    rcases ho with h | ⟨c,len,rfl,h1,h2,h3,h4⟩
    · exact .inl h
    · refine .inr ⟨c,len,rfl,h1,?_,h3,h4⟩
      have hc : B.contains c = true := (hB c).2 (.inl rfl)
      simp only
      rw [HF,Nat.zero_add,if_pos hc,h2]
      rfl
  have hw1 : ∀ b ∈ blkV w,(⟨Eb B 0 s.heap⟩ : St).heap[b]? = s.heap[b]? := fun b hb => by
    have hc : B.contains b = true := (hB b).2 (.inr hb)
    simp only
    rw [HF,Nat.zero_add,if_pos hc]
    cases s.heap[b]? with
    | none => rfl
    | some X => cases X <;> rfl
  obtain ⟨r,g1,g2,g3,g4⟩ := hf _ ho1 (by simp only; rw [BU]; exact hN) hw1
  have hlen : s.heap.length ≤ r.2.heap.length := by
    have := g3.1
    simp only at this
    rwa [BU] at this
  simp only [g1,Option.bind_some]
  have hc : (B.all (fun b => !([] : List Nat).contains b) && Nat.ble s.heap.length r.2.heap.length && G4 [] s.heap.length r.2.heap.length) = true := by
    simp only [Bool.and_eq_true,List.all_eq_true,Nat.ble_eq,G4,List.all_nil,and_true]
    exact ⟨fun b _ => rfl,hlen⟩
  have g4' : BW r.1 = BW x ∨ ∀ c,BW r.1 = some c → s.heap.length ≤ c := by
    rcases g4 with h | h
    · exact .inl h
    · exact .inr fun c hc => by have := h c hc; simp only at this; rwa [BU] at this
  refine ⟨(r.1,⟨Fy B r.2.heap 0 s.heap ++ r.2.heap.drop s.heap.length⟩),by unfold appR; rw [if_pos hc],⟨?_,⟨by simp [AW],fun c hc hne => ?_⟩,g4'⟩,_,r,BU,ho1,hw1,g1,rfl,by simp only [List.length_append,AW,List.length_drop]; omega⟩
  · rcases g2 with h | ⟨c,len,e,h1,h2,h3,h4⟩
    · exact .inl h
    · refine .inr ⟨c,len,e,h1,?_,h3,h4⟩
      simp only
      by_cases hcs : c < s.heap.length
      · rw [List.getElem?_append_left (by rw [AW]; exact hcs),EQ,Nat.zero_add,List.getElem?_eq_getElem hcs,Option.map_some]
        have : B.contains c = true := (hB c).2 (.inl (by
          have hb : BW r.1 = some c := by rw [e]; rfl
          rcases g4' with h | h
          · rw [← h]; exact hb
          · exact absurd (h c hb) (by omega)))
        rw [if_pos this,h2,Option.getD_some]
      · rw [List.getElem?_append_right (by rw [AW]; omega),AW,List.getElem?_drop,show s.heap.length + (c - s.heap.length) = c by omega]
        exact h2
  · simp only
    rw [List.getElem?_append_left (by rw [AW]; exact hc),EQ,Nat.zero_add,List.getElem?_eq_getElem hc,Option.map_some]
    by_cases hb : B.contains c = true
    · rw [if_pos hb]
      rcases (hB c).1 hb with h | h
      · exact absurd h hne
      · have h1 := hw1 c h
        have h2 := g3.2 c (by simp only; rw [BU]; exact hc) hne
        rw [h2,h1,List.getElem?_eq_getElem hc,Option.getD_some]
    · rw [if_neg hb]
theorem Iw {α : Type} {K : List Nat} {s : St} {v : α} : Bz K s (v,(⟨frzK K 0 s.heap⟩ : St)) = some (v,s) := by
  unfold Bz
  have : G4 K s.heap.length (⟨frzK K 0 s.heap⟩ : St).heap.length = true := by
    simp only [G4,List.all_eq_true,Bool.or_eq_true,decide_eq_true_eq,Bo]
    intro x _
    omega
  rw [if_pos this]
  unfold DX
  simp only
  rw [List.drop_eq_nil_of_le (by rw [Bo]; exact Nat.le_refl _),List.append_nil]
def ElsA {α : Type} (N : Nat) (s1 : St) (x : Value) (n : Nat) (ag : Bool) (v : Value) (l : List α) (Rel : α → List Value → Prop) : Prop :=
  (∀ ty t,AP (.slice ty) v t = some (.int .i64 ((l.length : Nat) : Int))) ∧ ∀ (i : Nat) (hi : i < l.length),∃ p u cs,AC n v (.int .i64 (i : Int)) = some p ∧ MY ag u cs ∧ Rel l[i] cs ∧ ∀ m r,App N s1 x m r → Aq ag n p r.2 = some u
theorem Na {α : Type} {C : NCod α} {B N n : Nat} {ag : Bool} {s0 s1 : St} {x v : Value} {l : List α} {m0 : BL} (h : Cm C B l s0 v) (hlo : s0.heap.length = N) (hx : Ext N s0 s1) (ho : Own N 1 s1 x (bv m0)) (hn : n = C.n) (hag : ag = true ∨ n = 1) : ElsA N s1 x n ag v l fun a cs => C.rel a s0 cs := by
  refine ⟨fun ty t => Bx h ty t,fun i hi => ?_⟩
  obtain ⟨p,u,cs,h1,h2,_,h3,h4⟩ := OH h hi hn hag
  subst hlo
  exact ⟨p,u,cs,h1,h3,h4,fun m r hr => YV (hx.trans (hr.ext ho hx.1)) h2⟩
theorem ZcQ {N : Nat} {s : St} {x v : Value} {l m : List UInt8} (h : Own N 1 s x (bv l)) (hv : bytesOf v s = some m) (hm : m ≠ []) (hb : l.length + m.length ≤ 140737488355328) : ∃ t,AD 1 1 x v s = some (.slice (some ⟨s.heap.length,0,none⟩) (l.length + m.length) (l.length + m.length),t) ∧ t.heap.length = s.heap.length + 1 := by
  have hpos : 0 < m.length := List.length_pos_iff.2 hm
  unfold AD
  rw [if_pos (by decide)]
  simp only [Ir hv,GT hv,Option.bind_some]
  rcases h with ⟨rfl,h2⟩ | ⟨b,len,rfl,h1,h2,h3,h4⟩
  · have hl : l = [] := SE (m := []) h2
    subst hl
    simp only
    rw [if_pos (show Nl m.length 1 from .inl (by simp only [List.length_nil] at hb; omega)),if_neg (by omega)]
    exact ⟨s.push (.row 1 (bv m) .act),by simp,AJ⟩
  · rw [AX,Nat.mul_one] at h3
    simp only
    rw [if_pos (show Nl (len + m.length) 1 from .inl (by omega)),if_neg (by omega),h2]
    simp only
    rw [if_pos ⟨trivial,trivial,by rw [AX]; omega⟩]
    refine ⟨(s.putB b (.row 1 (bv l) .dead)).push (.row 1 (bv l ++ bv m) .act),by rw [h3],?_⟩
    rw [AJ]
    simp [St.putB]
theorem Cr {m : List UInt8} {s : St} : (Af m s).2.heap.length = s.heap.length + 1 := AJ
def AppK (N : Nat) (s : St) (x : Value) (m : List UInt8) (k : Nat) (r : Value × St) : Prop :=
  App N s x m r ∧ r.2.heap.length = s.heap.length + k ∧ (k = 0 → r.1 = x) ∧ (k ≠ 0 → r.1 = .slice (some ⟨s.heap.length + k - 1,0,none⟩) m.length m.length)
theorem AppK.start {N : Nat} {s : St} {x : Value} {l : List UInt8} (h : Own N 1 s x (bv l)) : AppK N s x l 0 (x,s) := ⟨.start h,rfl,fun _ => rfl,fun h => absurd rfl h⟩
theorem AppK.trans {N : Nat} {s : St} {x : Value} {m m2 : List UInt8} {k k2 : Nat} {r r2 : Value × St} (h : AppK N s x m k r) (g : AppK N r.2 r.1 m2 k2 r2) (hk : k2 ≠ 0) : AppK N s x m2 (k + k2) r2 := by
  refine ⟨h.1.trans g.1,by rw [g.2.1,h.2.1]; omega,fun e => absurd (show k2 = 0 by omega) hk,fun _ => ?_⟩
  rw [g.2.2.2 hk,h.2.1]
  congr 3
  omega
theorem AppK.push {N : Nat} {s : St} {x : Value} {m : List UInt8} {r : Value × St} {B : Blk} {k : Nat} (h : AppK N (s.push B) x m k r) (hk : k ≠ 0) : AppK N s x m (k + 1) r := by
  refine ⟨h.1.push,by rw [h.2.1,AJ]; omega,fun e => by omega,fun _ => ?_⟩
  rw [h.2.2.2 hk,AJ]
  congr 3
  omega
theorem AppK.det {N : Nat} {s s' : St} {x : Value} {m : List UInt8} {r r' : Value × St} {k : Nat} (h : AppK N s x m k r) (g : AppK N s' x m k r') (he : s'.heap.length = s.heap.length) : r'.1 = r.1 ∧ r'.2.heap.length = r.2.heap.length := by
  refine ⟨?_,by rw [h.2.1,g.2.1,he]⟩
  by_cases hk : k = 0
  · rw [h.2.2.1 hk,g.2.2.1 hk]
  · rw [h.2.2.2 hk,g.2.2.2 hk,he]
theorem Qr {N : Nat} {s : St} {x v : Value} {l m : List UInt8} (h : Own N 1 s x (bv l)) (hN : N ≤ s.heap.length) (hv : bytesOf v s = some m) (hm : m ≠ []) (hb : l.length + m.length ≤ 140737488355328) : ∃ r,AD 1 1 x v s = some r ∧ AppK N s x (l ++ m) 1 r := by
  obtain ⟨r,h1,h2⟩ := Tp h hN hv hb
  obtain ⟨t,h3,h4⟩ := ZcQ h hv hm hb
  obtain rfl := Option.some.inj (h1.symm.trans h3)
  exact ⟨_,h1,h2,h4,fun e => by omega,fun _ => by rw [List.length_append]; rfl⟩
theorem D9 {N : Nat} {s : St} {x : Value} {l m : List UInt8} (h : Own N 1 s x (bv l)) (hN : N ≤ s.heap.length) (hm : m ≠ []) (hb : l.length + m.length ≤ 140737488355328) : ∃ r,AD 1 1 x (Af m s).1 (Af m s).2 = some r ∧ AppK N s x (l ++ m) 2 r := by
  have h1 : Own N 1 (Af m s).2 x (bv l) := En h
  obtain ⟨r,g1,g2⟩ := Qr h1 (Nat.le_trans hN (A4 (N := s.heap.length) (Nat.le_refl _)).1) Bk hm hb
  exact ⟨r,g1,g2.push (by decide)⟩
theorem Lt {N : Nat} {s : St} {x w : Value} {l m : List UInt8} {k : Nat} {f : St → Option (Value × St)} (ho : Own N 1 s x (bv l)) (hN : N ≤ s.heap.length) (hf : ∀ s',Own N 1 s' x (bv l) → N ≤ s'.heap.length → (∀ b ∈ blkV w,s'.heap[b]? = s.heap[b]?) → ∃ r,f s' = some r ∧ AppK N s' x m k r) :
    ∃ r,((f (⟨Eb (BK [x,w]) 0 s.heap⟩ : St)).bind fun r => some (r.1,r.2)).bind (appR (BK [x,w]) [] s) = some r ∧ AppK N s x m k r := by
  obtain ⟨r,h1,h2,s',r0,e1,o1,o2,e2,e3,e4⟩ := YW ho hN fun s' a b c => by
    obtain ⟨r,g1,g2⟩ := hf s' a b c
    exact ⟨r,g1,g2.1⟩
  obtain ⟨r1,g1,g2⟩ := hf s' o1 (by omega) o2
  obtain rfl := Option.some.inj (g1.symm.trans e2)
  refine ⟨r,h1,h2,by rw [e4,g2.2.1,e1],fun e => by rw [e3,g2.2.2.1 e],fun e => by rw [e3,g2.2.2.2 e,e1]⟩
theorem ZcR {v : Value} {c : Nat} (h : BW v = some c) : c ∈ blkV v := by
  unfold BW at h
  split at h
  · cases h
    simp [blkV]
  · cases h
theorem Tq {n : Nat} {v : Value} {s t : St} {cs : List Value} (h : cellsOf n v s = some cs) (hb : ∀ b ∈ blkV v,t.heap[b]? = s.heap[b]?) : cellsOf n v t = some cs := by
  unfold cellsOf at h ⊢
  split at h
  · exact h
  · rename_i b o len cap
    have := hb b (by simp [blkV])
    unfold Ab.readN Ab.readRow at h ⊢
    rw [this]
    exact h
  · cases h
theorem WP {v : Value} {s t : St} {m : List UInt8} (h : bytesOf v s = some m) (hb : ∀ b ∈ blkV v,t.heap[b]? = s.heap[b]?) : bytesOf v t = some m := by
  unfold bytesOf at h ⊢
  simp only [Option.bind_eq_some_iff] at h ⊢
  obtain ⟨cs,h1,h2⟩ := h
  exact ⟨cs,Tq h1 hb,h2⟩
theorem ZaR {α : Type} {C : Cod α} {v : Value} {s t : St} {l : List α} (h : Bm C v s = some l) (hb : ∀ b ∈ blkV v,t.heap[b]? = s.heap[b]?) : Bm C v t = some l := (Cl _).2 (Tq ((Cl _).1 h) hb)
theorem UO {N : Nat} {s : St} {x v : Value} {l m : List UInt8} (h : Own N 1 s x (bv l)) (hN : N ≤ s.heap.length) (hv : bytesOf v s = some m) (hm : m ≠ []) (hb : l.length + m.length ≤ 140737488355328) :
    ∃ r,((AD 1 1 x v (⟨Eb (BK [x,v]) 0 s.heap⟩ : St)).bind fun r => some (r.1,r.2)).bind (appR (BK [x,v]) [] s) = some r ∧ AppK N s x (l ++ m) 1 r :=
  Lt (f := fun s' => AD 1 1 x v s') h hN fun s' h1 h2 h3 => Qr h1 h2 (WP hv h3) hm hb
theorem C2 {K : List Nat} {s : St} {v : Value} {n : Nat} {cs : List Value} (hK : ∀ b,K.contains b = true → b < s.heap.length) : Bz K s (v,(⟨frzK K 0 s.heap⟩ : St).push (.row n cs .act)) = some (v,s.push (.row n cs .act)) := by
  unfold Bz
  have h1 : (frzK K 0 s.heap).length = s.heap.length := Bo
  have h2 : G4 K s.heap.length ((⟨frzK K 0 s.heap⟩ : St).push (.row n cs .act)).heap.length = true := by
    simp only [G4,List.all_eq_true,Bool.or_eq_true,decide_eq_true_eq]
    intro x hx
    exact .inl (hK x (by simpa using hx))
  simp only [if_pos h2]
  simp [DX,St.push,h1]
theorem ZcS {K : List Nat} {s : St} : (⟨frzK K 0 s.heap⟩ : St).heap.length = s.heap.length := Bo
theorem JO {K : List Nat} {s : St} {m : List UInt8} (hK : ∀ b,K.contains b = true → b < s.heap.length) : Bz K s ((Af m (⟨frzK K 0 s.heap⟩ : St)).1,(Af m (⟨frzK K 0 s.heap⟩ : St)).2) = some (Af m s) := by
  have := C2 (v := (Af m s).1) (n := 1) (cs := bv m) hK
  unfold Af at this ⊢
  rw [ZcS]
  exact this
theorem Nb {N n : Nat} {s : St} {x : Value} {cs : List Value} (h : Own N n s x cs) : ∀ b ∈ blkV x,b < s.heap.length := by
  rcases h with ⟨rfl,_⟩ | ⟨c,len,rfl,h1,h2,_⟩
  · intro b hb; cases hb
  · intro b hb
    simp only [blkV,List.mem_cons,List.not_mem_nil,or_false] at hb
    rw [hb]
    exact (List.getElem?_eq_some_iff.1 h2).1
theorem Nc {n : Nat} {vs : List Value} (h : ∀ v ∈ vs,∀ b ∈ blkV v,b < n) : ∀ b,(BK vs).contains b = true → b < n := by
  induction vs with
  | nil => intro b hb; cases hb
  | cons v vs ih =>
    intro b hb
    rw [show BK (v :: vs) = blkV v ++ BK vs from rfl,List.contains_iff_mem,List.mem_append] at hb
    rcases hb with hb | hb
    · exact h v (List.mem_cons_self ..) b hb
    · exact ih (fun u hu => h u (List.mem_cons_of_mem _ hu)) b (List.contains_iff_mem.2 hb)
theorem Ts {n : Nat} {A B : List Nat} (ha : ∀ b,A.contains b = true → b < n) (hb : ∀ b,B.contains b = true → b < n) : ∀ b,(A ++ B).contains b = true → b < n := by
  intro b h
  rw [List.contains_iff_mem,List.mem_append] at h
  rcases h with h | h
  · exact ha b (List.contains_iff_mem.2 h)
  · exact hb b (List.contains_iff_mem.2 h)
theorem KI {n : Nat} : ∀ b,([] : List Nat).contains b = true → b < n := fun b h => by cases h
end Go.Proofs.YtmbhnbladmpnoaaGreat.Ab

/- Texts in lists. -/
namespace Go.Proofs.YtmbhnbladmpnoaaGreat.Ab
open Go
def strC : Cod BL where
  n := 1
  enc k := [sv k]
  pos := by decide
  len _ := rfl
  inj a b h := by
    simp only [List.cons.injEq,and_true] at h
    exact OF h
  leaf _ := rfl
theorem ZeG {v : Value} {s : St} {l : List BL} (h : Bm strC v s = some l) {i : Nat} (hi : i < l.length) : ∃ p,AC 1 v (.int .i64 (i : Int)) = some p ∧ Aq false 1 p s = some (sv l[i]) := by
  obtain ⟨p,h1,q,h2,h3⟩ := Gg h hi (j := 0) (c := sv l[i]) rfl (k := .i64) (n := 1) rfl
  refine ⟨p,h1,?_⟩
  have : q = p := by
    unfold Ac at h2
    split at h2
    · cases h2; rfl
    · cases h2
  rw [← this]
  exact h3
end Go.Proofs.YtmbhnbladmpnoaaGreat.Ab

/- Messages are written: bytes,numbers,texts,flags. -/
namespace Go.Proofs.YtmbhnbladmpnoaaGreat.Ab
open Go
set_option maxRecDepth 10000
def bI (n : Int) : UInt8 := UInt8.ofNat (n % 256).toNat
theorem Zby (n : Int) : (((bI n).toNat : Nat) : Int) = n % 256 := by
  unfold bI
  have h1 : 0 ≤ n % 256 := Int.emod_nonneg _ (by decide)
  have h2 : n % 256 < 256 := Int.emod_lt_of_pos _ (by decide)
  have : (UInt8.ofNat (n % 256).toNat).toNat = (n % 256).toNat := by
    rw [UInt8.toNat_ofNat']
    omega
  rw [this]
  omega
theorem VB (n : Int) : IntKind.wrap .u8 n = (((bI n).toNat : Nat) : Int) := by
  rw [Zby]
  simp [IntKind.wrap,IntKind.signed,IntKind.bits]
theorem ZcT (b : UInt8) (s : St) : Ar 1 [(.int .u8 0)] 1 [(0,.int .u8 (b.toNat : Int))] s = some (Af [b] s) := rfl
def eN (n : Int) : BL := enc n.toNat
def ZcU (n : Int) : Prop := 0 ≤ n ∧ n < 18446744073709551616
theorem ZeH {n : Int} (h : (Lit.int .u64 n).wf = true) : ZcU n := by
  simp [Lit.wf,IntKind.signed,IntKind.bits,IntKind.min,IntKind.max] at h
  exact ⟨by omega,by omega⟩
theorem ZcV {n : Int} (hn : ZcU n) {s : St} : (run Tryz.prog (libL libT) Ad) 45 [.int .u64 n] s = some (Af (eN n) s) := by
  have := To (n := n.toNat) (s := s) (by have := hn.1; have := hn.2; omega)
  rwa [Int.toNat_of_nonneg hn.1] at this
theorem Zfh (k : BL) : tB k ≠ [] := by unfold tB; simp [KE]
def tBs (l : List BL) : BL := l.flatMap tB
theorem VC (k : BL) (l : List BL) : tBs (k :: l) = tB k ++ tBs l := rfl
theorem YX {y : Value} {ks : List BL} (hl : ks.length < 140737488355328) : ∀ (rest : List BL) (i : Nat) (N : Nat) (s : St) (x : Value) (l : List UInt8),ks.drop i = rest → i ≤ ks.length → Own N 1 s x (bv l) → N ≤ s.heap.length → Bm strC y s = some ks → (∀ c,BW y = some c → c < s.heap.length ∧ BW x ≠ some c) → l.length + (tBs rest).length ≤ 140737488300000 →
    ∃ r,AV (Fb.b0 (run Tryz.prog (libL libT) Ad)) [x,y,.int .i64 ((ks.length : Nat) : Int),.int .i64 (i : Int)] s = some (.exit 0,[r.1],r.2) ∧ AppK N s x (l ++ tBs rest) (2 * rest.length) r := by
  intro rest
  induction rest with
  | nil =>
    intro i N s x l hi hle ho hN hy hne hb
    have h1 : decide ((i : Int) < ((ks.length : Nat) : Int)) = false := by
      have := List.drop_eq_nil_iff.1 hi
      simp; omega
    refine ⟨(x,s),?_,by rw [show tBs [] = [] from rfl,List.append_nil]; exact .start ho⟩
    rw [As]
    simp only [Fb.b0,h1,EVs]
  | cons k rest ih =>
    intro i N s x l hi hle ho hN hy hne hb
    obtain ⟨hlt,he,hd⟩ := GS hi
    have h1 : decide ((i : Int) < ((ks.length : Nat) : Int)) = true := by simp; omega
    obtain ⟨a,h2,h3⟩ := ZeG hy hlt
    rw [he] at h3
    rw [VC,List.length_append] at hb
    have hk : k.length ≤ 140737488300000 := by unfold tB at hb; rw [List.length_append] at hb; omega
    obtain ⟨r,g1,g3⟩ := D9 (m := tB k) ho hN (Zfh k) (by omega)
    have g2 := g3.1
    obtain ⟨r2,f1,f2⟩ := ih (i + 1) N r.2 r.1 (l ++ tB k) hd (by omega) g2.1 (Nat.le_trans hN g2.len) (g2.list hy fun c hc => (hne c hc).2) (fun c hc => ⟨Nat.lt_of_lt_of_le (hne c hc).1 g2.len,g2.ne (hne c hc).1 (hne c hc).2⟩) (by rw [List.length_append]; omega)
    refine ⟨r2,?_,?_⟩
    · rw [As]
      simp only [Fb.b0,h1,h2,h3,Ov,ZcP hk,g1,H2 (show i < 140737488355328 by omega),EVs]
      exact f1
    · rw [VC,← List.append_assoc]
      cases rest with
      | nil =>
        obtain ⟨a1,a2,a3,_⟩ := f2
        refine ⟨g2.trans a1,by rw [a2,g3.2.1]; rfl,fun e => by simp at e,fun _ => ?_⟩
        rw [a3 rfl,g3.2.2.2 (by decide)]
        simp [show tBs [] = [] from rfl]
      | cons k2 rest =>
        have := g3.trans f2 (by simp)
        rwa [show 2 + 2 * (k2 :: rest).length = 2 * (k :: k2 :: rest).length by simp only [List.length_cons]; omega] at this
theorem VD {N : Nat} {s : St} {x y : Value} {l : List UInt8} {ks : List BL} (ho : Own N 1 s x (bv l)) (hN : N ≤ s.heap.length) (hy : Bm strC y s = some ks) (hl : ks.length < 140737488355328) (hne : ∀ c,BW y = some c → c < s.heap.length ∧ BW x ≠ some c) (hb : l.length + (tBs ks).length ≤ 140737488300000) :
    ∃ r,(run Tryz.prog (libL libT) Ad) 87 [x,y] s = some r ∧ AppK N s x (l ++ tBs ks) (2 * ks.length) r := by
  obtain ⟨r,f1,f2⟩ := YX hl ks 0 N s x l rfl (Nat.zero_le _) ho hN hy hne hb
  refine ⟨r,SN rfl ?_,f2⟩
  rw [show ((0 : Nat) : Int) = 0 from rfl] at f1
  unfold Fb
  simp only [DM hy,f1,D6 f2.1.1,EVs]
theorem Nd {ks : List BL} {s : St} {n : Nat} (hn : ks.length = n) : Bm strC (.slice (some ⟨s.heap.length,0,none⟩) n n) (s.push (.row 1 (ks.map sv) .act)) = some ks := by
  subst hn
  refine (Cl _).2 ?_
  have he : encL strC ks = ks.map sv := by
    induction ks with
    | nil => rfl
    | cons k ks ih => rw [Ee,ih]; rfl
  have hn1 : strC.n = 1 := rfl
  simp only [cellsOf,Nat.le_refl,if_true,readN,Ab.readRow,AE,Option.bind_some,hn1,Nat.mul_one,Nat.zero_add,List.length_map]
  rw [he,List.drop_zero,List.take_of_length_le (by simp)]
theorem KJ {N : Nat} {s : St} {x : Value} {l : List UInt8} {ks : List BL} {n : Nat} (hn : ks.length = n) (h10 : n ≤ 10) (ho : Own N 1 s x (bv l)) (hN : N ≤ s.heap.length) (hb : l.length + (tBs ks).length ≤ 140737488300000) :
    ∃ r,(run Tryz.prog (libL libT) Ad) 87 [x,.slice (some ⟨s.heap.length,0,none⟩) n n] (s.push (.row 1 (ks.map sv) .act)) = some r ∧ AppK N (s.push (.row 1 (ks.map sv) .act)) x (l ++ tBs ks) (2 * n) r := by
  have ho1 : Own N 1 (s.push (.row 1 (ks.map sv) .act)) x (bv l) := En ho
  obtain ⟨r,g1,g2⟩ := VD ho1 (by rw [AJ]; omega) (Nd hn) (by omega) (fun c hc => by
    have hc' : s.heap.length = c := Option.some.inj hc
    subst hc'
    exact ⟨by rw [AJ]; omega,fun e => by have := (ho.blk _ e).2; omega⟩) hb
  subst hn
  exact ⟨r,g1,g2⟩
theorem VE {N : Nat} {s : St} {x : Value} {l : List UInt8} {ks : List BL} {n : Nat} (hn : ks.length = n) (h10 : n ≤ 10) (ho : Own N 1 s x (bv l)) (hN : N ≤ s.heap.length) (hb : l.length + (tBs ks).length ≤ 140737488300000) :
    ∃ r,(run Tryz.prog (libL libT) Ad) 87 [x,.slice (some ⟨s.heap.length,0,none⟩) n n] (s.push (.row 1 (ks.map sv) .act)) = some r ∧ App N s x (l ++ tBs ks) r ∧ (s.push (.row 1 (ks.map sv) .act)).heap.length ≤ r.2.heap.length := by
  obtain ⟨r,g1,g2⟩ := KJ hn h10 ho hN hb
  exact ⟨r,g1,g2.1.push,g2.1.len⟩
theorem Lv {N : Nat} {s : St} {x y : Value} {l : List UInt8} {ks : List BL} {n : Nat} (hn : ks.length = n) (h10 : n ≤ 10) (ho : Own N 1 s x (bv l)) (hN : N ≤ s.heap.length) (hy : Bm strC y s = some ks) (hne : ∀ c,BW y = some c → c < s.heap.length ∧ BW x ≠ some c) (hb : l.length + (tBs ks).length ≤ 140737488300000) :
    ∃ r,(((run Tryz.prog (libL libT) Ad) 87 [x,y] (⟨Eb (BK [x,y]) 0 s.heap⟩ : St)).bind fun r => some (r.1,r.2)).bind (appR (BK [x,y]) [] s) = some r ∧ AppK N s x (l ++ tBs ks) (2 * n) r := by
  subst hn
  refine Lt (f := fun s' => (run Tryz.prog (libL libT) Ad) 87 [x,y] s') ho hN fun s' h1 h2 h3 => ?_
  refine VD h1 h2 (ZaR hy h3) (by omega) (fun c hc => ⟨?_,(hne c hc).2⟩) hb
  have hc2 := (hne c hc).1
  have h4 := h3 c (ZcR hc)
  rw [List.getElem?_eq_getElem hc2] at h4
  exact (List.getElem?_eq_some_iff.1 h4).1
theorem R1 {N : Nat} {s : St} {x : Value} {l : BL} (b : Bool) (ho : Own N 1 s x (bv l)) (hN : N ≤ s.heap.length) (hb : l.length + 1 ≤ 140737488300000) : ∃ r,(run Tryz.prog (libL libT) Ad) 82 [x,.bool b] s = some r ∧ AppK N s x (l ++ [if b = true then 1 else 0]) 2 r := by
  cases b with
  | true =>
    obtain ⟨r,g1,g2⟩ := D9 (m := [1]) ho hN (by simp) (by simp only [List.length_singleton]; omega)
    have hn : Ar 1 [(.int .u8 0)] 1 [(0,(.int .u8 1))] s = some (Af [1] s) := rfl
    refine ⟨r,LV rfl ?_,g2⟩
    unfold Oe
    simp only [hn,g1,D6 g2.1.1,EVs]
  | false =>
    obtain ⟨r,g1,g2⟩ := D9 (m := [0]) ho hN (by simp) (by simp only [List.length_singleton]; omega)
    have hn : Ar 1 [(.int .u8 0)] 1 [(0,(.int .u8 0))] s = some (Af [0] s) := rfl
    refine ⟨r,LV rfl ?_,g2⟩
    unfold Oe
    simp only [hn,g1,D6 g2.1.1,EVs]
theorem WQ {N : Nat} {s : St} {x : Value} {l : BL} (b : Bool) (ho : Own N 1 s x (bv l)) (hN : N ≤ s.heap.length) (hb : l.length + 1 ≤ 140737488300000) : ∃ r,(((run Tryz.prog (libL libT) Ad) 82 [x,.bool b] (⟨Eb (BK [x,.bool b]) 0 s.heap⟩ : St)).bind fun r => some (r.1,r.2)).bind (appR (BK [x,.bool b]) [] s) = some r ∧ AppK N s x (l ++ [if b = true then 1 else 0]) 2 r :=
  Lt (f := fun s' => (run Tryz.prog (libL libT) Ad) 82 [x,.bool b] s') ho hN fun s' h1 h2 h3 => R1 b h1 h2 hb
section
variable {f ix M C N : Nat} {t : St} {cells : List Value} {x : Value} {l : BL} (hf : (f,ix) ∈ DU) (hM : readRow t M = some cells) (hC : readRow t C = some [fnV f]) (ho : Own N 1 t x (bv l)) (hN : N ≤ t.heap.length)
include hf hM hC ho hN
theorem ZaS {n : Int} (hn : ZcU n) (hi : cells[ix]? = some (.int .u64 n)) (hb : l.length + (eN n).length ≤ 140737488300000) : ∃ r,Ag Tryz.prog (run Tryz.prog (libL libT) Ad) (.func (.func 142) #[] #[.pointer (some ⟨C,0,none⟩)]) [x,mp M] t = some r ∧ App N t x (l ++ eN n) r := by
  rw [show (Value.func (.func 142) #[] #[.pointer (some ⟨C,0,none⟩)]) = .func (.func 142) ([] : List Value).toArray [.pointer (some ⟨C,0,none⟩)].toArray from rfl,Ci Rz]
  obtain ⟨r,g1,g2⟩ := O3 (m := eN n) ho hN (by omega)
  refine ⟨r,Ry rfl ?_,g2⟩
  have e : Ah (.pointer (some ⟨M,ix,none⟩)) = some (.pointer (some ⟨M,ix,none⟩)) := rfl
  unfold Qf
  simp only [BZ hC,Dy IK hf,e,CJ hM hi,Cd,ZcV hn,g1,D6 g2.1,EVs]
theorem WR {n : Int} (hi : cells[ix]? = some (.int .i64 n)) (hb : l.length + 1 ≤ 140737488300000) : ∃ r,Ag Tryz.prog (run Tryz.prog (libL libT) Ad) (.func (.func 146) #[] #[.pointer (some ⟨C,0,none⟩)]) [x,mp M] t = some r ∧ App N t x (l ++ [bI n]) r := by
  rw [show (Value.func (.func 146) #[] #[.pointer (some ⟨C,0,none⟩)]) = .func (.func 146) ([] : List Value).toArray [.pointer (some ⟨C,0,none⟩)].toArray from rfl,Ci Oo]
  obtain ⟨r,g1,g2⟩ := O3 (m := [bI n]) ho hN (by simp only [List.length_singleton]; omega)
  refine ⟨r,On rfl ?_,g2⟩
  have e : Ah (.pointer (some ⟨M,ix,none⟩)) = some (.pointer (some ⟨M,ix,none⟩)) := rfl
  unfold L4
  simp only [BZ hC,Dy IK hf,e,CJ hM hi,VB,ZcT,g1,D6 g2.1,EVs]
end
section
variable {M N : Nat} {t : St} {cells : List Value} {x : Value} {l : BL} (hM : readRow t M = some cells) (ho : Own N 1 t x (bv l)) (hN : N ≤ t.heap.length)
include hM ho hN
theorem YY {b : Bool} (hi : cells[15]? = some (.bool b)) (hb : l.length + 1 ≤ 140737488300000) : ∃ r,Ag Tryz.prog (run Tryz.prog (libL libT) Ad) (fnV 81) [x,mp M] t = some r ∧ App N t x (l ++ [if b = true then 1 else 0]) r := by
  obtain ⟨r,g1,g2⟩ := R1 b ho hN hb
  rw [MG]
  refine ⟨r,Pz rfl ?_,g2.1⟩
  have h1 : Ah (mp M) = some (mp M) := rfl
  have h2 : Ac 15 (mp M) = some (.pointer (some ⟨M,15,none⟩)) := by simp [Ac]
  unfold Od
  simp only [h1,h2,CJ hM hi,IX,g1,D6 g2.1.1,EVs]
theorem WS {r0 : Rg} (hi : cells[16]? = some (sv r0.1)) (hj : cells[17]? = some (sv r0.2)) (hb : l.length + (tBs [r0.1,r0.2]).length ≤ 140737488300000) : ∃ r,Ag Tryz.prog (run Tryz.prog (libL libT) Ad) (fnV 86) [x,mp M] t = some r ∧ App N t x (l ++ tBs [r0.1,r0.2]) r := by
  obtain ⟨r,g1,g2,g3⟩ := VE (ks := [r0.1,r0.2]) (n := 2) rfl (by decide) ho hN hb
  rw [MJ]
  refine ⟨r,PF rfl ?_,g2⟩
  have h1 : Ah (mp M) = some (mp M) := rfl
  have h2 : Ac 16 (mp M) = some (.pointer (some ⟨M,16,none⟩)) := by simp [Ac]
  have h3 : Ac 0 (.pointer (some ⟨M,16,none⟩)) = some (.pointer (some ⟨M,16,none⟩)) := rfl
  have h4 : Ac 1 (.pointer (some ⟨M,16,none⟩)) = some (.pointer (some ⟨M,17,none⟩)) := rfl
  have hMf : readRow (frzS t) M = some cells := by rw [D2]; exact hM
  have hn : Ar 1 [(.string ⟨#[]⟩)] 2 [(0,sv r0.1),(1,sv r0.2)] t = some (.slice (some ⟨t.heap.length,0,none⟩) 2 2,t.push (.row 1 ([r0.1,r0.2].map sv) .act)) := rfl
  have o1 : ownR t (Value.slice (some ⟨t.heap.length,0,none⟩) 2 2,t.push (.row 1 ([r0.1,r0.2].map sv) .act)) = some (Value.slice (some ⟨t.heap.length,0,none⟩) 2 2,t.push (.row 1 ([r0.1,r0.2].map sv) .act)) := Ls (r := (_,_)) (by simp [St.push])
  unfold Og
  simp only [h1,h2,h3,h4,CJ hMf hi,CJ hMf hj,hn,o1,Dk,g1,Ls g3,D6 g2.1,EVs]
end
end Go.Proofs.YtmbhnbladmpnoaaGreat.Ab

/- Messages are written: operations,owners,results. -/
namespace Go.Proofs.YtmbhnbladmpnoaaGreat.Ab
open Go
set_option maxRecDepth 10000
def eOpW (o : OpT) : BL := [bI o.kind] ++ (tBs [o.key,o.val,o.lo,o.hi] ++ [bI o.most])
def eOwW (o : Ow) : BL := tBs [o.1] ++ [bI o.2]
def ePr (p : Rg) : BL := tBs [p.1,p.2]
def Fs {α : Type} (f : α → BL) (l : List α) : BL := enc l.length ++ l.flatMap f
def eRs (r : Rs) : BL := [if r.1 = true then 1 else 0] ++ (tBs [r.2.1] ++ Fs ePr r.2.2)
theorem ZaT (a b c d : BL) (s : St) : Ar 1 [(.string ⟨#[]⟩)] 4 [(0,sv a),(1,sv b),(2,sv c),(3,sv d)] s = some (.slice (some ⟨s.heap.length,0,none⟩) 4 4,s.push (.row 1 ([a,b,c,d].map sv) .act)) := rfl
theorem ZaU (a b : BL) (s : St) : Ar 1 [(.string ⟨#[]⟩)] 2 [(0,sv a),(1,sv b)] s = some (.slice (some ⟨s.heap.length,0,none⟩) 2 2,s.push (.row 1 ([a,b].map sv) .act)) := rfl
theorem VF (a : BL) (s : St) : Ar 1 [(.string ⟨#[]⟩)] 1 [(0,sv a)] s = some (.slice (some ⟨s.heap.length,0,none⟩) 1 1,s.push (.row 1 ([a].map sv) .act)) := rfl
theorem ZcW (b n : Nat) : blkV (.slice (some ⟨b,0,none⟩) n n) = [b] := rfl
theorem YZ {N n : Nat} {s : St} {x : Value} {l : BL} {B : Blk} (ho : Own N 1 s x (bv l)) : ∀ c,BW (.slice (some ⟨s.heap.length,0,none⟩) n n) = some c → c < (s.push B).heap.length ∧ BW x ≠ some c := fun c hc => by
  have hc' : s.heap.length = c := Option.some.inj hc
  subst hc'
  exact ⟨by rw [AJ]; omega,fun e => by have := (ho.blk _ e).2; omega⟩
theorem AppK.le {N k : Nat} {s : St} {x : Value} {m : BL} {r : Value × St} (h : AppK N s x m k r) : s.heap.length ≤ r.2.heap.length := h.1.len
theorem R2 {b n : Nat} {s : St} (h : b < s.heap.length) : ∀ c ∈ blkV (.slice (some ⟨b,0,none⟩) n n),c < s.heap.length := fun c hc => by
  rw [ZcW] at hc
  simp only [List.mem_cons,List.not_mem_nil,or_false] at hc
  omega
theorem ZeI {N : Nat} {s : St} {x : Value} {l : BL} (o : OpT) (ho : Own N 1 s x (bv l)) (hN : N ≤ s.heap.length) (hb : l.length + (eOpW o).length ≤ 140737488300000) : ∃ r,(run Tryz.prog (libL libT) Ad) 93 [x,oV o] s = some r ∧ App N s x (l ++ eOpW o) r := by
  simp only [eOpW,List.length_append,List.length_singleton] at hb
  have hl1 : (l ++ [bI o.kind]).length = l.length + 1 := by simp
  -- the dry run
  obtain ⟨r4,a1,a2⟩ := D9 (m := [bI o.kind]) ho hN (by simp) (by simp only [List.length_singleton]; omega)
  have hN4 := Nat.le_trans hN a2.le
  obtain ⟨r10,b1,b2⟩ := KJ (ks := [o.key,o.val,o.lo,o.hi]) (n := 4) rfl (by decide) a2.1.1 hN4 (by rw [hl1]; omega)
  obtain ⟨r14,c1,c2⟩ := D9 (m := [bI o.most]) b2.1.1 (Nat.le_trans (by rw [AJ]; omega) b2.le) (by simp) (by simp only [List.length_append,List.length_singleton]; omega)
  -- the first byte
  have p1 : Bz [] s ((Af [bI o.kind] (⟨frzK [] 0 s.heap⟩ : St)).1,(Af [bI o.kind] (⟨frzK [] 0 s.heap⟩ : St)).2) = some (Af [bI o.kind] s) := JO KI
  have hoA : Own N 1 (Af [bI o.kind] s).2 x (bv l) := En ho
  have hNA : N ≤ (Af [bI o.kind] s).2.heap.length := by rw [Cr]; omega
  obtain ⟨r19,d1,d2⟩ := UO hoA hNA (Bk (l := [bI o.kind])) (by simp) (by simp only [List.length_singleton]; omega)
  have d3 : AppK N s x (l ++ [bI o.kind]) 2 r19 := d2.push (by decide)
  obtain ⟨e1,e2⟩ := d3.det a2 rfl
  rw [e1,e2] at b1
  -- the texts
  have k1 : ∀ b,(BK [x,(Af [bI o.kind] s).1]).contains b = true → b < r19.2.heap.length := Nc fun v hv b hb => by
    simp only [List.mem_cons,List.not_mem_nil,or_false] at hv
    have := d3.2.1
    rcases hv with rfl | rfl
    · have := Nb ho b hb
      omega
    · have : b < (Af [bI o.kind] s).2.heap.length := R2 (by rw [Cr]; omega) b hb
      rw [Cr] at this
      omega
  generalize hK1 : BK [x,(Af [bI o.kind] s).1] = K1 at *
  have p2 := C2 (K := K1 ++ []) (s := r19.2) (v := .slice (some ⟨r19.2.heap.length,0,none⟩) 4 4) (n := 1) (cs := [o.key,o.val,o.lo,o.hi].map sv) (Ts k1 KI)
  have hN19 := Nat.le_trans hN d3.le
  have hoB : Own N 1 (r19.2.push (.row 1 ([o.key,o.val,o.lo,o.hi].map sv) .act)) r19.1 (bv (l ++ [bI o.kind])) := En d3.1.1
  obtain ⟨r25,f1,f2⟩ := Lv (ks := [o.key,o.val,o.lo,o.hi]) (n := 4) rfl (by decide) hoB (by rw [AJ]; omega) (Nd (n := 4) rfl) (YZ d3.1.1) (by rw [hl1]; omega)
  have k2 : ∀ b,(BK [r19.1,.slice (some ⟨r19.2.heap.length,0,none⟩) 4 4]).contains b = true → b < r25.2.heap.length := Nc fun v hv b hb => by
    simp only [List.mem_cons,List.not_mem_nil,or_false] at hv
    have h25 := f2.2.1
    rw [AJ] at h25
    rcases hv with rfl | rfl
    · have := Nb d3.1.1 b hb
      omega
    · have : b < r25.2.heap.length := R2 (by omega) b hb
      exact this
  generalize hK2 : BK [r19.1,.slice (some ⟨r19.2.heap.length,0,none⟩) 4 4] = K2 at *
  have p3 := JO (K := K1 ++ (K2 ++ [])) (s := r25.2) (m := [bI o.most]) (Ts (fun b hb => Nat.lt_of_lt_of_le (k1 b hb) (by have := f2.2.1; rw [AJ] at this; omega)) (Ts k2 KI))
  have hN25 : N ≤ r25.2.heap.length := Nat.le_trans hN19 (by have := f2.2.1; rw [AJ] at this; omega)
  obtain ⟨r29,g1,g2⟩ := D9 (m := [bI o.most]) f2.1.1 hN25 (by simp) (by simp only [List.length_append,List.length_singleton]; omega)
  have o1 : ownR (Af [bI o.most] r25.2).2 (r29.1,r29.2) = some (r29.1,r29.2) := Ls (by have := g2.2.1; rw [Cr]; omega)
  refine ⟨r29,Oi rfl ?_,?_⟩
  · unfold LW
    simp only [Um,o_0,o_1,o_2,o_3,o_4,o_5,VB,ZcT,a1,ZaT,Dk,b1,c1,p1,d1,hK1,e1,e2,Bo,p2,f1,hK2,p3,g1,o1,D6 g2.1.1,EVs]
  · have := (d3.1.trans f2.1.push).trans g2.1
    simpa only [eOpW,List.append_assoc] using this
theorem ZeJ {N : Nat} {s : St} {x : Value} {l : BL} (o : Ow) (ho : Own N 1 s x (bv l)) (hN : N ≤ s.heap.length) (hb : l.length + (eOwW o).length ≤ 140737488300000) : ∃ r,(run Tryz.prog (libL libT) Ad) 101 [x,owV o] s = some r ∧ App N s x (l ++ eOwW o) r := by
  simp only [eOwW,List.length_append,List.length_singleton] at hb
  -- the dry run
  obtain ⟨r3,a1,a2⟩ := KJ (ks := [o.1]) (n := 1) rfl (by decide) ho hN (by omega)
  obtain ⟨r7,c1,c2⟩ := D9 (m := [bI o.2]) a2.1.1 (Nat.le_trans (by rw [AJ]; omega) a2.le) (by simp) (by simp only [List.length_append,List.length_singleton]; omega)
  -- the text
  have p2 := C2 (K := []) (s := s) (v := .slice (some ⟨s.heap.length,0,none⟩) 1 1) (n := 1) (cs := [o.1].map sv) KI
  have hoB : Own N 1 (s.push (.row 1 ([o.1].map sv) .act)) x (bv l) := En ho
  obtain ⟨r11,f1,f2⟩ := Lv (ks := [o.1]) (n := 1) rfl (by decide) hoB (by rw [AJ]; omega) (Nd (n := 1) rfl) (YZ ho) (by omega)
  have k2 : ∀ b,(BK [x,.slice (some ⟨s.heap.length,0,none⟩) 1 1]).contains b = true → b < r11.2.heap.length := Nc fun v hv b hb => by
    simp only [List.mem_cons,List.not_mem_nil,or_false] at hv
    have h25 := f2.2.1
    rw [AJ] at h25
    rcases hv with rfl | rfl
    · have := Nb ho b hb
      omega
    · have : b < r11.2.heap.length := R2 (by omega) b hb
      exact this
  generalize hK2 : BK [x,.slice (some ⟨s.heap.length,0,none⟩) 1 1] = K2 at *
  have p3 := JO (K := K2 ++ []) (s := r11.2) (m := [bI o.2]) (Ts k2 KI)
  have hN11 : N ≤ r11.2.heap.length := Nat.le_trans hN (by have := f2.2.1; rw [AJ] at this; omega)
  obtain ⟨r15,g1,g2⟩ := D9 (m := [bI o.2]) f2.1.1 hN11 (by simp) (by simp only [List.length_append,List.length_singleton]; omega)
  have o1 : ownR (Af [bI o.2] r11.2).2 (r15.1,r15.2) = some (r15.1,r15.2) := Ls (by have := g2.2.1; rw [Cr]; omega)
  refine ⟨r15,Kt rfl ?_,?_⟩
  · unfold HQ
    simp only [Ze3,w_0,w_1,VB,ZcT,VF,Dk,a1,c1,Bo,p2,f1,hK2,p3,g1,o1,D6 g2.1.1,EVs]
  · have := f2.1.push.trans g2.1
    simpa only [eOwW,List.append_assoc] using this
def rsV (f : Bool) (v : BL) (vp : Value) : Value := .agg #[.bool f,sv v,vp]
theorem ZeK {f : Bool} {v : BL} {vp : Value} (h : AH vp = true) : lbox (rsV f v vp) = some (rsV f v vp) := by
  have e : An (rsV f v vp) = [.bool f,sv v,vp] := rfl
  have hs : AH (sv v) = true := rfl
  have hb : AH (.bool f) = true := rfl
  unfold lbox
  rw [e,if_pos (by simp [h,hs,hb])]
  rfl
theorem rs_0 (f : Bool) (v : BL) (vp : Value) : Ao false 1 lptr (rsV f v vp) = some (.bool f) := rfl
theorem rs_1 (f : Bool) (v : BL) (vp : Value) : Ao false 1 (.pointer (some ⟨0,1,none⟩)) (rsV f v vp) = some (sv v) := rfl
theorem rs_2 (f : Bool) (v : BL) (vp : Value) : Ao false 1 (.pointer (some ⟨0,2,none⟩)) (rsV f v vp) = some vp := rfl
theorem ZeL (x : Rg) : AN 2 lptr (rv x) (.agg #[(.string ⟨#[]⟩),(.string ⟨#[]⟩)]) = some (rv x) := rfl
theorem Y0 {N : Nat} {s1 : St} {x0 vp : Value} {ps : List Rg} (he : ElsA N s1 x0 2 true vp ps fun p cs => cs = prC.enc p) (hN : N ≤ s1.heap.length) (hl : ps.length < 140737488355328) : ∀ (rest : List Rg) (i : Nat) (r : Value × St) (l : BL),ps.drop i = rest → i ≤ ps.length → App N s1 x0 l r → l.length + (rest.flatMap ePr).length ≤ 140737488300000 →
    ∃ r2,AV (BR.b0 (run Tryz.prog (libL libT) Ad)) [r.1,vp,.int .i64 ((ps.length : Nat) : Int),.int .i64 (i : Int)] r.2 = some (.exit 0,[r2.1],r2.2) ∧ App N s1 x0 (l ++ rest.flatMap ePr) r2 := by
  intro rest
  induction rest with
  | nil =>
    intro i r l hi hle ho hb
    have h1 : decide ((i : Int) < ((ps.length : Nat) : Int)) = false := by
      have := List.drop_eq_nil_iff.1 hi
      simp; omega
    refine ⟨r,?_,by rw [List.flatMap_nil,List.append_nil]; exact ho⟩
    rw [As]
    simp only [BR.b0,h1,EVs]
  | cons p rest ih =>
    intro i r l hi hle ho hb
    obtain ⟨hlt,hp,hd⟩ := GS hi
    have h1 : decide ((i : Int) < ((ps.length : Nat) : Int)) = true := by simp; omega
    obtain ⟨a,u,cs,h2,h3,h4,h5⟩ := he.2 i hlt
    rw [hp] at h4
    subst h4
    have h3 : u = rv p := h3
    subst h3
    have h6 := h5 l r ho
    rw [List.flatMap_cons,List.length_append] at hb
    have hN2 : N ≤ r.2.heap.length := Nat.le_trans hN ho.len
    obtain ⟨r2,g1,g2,_⟩ := VE (ks := [p.1,p.2]) (n := 2) rfl (by decide) ho.1 hN2 (by unfold ePr at hb; omega)
    obtain ⟨r3,f1,f2⟩ := ih (i + 1) r2 (l ++ ePr p) hd (by omega) (ho.trans g2) (by rw [List.length_append]; omega)
    refine ⟨r3,?_,by rw [List.flatMap_cons,← List.append_assoc]; exact f2⟩
    rw [As]
    simp only [BR.b0,h1,h2,h6,ZeL,ld_0,ld_1,ZaU,Dk,g1,H2 (show i < 140737488355328 by omega),EVs]
    exact f1
theorem ZcX {N : Nat} {s0 s : St} {x vp : Value} {l : BL} (f : Bool) (v : BL) (ps : List Rg) {B : Nat} (hp : Cm (.ofC prC fun _ => True) B ps s0 vp) (hl : ps.length < 140737488355328) (hN0 : s0.heap.length = N) (hx : Ext N s0 s) (ho : Own N 1 s x (bv l)) (hb : l.length + (eRs (f,v,ps)).length ≤ 140737488300000) : ∃ r,(run Tryz.prog (libL libT) Ad) 97 [x,rsV f v vp] s = some r ∧ App N s x (l ++ eRs (f,v,ps)) r := by
  simp only [eRs,Fs,List.length_append,List.length_singleton] at hb
  have hN : N ≤ s.heap.length := hN0 ▸ hx.1
  have hlen : ∀ ty t,AP (.slice ty) vp t = some (.int .i64 ((ps.length : Nat) : Int)) := Bx hp
  have hw : IntKind.wrap .u64 ((ps.length : Nat) : Int) = ((ps.length : Nat) : Int) := SB rfl (Nat.lt_trans hl (by decide))
  have hl1 : ∀ c : UInt8,(l ++ [c]).length = l.length + 1 := fun c => by simp
  -- the dry run
  obtain ⟨r2,a1,a2⟩ := R1 f ho hN (by omega)
  have hN2 := Nat.le_trans hN a2.le
  obtain ⟨r5,b1,b2⟩ := KJ (ks := [v]) (n := 1) rfl (by decide) a2.1.1 hN2 (by rw [hl1]; omega)
  obtain ⟨r10,c1,c2⟩ := D9 (m := enc ps.length) b2.1.1 (Nat.le_trans (by rw [AJ]; omega) b2.le) KE (by simp only [List.length_append,List.length_singleton]; omega)
  -- the flag
  obtain ⟨r13,d1,d2⟩ := WQ f ho hN (by omega)
  obtain ⟨e1,e2⟩ := d2.det a2 rfl
  rw [e1,e2] at b1
  have k1 : ∀ b,(BK [x,.bool f]).contains b = true → b < r13.2.heap.length := Nc fun v hv b hb => by
    simp only [List.mem_cons,List.not_mem_nil,or_false] at hv
    have := d2.2.1
    rcases hv with rfl | rfl
    · have := Nb ho b hb
      omega
    · cases hb
  generalize hK1 : BK [x,.bool f] = K1 at *
  -- the text
  have p2 := C2 (K := K1 ++ []) (s := r13.2) (v := .slice (some ⟨r13.2.heap.length,0,none⟩) 1 1) (n := 1) (cs := [v].map sv) (Ts k1 KI)
  have hN13 := Nat.le_trans hN d2.le
  have hoB : Own N 1 (r13.2.push (.row 1 ([v].map sv) .act)) r13.1 (bv (l ++ [if f = true then 1 else 0])) := En d2.1.1
  obtain ⟨r16,f1,f2⟩ := Lv (ks := [v]) (n := 1) rfl (by decide) hoB (by rw [AJ]; omega) (Nd (n := 1) rfl) (YZ d2.1.1) (by rw [hl1]; omega)
  generalize hK2 : BK [r13.1,.slice (some ⟨r13.2.heap.length,0,none⟩) 1 1] = K2 at *
  have hN16 : N ≤ r16.2.heap.length := Nat.le_trans hN13 (by have := f2.2.1; rw [AJ] at this; omega)
  obtain ⟨r21,g1,g2⟩ := D9 (m := enc ps.length) f2.1.1 hN16 KE (by simp only [List.length_append,List.length_singleton]; omega)
  have o0 : ownR r16.2 ((Af (enc ps.length) r16.2).1,(Af (enc ps.length) r16.2).2) = some (Af (enc ps.length) r16.2) := Ls (r := Af (enc ps.length) r16.2) (by rw [Cr]; omega)
  have o1 : ownR (Af (enc ps.length) r16.2).2 (r21.1,r21.2) = some (r21.1,r21.2) := Ls (by have := g2.2.1; rw [Cr]; omega)
  have h3 : App N s x (l ++ [if f = true then 1 else 0] ++ tBs [v] ++ enc ps.length) r21 := (d2.1.trans f2.1.push).trans g2.1
  have hE : ElsA N r21.2 r21.1 2 true vp ps fun p cs => cs = prC.enc p := by
    have := Na (x := r21.1) hp hN0 (hx.trans (h3.ext ho hN)) g2.1.1 rfl (.inl rfl)
    refine ⟨this.1,fun i hi => ?_⟩
    obtain ⟨p,u,cs,q1,q2,q3,q4⟩ := this.2 i hi
    exact ⟨p,u,cs,q1,q2,q3.1,q4⟩
  obtain ⟨r33,m1,m2⟩ := Y0 hE (Nat.le_trans hN h3.len) hl ps 0 (r21.1,r21.2) _ rfl (Nat.zero_le _) (.start g2.1.1) (by simp only [List.length_append,List.length_singleton]; omega)
  rw [show ((0 : Nat) : Int) = 0 from rfl] at m1
  have hfin := h3.trans m2
  refine ⟨r33,JC rfl ?_,?_⟩
  · unfold BR
    simp only [ZeK (D5 hp),rs_0,rs_1,rs_2,IX,a1,VF,Dk,b1,hlen,hw,Cd,To (show ps.length < 18446744073709551616 by omega),c1,d1,hK1,e1,e2,Bo,p2,f1,hK2,Iw,o0,g1,o1,m1,D6 m2.1,EVs]
  · simpa only [eRs,Fs,List.append_assoc] using hfin
end Go.Proofs.YtmbhnbladmpnoaaGreat.Ab

/- Messages are written: lists; all fields. -/
namespace Go.Proofs.YtmbhnbladmpnoaaGreat.Ab
open Go
set_option maxRecDepth 10000
theorem ZcY {n : Nat} {cs z : List Value} (h : cs.length = n) (hl : cs.all AH = true) (hz : z.length = n) : AN n lptr (.agg cs.toArray) (.agg z.toArray) = some (.agg cs.toArray) := by
  have hc := (MY.cells (ag := true) (u := .agg cs.toArray) rfl hl).1
  subst h
  unfold AN lptr
  simp only [hc,hl,List.size_toArray,Nat.zero_add,hz,Nat.le_refl,and_self,if_true]
  congr 2
  have : AB z 0 cs = cs := by
    unfold AB
    simp only [List.take_zero,List.nil_append,Nat.zero_add]
    rw [List.drop_eq_nil_of_le (by omega),List.append_nil]
  simp [this]
theorem Zfi {cs : List Value} (h : cs.length = 6) (hl : cs.all AH = true) (a b c d e f : Value) : AN 6 lptr (.agg cs.toArray) (.agg #[a,b,c,d,e,f]) = some (.agg cs.toArray) := ZcY h hl rfl
theorem Zfj {cs : List Value} (h : cs.length = 3) (hl : cs.all AH = true) (a b c : Value) : AN 3 lptr (.agg cs.toArray) (.agg #[a,b,c]) = some (.agg cs.toArray) := ZcY h hl rfl
theorem Zfk {cs : List Value} (h : cs.length = 2) (hl : cs.all AH = true) (a b : Value) : AN 2 lptr (.agg cs.toArray) (.agg #[a,b]) = some (.agg cs.toArray) := ZcY h hl rfl
theorem ZcZ {n : Nat} {cs : List Value} (h : cs.length = n) : Ao true n lptr (.agg cs.toArray) = some (.agg cs.toArray) := by
  subst h
  unfold Ao lptr
  simp
section
variable {α : Type} {C : NCod α} {B : Nat} {aL : List α} {t0 : St} {y : Value} {f : α → BL} {acc ix wf M K W : Nat} {cells : List Value}
theorem GX {s1 : St} {x0 : Value} {m0 : BL} (hL : Cm C B aL t0 y) (h_n : C.n = (6)) (hl : aL.length < 140737488355328) (hlf : ∀ a cs,C.rel a t0 cs → cs.all AH = true)
    (hW : readRow t0 W = some [fnV wf]) (hw : ∀ a cs,C.rel a t0 cs → ∀ t x l,Own t0.heap.length 1 t x (bv l) → Ext t0.heap.length t0 t → l.length + (f a).length ≤ 140737488300000 → ∃ r,Ag Tryz.prog (run Tryz.prog (libL libT) Ad) (fnV wf) [x,.agg cs.toArray] t = some r ∧ App t0.heap.length t x (l ++ f a) r)
    (ho : Own t0.heap.length 1 s1 x0 (bv m0)) (hx : Ext t0.heap.length t0 s1) : ∀ (rest : List α) (i : Nat) (r : Value × St) (l : BL),aL.drop i = rest → i ≤ aL.length → App t0.heap.length s1 x0 l r → l.length + (rest.flatMap f).length ≤ 140737488300000 →
    ∃ r2,AV (Bv.b0 (run Tryz.prog (libL libT) Ad)) [r.1,.pointer (some ⟨W,0,none⟩),y,.int .i64 ((aL.length : Nat) : Int),.int .i64 (i : Int)] r.2 = some (.exit 0,[r2.1],r2.2) ∧ App t0.heap.length s1 x0 (l ++ rest.flatMap f) r2 := by
  have he := Na (ag := true) hL rfl hx ho h_n.symm (.inl rfl)
  intro rest
  induction rest with
  | nil =>
    intro i r l hi hle ha hb
    have h1 : decide ((i : Int) < ((aL.length : Nat) : Int)) = false := by
      have := List.drop_eq_nil_iff.1 hi
      simp; omega
    refine ⟨r,?_,by rw [List.flatMap_nil,List.append_nil]; exact ha⟩
    rw [As]
    simp only [Bv.b0,h1,EVs]
  | cons p rest ih =>
    intro i r l hi hle ha hb
    obtain ⟨hlt,hp,hd⟩ := GS hi
    have h1 : decide ((i : Int) < ((aL.length : Nat) : Int)) = true := by simp; omega
    obtain ⟨a,u,cs,h2,h3,h4,h5⟩ := he.2 i hlt
    rw [hp] at h4
    have h3 : u = .agg cs.toArray := h3
    subst h3
    have h6 := h5 l r ha
    have hlen : cs.length = (6) := (C.len h4).trans h_n
    rw [List.flatMap_cons,List.length_append] at hb
    have hx2 : Ext t0.heap.length t0 r.2 := hx.trans (ha.ext ho hx.1)
    have h7 : Aq false 1 (.pointer (some ⟨W,0,none⟩)) r.2 = some (fnV wf) := BZ (BO hx2 hW)
    obtain ⟨r2,g1,g2⟩ := hw p cs h4 r.2 r.1 l ha.1 hx2 (by omega)
    obtain ⟨r3,f1,f2⟩ := ih (i + 1) r2 (l ++ f p) hd (by omega) (ha.trans g2) (by rw [List.length_append]; omega)
    refine ⟨r3,?_,by rw [List.flatMap_cons,← List.append_assoc]; exact f2⟩
    rw [As]
    simp only [Bv.b0,h1,h2,h6,Zfi hlen (hlf p cs h4),h7,ZcZ hlen,g1,H2 (show i < 140737488355328 by omega),EVs]
    exact f1
theorem Hj (hL : Cm C B aL t0 y) (h_n : C.n = (6)) (hl : aL.length < 140737488355328) (hlf : ∀ a cs,C.rel a t0 cs → cs.all AH = true)
    (hf : (acc,ix) ∈ DU) (hM : readRow t0 M = some cells) (hi : cells[ix]? = some y) (hK : readRow t0 K = some [fnV acc])
    (hW : readRow t0 W = some [fnV wf]) (hw : ∀ a cs,C.rel a t0 cs → ∀ t x l,Own t0.heap.length 1 t x (bv l) → Ext t0.heap.length t0 t → l.length + (f a).length ≤ 140737488300000 → ∃ r,Ag Tryz.prog (run Tryz.prog (libL libT) Ad) (fnV wf) [x,.agg cs.toArray] t = some r ∧ App t0.heap.length t x (l ++ f a) r)
    (t : St) (x : Value) (l : BL) (ho : Own t0.heap.length 1 t x (bv l)) (hx : Ext t0.heap.length t0 t) (hb : l.length + (Fs f aL).length ≤ 140737488300000) :
    ∃ r,Ag Tryz.prog (run Tryz.prog (libL libT) Ad) (.func (.func 151) #[] #[.pointer (some ⟨K,0,none⟩),.pointer (some ⟨W,0,none⟩)]) [x,mp M] t = some r ∧ App t0.heap.length t x (l ++ Fs f aL) r := by
  rw [show (Value.func (.func 151) #[] #[.pointer (some ⟨K,0,none⟩),.pointer (some ⟨W,0,none⟩)]) = .func (.func 151) ([] : List Value).toArray [.pointer (some ⟨K,0,none⟩),.pointer (some ⟨W,0,none⟩)].toArray from rfl,Ci HV]
  simp only [Fs,List.length_append] at hb
  have hN := hx.1
  have hlen : ∀ ty t,AP (.slice ty) y t = some (.int .i64 ((aL.length : Nat) : Int)) := Bx hL
  have hwr : IntKind.wrap .u64 ((aL.length : Nat) : Int) = ((aL.length : Nat) : Int) := SB rfl (Nat.lt_trans hl (by decide))
  have e : Ah (.pointer (some ⟨M,ix,none⟩)) = some (.pointer (some ⟨M,ix,none⟩)) := rfl
  obtain ⟨r7,g1,g2⟩ := O3 (m := enc aL.length) ho hN (by omega)
  have hx7 : Ext t0.heap.length t0 r7.2 := hx.trans (g2.ext ho hN)
  obtain ⟨r,m1,m2⟩ := GX hL h_n hl hlf hW hw g2.1 hx7 aL 0 (r7.1,r7.2) _ rfl (Nat.zero_le _) (.start g2.1) (by rw [List.length_append]; omega)
  rw [show ((0 : Nat) : Int) = 0 from rfl] at m1
  refine ⟨r,HU rfl ?_,by rw [Fs,← List.append_assoc]; exact g2.trans m2⟩
  unfold Bv
  simp only [BZ (BO hx hK),Dy IK hf,e,CJ (BO hx hM) hi,hlen,hwr,Cd,To (show aL.length < 18446744073709551616 by omega),g1,BZ (BO hx7 hK),CJ (BO hx7 hM) hi,m1,D6 m2.1,EVs]
theorem Fk {s1 : St} {x0 : Value} {m0 : BL} (hL : Cm C B aL t0 y) (h_n : C.n = (3)) (hl : aL.length < 140737488355328) (hlf : ∀ a cs,C.rel a t0 cs → cs.all AH = true)
    (hW : readRow t0 W = some [fnV wf]) (hw : ∀ a cs,C.rel a t0 cs → ∀ t x l,Own t0.heap.length 1 t x (bv l) → Ext t0.heap.length t0 t → l.length + (f a).length ≤ 140737488300000 → ∃ r,Ag Tryz.prog (run Tryz.prog (libL libT) Ad) (fnV wf) [x,.agg cs.toArray] t = some r ∧ App t0.heap.length t x (l ++ f a) r)
    (ho : Own t0.heap.length 1 s1 x0 (bv m0)) (hx : Ext t0.heap.length t0 s1) : ∀ (rest : List α) (i : Nat) (r : Value × St) (l : BL),aL.drop i = rest → i ≤ aL.length → App t0.heap.length s1 x0 l r → l.length + (rest.flatMap f).length ≤ 140737488300000 →
    ∃ r2,AV (Ba.b0 (run Tryz.prog (libL libT) Ad)) [r.1,.pointer (some ⟨W,0,none⟩),y,.int .i64 ((aL.length : Nat) : Int),.int .i64 (i : Int)] r.2 = some (.exit 0,[r2.1],r2.2) ∧ App t0.heap.length s1 x0 (l ++ rest.flatMap f) r2 := by
  have he := Na (ag := true) hL rfl hx ho h_n.symm (.inl rfl)
  intro rest
  induction rest with
  | nil =>
    intro i r l hi hle ha hb
    have h1 : decide ((i : Int) < ((aL.length : Nat) : Int)) = false := by
      have := List.drop_eq_nil_iff.1 hi
      simp; omega
    refine ⟨r,?_,by rw [List.flatMap_nil,List.append_nil]; exact ha⟩
    rw [As]
    simp only [Ba.b0,h1,EVs]
  | cons p rest ih =>
    intro i r l hi hle ha hb
    obtain ⟨hlt,hp,hd⟩ := GS hi
    have h1 : decide ((i : Int) < ((aL.length : Nat) : Int)) = true := by simp; omega
    obtain ⟨a,u,cs,h2,h3,h4,h5⟩ := he.2 i hlt
    rw [hp] at h4
    have h3 : u = .agg cs.toArray := h3
    subst h3
    have h6 := h5 l r ha
    have hlen : cs.length = (3) := (C.len h4).trans h_n
    rw [List.flatMap_cons,List.length_append] at hb
    have hx2 : Ext t0.heap.length t0 r.2 := hx.trans (ha.ext ho hx.1)
    have h7 : Aq false 1 (.pointer (some ⟨W,0,none⟩)) r.2 = some (fnV wf) := BZ (BO hx2 hW)
    obtain ⟨r2,g1,g2⟩ := hw p cs h4 r.2 r.1 l ha.1 hx2 (by omega)
    obtain ⟨r3,f1,f2⟩ := ih (i + 1) r2 (l ++ f p) hd (by omega) (ha.trans g2) (by rw [List.length_append]; omega)
    refine ⟨r3,?_,by rw [List.flatMap_cons,← List.append_assoc]; exact f2⟩
    rw [As]
    simp only [Ba.b0,h1,h2,h6,Zfj hlen (hlf p cs h4),h7,ZcZ hlen,g1,H2 (show i < 140737488355328 by omega),EVs]
    exact f1
theorem Ft (hL : Cm C B aL t0 y) (h_n : C.n = (3)) (hl : aL.length < 140737488355328) (hlf : ∀ a cs,C.rel a t0 cs → cs.all AH = true)
    (hf : (acc,ix) ∈ DU) (hM : readRow t0 M = some cells) (hi : cells[ix]? = some y) (hK : readRow t0 K = some [fnV acc])
    (hW : readRow t0 W = some [fnV wf]) (hw : ∀ a cs,C.rel a t0 cs → ∀ t x l,Own t0.heap.length 1 t x (bv l) → Ext t0.heap.length t0 t → l.length + (f a).length ≤ 140737488300000 → ∃ r,Ag Tryz.prog (run Tryz.prog (libL libT) Ad) (fnV wf) [x,.agg cs.toArray] t = some r ∧ App t0.heap.length t x (l ++ f a) r)
    (t : St) (x : Value) (l : BL) (ho : Own t0.heap.length 1 t x (bv l)) (hx : Ext t0.heap.length t0 t) (hb : l.length + (Fs f aL).length ≤ 140737488300000) :
    ∃ r,Ag Tryz.prog (run Tryz.prog (libL libT) Ad) (.func (.func 155) #[] #[.pointer (some ⟨K,0,none⟩),.pointer (some ⟨W,0,none⟩)]) [x,mp M] t = some r ∧ App t0.heap.length t x (l ++ Fs f aL) r := by
  rw [show (Value.func (.func 155) #[] #[.pointer (some ⟨K,0,none⟩),.pointer (some ⟨W,0,none⟩)]) = .func (.func 155) ([] : List Value).toArray [.pointer (some ⟨K,0,none⟩),.pointer (some ⟨W,0,none⟩)].toArray from rfl,Ci FW]
  simp only [Fs,List.length_append] at hb
  have hN := hx.1
  have hlen : ∀ ty t,AP (.slice ty) y t = some (.int .i64 ((aL.length : Nat) : Int)) := Bx hL
  have hwr : IntKind.wrap .u64 ((aL.length : Nat) : Int) = ((aL.length : Nat) : Int) := SB rfl (Nat.lt_trans hl (by decide))
  have e : Ah (.pointer (some ⟨M,ix,none⟩)) = some (.pointer (some ⟨M,ix,none⟩)) := rfl
  obtain ⟨r7,g1,g2⟩ := O3 (m := enc aL.length) ho hN (by omega)
  have hx7 : Ext t0.heap.length t0 r7.2 := hx.trans (g2.ext ho hN)
  obtain ⟨r,m1,m2⟩ := Fk hL h_n hl hlf hW hw g2.1 hx7 aL 0 (r7.1,r7.2) _ rfl (Nat.zero_le _) (.start g2.1) (by rw [List.length_append]; omega)
  rw [show ((0 : Nat) : Int) = 0 from rfl] at m1
  refine ⟨r,FV rfl ?_,by rw [Fs,← List.append_assoc]; exact g2.trans m2⟩
  unfold Ba
  simp only [BZ (BO hx hK),Dy IK hf,e,CJ (BO hx hM) hi,hlen,hwr,Cd,To (show aL.length < 18446744073709551616 by omega),g1,BZ (BO hx7 hK),CJ (BO hx7 hM) hi,m1,D6 m2.1,EVs]
theorem Fu {s1 : St} {x0 : Value} {m0 : BL} (hL : Cm C B aL t0 y) (h_n : C.n = (2)) (hl : aL.length < 140737488355328) (hlf : ∀ a cs,C.rel a t0 cs → cs.all AH = true)
    (hW : readRow t0 W = some [fnV wf]) (hw : ∀ a cs,C.rel a t0 cs → ∀ t x l,Own t0.heap.length 1 t x (bv l) → Ext t0.heap.length t0 t → l.length + (f a).length ≤ 140737488300000 → ∃ r,Ag Tryz.prog (run Tryz.prog (libL libT) Ad) (fnV wf) [x,.agg cs.toArray] t = some r ∧ App t0.heap.length t x (l ++ f a) r)
    (ho : Own t0.heap.length 1 s1 x0 (bv m0)) (hx : Ext t0.heap.length t0 s1) : ∀ (rest : List α) (i : Nat) (r : Value × St) (l : BL),aL.drop i = rest → i ≤ aL.length → App t0.heap.length s1 x0 l r → l.length + (rest.flatMap f).length ≤ 140737488300000 →
    ∃ r2,AV (Bd.b0 (run Tryz.prog (libL libT) Ad)) [r.1,.pointer (some ⟨W,0,none⟩),y,.int .i64 ((aL.length : Nat) : Int),.int .i64 (i : Int)] r.2 = some (.exit 0,[r2.1],r2.2) ∧ App t0.heap.length s1 x0 (l ++ rest.flatMap f) r2 := by
  have he := Na (ag := true) hL rfl hx ho h_n.symm (.inl rfl)
  intro rest
  induction rest with
  | nil =>
    intro i r l hi hle ha hb
    have h1 : decide ((i : Int) < ((aL.length : Nat) : Int)) = false := by
      have := List.drop_eq_nil_iff.1 hi
      simp; omega
    refine ⟨r,?_,by rw [List.flatMap_nil,List.append_nil]; exact ha⟩
    rw [As]
    simp only [Bd.b0,h1,EVs]
  | cons p rest ih =>
    intro i r l hi hle ha hb
    obtain ⟨hlt,hp,hd⟩ := GS hi
    have h1 : decide ((i : Int) < ((aL.length : Nat) : Int)) = true := by simp; omega
    obtain ⟨a,u,cs,h2,h3,h4,h5⟩ := he.2 i hlt
    rw [hp] at h4
    have h3 : u = .agg cs.toArray := h3
    subst h3
    have h6 := h5 l r ha
    have hlen : cs.length = (2) := (C.len h4).trans h_n
    rw [List.flatMap_cons,List.length_append] at hb
    have hx2 : Ext t0.heap.length t0 r.2 := hx.trans (ha.ext ho hx.1)
    have h7 : Aq false 1 (.pointer (some ⟨W,0,none⟩)) r.2 = some (fnV wf) := BZ (BO hx2 hW)
    obtain ⟨r2,g1,g2⟩ := hw p cs h4 r.2 r.1 l ha.1 hx2 (by omega)
    obtain ⟨r3,f1,f2⟩ := ih (i + 1) r2 (l ++ f p) hd (by omega) (ha.trans g2) (by rw [List.length_append]; omega)
    refine ⟨r3,?_,by rw [List.flatMap_cons,← List.append_assoc]; exact f2⟩
    rw [As]
    simp only [Bd.b0,h1,h2,h6,Zfk hlen (hlf p cs h4),h7,ZcZ hlen,g1,H2 (show i < 140737488355328 by omega),EVs]
    exact f1
theorem F3 (hL : Cm C B aL t0 y) (h_n : C.n = (2)) (hl : aL.length < 140737488355328) (hlf : ∀ a cs,C.rel a t0 cs → cs.all AH = true)
    (hf : (acc,ix) ∈ DU) (hM : readRow t0 M = some cells) (hi : cells[ix]? = some y) (hK : readRow t0 K = some [fnV acc])
    (hW : readRow t0 W = some [fnV wf]) (hw : ∀ a cs,C.rel a t0 cs → ∀ t x l,Own t0.heap.length 1 t x (bv l) → Ext t0.heap.length t0 t → l.length + (f a).length ≤ 140737488300000 → ∃ r,Ag Tryz.prog (run Tryz.prog (libL libT) Ad) (fnV wf) [x,.agg cs.toArray] t = some r ∧ App t0.heap.length t x (l ++ f a) r)
    (t : St) (x : Value) (l : BL) (ho : Own t0.heap.length 1 t x (bv l)) (hx : Ext t0.heap.length t0 t) (hb : l.length + (Fs f aL).length ≤ 140737488300000) :
    ∃ r,Ag Tryz.prog (run Tryz.prog (libL libT) Ad) (.func (.func 158) #[] #[.pointer (some ⟨K,0,none⟩),.pointer (some ⟨W,0,none⟩)]) [x,mp M] t = some r ∧ App t0.heap.length t x (l ++ Fs f aL) r := by
  rw [show (Value.func (.func 158) #[] #[.pointer (some ⟨K,0,none⟩),.pointer (some ⟨W,0,none⟩)]) = .func (.func 158) ([] : List Value).toArray [.pointer (some ⟨K,0,none⟩),.pointer (some ⟨W,0,none⟩)].toArray from rfl,Ci Gq]
  simp only [Fs,List.length_append] at hb
  have hN := hx.1
  have hlen : ∀ ty t,AP (.slice ty) y t = some (.int .i64 ((aL.length : Nat) : Int)) := Bx hL
  have hwr : IntKind.wrap .u64 ((aL.length : Nat) : Int) = ((aL.length : Nat) : Int) := SB rfl (Nat.lt_trans hl (by decide))
  have e : Ah (.pointer (some ⟨M,ix,none⟩)) = some (.pointer (some ⟨M,ix,none⟩)) := rfl
  obtain ⟨r7,g1,g2⟩ := O3 (m := enc aL.length) ho hN (by omega)
  have hx7 : Ext t0.heap.length t0 r7.2 := hx.trans (g2.ext ho hN)
  obtain ⟨r,m1,m2⟩ := Fu hL h_n hl hlf hW hw g2.1 hx7 aL 0 (r7.1,r7.2) _ rfl (Nat.zero_le _) (.start g2.1) (by rw [List.length_append]; omega)
  rw [show ((0 : Nat) : Int) = 0 from rfl] at m1
  refine ⟨r,Gp rfl ?_,by rw [Fs,← List.append_assoc]; exact g2.trans m2⟩
  unfold Bd
  simp only [BZ (BO hx hK),Dy IK hf,e,CJ (BO hx hM) hi,hlen,hwr,Cd,To (show aL.length < 18446744073709551616 by omega),g1,BZ (BO hx7 hK),CJ (BO hx7 hM) hi,m1,D6 m2.1,EVs]
end
end Go.Proofs.YtmbhnbladmpnoaaGreat.Ab

/- Messages are written: all fields,by their letters. -/
namespace Go.Proofs.YtmbhnbladmpnoaaGreat.Ab
open Go
set_option maxRecDepth 10000
theorem Tt {β : Type} {Rl : (Value × Value × Nat) → (Int × β) → Prop} (hk : ∀ e q,Rl e q → e.1 = .int .i32 q.1) (c : Int) : ∀ {es : List (Value × Value × Nat)} {qs : List (Int × β)},All2 Rl es qs → ∀ (j : Nat) (q : Int × β),qs.find? (fun p => p.1 == c) = some q → ∃ k e,Fx (.int .i32) (.int .i32 c) (es.map (·.1)) j = some (some (j + k)) ∧ es[k]? = some e ∧ Rl e q
  | [],[],_,j,q,h => by cases h
  | e :: es,p :: qs,⟨h1,h2⟩,j,q,h => by
    have hs : Instr.sameNow (.int .i32) (.int .i32 c) e.1 = some (p.1 == c) := by
      have : (p.1 == c) = (c == p.1) := by rw [Bool.eq_iff_iff]; simp only [beq_iff_eq]; exact eq_comm
      rw [this,hk e p h1]
      rfl
    rw [List.find?_cons] at h
    cases hc : p.1 == c with
    | true =>
      rw [hc] at h
      cases h
      refine ⟨0,e,?_,rfl,h1⟩
      simp only [List.map_cons,Fx,hs,hc]
      rfl
    | false =>
      rw [hc] at h
      obtain ⟨k,e2,g1,g2,g3⟩ := Tt hk c h2 (j + 1) q h
      refine ⟨k + 1,e2,?_,by simpa using g2,g3⟩
      simp only [List.map_cons,Fx,hs,hc]
      rw [g1]
      congr 2
      omega
theorem VG {β : Type} {Rl : (Value × Value × Nat) → (Int × β) → Prop} (hk : ∀ e q,Rl e q → e.1 = .int .i32 q.1) {A : Nat} {s : St} {qs : List (Int × β)} (hm : s.heap[A]? = some (.map (AI A) 16)) (h : All2 Rl (AI A) qs) {c : Int} {q : Int × β} (hq : qs.find? (fun p => p.1 == c) = some q) {z : Value} : ∃ e,EY Tryz.prog 21 z (.map (some A)) (.int .i32 c) false s = some e.2.1 ∧ Rl e q := by
  obtain ⟨k,e,g1,g2,g3⟩ := Tt hk c h 0 q hq
  refine ⟨e,?_,g3⟩
  have hu : Tryz.prog.underlying 21 = some (.int .i32) := Tryz.underlying21
  unfold EY
  simp only [hm]
  rw [if_neg (show ¬ EX (AI A) = true by simp [EX,AI])]
  unfold EE
  rw [if_pos (show GB Tryz.prog (AI A).isEmpty 21 (.int .i32 c) = true by kernel_rfl)]
  unfold Lz
  rw [hu]
  simp only [Option.bind_some,g1,Nat.zero_add,Nm,g2]
  rfl
def wTab (m : Ms) : List (Int × BL) := [(113,eN m.req),(98,eN m.boot),(116,eN m.txn),(108,eN m.low),(118,eN m.ver),(101,eN m.epoch),(109,eN m.move),(97,eN m.attempt),(110,eN m.num),(99,[bI m.code]),(112,[bI m.peer]),(102,[if m.flag = true then 1 else 0]),(114,tBs [m.rg.1,m.rg.2]),(111,Fs eOpW m.ops),(115,Fs eRs m.res),(119,Fs eOwW m.own)]
def WOk (t0 : St) (M : Nat) (e : Value × Value × Nat) (p : Int × BL) : Prop :=
  e.1 = .int .i32 p.1 ∧ ∃ x y z,e.2.1 = .agg #[x,y,z] ∧ ∀ t v l,Own t0.heap.length 1 t v (bv l) → Ext t0.heap.length t0 t → l.length + p.2.length ≤ 140737488300000 → ∃ r,Ag Tryz.prog (run Tryz.prog (libL libT) Ad) x [v,mp M] t = some r ∧ App t0.heap.length t v (l ++ p.2) r
theorem Ix {α : Type} {C : NCod α} {B : Nat} {l : List α} {s : St} {v : Value} (hB : 1 < B) (h : Cm C B l s v) : l.length < 140737488355328 := Dx (by omega) h
theorem Zbz {a : Rs} {s : St} {cs : List Value} (h : rsN.rel a s cs) : ∃ vp,cs = [.bool a.1,sv a.2.1,vp] ∧ Cm (.ofC prC fun _ => True) 32 a.2.2 s vp := by
  obtain ⟨_,_,rfl,⟨rfl,_⟩,_,_,rfl,⟨rfl,_⟩,_,_,rfl,⟨vp,rfl,hl⟩,rfl⟩ := h
  exact ⟨vp,rfl,hl⟩
theorem Y1 {m : Ms} {t0 : St} {vo vr vw : Value} (h : MsV m t0 vo vr vw) {M N : Nat} (ht : ZAt m vo vr vw M N t0) : All2 (WOk t0 M) (AI N) (wTab m) := by
  have num : ∀ {f ix i : Nat} {n : Int},(f,ix) ∈ DU → Al[i]? = some (rowF f) → (msC m vo vr vw)[ix]? = some (.int .u64 n) → (Lit.int .u64 n).wf = true → ∀ t v l,Own t0.heap.length 1 t v (bv l) → Ext t0.heap.length t0 t → l.length + (eN n).length ≤ 140737488300000 → ∃ r,Ag Tryz.prog (run Tryz.prog (libL libT) Ad) (.func (.func 142) #[] #[ptA N i]) [v,mp M] t = some r ∧ App t0.heap.length t v (l ++ eN n) r :=
    fun hf hi hc hw t v l ho hx hb => ZaS hf (BO hx ht.1) (BO hx (ht.2 _ _ hi)) ho hx.1 (ZeH hw) hc hb
  have sml : ∀ {f ix i : Nat} {n : Int},(f,ix) ∈ DU → Al[i]? = some (rowF f) → (msC m vo vr vw)[ix]? = some (.int .i64 n) → ∀ t v l,Own t0.heap.length 1 t v (bv l) → Ext t0.heap.length t0 t → l.length + [bI n].length ≤ 140737488300000 → ∃ r,Ag Tryz.prog (run Tryz.prog (libL libT) Ad) (.func (.func 146) #[] #[ptA N i]) [v,mp M] t = some r ∧ App t0.heap.length t v (l ++ [bI n]) r :=
    fun hf hi hc t v l ho hx hb => WR hf (BO hx ht.1) (BO hx (ht.2 _ _ hi)) ho hx.1 hc hb
  refine ⟨⟨rfl,_,_,_,rfl,num (f := 69) (ix := 6) (i := 0) (by decide) rfl rfl h.wf.req⟩,
    ⟨rfl,_,_,_,rfl,num (f := 70) (ix := 7) (i := 1) (by decide) rfl rfl h.wf.boot⟩,
    ⟨rfl,_,_,_,rfl,num (f := 71) (ix := 8) (i := 2) (by decide) rfl rfl h.wf.txn⟩,
    ⟨rfl,_,_,_,rfl,num (f := 72) (ix := 9) (i := 3) (by decide) rfl rfl h.wf.low⟩,
    ⟨rfl,_,_,_,rfl,num (f := 73) (ix := 10) (i := 4) (by decide) rfl rfl h.wf.ver⟩,
    ⟨rfl,_,_,_,rfl,num (f := 74) (ix := 11) (i := 5) (by decide) rfl rfl h.wf.epoch⟩,
    ⟨rfl,_,_,_,rfl,num (f := 75) (ix := 12) (i := 6) (by decide) rfl rfl h.wf.move⟩,
    ⟨rfl,_,_,_,rfl,num (f := 76) (ix := 13) (i := 7) (by decide) rfl rfl h.wf.attempt⟩,
    ⟨rfl,_,_,_,rfl,num (f := 77) (ix := 14) (i := 8) (by decide) rfl rfl h.wf.num⟩,
    ⟨rfl,_,_,_,rfl,sml (f := 79) (ix := 4) (i := 9) (by decide) rfl rfl⟩,
    ⟨rfl,_,_,_,rfl,sml (f := 80) (ix := 5) (i := 10) (by decide) rfl rfl⟩,
    ⟨rfl,_,_,_,rfl,fun t v l ho hx hb => YY (BO hx ht.1) ho hx.1 rfl hb⟩,
    ⟨rfl,_,_,_,rfl,fun t v l ho hx hb => WS (r0 := m.rg) (BO hx ht.1) ho hx.1 rfl rfl hb⟩,
    ⟨rfl,_,_,_,rfl,?_⟩,⟨rfl,_,_,_,rfl,?_⟩,⟨rfl,_,_,_,rfl,?_⟩,trivial⟩
  · refine Hj (f := eOpW) (wf := 93) h.o rfl (Ix (by decide) h.o) (fun a cs hr => by rw [hr.1]; rfl) (acc := 92) (ix := 18) (by decide) ht.1 rfl (ht.2 11 _ rfl) (ht.2 12 _ rfl) fun a cs hr t x l ho hx hb => ?_
    rw [hr.1,K6]
    exact ZeI a ho hx.1 hb
  · refine Ft (f := eRs) (wf := 97) h.r rfl (Ix (by decide) h.r) (fun a cs hr => ?_) (acc := 96) (ix := 19) (by decide) ht.1 rfl (ht.2 14 _ rfl) (ht.2 15 _ rfl) fun a cs hr t x l ho hx hb => ?_
    · obtain ⟨vp,rfl,hl⟩ := Zbz hr
      have h1 : AH vp = true := D5 hl
      have h2 : AH (sv a.2.1) = true := rfl
      have h3 : AH (.bool a.1) = true := rfl
      simp [h1,h2,h3]
    · obtain ⟨vp,rfl,hl⟩ := Zbz hr
      rw [HN]
      exact ZcX a.1 a.2.1 a.2.2 hl (Ix (by decide) hl) rfl hx ho hb
  · refine F3 (f := eOwW) (wf := 101) h.w rfl (Ix (by decide) h.w) (fun a cs hr => by rw [hr.1]; rfl) (acc := 100) (ix := 20) (by decide) ht.1 rfl (ht.2 17 _ rfl) (ht.2 18 _ rfl) fun a cs hr t x l ho hx hb => ?_
    rw [hr.1,IE]
    exact ZeJ a ho hx.1 hb
theorem ZeM : ∀ p ∈ AF,((List.range p.2.1.length).all fun i => (Utf8.decode ⟨p.2.1.toArray⟩ i).1 == (lets p.2.1).getD i 0 && (Utf8.decode ⟨p.2.1.toArray⟩ i).2 == 1) = true := by
  intro p hp
  simp only [AF,List.mem_cons,List.not_mem_nil,or_false] at hp
  rcases hp with rfl | rfl | rfl | rfl | rfl | rfl | rfl | rfl | rfl | rfl | rfl | rfl | rfl | rfl <;> kernel_rfl
def itB (fs : BL) (i : Nat) : Blk := .map [(.tuple #[],.string ⟨fs.toArray⟩,i)] 0
theorem Tu {k : Int} {p : BL × Nat × Nat × Nat} (hp : (k,p) ∈ AF) {I i : Nat} {s : St} (hI : s.heap[I]? = some (itB p.1 i)) (hi : i < p.1.length) : JU (.pointer (some ⟨I,0,none⟩)) s = some (.tuple #[.bool true,goInt i,.int .i32 ((lets p.1).getD i 0)],s.putB I (itB p.1 (i + 1))) := by
  have h := List.all_eq_true.1 (ZeM _ hp) i (List.mem_range.2 hi)
  simp only [Bool.and_eq_true,beq_iff_eq] at h
  unfold JU
  simp only [hI,itB]
  simp only [US,Array.isEmpty,List.size_toArray,List.length_nil,decide_true,if_true,Option.bind_some]
  rw [if_pos (show i < (⟨p.1.toArray⟩ : ByteArray).size from by simpa [ByteArray.size] using hi),h.1,h.2]
theorem O4 {p : BL} {I : Nat} {s : St} (hI : s.heap[I]? = some (itB p p.length)) : JU (.pointer (some ⟨I,0,none⟩)) s = some (.tuple #[.bool false],s) := by
  unfold JU
  simp only [hI,itB]
  simp only [US,Array.isEmpty,List.size_toArray,List.length_nil,decide_true,if_true,Option.bind_some]
  rw [if_neg (show ¬ p.length < (⟨p.toArray⟩ : ByteArray).size from by simp [ByteArray.size])]
def wOf (m : Ms) (c : Int) : BL := (((wTab m).find? fun p => p.1 == c).map (·.2)).getD []
theorem Zc0 {k : Int} {p : BL × Nat × Nat × Nat} (hp : (k,p) ∈ AF) (m : Ms) : ∀ c ∈ lets p.1,∃ q,(wTab m).find? (fun p => p.1 == c) = some q := by
  have key : ∀ q ∈ AF,∀ c ∈ lets q.2.1,c ∈ [113,98,116,108,118,101,109,97,110,99,112,102,114,111,115,119] := by decide
  intro c hc
  have := key _ hp c hc
  simp only [List.mem_cons,List.not_mem_nil,or_false] at this
  rcases this with rfl | rfl | rfl | rfl | rfl | rfl | rfl | rfl | rfl | rfl | rfl | rfl | rfl | rfl | rfl | rfl <;> exact ⟨_,rfl⟩
end Go.Proofs.YtmbhnbladmpnoaaGreat.Ab

/- Encode: the loop over the letters. -/
namespace Go.Proofs.YtmbhnbladmpnoaaGreat.Ab
open Go
set_option maxRecDepth 10000
theorem ZaV {N I : Nat} {s : St} {x : Value} {l : BL} {B : Blk} (h : Own N 1 s x (bv l)) (hI : BW x ≠ some I) : Own N 1 (s.putB I B) x (bv l) := by
  refine h.keep (B := some I) ⟨by simp [St.putB],fun c hc hne => ?_⟩ fun c hc e => hI (by cases e; exact hc)
  simp only [St.putB]
  exact List.getElem?_set_ne fun e => hne (by rw [e])
theorem ZaW {N I : Nat} {s t : St} {B : Blk} (h : Ext N s t) (hI : N ≤ I) : Ext N s (t.putB I B) := by
  refine ⟨by simp only [St.putB,List.length_set]; exact h.1,fun c hc => ?_⟩
  simp only [St.putB]
  rw [List.getElem?_set_ne (by omega)]
  exact h.2 c hc
theorem ZaX {s : St} {I : Nat} {B : Blk} (hI : I < s.heap.length) : (s.putB I B).heap[I]? = some B := by simp [St.putB,hI]
theorem ZaY {m : Ms} {t0 : St} {vo vr vw : Value} (h : MsV m t0 vo vr vw) {M A I : Nat} {k : Int} {p : BL × Nat × Nat × Nat} (hp : (k,p) ∈ AF) (ht : ZAt m vo vr vw M A t0) (hA : t0.heap[A]? = some (.map (AI A) 16)) (hI : t0.heap.length ≤ I) : ∀ (rest : List Int) (i : Nat) (s : St) (x : Value) (l : BL),(lets p.1).drop i = rest → i ≤ p.1.length → Own t0.heap.length 1 s x (bv l) → Ext t0.heap.length t0 s → s.heap[I]? = some (itB p.1 i) → BW x ≠ some I → l.length + (rest.flatMap (wOf m)).length ≤ 140737488300000 →
    ∃ x2 s2,AV (CY.b0 (run Tryz.prog (libL libT) Ad)) [mp M,.map (some A),x,.pointer (some ⟨I,0,none⟩)] s = some (.exit 0,[x2],s2) ∧ Own t0.heap.length 1 s2 x2 (bv (l ++ rest.flatMap (wOf m))) ∧ Ext t0.heap.length t0 s2 := by
  have hll : (lets p.1).length = p.1.length := by simp [lets]
  intro rest
  induction rest with
  | nil =>
    intro i s x l hi hle ho hx hI2 hne hb
    have hi2 : i = p.1.length := by
      have := List.drop_eq_nil_iff.1 hi
      omega
    subst hi2
    refine ⟨x,s,?_,by rw [List.flatMap_nil,List.append_nil]; exact ho,hx⟩
    have e0 : Ak 0 (.tuple #[.bool false]) = some (.bool false) := rfl
    rw [As]
    simp only [CY.b0,O4 hI2,e0,EVs]
  | cons c rest ih =>
    intro i s x l hi hle ho hx hI2 hne hb
    have hlt : i < (lets p.1).length := by
      rcases Nat.lt_or_ge i (lets p.1).length with h | h
      · exact h
      · rw [List.drop_eq_nil_of_le h] at hi
        cases hi
    have hd := List.drop_eq_getElem_cons hlt
    rw [hi] at hd
    have hc : (lets p.1).getD i 0 = c := by
      rw [List.getD_eq_getElem?_getD,List.getElem?_eq_getElem hlt]
      exact (List.cons.inj hd).1.symm
    have hd2 : (lets p.1).drop (i + 1) = rest := (List.cons.inj hd).2.symm
    have hn := Tu hp hI2 (by omega)
    rw [hc] at hn
    have e0 : Ak 0 (.tuple #[.bool true,goInt i,.int .i32 c]) = some (.bool true) := rfl
    have e2 : Ak 2 (.tuple #[.bool true,goInt i,.int .i32 c]) = some (.int .i32 c) := rfl
    have ho1 : Own t0.heap.length 1 (s.putB I (itB p.1 (i + 1))) x (bv l) := ZaV ho hne
    have hx1 : Ext t0.heap.length t0 (s.putB I (itB p.1 (i + 1))) := ZaW hx hI
    have hIlt : I < s.heap.length := (List.getElem?_eq_some_iff.1 hI2).1
    have hI3 : (s.putB I (itB p.1 (i + 1))).heap[I]? = some (itB p.1 (i + 1)) := ZaX hIlt
    have hlen1 : (s.putB I (itB p.1 (i + 1))).heap.length = s.heap.length := by simp [St.putB]
    obtain ⟨s1,hs1⟩ : ∃ s1,s.putB I (itB p.1 (i + 1)) = s1 := ⟨_,rfl⟩
    rw [hs1] at hn ho1 hx1 hI3 hlen1
    have hA1 : s1.heap[A]? = some (.map (AI A) 16) := by
      rw [hx1.2 A (List.getElem?_eq_some_iff.1 hA).1]
      exact hA
    obtain ⟨q,hq⟩ := Zc0 hp m c (by rw [← hc,List.getD_eq_getElem?_getD,List.getElem?_eq_getElem hlt]; exact List.getElem_mem _)
    have hw : wOf m c = q.2 := by unfold wOf; rw [hq]; rfl
    obtain ⟨e,g1,_,wx,wy,wz,g2,g3⟩ := VG (fun e q h => h.1) hA1 (Y1 h ht) hq (z := .agg #[.nilFunc,.nilFunc,.nilFunc])
    rw [g2] at g1
    have hfld : Hp false 0 1 (.agg #[wx,wy,wz]) = some wx := rfl
    rw [List.flatMap_cons,List.length_append,hw] at hb
    obtain ⟨r,f1,f2⟩ := g3 s1 x l ho1 hx1 (by omega)
    have hIr : r.2.heap[I]? = some (itB p.1 (i + 1)) := by rw [f2.2.1.2 I (by omega) hne]; exact hI3
    obtain ⟨x2,s2,k1,k2,k3⟩ := ih (i + 1) r.2 r.1 (l ++ q.2) hd2 (by omega) f2.1 (hx1.trans (f2.ext ho1 hx1.1)) hIr (f2.ne (by omega) hne) (by rw [List.length_append]; omega)
    refine ⟨x2,s2,?_,by rw [List.flatMap_cons,hw,← List.append_assoc]; exact k2,k3⟩
    rw [As]
    simp only [CY.b0,hn,e0,e2,g1,hfld,f1,EVs]
    exact k1
def CS (m : Ms) : BL := [bI m.kind,bI m.src,bI m.dst] ++ match CC m.kind with
  | none => []
  | some p => (lets p.1).flatMap (wOf m)
theorem Y2 {m : Ms} {s : St} {vo vr vw : Value} (h : MsV m s vo vr vw) (he : eMs m ≠ 0) : ∃ t,(run Tryz.prog (libL libT) Ad) 9 [mV m vo vr vw] s = some (.tuple #[.slice none 0 0,.int .i64 180],t) ∧ Ext s.heap.length s t := by
  have hc : An (mV m vo vr vw) = msC m vo vr vw := by simp [An]
  have n1 : anew (msC m vo vr vw) s = some (mp s.heap.length,s.push (.row 0 (msC m vo vr vw) .act)) := by unfold anew; rw [if_pos h.leaf]
  have hx1 : Ext s.heap.length s (s.push (.row 0 (msC m vo vr vw) .act)) := .push _ (Nat.le_refl _) _
  have h1 := h.ext hx1
  have hM1 : readRow (s.push (.row 0 (msC m vo vr vw) .act)) s.heap.length = some (msC m vo vr vw) := El AE (by simp)
  have l1 : Aq true 21 (mp s.heap.length) (s.push (.row 0 (msC m vo vr vw) .act)) = some (mV m vo vr vw) := YH hM1 rfl
  have e180 : eMs m = 180 := by unfold eMs at he ⊢; split <;> simp_all
  have hne : (180 : Int) != 0 := by decide
  refine ⟨_,IQ rfl ?_,hx1⟩
  unfold CY
  simp only [hc,n1,l1,DN,UN h1,e180,hne,EVs]
  exact XO
theorem Y3 {m : Ms} {s : St} {vo vr vw : Value} (h : MsV m s vo vr vw) (he : eMs m = 0) (hb : (CS m).length ≤ 4096) : ∃ t,(run Tryz.prog (libL libT) Ad) 9 [mV m vo vr vw] s = some (pkE (Af (BJ (CS m)) t).1,(Af (BJ (CS m)) t).2) ∧ Ext s.heap.length s t := by
  obtain ⟨p,hp⟩ : ∃ p,CC m.kind = some p := by
    cases hf : CC m.kind with
    | some p => exact ⟨p,rfl⟩
    | none =>
      have : M0 m = true := by unfold M0; rw [hf]
      unfold eMs at he
      rw [this] at he
      simp at he
  have hpm := Em hp
  have hbd : CS m = [bI m.kind,bI m.src,bI m.dst] ++ (lets p.1).flatMap (wOf m) := by unfold CS; rw [hp]
  have hc : An (mV m vo vr vw) = msC m vo vr vw := by simp [An]
  have n1 : anew (msC m vo vr vw) s = some (mp s.heap.length,s.push (.row 0 (msC m vo vr vw) .act)) := by unfold anew; rw [if_pos h.leaf]
  have hx1 : Ext s.heap.length s (s.push (.row 0 (msC m vo vr vw) .act)) := .push _ (Nat.le_refl _) _
  have h1 := h.ext hx1
  have hM1 : readRow (s.push (.row 0 (msC m vo vr vw) .act)) s.heap.length = some (msC m vo vr vw) := El AE (by simp)
  obtain ⟨s1,e1⟩ : ∃ s1,s.push (.row 0 (msC m vo vr vw) .act) = s1 := ⟨_,rfl⟩
  rw [e1] at n1 hx1 h1 hM1
  have l1 : Aq true 21 (mp s.heap.length) s1 = some (mV m vo vr vw) := YH hM1 rfl
  have a1 : ∀ b i,Ac i (.pointer (some ⟨b,0,none⟩)) = some (.pointer (some ⟨b,i,none⟩)) := fun b i => by simp [Ac]
  have lk : Aq false 1 (.pointer (some ⟨s.heap.length,0,none⟩)) s1 = some (.int .i64 m.kind) := CJ hM1 rfl
  have hf : frmV m.kind = fmB p := by unfold frmV; rw [hp]
  obtain ⟨t1,f1,fx⟩ : ∃ t1,(run Tryz.prog (libL libT) Ad) 19 [.int .i64 m.kind] s1 = some (.tuple #[frmV m.kind,.bool (CC m.kind).isSome],t1) ∧ Ext s1.heap.length s1 t1 := ⟨_,IK.form m.kind s1,.refl _ _⟩
  rw [hf,hp] at f1
  have x0 : Ak 0 (.tuple #[fmB p,.bool (some p).isSome]) = some (fmB p) := rfl
  have x1 : Ak 1 (.tuple #[fmB p,.bool (some p).isSome]) = some (.bool true) := rfl
  have st : AN 4 lptr (fmB p) (.agg #[(.string ⟨#[]⟩),.nilFunc,.nilFunc,.nilFunc]) = some (fmB p) := rfl
  have ls : Ao false 1 lptr (fmB p) = some (sv p.1) := rfl
  obtain ⟨Ht⟩ := t1
  have hall := IK.wire_all (H8 IK Ht)
  have hxa : Ext (⟨Ht⟩ : St).heap.length ⟨Ht⟩ ⟨Ht ++ (.map (AI Ht.length) 16 :: Al)⟩ := K4 Ht _
  have hrows : ∀ i f,Al[i]? = some (rowF f) → readRow (⟨Ht ++ (Blk.map (AI Ht.length) 16 :: Al)⟩ : St) (Ht.length + 1 + i) = some [fnV f] := fun i f hi => by
    refine El (st := .act) (n := 0) ?_ (by simp)
    rw [List.getElem?_append_right (by omega),show Ht.length + 1 + i - Ht.length = i + 1 by omega,List.getElem?_cons_succ,hi]
    rfl
  have hM2 := BO hxa (BO fx hM1)
  have h2 := (h1.ext fx).ext hxa
  have hA : (⟨Ht ++ (Blk.map (AI Ht.length) 16 :: Al)⟩ : St).heap[Ht.length]? = some (.map (AI Ht.length) 16) := by
    simp only
    rw [List.getElem?_append_right (Nat.le_refl _),Nat.sub_self]
    rfl
  have hext : Ext s.heap.length s ⟨Ht ++ (.map (AI Ht.length) 16 :: Al)⟩ := (hx1.trans (fx.less hx1.1)).trans (hxa.less (Nat.le_trans hx1.1 fx.1))
  obtain ⟨t0,ht0⟩ : ∃ t0 : St,(⟨Ht ++ (.map (AI Ht.length) 16 :: Al)⟩ : St) = t0 := ⟨_,rfl⟩
  rw [ht0] at hall hrows hM2 h2 hA hext
  have hZ : ZAt m vo vr vw s.heap.length Ht.length t0 := ⟨hM2,hrows⟩
  have m0 : Aq false 1 (.pointer (some ⟨s.heap.length,0,none⟩)) t0 = some (.int .i64 m.kind) := CJ hM2 rfl
  have m1 : Aq false 1 (.pointer (some ⟨s.heap.length,1,none⟩)) t0 = some (.int .i64 m.src) := CJ hM2 rfl
  have m2 : Aq false 1 (.pointer (some ⟨s.heap.length,2,none⟩)) t0 = some (.int .i64 m.dst) := CJ hM2 rfl
  have nb : Ar 1 [(.int .u8 0)] 3 [(0,.int .u8 ((bI m.kind).toNat : Int)),(1,.int .u8 ((bI m.src).toNat : Int)),(2,.int .u8 ((bI m.dst).toNat : Int))] t0 = some (Af [bI m.kind,bI m.src,bI m.dst] t0) := rfl
  have nr : I8 (sv p.1) (Af [bI m.kind,bI m.src,bI m.dst] t0).2 = some (.pointer (some ⟨(Af [bI m.kind,bI m.src,bI m.dst] t0).2.heap.length,0,none⟩),(Af [bI m.kind,bI m.src,bI m.dst] t0).2.push (itB p.1 0)) := rfl
  have hlen3 : (Af [bI m.kind,bI m.src,bI m.dst] t0).2.heap.length = t0.heap.length + 1 := Cr
  have ho3 : Own t0.heap.length 1 ((Af [bI m.kind,bI m.src,bI m.dst] t0).2.push (itB p.1 0)) (Af [bI m.kind,bI m.src,bI m.dst] t0).1 (bv [bI m.kind,bI m.src,bI m.dst]) := En (CX (Nat.le_refl _) (by simp))
  have hx3 : Ext t0.heap.length t0 ((Af [bI m.kind,bI m.src,bI m.dst] t0).2.push (itB p.1 0)) := (A4 (Nat.le_refl _)).trans (.push _ (by omega) _)
  have hI3 : ((Af [bI m.kind,bI m.src,bI m.dst] t0).2.push (itB p.1 0)).heap[(Af [bI m.kind,bI m.src,bI m.dst] t0).2.heap.length]? = some (itB p.1 0) := AE
  have hne3 : BW (Af [bI m.kind,bI m.src,bI m.dst] t0).1 ≠ some (Af [bI m.kind,bI m.src,bI m.dst] t0).2.heap.length := fun e => by
    have : t0.heap.length = (Af [bI m.kind,bI m.src,bI m.dst] t0).2.heap.length := Option.some.inj e
    omega
  rw [hbd,List.length_append] at hb
  obtain ⟨x2,s2,g1,g2,g3⟩ := ZaY h2 hpm hZ hA (I := (Af [bI m.kind,bI m.src,bI m.dst] t0).2.heap.length) (by omega) (lets p.1) 0 _ _ _ rfl (Nat.zero_le _) ho3 hx3 hI3 hne3 (by omega)
  rw [← hbd] at g2
  have hk := ZeF g2.bytes (by rw [hbd,List.length_append]; exact hb)
  have y0 : ∀ v,Ak 0 (pkE (Af v s2).1) = some (Af v s2).1 := fun v => rfl
  have y1 : ∀ v,Ak 1 (pkE (Af v s2).1) = some (.int .i64 0) := fun v => rfl
  have hz : ((0 : Int) != 0) = false := rfl
  refine ⟨s2,IQ rfl ?_,hext.trans (g3.less hext.1)⟩
  unfold CY
  simp only [hc,n1,l1,DN,UN h1,he,hz,a1,lk,Dq,f1,x0,x1,st,GM,hall,m0,m1,m2,VB,nb,ls,nr,g1,NV,hk,y0,y1,EVs]
  exact XO
end Go.Proofs.YtmbhnbladmpnoaaGreat.Ab
