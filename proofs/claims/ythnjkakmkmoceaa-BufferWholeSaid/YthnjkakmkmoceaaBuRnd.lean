/- The entries, the last one first: what the function gives. -/
import Derived.Test.YthnjkakmkmoceaaLib0
import Derived.Test.YthnjkakmkmoceaaBRange
import Derived.RangeFuncNested
import Derived.RangeFuncBound
import Derived.RangeFuncCalls
import Derived.RangeFuncLeaves
import Derived.Shelf.Abstract
import Derived.WalkKit
import Derived.OwnWalkIn
import Derived.TacticsInMore
import Derived.LoopNIn
import Derived.LoopIn
import Derived.Test.YthnjkakmkmoceaaBList
import Derived.Test.YthnjkakmkmoceaaSh
set_option linter.unusedVariables false
set_option linter.unusedSimpArgs false
set_option linter.unusedSectionVars false
namespace Go.Proofs.Ythnjkakmkmoceaa.Ab
open Go Go.RowKit Go.Shelf

attribute [local go_sem] Oper.semAt_some

def upto {α : Type} (f : Nat → α) (k : Nat) : List α := (List.range k).map f
def ela (ev : Nat → Nat → Value) (j : Nat) : Value := .agg #[ev j 0, ev j 1, ev j 2, ev j 3, ev j 4, ev j 5]
theorem upto_succ {α : Type} (f : Nat → α) (k : Nat) : upto f (k + 1) = upto f k ++ [f k] := by simp [upto, List.range_succ]
theorem upto_length {α : Type} (f : Nat → α) (k : Nat) : (upto f k).length = k := by simp [upto]

set_option maxRecDepth 100000 in
set_option maxHeartbeats 2000000 in
theorem behind1_in (F : Fence) (n : Nat) (h8 : F.fn 46) (hro : F.round = none) (hn : 1 ≤ n) (l Bs o b off len : Nat) (ev : Nat → Nat → Value) (hreach : len ≤ 140737488351232) (Rd : World → Prop) (J Jx : List (Nat × Value) → World → Prop)
    (hRd : ∀ W, Rd W → (∃ cap, W.cell? ⟨Bs, o, none⟩ = some (.slice (some ⟨b, off, none⟩) len cap)) ∧ ∀ j, j < len → ∀ i, i < 6 → W.cell? ⟨b, off + j * 7 + 1 + i, none⟩ = some (ev j i))
    (hY : ∀ pre W, J pre W → pre.length < len → YieldAt F (n - 1) Try.prog l #[.int .i64 ((len - 1 - pre.length : Nat) : Int), ela ev (len - 1 - pre.length)] W fun e W' =>
      (e = .returned (.bool true) ∧ J (pre ++ [(len - 1 - pre.length, ela ev (len - 1 - pre.length))]) W' ∧ (Rd W → Rd W')) ∨ (e = .returned (.bool false) ∧ Jx (pre ++ [(len - 1 - pre.length, ela ev (len - 1 - pre.length))]) W'))
    (W : World) (hW : Rd W) (h0 : J [] W) :
    CallsIn F n Try.prog 46 #[.func (.yield l) #[] #[], .pointer (some ⟨Bs, o, none⟩)] W fun e W' => (∃ v, e = .returned v) ∧
      ((∃ ys, ys.length = len ∧ J ys W') ∨ (∃ pre, Jx pre W')) := by
  refine callsIn_of_wp Try.func46 rfl h8 ?_ hro
  simp only [Try.ntmps46, List.size_toArray, List.length_cons, List.length_nil, Nat.reduceAdd, Nat.reduceSub, Array.replicate_succ, Array.replicate_zero, List.push_toArray, List.append_toArray, List.nil_append, List.cons_append]
  obtain ⟨cap0, hc0⟩ := (hRd W hW).1
  gi_wp2
  gi_loopw [3] (fun i wr => ∃ k : Nat, k ≤ len ∧ i = .int .i64 ((len : Int) - 1 - (k : Int)) ∧ J (upto (fun j => (len - 1 - j, ela ev (len - 1 - j))) k) wr ∧ Rd wr)
    (fun i _ => (intOf i + 1).toNat)
  case atStart => exact ⟨0, Nat.zero_le _, by simp, h0, hW⟩
  case round =>
    obtain ⟨k, hk, rfl, hJs, hr⟩ := hrel
    by_cases hlt : k < len
    · obtain ⟨fn, tmps, assign, body, hy, hR⟩ := hY _ wr hJs (by rw [upto_length]; exact hlt)
      rw [upto_length] at hy hR
      obtain ⟨capr, hcs⟩ := (hRd wr hr).1
      have hld := (hRd wr hr).2 (len - 1 - k) (by omega)
      have e1 : ((len : Int) - 1 - (k : Int)) = ((len - 1 - k : Nat) : Int) := by omega
      rw [e1]
      generalize hj : len - 1 - k = j at *
      have hge : (0 : Int) ≤ (j : Int) := by omega
      have hjl : (j : Int) < (len : Int) := by omega
      have q0 : wr.cell? ⟨b, off + j * 7 + 1, none⟩ = some (ev j 0) := hld 0 (by omega)
      have q1 : wr.cell? ⟨b, off + j * 7 + 1 + 1, none⟩ = some (ev j 1) := hld 1 (by omega)
      have q2 : wr.cell? ⟨b, off + j * 7 + 1 + 2, none⟩ = some (ev j 2) := hld 2 (by omega)
      have q3 : wr.cell? ⟨b, off + j * 7 + 1 + 3, none⟩ = some (ev j 3) := hld 3 (by omega)
      have q4 : wr.cell? ⟨b, off + j * 7 + 1 + 4, none⟩ = some (ev j 4) := hld 4 (by omega)
      have q5 : wr.cell? ⟨b, off + j * 7 + 1 + 5, none⟩ = some (ev j 5) := hld 5 (by omega)
      unfold ela at hy hR
      gi_wp2
      refine hR.mono ?_
      rintro e W3 (⟨rfl, hJ3, hk3⟩ | ⟨rfl, hJx3⟩)
      · gi_wp2
        go_roundw
        case rel => exact ⟨k + 1, by omega, by congr 1; omega, by rw [upto_succ, hj]; exact hJ3, hk3 hr⟩
        case measure => simp [intOf]
      · gi_wp2
        refine bodyPost_ret (results_none rfl _ _ _) rfl ?_
        exact ⟨⟨_, rfl⟩, .inr ⟨_, hJx3⟩⟩
    · obtain rfl : k = len := by omega
      have hneg : ¬ (0 : Int) ≤ ((k : Int) - 1 - (k : Int)) := by omega
      gi_wp2
      go_end0
      exact ⟨⟨_, rfl⟩, .inl ⟨_, upto_length _ _, hJs⟩⟩
set_option maxRecDepth 100000 in
set_option maxHeartbeats 1000000 in
theorem behind1_nil (F : Fence) (n : Nat) (h8 : F.fn 46) (hro : F.round = none) (l Bs o : Nat) (J : List (Nat × Value) → World → Prop) (W : World) (x : Option Addr) (c : Nat) (hBs : W.cell? ⟨Bs, o, none⟩ = some (.slice x 0 c)) (h0 : J [] W) :
    CallsIn F n Try.prog 46 #[.func (.yield l) #[] #[], .pointer (some ⟨Bs, o, none⟩)] W fun e W' => (∃ v, e = .returned v) ∧ J [] W' := by
  refine callsIn_of_wp Try.func46 rfl h8 ?_ hro
  simp only [Try.ntmps46, List.size_toArray, List.length_cons, List.length_nil, Nat.reduceAdd, Nat.reduceSub, Array.replicate_succ, Array.replicate_zero, List.push_toArray, List.append_toArray, List.nil_append, List.cons_append]
  gi_wp2
  gi_loopw [3] (fun i wr => i = .int .i64 (-1) ∧ J [] wr) (fun _ _ => 0)
  case atStart => exact ⟨rfl, h0⟩
  case round =>
    obtain ⟨rfl, hJs⟩ := hrel
    gi_wp2
    go_end0
    exact ⟨⟨_, rfl⟩, hJs⟩

/-- what the function reads -/
def RdE (Bs o N b off : Nat) (ev : Nat → Nat → Value) (W : World) : Prop :=
  (∃ v, W.cell? ⟨Bs, o, none⟩ = some v ∧ ((N = 0 ∧ ∃ x c, v = .slice x 0 c) ∨ (0 < N ∧ ∃ c, v = .slice (some ⟨b, off, none⟩) N c))) ∧ (∀ j, j < N → ∀ i, i < 6 → W.cell? ⟨b, off + j * 7 + 1 + i, none⟩ = some (ev j i))
def rdF (N : Nat) (ev : Nat → Nat → Value) (j : Nat) : Nat × Value := (N - 1 - j, ela ev (N - 1 - j))
theorem cell_lt {w : World} {a : Addr} {v : Value} (h : w.cell? a = some v) : a.block < w.heap.size := by
  unfold World.cell? at h
  split at h
  · rename_i hb
    exact (Array.getElem?_eq_some_iff.1 hb).1
  · cases h
theorem behind_gives (m Bs o N b off : Nat) (ev : Nat → Nat → Value) (w : World) (hN : N ≤ 140737488351232) (hR : RdE Bs o N b off ev w) :
    GivesF (m + 1) Try.prog 46 #[.pointer (some ⟨Bs, o, none⟩)] (fun x : Nat × Value => #[Value.int .i64 (x.1 : Int), x.2]) (fun A B => RdE Bs o N b off ev A → RdE Bs o N b off ev B) (rdF N ev) N w := fun l J Jx W hW _ _ hY h0 => by
  have hR' : RdE Bs o N b off ev W := by
    refine ⟨?_, fun j hj i hi => ?_⟩
    · obtain ⟨v, h1, h2⟩ := hR.1
      exact ⟨v, (hW.cell (p := ⟨Bs, o, none⟩) (cell_lt h1)).trans h1, h2⟩
    · exact (hW.cell (p := ⟨b, off + j * 7 + 1 + i, none⟩) (cell_lt (hR.2 j hj i hi))).trans (hR.2 j hj i hi)
  rcases Nat.eq_zero_or_pos N with rfl | hpos
  · obtain ⟨v, h1, ⟨_, x, c, rfl⟩ | ⟨h2, _⟩⟩ := hR'.1
    · exact (behind1_nil (FR (none, 0)) (m + 1) trivial rfl l Bs o J W x c h1 h0).mono fun e W' ⟨he, hj⟩ => ⟨he, .inl ⟨_, rfl, hj⟩⟩
    · exact absurd h2 (by omega)
  · refine (behind1_in (FR (none, 0)) (m + 1) trivial rfl (by omega) l Bs o b off N ev hN (RdE Bs o N b off ev) J Jx (fun W h => ⟨?_, h.2⟩) hY W hR' h0).mono ?_
    · obtain ⟨v, h1, ⟨h2, _⟩ | ⟨_, c, rfl⟩⟩ := h.1
      · omega
      · exact ⟨c, h1⟩
    · rintro e W' ⟨he, h⟩
      exact ⟨he, h⟩

end Go.Proofs.Ythnjkakmkmoceaa.Ab

/- A range over the entries, the last one first: run as a count of rounds. -/
namespace Go.Proofs.Ythnjkakmkmoceaa.Ab
open Go Go.RowKit

def noMapB (H : List Blk) : Bool := H.all fun | .map _ _ => false | _ => true
theorem noMapB_ok {H : List Blk} (h : noMapB H = true) : NoMap H := by
  intro b es clock hb
  have := List.all_eq_true.1 h _ (List.mem_of_getElem? hb)
  cases this
def eqV : Value → Value → Bool
  | .int k n, .int k' n' => decide (k = k') && n == n'
  | .string a, .string b => a.data.toList == b.data.toList
  | .slice none l c, .slice none l' c' => l == l' && c == c'
  | .slice (some ⟨b, o, none⟩) l c, .slice (some ⟨b', o', none⟩) l' c' => b == b' && o == o' && l == l' && c == c'
  | _, _ => false
theorem eqV_ok {u v : Value} (h : eqV u v = true) : u = v := by
  unfold eqV at h
  split at h
  · simp at h; rw [h.1, h.2]
  · rename_i a b
    obtain ⟨⟨a⟩⟩ := a
    obtain ⟨⟨b⟩⟩ := b
    simp at h
    rw [h]
  · simp at h; rw [h.1, h.2]
  · simp at h; obtain ⟨⟨⟨h1, h2⟩, h3⟩, h4⟩ := h; rw [h1, h2, h3, h4]
  · cases h
def eqVs : List Value → List Value → Bool
  | [], [] => true
  | a :: l, b :: m => eqV a b && eqVs l m
  | _, _ => false
theorem eqVs_ok : ∀ {l m : List Value}, eqVs l m = true → l = m
  | [], [], _ => rfl
  | a :: l, b :: m, h => by
    simp only [eqVs, Bool.and_eq_true] at h
    rw [eqV_ok h.1, eqVs_ok h.2]
  | [], _ :: _, h => by cases h
  | _ :: _, [], h => by cases h

/-- what the rounds read is there -/
structure Chk (bs : Nat) (sv : Value) (cs : List Value) (s : St) : Prop where
  nm : NoMap s.heap
  box : ∃ cells, readRow s bs = some cells ∧ cells[0]? = some sv
  cells : cellsOf 7 sv s = some cs
def chkB (bs : Nat) (sv : Value) (cs : List Value) (s : St) : Bool :=
  noMapB s.heap && (match (readRow s bs).bind (·[0]?) with | some c => eqV c sv | none => false) && (match cellsOf 7 sv s with | some c => eqVs c cs | none => false)
theorem chkB_ok {bs : Nat} {sv : Value} {cs : List Value} {s : St} (h : chkB bs sv cs s = true) : Chk bs sv cs s := by
  unfold chkB at h
  simp only [Bool.and_eq_true] at h
  obtain ⟨⟨h1, h2⟩, h3⟩ := h
  refine ⟨noMapB_ok h1, ?_, ?_⟩
  · split at h2
    · rename_i c hc
      obtain ⟨cells, g1, g2⟩ := Option.bind_eq_some_iff.1 hc
      exact ⟨cells, g1, by rw [g2, eqV_ok h2]⟩
    · cases h2
  · split at h3
    · rename_i c hc
      rw [hc, eqVs_ok h3]
    · cases h3

def rounds (chk : St → Bool) (one : Nat → St → Option (Ex × St)) : Nat → Nat → St → Option (Ex × St)
  | 0, _, s => some (.normal, s)
  | q + 1, k, s => (one k s).bind fun r => cond (chk r.2) (match r.1 with | .normal => rounds chk one q (k + 1) r.2 | .ret => some (.ret, r.2) | .exit _ => none) none

def evOf (cs : List Value) (j i : Nat) : Value := cs.getD (j * 7 + 1 + i) undef
def lenOf : Value → Nat
  | .slice _ l _ => l
  | _ => 0

theorem L2.leafEq {ι : Emb} {v v' : Value} (h : leafOk v = true) (g : L2 ι v v') : v' = v := by
  cases g with
  | iface => cases h
  | ifaceAgg => cases h
  | l1 g => cases g with
    | func fn ha hb =>
      simp [leafOk] at h
      obtain ⟨rfl, rfl⟩ := h
      rename_i a' b'
      obtain ⟨l⟩ := a'
      obtain ⟨m⟩ := b'
      cases l with
      | cons => exact ha.elim
      | nil => cases m with
        | cons => exact hb.elim
        | nil => rfl
    | l0 g => cases g with
      | ptr => cases h
      | slice => cases h
      | slice0 => cases h
      | map => cases h
      | _ => rfl
theorem readRow_row {s : St} {b : Nat} {cells : List Value} (h : readRow s b = some cells) : ∃ n st, s.heap[b]? = some (.row n cells st) ∧ st ≠ .dead := by
  unfold readRow at h
  split at h
  · cases h
  · rename_i n c st hne hb
    cases h
    exact ⟨n, st, hb, fun e => hne e⟩
  · cases h
theorem cell_of {wb : Nat} {ι : Emb} {s : St} {w : World} (h : Sim wb ι s.heap w) {b : Nat} {cells : List Value} (hr : readRow s b = some cells) {l : Loc} (hl : ι b = some l) {i : Nat} {v : Value} (hv : cells[i]? = some v) : ∃ v', w.cell? ⟨l.blk, l.off + i, none⟩ = some v' ∧ L2 ι v v' := by
  obtain ⟨n, st, hb, hst⟩ := readRow_row hr
  obtain ⟨cs, e, fz, q1, _, _, q4⟩ := h.row b n cells st hb hst l hl
  obtain ⟨v', g1, g2⟩ := q4 i v hv
  exact ⟨v', by simp [World.cell?, q1, g1], g2⟩
theorem rdE_of {wb : Nat} {ι : Emb} {s : St} {w : World} (h : Sim wb ι s.heap w) {bs : Nat} {sv : Value} {cs : List Value} (hc : Chk bs sv cs s) (hleaf : cs.all leafOk = true) {N : Nat} (hN : lenOf sv = N) (hcs : cs.length = N * 7) {l : Loc} (hl : ι bs = some l) :
    ∃ b off, (0 < N → ∃ b0 o0 cap l0, sv = .slice (some ⟨b0, o0, none⟩) N cap ∧ ι b0 = some l0 ∧ b = l0.blk ∧ off = l0.off + o0) ∧ RdE l.blk l.off N b off (evOf cs) w := by
  obtain ⟨cells, h1, h2⟩ := hc.box
  obtain ⟨v', g1, g2⟩ := cell_of h h1 hl h2
  have hr := VRel.of2 g2
  have hcc := hc.cells
  unfold cellsOf at hcc
  split at hcc
  · cases hcc
    obtain rfl : 0 = N := hN
    obtain ⟨_, _, rfl⟩ := hr.inv_snil
    exact ⟨0, 0, fun h => absurd h (by omega), ⟨_, g1, .inl ⟨rfl, _, _, rfl⟩⟩, fun j hj => absurd hj (by omega)⟩
  · rename_i b0 o0 len cap
    obtain rfl : len = N := hN
    split at hcc
    case isFalse => cases hcc
    rename_i hle
    rcases Nat.eq_zero_or_pos len with rfl | hpos
    · rcases hr.inv_slice with ⟨l0, m', _, _, _, _, _, rfl⟩ | ⟨_, _, a', rfl⟩
      · exact ⟨0, 0, fun h => absurd h (by omega), ⟨_, g1, .inl ⟨rfl, _, _, rfl⟩⟩, fun j hj => absurd hj (by omega)⟩
      · exact ⟨0, 0, fun h => absurd h (by omega), ⟨_, g1, .inl ⟨rfl, _, _, rfl⟩⟩, fun j hj => absurd hj (by omega)⟩
    · rcases hr.inv_slice with ⟨l0, m', _, hb, _, _, _, rfl⟩ | ⟨hh, _⟩
      · refine ⟨l0.blk, l0.off + o0, fun _ => ⟨b0, o0, cap, l0, rfl, hb, rfl, rfl⟩, ⟨_, g1, .inr ⟨hpos, _, rfl⟩⟩, fun j hj i hi => ?_⟩
        unfold readN at hcc
        obtain ⟨cells2, f1, f2⟩ := Option.bind_eq_some_iff.1 hcc
        split at f2
        case isFalse => cases f2
        rename_i hlen
        cases f2
        have hidx : j * 7 + 1 + i < len * 7 := by omega
        have hget : cells2[o0 + (j * 7 + 1 + i)]? = some (evOf ((cells2.drop o0).take (len * 7)) j i) := by
          unfold evOf
          rw [List.getD_eq_getElem?_getD, List.getElem?_take, if_pos hidx, List.getElem?_drop, List.getElem?_eq_getElem (by omega)]
          rfl
        obtain ⟨v2, e1, e2⟩ := cell_of h f1 hb hget
        have hlf : leafOk (evOf ((cells2.drop o0).take (len * 7)) j i) = true := by
          refine List.all_eq_true.1 hleaf _ ?_
          unfold evOf
          rw [List.getD_eq_getElem?_getD, List.getElem?_eq_getElem (by simp; omega)]
          exact List.getElem_mem _
        rw [e2.leafEq hlf] at e1
        rw [← e1]
        congr 2
        omega
      · omega
  · cases hcc

theorem behind_enters (args : Array Value) (w : World) : (callFunc 46 args).run Try.prog w = .ok (.enter 46 args) w := by
  have hok := buffer_behind_1_ok
  unfold funcOk at hok
  split at hok
  · rename_i fn hfn
    simp at hok
    have hnone : fn.body ≠ none := by intro e; rw [e] at hok; cases hok.2
    simp [callFunc, hfn, hok.1, hnone, go_sem]
  · cases hok
section
variable {n m wb : Nat}
theorem range_run {ca cb : Code} (hca : codeW n ca = true) (hcb : codeW n cb = true) {g i1 i2 : Tmp} {T : Fr} {s sE : St} {e : Ex} {bs N : Nat} {sv : Value} {cs : List Value} {one : Nat → St → Option (Ex × St)}
    (hg : T g = .func (.func 46) #[] #[.pointer (some ⟨bs, 0, none⟩)]) (hgn : g < n) (hc : Chk bs sv cs s) (hN : lenOf sv = N) (hcs : cs.length = N * 7) (hNb : N ≤ 140737488351232) (hleaf : cs.all leafOk = true)
    (hone : ∀ k s1 e1 s3, k < N → one k s1 = some (e1, s3) → ∃ T2 s2 T3, CodeDoes Try.prog [] n wb ca (cutF n (setP [(i1, .int .i64 ((N - 1 - k : Nat) : Int)), (i2, ela (evOf cs) (N - 1 - k))] T)) s1 .normal T2 s2 ∧ CodeDoes Try.prog [] n wb cb (cutF n T2) s2 e1 T3 s3 ∧ NoMap s2.heap)
    (hr : rounds (chkB bs sv cs) one N 0 s = some (e, sE)) {ι : Emb} {a : Act} {w : World} (hs : FS n wb ι T s.heap a.tmps w) (hz : a.tmps.size = n) {Q : Exit → Act → World → Prop}
    (hQ : ∀ ι' w' D, FS n wb ι' T sE.heap a.tmps w' → Step ι s.heap w ι' sE.heap w' → w.heap.size ≤ D → w'.heap[D]? = some (.deferred (some [])) → NoMap sE.heap → Q e.to { a with defers := { target := .collected D, args := #[] } :: a.defers } w') :
    (Code.rangeFunc (.tmp g) #[i1, i2] ca cb).wpIn (FR (none, 0)) (m + 2) Try.prog Q a w := by
  have hv := hs.nm g hgn
  rw [hg] at hv
  obtain ⟨a', b', e1, e2, e3⟩ := hv.inv_func
  obtain ⟨l, hl, rfl, rfl⟩ : ∃ l : Loc, ι bs = some l ∧ a' = #[] ∧ b' = #[.pointer (some ⟨l.blk, l.off, none⟩)] := by
    obtain ⟨x⟩ := a'
    obtain ⟨y⟩ := b'
    cases x with
    | cons => exact e2.elim
    | nil =>
      match y, e3 with
      | [y], e3 => cases e3.1 with
        | ptr _ hh => exact ⟨_, hh, rfl, rfl⟩
  have hev : a.eval (.tmp g) = .func (.func 46) #[] #[.pointer (some ⟨l.blk, l.off, none⟩)] := e1
  obtain ⟨b, off, hb, hRd0⟩ := rdE_of hs.sim hc hleaf hN hcs hl
  refine range_law (α := Nat × Value) hca hcb hs hz hc.nm hev (args := fun x => #[.int .i64 (x.1 : Int), x.2]) (f := rdF N (evOf cs)) (N := N) (Rd := RdE l.blk l.off N b off (evOf cs))
    behind_enters (fun x => rfl) ?_ (behind_gives m l.blk l.off N b off (evOf cs) w hNb hRd0)
    (pI := fun pre s' => Chk bs sv cs s' ∧ rounds (chkB bs sv cs) one (N - pre.length) pre.length s' = some (e, sE)) (pX := fun pre s' => Chk bs sv cs s' ∧ e = .ret ∧ s' = sE) ⟨hc, hr⟩ ?_ ?_ ?_ ?_
  · intro k hk v hv
    simp only [List.mem_toArray, List.mem_cons, List.not_mem_nil, or_false] at hv
    rcases hv with rfl | rfl
    · rfl
    · show (List.all _ leafOk) = true
      have hlf : ∀ i, i < 6 → leafOk (evOf cs (N - 1 - k) i) = true := fun i hi => by
        refine List.all_eq_true.1 hleaf _ ?_
        unfold evOf
        rw [List.getD_eq_getElem?_getD, List.getElem?_eq_getElem (by omega)]
        exact List.getElem_mem _
      simp [rdF, ela, hlf]
  · intro ι' s' W pre hle hS hp
    obtain ⟨b2, off2, hb2, hR2⟩ := rdE_of hS hp.1 hleaf hN hcs (hle _ _ hl)
    rcases Nat.eq_zero_or_pos N with h0 | hpos
    · exact ⟨hR2.1.imp fun v hv => ⟨hv.1, hv.2.imp_right fun hh => absurd hh.1 (by omega)⟩, fun j hj => absurd hj (by omega)⟩
    · obtain ⟨b0, o0, cap, l0, f1, f2, rfl, rfl⟩ := hb hpos
      obtain ⟨b0', o0', cap', l0', g1, g2, rfl, rfl⟩ := hb2 hpos
      rw [f1] at g1
      cases g1
      rw [hle _ _ f2] at g2
      cases g2
      exact hR2
  · rintro pre s1 ⟨hc1, hr1⟩ hnm hlt
    have hq : N - pre.length = (N - pre.length - 1) + 1 := by omega
    rw [hq] at hr1
    obtain ⟨⟨e1, s3⟩, h1, h2⟩ := Option.bind_eq_some_iff.1 hr1
    obtain ⟨T2, s2, T3, c1, c2, c3⟩ := hone _ _ _ _ hlt h1
    cases hch : chkB bs sv cs s3 with
    | false => simp only [hch, cond_false] at h2; cases h2
    | true =>
      have hc3 := chkB_ok hch
      simp only [hch, cond_true] at h2
      have hz2 : (#[i1, i2].zip #[Value.int .i64 (((rdF N (evOf cs) pre.length).1 : Nat) : Int), (rdF N (evOf cs) pre.length).2]).toList = [(i1, .int .i64 ((N - 1 - pre.length : Nat) : Int)), (i2, ela (evOf cs) (N - 1 - pre.length))] := by simp [rdF]
      rw [hz2]
      refine ⟨T2, s2, e1, T3, s3, c1, c2, c3, hc3.nm, ?_⟩
      cases e1 with
      | normal => exact .inl ⟨rfl, hc3, by rw [List.length_append, List.length_singleton, ← h2]; congr 1⟩
      | ret =>
        cases h2
        exact .inr ⟨rfl, hc3, rfl, rfl⟩
      | exit id => cases h2
  · rintro ι' s' w' D xs hx ⟨hc1, hr1⟩ q1 q2 q3 q4 q5
    rw [hx, Nat.sub_self] at hr1
    cases hr1
    exact hQ ι' w' D q1 q2 q3 q4 q5
  · rintro ι' s' w' D xs ⟨hc1, rfl, rfl⟩ q1 q2 q3 q4 q5
    exact hQ ι' w' D q1 q2 q3 q4 q5
end
end Go.Proofs.Ythnjkakmkmoceaa.Ab

/- Find and Squeeze: told by a run of their pieces. -/
namespace Go.Proofs.Ythnjkakmkmoceaa.Ab
open Go Go.RowKit

theorem leave {n m wb : Nat} {fn : Func} (hres : fn.results.toList.all (resB n) = true) {ι κ : Emb} {T : Fr} {s0 s : St} {vs : List Value} {tmps : Array Value} {w w' : World} {D : Nat} (hv : resVs Try.prog [] (cutF n T) s fn.results.toList = some vs) (hn : vs.all noTup = true)
    (hf : FS n wb κ T s.heap tmps w') (hst : Step ι s0.heap w κ s.heap w') (hm : NoMap s.heap) (hD : w.heap.size ≤ D) (hd : w'.heap[D]? = some (.deferred (some []))) :
    LeavesInM (FR (none, 0)) m Try.prog fn tmps (fun e w'' => ∃ v', e = .returned v' ∧ After wb ι s0.heap w s.heap (resPack vs) v' w'') [{ target := .collected D, args := #[] }] .returning w' := by
  have hg := grownBy_putObj' w' D (.deferred none)
  have hf2 : FS n wb κ T s.heap tmps (w'.putObj D (.deferred none)) := hf.grown hm hg fun r e => by cases e; exact ⟨_, hd, fun _ _ _ e => by cases e⟩
  have hs2 := hst.grown hg fun r e => by cases e; exact hD
  obtain ⟨v', h6, h7⟩ := results_sound (P := Try.prog) (fn := fn) (m := 0) rfl hf2.b hv hn hres
  exact ⟨by simp, .inl ⟨D, _, rfl, run_takeDeferred hd, v', h6, v', rfl, κ, hf2.sim, hs2, h7⟩⟩

def pc (F : List Value → St → Res) (X : List Value) (s : St) : Option (List Value × St) := (F X s).bind fun r => match r.1 with
  | .normal => some r.2
  | _ => none
theorem pc_some {F : List Value → St → Res} {X : List Value} {s : St} {r : List Value × St} (h : pc F X s = some r) : F X s = some (.normal, r.1, r.2) := by
  unfold pc at h
  obtain ⟨⟨e, y⟩, h1, h2⟩ := Option.bind_eq_some_iff.1 h
  cases e with
  | normal => cases h2; exact h1
  | ret => cases h2
  | exit => cases h2
def rangeOk (bs : Nat) (sv : Value) (cs : List Value) (s : St) : Bool := Nat.beq cs.length (lenOf sv * 7) && Nat.ble (lenOf sv) 140737488351232 && cs.all leafOk && chkB bs sv cs s
def rangeAt (bs : Nat) (one : List Value → Nat → Nat → St → Option (Ex × St)) (s : St) : Option (Ex × St) :=
  ((readRow s bs).bind (·[0]?)).bind fun sv => (cellsOf 7 sv s).bind fun cs => cond (rangeOk bs sv cs s) (rounds (chkB bs sv cs) (one cs (lenOf sv)) (lenOf sv) 0 s) none
def closB : Value → Option Nat
  | .func (.func f) ⟨[]⟩ ⟨[.pointer (some ⟨bs, 0, none⟩)]⟩ => cond (Nat.beq f 46) (some bs) none
  | _ => none
theorem closB_some {v : Value} {bs : Nat} (h : closB v = some bs) : v = .func (.func 46) #[] #[.pointer (some ⟨bs, 0, none⟩)] := by
  unfold closB at h
  split at h
  · rename_i f b
    cases hb : Nat.beq f 46 with
    | false => rw [hb] at h; cases h
    | true =>
      rw [hb] at h
      cases h
      rw [Nat.eq_of_beq_eq_true hb]
  · cases h
theorem rangeAt_some {bs : Nat} {one : List Value → Nat → Nat → St → Option (Ex × St)} {s : St} {z : Ex × St} (h : rangeAt bs one s = some z) :
    ∃ sv cs, Chk bs sv cs s ∧ cs.length = lenOf sv * 7 ∧ lenOf sv ≤ 140737488351232 ∧ cs.all leafOk = true ∧ rounds (chkB bs sv cs) (one cs (lenOf sv)) (lenOf sv) 0 s = some z := by
  unfold rangeAt at h
  obtain ⟨sv, h1, h⟩ := Option.bind_eq_some_iff.1 h
  obtain ⟨cs, h2, h⟩ := Option.bind_eq_some_iff.1 h
  cases hk : rangeOk bs sv cs s with
  | false => rw [hk] at h; cases h
  | true =>
    rw [hk] at h
    unfold rangeOk at hk
    simp only [Bool.and_eq_true] at hk
    exact ⟨sv, cs, chkB_ok hk.2, Nat.eq_of_beq_eq_true hk.1.1.1, Nat.le_of_ble_eq_true hk.1.1.2, hk.1.2, h⟩

def five (X : List Value) : List Value := [getL X 0, getL X 1, getL X 2, getL X 3, getL X 4]
noncomputable def oneF (R : Caller) (X : List Value) (cs : List Value) (N k : Nat) (s : St) : Option (Ex × St) :=
  (pc (buffer_Find.as R) [getL X 0, getL X 1, getL X 2, getL X 3, ela (evOf cs) (N - 1 - k)] s).bind fun u => cond (noMapB u.2.heap) ((buffer_Find.bd R (five u.1) u.2).map fun v => (v.1, v.2.2)) none
noncomputable def endF (R : Caller) (X : List Value) (z : Ex × St) : Option (List Value × St) :=
  match z.1 with
  | .ret => (resVs Try.prog [] (cutF 22 (ofL [3, 4, 5, 6, 10] 0 X noT)) z.2 Try.f8.results.toList).map fun vs => (vs, z.2)
  | .normal => (buffer_Find.C R [getL X 1, getL X 2, getL X 3] z.2).bind fun c => match c.1 with
    | .ret => cond (noMapB c.2.2.heap) ((resVs Try.prog [] (cutF 22 (ofL [4, 5, 6] 0 c.2.1 noT)) c.2.2 Try.f8.results.toList).map fun vs => (vs, c.2.2)) none
    | _ => none
  | _ => none
def packV (r : List Value × St) : Option (Value × St) := cond (r.1.all noTup) (some (resPack r.1, r.2)) none
noncomputable def evFind (R : Caller) (x0 x1 : Value) (s : St) : Option (Value × St) :=
  (pc (buffer_Find.A R) [x0, x1] s).bind fun a =>
  (pc (buffer_Find.B R) (five a.1) a.2).bind fun b =>
  (closB (getL b.1 4)).bind fun bs =>
  (rangeAt bs (oneF R b.1) b.2).bind fun z => (endF R b.1 z).bind packV

def idB : Code → Nat
  | .block i _ => i
  | _ => 0
theorem find_shape : bodyOf Try.f8 = .seq (sel [0] (bodyOf Try.f8)) (.seq (.seq (sel [1, 0, 0] (bodyOf Try.f8)) (.block (idB (sel [1, 0, 1] (bodyOf Try.f8))) (.rangeFunc (.tmp 10) #[11, 12] (sel [1, 0, 1, 2, 3] (bodyOf Try.f8)) (sel [1, 0, 1, 2, 4] (bodyOf Try.f8))))) (sel [1, 1] (bodyOf Try.f8))) := by kernel_rfl
theorem find_body : Try.f8.body = some (bodyOf Try.f8) := by kernel_rfl
theorem find_n : Try.f8.ntmps = 22 := by kernel_rfl
theorem find_res : Try.f8.results.toList.all (resB 22) = true := by kernel_rfl

/-- the frame at the start -/
theorem FS.start {n wb : Nat} {ι : Emb} {s : St} {w : World} {args : List Value} {args' : Array Value} (hs : Sim wb ι s.heap w) (ha : All2 (VRel ι) args args'.toList) (hn : args.length ≤ n) :
    FS n wb ι (ofArgs args) s.heap (args' ++ Array.replicate (n - args'.size) undef) w ∧ (args' ++ Array.replicate (n - args'.size) undef).size = n := by
  have hsz : args'.size = args.length := by simpa using ha.length.symm
  exact ⟨⟨hs, fun x _ => args_rel ha _ x⟩, by simp; omega⟩

theorem find_calls {R : Caller} (hR : CallOk Try.prog R) {x0 x1 : Value} {s t : St} {v : Value} (h : evFind R x0 x1 s = some (v, t)) {wb : Nat} {ι : Emb} {w : World} {args' : Array Value} (hs : Sim wb ι s.heap w) (ha : All2 (VRel ι) [x0, x1] args'.toList) :
    Calls Try.prog 8 args' w fun e w' => ∃ v', e = .returned v' ∧ After wb ι s.heap w t.heap v v' w' := by
  unfold evFind at h
  obtain ⟨a1, hA, h⟩ := Option.bind_eq_some_iff.1 h
  obtain ⟨b1, hB, h⟩ := Option.bind_eq_some_iff.1 h
  obtain ⟨bs, hcl, h⟩ := Option.bind_eq_some_iff.1 h
  obtain ⟨z, hz, h⟩ := Option.bind_eq_some_iff.1 h
  obtain ⟨⟨vs, t2⟩, hE, h⟩ := Option.bind_eq_some_iff.1 h
  have hpk : vs.all noTup = true ∧ v = resPack vs ∧ t = t2 := by
    unfold packV at h
    cases hb : vs.all noTup with
    | false => simp only [hb] at h; cases h
    | true => simp only [hb] at h; cases h; exact ⟨rfl, rfl, rfl⟩
  obtain ⟨hnt, rfl, rfl⟩ := hpk
  have hA' := pc_some hA
  have hB' := pc_some hB
  have hcl' := closB_some hcl
  obtain ⟨sv, cs, hch, hlen, hNb, hleaf, hro⟩ := rangeAt_some hz
  refine (callsIn_wide (n := 2)).1 (callsIn_of_wp_marks (F := FR (none, 0)) Try.func8 find_body trivial ?_ rfl)
  rw [find_n]
  obtain ⟨hf0, hz0⟩ := FS.start (n := 22) hs ha (by simp)
  rw [find_shape]
  refine wpIn_seq ?_
  refine seg (X := (none, 2)) buffer_Find.A_w (seg_does hR buffer_Find.A_w (buffer_Find.A_eq R) (T := ofArgs [x0, x1]) hA') hf0 hz0 fun ι1 f1 w1 g1 g2 g3 g4 => ?_
  refine wpIn_seq ?_
  refine wpIn_seq ?_
  refine seg (X := (none, 2)) buffer_Find.B_w (seg_does hR buffer_Find.B_w (buffer_Find.B_eq R) (T := ofL [0, 3, 4, 5, 6] 0 a1.1 noT) hB') g1 g3 fun ι2 f2 w2 k1 k2 k3 k4 => ?_
  refine wpIn_block ?_
  have hst := g2.trans k2
  refine range_run (m := 0) (n := 22) buffer_Find.as_w buffer_Find.bd_w (T := ofL [3, 4, 5, 6, 10] 0 b1.1 noT) (bs := bs) (by exact hcl') (by decide) hch rfl hlen hNb hleaf ?_ hro k1 k3 ?_
  · intro k s1 e1 s3 hk ho
    unfold oneF at ho
    obtain ⟨u, h1, h2⟩ := Option.bind_eq_some_iff.1 ho
    cases hm : noMapB u.2.heap with
    | false => simp only [hm] at h2; cases h2
    | true =>
      simp only [hm, cond_true, Option.map_eq_some_iff] at h2
      obtain ⟨v2, h3, h4⟩ := h2
      cases h4
      refine ⟨ofL [3, 4, 5, 6, 8] 0 u.1 noT, u.2, ofL [] 0 v2.2.1 noT, seg_does hR buffer_Find.as_w (buffer_Find.as_eq R) (by exact pc_some h1), seg_does hR buffer_Find.bd_w (buffer_Find.bd_eq R) (T := ofL [3, 4, 5, 6, 8] 0 u.1 noT) (by exact h3), noMapB_ok hm⟩
  · intro ι3 w3 D q1 q2 q3 q4 q5
    have hst3 := hst.trans q2
    have hD : w.heap.size ≤ D := Nat.le_trans hst.size q3
    have hdef : f2.defers = [] := by rw [k4, g4]
    obtain ⟨e, sE⟩ := z
    unfold endF at hE
    cases e with
    | exit => cases hE
    | ret =>
      simp only [Option.map_eq_some_iff] at hE
      obtain ⟨vs', h1, h2⟩ := hE
      cases h2
      show LeavesInM _ _ _ _ f2.tmps _ ({ target := .collected D, args := #[] } :: f2.defers) .returning w3
      rw [hdef]
      exact leave find_res h1 hnt q1 hst3 q5 hD q4
    | normal =>
      obtain ⟨⟨e2, X3, s3⟩, h1, h2⟩ := Option.bind_eq_some_iff.1 hE
      cases e2 with
      | exit => cases h2
      | normal => cases h2
      | ret =>
        cases hm : noMapB s3.heap with
        | false => simp only [hm] at h2; cases h2
        | true =>
          simp only [hm, cond_true, Option.map_eq_some_iff] at h2
          obtain ⟨vs', h3, h4⟩ := h2
          cases h4
          refine seg (X := (none, 2)) buffer_Find.C_w (seg_does hR buffer_Find.C_w (buffer_Find.C_eq R) (T := ofL [3, 4, 5, 6, 10] 0 b1.1 noT) (by exact h1)) (a := { f2 with defers := { target := .collected D, args := #[] } :: f2.defers }) q1 k3 fun ι4 f4 w4 r1 r2 r3 r4 => ?_
          show LeavesInM _ _ _ _ f4.tmps _ f4.defers .returning w4
          rw [r4]
          show LeavesInM _ _ _ _ f4.tmps _ ({ target := .collected D, args := #[] } :: f2.defers) .returning w4
          rw [hdef]
          refine leave find_res h3 hnt r1 (hst3.trans r2) (noMapB_ok hm) hD ?_
          rw [r2.keep D (Array.getElem?_eq_some_iff.1 q4).1 (q1.sim.notOwn q5 q4 fun _ _ _ e => by cases e)]
          exact q4

end Go.Proofs.Ythnjkakmkmoceaa.Ab

/- Squeeze: told by a run of its pieces. -/
namespace Go.Proofs.Ythnjkakmkmoceaa.Ab
open Go Go.RowKit

noncomputable def oneQ (R : Caller) (X : List Value) (cs : List Value) (N k : Nat) (s : St) : Option (Ex × St) :=
  (pc (buffer_Squeeze.as R) [getL X 0, getL X 1, .int .i64 ((N - 1 - k : Nat) : Int), ela (evOf cs) (N - 1 - k)] s).bind fun u => cond (noMapB u.2.heap) ((buffer_Squeeze.bd R (toL [1, 5, 6, 7] (cutF 33 (ofL [1, 5, 6, 7] 0 u.1 noT))) u.2).map fun v => (v.1, v.2.2)) none
noncomputable def endQ (R : Caller) (X : List Value) (z : Ex × St) : Option (List Value × St) :=
  match z.1 with
  | .normal => (buffer_Squeeze.E R (toL [5] (cutF 33 (ofL [1, 5, 15] 0 X noT))) z.2).bind fun c => match c.1 with
    | .ret => cond (noMapB c.2.2.heap) ((resVs Try.prog [] (cutF 33 (ofL [2, 3] 0 c.2.1 noT)) c.2.2 Try.f22.results.toList).map fun vs => (vs, c.2.2)) none
    | _ => none
  | _ => none
noncomputable def evSqz (R : Caller) (x0 : Value) (s : St) : Option (Value × St) :=
  (pc (buffer_Squeeze.A R) [x0] s).bind fun a =>
  (pc (buffer_Squeeze.B R) (toL [1, 2, 3] (cutF 33 (ofL [1] 0 a.1 noT))) a.2).bind fun b =>
  (pc (buffer_Squeeze.C R) (toL [1] (cutF 33 (ofL [1, 2, 3] 0 b.1 noT))) b.2).bind fun c =>
  (pc (buffer_Squeeze.D R) (toL [1, 5] (cutF 33 (ofL [1, 5] 0 c.1 noT))) c.2).bind fun d =>
  (closB (getL d.1 2)).bind fun bs =>
  (rangeAt bs (oneQ R d.1) d.2).bind fun z => (endQ R d.1 z).bind packV

theorem sqz_shape : bodyOf Try.f22 = .seq (sel [0] (bodyOf Try.f22)) (.seq (sel [1, 0] (bodyOf Try.f22)) (.seq (sel [1, 1, 0] (bodyOf Try.f22)) (.seq (.seq (sel [1, 1, 1, 0, 0] (bodyOf Try.f22)) (.block (idB (sel [1, 1, 1, 0, 1] (bodyOf Try.f22))) (.rangeFunc (.tmp 15) #[16, 17] (sel [1, 1, 1, 0, 1, 2, 3] (bodyOf Try.f22)) (sel [1, 1, 1, 0, 1, 2, 4] (bodyOf Try.f22))))) (sel [1, 1, 1, 1] (bodyOf Try.f22))))) := by kernel_rfl
theorem sqz_body : Try.f22.body = some (bodyOf Try.f22) := by kernel_rfl
theorem sqz_n : Try.f22.ntmps = 33 := by kernel_rfl
theorem sqz_res : Try.f22.results.toList.all (resB 33) = true := by kernel_rfl

theorem sqz_calls {R : Caller} (hR : CallOk Try.prog R) {x0 : Value} {s t : St} {v : Value} (h : evSqz R x0 s = some (v, t)) {wb : Nat} {ι : Emb} {w : World} {args' : Array Value} (hs : Sim wb ι s.heap w) (ha : All2 (VRel ι) [x0] args'.toList) :
    Calls Try.prog 22 args' w fun e w' => ∃ v', e = .returned v' ∧ After wb ι s.heap w t.heap v v' w' := by
  unfold evSqz at h
  obtain ⟨a1, hA, h⟩ := Option.bind_eq_some_iff.1 h
  obtain ⟨b1, hB, h⟩ := Option.bind_eq_some_iff.1 h
  obtain ⟨c1, hC, h⟩ := Option.bind_eq_some_iff.1 h
  obtain ⟨d1, hDD, h⟩ := Option.bind_eq_some_iff.1 h
  obtain ⟨bs, hcl, h⟩ := Option.bind_eq_some_iff.1 h
  obtain ⟨z, hz, h⟩ := Option.bind_eq_some_iff.1 h
  obtain ⟨⟨vs, t2⟩, hE, h⟩ := Option.bind_eq_some_iff.1 h
  have hpk : vs.all noTup = true ∧ v = resPack vs ∧ t = t2 := by
    unfold packV at h
    cases hb : vs.all noTup with
    | false => simp only [hb] at h; cases h
    | true => simp only [hb] at h; cases h; exact ⟨rfl, rfl, rfl⟩
  obtain ⟨hnt, rfl, rfl⟩ := hpk
  have hA' := pc_some hA
  have hB' := pc_some hB
  have hC' := pc_some hC
  have hD' := pc_some hDD
  have hcl' := closB_some hcl
  obtain ⟨sv, cs, hch, hlen, hNb, hleaf, hro⟩ := rangeAt_some hz
  refine (callsIn_wide (n := 2)).1 (callsIn_of_wp_marks (F := FR (none, 0)) Try.func22 sqz_body trivial ?_ rfl)
  rw [sqz_n]
  obtain ⟨hf0, hz0⟩ := FS.start (n := 33) hs ha (by simp)
  rw [sqz_shape]
  refine wpIn_seq ?_
  refine seg (X := (none, 2)) buffer_Squeeze.A_w (seg_does hR buffer_Squeeze.A_w (buffer_Squeeze.A_eq R) (T := ofArgs [x0]) hA') hf0 hz0 fun ι1 f1 w1 g1 g2 g3 g4 => ?_
  refine wpIn_seq ?_
  refine seg (X := (none, 2)) buffer_Squeeze.B_w (seg_does hR buffer_Squeeze.B_w (buffer_Squeeze.B_eq R) (T := ofL [1] 0 a1.1 noT) hB') g1 g3 fun ι2 f2 w2 k1 k2 k3 k4 => ?_
  refine wpIn_seq ?_
  refine seg (X := (none, 2)) buffer_Squeeze.C_w (seg_does hR buffer_Squeeze.C_w (buffer_Squeeze.C_eq R) (T := ofL [1, 2, 3] 0 b1.1 noT) hC') k1 k3 fun ι3 f3 w3 l1 l2 l3 l4 => ?_
  refine wpIn_seq ?_
  refine wpIn_seq ?_
  refine seg (X := (none, 2)) buffer_Squeeze.D_w (seg_does hR buffer_Squeeze.D_w (buffer_Squeeze.D_eq R) (T := ofL [1, 5] 0 c1.1 noT) hD') l1 l3 fun ι4 f4 w4 m1 m2 m3 m4 => ?_
  refine wpIn_block ?_
  have hst := ((g2.trans k2).trans l2).trans m2
  refine range_run (m := 0) (n := 33) buffer_Squeeze.as_w buffer_Squeeze.bd_w (T := ofL [1, 5, 15] 0 d1.1 noT) (bs := bs) (by exact hcl') (by decide) hch rfl hlen hNb hleaf ?_ hro m1 m3 ?_
  · intro k s1 e1 s3 hk ho
    unfold oneQ at ho
    obtain ⟨u, h1, h2⟩ := Option.bind_eq_some_iff.1 ho
    cases hm : noMapB u.2.heap with
    | false => simp only [hm] at h2; cases h2
    | true =>
      simp only [hm, cond_true, Option.map_eq_some_iff] at h2
      obtain ⟨v2, h3, h4⟩ := h2
      cases h4
      refine ⟨ofL [1, 5, 6, 7] 0 u.1 noT, u.2, ofL [] 0 v2.2.1 noT, seg_does hR buffer_Squeeze.as_w (buffer_Squeeze.as_eq R) (by exact pc_some h1), seg_does hR buffer_Squeeze.bd_w (buffer_Squeeze.bd_eq R) (T := ofL [1, 5, 6, 7] 0 u.1 noT) (by exact h3), noMapB_ok hm⟩
  · intro ι5 w5 D q1 q2 q3 q4 q5
    have hst3 := hst.trans q2
    have hD : w.heap.size ≤ D := Nat.le_trans hst.size q3
    have hdef : f4.defers = [] := by rw [m4, l4, k4, g4]
    obtain ⟨e, sE⟩ := z
    unfold endQ at hE
    cases e with
    | exit => cases hE
    | ret => cases hE
    | normal =>
      obtain ⟨⟨e2, X3, s3⟩, h1, h2⟩ := Option.bind_eq_some_iff.1 hE
      cases e2 with
      | exit => cases h2
      | normal => cases h2
      | ret =>
        cases hm : noMapB s3.heap with
        | false => simp only [hm] at h2; cases h2
        | true =>
          simp only [hm, cond_true, Option.map_eq_some_iff] at h2
          obtain ⟨vs', h3, h4⟩ := h2
          cases h4
          refine seg (X := (none, 2)) buffer_Squeeze.E_w (seg_does hR buffer_Squeeze.E_w (buffer_Squeeze.E_eq R) (T := ofL [1, 5, 15] 0 d1.1 noT) (by exact h1)) (a := { f4 with defers := { target := .collected D, args := #[] } :: f4.defers }) q1 m3 fun ι6 f6 w6 r1 r2 r3 r4 => ?_
          show LeavesInM _ _ _ _ f6.tmps _ f6.defers .returning w6
          rw [r4]
          show LeavesInM _ _ _ _ f6.tmps _ ({ target := .collected D, args := #[] } :: f4.defers) .returning w6
          rw [hdef]
          refine leave sqz_res h3 hnt r1 (hst3.trans r2) (noMapB_ok hm) hD ?_
          rw [r2.keep D (Array.getElem?_eq_some_iff.1 q4).1 (q1.sim.notOwn q5 q4 fun _ _ _ e => by cases e)]
          exact q4

end Go.Proofs.Ythnjkakmkmoceaa.Ab
