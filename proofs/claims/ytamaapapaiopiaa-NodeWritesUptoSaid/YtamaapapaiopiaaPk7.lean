/- Texts of this proof, packed: NdDec, NdWhol4, NdSize, BBulk, NdLawW, BArg, BSized. -/
import Derived.Test.YtamaapapaiopiaaPk6
import Derived.Test.YtamaapapaiopiaaRows
import Derived.SizedLaws
import Derived.ChangeSlices
set_option linter.unusedVariables false
set_option linter.unusedSimpArgs false
set_option linter.unusedSectionVars false
/- Nodes are read: Decode. -/
namespace Go.Proofs.Ytamaapapaiopiaa.Ab
open Go

def oNode : OCod Nd := OCod.map (.pair (.ofC blnC fun _ => True) (.pair (oPr.list 32) (.pair (oKid.list 8) (.pair (oStr.list 16) (.pair ((oEn.list 88).list 24) .unit))))) fun n => (n.leaf, n.pairs, n.kids, n.pivots, n.bufs, ())
theorem oNode_C : oNode.C = nodeC := rfl
theorem oNode_inv {n : Nd} {lo hi : Nat} {s : St} {cs : List Value} (h : oNode.own lo hi n s cs) : ∃ p k q b m1 m2 m3, cs = [.bool n.leaf, p, k, q, b] ∧ lo ≤ m1 ∧ m1 ≤ m2 ∧ m2 ≤ m3 ∧ m3 ≤ hi ∧ OList oPr 32 lo m1 n.pairs s p ∧ OList oKid 8 m1 m2 n.kids s k ∧ OList oStr 16 m2 m3 n.pivots s q ∧ OList (oEn.list 88) 24 m3 hi n.bufs s b := by
  obtain ⟨c0, d0, m0, rfl, l1, l2, ⟨rfl, _⟩, c1, d1, m1, rfl, l3, l4, ⟨p, rfl, h1⟩, c2, d2, m2, rfl, l5, l6, ⟨k, rfl, h2⟩, c3, d3, m3, rfl, l7, l8, ⟨q, rfl, h3⟩, c4, d4, m4, rfl, l9, l10, ⟨b, rfl, h4⟩, rfl⟩ := h
  exact ⟨p, k, q, b, m1, m2, m3, rfl, by omega, by omega, by omega, by omega, h1.mono l1 (Nat.le_refl _), h2, h3, h4.mono (Nat.le_refl _) l10⟩
theorem oNode_mk {n : Nd} {lo m1 m2 m3 hi : Nat} {s : St} {p k q b : Value} (l1 : lo ≤ m1) (l2 : m1 ≤ m2) (l3 : m2 ≤ m3) (l4 : m3 ≤ hi) (h1 : OList oPr 32 lo m1 n.pairs s p) (h2 : OList oKid 8 m1 m2 n.kids s k) (h3 : OList oStr 16 m2 m3 n.pivots s q) (h4 : OList (oEn.list 88) 24 m3 hi n.bufs s b) : oNode.own lo hi n s [.bool n.leaf, p, k, q, b] :=
  ⟨[.bool n.leaf], [p, k, q, b], lo, rfl, Nat.le_refl _, by omega, ⟨rfl, trivial⟩, [p], [k, q, b], m1, rfl, l1, by omega, ⟨p, rfl, h1⟩, [k], [q, b], m2, rfl, l2, by omega, ⟨k, rfl, h2⟩, [q], [b], m3, rfl, l3, by omega, ⟨q, rfl, h3⟩, [b], [], hi, rfl, l4, by omega, ⟨b, rfl, h4⟩, rfl⟩
theorem own_ol {α : Type} {O : OCod α} {B lo hi : Nat} {l : List α} {s : St} {u : Value} {cs : List Value} (h : (O.list B).own lo hi l s cs) (g : Shape false u cs) : OList O B lo hi l s u := by
  obtain ⟨v, rfl, h⟩ := h
  have g : [v] = [u] := g
  cases g
  exact h

def pNode : Par Nd := pByte.bind fun t =>
  if t = 1 then (pNum 480).bind fun c => (pPair.rep c).bind fun l => .pure ⟨true, l, [], [], []⟩
  else if t = 2 then (pNum 480).bind fun c => (pKid.rep c).bind fun ks => ((pText 480).rep (c - 1)).bind fun ps => (pBuf.rep c).bind fun bs => .pure ⟨false, [], ks, ps, bs⟩
  else .fail 11
def IsNd (n : Nd) (lo hi : Nat) (s : St) (r : Value) : Prop :=
  (∃ p, r = .iface 53 (.agg #[p]) ∧ n = ⟨true, n.pairs, [], [], []⟩ ∧ OList oPr 32 lo hi n.pairs s p) ∨
  (∃ k q b m2 m3, r = .iface 55 (.agg #[k, q, b]) ∧ n = ⟨false, [], n.kids, n.pivots, n.bufs⟩ ∧ lo ≤ m2 ∧ m2 ≤ m3 ∧ m3 ≤ hi ∧ OList oKid 8 lo m2 n.kids s k ∧ OList oStr 16 m2 m3 n.pivots s q ∧ OList (oEn.list 88) 24 m3 hi n.bufs s b)
theorem ab_leaf {b len cap : Nat} {p : Value} (h : isLeaf p = true) (h2 : cellsV p = [p]) : abuild Try.prog 53 [(0, p)] = some (.agg #[p]) := by
  have h1 : abuild Try.prog 53 [(0, p)] = ((afill (placeS [(0, 1)]) [.slice none 0 0] [(0, p)]).map fun cs => .agg cs.toArray) := by kernel_rfl
  rw [h1]
  simp [afill, placeS, h, h2, putCells]
theorem ab_inner {k q b : Value} (hk : isLeaf k = true) (hk2 : cellsV k = [k]) (hq : isLeaf q = true) (hq2 : cellsV q = [q]) (hb : isLeaf b = true) (hb2 : cellsV b = [b]) : abuild Try.prog 55 [(0, k), (1, q), (2, b)] = some (.agg #[k, q, b]) := by
  have h1 : abuild Try.prog 55 [(0, k), (1, q), (2, b)] = ((afill (placeS [(0, 1), (1, 1), (2, 1)]) [.slice none 0 0, .slice none 0 0, .slice none 0 0] [(0, k), (1, q), (2, b)]).map fun cs => .agg cs.toArray) := by kernel_rfl
  rw [h1]
  simp [afill, placeS, hk, hk2, hq, hq2, hb, hb2, putCells]
theorem ol_cells {α : Type} {O : OCod α} {B lo hi : Nat} {l : List α} {s : St} {v : Value} (h : OList O B lo hi l s v) : cellsV v = [v] ∧ noTup v = true ∧ notIface v = true := by
  rcases h.2 with ⟨rfl, _⟩ | ⟨b, css, rfl, _⟩ <;> exact ⟨rfl, rfl, rfl⟩
theorem read_run {N : Nat} {s : St} {x : BL × Int} (hx : Rd N s x) : ∃ (r : Value) (n : Nd) (s' : St) (y : BL × Int), (run Try.prog (libL libT) hints) 21 [rp N] s = some (r, s') ∧ Rd N s' y ∧ Keep (some N) s s' ∧ Does pNode x n y ∧ ((r = .nilIface ∧ y.2 ≠ 0) ∨ IsNd n s.heap.length s'.heap.length s' r) := by
  have hN := hx.lt
  obtain ⟨t, u0, c0, s0, y0, e1, e2, e3, e4, e5, e6⟩ := byte_run s x hx
  obtain ⟨rfl, ht⟩ := nat_val e5 e4
  have e1 : (run Try.prog (libL libT) hints) 44 [rp N] s = some (.int .u8 (t : Int), s0) := e1
  have hri : ∀ t v s, retV [.iface t v] s = some (.iface t v, s) := fun t v s => ret1 rfl
  have hrn : ∀ s, retV [.nilIface] s = some (.nilIface, s) := fun s => ret1 rfl
  by_cases c1 : t = 1
  · subst c1
    obtain ⟨n, u1, c1, s1, y1, f1, f2, f3, f4, f5, f6⟩ := number_run (most := 480) (by decide) s0 y0 e2
    obtain ⟨rfl, hn⟩ := nat_val f5 f4
    have f1 : (run Try.prog (libL libT) hints) 46 [rp N, .int .u64 480] s0 = some (.int .u64 (n : Int), s1) := f1
    obtain ⟨l, u2, c2, s2, y2, g1, g2, g3, g4, g5, g6⟩ := rows_pair (cnt := n) (by omega) s1 y1 f2
    have g1 : (run Try.prog (libL libT) hints) 45 [rp N, .int .i64 (n : Int), .func (.func 47) #[rp N] #[]] s1 = some (u2, s2) := g1
    have hw : IntKind.wrap .i64 (n : Int) = (n : Int) := wrap_i64 (by omega) (by omega)
    have hmk : amkFunc 47 [rp N] [] = some (.func (.func 47) #[rp N] #[]) := rfl
    have ho := own_ol g5 g4
    have hc := ol_cells ho
    have hab := ab_leaf (b := 0) (len := 0) (cap := 0) ho.leaf hc.1
    have hif : ∀ t, aiface t (.agg #[u2]) = some (.iface t (.agg #[u2])) := fun t => by simp [aiface, ifaceOk, hc.2.2]
    have e11 : ((1 : Int) == 1) = true := rfl
    refine ⟨_, ⟨true, l, [], [], []⟩, s2, y2, node_reader_read_of rfl ?_, g2, e3.trans (f3.trans g3), ?_, .inr (.inl ⟨u2, rfl, rfl, ho.mono (Nat.le_trans e3.1 f3.1) (Nat.le_refl _)⟩)⟩
    · have e1 : (run Try.prog (libL libT) hints) 44 [rp N] s = some (.int .u8 1, s0) := e1
      unfold node_reader_read
      simp only [node_reader_byte_call, e1, e11, node_reader_number_call, f1, hw, hmk, node_rows_api_Pair_call, g1, hab, hif, hri, n_bind, n_map, getL_0, getL_1, getL_2, getL_3, getL_4, getL_5, getL_6, getL_7, getL_8, getL_9, getL_10, getL_11, getL_12, condV_t, condV_f, guardV_tt, guardV_ff, guardV_tf, guardV_ft, guardV_u, apick_t, apick_f, exV_exit, exV_ret, lookE_same, joinK_eq, seqA_n, seqA_e, seqA_r, e_add, e_sub, e_mul, e_eql, e_neq, e_lss, e_leq, e_gtr, e_geq, e_conv, e_not, e_neg, and_guard, or_guard]
    · refine e6.bind ?_
      rw [if_pos rfl]
      exact f6.bind (g6.bind .pure)
  · have q1 : ((t : Int) == 1) = false := by simp; omega
    by_cases c2 : t = 2
    · subst c2
      obtain ⟨n, u1, c1, s1, y1, f1, f2, f3, f4, f5, f6⟩ := number_run (most := 480) (by decide) s0 y0 e2
      obtain ⟨rfl, hn⟩ := nat_val f5 f4
      have f1 : (run Try.prog (libL libT) hints) 46 [rp N, .int .u64 480] s0 = some (.int .u64 (n : Int), s1) := f1
      obtain ⟨ks, u2, c2, s2, y2, g1, g2, g3, g4, g5, g6⟩ := rows_kid (cnt := n) (by omega) s1 y1 f2
      have g1 : (run Try.prog (libL libT) hints) 48 [rp N, .int .i64 (n : Int), .func (.func 49) #[rp N] #[]] s1 = some (u2, s2) := g1
      obtain ⟨ps, u3, c3, s3, y3, h1, h2, h3, h4, h5, h6⟩ := rows_text (cnt := n - 1) (by omega) s2 y2 g2
      have h1 : (run Try.prog (libL libT) hints) 50 [rp N, .int .i64 ((n - 1 : Nat) : Int), .func (.func 51) #[rp N] #[]] s2 = some (u3, s3) := h1
      obtain ⟨bs, u4, c4, s4, y4, i1, i2, i3, i4, i5, i6⟩ := rows_buf (cnt := n) (by omega) s3 y3 h2
      have i1 : (run Try.prog (libL libT) hints) 52 [rp N, .int .i64 (n : Int), .func (.func 53) #[rp N] #[]] s3 = some (u4, s4) := i1
      have hw : IntKind.wrap .i64 (n : Int) = (n : Int) := wrap_i64 (by omega) (by omega)
      have hw2 : IntKind.wrap .i64 ((n : Int) - 1) = (n : Int) - 1 := wrap_i64 (by omega) (by omega)
      have hmx : (if (n : Int) - 1 > 0 then (n : Int) - 1 else 0) = ((n - 1 : Nat) : Int) := by split <;> omega
      have hm1 : amkFunc 49 [rp N] [] = some (.func (.func 49) #[rp N] #[]) := rfl
      have hm2 : amkFunc 51 [rp N] [] = some (.func (.func 51) #[rp N] #[]) := rfl
      have hm3 : amkFunc 53 [rp N] [] = some (.func (.func 53) #[rp N] #[]) := rfl
      have k2 : Keep (some N) s2 s4 := h3.trans i3
      have l1 := f3.1
      have l2 := g3.1
      have l3 := h3.1
      have l4 := i3.1
      have l0 := e3.1
      have o2 := own_ol (OCod.mono _ (own_keep g5 k2 (by omega) (Nat.le_refl _)) (Nat.le_trans l0 l1) (Nat.le_refl _)) g4
      have o3 := own_ol (own_keep h5 i3 (by omega) (Nat.le_refl _)) h4
      have o4 := own_ol i5 i4
      have hab := ab_inner o2.leaf (ol_cells o2).1 o3.leaf (ol_cells o3).1 o4.leaf (ol_cells o4).1
      have hif : ∀ t, aiface t (.agg #[u2, u3, u4]) = some (.iface t (.agg #[u2, u3, u4])) := fun t => by simp [aiface, ifaceOk, (ol_cells o2).2.2, (ol_cells o3).2.2, (ol_cells o4).2.2]
      have e22 : ((2 : Int) == 2) = true := rfl
      have e21 : ((2 : Int) == 1) = false := rfl
      refine ⟨_, ⟨false, [], ks, ps, bs⟩, s4, y4, node_reader_read_of rfl ?_, i2, e3.trans (f3.trans (g3.trans k2)), ?_, .inr (.inr ⟨u2, u3, u4, s2.heap.length, s3.heap.length, rfl, rfl, by omega, by omega, by omega, o2, o3, o4⟩)⟩
      · have e1 : (run Try.prog (libL libT) hints) 44 [rp N] s = some (.int .u8 2, s0) := e1
        unfold node_reader_read
        simp only [node_reader_byte_call, e1, e21, e22, node_reader_number_call, f1, hw, hw2, hm1, hm2, hm3, node_rows_int_call, g1, amax_e, hmx, node_rows_string_call, h1, node_rows_api_Entry_call, i1, hab, hif, hri, n_bind, n_map, getL_0, getL_1, getL_2, getL_3, getL_4, getL_5, getL_6, getL_7, getL_8, getL_9, getL_10, getL_11, getL_12, condV_t, condV_f, guardV_tt, guardV_ff, guardV_tf, guardV_ft, guardV_u, apick_t, apick_f, exV_exit, exV_ret, lookE_same, joinK_eq, seqA_n, seqA_e, seqA_r, e_add, e_sub, e_mul, e_eql, e_neq, e_lss, e_leq, e_gtr, e_geq, e_conv, e_not, e_neg, and_guard, or_guard]
      · refine e6.bind ?_
        rw [if_neg (by decide), if_pos rfl]
        exact f6.bind (g6.bind (h6.bind (i6.bind .pure)))
    · have q2 : ((t : Int) == 2) = false := by simp; omega
      have hp : (if t = 1 then (pNum 480).bind fun c => (pPair.rep c).bind fun l => .pure ⟨true, l, [], [], []⟩
          else if t = 2 then (pNum 480).bind fun c => (pKid.rep c).bind fun ks => ((pText 480).rep (c - 1)).bind fun ps => (pBuf.rep c).bind fun bs => .pure ⟨false, [], ks, ps, bs⟩
          else .fail 11 : Par Nd) = .fail 11 := by rw [if_neg c1, if_neg c2]
      obtain ⟨v0, hv0⟩ := id e2
      by_cases hy : y0.2 = 0
      · refine ⟨.nilIface, ⟨false, [], [], [], []⟩, setR N v0 11 s0, (y0.1, 11), node_reader_read_of rfl ?_, hv0.seterr 11, e3.trans setR_keep, ?_, .inl ⟨rfl, by simp⟩⟩
        · unfold node_reader_read
          simp only [node_reader_byte_call, e1, q1, q2, node_reader_fail_call, fail_run hv0 hy 11, hrn, n_bind, n_map, getL_0, getL_1, getL_2, getL_3, getL_4, getL_5, getL_6, getL_7, getL_8, getL_9, getL_10, getL_11, getL_12, condV_t, condV_f, guardV_tt, guardV_ff, guardV_tf, guardV_ft, guardV_u, apick_t, apick_f, exV_exit, exV_ret, lookE_same, joinK_eq, seqA_n, seqA_e, seqA_r, e_add, e_sub, e_mul, e_eql, e_neq, e_lss, e_leq, e_gtr, e_geq, e_conv, e_not, e_neg, and_guard, or_guard]
        · refine e6.bind ?_
          rw [hp]
          exact .fail (by decide) (by rw [if_pos hy])
      · refine ⟨.nilIface, ⟨false, [], [], [], []⟩, s0, y0, node_reader_read_of rfl ?_, e2, e3, ?_, .inl ⟨rfl, hy⟩⟩
        · unfold node_reader_read
          simp only [node_reader_byte_call, e1, q1, q2, node_reader_fail_call, fail_no hv0 hy 11, hrn, n_bind, n_map, getL_0, getL_1, getL_2, getL_3, getL_4, getL_5, getL_6, getL_7, getL_8, getL_9, getL_10, getL_11, getL_12, condV_t, condV_f, guardV_tt, guardV_ff, guardV_tf, guardV_ft, guardV_u, apick_t, apick_f, exV_exit, exV_ret, lookE_same, joinK_eq, seqA_n, seqA_e, seqA_r, e_add, e_sub, e_mul, e_eql, e_neq, e_lss, e_leq, e_gtr, e_geq, e_conv, e_not, e_neg, and_guard, or_guard]
        · refine e6.bind ?_
          rw [hp]
          exact .fail (by decide) (by rw [if_neg hy])

/-! ### Decode -/
abbrev zN : Value := .agg #[(.bool false), (.slice none 0 0), (.slice none 0 0), (.slice none 0 0), (.slice none 0 0)]
def decN (b : BL) : Except Int Nd := if 480 < b.length then .error 2 else match pNode b with
  | .error e => .error e
  | .ok (n, r) => if r ≠ [] then .error 11 else if eN n ≠ 0 then .error (eN n) else .ok n
def IsDec (b : BL) (lo hi : Nat) (s : St) (u : Value) (e : Int) : Prop :=
  (∃ n cs, decN b = .ok n ∧ e = 0 ∧ u = .agg cs.toArray ∧ oNode.own lo hi n s cs) ∨ (decN b = .error e ∧ e ≠ 0 ∧ u = zN)
theorem ret2N {a : Value} {n : Int} {s : St} (h : noTup a = true) : retV [a, .int .i64 n] s = some (.tuple #[a, .int .i64 n], s) := by
  have h2 : noTup (.int .i64 n) = true := rfl
  simp only [retV, List.all_cons, h, h2, List.all_nil, Bool.and_self, if_true]
  rfl
theorem zN_st {cs : List Value} (h : cs.length = 5) (hl : cs.all isLeaf = true) : lstore 5 lptr (.agg cs.toArray) zN = some (.agg cs.toArray) := arr_put (cs := [(.bool false), (.slice none 0 0), (.slice none 0 0), (.slice none 0 0), (.slice none 0 0)]) rfl h hl
theorem zN_ld {cs : List Value} (h : cs.length = 5) : lload true 5 lptr (.agg cs.toArray) = some (.agg cs.toArray) := arr_all h
theorem zN_z : lstore 5 lptr zN zN = some zN := rfl
theorem zN_l : lload true 5 lptr zN = some zN := rfl
theorem decN_err {b : BL} {n : Nd} {y : BL × Int} (hb : ¬ 480 < b.length) (h : Does pNode (b, 0) n y) (hy : y.2 ≠ 0) : decN b = .error y.2 := by
  unfold decN
  rw [if_neg hb, h.err_of rfl hy]
theorem decN_more {b : BL} {n : Nd} {y : BL × Int} (hb : ¬ 480 < b.length) (h : Does pNode (b, 0) n y) (hy : y.2 = 0) (hr : y.1 ≠ []) : decN b = .error 11 := by
  unfold decN
  rw [if_neg hb, h.ok_of rfl hy]
  simp only
  rw [if_pos hr]
theorem decN_chk {b : BL} {n : Nd} {y : BL × Int} (hb : ¬ 480 < b.length) (h : Does pNode (b, 0) n y) (hy : y.2 = 0) (hr : y.1 = []) : decN b = if eN n ≠ 0 then .error (eN n) else .ok n := by
  unfold decN
  rw [if_neg hb, h.ok_of rfl hy]
  simp only
  rw [if_neg (by simp [hr])]
theorem dec_end {b : BL} (hb : ¬ 480 < b.length) {N : Nat} {s1 : St} {y : BL × Int} {n : Nd} {nv : Value} (hy : Rd N s1 y) (hd : Does pNode (b, 0) n y) (hv : y.2 = 0 → ∃ cs, nv = .agg cs.toArray ∧ oNode.own (N + 1) s1.heap.length n s1 cs) :
    ∃ u e s', node_Decode.j2 (run Try.prog (libL libT) hints) [lptr, rp N, lptr, zN, nv] s1 = some (.tuple #[u, .int .i64 e], s') ∧ FrM N s1.heap.length s1 s' ∧ IsDec b (N + 1) s'.heap.length s' u e := by
  obtain ⟨v, h⟩ := id hy
  have hN := h.lt
  by_cases h0 : y.2 = 0
  · have z1 : (y.2 == 0) = true := by simp [h0]
    have z2 : (y.2 != 0) = false := by simp [h0]
    obtain ⟨cs, rfl, ho⟩ := hv h0
    have hlen : cs.length = 5 := oNode.C.len (oNode.rel ho)
    have hlf := oNode.leaf ho
    by_cases hr : y.1 = []
    · have d1 : decide (((y.1.length : Nat) : Int) > 0) = false := by rw [hr]; rfl
      obtain ⟨t, c1, c2⟩ := nCheck_run (n := n) (s0 := s1) (v := .agg cs.toArray) ⟨cs, rfl, oNode.rel ho⟩
      obtain ⟨v2, h2⟩ := hy.ext c2
      obtain ⟨v3, h3⟩ := h2.seterr (eN n)
      have ho2 : oNode.own (N + 1) t.heap.length n (setR N v2 (eN n) t) cs := oNode.mono (oNode.keep ho fun c g1 g2 => by unfold setR; rw [putB_ne (by omega)]; exact c2.2 c g2) (Nat.le_refl _) c2.1
      have fr : FrM N s1.heap.length s1 (setR N v2 (eN n) t) := (FrM.ext c2 (Nat.le_refl _)).trans (setR_keep.frM c2.1)
      by_cases he : eN n = 0
      · have e2 : (eN n != 0) = false := by simp [he]
        refine ⟨.agg cs.toArray, 0, setR N v2 (eN n) t, ?_, fr, .inl ⟨n, cs, by rw [decN_chk hb hd h0 hr, if_neg (by simp [he])], rfl, rfl, by unfold setR; rw [putB_len]; exact ho2⟩⟩
        unfold node_Decode.j2
        simp only [rp_nil, rp_f0, rp_f1, h.ld1, h.ld0, z1, z2, bytes_len h.byt, d1, node_Decode.j1, zN_ld hlen, node_Check_call, c1, h2.st1, node_Decode.j0, h3.ld1, e2, zN_st hlen hlf, ret2N (a := .agg cs.toArray) rfl, n_bind, n_map, getL_0, getL_1, getL_2, getL_3, getL_4, getL_5, getL_6, getL_7, getL_8, getL_9, getL_10, getL_11, getL_12, condV_t, condV_f, guardV_tt, guardV_ff, guardV_tf, guardV_ft, guardV_u, apick_t, apick_f, exV_exit, exV_ret, lookE_same, joinK_eq, seqA_n, seqA_e, seqA_r, e_add, e_sub, e_mul, e_eql, e_neq, e_lss, e_leq, e_gtr, e_geq, e_conv, e_not, e_neg, and_guard, or_guard]
      · have e2 : (eN n != 0) = true := by simp [he]
        refine ⟨zN, eN n, setR N v2 (eN n) t, ?_, fr, .inr ⟨by rw [decN_chk hb hd h0 hr, if_pos he], he, rfl⟩⟩
        unfold node_Decode.j2
        simp only [rp_nil, rp_f0, rp_f1, h.ld1, h.ld0, z1, z2, bytes_len h.byt, d1, node_Decode.j1, zN_ld hlen, node_Check_call, c1, h2.st1, node_Decode.j0, h3.ld1, e2, own_id, zN_z, zN_l, ret2N (a := zN) rfl, n_bind, n_map, getL_0, getL_1, getL_2, getL_3, getL_4, getL_5, getL_6, getL_7, getL_8, getL_9, getL_10, getL_11, getL_12, condV_t, condV_f, guardV_tt, guardV_ff, guardV_tf, guardV_ft, guardV_u, apick_t, apick_f, exV_exit, exV_ret, lookE_same, joinK_eq, seqA_n, seqA_e, seqA_r, e_add, e_sub, e_mul, e_eql, e_neq, e_lss, e_leq, e_gtr, e_geq, e_conv, e_not, e_neg, and_guard, or_guard]
    · have d1 : decide (((y.1.length : Nat) : Int) > 0) = true := by
        have : 0 < y.1.length := List.length_pos_iff.2 hr
        simp; omega
      obtain ⟨v3, h3⟩ := h.seterr 11
      have e1 : ((11 : Int) == 0) = false := rfl
      have e2 : ((11 : Int) != 0) = true := rfl
      refine ⟨zN, 11, setR N v 11 s1, ?_, setR_keep.frM (Nat.le_refl _), .inr ⟨decN_more hb hd h0 hr, by decide, rfl⟩⟩
      unfold node_Decode.j2
      simp only [rp_nil, rp_f0, rp_f1, h.ld1, h.ld0, z1, z2, bytes_len h.byt, d1, node_reader_fail_call, fail_run h h0 11, node_Decode.j1, h3.ld1, e1, node_Decode.j0, e2, own_id, zN_z, zN_l, ret2N (a := zN) rfl, n_bind, n_map, getL_0, getL_1, getL_2, getL_3, getL_4, getL_5, getL_6, getL_7, getL_8, getL_9, getL_10, getL_11, getL_12, condV_t, condV_f, guardV_tt, guardV_ff, guardV_tf, guardV_ft, guardV_u, apick_t, apick_f, exV_exit, exV_ret, lookE_same, joinK_eq, seqA_n, seqA_e, seqA_r, e_add, e_sub, e_mul, e_eql, e_neq, e_lss, e_leq, e_gtr, e_geq, e_conv, e_not, e_neg, and_guard, or_guard]
  · have z1 : (y.2 == 0) = false := by simp [h0]
    have z2 : (y.2 != 0) = true := by simp [h0]
    refine ⟨zN, y.2, s1, ?_, .refl _ _ _, .inr ⟨decN_err hb hd h0, h0, rfl⟩⟩
    unfold node_Decode.j2
    simp only [rp_nil, rp_f0, rp_f1, h.ld1, h.ld0, z1, z2, node_Decode.j1, node_Decode.j0, own_id, zN_z, zN_l, ret2N (a := zN) rfl, n_bind, n_map, getL_0, getL_1, getL_2, getL_3, getL_4, getL_5, getL_6, getL_7, getL_8, getL_9, getL_10, getL_11, getL_12, condV_t, condV_f, guardV_tt, guardV_ff, guardV_tf, guardV_ft, guardV_u, apick_t, apick_f, exV_exit, exV_ret, lookE_same, joinK_eq, seqA_n, seqA_e, seqA_r, e_add, e_sub, e_mul, e_eql, e_neq, e_lss, e_leq, e_gtr, e_geq, e_conv, e_not, e_neg, and_guard, or_guard]
theorem IsDec.mono {b : BL} {lo lo' hi : Nat} {s : St} {u : Value} {e : Int} (h : IsDec b lo hi s u e) (g : lo' ≤ lo) : IsDec b lo' hi s u e := by
  rcases h with ⟨n, cs, h1, h2, h3, h4⟩ | h
  · exact .inl ⟨n, cs, h1, h2, h3, oNode.mono h4 g (Nat.le_refl _)⟩
  · exact .inr h
theorem frM_ext {N : Nat} {s t : St} (h : FrM N (N + 1) s t) : Ext N s t := ⟨h.1, fun b hb => h.2 b (by omega) (by omega)⟩
theorem bytes_form {s : St} {v : Value} {l : BL} (h : bytesOf v s = some l) : ∃ a len cap, v = .slice a len cap := by
  unfold bytesOf at h
  simp only [Option.bind_eq_some_iff] at h
  obtain ⟨cs, h1, _⟩ := h
  obtain ⟨a, len, cap, rfl, _⟩ := cellsOf_len h1
  exact ⟨_, _, _, rfl⟩
theorem decode_run {s : St} {v : Value} {b : BL} (h : bytesOf v s = some b) (hl : b.length ≤ 140737488355328) : ∃ u e s', (run Try.prog (libL libT) hints) 8 [v] s = some (.tuple #[u, .int .i64 e], s') ∧ Ext s.heap.length s s' ∧ IsDec b s.heap.length s'.heap.length s' u e := by
  by_cases hb : 480 < b.length
  · have d1 : decide (((b.length : Nat) : Int) > 480) = true := by simp; omega
    refine ⟨zN, 2, s, node_Decode_of rfl ?_, .refl _ _, .inr ⟨by unfold decN; rw [if_pos hb], by decide, rfl⟩⟩
    unfold node_Decode
    simp only [bytes_len h, d1, ret2N (a := zN) rfl, n_bind, n_map, getL_0, getL_1, getL_2, getL_3, getL_4, getL_5, getL_6, getL_7, getL_8, getL_9, getL_10, getL_11, getL_12, condV_t, condV_f, guardV_tt, guardV_ff, guardV_tf, guardV_ft, guardV_u, apick_t, apick_f, exV_exit, exV_ret, lookE_same, joinK_eq, seqA_n, seqA_e, seqA_r, e_add, e_sub, e_mul, e_eql, e_neq, e_lss, e_leq, e_gtr, e_geq, e_conv, e_not, e_neg, and_guard, or_guard]
  · have d1 : decide (((b.length : Nat) : Int) > 480) = false := by simp; omega
    have hr := rd_new h hl
    obtain ⟨r, n, s1, y, f1, f2, f3, f4, f5⟩ := read_run hr
    obtain ⟨g1, g2, g3⟩ := blk_slice h
    have hnew : (abuild Try.prog 50 [(0, v)]).bind (fun v2 => (anew (cellsV v2) s)) = some (rp s.heap.length, s.push (.row 0 [v, .int .i64 0] .act)) := by
      have h1 : abuild Try.prog 50 [(0, v)] = ((afill (placeS [(0, 1), (1, 1)]) [.slice none 0 0, .int .i64 0] [(0, v)]).map fun cs => .agg cs.toArray) := by kernel_rfl
      rw [h1]
      obtain ⟨a, len, cap, rfl⟩ := bytes_form h
      rfl
    obtain ⟨v2, hb1, hb2⟩ := Option.bind_eq_some_iff.1 hnew
    have hlen0 : (s.push (.row 0 [v, .int .i64 0] .act)).heap.length = s.heap.length + 1 := push_len
    rw [hlen0] at f5
    have hx0 : Ext s.heap.length s (s.push (.row 0 [v, .int .i64 0] .act)) := .push _ (Nat.le_refl _) _
    have hx1 : Ext s.heap.length s s1 := hx0.trans (frM_ext (f3.frM (by rw [hlen0]; omega)))
    have fin : ∀ nv, (y.2 = 0 → ∃ cs, nv = .agg cs.toArray ∧ oNode.own (s.heap.length + 1) s1.heap.length n s1 cs) → ∃ u e s', node_Decode.j2 (run Try.prog (libL libT) hints) [lptr, rp s.heap.length, lptr, zN, nv] s1 = some (.tuple #[u, .int .i64 e], s') ∧ Ext s.heap.length s s' ∧ IsDec b s.heap.length s'.heap.length s' u e := fun nv hnv => by
      obtain ⟨u, e, s', k1, k2, k3⟩ := dec_end hb f2 f4 hnv
      exact ⟨u, e, s', k1, hx1.trans (frM_ext ⟨k2.1, fun c h1 h2 => k2.2 c (by have := f2.lt; omega) h2⟩), k3.mono (by omega)⟩
    rcases f5 with ⟨rfl, hy⟩ | ⟨p, rfl, hn, ho⟩ | ⟨k, q, c, m2, m3, rfl, hn, lm1, lm2, lm3, ho1, ho2, ho3⟩
    · obtain ⟨u, e, s', k1, k2, k3⟩ := fin zN fun h => absurd h hy
      refine ⟨u, e, s', node_Decode_of rfl ?_, k2, k3⟩
      rw [← k1]
      unfold node_Decode
      simp only [bytes_len h, d1, hb1, hb2, node_reader_read_call, f1, n_bind, n_map, getL_0, getL_1, getL_2, getL_3, getL_4, getL_5, getL_6, getL_7, getL_8, getL_9, getL_10, getL_11, getL_12, condV_t, condV_f, guardV_tt, guardV_ff, guardV_tf, guardV_ft, guardV_u, apick_t, apick_f, exV_exit, exV_ret, lookE_same, joinK_eq, seqA_n, seqA_e, seqA_r, e_add, e_sub, e_mul, e_eql, e_neq, e_lss, e_leq, e_gtr, e_geq, e_conv, e_not, e_neg, and_guard, or_guard]
      rfl
    · obtain ⟨u, e, s', k1, k2, k3⟩ := fin (.agg #[.bool true, p, .slice none 0 0, .slice none 0 0, .slice none 0 0]) fun _ => by
        refine ⟨_, rfl, ?_⟩
        have := oNode_mk (n := n) (by have := f3.1; omega) (Nat.le_refl _) (Nat.le_refl _) (Nat.le_refl _) ho (k := .slice none 0 0) (q := .slice none 0 0) (b := .slice none 0 0) (by rw [hn]; exact .nil) (by rw [hn]; exact .nil) (by rw [hn]; exact .nil)
        have hlf : n.leaf = true := by rw [hn]
        rwa [hlf] at this
      refine ⟨u, e, s', node_Decode_of rfl ?_, k2, k3⟩
      rw [← k1]
      have hc := ol_cells ho
      have t1 : atypeAssert (.agg #[(.slice none 0 0)]) 53 (.iface 53 (.agg #[p])) = some (.tuple #[.agg #[p], .bool true]) := rfl
      have t2 : aextract 1 (.tuple #[.agg #[p], .bool true]) = some (.bool true) := rfl
      have t3 : aextract 0 (.tuple #[.agg #[p], .bool true]) = some (.agg #[p]) := rfl
      have t4 : lstore 1 lptr (.agg #[p]) (.agg #[(.slice none 0 0)]) = some (.agg #[p]) := arr_put (cs := [.slice none 0 0]) (ds := [p]) rfl rfl (by simp [ho.leaf])
      have t5 : lload false 1 lptr (.agg #[p]) = some p := rfl
      have t6 : abuild Try.prog 29 [(0, .bool true), (1, p)] = some (.agg #[.bool true, p, .slice none 0 0, .slice none 0 0, .slice none 0 0]) := by
        have h1 : abuild Try.prog 29 [(0, .bool true), (1, p)] = ((afill (placeS [(0, 1), (1, 1), (2, 1), (3, 1), (4, 1)]) [.bool false, .slice none 0 0, .slice none 0 0, .slice none 0 0, .slice none 0 0] [(0, .bool true), (1, p)]).map fun cs => .agg cs.toArray) := by kernel_rfl
        rw [h1]
        simp [afill, placeS, ho.leaf, hc.1, putCells, show cellsV (.bool true) = [.bool true] from rfl, show isLeaf (.bool true) = true from rfl]
      have t7 : lstore 5 lptr (.agg #[.bool true, p, .slice none 0 0, .slice none 0 0, .slice none 0 0]) zN = some (.agg #[.bool true, p, .slice none 0 0, .slice none 0 0, .slice none 0 0]) := zN_st (cs := [.bool true, p, .slice none 0 0, .slice none 0 0, .slice none 0 0]) rfl (by simp only [List.all_cons, ho.leaf, List.all_nil]; rfl)
      unfold node_Decode
      simp only [bytes_len h, d1, hb1, hb2, node_reader_read_call, f1, t1, t2, t3, t4, t5, t6, t7, n_bind, n_map, getL_0, getL_1, getL_2, getL_3, getL_4, getL_5, getL_6, getL_7, getL_8, getL_9, getL_10, getL_11, getL_12, condV_t, condV_f, guardV_tt, guardV_ff, guardV_tf, guardV_ft, guardV_u, apick_t, apick_f, exV_exit, exV_ret, lookE_same, joinK_eq, seqA_n, seqA_e, seqA_r, e_add, e_sub, e_mul, e_eql, e_neq, e_lss, e_leq, e_gtr, e_geq, e_conv, e_not, e_neg, and_guard, or_guard]
    · obtain ⟨u, e, s', k1, k2, k3⟩ := fin (.agg #[.bool false, .slice none 0 0, k, q, c]) fun _ => by
        refine ⟨_, rfl, ?_⟩
        have := oNode_mk (n := n) (p := .slice none 0 0) (Nat.le_refl _) lm1 lm2 lm3 (by rw [hn]; exact .nil) ho1 ho2 ho3
        have hlf : n.leaf = false := by rw [hn]
        rwa [hlf] at this
      refine ⟨u, e, s', node_Decode_of rfl ?_, k2, k3⟩
      rw [← k1]
      have c1 := ol_cells ho1
      have c2 := ol_cells ho2
      have c3 := ol_cells ho3
      have t1 : atypeAssert (.agg #[(.slice none 0 0)]) 53 (.iface 55 (.agg #[k, q, c])) = some (.tuple #[.agg #[.slice none 0 0], .bool false]) := rfl
      have t2 : aextract 1 (.tuple #[.agg #[.slice none 0 0], .bool false]) = some (.bool false) := rfl
      have t3 : aextract 0 (.tuple #[.agg #[.slice none 0 0], .bool false]) = some (.agg #[.slice none 0 0]) := rfl
      have r1 : atypeAssert (.agg #[(.slice none 0 0), (.slice none 0 0), (.slice none 0 0)]) 55 (.iface 55 (.agg #[k, q, c])) = some (.tuple #[.agg #[k, q, c], .bool true]) := rfl
      have r2 : aextract 1 (.tuple #[.agg #[k, q, c], .bool true]) = some (.bool true) := rfl
      have r3 : aextract 0 (.tuple #[.agg #[k, q, c], .bool true]) = some (.agg #[k, q, c]) := rfl
      have t4 : lstore 3 lptr (.agg #[k, q, c]) (.agg #[(.slice none 0 0), (.slice none 0 0), (.slice none 0 0)]) = some (.agg #[k, q, c]) := arr_put (cs := [.slice none 0 0, .slice none 0 0, .slice none 0 0]) (ds := [k, q, c]) rfl rfl (by simp [ho1.leaf, ho2.leaf, ho3.leaf])
      have t5 : lload false 1 lptr (.agg #[k, q, c]) = some k := rfl
      have t51 : lload false 1 (.pointer (some ⟨0, 1, none⟩)) (.agg #[k, q, c]) = some q := rfl
      have t52 : lload false 1 (.pointer (some ⟨0, 2, none⟩)) (.agg #[k, q, c]) = some c := rfl
      have t6 : abuild Try.prog 29 [(2, k), (3, q), (4, c)] = some (.agg #[.bool false, .slice none 0 0, k, q, c]) := by
        have h1 : abuild Try.prog 29 [(2, k), (3, q), (4, c)] = ((afill (placeS [(0, 1), (1, 1), (2, 1), (3, 1), (4, 1)]) [.bool false, .slice none 0 0, .slice none 0 0, .slice none 0 0, .slice none 0 0] [(2, k), (3, q), (4, c)]).map fun cs => .agg cs.toArray) := by kernel_rfl
        rw [h1]
        simp [afill, placeS, ho1.leaf, c1.1, ho2.leaf, c2.1, ho3.leaf, c3.1, putCells]
      have t7 : lstore 5 lptr (.agg #[.bool false, .slice none 0 0, k, q, c]) zN = some (.agg #[.bool false, .slice none 0 0, k, q, c]) := zN_st (cs := [.bool false, .slice none 0 0, k, q, c]) rfl (by simp only [List.all_cons, ho1.leaf, ho2.leaf, ho3.leaf, List.all_nil]; rfl)
      unfold node_Decode
      simp only [bytes_len h, d1, hb1, hb2, node_reader_read_call, f1, t1, t2, t3, r1, r2, r3, t4, t5, t51, t52, t6, t7, n_bind, n_map, getL_0, getL_1, getL_2, getL_3, getL_4, getL_5, getL_6, getL_7, getL_8, getL_9, getL_10, getL_11, getL_12, condV_t, condV_f, guardV_tt, guardV_ff, guardV_tf, guardV_ft, guardV_u, apick_t, apick_f, exV_exit, exV_ret, lookE_same, joinK_eq, seqA_n, seqA_e, seqA_r, e_add, e_sub, e_mul, e_eql, e_neq, e_lss, e_leq, e_gtr, e_geq, e_conv, e_not, e_neg, and_guard, or_guard]

end Go.Proofs.Ytamaapapaiopiaa.Ab

/- A node's bytes: both functions; how many there are. -/
namespace Go.Proofs.Ytamaapapaiopiaa.Ab
open Go

/-! ### What a node that may be has -/
theorem eBF_allN : ∀ {l : List En} {p : Option Int}, eBF p l = 0 → ∀ e ∈ l, ckO e.2 = 0 ∧ wrt e.2.kind = true
  | [], _, _, e, he => by cases he
  | x :: l, p, h, e, he => by
    unfold eBF at h
    have hs : stE p x = 0 := by
      by_cases c : (stE p x == 0) = true
      · simpa using c
      · rw [if_neg c] at h; exact h
    have hx : ckO x.2 = 0 ∧ wrt x.2.kind = true := by
      unfold stE at hs
      by_cases c : (ckO x.2 == 0) = true
      · rw [if_pos c] at hs
        by_cases c2 : wrt x.2.kind = true
        · exact ⟨by simpa using c, c2⟩
        · rw [if_neg c2] at hs; cases hs
      · rw [if_neg c] at hs
        exact absurd (by simp [hs]) c
    rcases List.mem_cons.1 he with rfl | he
    · exact hx
    · have hz : (stE p x == 0) = true := by rw [hs]; rfl
      rw [if_pos hz] at h
      exact eBF_allN h e he
theorem firstE_all : ∀ {bs : List (List En)}, firstE bs = 0 → ∀ l ∈ bs, eB l = 0
  | [], _, l, hl => by cases hl
  | x :: bs, h, l, hl => by
    unfold firstE at h
    by_cases c : (eB x == 0) = true
    · rw [if_pos c] at h
      rcases List.mem_cons.1 hl with rfl | hl
      · simpa using c
      · exact firstE_all h l hl
    · rw [if_neg c] at h
      exact absurd (by simp [h]) c
theorem eN_inner {n : Nd} (h : eN n = 0) (hf : n.leaf = false) : (∀ k ∈ n.kids, 0 ≤ k ∧ k < 9223372036854775808) ∧ ∀ l ∈ n.bufs, ∀ e ∈ l, ckO e.2 = 0 ∧ wrt e.2.kind = true := by
  have hf2 : ¬ n.leaf = true := by rw [hf]; simp
  unfold eN at h
  rw [if_neg hf2] at h
  by_cases c : badN n = true
  · rw [if_pos c] at h; cases h
  · rw [if_neg c] at h
    simp only [badN, Bool.or_eq_true, decide_eq_true_eq, not_or] at c
    obtain ⟨⟨_, c2⟩, c3⟩ := c
    refine ⟨fun k hk => ?_, ?_⟩
    · unfold mnK mxK at *
      cases hkk : n.kids with
      | nil => rw [hkk] at hk; cases hk
      | cons x r =>
        rw [hkk] at c2 c3 hk
        simp only at c2 c3
        rw [mn_le] at c2
        rw [mx_le] at c3
        simp only [not_or, not_exists, not_and] at c2 c3
        rcases List.mem_cons.1 hk with rfl | hk
        · omega
        · have h1 := c2.2 k hk
          have h2 := c3.2 k hk
          omega
    · unfold eNi at h
      by_cases d : okP none n.pivots = true
      · rw [if_pos d] at h
        by_cases d2 : (firstE n.bufs == 0) = true
        · intro l hl
          exact eBF_allN (firstE_all (by simpa using d2) l hl)
        · rw [if_neg d2] at h
          exact absurd (by simp [h]) d2
      · rw [if_neg d] at h; cases h
theorem bufs_wf {bs : List (List En)} {s : St} {b : Value} (h : ListN (.list enN 88) 24 bs s b) : ∀ l ∈ bs, ∀ e ∈ l, (Lit.int .u64 e.1).wf = true := by
  intro l hl
  obtain ⟨i, hi, rfl⟩ := List.getElem_of_mem hl
  obtain ⟨p, c, _, _, h1⟩ := listN_at rfl h hi
  obtain ⟨v, e, h2⟩ := h1
  exact h2.plain.2.1
theorem okEn_of {e : En} (h1 : (Lit.int .u64 e.1).wf = true) (h2 : ckO e.2 = 0) (h3 : wrt e.2.kind = true) : okEn e := by
  have hk : e.2.kind = 2 ∨ e.2.kind = 3 ∨ e.2.kind = 5 := by
    simp only [wrt, Bool.or_eq_true, beq_iff_eq] at h3
    omega
  refine ⟨?_, hk, ?_⟩
  · simp [Lit.wf, IntKind.signed, IntKind.bits, IntKind.min, IntKind.max] at h1
    omega
  · unfold ckO at h2
    split at h2
    · cases h2
    · rename_i c
      simp only [Bool.or_eq_true, not_or, Bool.and_eq_true, not_and, bne_iff_ne, ne_eq] at c
      have := c.2
      by_cases hm : e.2.most = 0
      · exact hm
      · exact absurd hm (this (by omega))

theorem ad_l3 : afieldAddr 3 lptr = some (.pointer (some ⟨0, 3, none⟩)) := rfl
theorem ad_l4 : afieldAddr 4 lptr = some (.pointer (some ⟨0, 4, none⟩)) := rfl
theorem len_i {α : Type} {C : Cod α} {v : Value} {s : St} {l : List α} (h : listOf C v s = some l) (t : TypeId) (s2 : St) : alenV (.slice t) v s2 = some (.int .i64 ((l.length : Nat) : Int)) := list_len h
theorem ln_len {α : Type} {C : NCod α} {B : Nat} {l : List α} {s : St} {v : Value} (h : ListN C B l s v) (t : TypeId) (s2 : St) : alenV (.slice t) v s2 = some (.int .i64 ((l.length : Nat) : Int)) := by
  rcases h.2 with ⟨rfl, rfl⟩ | ⟨b, css, st, k, rfl, _⟩ <;> rfl
section
variable {n : Nd} {s : St} {v : Value} (h : NArg nodeC n s v) (he : eN n = 0) (hb : (wholeB n).length ≤ 140737488300000)
include h he hb
theorem whole_run : ∃ r, (run Try.prog (libL libT) hints) 36 [v] s = some r ∧ Own s.heap.length 1 r.2 r.1 (bv (wholeB n)) ∧ Ext s.heap.length s r.2 := by
  obtain ⟨p, k, q, b, rfl, hp, hk, hq, hbf⟩ := node_inv h
  have hlf : leafs p k q b := ⟨listN_leaf hp, listN_leaf hk, listN_leaf hq, listN_leaf hbf⟩
  have hv : (.agg #[.bool n.leaf, p, k, q, b] : Value) = ndV n.leaf p k q b := rfl
  rw [hv]
  have hbx := nd_box n.leaf p k q b hlf
  have l0 : lload false 1 lptr (ndV n.leaf p k q b) = some (.bool n.leaf) := rfl
  have l1 : lload false 1 (.pointer (some ⟨0, 1, none⟩)) (ndV n.leaf p k q b) = some p := rfl
  have l2 : lload false 1 (.pointer (some ⟨0, 2, none⟩)) (ndV n.leaf p k q b) = some k := rfl
  have l3 : lload false 1 (.pointer (some ⟨0, 3, none⟩)) (ndV n.leaf p k q b) = some q := rfl
  have l4 : lload false 1 (.pointer (some ⟨0, 4, none⟩)) (ndV n.leaf p k q b) = some b := rfl
  unfold wholeB at hb
  rcases Bool.eq_false_or_eq_true n.leaf with cf | cf
  · replace l0 : lload false 1 lptr (ndV n.leaf p k q b) = some (.bool true) := l0.trans (by rw [cf])
    rw [if_pos cf, List.length_append, List.length_append, List.length_singleton] at hb
    obtain ⟨p1, _, p2⟩ := hp.plain
    have hpl : n.pairs.length < 140737488355328 := by omega
    have e1 : abuildSl 1 [.int .u8 0] 1 [(0, .int .u8 1)] s = some (newBytes [1] s) := one_byte (z := undef) 1 (by omega) s
    have o1 : Own s.heap.length 1 (newBytes [1] s).2 (newBytes [1] s).1 (bv [1]) := newBytes_own (Nat.le_refl _) (by simp)
    have x1 : Ext s.heap.length s (newBytes [1] s).2 := newBytes_ext (Nat.le_refl _)
    have hw : IntKind.wrap .u64 ((n.pairs.length : Nat) : Int) = ((n.pairs.length : Nat) : Int) := uwrap rfl (Nat.lt_trans hpl (by decide))
    obtain ⟨r, g1, g2⟩ := num_app (n := n.pairs.length) o1 x1.1 (by omega) (by rw [List.length_singleton]; omega)
    have x2 := x1.trans (g2.ext o1 x1.1)
    obtain ⟨r2, f1, f2⟩ := pairs_loop p1 hpl n.pairs 0 r.2 r.1 _ rfl (Nat.zero_le _) g2.1 x2 (by rw [List.length_append, List.length_singleton]; omega)
    rw [show ((0 : Nat) : Int) = 0 from rfl] at f1
    refine ⟨r2, node_whole_of rfl ?_, ?_, x2.trans (f2.ext g2.1 x2.1)⟩
    · unfold node_whole
      simp only [hbx, l0, e1, l1, len_i p1, hw, node_num_call, g1, f1, ret_own f2.1, n_bind, n_map, getL_0, getL_1, getL_2, getL_3, getL_4, getL_5, getL_6, getL_7, getL_8, getL_9, getL_10, getL_11, getL_12, condV_t, condV_f, guardV_tt, guardV_ff, guardV_tf, guardV_ft, guardV_u, apick_t, apick_f, exV_exit, exV_ret, lookE_same, joinK_eq, seqA_n, seqA_e, seqA_r, e_add, e_sub, e_mul, e_eql, e_neq, e_lss, e_leq, e_gtr, e_geq, e_conv, e_not, e_neg, and_guard, or_guard]
    · unfold wholeB
      rw [if_pos cf]
      exact f2.1
  · replace l0 : lload false 1 lptr (ndV n.leaf p k q b) = some (.bool false) := l0.trans (by rw [cf])
    have hf2 : ¬ n.leaf = true := by rw [cf]; simp
    rw [if_neg hf2] at hb
    simp only [List.length_append, List.length_singleton] at hb
    obtain ⟨hk0, hen⟩ := eN_inner he cf
    have hwf := bufs_wf hbf
    obtain ⟨k1, _, k2⟩ := hk.plain
    obtain ⟨q1, _, q2⟩ := (ListN.plain (C := strC) (Pr := fun k => k.length ≤ reachBytes) hq)
    have hkl : n.kids.length < 140737488355328 := by omega
    have hql : n.pivots.length < 140737488355328 := by omega
    have e1 : abuildSl 1 [.int .u8 0] 1 [(0, .int .u8 2)] s = some (newBytes [2] s) := one_byte (z := undef) 2 (by omega) s
    have o1 : Own s.heap.length 1 (newBytes [2] s).2 (newBytes [2] s).1 (bv [2]) := newBytes_own (Nat.le_refl _) (by simp)
    have x1 : Ext s.heap.length s (newBytes [2] s).2 := newBytes_ext (Nat.le_refl _)
    have hw : IntKind.wrap .u64 ((n.kids.length : Nat) : Int) = ((n.kids.length : Nat) : Int) := uwrap rfl (Nat.lt_trans hkl (by decide))
    obtain ⟨r, g1, g2⟩ := num_app (n := n.kids.length) o1 x1.1 (by omega) (by rw [List.length_singleton]; omega)
    have x2 := x1.trans (g2.ext o1 x1.1)
    obtain ⟨r2, f1, f2⟩ := kids_loop (P := lptr) (V := ndV n.leaf p k q b) k1 hkl hk0 n.kids 0 r.2 r.1 _ rfl (Nat.zero_le _) g2.1 x2 (by rw [List.length_append, List.length_singleton]; omega)
    have x3 := x2.trans (f2.ext g2.1 x2.1)
    obtain ⟨r3, c1, c2⟩ := text_app f2.1 x3.1 (list_ext x3 q1) hql (list_ne q1 f2.1 x3.1) (by simp only [List.length_append, List.length_singleton]; omega)
    have x4 := x3.trans (c2.ext f2.1 x3.1)
    obtain ⟨r4, d1, d2⟩ := bufs_loop hbf (fun l hl e hee => okEn_of (hwf l hl e hee) (hen l hl e hee).1 (hen l hl e hee).2) n.bufs 0 r3.2 r3.1 _ rfl (Nat.zero_le _) c2.1 x4 (by simp only [List.length_append, List.length_singleton]; omega)
    rw [show ((0 : Nat) : Int) = 0 from rfl] at f1 d1
    refine ⟨r4, node_whole_of rfl ?_, ?_, x4.trans (d2.ext c2.1 x4.1)⟩
    · unfold node_whole
      simp only [hbx, l0, e1, l2, len_i k1, hw, node_num_call, g1, f1, ad_l3, l3, node_text_call, c1, ad_l4, l4, ln_len hbf, d1, ret_own d2.1, n_bind, n_map, getL_0, getL_1, getL_2, getL_3, getL_4, getL_5, getL_6, getL_7, getL_8, getL_9, getL_10, getL_11, getL_12, condV_t, condV_f, guardV_tt, guardV_ff, guardV_tf, guardV_ft, guardV_u, apick_t, apick_f, exV_exit, exV_ret, lookE_same, joinK_eq, seqA_n, seqA_e, seqA_r, e_add, e_sub, e_mul, e_eql, e_neq, e_lss, e_leq, e_gtr, e_geq, e_conv, e_not, e_neg, and_guard, or_guard]
    · unfold wholeB
      rw [if_neg hf2]
      exact d2.1
theorem rwhole_run : ∃ r, (run Try.prog (libL libT) hints) 37 [v] s = some r ∧ Own s.heap.length 1 r.2 r.1 (bv (wholeB n)) ∧ Ext s.heap.length s r.2 := by
  obtain ⟨p, k, q, b, rfl, hp, hk, hq, hbf⟩ := node_inv h
  have hlf : leafs p k q b := ⟨listN_leaf hp, listN_leaf hk, listN_leaf hq, listN_leaf hbf⟩
  have hv : (.agg #[.bool n.leaf, p, k, q, b] : Value) = ndV n.leaf p k q b := rfl
  rw [hv]
  have hbx := nd_box n.leaf p k q b hlf
  have l0 : lload false 1 lptr (ndV n.leaf p k q b) = some (.bool n.leaf) := rfl
  have l1 : lload false 1 (.pointer (some ⟨0, 1, none⟩)) (ndV n.leaf p k q b) = some p := rfl
  have l2 : lload false 1 (.pointer (some ⟨0, 2, none⟩)) (ndV n.leaf p k q b) = some k := rfl
  have l3 : lload false 1 (.pointer (some ⟨0, 3, none⟩)) (ndV n.leaf p k q b) = some q := rfl
  have l4 : lload false 1 (.pointer (some ⟨0, 4, none⟩)) (ndV n.leaf p k q b) = some b := rfl
  unfold wholeB at hb
  rcases Bool.eq_false_or_eq_true n.leaf with cf | cf
  · replace l0 : lload false 1 lptr (ndV n.leaf p k q b) = some (.bool true) := l0.trans (by rw [cf])
    rw [if_pos cf, List.length_append, List.length_append, List.length_singleton] at hb
    obtain ⟨p1, _, p2⟩ := hp.plain
    have hpl : n.pairs.length < 140737488355328 := by omega
    have e1 : abuildSl 1 [.int .u8 0] 1 [(0, .int .u8 1)] s = some (newBytes [1] s) := one_byte (z := undef) 1 (by omega) s
    have o1 : Own s.heap.length 1 (newBytes [1] s).2 (newBytes [1] s).1 (bv [1]) := newBytes_own (Nat.le_refl _) (by simp)
    have x1 : Ext s.heap.length s (newBytes [1] s).2 := newBytes_ext (Nat.le_refl _)
    obtain ⟨r, g1, g2⟩ := refnum_app (n := n.pairs.length) o1 x1.1 (by omega) (by rw [List.length_singleton]; omega)
    have x2 := x1.trans (g2.ext o1 x1.1)
    obtain ⟨r2, f1, f2⟩ := rpairs_loop p1 hpl n.pairs 0 r.2 r.1 _ rfl (Nat.zero_le _) g2.1 x2 (by rw [List.length_append, List.length_singleton]; omega)
    rw [show ((0 : Nat) : Int) = 0 from rfl] at f1
    refine ⟨r2, ref13_whole_of rfl ?_, ?_, x2.trans (f2.ext g2.1 x2.1)⟩
    · unfold ref13_whole
      simp only [hbx, l0, e1, l1, len_i p1, ref13_num_call, g1, f1, ret_own f2.1, n_bind, n_map, getL_0, getL_1, getL_2, getL_3, getL_4, getL_5, getL_6, getL_7, getL_8, getL_9, getL_10, getL_11, getL_12, condV_t, condV_f, guardV_tt, guardV_ff, guardV_tf, guardV_ft, guardV_u, apick_t, apick_f, exV_exit, exV_ret, lookE_same, joinK_eq, seqA_n, seqA_e, seqA_r, e_add, e_sub, e_mul, e_eql, e_neq, e_lss, e_leq, e_gtr, e_geq, e_conv, e_not, e_neg, and_guard, or_guard]
    · unfold wholeB
      rw [if_pos cf]
      exact f2.1
  · replace l0 : lload false 1 lptr (ndV n.leaf p k q b) = some (.bool false) := l0.trans (by rw [cf])
    have hf2 : ¬ n.leaf = true := by rw [cf]; simp
    rw [if_neg hf2] at hb
    simp only [List.length_append, List.length_singleton] at hb
    obtain ⟨hk0, hen⟩ := eN_inner he cf
    have hwf := bufs_wf hbf
    obtain ⟨k1, _, k2⟩ := hk.plain
    obtain ⟨q1, _, q2⟩ := (ListN.plain (C := strC) (Pr := fun k => k.length ≤ reachBytes) hq)
    have hkl : n.kids.length < 140737488355328 := by omega
    have hql : n.pivots.length < 140737488355328 := by omega
    have e1 : abuildSl 1 [.int .u8 0] 1 [(0, .int .u8 2)] s = some (newBytes [2] s) := one_byte (z := undef) 2 (by omega) s
    have o1 : Own s.heap.length 1 (newBytes [2] s).2 (newBytes [2] s).1 (bv [2]) := newBytes_own (Nat.le_refl _) (by simp)
    have x1 : Ext s.heap.length s (newBytes [2] s).2 := newBytes_ext (Nat.le_refl _)
    obtain ⟨r, g1, g2⟩ := refnum_app (n := n.kids.length) o1 x1.1 (by omega) (by rw [List.length_singleton]; omega)
    have x2 := x1.trans (g2.ext o1 x1.1)
    obtain ⟨r2, f1, f2⟩ := rkids_loop (P := lptr) (V := ndV n.leaf p k q b) k1 hkl hk0 n.kids 0 r.2 r.1 _ rfl (Nat.zero_le _) g2.1 x2 (by rw [List.length_append, List.length_singleton]; omega)
    have x3 := x2.trans (f2.ext g2.1 x2.1)
    obtain ⟨r3, c1, c2⟩ := rpivs_loop (P := lptr) (V := ndV n.leaf p k q b) q1 hql n.pivots 0 r2.2 r2.1 _ rfl (Nat.zero_le _) f2.1 x3 (by simp only [List.length_append, List.length_singleton]; omega)
    have x4 := x3.trans (c2.ext f2.1 x3.1)
    obtain ⟨r4, d1, d2⟩ := rbufs_loop hbf (fun l hl e hee => okEn_of (hwf l hl e hee) (hen l hl e hee).1 (hen l hl e hee).2) n.bufs 0 r3.2 r3.1 _ rfl (Nat.zero_le _) c2.1 x4 (by simp only [List.length_append, List.length_singleton]; omega)
    rw [show ((0 : Nat) : Int) = 0 from rfl] at f1 c1 d1
    refine ⟨r4, ref13_whole_of rfl ?_, ?_, x4.trans (d2.ext c2.1 x4.1)⟩
    · unfold ref13_whole
      simp only [hbx, l0, e1, l2, len_i k1, ref13_num_call, g1, f1, ad_l3, l3, len_i q1, c1, ad_l4, l4, ln_len hbf, d1, ret_own d2.1, n_bind, n_map, getL_0, getL_1, getL_2, getL_3, getL_4, getL_5, getL_6, getL_7, getL_8, getL_9, getL_10, getL_11, getL_12, condV_t, condV_f, guardV_tt, guardV_ff, guardV_tf, guardV_ft, guardV_u, apick_t, apick_f, exV_exit, exV_ret, lookE_same, joinK_eq, seqA_n, seqA_e, seqA_r, e_add, e_sub, e_mul, e_eql, e_neq, e_lss, e_leq, e_gtr, e_geq, e_conv, e_not, e_neg, and_guard, or_guard]
    · unfold wholeB
      rw [if_neg hf2]
      exact d2.1
end

end Go.Proofs.Ytamaapapaiopiaa.Ab

/- How many bytes a node has, and which: the program's answers and the document's. -/
namespace Go.Proofs.Ytamaapapaiopiaa.Ab
open Go

def sizeR (n : Nd) : Int × Int := if eN n = 0 then (((wholeB n).length : Nat), 0) else (0, eN n)
def encR (n : Nd) : BL × Int := if eN n = 0 then (if 480 < (wholeB n).length then ([], 2) else (wholeB n, 0)) else ([], eN n)
def childN (key : BL) (n : Nd) : Nat := if n.leaf = true then 0 else cntL key n.pivots
theorem Own.less {N M n : Nat} {s : St} {v : Value} {cs : List Value} (h : Own N n s v cs) (hM : M ≤ N) : Own M n s v cs := by
  rcases h with h | ⟨b, len, h1, h2, h3⟩
  · exact .inl h
  · exact .inr ⟨b, len, h1, Nat.le_trans hM h2, h3⟩
theorem Own.after {N n : Nat} {s t : St} {v : Value} {cs : List Value} (h : Own N n s v cs) (hx : Ext s.heap.length s t) : Own N n t v cs := by
  rcases h with h | ⟨b, len, h1, h2, h3, h4⟩
  · exact .inl h
  · exact .inr ⟨b, len, h1, h2, by rw [hx.2 b (List.getElem?_eq_some_iff.1 h3).1]; exact h3, h4⟩
theorem ret_2 {a : Value} {n : Int} {s : St} (h : noTup a = true) : retV [a, .int .i64 n] s = some (.tuple #[a, .int .i64 n], s) := ret2N h
theorem z_0 {a : Value} {n : Int} (h : noTup a = true) : aextract 0 (.tuple #[a, .int .i64 n]) = some a := by cases a <;> first | rfl | (cases h; done)
theorem z_1 {a : Value} {n : Int} : aextract 1 (.tuple #[a, .int .i64 n]) = some (.int .i64 n) := rfl
/-- the answer of Encode -/
def IsEnc (n : Nd) (s : St) (r : Value × St) : Prop := ∃ x, r.1 = .tuple #[x, .int .i64 (encR n).2] ∧ Own s.heap.length 1 r.2 x (bv (encR n).1) ∧ Ext s.heap.length s r.2
theorem nargB {n : Nd} {s : St} {v : Value} (h : NArg nodeC n s v) : lbox v = some v ∧ lload true 5 lptr v = some v := by
  obtain ⟨p, k, q, b, rfl, hp, hk, hq, hbf⟩ := node_inv h
  exact ⟨nd_box n.leaf p k q b ⟨listN_leaf hp, listN_leaf hk, listN_leaf hq, listN_leaf hbf⟩, rfl⟩
section
variable {n : Nd} {s : St} {v : Value} (h : NArg nodeC n s v) (hb : (wholeB n).length ≤ 140737488300000)
include h hb
theorem Size_run : ∃ t, (run Try.prog (libL libT) hints) 16 [v] s = some (.tuple #[.int .i64 (sizeR n).1, .int .i64 (sizeR n).2], t) ∧ Ext s.heap.length s t := by
  obtain ⟨t, c1, hx⟩ := nCheck_run h
  obtain ⟨l0, l1⟩ := nargB h
  by_cases he : eN n = 0
  · obtain ⟨r, g1, g2, g3⟩ := whole_run (h.ext hx) he hb
    rw [he] at c1
    have z0 : ((0 : Int) != 0) = false := rfl
    refine ⟨r.2, node_Size_of rfl ?_, hx.trans (g3.less hx.1)⟩
    unfold node_Size sizeR
    simp only [l0, l1, node_Check_call, c1, z0, node_whole_call, g1, bytes_len g2.bytes, if_pos he, ret_2 (a := .int .i64 _) rfl, n_bind, n_map, getL_0, getL_1, getL_2, getL_3, getL_4, getL_5, getL_6, getL_7, getL_8, getL_9, getL_10, getL_11, getL_12, condV_t, condV_f, guardV_tt, guardV_ff, guardV_tf, guardV_ft, guardV_u, apick_t, apick_f, exV_exit, exV_ret, lookE_same, joinK_eq, seqA_n, seqA_e, seqA_r, e_add, e_sub, e_mul, e_eql, e_neq, e_lss, e_leq, e_gtr, e_geq, e_conv, e_not, e_neg, and_guard, or_guard]
  · have n1 : (eN n != 0) = true := by simp [he]
    refine ⟨t, node_Size_of rfl ?_, hx⟩
    unfold node_Size sizeR
    simp only [l0, l1, node_Check_call, c1, n1, if_neg he, ret_2 (a := .int .i64 _) rfl, n_bind, n_map, getL_0, getL_1, getL_2, getL_3, getL_4, getL_5, getL_6, getL_7, getL_8, getL_9, getL_10, getL_11, getL_12, condV_t, condV_f, guardV_tt, guardV_ff, guardV_tf, guardV_ft, guardV_u, apick_t, apick_f, exV_exit, exV_ret, lookE_same, joinK_eq, seqA_n, seqA_e, seqA_r, e_add, e_sub, e_mul, e_eql, e_neq, e_lss, e_leq, e_gtr, e_geq, e_conv, e_not, e_neg, and_guard, or_guard]
theorem rSize_run : ∃ t, (run Try.prog (libL libT) hints) 17 [v] s = some (.tuple #[.int .i64 (sizeR n).1, .int .i64 (sizeR n).2], t) ∧ Ext s.heap.length s t := by
  have c1 := rCheck_run h
  obtain ⟨l0, l1⟩ := nargB h
  by_cases he : eN n = 0
  · obtain ⟨r, g1, g2, g3⟩ := rwhole_run h he hb
    rw [he] at c1
    have z0 : ((0 : Int) != 0) = false := rfl
    refine ⟨r.2, ref13_Size_of rfl ?_, g3⟩
    unfold ref13_Size sizeR
    simp only [l0, l1, ref13_Check_call, c1, z0, ref13_whole_call, g1, bytes_len g2.bytes, if_pos he, ret_2 (a := .int .i64 _) rfl, n_bind, n_map, getL_0, getL_1, getL_2, getL_3, getL_4, getL_5, getL_6, getL_7, getL_8, getL_9, getL_10, getL_11, getL_12, condV_t, condV_f, guardV_tt, guardV_ff, guardV_tf, guardV_ft, guardV_u, apick_t, apick_f, exV_exit, exV_ret, lookE_same, joinK_eq, seqA_n, seqA_e, seqA_r, e_add, e_sub, e_mul, e_eql, e_neq, e_lss, e_leq, e_gtr, e_geq, e_conv, e_not, e_neg, and_guard, or_guard]
  · have n1 : (eN n != 0) = true := by simp [he]
    refine ⟨s, ref13_Size_of rfl ?_, .refl _ _⟩
    unfold ref13_Size sizeR
    simp only [l0, l1, ref13_Check_call, c1, n1, if_neg he, ret_2 (a := .int .i64 _) rfl, n_bind, n_map, getL_0, getL_1, getL_2, getL_3, getL_4, getL_5, getL_6, getL_7, getL_8, getL_9, getL_10, getL_11, getL_12, condV_t, condV_f, guardV_tt, guardV_ff, guardV_tf, guardV_ft, guardV_u, apick_t, apick_f, exV_exit, exV_ret, lookE_same, joinK_eq, seqA_n, seqA_e, seqA_r, e_add, e_sub, e_mul, e_eql, e_neq, e_lss, e_leq, e_gtr, e_geq, e_conv, e_not, e_neg, and_guard, or_guard]
theorem Encode_run : ∃ r, (run Try.prog (libL libT) hints) 14 [v] s = some r ∧ IsEnc n s r := by
  obtain ⟨t, c1, hx⟩ := nCheck_run h
  obtain ⟨l0, l1⟩ := nargB h
  by_cases he : eN n = 0
  · obtain ⟨r, g1, g2, g3⟩ := whole_run (h.ext hx) he hb
    have hx2 := hx.trans (g3.less hx.1)
    rw [he] at c1
    have z0 : ((0 : Int) != 0) = false := rfl
    by_cases c : 480 < (wholeB n).length
    · have d1 : decide ((((wholeB n).length : Nat) : Int) > 480) = true := by simp; omega
      refine ⟨(.tuple #[.slice none 0 0, .int .i64 (encR n).2], r.2), node_Encode_of rfl ?_, _, rfl, by unfold encR; rw [if_pos he, if_pos c]; exact .nil _ _ _, hx2⟩
      unfold node_Encode encR
      simp only [l0, l1, node_Check_call, c1, z0, node_whole_call, g1, bytes_len g2.bytes, d1, if_pos he, if_pos c, ret_2 (a := .slice none 0 0) rfl, n_bind, n_map, getL_0, getL_1, getL_2, getL_3, getL_4, getL_5, getL_6, getL_7, getL_8, getL_9, getL_10, getL_11, getL_12, condV_t, condV_f, guardV_tt, guardV_ff, guardV_tf, guardV_ft, guardV_u, apick_t, apick_f, exV_exit, exV_ret, lookE_same, joinK_eq, seqA_n, seqA_e, seqA_r, e_add, e_sub, e_mul, e_eql, e_neq, e_lss, e_leq, e_gtr, e_geq, e_conv, e_not, e_neg, and_guard, or_guard]
    · have d1 : decide ((((wholeB n).length : Nat) : Int) > 480) = false := by simp; omega
      refine ⟨(.tuple #[r.1, .int .i64 (encR n).2], r.2), node_Encode_of rfl ?_, _, rfl, by unfold encR; rw [if_pos he, if_neg c]; exact g2.less hx.1, hx2⟩
      unfold node_Encode encR
      simp only [l0, l1, node_Check_call, c1, z0, node_whole_call, g1, bytes_len g2.bytes, d1, if_pos he, if_neg c, ret_2 g2.notup, n_bind, n_map, getL_0, getL_1, getL_2, getL_3, getL_4, getL_5, getL_6, getL_7, getL_8, getL_9, getL_10, getL_11, getL_12, condV_t, condV_f, guardV_tt, guardV_ff, guardV_tf, guardV_ft, guardV_u, apick_t, apick_f, exV_exit, exV_ret, lookE_same, joinK_eq, seqA_n, seqA_e, seqA_r, e_add, e_sub, e_mul, e_eql, e_neq, e_lss, e_leq, e_gtr, e_geq, e_conv, e_not, e_neg, and_guard, or_guard]
  · have n1 : (eN n != 0) = true := by simp [he]
    refine ⟨(.tuple #[.slice none 0 0, .int .i64 (encR n).2], t), node_Encode_of rfl ?_, _, rfl, by unfold encR; rw [if_neg he]; exact .nil _ _ _, hx⟩
    unfold node_Encode encR
    simp only [l0, l1, node_Check_call, c1, n1, if_neg he, ret_2 (a := .slice none 0 0) rfl, n_bind, n_map, getL_0, getL_1, getL_2, getL_3, getL_4, getL_5, getL_6, getL_7, getL_8, getL_9, getL_10, getL_11, getL_12, condV_t, condV_f, guardV_tt, guardV_ff, guardV_tf, guardV_ft, guardV_u, apick_t, apick_f, exV_exit, exV_ret, lookE_same, joinK_eq, seqA_n, seqA_e, seqA_r, e_add, e_sub, e_mul, e_eql, e_neq, e_lss, e_leq, e_gtr, e_geq, e_conv, e_not, e_neg, and_guard, or_guard]
theorem rEncode_run : ∃ r, (run Try.prog (libL libT) hints) 15 [v] s = some r ∧ IsEnc n s r := by
  obtain ⟨t, c1, hx⟩ := rSize_run h hb
  obtain ⟨l0, l1⟩ := nargB h
  have y0 : aextract 0 (.tuple #[.int .i64 (sizeR n).1, .int .i64 (sizeR n).2]) = some (.int .i64 (sizeR n).1) := rfl
  have y1 : aextract 1 (.tuple #[.int .i64 (sizeR n).1, .int .i64 (sizeR n).2]) = some (.int .i64 (sizeR n).2) := rfl
  by_cases he : eN n = 0
  · obtain ⟨r, g1, g2, g3⟩ := rwhole_run (h.ext hx) he hb
    have hx2 := hx.trans (g3.less hx.1)
    have s1 : (sizeR n).1 = (((wholeB n).length : Nat) : Int) := by unfold sizeR; rw [if_pos he]
    have s2 : (sizeR n).2 = 0 := by unfold sizeR; rw [if_pos he]
    rw [s1] at y0 y1 c1
    rw [s2] at y0 y1 c1
    have z0 : ((0 : Int) != 0) = false := rfl
    by_cases c : 480 < (wholeB n).length
    · have d1 : decide ((((wholeB n).length : Nat) : Int) > 480) = true := by simp; omega
      refine ⟨(.tuple #[.slice none 0 0, .int .i64 (encR n).2], t), ref13_Encode_of rfl ?_, _, rfl, by unfold encR; rw [if_pos he, if_pos c]; exact .nil _ _ _, hx⟩
      unfold ref13_Encode encR
      simp only [l0, l1, ref13_Size_call, c1, y0, y1, z0, d1, if_pos he, if_pos c, ret_2 (a := .slice none 0 0) rfl, n_bind, n_map, getL_0, getL_1, getL_2, getL_3, getL_4, getL_5, getL_6, getL_7, getL_8, getL_9, getL_10, getL_11, getL_12, condV_t, condV_f, guardV_tt, guardV_ff, guardV_tf, guardV_ft, guardV_u, apick_t, apick_f, exV_exit, exV_ret, lookE_same, joinK_eq, seqA_n, seqA_e, seqA_r, e_add, e_sub, e_mul, e_eql, e_neq, e_lss, e_leq, e_gtr, e_geq, e_conv, e_not, e_neg, and_guard, or_guard]
    · have d1 : decide ((((wholeB n).length : Nat) : Int) > 480) = false := by simp; omega
      refine ⟨(.tuple #[r.1, .int .i64 (encR n).2], r.2), ref13_Encode_of rfl ?_, _, rfl, by unfold encR; rw [if_pos he, if_neg c]; exact g2.less hx.1, hx2⟩
      unfold ref13_Encode encR
      simp only [l0, l1, ref13_Size_call, c1, y0, y1, z0, d1, ref13_whole_call, g1, if_pos he, if_neg c, ret_2 g2.notup, n_bind, n_map, getL_0, getL_1, getL_2, getL_3, getL_4, getL_5, getL_6, getL_7, getL_8, getL_9, getL_10, getL_11, getL_12, condV_t, condV_f, guardV_tt, guardV_ff, guardV_tf, guardV_ft, guardV_u, apick_t, apick_f, exV_exit, exV_ret, lookE_same, joinK_eq, seqA_n, seqA_e, seqA_r, e_add, e_sub, e_mul, e_eql, e_neq, e_lss, e_leq, e_gtr, e_geq, e_conv, e_not, e_neg, and_guard, or_guard]
  · have s2 : (sizeR n).2 = eN n := by unfold sizeR; rw [if_neg he]
    rw [s2] at y0 y1 c1
    have n1 : (eN n != 0) = true := by simp [he]
    refine ⟨(.tuple #[.slice none 0 0, .int .i64 (encR n).2], t), ref13_Encode_of rfl ?_, _, rfl, by unfold encR; rw [if_neg he]; exact .nil _ _ _, hx⟩
    unfold ref13_Encode encR
    simp only [l0, l1, ref13_Size_call, c1, y0, y1, n1, if_neg he, ret_2 (a := .slice none 0 0) rfl, n_bind, n_map, getL_0, getL_1, getL_2, getL_3, getL_4, getL_5, getL_6, getL_7, getL_8, getL_9, getL_10, getL_11, getL_12, condV_t, condV_f, guardV_tt, guardV_ff, guardV_tf, guardV_ft, guardV_u, apick_t, apick_f, exV_exit, exV_ret, lookE_same, joinK_eq, seqA_n, seqA_e, seqA_r, e_add, e_sub, e_mul, e_eql, e_neq, e_lss, e_leq, e_gtr, e_geq, e_conv, e_not, e_neg, and_guard, or_guard]
end
theorem sizes_law_run {n : Nd} {s : St} {v : Value} (h : NArg nodeC n s v) (hb : (wholeB n).length ≤ 140737488300000) : ∃ t, law13_NodeSizes (run Try.prog (libL libT) hints) v s = some (.bool true, t) := by
  obtain ⟨l0, l1⟩ := nargB h
  obtain ⟨t1, c1, x1⟩ := Size_run h hb
  obtain ⟨r, e1, x, e2, e3, e4⟩ := Encode_run (h.ext x1) hb
  have x2 := x1.trans (e4.less x1.1)
  obtain ⟨u, rt⟩ := r
  simp only at e2 e3 e4 x2
  subst e2
  obtain ⟨t3, k1, x3⟩ := nCheck_run (h.ext x2)
  obtain ⟨t4, k2, x4⟩ := nCheck_run ((h.ext x2).ext x3)
  have y0 : aextract 0 (.tuple #[.int .i64 (sizeR n).1, .int .i64 (sizeR n).2]) = some (.int .i64 (sizeR n).1) := rfl
  have y1 : aextract 1 (.tuple #[.int .i64 (sizeR n).1, .int .i64 (sizeR n).2]) = some (.int .i64 (sizeR n).2) := rfl
  have w0 := z_0 (n := (encR n).2) e3.notup
  have w1 := z_1 (a := x) (n := (encR n).2)
  have hlen : ∀ s2 t, alenV (.slice t) x s2 = some (.int .i64 (((encR n).1.length : Nat) : Int)) := fun s2 t => bytes_len e3.bytes
  have hr : ∀ s, retV [.bool true] s = some (.bool true, s) := fun s => ret1 rfl
  unfold law13_NodeSizes
  by_cases he : eN n = 0
  · have z0 : ((0 : Int) != 0) = false := rfl
    have z1 : ((0 : Int) == 0) = true := rfl
    have s1 : (sizeR n).1 = (((wholeB n).length : Nat) : Int) := by unfold sizeR; rw [if_pos he]
    have s2 : (sizeR n).2 = 0 := by unfold sizeR; rw [if_pos he]
    rw [he] at k1 k2
    rw [s1, s2] at y0 y1 c1
    by_cases c : 480 < (wholeB n).length
    · have d1 : decide ((((wholeB n).length : Nat) : Int) > 480) = true := by simp; omega
      have p1 : (encR n).2 = 2 := by unfold encR; rw [if_pos he, if_pos c]
      have p2 : ((((encR n).1.length : Nat) : Int) == 0) = true := by unfold encR; rw [if_pos he, if_pos c]; rfl
      have z2 : ((2 : Int) == 2) = true := rfl
      rw [p1] at w0 w1 e1
      exact ⟨t3, by simp only [l0, law13_live_call, k_live, l1, node_Size_call, c1, y0, y1, node_Encode_call, e1, w0, w1, node_Check_call, k1, z0, z1, d1, z2, hlen, p2, hr, n_bind, n_map, getL_0, getL_1, getL_2, getL_3, getL_4, getL_5, getL_6, getL_7, getL_8, getL_9, getL_10, getL_11, getL_12, condV_t, condV_f, guardV_tt, guardV_ff, guardV_tf, guardV_ft, guardV_u, apick_t, apick_f, exV_exit, exV_ret, lookE_same, joinK_eq, seqA_n, seqA_e, seqA_r, e_add, e_sub, e_mul, e_eql, e_neq, e_lss, e_leq, e_gtr, e_geq, e_conv, e_not, e_neg, and_guard, or_guard]⟩
    · have d1 : decide ((((wholeB n).length : Nat) : Int) > 480) = false := by simp; omega
      have p1 : (encR n).2 = 0 := by unfold encR; rw [if_pos he, if_neg c]
      have p2 : ((((encR n).1.length : Nat) : Int) == (((wholeB n).length : Nat) : Int)) = true := by unfold encR; rw [if_pos he, if_neg c]; simp
      rw [p1] at w0 w1 e1
      exact ⟨t3, by simp only [l0, law13_live_call, k_live, l1, node_Size_call, c1, y0, y1, node_Encode_call, e1, w0, w1, node_Check_call, k1, z0, z1, d1, hlen, p2, hr, n_bind, n_map, getL_0, getL_1, getL_2, getL_3, getL_4, getL_5, getL_6, getL_7, getL_8, getL_9, getL_10, getL_11, getL_12, condV_t, condV_f, guardV_tt, guardV_ff, guardV_tf, guardV_ft, guardV_u, apick_t, apick_f, exV_exit, exV_ret, lookE_same, joinK_eq, seqA_n, seqA_e, seqA_r, e_add, e_sub, e_mul, e_eql, e_neq, e_lss, e_leq, e_gtr, e_geq, e_conv, e_not, e_neg, and_guard, or_guard]⟩
  · have s1 : (sizeR n).1 = 0 := by unfold sizeR; rw [if_neg he]
    have s2 : (sizeR n).2 = eN n := by unfold sizeR; rw [if_neg he]
    have p1 : (encR n).2 = eN n := by unfold encR; rw [if_neg he]
    have p2 : ((((encR n).1.length : Nat) : Int) == 0) = true := by unfold encR; rw [if_neg he]; rfl
    have n1 : (eN n != 0) = true := by simp [he]
    have n2 : (eN n == eN n) = true := by simp
    have z1 : ((0 : Int) == 0) = true := rfl
    rw [s1, s2] at y0 y1 c1
    rw [p1] at w0 w1 e1
    exact ⟨t4, by simp only [l0, law13_live_call, k_live, l1, node_Size_call, c1, y0, y1, node_Encode_call, e1, w0, w1, node_Check_call, k1, k2, n1, n2, z1, hlen, p2, hr, n_bind, n_map, getL_0, getL_1, getL_2, getL_3, getL_4, getL_5, getL_6, getL_7, getL_8, getL_9, getL_10, getL_11, getL_12, condV_t, condV_f, guardV_tt, guardV_ff, guardV_tf, guardV_ft, guardV_u, apick_t, apick_f, exV_exit, exV_ret, lookE_same, joinK_eq, seqA_n, seqA_e, seqA_r, e_add, e_sub, e_mul, e_eql, e_neq, e_lss, e_leq, e_gtr, e_geq, e_conv, e_not, e_neg, and_guard, or_guard]⟩

/-! ### The kid -/
theorem rchild_loop {R : Caller} {q V : Value} {s : St} {f : Bool} (hf : lload false 1 lptr V = some (.bool f)) {ps : List BL} (h : listOf strC q s = some ps) (hl : ps.length < 140737488355328) (key : BL) : ∀ (rest : List BL) (i c : Nat), ps.drop i = rest → i ≤ ps.length → c ≤ i →
    loopL (ref13_Child.b0 R) [sv key, lptr, .int .i64 (c : Int), q, .int .i64 ((ps.length : Nat) : Int), .int .i64 (i : Int), V] s = some (.exit 0, [.int .i64 ((c + (if f = true then 0 else cntL key rest) : Nat) : Int)], s) := by
  have hz : afieldAddr 0 lptr = some lptr := rfl
  intro rest
  induction rest with
  | nil =>
    intro i c hi hle hc
    have h1 : decide ((i : Int) < ((ps.length : Nat) : Int)) = false := by
      have := List.drop_eq_nil_iff.1 hi
      simp; omega
    have e : (if f = true then 0 else cntL key []) = 0 := by cases f <;> rfl
    rw [loopL_eq, e]
    simp only [ref13_Child.b0, h1, Nat.add_zero, n_bind, n_map, getL_0, getL_1, getL_2, getL_3, getL_4, getL_5, getL_6, getL_7, getL_8, getL_9, getL_10, getL_11, getL_12, condV_t, condV_f, guardV_tt, guardV_ff, guardV_tf, guardV_ft, guardV_u, apick_t, apick_f, exV_exit, exV_ret, lookE_same, joinK_eq, seqA_n, seqA_e, seqA_r, e_add, e_sub, e_mul, e_eql, e_neq, e_lss, e_leq, e_gtr, e_geq, e_conv, e_not, e_neg, and_guard, or_guard]
  | cons x rest ih =>
    intro i c hi hle hc
    obtain ⟨hlt, he, hd⟩ := drop_get hi
    have h1 : decide ((i : Int) < ((ps.length : Nat) : Int)) = true := by simp; omega
    obtain ⟨a, h2, h3⟩ := str_at h hlt
    rw [he] at h3
    rw [loopL_eq]
    cases f with
    | true =>
      have := ih (i + 1) c hd (by omega) (by omega)
      simp only [ref13_Child.b0, h1, h2, h3, hz, hf, Bool.not_true, joinK_eq, ref13_Child.j0, inc_i64 (show i < 140737488355328 by omega), n_bind, n_map, getL_0, getL_1, getL_2, getL_3, getL_4, getL_5, getL_6, getL_7, getL_8, getL_9, getL_10, getL_11, getL_12, condV_t, condV_f, guardV_tt, guardV_ff, guardV_tf, guardV_ft, guardV_u, apick_t, apick_f, exV_exit, exV_ret, lookE_same, joinK_eq, seqA_n, seqA_e, seqA_r, e_add, e_sub, e_mul, e_eql, e_neq, e_lss, e_leq, e_gtr, e_geq, e_conv, e_not, e_neg, and_guard, or_guard]
      exact this
    | false =>
      rcases Bool.eq_false_or_eq_true (bl key x) with c1 | c1
      · have := ih (i + 1) c hd (by omega) (by omega)
        simp only [ref13_Child.b0, h1, h2, h3, hz, hf, n_leq, c1, Bool.not_true, Bool.not_false, joinK_eq, ref13_Child.j0, inc_i64 (show i < 140737488355328 by omega), cntL, if_true, Bool.false_eq_true, if_false, Nat.zero_add, n_bind, n_map, getL_0, getL_1, getL_2, getL_3, getL_4, getL_5, getL_6, getL_7, getL_8, getL_9, getL_10, getL_11, getL_12, condV_t, condV_f, guardV_tt, guardV_ff, guardV_tf, guardV_ft, guardV_u, apick_t, apick_f, exV_exit, exV_ret, lookE_same, joinK_eq, seqA_n, seqA_e, seqA_r, e_add, e_sub, e_mul, e_eql, e_neq, e_lss, e_leq, e_gtr, e_geq, e_conv, e_not, e_neg, and_guard, or_guard]
        simpa using this
      · have := ih (i + 1) (c + 1) hd (by omega) (by omega)
        simp only [ref13_Child.b0, h1, h2, h3, hz, hf, n_leq, c1, Bool.not_false, joinK_eq, ref13_Child.j0, inc_i64 (show i < 140737488355328 by omega), inc_i64 (show c < 140737488355328 by omega), cntL, Bool.false_eq_true, if_false, n_bind, n_map, getL_0, getL_1, getL_2, getL_3, getL_4, getL_5, getL_6, getL_7, getL_8, getL_9, getL_10, getL_11, getL_12, condV_t, condV_f, guardV_tt, guardV_ff, guardV_tf, guardV_ft, guardV_u, apick_t, apick_f, exV_exit, exV_ret, lookE_same, joinK_eq, seqA_n, seqA_e, seqA_r, e_add, e_sub, e_mul, e_eql, e_neq, e_lss, e_leq, e_gtr, e_geq, e_conv, e_not, e_neg, and_guard, or_guard]
        rw [show c + (1 + cntL key rest) = c + 1 + cntL key rest by omega]
        simpa using this
theorem child_both {n : Nd} {s : St} {v : Value} (h : NArg nodeC n s v) (key : BL) : (run Try.prog (libL libT) hints) 13 [v, sv key] s = some (.int .i64 ((childN key n : Nat) : Int), s) ∧ (run Try.prog (libL libT) hints) 19 [v, sv key] s = some (.int .i64 ((childN key n : Nat) : Int), s) := by
  obtain ⟨p, k, q, b, rfl, hp, hk, hq, hbf⟩ := node_inv h
  have hlf : leafs p k q b := ⟨listN_leaf hp, listN_leaf hk, listN_leaf hq, listN_leaf hbf⟩
  have hv : (.agg #[.bool n.leaf, p, k, q, b] : Value) = ndV n.leaf p k q b := rfl
  rw [hv]
  obtain ⟨q1, _, q2⟩ := (ListN.plain (C := strC) (Pr := fun k => k.length ≤ reachBytes) hq)
  have hql : n.pivots.length < 140737488355328 := by omega
  have hbx := nd_box n.leaf p k q b hlf
  have l0 : lload false 1 lptr (ndV n.leaf p k q b) = some (.bool n.leaf) := rfl
  have l3 : lload false 1 (.pointer (some ⟨0, 3, none⟩)) (ndV n.leaf p k q b) = some q := rfl
  constructor
  · rcases Bool.eq_false_or_eq_true n.leaf with cf | cf
    · refine node_Child_of rfl ?_
      replace l0 : lload false 1 lptr (ndV n.leaf p k q b) = some (.bool true) := l0.trans (by rw [cf])
      unfold node_Child childN
      simp only [hbx, l0, if_pos cf, n_bind, n_map, getL_0, getL_1, getL_2, getL_3, getL_4, getL_5, getL_6, getL_7, getL_8, getL_9, getL_10, getL_11, getL_12, condV_t, condV_f, guardV_tt, guardV_ff, guardV_tf, guardV_ft, guardV_u, apick_t, apick_f, exV_exit, exV_ret, lookE_same, joinK_eq, seqA_n, seqA_e, seqA_r, e_add, e_sub, e_mul, e_eql, e_neq, e_lss, e_leq, e_gtr, e_geq, e_conv, e_not, e_neg, and_guard, or_guard]
      exact ret1 rfl
    · have := node_Child_of (lib := libL libT) rfl (Child_run (R := (run Try.prog (libL libT) hints)) hlf q1 hql key)
      unfold childN
      rw [cf] at *
      exact this
  · have key0 := rchild_loop (R := (run Try.prog (libL libT) hints)) l0 q1 hql key n.pivots 0 0 rfl (Nat.zero_le _) (Nat.le_refl _)
    rw [show ((0 : Nat) : Int) = 0 from rfl, Nat.zero_add] at key0
    refine ref13_Child_of rfl ?_
    unfold ref13_Child childN
    simp only [hbx, l3, list_len q1, key0, n_bind, n_map, getL_0, getL_1, getL_2, getL_3, getL_4, getL_5, getL_6, getL_7, getL_8, getL_9, getL_10, getL_11, getL_12, condV_t, condV_f, guardV_tt, guardV_ff, guardV_tf, guardV_ft, guardV_u, apick_t, apick_f, exV_exit, exV_ret, lookE_same, joinK_eq, seqA_n, seqA_e, seqA_r, e_add, e_sub, e_mul, e_eql, e_neq, e_lss, e_leq, e_gtr, e_geq, e_conv, e_not, e_neg, and_guard, or_guard]
    exact ret1 rfl

end Go.Proofs.Ytamaapapaiopiaa.Ab

/- A law's arguments, and how great they are together: the bulk that the statement bounds. -/
namespace Go.Proofs.Ytamaapapaiopiaa.Ab
open Go Go.ChangeShapes Go.WideShapes

def sumL {α : Type} (m : α → Nat) : List α → Nat
  | [] => 0
  | a :: l => m a + sumL m l
def OpensAtM {α : Type} (W : World) (C : NCod α) (m : α → Nat) (k : Nat) (cs : List Value) : Prop := ∀ (ι : Emb) (H : List Blk), Sim W.heap.size ι H W → H.all roB = true →
  ∃ (a : α) (K : List Blk) (κ : Emb) (cs' : List Value), ι.le κ ∧ Sim W.heap.size κ (H ++ K) W ∧ (H ++ K).all roB = true ∧ All2 (L2 κ) cs' cs ∧ C.rel a ⟨H ++ K⟩ cs' ∧ m a ≤ k
def OpensM {α : Type} (P : Program) (C : NCod α) (m : α → Nat) (t : TypeId) : Prop := ∀ (Hn : Type) (enc : TypeId × Value → Hn) (W : World) (n : Nat) (cs : List Value) (y : DataW Hn × List MemPlace), DataW.trod enc P W 0 (fun _ => true) true n t cs = some y → (∀ k ∈ y.1.weights P t, k ≤ reachBytes) → OpensAtM W C m (Rows.uptoBulk y.1) cs

theorem all2_of {α β : Type} {R : α → β → Prop} : ∀ {l : List α} {k : List β}, l.length = k.length → (∀ (i : Nat) (h1 : i < l.length) (h2 : i < k.length), R l[i] k[i]) → All2 R l k
  | [], [], _, _ => trivial
  | [], _ :: _, h, _ => by simp at h
  | _ :: _, [], h, _ => by simp at h
  | a :: l, b :: k, h, g => ⟨g 0 (by simp) (by simp), all2_of (by simpa using h) fun i h1 h2 => g (i + 1) (by simpa using h1) (by simpa using h2)⟩
theorem opensM_leaf {α : Type} {W : World} {C : Cod α} {Pr : α → Prop} {m : α → Nat} {k : Nat} {cs : List Value} (h : ∃ a, cs = C.enc a ∧ Pr a ∧ m a ≤ k) : OpensAtM W (.ofC C Pr) m k cs := by
  obtain ⟨a, rfl, hp, hm⟩ := h
  intro ι H hs hro
  exact ⟨a, [], ι, C.enc a, .refl _, by rw [List.append_nil]; exact hs, by rw [List.append_nil]; exact hro, leafOks_rel (C.leaf a), ⟨rfl, hp⟩, hm⟩
theorem opensM_conv {α β : Type} {W : World} {A : NCod α} {B : NCod β} {m : α → Nat} {m2 : β → Nat} {k k2 : Nat} (g : α → β) {cs : List Value} (hc : ∀ a s cs, A.rel a s cs → B.rel (g a) s cs) (hm : ∀ a, m a ≤ k → m2 (g a) ≤ k2) (h : OpensAtM W A m k cs) : OpensAtM W B m2 k2 cs := by
  intro ι H hs hro
  obtain ⟨a, K, κ, cs', h1, h2, h3, h4, h5, h6⟩ := h ι H hs hro
  exact ⟨g a, K, κ, cs', h1, h2, h3, h4, hc _ _ _ h5, hm a h6⟩
theorem opensM_unit {W : World} : OpensAtM W .unit (fun _ => 0) 0 [] := by
  intro ι H hs hro
  exact ⟨(), [], ι, [], .refl _, by rw [List.append_nil]; exact hs, by rw [List.append_nil]; exact hro, trivial, rfl, Nat.le_refl _⟩
theorem opensM_pair {α β : Type} {W : World} {A : NCod α} {B : NCod β} {mA : α → Nat} {mB : β → Nat} {kA kB : Nat} {c d : List Value} (h : OpensAtM W A mA kA c) (g : OpensAtM W B mB kB d) : OpensAtM W (A.pair B) (fun p => mA p.1 + mB p.2) (kA + kB) (c ++ d) := by
  intro ι H hs hro
  obtain ⟨a, K, κ, c', h1, h2, h3, h4, h5, h6⟩ := h ι H hs hro
  obtain ⟨b, K2, κ2, d', g1, g2, g3, g4, g5, g6⟩ := g κ (H ++ K) h2 h3
  refine ⟨(a, b), K ++ K2, κ2, c' ++ d', h1.trans g1, by rw [← List.append_assoc]; exact g2, by rw [← List.append_assoc]; exact g3, (h4.mono fun _ _ h => h.mono g1).append g4, ⟨c', d', rfl, ?_, by rw [← List.append_assoc]; exact g5⟩, Nat.add_le_add h6 g6⟩
  rw [← List.append_assoc]
  exact A.ext h5 (ext_app _ _)
theorem opensM_many {α : Type} {W : World} {C : NCod α} {m : α → Nat} : ∀ (ls : List (List Value)) (ks : List Nat), All2 (fun c k => OpensAtM W C m k c) ls ks → ∀ (ι : Emb) (H : List Blk), Sim W.heap.size ι H W → H.all roB = true →
    ∃ (l : List α) (K : List Blk) (κ : Emb) (css : List (List Value)), ι.le κ ∧ Sim W.heap.size κ (H ++ K) W ∧ (H ++ K).all roB = true ∧ All2 (L2 κ) css.flatten ls.flatten ∧ All2 (fun a c => C.rel a ⟨H ++ K⟩ c) l css ∧ l.length = ls.length ∧ sumL m l ≤ ks.sum
  | [], ks, _, ι, H, hs, hro => ⟨[], [], ι, [], .refl _, by rw [List.append_nil]; exact hs, by rw [List.append_nil]; exact hro, trivial, trivial, rfl, Nat.zero_le _⟩
  | c :: ls, [], h, _, _, _, _ => h.elim
  | c :: ls, k :: ks, h, ι, H, hs, hro => by
    obtain ⟨a, K, κ, c', h1, h2, h3, h4, h5, h6⟩ := h.1 ι H hs hro
    obtain ⟨l, K2, κ2, css, g1, g2, g3, g4, g5, g6, g7⟩ := opensM_many ls ks h.2 κ (H ++ K) h2 h3
    refine ⟨a :: l, K ++ K2, κ2, c' :: css, h1.trans g1, by rw [← List.append_assoc]; exact g2, by rw [← List.append_assoc]; exact g3, ?_, ⟨?_, ?_⟩, by simp [g6], by simp only [sumL, List.sum_cons]; omega⟩
    · rw [List.flatten_cons, List.flatten_cons]
      exact (h4.mono fun _ _ h => h.mono g1).append g4
    · rw [← List.append_assoc]
      exact C.ext h5 (ext_app _ _)
    · rw [← List.append_assoc]
      exact g5
theorem opensM_list {α : Type} {P : Program} {C : NCod α} {m : α → Nat} {t e : TypeId} {B : Nat} (hu : P.underlying t = some (.slice e)) (hc : P.cellsOf e = C.n) (hpos : 0 < C.n) (hB : P.bytesOf e = B) (h : OpensM P C m e) : OpensM P (C.list B) (fun l => sumL m l + 1) t := by
  intro Hn enc W n cs y hy hw ι H hs hro
  rcases DataW.trod_slice hu hy with ⟨rfl, rfl⟩ | ⟨x, len, cap, elems, rest, fu, _, rfl, rfl, _, hle, hm, hlen, he, hsp, _⟩
  · exact ⟨[], [], ι, [.slice none 0 0], .refl _, by rw [List.append_nil]; exact hs, by rw [List.append_nil]; exact hro, ⟨.l1 (.l0 .snil), trivial⟩, ⟨_, rfl, by simp, .inl ⟨rfl, rfl⟩⟩, by simp [sumL, Rows.uptoBulk]⟩
  · obtain ⟨hr1, hr2⟩ := hsp rfl
    have hwt : (elems.length + rest.length) * B ≤ reachBytes := by
      have := hw ((elems.length + rest.length) * P.bytesOf e) (by simp [DataW.weights, hu])
      rwa [hB] at this
    have hwe : ∀ z ∈ elems, ∀ k ∈ z.1.weights P e, k ≤ reachBytes := fun z hz k hk => hw k (by
      simp only [DataW.weights, hu, List.mem_cons, List.mem_append]
      exact .inr (.inl (weights_all (List.mem_map_of_mem (f := (·.1)) hz) k hk)))
    have each : ∀ i, i < len → ∃ c k, elems[i]?.map (fun z => Rows.uptoBulk z.1) = some k ∧ W.cells? 0 (x.add (i * C.n)) C.n = some c ∧ OpensAtM W C m k c := fun i hi => by
      have h1 := he i hi
      rw [List.getElem?_eq_getElem (by omega), hc, Option.bind_eq_some_iff] at h1
      obtain ⟨c, h2, h3⟩ := h1
      exact ⟨c, _, by rw [List.getElem?_eq_getElem (by omega)]; rfl, h2, h Hn enc W fu c _ h3 (hwe _ (List.getElem_mem _))⟩
    obtain ⟨ls, hl1, hl2⟩ := choose_list (α := List Value) (p := fun i c => W.cells? 0 (x.add (i * C.n)) C.n = some c ∧ ∃ k, elems[i]?.map (fun z => Rows.uptoBulk z.1) = some k ∧ OpensAtM W C m k c) len fun i hi => by
      obtain ⟨c, k, h1, h2, h3⟩ := each i hi
      exact ⟨c, h2, k, h1, h3⟩
    obtain ⟨l, K, κ, css, k1, k2, k3, k4, k5, k6, k7⟩ := opensM_many ls (elems.map fun z => Rows.uptoBulk z.1) (all2_of (by rw [List.length_map, hl1]; exact hlen.symm) fun i h1 h2 => by
      obtain ⟨_, k, e1, e2⟩ := hl2 i h1
      rw [List.getElem?_eq_getElem (by rw [List.length_map] at h2; exact h2)] at e1
      cases e1
      rw [List.getElem_map]
      exact e2) ι H hs hro
    have hcell : ∀ i, i < cap → ∃ v, W.cell? (x.add i) = some v := fun i hi => by
      have hq : i / C.n < cap := Nat.lt_of_le_of_lt (Nat.div_le_self _ _) hi
      have hj : i % C.n < C.n := Nat.mod_lt _ hpos
      have hsplit : i = i / C.n * C.n + i % C.n := by
        have := Nat.div_add_mod i C.n
        rw [Nat.mul_comm] at this
        exact this.symm
      have key : ∃ c, W.cells? 0 (x.add (i / C.n * C.n)) C.n = some c := by
        by_cases c : i / C.n < len
        · exact ⟨_, (hl2 _ (by omega)).1⟩
        · have := hr2 (i / C.n - len) (by omega)
          rw [show len + (i / C.n - len) = i / C.n by omega, List.getElem?_eq_getElem (by omega), hc, Option.bind_eq_some_iff] at this
          obtain ⟨c, h2, _⟩ := this
          exact ⟨c, h2⟩
      obtain ⟨c, hcc⟩ := key
      obtain ⟨_, h5, h6⟩ := World.cells?_some hcc
      have h7 := h6 _ hj
      rw [add_add, ← hsplit] at h7
      rw [h7]
      exact ⟨_, List.getElem?_eq_getElem (by omega)⟩
    have hflat : ∀ (ls : List (List Value)) (o : Nat), (∀ (i : Nat) (hi : i < ls.length), W.cells? 0 (x.add ((o + i) * C.n)) C.n = some ls[i]) → ∀ i v, ls.flatten[i]? = some v → W.cell? (x.add (o * C.n + i)) = some v := by
      intro ls
      induction ls with
      | nil => intro o _ i v hv; simp at hv
      | cons c ls ih =>
        intro o ho i v hv
        obtain ⟨_, h5, h6⟩ := World.cells?_some (ho 0 (by simp))
        rw [List.flatten_cons] at hv
        by_cases c1 : i < c.length
        · rw [List.getElem?_append_left c1] at hv
          have := h6 i (by simp at h5; omega)
          rw [add_add, Nat.add_zero] at this
          rw [this]
          exact hv
        · rw [List.getElem?_append_right (by omega)] at hv
          have := ih (o + 1) (fun i hi => by
            have := ho (i + 1) (by simp; omega)
            rw [show o + 1 + i = o + (i + 1) by omega]
            simpa using this) _ v hv
          simp only [List.getElem_cons_zero] at h5
          rw [h5, Nat.add_mul, Nat.one_mul] at this
          rwa [show o * C.n + C.n + (i - C.n) = o * C.n + i by omega] at this
    have hfl := hflat ls 0 (fun i hi => by rw [Nat.zero_add]; exact (hl2 i hi).1)
    obtain ⟨κ2, r1, r2, r3, r4⟩ := sim_row k2 k3 (cells := css.flatten) (.inr ⟨x, rfl, hle, hcell, fun i v hv => by
      obtain ⟨v', g1, g2⟩ := k4.get i v hv
      refine ⟨v', ?_, g2⟩
      have := hfl i v' g1
      rwa [Nat.zero_mul, Nat.zero_add] at this⟩)
    have hll : l.length = len := by rw [k6, hl1]
    refine ⟨l, K ++ [.row 0 css.flatten .ro], κ2, [sliceArg (H ++ K).length (some x) len], k1.trans r1, by rw [← List.append_assoc]; exact r2, by rw [← List.append_assoc]; exact r3, ⟨?_, trivial⟩, ⟨_, rfl, ?_, .inr ⟨(H ++ K).length, css, .ro, 0, ?_, ?_, by simp, ?_⟩⟩, ?_⟩
    · cases r4 with
      | va r4 => cases r4 with
        | l2 r4 => exact r4
    · rw [hll]
      exact Nat.le_trans (Nat.mul_le_mul_right _ (by omega)) hwt
    · rw [hll]; rfl
    · rw [← List.append_assoc]
      simp
    · rw [← List.append_assoc]
      exact All2.mono (R := fun a c => C.rel a ⟨H ++ K⟩ c) (fun a c h => C.ext (s := ⟨H ++ K⟩) h (ext_app (H ++ K) _)) k5
    · show sumL m l + 1 ≤ Rows.uptoBulk (.slice (elems.map (·.1)) (rest.map (·.1)))
      have e : ∀ zs : List (DataW Hn × List MemPlace), Rows.uptoBulkAll (zs.map (·.1)) = (zs.map fun z => Rows.uptoBulk z.1).sum := fun zs => by
        induction zs with
        | nil => rfl
        | cons z zs ih => simp only [List.map_cons, Rows.uptoBulkAll, List.sum_cons, ih]
      have e1 := e elems
      rw [← e1] at k7
      simp only [Rows.uptoBulk]
      omega
/-- the parts of a struct: each at its place -/
def OpensFM {α : Type} (P : Program) (C : NCod α) (m : α → Nat) (fs : List Field) (off : Nat) : Prop := ∀ (Hn : Type) (enc : TypeId × Value → Hn) (W : World) (n : Nat) (cs : List Value) (xs : List (DataW Hn × List MemPlace)), cs.length = off + C.n → xs.length = fs.length →
  (∀ (i : Nat) (f : Field), fs[i]? = some f → DataW.trod enc P W 0 (fun _ => true) true n f.type ((cs.drop f.offset).take (P.cellsOf f.type)) = xs[i]?) → (∀ k ∈ DataW.weightsEach P (fs.map (·.type)) (xs.map (·.1)), k ≤ reachBytes) → OpensAtM W C m (Rows.uptoBulkAll (xs.map (·.1))) (cs.drop off)
theorem opensFM_nil {P : Program} {off : Nat} : OpensFM P .unit (fun _ => 0) [] off := by
  intro Hn enc W n cs xs hl hx _ _
  have : cs.drop off = [] := List.drop_eq_nil_of_le (by rw [hl]; exact Nat.le_refl _)
  rw [this, List.length_eq_zero_iff.1 hx]
  exact opensM_unit
theorem opensFM_cons {α β : Type} {P : Program} {A : NCod α} {B : NCod β} {mA : α → Nat} {mB : β → Nat} {f : Field} {fs : List Field} {off : Nat} (ho : f.offset = off) (hn : P.cellsOf f.type = A.n) (h : OpensM P A mA f.type) (g : OpensFM P B mB fs (off + A.n)) : OpensFM P (A.pair B) (fun p => mA p.1 + mB p.2) (f :: fs) off := by
  intro Hn enc W n cs xs hl hx hf hw
  cases xs with
  | nil => simp at hx
  | cons x xs =>
    have h0 := hf 0 f rfl
    rw [ho, hn] at h0
    have hA := h Hn enc W n _ x h0 fun k hk => hw k (by simp only [List.map_cons, DataW.weightsEach, List.mem_append]; exact .inl hk)
    have hl2 : (A.pair B).n = A.n + B.n := rfl
    have hB := g Hn enc W n cs xs (by rw [hl, hl2]; omega) (by simpa using hx) (fun i f' hi => by have := hf (i + 1) f' (by simpa using hi); simpa using this) fun k hk => hw k (by simp only [List.map_cons, DataW.weightsEach, List.mem_append]; exact .inr hk)
    have hsp : cs.drop off = (cs.drop off).take A.n ++ cs.drop (off + A.n) := by rw [← List.drop_drop, List.take_append_drop]
    rw [hsp]
    simp only [List.map_cons, Rows.uptoBulkAll]
    exact opensM_pair hA hB
theorem opensM_struct {α : Type} {P : Program} {C : NCod α} {m : α → Nat} {t : TypeId} {fs : Array Field} (hu : P.underlying t = some (.struct fs)) (hn : P.cellsOf t = C.n) (h : OpensFM P C m fs.toList 0) : OpensM P C (fun a => m a + 1) t := by
  intro Hn enc W n cs y hy hw
  obtain ⟨xs, fu, _, rfl, hl, hlen, hf⟩ := DataW.trod_struct hu hy
  have := h Hn enc W fu cs xs (by rw [hl, hn, Nat.zero_add]) (by simpa using hlen) (fun i f hi => hf i f (by simpa using hi)) fun k hk => hw k (by simp only [DataW.weights, hu]; exact hk)
  rw [List.drop_zero] at this
  exact opensM_conv id (fun a s cs h => h) (fun a h => by simp only [Rows.uptoBulk, id]; omega) this
theorem opensM_int {P : Program} {t : TypeId} {k : IntKind} (hu : P.underlying t = some (.int k)) : OpensM P (.ofC (intC k) fun i => (Lit.int k i).wf = true) (fun _ => 1) t := by
  intro Hn enc W n cs y hy hw
  obtain ⟨i, rfl, rfl, h⟩ := DataW.trod_int hu hy
  exact opensM_leaf ⟨i, rfl, h, by simp [Rows.uptoBulk]⟩
theorem opensM_bool {P : Program} {t : TypeId} (hu : P.underlying t = some .bool) : OpensM P (.ofC blnC fun _ => True) (fun _ => 1) t := by
  intro Hn enc W n cs y hy hw
  obtain ⟨i, rfl, rfl⟩ := DataW.trod_bool hu hy
  exact opensM_leaf ⟨i, rfl, trivial, by simp [Rows.uptoBulk]⟩
theorem opensM_string {P : Program} {t : TypeId} (hu : P.underlying t = some .string) : OpensM P (.ofC strgC fun k => k.length ≤ reachBytes) (fun k => k.length + 1) t := by
  intro Hn enc W n cs y hy hw
  obtain ⟨i, rfl, hyy, _⟩ := DataW.trod_string hu hy
  subst hyy
  refine opensM_leaf ⟨i.data.toList, ?_, hw _ (by simp [DataW.weights]), by simp [Rows.uptoBulk]⟩
  show _ = [sv _]
  rw [← sv_of]
theorem opensM_mono {α : Type} {P : Program} {C : NCod α} {m m2 : α → Nat} {t : TypeId} (h : OpensM P C m t) (hm : ∀ a, m2 a ≤ m a) : OpensM P C m2 t := fun Hn enc W n cs y hy hw =>
  opensM_conv id (fun a s cs h => h) (fun a h => Nat.le_trans (hm a) h) (h Hn enc W n cs y hy hw)
/-- told as another thing -/
theorem OpensM.conv {α β : Type} {P : Program} {A : NCod α} {B : NCod β} {m : α → Nat} {m2 : β → Nat} {t : TypeId} (g : α → β) (h : OpensM P A m t) (hc : ∀ a s cs, A.rel a s cs → B.rel (g a) s cs) (hm : ∀ a, m2 (g a) ≤ m a) : OpensM P B m2 t := fun Hn enc W n cs y hy hw =>
  opensM_conv g hc (fun a h => Nat.le_trans (hm a) h) (h Hn enc W n cs y hy hw)

theorem open_nestM {α : Type} {Hn : Type} {enc : TypeId × Value → Hn} {P : Program} {W : World} {C : NCod α} {m : α → Nat} {t : TypeId} (hO : OpensM P C m t) {v : Value} {d : DataW Hn} {ps : List MemPlace} (h : DataW.Trod enc P W 0 (fun _ => true) true t v d ps) (hw : ∀ k ∈ d.weights P t, k ≤ reachBytes) : OpensAtM W C m (Rows.uptoBulk d) v.cells.toList := by
  obtain ⟨fuel, hf⟩ := h
  exact hO Hn enc W fuel _ _ hf hw
theorem sim_nestM {α : Type} {W : World} {C : NCod α} {m : α → Nat} {k : Nat} {cs : Array Value} (hO : OpensAtM W C m k cs.toList) {ι : Emb} {H : List Blk} (h : Sim W.heap.size ι H W) (hro : H.all roB = true) :
    ∃ (a : α) (K : List Blk) (v : Value), (NArg C a ⟨H ++ K⟩ v ∧ m a ≤ k) ∧ ∃ κ, ι.le κ ∧ Sim W.heap.size κ (H ++ K) W ∧ (H ++ K).all roB = true ∧ VRel κ v (.agg cs) := by
  obtain ⟨a, K, κ, cs', h1, h2, h3, h4, h5, h6⟩ := hO ι H h hro
  exact ⟨a, K, _, ⟨⟨cs', rfl, h5⟩, h6⟩, κ, h1, h2, h3, .va (.agg (by simpa using h4))⟩
theorem sim_nestLM {α : Type} {W : World} {C : NCod α} {B : Nat} {m : List α → Nat} {k : Nat} {v0 : Value} (hO : OpensAtM W (C.list B) m k [v0]) {ι : Emb} {H : List Blk} (h : Sim W.heap.size ι H W) (hro : H.all roB = true) :
    ∃ (l : List α) (K : List Blk) (v : Value), (ListN C B l ⟨H ++ K⟩ v ∧ m l ≤ k) ∧ ∃ κ, ι.le κ ∧ Sim W.heap.size κ (H ++ K) W ∧ (H ++ K).all roB = true ∧ VRel κ v v0 := by
  obtain ⟨l, K, κ, cs', h1, h2, h3, h4, ⟨v, rfl, h5⟩, h6⟩ := hO ι H h hro
  exact ⟨l, K, v, ⟨h5, h6⟩, κ, h1, h2, h3, .va (.l2 h4.1)⟩
theorem bulk_bound {Hn : Type} {l : List (DataW Hn)} (hk : Rows.uptoSmall Hn l = true) : Rows.uptoBulkAll l ≤ 1048576 := of_decide_eq_true hk
theorem bulk_part {Hn : Type} {d : DataW Hn} {l : List (DataW Hn)} (h : d ∈ l) : Rows.uptoBulk d ≤ Rows.uptoBulkAll l := by
  induction l with
  | nil => cases h
  | cons x r ih =>
    simp only [Rows.uptoBulkAll]
    cases List.mem_cons.1 h with
    | inl e => subst e; omega
    | inr e => have := ih e; omega

end Go.Proofs.Ytamaapapaiopiaa.Ab

/- Which nodes may be, how many bytes, and which; that Size is how many bytes there are. -/
namespace Go.Proofs.Ytamaapapaiopiaa.Ab
open Go

theorem incs_loop {R : Caller} {N : Nat} {c a0 a1 a2 a4 a7 : Value} {L : Nat} (hL : L ≤ 140737488355328) : ∀ (d i : Nat) (m : List UInt8) (s : St), i + d = L → m.length = L → N ≤ s.heap.length → Own N 1 s c (bv m) →
    ∃ s', loopL (law13_NodeWrites.b1 R) [a0, a1, a2, c, a4, .int .i64 (L : Int), .int .i64 (i : Int), a7] s = some (.exit 2, [a0, a1, a2, a4, a7], s') ∧ Ext N s s' := by
  intro d
  induction d with
  | zero =>
    intro i m s hi hm hN ho
    refine ⟨s, ?_, .refl _ _⟩
    rw [loopL_eq]
    have h1 : decide ((i : Int) < (L : Int)) = false := by simp; omega
    simp only [law13_NodeWrites.b1, h1, n_bind, n_map, getL_0, getL_1, getL_2, getL_3, getL_4, getL_5, getL_6, getL_7, getL_8, getL_9, getL_10, getL_11, getL_12, condV_t, condV_f, guardV_tt, guardV_ff, guardV_tf, guardV_ft, guardV_u, apick_t, apick_f, exV_exit, exV_ret, lookE_same, joinK_eq, seqA_n, seqA_e, seqA_r, e_add, e_sub, e_mul, e_eql, e_neq, e_lss, e_leq, e_gtr, e_geq, e_conv, e_not, e_neg, and_guard, or_guard]
  | succ d IH =>
    intro i m s hi hm hN ho
    have hil : i < m.length := by omega
    have h1 : decide ((i : Int) < (L : Int)) = true := by simp; omega
    obtain ⟨p, s2, p1, p2, p3, o2, x2⟩ := own_store ho hil (m[i] + 1) (k := .i64)
    obtain ⟨s', q1, q2⟩ := IH (i + 1) _ s2 (by omega) (by simpa using hm) (Nat.le_trans hN x2.1) o2
    refine ⟨s', ?_, x2.trans q2⟩
    have hw : IntKind.wrap .u8 (((m[i].toNat : Nat) : Int) + 1) = (((m[i] + 1).toNat : Nat) : Int) := by
      rw [show ((m[i].toNat : Nat) : Int) + 1 = ((m[i].toNat + 1 : Nat) : Int) by omega, wrapu8, UInt8.toNat_add]
      rfl
    rw [loopL_eq]
    simp only [law13_NodeWrites.b1, h1, p1, p2, hw, p3, inc_i64 (show i < 140737488355328 by omega), n_bind, n_map, getL_0, getL_1, getL_2, getL_3, getL_4, getL_5, getL_6, getL_7, getL_8, getL_9, getL_10, getL_11, getL_12, condV_t, condV_f, guardV_tt, guardV_ff, guardV_tf, guardV_ft, guardV_u, apick_t, apick_f, exV_exit, exV_ret, lookE_same, joinK_eq, seqA_n, seqA_e, seqA_r, e_add, e_sub, e_mul, e_eql, e_neq, e_lss, e_leq, e_gtr, e_geq, e_conv, e_not, e_neg, and_guard, or_guard]
    exact q1
theorem own_fine {α : Type} {s : St} {v : α} {t : St} (h : s.heap.length ≤ t.heap.length) : ownR s (v, t) = some (v, t) := by
  unfold ownR
  rw [if_pos h]
theorem writes_loop {n : Nd} {v : Value} (key : BL) (hb : (wholeB n).length ≤ 140737488300000) : ∀ (m i : Nat) (s : St), i + m = 2 → NArg nodeC n s v →
    ∃ t, loopL (law13_NodeWrites.b0 (run Try.prog (libL libT) hints)) [sv key, lptr, .bool true, .int .i64 (i : Int), v] s = some (.exit 0, [.bool true], t) := by
  intro m
  induction m with
  | zero =>
    intro i s hi h
    have d1 : decide ((i : Int) < 2) = false := by simp; omega
    refine ⟨s, ?_⟩
    rw [loopL_eq]
    simp only [law13_NodeWrites.b0, d1, n_bind, n_map, getL_0, getL_1, getL_2, getL_3, getL_4, getL_5, getL_6, getL_7, getL_8, getL_9, getL_10, getL_11, getL_12, condV_t, condV_f, guardV_tt, guardV_ff, guardV_tf, guardV_ft, guardV_u, apick_t, apick_f, exV_exit, exV_ret, lookE_same, joinK_eq, seqA_n, seqA_e, seqA_r, e_add, e_sub, e_mul, e_eql, e_neq, e_lss, e_leq, e_gtr, e_geq, e_conv, e_not, e_neg, and_guard, or_guard]
  | succ m ih =>
    intro i s hi h
    have d1 : decide ((i : Int) < 2) = true := by simp; omega
    obtain ⟨_, l1⟩ := nargB h
    obtain ⟨⟨u, s1⟩, e1, x, e2, e3, x1⟩ := Encode_run h hb
    obtain ⟨⟨u', s2⟩, f1, x', f2, f3, x2⟩ := rEncode_run (h.ext x1) hb
    simp only at e2 e3 x1 f2 f3 x2
    subst e2 f2
    have X2 := x1.trans (x2.less x1.1)
    obtain ⟨s3, c1, x3⟩ := Size_run (h.ext X2) hb
    have X3 := X2.trans (x3.less X2.1)
    obtain ⟨s4, c2, x4⟩ := rSize_run (h.ext X3) hb
    have X4 := X3.trans (x4.less X3.1)
    have hn4 := h.ext X4
    obtain ⟨s5, k1, x5⟩ := nCheck_run hn4
    have X5 := X4.trans (x5.less X4.1)
    have k2 := rCheck_run (hn4.ext x5)
    obtain ⟨g1, g2⟩ := child_both (hn4.ext x5) key
    have y0 : aextract 0 (.tuple #[.int .i64 (sizeR n).1, .int .i64 (sizeR n).2]) = some (.int .i64 (sizeR n).1) := rfl
    have y1 : aextract 1 (.tuple #[.int .i64 (sizeR n).1, .int .i64 (sizeR n).2]) = some (.int .i64 (sizeR n).2) := rfl
    have w0 := z_0 (n := (encR n).2) e3.notup
    have w1 := z_1 (a := x) (n := (encR n).2)
    have v0 := z_0 (n := (encR n).2) f3.notup
    have v1 := z_1 (a := x') (n := (encR n).2)
    have e4 : Own s.heap.length 1 s4 x (bv (encR n).1) := e3.after (x2.trans ((x3.less x2.1).trans (x4.less (Nat.le_trans x2.1 x3.1))))
    have f4 : Own s1.heap.length 1 s4 x' (bv (encR n).1) := f3.after (x3.trans (x4.less x3.1))
    have t1 : abytesToStr x (frzS s4) = some (.string ⟨(encR n).1.toArray⟩) := bytes_str (by rw [bytesOf_frz]; exact e4.bytes)
    have t2 : abytesToStr x' (frzS s4) = some (.string ⟨(encR n).1.toArray⟩) := bytes_str (by rw [bytesOf_frz]; exact f4.bytes)
    have hq : abin Try.prog .neq 9 (.tmp 39) (.tmp 41) (.string ⟨(encR n).1.toArray⟩) (.string ⟨(encR n).1.toArray⟩) = some (.bool false) := by
      have := e_sneq (P := Try.prog) (t := 9) (ox := .tmp 39) (oy := .tmp 41) (a := (encR n).1) (b := (encR n).1)
      rw [show (!((encR n).1 == (encR n).1)) = false by simp] at this
      exact this
    have hz : ∀ z : Int, (z != z) = false := fun z => by simp
    have e5 := e4.after x5
    have hlen : ∀ s2 t, alenV (.slice t) x s2 = some (.int .i64 (((encR n).1.length : Nat) : Int)) := fun s2 t => bytes_len e3.bytes
    have hel : (encR n).1.length ≤ 140737488355328 := by
      unfold encR
      split
      · split
        · simp
        · simp only; omega
      · simp
    obtain ⟨s6, j1, x6⟩ := incs_loop (R := (run Try.prog (libL libT) hints)) (a0 := sv key) (a1 := lptr) (a2 := .bool true) (a4 := .int .i64 (i : Int)) (a7 := v) hel (encR n).1.length 0 (encR n).1 s5 (by omega) rfl X5.1 e5
    rw [show ((0 : Nat) : Int) = 0 from rfl] at j1
    have X6 := X5.trans x6
    obtain ⟨t, z⟩ := ih (i + 1) s6 (by omega) (h.ext X6)
    have ow1 := own_fine (v := (Value.int .i64 (eN n))) (s := s4) (t := s5) x5.1
    have ow2 := own_fine (v := (Value.int .i64 (eN n))) (s := s5) (t := s5) (Nat.le_refl _)
    have ow3 := own_fine (v := (Value.int .i64 ((childN key n : Nat) : Int))) (s := s5) (t := s5) (Nat.le_refl _)
    refine ⟨t, ?_⟩
    rw [loopL_eq]
    simp only [law13_NodeWrites.b0, d1, l1, node_Encode_call, e1, w0, w1, ref13_Encode_call, f1, v0, v1, node_Size_call, c1, y0, y1, ref13_Size_call, c2, t1, t2, hq, hz, node_Check_call, k1, ow1, ref13_Check_call, k2, ow2, node_Child_call, g1, ow3, ref13_Child_call, g2, hlen, j1, inc_i64 (show i < 140737488355328 by omega), n_bind, n_map, getL_0, getL_1, getL_2, getL_3, getL_4, getL_5, getL_6, getL_7, getL_8, getL_9, getL_10, getL_11, getL_12, condV_t, condV_f, guardV_tt, guardV_ff, guardV_tf, guardV_ft, guardV_u, apick_t, apick_f, exV_exit, exV_ret, lookE_same, joinK_eq, seqA_n, seqA_e, seqA_r, e_add, e_sub, e_mul, e_eql, e_neq, e_lss, e_leq, e_gtr, e_geq, e_conv, e_not, e_neg, and_guard, or_guard]
    exact z
theorem writes_law_run {n : Nd} {s : St} {v : Value} (h : NArg nodeC n s v) (key : BL) (hb : (wholeB n).length ≤ 140737488300000) : ∃ t, law13_NodeWrites (run Try.prog (libL libT) hints) v (sv key) s = some (.bool true, t) := by
  obtain ⟨l0, _⟩ := nargB h
  obtain ⟨t, g⟩ := writes_loop key hb 2 0 s rfl h
  have g' : loopL (law13_NodeWrites.b0 (run Try.prog (libL libT) hints)) [sv key, lptr, .bool true, .int .i64 0, v] s = some (.exit 0, [.bool true], t) := g
  have hr : ∀ s, retV [.bool true] s = some (.bool true, s) := fun s => ret1 rfl
  refine ⟨t, ?_⟩
  unfold law13_NodeWrites
  simp only [l0, law13_live_call, k_live, g', hr, n_bind, n_map, getL_0, getL_1, getL_2, getL_3, getL_4, getL_5, getL_6, getL_7, getL_8, getL_9, getL_10, getL_11, getL_12, condV_t, condV_f, guardV_tt, guardV_ff, guardV_tf, guardV_ft, guardV_u, apick_t, apick_f, exV_exit, exV_ret, lookE_same, joinK_eq, seqA_n, seqA_e, seqA_r, e_add, e_sub, e_mul, e_eql, e_neq, e_lss, e_leq, e_gtr, e_geq, e_conv, e_not, e_neg, and_guard, or_guard]

/-! ### How great a node is -/
def mE (e : En) : Nat := e.2.key.length + e.2.val.length + e.2.lo.length + e.2.hi.length + 1
def mP (p : Rg) : Nat := p.1.length + p.2.length + 1
def mNd (n : Nd) : Nat := sumL mP n.pairs + n.kids.length + sumL (fun k : List UInt8 => k.length + 1) n.pivots + sumL (fun l => sumL mE l + 1) n.bufs
theorem enc_le (n : Nat) : (enc n).length ≤ 10 := encF_len 10 n
theorem tB_le (k : BL) : (tB k).length ≤ 10 + k.length := by
  unfold tB
  rw [List.length_append]
  have := enc_le k.length
  omega
theorem flat_le {α : Type} {f : α → BL} {m : α → Nat} {c : Nat} (h : ∀ a, (f a).length ≤ c * m a) : ∀ l : List α, (l.flatMap f).length ≤ c * sumL m l
  | [] => by simp
  | a :: l => by
    have h1 := h a
    have h2 := flat_le h l
    rw [List.flatMap_cons, List.length_append]
    simp only [sumL, Nat.mul_add]
    omega
theorem sum_ones {α : Type} : ∀ l : List α, sumL (fun _ => 1) l = l.length
  | [] => rfl
  | a :: l => by simp only [sumL, sum_ones l, List.length_cons]; omega
theorem wE_le (e : En) : (wE e).length ≤ 31 * mE e := by
  unfold wE mE
  have h0 := enc_le e.1.toNat
  have h1 : (tBs (fldsE e.2)).length ≤ 20 + (e.2.key.length + e.2.val.length + e.2.lo.length + e.2.hi.length) := by
    have a1 := tB_le e.2.key
    have a2 := tB_le e.2.val
    have a3 := tB_le e.2.lo
    have a4 := tB_le e.2.hi
    unfold fldsE
    split
    · rw [tBs_two, List.length_append]; omega
    · split
      · rw [tBs_one]; omega
      · split
        · rw [tBs_two, List.length_append]; omega
        · simp [tBs]
  simp only [List.length_append, List.length_singleton]
  omega
theorem whole_le (n : Nd) : (wholeB n).length ≤ 11 + 31 * mNd n := by
  have h1 : (n.pairs.flatMap wP).length ≤ 31 * sumL mP n.pairs := flat_le (fun p => by
    have a1 := tB_le p.1
    have a2 := tB_le p.2
    unfold wP mP
    rw [tBs_two, List.length_append]
    omega) _
  have h2 : (n.kids.flatMap fun k => enc k.toNat).length ≤ 31 * sumL (fun _ => 1) n.kids := flat_le (fun k => by
    have := enc_le k.toNat
    omega) _
  rw [sum_ones] at h2
  have h3 : (tBs n.pivots).length ≤ 31 * sumL (fun k : List UInt8 => k.length + 1) n.pivots := flat_le (fun k => by
    have := tB_le k
    omega) _
  have h4 : (n.bufs.flatMap wBuf).length ≤ 31 * sumL (fun l => sumL mE l + 1) n.bufs := flat_le (fun l => by
    have a1 := enc_le l.length
    have a2 := flat_le wE_le l
    unfold wBuf
    rw [List.length_append]
    omega) _
  have h5 := enc_le n.pairs.length
  have h6 := enc_le n.kids.length
  unfold wholeB mNd
  split
  · simp only [List.length_append, List.length_singleton]; omega
  · simp only [List.length_append, List.length_singleton]; omega
theorem NodeSizes_law (s : St) (v : Value) (n : Nd) (h : NArg nodeC n s v) (hm : mNd n ≤ 1048576) : ∃ s', (run Try.prog (libL libT) hints) 6 [v] s = some (.bool true, s') := by
  have := whole_le n
  obtain ⟨t, h1⟩ := sizes_law_run h (by omega)
  exact ⟨t, law13_NodeSizes_of rfl h1⟩
theorem NodeWrites_law (s : St) (v : Value) (n : Nd) (h : NArg nodeC n s v) (hm : mNd n ≤ 1048576) (k : ByteArray) (wk : k.size ≤ 140737488351232) : ∃ s', (run Try.prog (libL libT) hints) 5 [v, .string k] s = some (.bool true, s') := by
  have := whole_le n
  rw [sv_of]
  obtain ⟨t, h1⟩ := writes_law_run h k.data.toList (by omega)
  exact ⟨t, law13_NodeWrites_of rfl h1⟩

/-! ### It is opened, and its bulk is as great as it -/
open Go.ChangeShapes Go.WideShapes
set_option maxRecDepth 100000
theorem opensM_pr : OpensM Try.prog (.ofC prC fun _ => True) mP 45 :=
  OpensM.conv (A := .pair (.ofC strgC fun k => k.length ≤ reachBytes) (.pair (.ofC strgC fun k => k.length ≤ reachBytes) .unit)) (fun p => (p.1, p.2.1))
    (opensM_struct Try.underlying45 (by kernel_rfl) (opensFM_cons rfl (by kernel_rfl) (opensM_string Try.underlying9) (opensFM_cons rfl (by kernel_rfl) (opensM_string Try.underlying9) opensFM_nil)))
    (fun a s cs h => by
      obtain ⟨c, d, rfl, ⟨rfl, _⟩, c2, d2, rfl, ⟨rfl, _⟩, rfl⟩ := h
      exact ⟨rfl, trivial⟩)
    (fun a => by simp only [mP]; omega)
theorem opensM_op : OpensM Try.prog (.ofC opC fun _ => True) (fun o => o.key.length + o.val.length + o.lo.length + o.hi.length) 64 :=
  OpensM.conv (A := .pair (.ofC (intC .i64) fun i => (Lit.int .i64 i).wf = true) (.pair (.ofC strgC fun k => k.length ≤ reachBytes) (.pair (.ofC strgC fun k => k.length ≤ reachBytes) (.pair (.ofC strgC fun k => k.length ≤ reachBytes) (.pair (.ofC strgC fun k => k.length ≤ reachBytes) (.pair (.ofC (intC .i64) fun i => (Lit.int .i64 i).wf = true) .unit)))))) (fun p => ⟨p.1, p.2.1, p.2.2.1, p.2.2.2.1, p.2.2.2.2.1, p.2.2.2.2.2.1⟩)
    (opensM_struct Try.underlying64 (by kernel_rfl) (opensFM_cons rfl (by kernel_rfl) (opensM_int Try.underlying3) (opensFM_cons rfl (by kernel_rfl) (opensM_string Try.underlying9) (opensFM_cons rfl (by kernel_rfl) (opensM_string Try.underlying9) (opensFM_cons rfl (by kernel_rfl) (opensM_string Try.underlying9) (opensFM_cons rfl (by kernel_rfl) (opensM_string Try.underlying9) (opensFM_cons rfl (by kernel_rfl) (opensM_int Try.underlying3) opensFM_nil)))))))
    (fun a s cs h => by
      obtain ⟨_, _, rfl, ⟨rfl, _⟩, _, _, rfl, ⟨rfl, _⟩, _, _, rfl, ⟨rfl, _⟩, _, _, rfl, ⟨rfl, _⟩, _, _, rfl, ⟨rfl, _⟩, _, _, rfl, ⟨rfl, _⟩, rfl⟩ := h
      exact ⟨rfl, trivial⟩)
    (fun a => by simp only; omega)
theorem opensM_en : OpensM Try.prog enN mE 66 :=
  OpensM.conv (A := .pair (.ofC (intC .u64) fun i => (Lit.int .u64 i).wf = true) (.pair (.ofC opC fun _ => True) .unit)) (fun p => (p.1, p.2.1))
    (opensM_struct Try.underlying66 (by kernel_rfl) (opensFM_cons rfl (by kernel_rfl) (opensM_int Try.underlying62) (opensFM_cons rfl (by kernel_rfl) opensM_op opensFM_nil)))
    (fun a s cs h => by
      obtain ⟨_, _, rfl, ⟨rfl, hw⟩, _, _, rfl, ⟨rfl, _⟩, rfl⟩ := h
      exact ⟨rfl, hw⟩)
    (fun a => by simp only [mE]; omega)
theorem opensM_node : OpensM Try.prog nodeC mNd 29 :=
  OpensM.conv (A := .pair (.ofC blnC fun _ => True) (.pair (.list (.ofC prC fun _ => True) 32) (.pair (.list (.ofC (intC .i64) fun i => (Lit.int .i64 i).wf = true) 8) (.pair (.list (.ofC strgC fun k => k.length ≤ reachBytes) 16) (.pair (.list (.list enN 88) 24) .unit))))) (fun p => ⟨p.1, p.2.1, p.2.2.1, p.2.2.2.1, p.2.2.2.2.1⟩)
    (opensM_struct Try.underlying29 (by kernel_rfl)
      (opensFM_cons rfl (by kernel_rfl) (opensM_bool Try.underlying4) (opensFM_cons rfl (by kernel_rfl) (opensM_list Try.underlying24 (by kernel_rfl) (by decide) (by kernel_rfl) opensM_pr) (opensFM_cons rfl (by kernel_rfl) (opensM_list Try.underlying25 (by kernel_rfl) (by decide) (by kernel_rfl) (opensM_int Try.underlying3)) (opensFM_cons rfl (by kernel_rfl) (opensM_list Try.underlying26 (by kernel_rfl) (by decide) (by kernel_rfl) (opensM_string Try.underlying9))
        (opensFM_cons rfl (by kernel_rfl) (opensM_list Try.underlying27 (by kernel_rfl) (by decide) (by kernel_rfl) (opensM_list Try.underlying47 (by kernel_rfl) (by decide) (by kernel_rfl) opensM_en)) opensFM_nil))))))
    (fun a s cs h => h)
    (fun a => by
      have := sum_ones a.2.2.1
      simp only [mNd]
      omega)

end Go.Proofs.Ytamaapapaiopiaa.Ab

/- A law's arguments in memory, as the abstract machine has them: bytes. -/
namespace Go.Proofs.Ytamaapapaiopiaa.Ab
open Go

theorem bytes_of_ints : ∀ {l : List Int}, (∀ n ∈ l, (Lit.int .u8 n).wf = true) → ∃ u : List UInt8, ints .u8 l = bv u ∧ u.length = l.length
  | [], _ => ⟨[], rfl, rfl⟩
  | n :: l, h => by
    obtain ⟨u, h1, h2⟩ := bytes_of_ints (l := l) fun m hm => h m (List.mem_cons_of_mem _ hm)
    have hw := h n (List.mem_cons_self ..)
    simp only [Lit.wf, Bool.and_eq_true, decide_eq_true_eq] at hw
    have hlo : (0 : Int) ≤ n := hw.1
    have hhi : n ≤ 255 := hw.2
    obtain ⟨m, rfl⟩ := Int.eq_ofNat_of_zero_le hlo
    refine ⟨UInt8.ofNat m :: u, ?_, by simp [h2]⟩
    have e : (UInt8.ofNat m).toNat = m := by
      rw [UInt8.toNat_ofNat']
      exact Nat.mod_eq_of_lt (by omega)
    have h1' : List.map (Value.int IntKind.u8) l = bv u := h1
    show Value.int IntKind.u8 (m : Int) :: List.map (Value.int IntKind.u8) l = Value.int .u8 (((UInt8.ofNat m).toNat : Nat) : Int) :: bv u
    rw [h1', e]

theorem arg_bytes {H : List Blk} {a : Option Addr} {len : Nat} {u : List UInt8} (hl : u.length = len) (hn : a = none → u = []) : bytesOf (sliceArg H.length a len) ⟨H ++ [Blk.row 0 (bv u) .ro]⟩ = some u := by
  cases a with
  | none => rw [hn rfl]; rfl
  | some x =>
    subst hl
    unfold bytesOf sliceArg
    simp only [cellsOf, Nat.le_refl, if_true, readN, Ab.readRow, List.getElem?_append_right (Nat.le_refl _), Nat.sub_self, List.getElem?_cons_zero, Option.bind_some, Nat.mul_one, Nat.zero_add, bv_length]
    rw [List.drop_zero, ← bv_length, List.take_length]
    exact ubs_bv u

theorem sim_bytes {W : World} {ι : Emb} {H : List Blk} (h : Sim W.heap.size ι H W) (hro : H.all roB = true) {a : Option Addr} {len cap : Nat} {zs : List Int} (hr : IsRow .u8 W a len cap zs) :
    ∃ (u : List UInt8) (B : Blk), u.length = len ∧ bytesOf (sliceArg H.length a len) ⟨H ++ [B]⟩ = some u ∧
    ∃ κ, ι.le κ ∧ Sim W.heap.size κ (H ++ [B]) W ∧ (H ++ [B]).all roB = true ∧ VRel κ (sliceArg H.length a len) (.slice a len cap) := by
  obtain ⟨l, h1, h2, h3, h4⟩ := sim_ints h hro hr
  obtain ⟨u, h5, h6⟩ := bytes_of_ints h2
  rw [h5] at h4
  refine ⟨u, _, h6.trans h1, arg_bytes (h6.trans h1) (fun e => ?_), h4⟩
  have := h3 e
  rw [this] at h6
  exact List.eq_nil_of_length_eq_zero h6

/-- the bytes of an argument, behind later ones -/
theorem bytes_more {H : List Blk} {B : Blk} {v : Value} {u : List UInt8} (h : bytesOf v ⟨H⟩ = some u) : bytesOf v ⟨H ++ [B]⟩ = some u :=
  Ext.bytes (s := ⟨H⟩) (s' := ⟨H ++ [B]⟩) ⟨by simp, fun b hb => by simp only; rw [List.getElem?_append_left hb]⟩ h

end Go.Proofs.Ytamaapapaiopiaa.Ab

/- A row's slice of whole numbers is no longer than its weight allows. (Began as the words that print.sh lays for rows over slices.) -/
namespace Go.Proofs.Ytamaapapaiopiaa.Ab
open Go Go.ChangeShapes Go.WideShapes
theorem sized_ints {H : Type} {enc : TypeId × Value → H} {P : Program} {W : World} {base : Nat} {spare : Nat → Bool} {held : Bool} {t e : TypeId} {k : IntKind} {a : Option Addr} {len cap : Nat} {d : DataW H} {ps : List MemPlace} {ts : List TypeId} {ds : List (DataW H)} {j : Nat}
    (hsz : (DataW.weightsEach P ts ds).all (· ≤ reachBytes) = true) (ht : ts[j]? = some t) (hd : ds[j]? = some d) (hu : P.underlying t = some (.slice e)) (he : P.underlying e = some (.int k)) (hc : P.cellsOf e = 1) {B : Nat} (hB : P.bytesOf e = B)
    (h : DataW.Trod enc P W base spare held t (.slice a len cap) d ps) : len * B ≤ 140737488351232 := by
  obtain ⟨fuel, hf⟩ := h
  rcases open_ints hu he hc hf with ⟨hcs, _⟩ | ⟨x, l, c, zs, hcs, _, hl, _, hz, hx, _, _⟩
  · simp [Value.cells] at hcs
    obtain ⟨rfl, rfl, rfl⟩ := hcs
    simp
  · simp [Value.cells] at hcs
    obtain ⟨rfl, rfl, rfl⟩ := hcs
    obtain ⟨hx, _⟩ := Prod.mk.inj hx
    subst hx
    have z := sized_slice hsz ht hd hu
    rw [hB] at z
    have hl2 : len ≤ zs.length := by
      rw [hz]
      split
      · exact hl
      · exact Nat.le_refl _
    have h1 : (lits (H := H) k (zs.take len)).length + (lits (H := H) k (zs.drop len)).length = zs.length := by
      simp [lits]
      omega
    rw [h1] at z
    exact Nat.le_trans (Nat.mul_le_mul_right _ hl2) z
end Go.Proofs.Ytamaapapaiopiaa.Ab
