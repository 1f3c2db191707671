/- Find: what it tells of a list of entries. -/
import Derived.Test.YthnjkakmkmoceaaBuLive
import Derived.Test.YthnjkakmkmoceaaBuEnt
import Derived.Test.YthnjkakmkmoceaaBArgL
set_option linter.unusedVariables false
set_option linter.unusedSimpArgs false
set_option linter.unusedSectionVars false
namespace Go.Proofs.Ythnjkakmkmoceaa.Ab
open Go Go.RowKit

theorem eqV_s (a : BL) : eqV (sv a) (sv a) = true := by simp [eqV, sv]
theorem eqV_i (k : IntKind) (n : Int) : eqV (.int k n) (.int k n) = true := by simp [eqV]
theorem eqVs_app : ∀ {a b c d : List Value}, eqVs a b = true → eqVs c d = true → eqVs (a ++ c) (b ++ d) = true
  | [], [], _, _, _, h => h
  | x :: a, y :: b, c, d, h, g => by
    simp only [eqVs, Bool.and_eq_true, List.cons_append] at h ⊢
    exact ⟨h.1, eqVs_app h.2 g⟩
  | [], _ :: _, _, _, h, _ => by cases h
  | _ :: _, [], _, _, h, _ => by cases h
theorem eqVs_en (e : En) : eqVs (enC.enc e) (enC.enc e) = true := by
  show eqVs [_, _, _, _, _, _, _] [_, _, _, _, _, _, _] = true
  simp only [eqVs, eqV_s, eqV_i, Bool.and_self]
theorem eqVs_ens : ∀ l : List En, eqVs (encL enC l) (encL enC l) = true
  | [] => rfl
  | e :: l => eqVs_app (eqVs_en e) (eqVs_ens l)
theorem eqV_sl {n : Nat} {v : Value} {s : St} {cs : List Value} (h : cellsOf n v s = some cs) : eqV v v = true := by
  unfold cellsOf at h
  split at h
  · rfl
  · simp [eqV]
  · cases h
theorem noMap_frz (s : St) : noMapB (frzS s).heap = true := by
  unfold noMapB
  rw [List.all_eq_true]
  intro x hx
  obtain ⟨b, hb⟩ := List.getElem?_of_mem hx
  rw [frzS_get] at hb
  cases hy : s.heap[b]? with
  | none => rw [hy] at hb; cases hb
  | some y =>
    rw [hy] at hb
    cases hb
    cases y with
    | map => rfl
    | row n c st => cases st <;> rfl

/-- the heap within -/
def fH (H : List Blk) (k : BL) (f : Say) (v : Value) (J : List Blk) : St := ⟨H ++ (.row 0 [sv k] .act :: .row 0 [sv f.1] .act :: .row 0 [.bool f.2.1] .act :: .row 0 [.bool f.2.2] .act :: .row 0 [v] .act :: J)⟩
section
variable {H : List Blk} {k : BL} {f : Say} {v : Value} {J : List Blk}
def pt (H : List Blk) (i : Nat) : Value := .pointer (some ⟨H.length + i, 0, none⟩)
theorem fH_get (i : Nat) : (fH H k f v J).heap[H.length + i]? = (Blk.row 0 [sv k] .act :: .row 0 [sv f.1] .act :: .row 0 [.bool f.2.1] .act :: .row 0 [.bool f.2.2] .act :: .row 0 [v] .act :: J)[i]? := by
  unfold fH
  rw [List.getElem?_append_right (by omega), Nat.add_sub_cancel_left]
theorem fH_ld {i : Nat} {c : Value} {n : Nat} {cells : List Value} (h : (Blk.row 0 [sv k] .act :: .row 0 [sv f.1] .act :: .row 0 [.bool f.2.1] .act :: .row 0 [.bool f.2.2] .act :: .row 0 [v] .act :: J)[i]? = some (.row n cells .act)) {off : Nat} (hc : cells[off]? = some c) : aload false 1 (.pointer (some ⟨H.length + i, off, none⟩)) (fH H k f v J) = some c := by
  simp [aload, readRow, fH_get, h, hc]
theorem fH_k : aload false 1 (pt H 0) (fH H k f v J) = some (sv k) := fH_ld (i := 0) rfl rfl
theorem fH_1 : aload false 1 (pt H 1) (fH H k f v J) = some (sv f.1) := fH_ld (i := 1) rfl rfl
theorem fH_2 : aload false 1 (pt H 2) (fH H k f v J) = some (.bool f.2.1) := fH_ld (i := 2) rfl rfl
theorem fH_3 : aload false 1 (pt H 3) (fH H k f v J) = some (.bool f.2.2) := fH_ld (i := 3) rfl rfl
theorem fH_box : readRow (fH H k f v J) (H.length + 4) = some [v] := by
  unfold readRow
  rw [fH_get]
  rfl
theorem fH_s1 (x : BL) : astore 1 (pt H 1) (sv x) (fH H k f v J) = some (fH H k (x, f.2) v J) := by
  have h := fH_get (H := H) (k := k) (f := f) (v := v) (J := J) 1
  simp only [astore, pt, cellsV, List.length_singleton, List.all_cons, List.all_nil, isLeaf, Bool.and_true, and_self, if_true, writeN, h, sv, List.getElem?_cons_succ, List.getElem?_cons_zero, Nat.zero_add, Nat.le_refl, putCells, St.putB, fH]
  simp [List.set_append_right]
theorem fH_s2 (x : Bool) : astore 1 (pt H 2) (.bool x) (fH H k f v J) = some (fH H k (f.1, x, f.2.2) v J) := by
  have h := fH_get (H := H) (k := k) (f := f) (v := v) (J := J) 2
  simp only [astore, pt, cellsV, List.length_singleton, List.all_cons, List.all_nil, isLeaf, Bool.and_true, and_self, if_true, writeN, h, sv, List.getElem?_cons_succ, List.getElem?_cons_zero, Nat.zero_add, Nat.le_refl, putCells, St.putB, fH]
  simp [List.set_append_right]
theorem fH_s3 (x : Bool) : astore 1 (pt H 3) (.bool x) (fH H k f v J) = some (fH H k (f.1, f.2.1, x) v J) := by
  have h := fH_get (H := H) (k := k) (f := f) (v := v) (J := J) 3
  simp only [astore, pt, cellsV, List.length_singleton, List.all_cons, List.all_nil, isLeaf, Bool.and_true, and_self, if_true, writeN, h, sv, List.getElem?_cons_succ, List.getElem?_cons_zero, Nat.zero_add, Nat.le_refl, putCells, St.putB, fH]
  simp [List.set_append_right]
theorem fH_new (cs : List Value) (h : cs.all isLeaf = true) : anew cs (fH H k f v J) = some (pt H (5 + J.length), fH H k f v (J ++ [.row 0 cs .act])) := by
  unfold anew pt fH St.push
  rw [if_pos h]
  simp [Nat.add_assoc, Nat.add_comm, Nat.add_left_comm]
theorem fH_last {c : Value} {cells : List Value} {off : Nat} (h : cells[off]? = some c) : aload false 1 (.pointer (some ⟨H.length + (5 + J.length), off, none⟩)) (fH H k f v (J ++ [.row 0 cells .act])) = some c := by
  refine fH_ld (n := 0) (cells := cells) ?_ h
  rw [show 5 + J.length = J.length + 1 + 1 + 1 + 1 + 1 by omega]
  simp
theorem fH_op (o : OpT) : aload true 6 (pt H (5 + J.length)) (fH H k f v (J ++ [.row 0 (oC o) .act])) = some (oV o) := by
  have h : readRow (fH H k f v (J ++ [.row 0 (oC o) .act])) (H.length + (5 + J.length)) = some (oC o) := by
    unfold readRow
    rw [fH_get, show 5 + J.length = J.length + 1 + 1 + 1 + 1 + 1 by omega]
    simp
  simp only [aload, pt, if_true, readN, h, Option.bind_some]
  rfl
theorem fH_put (o : OpT) {cs : List Value} (hc : cs.length = 6) : astore 6 (pt H (5 + J.length)) (oV o) (fH H k f v (J ++ [.row 0 cs .act])) = some (fH H k f v (J ++ [.row 0 (oC o) .act])) := by
  have h : (fH H k f v (J ++ [.row 0 cs .act])).heap[H.length + (5 + J.length)]? = some (.row 0 cs .act) := by
    rw [fH_get, show 5 + J.length = J.length + 1 + 1 + 1 + 1 + 1 by omega]
    simp
  have h6 : (cellsV (oV o)).length = 6 ∧ (cellsV (oV o)).all isLeaf = true := ⟨rfl, rfl⟩
  have hp : putCells cs 0 (cellsV (oV o)) = oC o := by
    unfold putCells
    rw [List.take_zero, List.nil_append, h6.1, Nat.zero_add, List.drop_eq_nil_of_le (by omega), List.append_nil]
    rfl
  simp only [astore, pt, if_pos h6, writeN, h]
  rw [if_pos (by rw [h6.1, hc]; exact Nat.le_refl _), hp]
  unfold St.putB fH
  have e5 : ∀ (a b c d e : Blk) (x : Blk), (a :: b :: c :: d :: e :: (J ++ [x])) = (a :: b :: c :: d :: e :: J) ++ [x] := fun _ _ _ _ _ _ => rfl
  rw [e5, e5, ← List.append_assoc, ← List.append_assoc]
  have e6 : H.length + (5 + J.length) = (H ++ (Blk.row 0 [sv k] .act :: .row 0 [sv f.1] .act :: .row 0 [.bool f.2.1] .act :: .row 0 [.bool f.2.2] .act :: .row 0 [v] .act :: J)).length := by simp; omega
  rw [e6, List.set_append_right _ _ (Nat.le_refl _), Nat.sub_self]
  rfl
end

theorem noMap_app {a b : List Blk} (h : noMapB a = true) (g : noMapB b = true) : noMapB (a ++ b) = true := by
  unfold noMapB at *
  rw [List.all_append, h, g]
  rfl
theorem noMap_fH {H : List Blk} {k : BL} {f : Say} {v : Value} {J : List Blk} (h : noMapB H = true) (g : noMapB J = true) : noMapB (fH H k f v J).heap = true := noMap_app h (noMap_app (a := [_, _, _, _, _]) rfl g)
theorem ela_en {l : List En} {j : Nat} (hj : j < l.length) : ela (evOf (encL enC l)) j = oV l[j].2 := by
  have key : ∀ i, i < 6 → evOf (encL enC l) j i = (enC.enc l[j])[1 + i]?.getD undef := fun i hi => by
    unfold evOf
    have h7 : enC.n = 7 := rfl
    rw [List.getD_eq_getElem?_getD, ← enc_at (C := enC) hj (j := 1 + i) (by rw [h7]; omega), h7, Nat.add_assoc]
  unfold ela
  rw [key 0 (by omega), key 1 (by omega), key 2 (by omega), key 3 (by omega), key 4 (by omega), key 5 (by omega)]
  rfl

section
variable {R : Caller} (hT : ∀ o k s, R 25 [oV o, sv k] s = some (.bool (tch o k), s))
include hT
theorem one_run {H : List Blk} (hH : noMapB H = true) {k : BL} {f : Say} {v c : Value} {J : List Blk} (hJ : noMapB J = true) {l : List En} {q : Nat} (hj : l.length - 1 - q < l.length) :
    oneF R [pt H 0, pt H 1, pt H 2, pt H 3, c] (encL enC l) l.length q (fH H k f v J) = if tch (l[l.length - 1 - q]).2 k = true then some (.ret, fH H k (sayO (l[l.length - 1 - q]).2) v (J ++ [.row 0 (oC (l[l.length - 1 - q]).2) .act])) else some (.normal, fH H k f v (J ++ [.row 0 (oC (l[l.length - 1 - q]).2) .act])) := by
  unfold oneF
  rw [ela_en hj]
  generalize (l[l.length - 1 - q]).2 = o
  have hz : (List.all [Value.int .i64 0, .string ⟨#[]⟩, .string ⟨#[]⟩, .string ⟨#[]⟩, .string ⟨#[]⟩, .int .i64 0] isLeaf) = true := rfl
  have hpc : pc (buffer_Find.as R) [getL [pt H 0, pt H 1, pt H 2, pt H 3, c] 0, getL [pt H 0, pt H 1, pt H 2, pt H 3, c] 1, getL [pt H 0, pt H 1, pt H 2, pt H 3, c] 2, getL [pt H 0, pt H 1, pt H 2, pt H 3, c] 3, oV o] (fH H k f v J) = some ([pt H 0, pt H 1, pt H 2, pt H 3, pt H (5 + J.length)], fH H k f v (J ++ [.row 0 (oC o) .act])) := by
    have hput := fH_put (H := H) (k := k) (f := f) (v := v) (J := J) o (cs := [Value.int .i64 0, .string ⟨#[]⟩, .string ⟨#[]⟩, .string ⟨#[]⟩, .string ⟨#[]⟩, .int .i64 0]) rfl
    unfold pc buffer_Find.as
    simp only [getL_0, getL_1, getL_2, getL_3, getL_4, fH_new _ hz, hput, Option.bind_some]
  have hm : noMapB (fH H k f v (J ++ [.row 0 (oC o) .act])).heap = true := noMap_fH hH (noMap_app hJ rfl)
  rw [hpc]
  simp only [Option.bind_some, hm, cond_true]
  unfold buffer_Find.bd five
  have hk : afieldAddr 0 (pt H (5 + J.length)) = some (.pointer (some ⟨H.length + (5 + J.length), 0, none⟩)) := rfl
  have hv2 : afieldAddr 2 (pt H (5 + J.length)) = some (.pointer (some ⟨H.length + (5 + J.length), 2, none⟩)) := rfl
  have l0 : ∀ f, aload false 1 (.pointer (some ⟨H.length + (5 + J.length), 0, none⟩)) (fH H k f v (J ++ [.row 0 (oC o) .act])) = some (.int .i64 o.kind) := fun f => fH_last rfl
  have l2 : ∀ f, aload false 1 (.pointer (some ⟨H.length + (5 + J.length), 2, none⟩)) (fH H k f v (J ++ [.row 0 (oC o) .act])) = some (sv o.val) := fun f => fH_last rfl
  simp only [getL_0, getL_1, getL_2, getL_3, getL_4, fH_op, fH_k, Option.bind_some, buffer_touches_call, hT, e_not]
  rcases Bool.eq_false_or_eq_true (tch o k) with c1 | c1
  · rcases Bool.eq_false_or_eq_true (o.kind == 2) with c2 | c2
    · simp only [c1, c2, nil_sv, Bool.not_true, condV_f, condV_t, hk, hv2, l0, l2, fH_s1, fH_s2, fH_s3, e_eql, Option.bind_some, Option.map_some, if_true, sayO]
    · simp only [c1, c2, nil_sv, Bool.not_true, condV_f, condV_t, hk, hv2, l0, l2, fH_s1, fH_s2, fH_s3, e_eql, Option.bind_some, Option.map_some, if_true, Bool.false_eq_true, if_false, sayO]
  · simp only [c1, Bool.not_false, condV_t, Option.map_some, Bool.false_eq_true, if_false]
theorem chk_fH {H : List Blk} (hH : noMapB H = true) {k : BL} {f : Say} {v : Value} {J : List Blk} (hJ : noMapB J = true) {l : List En} (hc : cellsOf 7 v ⟨H⟩ = some (encL enC l)) : chkB (H.length + 4) v (encL enC l) (fH H k f v J) = true := by
  have hc2 : cellsOf 7 v (fH H k f v J) = some (encL enC l) := Ext.cells (s := ⟨H⟩) ⟨by simp [fH], fun b hb => by simp only [fH]; rw [List.getElem?_append_left hb]⟩ hc
  have hb : (readRow (fH H k f v J) (H.length + 4)).bind (·[0]?) = some v := by rw [fH_box]; rfl
  unfold chkB
  rw [hb, hc2, noMap_fH hH hJ]
  simp only [eqV_sl hc, eqVs_ens, Bool.and_self]
theorem rounds_run {H : List Blk} (hH : noMapB H = true) {k : BL} {v c : Value} {l : List En} (hc : cellsOf 7 v ⟨H⟩ = some (encL enC l)) : ∀ (q : Nat) (J : List Blk), q ≤ l.length → noMapB J = true →
    ∃ J' e g, rounds (chkB (H.length + 4) v (encL enC l)) (oneF R [pt H 0, pt H 1, pt H 2, pt H 3, c] (encL enC l) l.length) q (l.length - q) (fH H k ([], false, false) v J) = some (e, fH H k g v J') ∧ noMapB J' = true ∧ ((e = .ret ∧ g = findE (l.take q) k) ∨ (e = .normal ∧ g = ([], false, false) ∧ findE (l.take q) k = ([], false, false))) := by
  intro q
  induction q with
  | zero => intro J hq hJ; exact ⟨J, .normal, ([], false, false), rfl, hJ, .inr ⟨rfl, rfl, rfl⟩⟩
  | succ q ih =>
    intro J hq hJ
    have hj : l.length - 1 - (l.length - (q + 1)) < l.length := by omega
    have hje : l.length - 1 - (l.length - (q + 1)) = q := by omega
    have h1 := one_run hT hH (k := k) (f := ([], false, false)) (v := v) (c := c) hJ hj
    have hq2 : q < l.length := by omega
    have hget : l[l.length - 1 - (l.length - (q + 1))] = l[q] := by congr 1
    rw [hget] at h1
    have hJ2 : noMapB (J ++ [.row 0 (oC l[q].2) .act]) = true := noMap_app hJ rfl
    unfold rounds
    rw [h1]
    have hft := findE_take (k := k) hq2
    unfold sayF at hft
    rcases Bool.eq_false_or_eq_true (tch l[q].2 k) with c1 | c1
    · rw [if_pos c1, hft, if_pos c1]
      exact ⟨_, .ret, _, by simp only [Option.bind_some, chk_fH hT hH hJ2 hc, cond_true], hJ2, .inl ⟨rfl, rfl⟩⟩
    · have c2 : ¬ tch l[q].2 k = true := by simp [c1]
      rw [if_neg c2, hft, if_neg c2]
      simp only [Option.bind_some, chk_fH hT hH hJ2 hc, cond_true]
      have := ih (J ++ [.row 0 (oC l[q].2) .act]) (by omega) hJ2
      rwa [show l.length - q = l.length - (q + 1) + 1 by omega] at this
theorem ev_find (hB : ∀ v s r, buffer_behind R v s = some r → R 24 [v] s = some r) {v : Value} {s : St} {l : List En} (h : listOf enC v s = some l) (hl : l.length ≤ 140737488351232) (k : BL) : ∃ t, evFind R v (sv k) (frzS s) = some (sayV (findE l k), t) := by
  have hc : cellsOf 7 v (frzS s) = some (encL enC l) := by rw [cellsOf_frz]; exact (listOf_iff enC).1 h
  obtain ⟨a, cap, hv⟩ := list_shape h
  obtain ⟨H, hHe⟩ : ∃ H, (frzS s).heap = H := ⟨_, rfl⟩
  have hH : noMapB H = true := by rw [← hHe]; exact noMap_frz s
  have hs : frzS s = ⟨H⟩ := by rw [← hHe]
  rw [hs] at hc ⊢
  obtain ⟨J', e, g, h1, h2, h3⟩ := rounds_run hT hH (k := k) (v := v) (c := .func (.func 46) #[] #[pt H 4]) hc l.length [] (Nat.le_refl _) rfl
  rw [Nat.sub_self, List.take_length] at *
  have hA : pc (buffer_Find.A R) [v, sv k] ⟨H⟩ = some ([v, pt H 0, pt H 1, pt H 2, pt H 3], ⟨H ++ [.row 0 [sv k] .act, .row 0 [sv []] .act, .row 0 [.bool false] .act, .row 0 [.bool false] .act]⟩) := by
    unfold pc buffer_Find.A
    simp [getL_0, getL_1, sv, cellsV, anew, isLeaf, St.push, pt]
  have hlv : isLeaf v = true := by rw [hv]; rfl
  have hcv : cellsV v = [v] := by rw [hv]; rfl
  have hB2 : pc (buffer_Find.B R) [v, pt H 0, pt H 1, pt H 2, pt H 3] ⟨H ++ [.row 0 [sv k] .act, .row 0 [sv []] .act, .row 0 [.bool false] .act, .row 0 [.bool false] .act]⟩ = some ([pt H 0, pt H 1, pt H 2, pt H 3, .func (.func 46) #[] #[pt H 4]], fH H k ([], false, false) v []) := by
    have hb := hB v ⟨H ++ [.row 0 [sv k] .act, .row 0 [sv []] .act, .row 0 [.bool false] .act, .row 0 [.bool false] .act]⟩ (.func (.func 46) #[] #[pt H 4], fH H k ([], false, false) v []) (by
      unfold buffer_behind
      simp [hcv, anew, hlv, St.push, amkFunc, leaf0, retV, noTup, resPack, pt, fH])
    unfold pc buffer_Find.B
    simp only [getL_0, getL_1, getL_2, getL_3, getL_4, buffer_behind_call, hb, Option.bind_some]
  have hrg : rangeAt (H.length + 4) (oneF R [pt H 0, pt H 1, pt H 2, pt H 3, .func (.func 46) #[] #[pt H 4]]) (fH H k ([], false, false) v []) = some (e, fH H k g v J') := by
    unfold rangeAt
    rw [fH_box]
    have hc2 : cellsOf 7 v (fH H k ([], false, false) v []) = some (encL enC l) := Ext.cells (s := ⟨H⟩) ⟨by simp [fH], fun b hb => by simp only [fH]; rw [List.getElem?_append_left hb]⟩ hc
    have hln : lenOf v = l.length := by rw [hv]; rfl
    have hok : rangeOk (H.length + 4) v (encL enC l) (fH H k ([], false, false) v []) = true := by
      unfold rangeOk
      rw [hln, encL_len, chk_fH hT hH rfl hc, encL_leaf]
      have : Nat.ble l.length 140737488351232 = true := Nat.ble_eq_true_of_le hl
      rw [this]
      have : Nat.beq (l.length * enC.n) (l.length * 7) = true := Nat.beq_refl _
      rw [this]
      rfl
    simp only [Option.bind_some, List.getElem?_cons_zero, hc2, hok, cond_true, hln, h1]
  have hcl : closB (.func (.func 46) #[] #[pt H 4]) = some (H.length + 4) := rfl
  have hres : ∀ (T : Fr) (s : St) (a b c : Value), aload false 1 (T 4) s = some a → aload false 1 (T 5) s = some b → aload false 1 (T 6) s = some c → resVs Try.prog [] T s Try.f8.results.toList = some [a, b, c] := fun T s a b c e1 e2 e3 => by
    have : resVs Try.prog [] T s Try.f8.results.toList = (aload false 1 (T 4) s).bind fun v => ((aload false 1 (T 5) s).bind fun v => ((aload false 1 (T 6) s).bind fun v => some [v]).bind fun r => some (v :: r)).bind fun r => some (v :: r) := by kernel_rfl
    rw [this, e1, e2, e3]
    rfl
  have hfin : ∀ g : Say, packV ([sv g.1, .bool g.2.1, .bool g.2.2], fH H k g v J') = some (sayV g, fH H k g v J') := fun g => rfl
  refine ⟨fH H k g v J', ?_⟩
  unfold evFind
  rw [hA]
  simp only [Option.bind_some, five, getL_0, getL_1, getL_2, getL_3, getL_4, hB2, hcl, hrg]
  unfold endF
  rcases h3 with ⟨rfl, hg⟩ | ⟨rfl, hg, hf⟩
  · rw [hres (cutF 22 (ofL [3, 4, 5, 6, 10] 0 [pt H 0, pt H 1, pt H 2, pt H 3, .func (.func 46) #[] #[pt H 4]] noT)) (fH H k g v J') _ _ _ fH_1 fH_2 fH_3]
    simp only [Option.map_some, Option.bind_some, hfin, hg]
  · subst hg
    have hC : buffer_Find.C R [pt H 1, pt H 2, pt H 3] (fH H k ([], false, false) v J') = some (.ret, [pt H 1, pt H 2, pt H 3], fH H k ([], false, false) v J') := by
      unfold buffer_Find.C
      simp only [getL_0, getL_1, getL_2, nil_sv, fH_s1, fH_s2, fH_s3, Option.bind_some]
    simp only [getL_1, getL_2, getL_3, hC, Option.bind_some, noMap_fH hH h2, cond_true]
    rw [hres (cutF 22 (ofL [4, 5, 6] 0 [pt H 1, pt H 2, pt H 3] noT)) (fH H k ([], false, false) v J') _ _ _ fH_1 fH_2 fH_3]
    simp only [Option.map_some, Option.bind_some, hf]
    exact hfin ([], false, false)
end

theorem plain_vw {ρ : Nat → Nat} {D : Nat} {v : Value} (h : plainV v = true) : Vw ρ D v v := by
  cases v with
  | tuple a =>
    have := Vw.tup (ρ := ρ) (D := D) (l := a.toList) h
    simpa using this
  | _ => exact Vw.const h
/-- what it tells -/
noncomputable def gSay : Sum := fun xs s => (match xs with
  | [v, .string k] => (listOf enC v s).bind fun l => if l.length ≤ 140737488351232 then some (sayV (findE l k.data.toList)) else none
  | _ => none).map fun v => (v, s)
theorem gSay_eq {v : Value} {s : St} {l : List En} (h : listOf enC v s = some l) (hl : l.length ≤ 140737488351232) (k : BL) : gSay [v, sv k] s = some (sayV (findE l k), s) := by
  simp only [gSay, sv, h, Option.bind_some, if_pos hl, Option.map_some]
theorem say_plain (f : Say) : plainV (sayV f) = true := rfl
theorem find_known {L : List (FuncId × Sum)} (hT : ∀ o k s, run Try.prog (libL L) hints 25 [oV o, sv k] s = some (.bool (tch o k), s)) (hno : libL L 24 = none) (hL : LibOk Try.prog (libL L)) :
    ∀ args s v s', gSay args s = some (v, s') → ∀ wb ι w (args' : Array Value), Sim wb ι s.heap w → All2 (VRel ι) args args'.toList → Calls Try.prog 8 args' w fun e w' => ∃ v', e = .returned v' ∧ After wb ι s.heap w s'.heap v v' w' := by
  intro args s v s' h wb ι w args' hs ha
  unfold gSay at h
  simp only [Option.map_eq_some_iff] at h
  obtain ⟨u, h, e⟩ := h
  cases e
  split at h
  case h_2 => cases h
  rename_i x k
  obtain ⟨l, h1, h2⟩ := Option.bind_eq_some_iff.1 h
  split at h2
  case isFalse => cases h2
  rename_i hl
  cases h2
  have hB : ∀ v s r, buffer_behind (run Try.prog (libL L) hints) v s = some r → run Try.prog (libL L) hints 24 [v] s = some r := fun v s r h => buffer_behind_of hno h
  obtain ⟨t, h3⟩ := ev_find hT hB h1 hl k.data.toList
  have hk : sv k.data.toList = .string k := by rw [← sv_of]
  rw [hk] at h3
  refine (find_calls (run_sound progOk hL) h3 hs.frz ha).mono fun e w' ⟨v', he, hA⟩ => ⟨v', he, ?_⟩
  have := Views.after hs hA (K := []) (Views.pure (plain_vw (say_plain _)))
  rwa [List.append_nil] at this

end Go.Proofs.Ythnjkakmkmoceaa.Ab
