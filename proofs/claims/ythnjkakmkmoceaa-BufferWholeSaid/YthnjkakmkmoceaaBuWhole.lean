/- Parts of entries, parts of a map: the plain law. -/
import Derived.Test.YthnjkakmkmoceaaBuTell
set_option linter.unusedVariables false
set_option linter.unusedSimpArgs false
set_option linter.unusedSectionVars false
namespace Go.Proofs.Ythnjkakmkmoceaa.Ab
open Go

/-! ### Parts of entries -/
def cutO (o : OpT) (m : Rg) : OpT := ⟨o.kind, o.key, o.val, m.1, m.2, o.most⟩
def partF (r : Rg) (e : En) : Option En := if e.2.kind != 5 then (if hasR r e.2.key = true then some e else none) else (meetL r (e.2.lo, e.2.hi)).map fun m => (e.1, cutO e.2 m)
def partE (r : Rg) (l : List En) : List En := l.filterMap (partF r)
theorem partE_cons (r : Rg) (e : En) (l : List En) : partE r (e :: l) = match partF r e with | some x => x :: partE r l | none => partE r l := by
  unfold partE
  rw [List.filterMap_cons]
  cases partF r e <;> rfl
theorem partE_len {r : Rg} {l : List En} : (partE r l).length ≤ l.length := List.length_filterMap_le _ _
theorem ck_cut {o : OpT} {m : Rg} (h : ckO o = 0) (hk : o.kind = 5) (hm : ckR m = true) : ckO (cutO o m) = 0 := by
  obtain ⟨_, _, h3, _, _, _⟩ := ckO_key h
  have hr : ranged o.kind = true := by rw [hk]; rfl
  have hv : o.val = [] ∧ o.most = 0 := by
    unfold ckO at h
    split at h
    · cases h
    · rename_i c
      rw [hk] at c
      simp at c
      exact ⟨c.1.2, c.2⟩
  have hkey := (h3 hr).1
  unfold ckO cutO
  simp only [hk, hkey, hv.1, hv.2, show ckR (m.1, m.2) = true from hm]
  rfl
theorem partF_ok {r : Rg} {e x : En} (h : partF r e = some x) (hc : ckO e.2 = 0) (hw : wrt e.2.kind = true) : x.1 = e.1 ∧ ckO x.2 = 0 ∧ wrt x.2.kind = true := by
  unfold partF at h
  by_cases c : (e.2.kind != 5) = true
  · rw [if_pos c] at h
    split at h
    · cases h; exact ⟨rfl, hc, hw⟩
    · cases h
  · rw [if_neg c] at h
    simp only [Option.map_eq_some_iff] at h
    obtain ⟨m, h1, rfl⟩ := h
    exact ⟨rfl, ck_cut hc (by simpa using c) (meet_ck h1).2.2.1, hw⟩
def leP : Option Int → Option Int → Prop
  | none, _ => True
  | some a, some b => a ≤ b
  | some _, none => False
theorem stE_0 {p : Option Int} {e : En} : stE p e = 0 ↔ ckO e.2 = 0 ∧ wrt e.2.kind = true ∧ ∀ q, p = some q → q < e.1 := by
  unfold stE
  constructor
  · intro h
    by_cases c : (ckO e.2 == 0) = true
    · rw [if_pos c] at h
      by_cases c2 : wrt e.2.kind = true
      · rw [if_pos c2] at h
        refine ⟨by simpa using c, c2, fun q hq => ?_⟩
        subst hq
        simp only at h
        by_cases c3 : decide (q ≥ e.1) = true
        · rw [if_pos c3] at h; cases h
        · simpa using c3
      · rw [if_neg c2] at h; cases h
    · rw [if_neg c] at h
      exact absurd (by simp [h]) c
  · rintro ⟨h1, h2, h3⟩
    rw [h1, h2]
    cases p with
    | none => rfl
    | some q =>
      have := h3 q rfl
      have hd : decide (q ≥ e.1) = false := by simp; omega
      simp only [hd]
      rfl
theorem eBF_cons' (p : Option Int) (e : En) (l : List En) : eBF p (e :: l) = if stE p e == 0 then eBF (some e.1) l else stE p e := rfl
theorem eBF_cons {p : Option Int} {e : En} {l : List En} : eBF p (e :: l) = 0 ↔ stE p e = 0 ∧ eBF (some e.1) l = 0 := by
  rw [eBF_cons']
  constructor
  · intro h
    by_cases c : (stE p e == 0) = true
    · rw [if_pos c] at h; exact ⟨by simpa using c, h⟩
    · rw [if_neg c] at h; exact absurd (by simp [h]) c
  · rintro ⟨h1, h2⟩
    rw [if_pos (by rw [h1]; rfl)]
    exact h2
theorem part_eB {r : Rg} : ∀ {l : List En} {p q : Option Int}, eBF p l = 0 → leP q p → eBF q (partE r l) = 0
  | [], _, _, _, _ => rfl
  | e :: l, p, q, h, hq => by
    obtain ⟨h1, h2⟩ := eBF_cons.1 h
    obtain ⟨g1, g2, g3⟩ := stE_0.1 h1
    have hlt : ∀ a, q = some a → a < e.1 := fun a ha => by
      subst ha
      cases p with
      | none => exact hq.elim
      | some b =>
        have h4 : a ≤ b := hq
        have := g3 b rfl
        omega
    rw [partE_cons]
    cases hx : partF r e with
    | none =>
      simp only
      refine part_eB h2 ?_
      cases q with
      | none => trivial
      | some a =>
        have := hlt a rfl
        show a ≤ e.1
        omega
    | some x =>
      obtain ⟨f1, f2, f3⟩ := partF_ok hx g1 g2
      simp only
      refine eBF_cons.2 ⟨stE_0.2 ⟨f2, f3, fun a ha => by rw [f1]; exact hlt a ha⟩, part_eB h2 ?_⟩
      show x.1 ≤ e.1
      rw [f1]
      exact Int.le_refl _
theorem part_tch {r : Rg} {e : En} {x : BL} (hc : ckO e.2 = 0) (hw : wrt e.2.kind = true) : (∀ y, partF r e = some y → tch y.2 x = (hasR r x && tch e.2 x) ∧ sayO y.2 = sayO e.2) ∧ (partF r e = none → (hasR r x && tch e.2 x) = false) := by
  have hk : e.2.kind = 2 ∨ e.2.kind = 3 ∨ e.2.kind = 5 := by
    unfold wrt at hw
    simp at hw
    omega
  unfold partF
  by_cases c : e.2.kind = 5
  · have c2 : ¬ (e.2.kind != 5) = true := by simp [c]
    rw [if_neg c2]
    have ht : ∀ o : OpT, o.kind = 5 → tch o x = hasR (o.lo, o.hi) x := fun o ho => by unfold tch; rw [ho]; rfl
    have hb := both_has r (e.2.lo, e.2.hi) x
    rw [ht _ c]
    refine ⟨fun y hy => ?_, fun hn => ?_⟩
    · simp only [Option.map_eq_some_iff] at hy
      obtain ⟨m, h1, rfl⟩ := hy
      rw [h1] at hb
      exact ⟨by rw [ht (cutO e.2 m) c, hb]; rfl, by unfold sayO cutO; rfl⟩
    · simp only [Option.map_eq_none_iff] at hn
      rw [hn] at hb
      exact hb
  · have c2 : (e.2.kind != 5) = true := by simp [c]
    rw [if_pos c2]
    have ht : tch e.2 x = (e.2.key == x) := by
      unfold tch
      rcases hk with h | h | h
      · rw [h]; rfl
      · rw [h]; rfl
      · exact absurd h c
    rw [ht]
    by_cases hh : hasR r e.2.key = true
    · rw [if_pos hh]
      refine ⟨fun y hy => ?_, fun hn => by cases hn⟩
      cases hy
      rw [ht]
      by_cases hx : e.2.key = x
      · subst hx; rw [hh]; exact ⟨by simp, rfl⟩
      · have : (e.2.key == x) = false := by simp [hx]
        rw [this]; exact ⟨by simp, rfl⟩
    · rw [if_neg hh]
      refine ⟨fun y hy => by (cases hy), fun _ => ?_⟩
      by_cases hx : e.2.key = x
      · subst hx; rw [Bool.eq_false_iff.2 hh]; rfl
      · have : (e.2.key == x) = false := by simp [hx]
        rw [this]; simp
theorem part_find {r : Rg} {x : BL} : ∀ {l : List En} (_ : ∀ e ∈ l, ckO e.2 = 0 ∧ wrt e.2.kind = true) (f : Say), (partE r l).foldl (fun f e => sayF f e x) f = if hasR r x = true then l.foldl (fun f e => sayF f e x) f else f
  | [], _, f => by simp [partE]
  | e :: l, h, f => by
    obtain ⟨h1, h2⟩ := h e (List.mem_cons_self ..)
    have ih := fun f => part_find (r := r) (x := x) (fun y hy => h y (List.mem_cons_of_mem _ hy)) f
    obtain ⟨g1, g2⟩ := part_tch (r := r) (x := x) h1 h2
    rw [partE_cons]
    cases hx : partF r e with
    | none =>
      simp only [List.foldl_cons]
      rw [ih]
      by_cases c : hasR r x = true
      · rw [if_pos c, if_pos c]
        have := g2 hx
        rw [c, Bool.true_and] at this
        unfold sayF
        rw [this]
        rfl
      · rw [if_neg c, if_neg c]
    | some y =>
      obtain ⟨k1, k2⟩ := g1 y hx
      simp only [List.foldl_cons]
      rw [ih]
      have e1 : sayF f y x = if hasR r x = true then sayF f e x else f := by
        unfold sayF
        rw [k1, k2]
        by_cases c : hasR r x = true
        · rw [if_pos c, c, Bool.true_and]
        · rw [if_neg c, Bool.eq_false_iff.2 c, Bool.false_and]
          rfl
      rw [e1]
      by_cases c : hasR r x = true
      · rw [if_pos c, if_pos c, if_pos c]
      · rw [if_neg c, if_neg c, if_neg c]
theorem get_in {m : List Rg} (r : Rg) (x : BL) : cGet (cIn m r) x = if hasR r x = true then cGet m x else none := get_filter (hasR r) x m
theorem eB_allE {l : List En} {p : Option Int} (h : eBF p l = 0) : allE (opsL l) = 0 := allE_of fun o ho => by
  obtain ⟨e, he, rfl⟩ := List.mem_map.1 ho
  exact (eBF_all h e he).1
/-- a part of the entries, applied to its part of a map -/
theorem part_apply {m : List Rg} (hv : Val m) {l : List En} (hl : eB l = 0) (r : Rg) : apM (cIn m r) (opsL (partE r l)) = cIn (apM m (opsL l)) r := by
  have hp : eB (partE r l) = 0 := part_eB (p := none) hl trivial
  have h1 : Val (cIn m r) := val_filter hv
  refine map_ext (val_ap h1 (eB_allE hp)).1 (val_filter (val_ap hv (eB_allE hl))).1 fun x => ?_
  have t1 := (tells_pure (m := cIn m r) (k := x) _ rfl (eBF_all hp)).1
  have t2 := (tells_pure (m := m) (k := x) _ rfl (eBF_all hl)).1
  have hf := part_find (r := r) (x := x) (eBF_all hl) ([], false, false)
  rw [t1, get_in (m := apM m (opsL l)), t2, get_in]
  unfold findE
  rw [hf]
  by_cases c : hasR r x = true
  · rw [if_pos c, if_pos c, if_pos c]
  · rw [if_neg c, if_neg c, if_neg c]
    rfl

/-! ### Parts of a map -/
def okP : Option BL → List BL → Bool
  | _, [] => true
  | none, k :: l => ckK k && okP (some k) l
  | some p, k :: l => (ckK k && bl p k) && okP (some k) l
def lowP (ps : List BL) : Nat → BL
  | 0 => []
  | i + 1 => ps.getD i []
def rgI (ps : List BL) (i : Nat) : Rg := (lowP ps i, ps.getD i [])
theorem okP_get : ∀ {l : List BL} {p : Option BL}, okP p l = true → ∀ (i : Nat) (hi : i < l.length), ckK l[i] = true ∧ (∀ q, (match i with | 0 => p | j + 1 => l[j]?) = some q → bl q l[i] = true)
  | [], _, _, i, hi => by simp at hi
  | k :: l, p, h, i, hi => by
    have hk : ckK k = true ∧ okP (some k) l = true ∧ ∀ q, p = some q → bl q k = true := by
      cases p with
      | none => simp only [okP, Bool.and_eq_true] at h; exact ⟨h.1, h.2, fun q hq => by cases hq⟩
      | some a => simp only [okP, Bool.and_eq_true] at h; exact ⟨h.1.1, h.2, fun q hq => by cases hq; exact h.1.2⟩
    cases i with
    | zero => exact ⟨hk.1, hk.2.2⟩
    | succ j =>
      obtain ⟨g1, g2⟩ := okP_get hk.2.1 j (by simpa using hi)
      refine ⟨by simpa using g1, fun q hq => ?_⟩
      simp only [List.getElem_cons_succ]
      refine g2 q ?_
      cases j with
      | zero => simpa using hq
      | succ j => simpa using hq
theorem has_in {m : List Rg} (hv : Val m) {r : Rg} (hr : ckR r = true) : cIn m r = m.filter fun p => !bl p.1 r.1 && (r.2 == [] || bl p.1 r.2) := filter_same fun p hp => by
  unfold hasR
  rw [hr, (hv.2 p hp).1]
  rfl
/-- what is below the i-th part -/
def below (ps : List BL) (m : List Rg) : Nat → List Rg
  | 0 => []
  | i + 1 => if i < ps.length then m.filter fun p => bl p.1 (ps.getD i []) else m
theorem ck_short {k : BL} (h : ckK k = true) : k ≠ [] ∧ k.length ≤ 12 := by
  unfold ckK at h
  simp at h
  exact h
theorem nil_low (k : BL) : bl k [] = false := by cases k <;> rfl
theorem rgI_ok {ps : List BL} (hp : okP none ps = true) {i : Nat} (hi : i ≤ ps.length) : ckR (rgI ps i) = true := by
  have hlow : (lowP ps i).length ≤ 12 := by
    cases i with
    | zero => simp [lowP]
    | succ j =>
      have hj : j < ps.length := by omega
      have := (ck_short (okP_get hp j hj).1).2
      simp only [lowP, List.getD_eq_getElem?_getD, List.getElem?_eq_getElem hj, Option.getD_some]
      exact this
  unfold ckR rgI
  by_cases c : i < ps.length
  · obtain ⟨g1, g2⟩ := okP_get hp i c
    have hget : ps.getD i [] = ps[i] := by simp [List.getD_eq_getElem?_getD, c]
    rw [hget]
    have hb : bl (lowP ps i) ps[i] = true := by
      cases i with
      | zero =>
        have := (ck_short g1).1
        cases hx : ps[0] with
        | nil => exact absurd hx this
        | cons => rfl
      | succ j =>
        have hj : j < ps.length := by omega
        simp only [lowP, List.getD_eq_getElem?_getD, List.getElem?_eq_getElem hj, Option.getD_some]
        exact g2 _ (by simp [hj])
    simp only [hb, hlow, (ck_short g1).2, decide_true, Bool.or_true, Bool.and_self]
  · have hget : ps.getD i [] = [] := by simp [List.getD_eq_getElem?_getD, List.getElem?_eq_none (Nat.le_of_not_lt c)]
    rw [hget]
    simp [hlow]
theorem below_next {ps : List BL} (hp : okP none ps = true) {m : List Rg} (hv : Val m) {i : Nat} (hi : i ≤ ps.length) : below ps m i ++ cIn m (rgI ps i) = below ps m (i + 1) := by
  have hr := rgI_ok hp hi
  rw [has_in hv hr]
  cases i with
  | zero =>
    simp only [below, List.nil_append]
    by_cases c : 0 < ps.length
    · rw [if_pos c]
      refine filter_same fun p hp2 => ?_
      have hne : (ps.getD 0 [] == []) = false := by
        have := (ck_short (okP_get hp 0 c).1).1
        simp [List.getD_eq_getElem?_getD, c, this]
      show (!bl p.1 [] && (ps.getD 0 [] == [] || bl p.1 (ps.getD 0 []))) = _
      rw [nil_low, hne]
      rfl
    · rw [if_neg c]
      refine List.filter_eq_self.2 fun p hp2 => ?_
      have hget : ps.getD 0 [] = [] := by simp [List.getD_eq_getElem?_getD, List.getElem?_eq_none (Nat.le_of_not_lt c)]
      show (!bl p.1 [] && (ps.getD 0 [] == [] || bl p.1 (ps.getD 0 []))) = true
      rw [nil_low, hget]
      rfl
  | succ j =>
    have hj : j < ps.length := by omega
    simp only [below]
    rw [if_pos hj]
    have hgj : ps.getD j [] = ps[j] := by simp [List.getD_eq_getElem?_getD, hj]
    have hlow : (rgI ps (j + 1)).1 = ps[j] := hgj
    rw [hlow, hgj, ← take_lb hv.1]
    by_cases c : j + 1 < ps.length
    · rw [if_pos c]
      obtain ⟨g1, g2⟩ := okP_get hp (j + 1) c
      have hb : bl ps[j] ps[j + 1] = true := g2 _ (by simp [hj])
      have hgk : ps.getD (j + 1) [] = ps[j + 1] := by simp [List.getD_eq_getElem?_getD, c]
      have hne : (ps[j + 1] == []) = false := by simp [(ck_short g1).1]
      have hhi : (rgI ps (j + 1)).2 = ps[j + 1] := hgk
      rw [hhi, hgk]
      simp only [hne, Bool.false_or]
      rw [← mid_lb hv.1 hb, ← take_lb hv.1]
      have hle : lb m ps[j] ≤ lb m ps[j + 1] := by
        have h1 := congrArg List.length (take_lb hv.1 ps[j])
        have h2 := congrArg List.length (take_lb hv.1 ps[j + 1])
        have l1 : lb m ps[j] ≤ m.length := lb_le ..
        have l2 : lb m ps[j + 1] ≤ m.length := lb_le ..
        rw [List.length_take, Nat.min_eq_left l1] at h1
        rw [List.length_take, Nat.min_eq_left l2] at h2
        rw [h1, h2]
        rw [← List.countP_eq_length_filter, ← List.countP_eq_length_filter]
        exact List.countP_mono_left fun p _ hpj => bl_trans hpj hb
      rw [← List.take_append_drop (lb m ps[j]) (m.take (lb m ps[j + 1])), List.take_take, Nat.min_eq_left hle, List.drop_take]
    · rw [if_neg c]
      have hhi : (rgI ps (j + 1)).2 = [] := by simp [rgI, List.getD_eq_getElem?_getD, List.getElem?_eq_none (Nat.le_of_not_lt c)]
      rw [hhi]
      have hnn : (([] : BL) == []) = true := rfl
      simp only [hnn, Bool.true_or, Bool.and_true]
      rw [← drop_lb hv.1, List.take_append_drop]
theorem below_all {ps : List BL} {m : List Rg} : below ps m (ps.length + 1) = m := by
  simp [below]

end Go.Proofs.Ythnjkakmkmoceaa.Ab

/- Part, Range, Within: what they give. -/
namespace Go.Proofs.Ythnjkakmkmoceaa.Ab
open Go

def strC : Cod BL where
  n := 1
  enc k := [sv k]
  pos := by decide
  len _ := rfl
  inj a b h := by
    simp only [List.cons.injEq, and_true] at h
    exact sv_inj h
  leaf _ := rfl
theorem str_at {v : Value} {s : St} {l : List BL} (h : listOf strC v s = some l) {i : Nat} (hi : i < l.length) : ∃ p, aindexS 1 v (.int .i64 (i : Int)) = some p ∧ aload false 1 p s = some (sv l[i]) := by
  obtain ⟨p, h1, q, h2, h3⟩ := list_field h hi (j := 0) (c := sv l[i]) rfl (k := .i64) (n := 1) rfl
  refine ⟨p, h1, ?_⟩
  have : q = p := by
    unfold afieldAddr at h2
    split at h2
    · cases h2; rfl
    · cases h2
  rw [← this]
  exact h3
/-- one more cell, in a row of cells of its own -/
theorem own_addV {N : Nat} {s : St} {x : Value} {cells : List Value} {v : Value} (h : Own N 1 s x cells) (hN : N ≤ s.heap.length) (hv : cellsV v = [v]) (hvl : isLeaf v = true) (hb : roomA (cells.length + 1) 24) :
    ∃ r, abuildSl 1 [.slice none 0 0] 1 [(0, v)] s = some r ∧ ∃ v' t, aappend 1 24 x r.1 r.2 = some (v', t) ∧ Own N 1 t v' (cells ++ [v]) ∧ Keep (blkOf x) s t := by
  have h1 : abuildSl 1 [.slice none 0 0] 1 [(0, v)] s = some (.slice (some ⟨s.heap.length, 0, none⟩) 1 1, s.push (.row 1 [v] .act)) := by
    have hrep : repCells [Value.slice none 0 0] 1 = [.slice none 0 0] := by simp [repCells]
    have hput : putCells [Value.slice none 0 0] 0 (cellsV v) = [v] := by rw [hv]; simp [putCells]
    unfold abuildSl
    rw [if_pos ⟨by omega, rfl, rfl⟩]
    simp only [hrep, afill, placeA, Nat.zero_mul]
    rw [if_pos ⟨by rw [hv]; rfl, by simp, by rw [hv]; simp [hvl]⟩, hput]
    rfl
  have hO : Own N 1 (s.push (.row 1 [v] .act)) x cells := by
    rcases h with h | ⟨b, len, e1, e2, e3, e4, e5⟩
    · exact .inl h
    · exact .inr ⟨b, len, e1, e2, by rw [push_old (List.getElem?_eq_some_iff.1 e3).1]; exact e3, e4, e5⟩
  have hcells : cellsOf 1 (.slice (some ⟨s.heap.length, 0, none⟩) 1 1) (s.push (.row 1 [v] .act)) = some [v] := by
    simp only [cellsOf, Nat.le_refl, if_true, readN, Ab.readRow, push_get, Option.bind_some]
    rw [if_pos (by simp)]
    simp
  obtain ⟨v', s', g1, g2, g3⟩ := own_appendR (w := 24) hO (by rw [push_len]; omega) (by decide) (by decide) (y := .slice (some ⟨s.heap.length, 0, none⟩) 1 1) (m := 1) rfl (elems_of hcells) rfl fun q hq => by
    rw [Nat.mul_one] at hq
    rw [hq]
    exact hb
  obtain ⟨k1, k2⟩ := aappend_keep g1
  exact ⟨_, h1, v', s', g1, g2, (Ext.push _ (Nat.le_refl _) _).keep.trans k1⟩

/-! ### A part -/
theorem n_key (e : En) : lload false 1 (.pointer (some ⟨0, 2, none⟩)) (enV e) = some (sv e.2.key) := rfl
theorem n_all (e : En) : lload true 7 lptr (enV e) = some (enV e) := rfl
theorem n_s4 (e : En) (a : BL) : lstore 1 (.pointer (some ⟨0, 4, none⟩)) (sv a) (enV e) = some (enV (e.1, cutO e.2 (a, e.2.hi))) := rfl
theorem n_s5 (e : En) (a : BL) : lstore 1 (.pointer (some ⟨0, 5, none⟩)) (sv a) (enV e) = some (enV (e.1, cutO e.2 (e.2.lo, a))) := rfl
theorem part_take {r : Rg} {l : List En} {j : Nat} (hj : j < l.length) : partE r (l.take (j + 1)) = partE r (l.take j) ++ (partF r l[j]).toList := by
  unfold partE
  rw [List.take_succ_eq_append_getElem hj, List.filterMap_append]
  congr 1
theorem room88 {q : Nat} (h : q ≤ 1700000000000) : roomA q 88 := .inr (by omega)
def pT (T0 T1 T2 T3 T6 T7 : Value) (r : Rg) (row x n j : Value) : List Value := [T0, T1, T2, T3, lptr, row, T6, T7, x, n, j, rv r]
theorem b2_loop {R : Caller} (hO : ∀ o s, R 34 [oV o] s = some (rv (o.lo, o.hi), s)) (hH : ∀ r k s, R 32 [rv r, sv k] s = some (.bool (hasR r k), s)) (hM : ∀ a b s, R 33 [rv a, rv b] s = some (meetV (meetL a b), s)) (r : Rg)
    {v : Value} {s0 : St} {l : List En} (h : listOf enC v s0 = some l) (hl : l.length ≤ 1600000000000) (T0 T1 T2 T3 T6 T7 : Value) : ∀ (q j : Nat) (s : St) (row : Value), l.length - j = q → j ≤ l.length → Ext s0.heap.length s0 s → Own s0.heap.length 7 s row (encL enC (partE r (l.take j))) →
    ∃ row' t, loopL (buffer_Part.b2 R) (pT T0 T1 T2 T3 T6 T7 r row v (.int .i64 ((l.length : Nat) : Int)) (.int .i64 (j : Int))) s = some (.exit 4, [T0, T1, T2, T3, row', T6, T7], t) ∧ Own s0.heap.length 7 t row' (encL enC (partE r l)) ∧ Ext s0.heap.length s0 t := by
  intro q
  induction q with
  | zero =>
    intro j s row hq hj hx ho
    have h1 : decide ((j : Int) < ((l.length : Nat) : Int)) = false := by simp; omega
    rw [List.take_of_length_le (by omega)] at ho
    refine ⟨row, s, ?_, ho, hx⟩
    rw [loopL_eq]
    simp only [buffer_Part.b2, pT, h1, n_bind, n_map, getL_0, getL_1, getL_2, getL_3, getL_4, getL_5, getL_6, getL_7, getL_8, getL_9, getL_10, getL_11, getL_12, condV_t, condV_f, guardV_tt, guardV_ff, guardV_tf, guardV_ft, guardV_u, apick_t, apick_f, exV_exit, exV_ret, lookE_same, joinK_eq, seqA_n, seqA_e, seqA_r, e_add, e_sub, e_mul, e_eql, e_neq, e_lss, e_leq, e_gtr, e_geq, e_conv, e_not, e_neg, and_guard, or_guard]
  | succ q ih =>
    intro j s row hq hj hx ho
    have hlt : j < l.length := by omega
    have h1 : decide ((j : Int) < ((l.length : Nat) : Int)) = true := by simp; omega
    obtain ⟨p, h2, h3⟩ := list_at (list_ext hx h) hlt (k := .i64) (n := 7) rfl
    rw [en_enc] at h3
    have htk := part_take (r := r) hlt
    have hlen : (partE r (l.take j)).length + 1 ≤ 1700000000000 := by
      have := partE_len (r := r) (l := l.take j)
      rw [List.length_take] at this
      omega
    have hinc := inc_i64 (show j < 140737488355328 by omega)
    have add : ∀ x : En, partF r l[j] = some x → ∃ r1 v' s', abuildSl 7 [(.int .u64 0), (.int .i64 0), (.string ⟨#[]⟩), (.string ⟨#[]⟩), (.string ⟨#[]⟩), (.string ⟨#[]⟩), (.int .i64 0)] 1 [(0, enV x)] s = some r1 ∧ aappend 7 88 row r1.1 r1.2 = some (v', s') ∧
        ∃ row' t, loopL (buffer_Part.b2 R) (pT T0 T1 T2 T3 T6 T7 r v' v (.int .i64 ((l.length : Nat) : Int)) (.int .i64 ((j + 1 : Nat) : Int))) s' = some (.exit 4, [T0, T1, T2, T3, row', T6, T7], t) ∧ Own s0.heap.length 7 t row' (encL enC (partE r l)) ∧ Ext s0.heap.length s0 t := fun x hxx => by
      obtain ⟨r1, a1, a2, v', s', a3, a4, a5, a6⟩ := own_add1R (C := enC) (w := 88) (a := x) (v := enV x) (z := [(.int .u64 0), (.int .i64 0), (.string ⟨#[]⟩), (.string ⟨#[]⟩), (.string ⟨#[]⟩), (.string ⟨#[]⟩), (.int .i64 0)]) ho hx.1 (by decide) (by decide) rfl rfl rfl (room88 hlen) (n := 7) rfl
      rw [hxx] at htk
      have htk2 : partE r (l.take j) ++ [x] = partE r (l.take (j + 1)) := htk.symm
      rw [htk2] at a4
      exact ⟨r1, v', s', a1, a3, ih (j + 1) s' v' (by omega) (by omega) (hx.trans a5) a4⟩
    have skip : partF r l[j] = none → ∃ row' t, loopL (buffer_Part.b2 R) (pT T0 T1 T2 T3 T6 T7 r row v (.int .i64 ((l.length : Nat) : Int)) (.int .i64 ((j + 1 : Nat) : Int))) s = some (.exit 4, [T0, T1, T2, T3, row', T6, T7], t) ∧ Own s0.heap.length 7 t row' (encL enC (partE r l)) ∧ Ext s0.heap.length s0 t := fun hxx => by
      rw [hxx, Option.toList_none, List.append_nil] at htk
      rw [← htk] at ho
      exact ih (j + 1) s row (by omega) (by omega) hx ho
    rw [loopL_eq]
    unfold pT at add skip ⊢
    by_cases c : (l[j].2.kind != 5) = true
    · by_cases c2 : hasR r l[j].2.key = true
      · obtain ⟨r1, v', s', a1, a3, row', t, k1, k2⟩ := add l[j] (by unfold partF; rw [if_pos c, if_pos c2])
        refine ⟨row', t, ?_, k2⟩
        rw [← k1]
        rw [nil_sv] at a1
        simp only [buffer_Part.b2, h1, h2, h3, nil_sv, n_z, n_st, n_kind, e_neq, c, ld_rv, n_key, span_Has_call, hH, c2, n_all, a1, a3, buffer_Part.j0, hinc, n_bind, n_map, getL_0, getL_1, getL_2, getL_3, getL_4, getL_5, getL_6, getL_7, getL_8, getL_9, getL_10, getL_11, getL_12, condV_t, condV_f, guardV_tt, guardV_ff, guardV_tf, guardV_ft, guardV_u, apick_t, apick_f, exV_exit, exV_ret, lookE_same, joinK_eq, seqA_n, seqA_e, seqA_r, e_add, e_sub, e_mul, e_eql, e_neq, e_lss, e_leq, e_gtr, e_geq, e_conv, e_not, e_neg, and_guard, or_guard]
      · obtain ⟨row', t, k1, k2⟩ := skip (by unfold partF; rw [if_pos c, if_neg c2])
        refine ⟨row', t, ?_, k2⟩
        rw [← k1]
        have c3 : hasR r l[j].2.key = false := Bool.eq_false_iff.2 c2
        simp only [buffer_Part.b2, h1, h2, h3, nil_sv, n_z, n_st, n_kind, e_neq, c, ld_rv, n_key, span_Has_call, hH, c3, buffer_Part.j0, hinc, n_bind, n_map, getL_0, getL_1, getL_2, getL_3, getL_4, getL_5, getL_6, getL_7, getL_8, getL_9, getL_10, getL_11, getL_12, condV_t, condV_f, guardV_tt, guardV_ff, guardV_tf, guardV_ft, guardV_u, apick_t, apick_f, exV_exit, exV_ret, lookE_same, joinK_eq, seqA_n, seqA_e, seqA_r, e_add, e_sub, e_mul, e_eql, e_neq, e_lss, e_leq, e_gtr, e_geq, e_conv, e_not, e_neg, and_guard, or_guard]
    · have c3 : (l[j].2.kind != 5) = false := Bool.eq_false_iff.2 c
      obtain ⟨x0, x1⟩ := x_meet (m := meetL r (l[j].2.lo, l[j].2.hi))
      cases hm : meetL r (l[j].2.lo, l[j].2.hi) with
      | some m =>
        rw [hm] at x0 x1
        obtain ⟨r1, v', s', a1, a3, row', t, k1, k2⟩ := add (l[j].1, cutO l[j].2 m) (by unfold partF; rw [if_neg c, hm]; rfl)
        refine ⟨row', t, ?_, k2⟩
        rw [← k1]
        rw [nil_sv] at a1
        have hc2 : enV ((l[j].1, cutO l[j].2 (m.1, l[j].2.hi)).1, cutO (l[j].1, cutO l[j].2 (m.1, l[j].2.hi)).2 ((l[j].1, cutO l[j].2 (m.1, l[j].2.hi)).2.lo, m.2)) = enV (l[j].1, cutO l[j].2 m) := rfl
        have y0 : aextract 0 (meetV (some m)) = some (rv m) := x0
        have y1 : aextract 1 (meetV (some m)) = some (.bool true) := x1
        simp only [buffer_Part.b2, h1, h2, h3, nil_sv, n_z, n_st, n_kind, e_neq, c3, ld_rv, n_op, buffer_of_call, hO, own_id, span_Meet_call, hM, hm, y0, y1, z_rv2, st_rv, ld_0, ld_1, n_s4, n_bind, n_map, getL_0, getL_1, getL_2, getL_3, getL_4, getL_5, getL_6, getL_7, getL_8, getL_9, getL_10, getL_11, getL_12, condV_t, condV_f, guardV_tt, guardV_ff, guardV_tf, guardV_ft, guardV_u, apick_t, apick_f, exV_exit, exV_ret, lookE_same, joinK_eq, seqA_n, seqA_e, seqA_r, e_add, e_sub, e_mul, e_eql, e_neq, e_lss, e_leq, e_gtr, e_geq, e_conv, e_not, e_neg, and_guard, or_guard]
        simp only [n_s5, hc2, n_all, a1, a3, buffer_Part.j0, hinc, n_bind, n_map, getL_0, getL_1, getL_2, getL_3, getL_4, getL_5, getL_6, getL_7, getL_8, getL_9, getL_10, getL_11, getL_12, condV_t, condV_f, guardV_tt, guardV_ff, guardV_tf, guardV_ft, guardV_u, apick_t, apick_f, exV_exit, exV_ret, lookE_same, joinK_eq, seqA_n, seqA_e, seqA_r, e_add, e_sub, e_mul, e_eql, e_neq, e_lss, e_leq, e_gtr, e_geq, e_conv, e_not, e_neg, and_guard, or_guard]
      | none =>
        rw [hm] at x0 x1
        obtain ⟨row', t, k1, k2⟩ := skip (by unfold partF; rw [if_neg c, hm]; rfl)
        refine ⟨row', t, ?_, k2⟩
        rw [← k1]
        have y0 : aextract 0 (meetV none) = some (rv ([], [])) := x0
        have y1 : aextract 1 (meetV none) = some (.bool false) := x1
        simp only [buffer_Part.b2, h1, h2, h3, nil_sv, n_z, n_st, n_kind, e_neq, c3, ld_rv, n_op, buffer_of_call, hO, own_id, span_Meet_call, hM, hm, y0, y1, z_rv2, st_rv, buffer_Part.j0, hinc, n_bind, n_map, getL_0, getL_1, getL_2, getL_3, getL_4, getL_5, getL_6, getL_7, getL_8, getL_9, getL_10, getL_11, getL_12, condV_t, condV_f, guardV_tt, guardV_ff, guardV_tf, guardV_ft, guardV_u, apick_t, apick_f, exV_exit, exV_ret, lookE_same, joinK_eq, seqA_n, seqA_e, seqA_r, e_add, e_sub, e_mul, e_eql, e_neq, e_lss, e_leq, e_gtr, e_geq, e_conv, e_not, e_neg, and_guard, or_guard]

/-! ### The pivots -/
def prevS (l : List BL) : Nat → Option BL
  | 0 => none
  | i + 1 => l[i]?
theorem okP_cons (p : Option BL) (k : BL) (l : List BL) : okP p (k :: l) = ((ckK k && (match p with | none => true | some q => bl q k)) && okP (some k) l) := by
  cases p <;> simp [okP]
theorem b0_loop {R : Caller} (hK : ∀ k s, R 31 [sv k] s = some (.int .i64 (eK k), s)) {w : Value} {s : St} {ps : List BL} (h : listOf strC w s = some ps) (hl : ps.length < 140737488355328) (v : Value) : ∀ (rest : List BL) (i : Nat), ps.drop i = rest → i ≤ ps.length →
    loopL (buffer_Part.b0 R) [v, w, w, .int .i64 ((ps.length : Nat) : Int), .int .i64 (i : Int)] s = if okP (prevS ps i) rest = true then some (.exit 0, [v, w], s) else some (.ret, [.slice none 0 0, .int .i64 20], s) := by
  intro rest
  induction rest with
  | nil =>
    intro i hi hle
    have h1 : decide ((i : Int) < ((ps.length : Nat) : Int)) = false := by
      have := List.drop_eq_nil_iff.1 hi
      simp; omega
    rw [loopL_eq]
    simp only [buffer_Part.b0, h1, n_bind, n_map, getL_0, getL_1, getL_2, getL_3, getL_4, getL_5, getL_6, getL_7, getL_8, getL_9, getL_10, getL_11, getL_12, condV_t, condV_f, guardV_tt, guardV_ff, guardV_tf, guardV_ft, guardV_u, apick_t, apick_f, exV_exit, exV_ret, lookE_same, joinK_eq, seqA_n, seqA_e, seqA_r, e_add, e_sub, e_mul, e_eql, e_neq, e_lss, e_leq, e_gtr, e_geq, e_conv, e_not, e_neg, and_guard, or_guard, okP, if_true]
  | cons k rest ih =>
    intro i hi hle
    obtain ⟨hlt, he, hd⟩ := drop_get hi
    have h1 : decide ((i : Int) < ((ps.length : Nat) : Int)) = true := by simp; omega
    obtain ⟨p, h2, h3⟩ := str_at h hlt
    rw [he] at h3
    have hn : prevS ps (i + 1) = some k := by simp only [prevS, List.getElem?_eq_getElem hlt, he]
    have key := ih (i + 1) hd (by omega)
    rw [hn] at key
    rw [loopL_eq, okP_cons]
    rcases Bool.eq_false_or_eq_true (ckK k) with c1 | c1
    · cases i with
      | zero =>
        have c3 : decide (((0 : Nat) : Int) > 0) = false := rfl
        simp only [buffer_Part.b0, h1, h2, h3, span_CheckKey_call, hK, eK_n, c1, c3, Bool.not_true, prevS, Bool.true_and, Bool.and_true, Bool.or_self, inc_i64 (show 0 < 140737488355328 by omega), n_bind, n_map, getL_0, getL_1, getL_2, getL_3, getL_4, getL_5, getL_6, getL_7, getL_8, getL_9, getL_10, getL_11, getL_12, condV_t, condV_f, guardV_tt, guardV_ff, guardV_tf, guardV_ft, guardV_u, apick_t, apick_f, exV_exit, exV_ret, lookE_same, joinK_eq, seqA_n, seqA_e, seqA_r, e_add, e_sub, e_mul, e_eql, e_neq, e_lss, e_leq, e_gtr, e_geq, e_conv, e_not, e_neg, and_guard, or_guard]
        exact key
      | succ j =>
        have c3 : decide (((j + 1 : Nat) : Int) > 0) = true := decide_eq_true (by omega)
        have hj : j < ps.length := by omega
        obtain ⟨q, f1, f2⟩ := str_at h hj
        have hd1 : IntKind.wrap .i64 (((j + 1 : Nat) : Int) - 1) = ((j : Nat) : Int) := by rw [wrap_i64 (by omega) (by omega)]; omega
        have hp : prevS ps (j + 1) = some ps[j] := by simp only [prevS, List.getElem?_eq_getElem hj]
        rw [hp]
        rcases Bool.eq_false_or_eq_true (bl ps[j] k) with c4 | c4
        · simp only [buffer_Part.b0, h1, h2, h3, span_CheckKey_call, hK, eK_n, c1, c3, hd1, f1, f2, geq_bl, c4, Bool.not_true, Bool.true_and, Bool.and_true, Bool.and_self, Bool.or_self, Bool.or_false, Bool.and_false, inc_i64 (show j + 1 < 140737488355328 by omega), n_bind, n_map, getL_0, getL_1, getL_2, getL_3, getL_4, getL_5, getL_6, getL_7, getL_8, getL_9, getL_10, getL_11, getL_12, condV_t, condV_f, guardV_tt, guardV_ff, guardV_tf, guardV_ft, guardV_u, apick_t, apick_f, exV_exit, exV_ret, lookE_same, joinK_eq, seqA_n, seqA_e, seqA_r, e_add, e_sub, e_mul, e_eql, e_neq, e_lss, e_leq, e_gtr, e_geq, e_conv, e_not, e_neg, and_guard, or_guard]
          exact key
        · simp only [buffer_Part.b0, h1, h2, h3, span_CheckKey_call, hK, eK_n, c1, c3, hd1, f1, f2, geq_bl, c4, Bool.not_true, Bool.not_false, Bool.true_and, Bool.and_true, Bool.and_self, Bool.and_false, Bool.false_and, Bool.or_true, Bool.false_or, Bool.false_eq_true, if_false, n_bind, n_map, getL_0, getL_1, getL_2, getL_3, getL_4, getL_5, getL_6, getL_7, getL_8, getL_9, getL_10, getL_11, getL_12, condV_t, condV_f, guardV_tt, guardV_ff, guardV_tf, guardV_ft, guardV_u, apick_t, apick_f, exV_exit, exV_ret, lookE_same, joinK_eq, seqA_n, seqA_e, seqA_r, e_add, e_sub, e_mul, e_eql, e_neq, e_lss, e_leq, e_gtr, e_geq, e_conv, e_not, e_neg, and_guard, or_guard]
    · simp only [buffer_Part.b0, h1, h2, h3, span_CheckKey_call, hK, eK_n, c1, Bool.not_false, Bool.false_and, Bool.true_or, Bool.false_eq_true, if_false, n_bind, n_map, getL_0, getL_1, getL_2, getL_3, getL_4, getL_5, getL_6, getL_7, getL_8, getL_9, getL_10, getL_11, getL_12, condV_t, condV_f, guardV_tt, guardV_ff, guardV_tf, guardV_ft, guardV_u, apick_t, apick_f, exV_exit, exV_ret, lookE_same, joinK_eq, seqA_n, seqA_e, seqA_r, e_add, e_sub, e_mul, e_eql, e_neq, e_lss, e_leq, e_gtr, e_geq, e_conv, e_not, e_neg, and_guard, or_guard]

/-! ### Range -/
theorem Range_run {R : Caller} {w : Value} {s : St} {ps : List BL} (h : listOf strC w s = some ps) (hl : ps.length < 140737488355328) {i : Nat} (hi : i ≤ ps.length) : ref12_Range R w (.int .i64 (i : Int)) s = some (rv (rgI ps i), s) := by
  have hret : ∀ r, retV [rv r] s = some (rv r, s) := fun r => ret1 rfl
  have hj1 : ∀ lo, lo = lowP ps i → ref12_Range.j1 R [w, .int .i64 (i : Int), lptr, lptr, rv ([], []), rv (lo, [])] s = some (rv (rgI ps i), s) := fun lo hlo => by
    subst hlo
    unfold ref12_Range.j1
    by_cases c : i < ps.length
    · have h1 : decide ((i : Int) < ((ps.length : Nat) : Int)) = true := by simp; omega
      obtain ⟨p, h2, h3⟩ := str_at h c
      have hget : ps[i] = ps.getD i [] := by simp [List.getD_eq_getElem?_getD, c]
      simp only [list_len h, h1, h2, h3, p_1, st_1, ref12_Range.j0, ld_rv, st_rv, hret, n_bind, n_map, getL_0, getL_1, getL_2, getL_3, getL_4, getL_5, getL_6, getL_7, getL_8, getL_9, getL_10, getL_11, getL_12, condV_t, condV_f, guardV_tt, guardV_ff, guardV_tf, guardV_ft, guardV_u, apick_t, apick_f, exV_exit, exV_ret, lookE_same, joinK_eq, seqA_n, seqA_e, seqA_r, e_add, e_sub, e_mul, e_eql, e_neq, e_lss, e_leq, e_gtr, e_geq, e_conv, e_not, e_neg, and_guard, or_guard]
      rw [hget]
      rfl
    · have h1 : decide ((i : Int) < ((ps.length : Nat) : Int)) = false := by simp; omega
      have hget : ps.getD i [] = [] := by simp [List.getD_eq_getElem?_getD, List.getElem?_eq_none (Nat.le_of_not_lt c)]
      simp only [list_len h, h1, ref12_Range.j0, ld_rv, st_rv, hret, n_bind, n_map, getL_0, getL_1, getL_2, getL_3, getL_4, getL_5, getL_6, getL_7, getL_8, getL_9, getL_10, getL_11, getL_12, condV_t, condV_f, guardV_tt, guardV_ff, guardV_tf, guardV_ft, guardV_u, apick_t, apick_f, exV_exit, exV_ret, lookE_same, joinK_eq, seqA_n, seqA_e, seqA_r, e_add, e_sub, e_mul, e_eql, e_neq, e_lss, e_leq, e_gtr, e_geq, e_conv, e_not, e_neg, and_guard, or_guard]
      unfold rgI
      rw [hget]
  unfold ref12_Range
  cases i with
  | zero =>
    have c3 : decide (((0 : Nat) : Int) > 0) = false := rfl
    simp only [c3, nil_sv, z_rv2, n_bind, n_map, getL_0, getL_1, getL_2, getL_3, getL_4, getL_5, getL_6, getL_7, getL_8, getL_9, getL_10, getL_11, getL_12, condV_t, condV_f, guardV_tt, guardV_ff, guardV_tf, guardV_ft, guardV_u, apick_t, apick_f, exV_exit, exV_ret, lookE_same, joinK_eq, seqA_n, seqA_e, seqA_r, e_add, e_sub, e_mul, e_eql, e_neq, e_lss, e_leq, e_gtr, e_geq, e_conv, e_not, e_neg, and_guard, or_guard]
    exact hj1 [] rfl
  | succ j =>
    have c3 : decide (((j + 1 : Nat) : Int) > 0) = true := decide_eq_true (by omega)
    have hj : j < ps.length := by omega
    obtain ⟨q, f1, f2⟩ := str_at h hj
    have hd1 : IntKind.wrap .i64 (((j + 1 : Nat) : Int) - 1) = ((j : Nat) : Int) := by rw [wrap_i64 (by omega) (by omega)]; omega
    have hs0 : lstore 1 lptr (sv ps[j]) (rv ([], [])) = some (rv (ps[j], [])) := rfl
    simp only [c3, nil_sv, z_rv2, hd1, f1, f2, hs0, n_bind, n_map, getL_0, getL_1, getL_2, getL_3, getL_4, getL_5, getL_6, getL_7, getL_8, getL_9, getL_10, getL_11, getL_12, condV_t, condV_f, guardV_tt, guardV_ff, guardV_tf, guardV_ft, guardV_u, apick_t, apick_f, exV_exit, exV_ret, lookE_same, joinK_eq, seqA_n, seqA_e, seqA_r, e_add, e_sub, e_mul, e_eql, e_neq, e_lss, e_leq, e_gtr, e_geq, e_conv, e_not, e_neg, and_guard, or_guard]
    exact hj1 _ (by simp [lowP, List.getD_eq_getElem?_getD, hj])

/-! ### All within -/
theorem wa_loop {R : Caller} (hH : ∀ r k s, R 37 [rv r, sv k] s = some (.bool (hasR r k), s)) (r : Rg) {v : Value} {s0 : St} {m : List Rg} (h : listOf prC v s0 = some m) (hm : m.length ≤ 6400000000000) : ∀ (rest : List Rg) (i : Nat) (s : St) (out : Value) (acc : List Rg), m.drop i = rest → i ≤ m.length → acc.length + rest.length ≤ 6400000000000 → Ext s0.heap.length s0 s → Own s0.heap.length 2 s out (encL prC acc) →
    ∃ out' t, loopL (ref04_Within.b0 R) [.int .i64 (-1), lptr, out, v, .int .i64 ((m.length : Nat) : Int), .int .i64 (i : Int), rv r] s = some (.exit 0, [out'], t) ∧ Own s0.heap.length 2 t out' (encL prC (acc ++ cIn rest r)) ∧ Ext s0.heap.length s0 t := by
  intro rest
  induction rest with
  | nil =>
    intro i s out acc hi hle hb hx ho
    have h1 : decide ((i : Int) < ((m.length : Nat) : Int)) = false := by
      have := List.drop_eq_nil_iff.1 hi
      simp; omega
    refine ⟨out, s, ?_, by simpa [cIn] using ho, hx⟩
    rw [loopL_eq]
    simp only [ref04_Within.b0, h1, n_bind, n_map, getL_0, getL_1, getL_2, getL_3, getL_4, getL_5, getL_6, getL_7, getL_8, getL_9, getL_10, getL_11, getL_12, condV_t, condV_f, guardV_tt, guardV_ff, guardV_tf, guardV_ft, guardV_u, apick_t, apick_f, exV_exit, exV_ret, lookE_same, joinK_eq, seqA_n, seqA_e, seqA_r, e_add, e_sub, e_mul, e_eql, e_neq, e_lss, e_leq, e_gtr, e_geq, e_conv, e_not, e_neg, and_guard, or_guard]
  | cons p rest ih =>
    intro i s out acc hi hle hb hx ho
    obtain ⟨hlt, he, hd⟩ := drop_get hi
    simp only [List.length_cons] at hb
    have h1 : decide ((i : Int) < ((m.length : Nat) : Int)) = true := by simp; omega
    obtain ⟨a, h2, h3⟩ := list_at (list_ext hx h) hlt (k := .i64) (n := 2) rfl
    rw [pr_enc, he] at h3
    have hn0 : decide ((-1 : Int) < 0) = true := rfl
    rw [loopL_eq]
    simp only [ref04_Within.b0, h1, h2, h3, z_rv, st_rv, ld_rv, ld_0, ld_1, ref02_Has_call, hH, hn0, n_bind, n_map, getL_0, getL_1, getL_2, getL_3, getL_4, getL_5, getL_6, getL_7, getL_8, getL_9, getL_10, getL_11, getL_12, condV_t, condV_f, guardV_tt, guardV_ff, guardV_tf, guardV_ft, guardV_u, apick_t, apick_f, exV_exit, exV_ret, lookE_same, joinK_eq, seqA_n, seqA_e, seqA_r, e_add, e_sub, e_mul, e_eql, e_neq, e_lss, e_leq, e_gtr, e_geq, e_conv, e_not, e_neg, and_guard, or_guard]
    rw [cIn_cons]
    cases h4 : hasR r p.1
    · obtain ⟨out', t, b1, b2, b3⟩ := ih (i + 1) s out acc hd (by omega) (by omega) hx ho
      refine ⟨out', t, ?_, by simpa using b2, b3⟩
      rw [← b1]
      simp only [ref04_Within.j0, inc_i64 (show i < 140737488355328 by omega), n_bind, n_map, getL_0, getL_1, getL_2, getL_3, getL_4, getL_5, getL_6, getL_7, getL_8, getL_9, getL_10, getL_11, getL_12, condV_t, condV_f, guardV_tt, guardV_ff, guardV_tf, guardV_ft, guardV_u, apick_t, apick_f, exV_exit, exV_ret, lookE_same, joinK_eq, seqA_n, seqA_e, seqA_r, e_add, e_sub, e_mul, e_eql, e_neq, e_lss, e_leq, e_gtr, e_geq, e_conv, e_not, e_neg, and_guard, or_guard]
    · obtain ⟨q, a1, a2, v', s', a3, a4, a5, a6⟩ := own_add1R (C := prC) (w := 32) (a := p) (v := rv p) (z := [(.string ⟨#[]⟩), (.string ⟨#[]⟩)]) ho hx.1 (by decide) (by decide) rfl rfl rfl (room32 (by omega)) (n := 2) rfl
      obtain ⟨out', t, b1, b2, b3⟩ := ih (i + 1) s' v' (acc ++ [p]) hd (by omega) (by simp; omega) (hx.trans a5) a4
      refine ⟨out', t, ?_, ?_, b3⟩
      · rw [← b1]
        simp only [a1, a3, ref04_Within.j0, inc_i64 (show i < 140737488355328 by omega), n_bind, n_map, getL_0, getL_1, getL_2, getL_3, getL_4, getL_5, getL_6, getL_7, getL_8, getL_9, getL_10, getL_11, getL_12, condV_t, condV_f, guardV_tt, guardV_ff, guardV_tf, guardV_ft, guardV_u, apick_t, apick_f, exV_exit, exV_ret, lookE_same, joinK_eq, seqA_n, seqA_e, seqA_r, e_add, e_sub, e_mul, e_eql, e_neq, e_lss, e_leq, e_gtr, e_geq, e_conv, e_not, e_neg, and_guard, or_guard]
      · rw [if_pos rfl]
        simpa using b2
theorem wa_run {R : Caller} (hH : ∀ r k s, R 37 [rv r, sv k] s = some (.bool (hasR r k), s)) (r : Rg) {v : Value} {s : St} {m : List Rg} (h : listOf prC v s = some m) (hm : m.length ≤ 6400000000000) :
    ∃ out t, ref04_Within R v (rv r) (.int .i64 (-1)) s = some (out, t) ∧ Own s.heap.length 2 t out (encL prC (cIn m r)) ∧ Ext s.heap.length s t := by
  obtain ⟨out, t, h1, h2, h3⟩ := wa_loop hH r h hm m 0 s (.slice none 0 0) [] rfl (Nat.zero_le _) (by simpa using hm) (.refl _ _) (.nil _ _ _)
  rw [show ((0 : Nat) : Int) = 0 from rfl] at h1
  refine ⟨out, t, ?_, h2, h3⟩
  unfold ref04_Within
  simp only [box_rv, list_len h, h1, n_bind, n_map, getL_0, getL_1, getL_2, getL_3, getL_4, getL_5, getL_6, getL_7, getL_8, getL_9, getL_10, getL_11, getL_12, condV_t, condV_f, guardV_tt, guardV_ff, guardV_tf, guardV_ft, guardV_u, apick_t, apick_f, exV_exit, exV_ret, lookE_same, joinK_eq, seqA_n, seqA_e, seqA_r, e_add, e_sub, e_mul, e_eql, e_neq, e_lss, e_leq, e_gtr, e_geq, e_conv, e_not, e_neg, and_guard, or_guard, retV, List.all_cons, h2.notup]
  rfl

end Go.Proofs.Ythnjkakmkmoceaa.Ab

/- The parts, each applied to its part of a map, are the whole. -/
namespace Go.Proofs.Ythnjkakmkmoceaa.Ab
open Go

theorem Own.later {N n : Nat} {s t : St} {v : Value} {cs : List Value} (h : Own N n s v cs) (hx : Ext s.heap.length s t) : Own N n t v cs := h.keep (hx.keep (B := none)) fun c _ => by simp
theorem OwnC.later {α : Type} {C : Cod α} {N : Nat} {s t : St} {v : Value} {l : List α} (h : OwnC C N s v l) (hx : Ext s.heap.length s t) : OwnC C N t v l := h.keep (hx.keep (B := none)) fun c _ => by simp
def PartsOk (N : Nat) (s : St) (out : Value) (q : List (List En × Value)) : Prop := Own N 1 s out (q.map (·.2)) ∧ ∀ x ∈ q, OwnC enC N s x.2 x.1
theorem room24 {q : Nat} (h : q ≤ 8900000000000) : roomA q 24 := .inr (by omega)
theorem ownC_leaf {N : Nat} {s : St} {v : Value} {l : List En} (h : Own N 7 s v (encL enC l)) : isLeaf v = true ∧ cellsV v = [v] := by
  rcases h with ⟨rfl, _⟩ | ⟨b, len, rfl, _⟩
  · exact ⟨rfl, rfl⟩
  · exact ⟨rfl, rfl⟩
def partsL (ps : List BL) (l : List En) (n : Nat) : List (List En) := (List.range n).map fun i => partE (rgI ps i) l
theorem partsL_succ {ps : List BL} {l : List En} {n : Nat} : partsL ps l (n + 1) = partsL ps l n ++ [partE (rgI ps n) l] := by simp [partsL, List.range_succ]
def b1T (v w out lo n i : Value) : List Value := [v, w, out, lo, n, i]
theorem b1_loop {R : Caller} (hO : ∀ o s, R 34 [oV o] s = some (rv (o.lo, o.hi), s)) (hH : ∀ r k s, R 32 [rv r, sv k] s = some (.bool (hasR r k), s)) (hM : ∀ a b s, R 33 [rv a, rv b] s = some (meetV (meetL a b), s))
    {v w : Value} {s0 : St} {l : List En} {ps : List BL} (h : listOf enC v s0 = some l) (hp : listOf strC w s0 = some ps) (hl : l.length ≤ 1600000000000) (hpl : ps.length ≤ 8800000000000) : ∀ (d i : Nat) (s : St) (out lo : Value) (q : List (List En × Value)), ps.length + 1 - i = d → i ≤ ps.length + 1 → Ext s0.heap.length s0 s → (i ≤ ps.length → lo = sv (lowP ps i)) → q.map (·.1) = partsL ps l i → PartsOk s0.heap.length s out q →
    ∃ out' t q', loopL (buffer_Part.b1 R) (b1T v w out lo (.int .i64 ((ps.length + 1 : Nat) : Int)) (.int .i64 (i : Int))) s = some (.exit 2, [out'], t) ∧ q'.map (·.1) = partsL ps l (ps.length + 1) ∧ PartsOk s0.heap.length t out' q' ∧ Ext s0.heap.length s0 t := by
  intro d
  induction d with
  | zero =>
    intro i s out lo q hd hi hx hlo hq ho
    have h1 : decide ((i : Int) < ((ps.length + 1 : Nat) : Int)) = false := by simp; omega
    obtain rfl : i = ps.length + 1 := by omega
    refine ⟨out, s, q, ?_, hq, ho, hx⟩
    rw [loopL_eq]
    simp only [buffer_Part.b1, b1T, h1, n_bind, n_map, getL_0, getL_1, getL_2, getL_3, getL_4, getL_5, getL_6, getL_7, getL_8, getL_9, getL_10, getL_11, getL_12, condV_t, condV_f, guardV_tt, guardV_ff, guardV_tf, guardV_ft, guardV_u, apick_t, apick_f, exV_exit, exV_ret, lookE_same, joinK_eq, seqA_n, seqA_e, seqA_r, e_add, e_sub, e_mul, e_eql, e_neq, e_lss, e_leq, e_gtr, e_geq, e_conv, e_not, e_neg, and_guard, or_guard]
  | succ d ih =>
    intro i s out lo q hd hi hx hlo hq ho
    have hle : i ≤ ps.length := by omega
    have h1 : decide ((i : Int) < ((ps.length + 1 : Nat) : Int)) = true := by simp; omega
    have hlo2 := hlo hle
    subst hlo2
    have hs := list_ext hx h
    have hps := list_ext hx hp
    obtain ⟨row, t, k1, k2, k3⟩ := b2_loop hO hH hM (rgI ps i) hs hl v w out (sv (if i < ps.length then ps.getD i [] else lowP ps i)) (.int .i64 ((ps.length + 1 : Nat) : Int)) (.int .i64 (i : Int)) l.length 0 s (.slice none 0 0) (by omega) (Nat.zero_le _) (.refl _ _) (.nil _ _ _)
    rw [show ((0 : Nat) : Int) = 0 from rfl] at k1
    have hout := ho.1.later k3
    have hN : s0.heap.length ≤ t.heap.length := Nat.le_trans hx.1 k3.1
    obtain ⟨lf1, lf2⟩ := ownC_leaf k2
    have hql : q.length = i := by
      have := congrArg List.length hq
      simpa [partsL] using this
    obtain ⟨r1, a1, out2, t2, a2, a3, a4⟩ := own_addV hout hN lf2 lf1 (room24 (by rw [List.length_map, hql]; omega))
    have hx2 : Ext s0.heap.length t t2 := a4.ext hN fun c hc => (hout.blk c hc).1
    have hap : ∀ {x : Value} {y : List En}, OwnC enC s0.heap.length t x y → OwnC enC s0.heap.length t2 x y := fun g => g.keep a4 fun c hc => own_apart g hout (by decide) c hc
    have hq2 : PartsOk s0.heap.length t2 out2 (q ++ [(partE (rgI ps i) l, row)]) := by
      refine ⟨by rw [List.map_append]; exact a3, fun x hxq => ?_⟩
      rcases List.mem_append.1 hxq with hxq | hxq
      · exact hap ((ho.2 x hxq).later k3)
      · rcases List.mem_singleton.1 hxq with rfl
        exact hap ((Own.toC (C := enC) k2).mono hx.1)
    obtain ⟨out', t3, q', d1, d2, d3, d4⟩ := ih (i + 1) t2 out2 (sv (if i < ps.length then ps.getD i [] else lowP ps i)) (q ++ [(partE (rgI ps i) l, row)]) (by omega) (by omega) (hx.trans ((k3.less hx.1).trans hx2)) (fun hi2 => by rw [if_pos (by omega)]; rfl) (by rw [List.map_append, hq, partsL_succ]; rfl) hq2
    refine ⟨out', t3, q', ?_, d2, d3, d4⟩
    rw [← d1, loopL_eq]
    unfold pT at k1
    have hj : ∀ hi, hi = ps.getD i [] → buffer_Part.j1 R [v, w, out, sv (if i < ps.length then ps.getD i [] else lowP ps i), lptr, .int .i64 ((ps.length + 1 : Nat) : Int), .int .i64 (i : Int), rv (lowP ps i, hi)] s = some (.normal, b1T v w out2 (sv (if i < ps.length then ps.getD i [] else lowP ps i)) (.int .i64 ((ps.length + 1 : Nat) : Int)) (.int .i64 ((i + 1 : Nat) : Int)), t2) := fun hi hhi => by
      subst hhi
      have hrg : rv (lowP ps i, ps.getD i []) = rv (rgI ps i) := rfl
      rw [hrg]
      unfold buffer_Part.j1
      simp only [list_len hs, k1, a1, a2, inc_i64 (show i < 140737488355328 by omega), n_bind, n_map, getL_0, getL_1, getL_2, getL_3, getL_4, getL_5, getL_6, getL_7, getL_8, getL_9, getL_10, getL_11, getL_12, condV_t, condV_f, guardV_tt, guardV_ff, guardV_tf, guardV_ft, guardV_u, apick_t, apick_f, exV_exit, exV_ret, lookE_same, joinK_eq, seqA_n, seqA_e, seqA_r, e_add, e_sub, e_mul, e_eql, e_neq, e_lss, e_leq, e_gtr, e_geq, e_conv, e_not, e_neg, and_guard, or_guard]
      rfl
    by_cases c : i < ps.length
    · obtain ⟨p, f1, f2⟩ := str_at (s := frzS s) (by rw [list_frz]; exact hps) c
      have hget : ps[i] = ps.getD i [] := by simp [List.getD_eq_getElem?_getD, c]
      have h2 : decide ((i : Int) < ((ps.length : Nat) : Int)) = true := by simp; omega
      have key := hj (ps.getD i []) rfl
      rw [if_pos c] at key ⊢
      rw [hget] at f2
      unfold b1T at key ⊢
      simp only [buffer_Part.b1, h1, h2, ab1, nil_sv, z_rv2, st_rv, list_len hps, f1, f2, st_1, key, n_bind, n_map, getL_0, getL_1, getL_2, getL_3, getL_4, getL_5, getL_6, getL_7, getL_8, getL_9, getL_10, getL_11, getL_12, condV_t, condV_f, guardV_tt, guardV_ff, guardV_tf, guardV_ft, guardV_u, apick_t, apick_f, exV_exit, exV_ret, lookE_same, joinK_eq, seqA_n, seqA_e, seqA_r, e_add, e_sub, e_mul, e_eql, e_neq, e_lss, e_leq, e_gtr, e_geq, e_conv, e_not, e_neg, and_guard, or_guard]
    · have hget : ps.getD i [] = [] := by simp [List.getD_eq_getElem?_getD, List.getElem?_eq_none (Nat.le_of_not_lt c)]
      have h2 : decide ((i : Int) < ((ps.length : Nat) : Int)) = false := by simp; omega
      have key := hj [] hget.symm
      rw [if_neg c] at key ⊢
      unfold b1T at key ⊢
      simp only [buffer_Part.b1, h1, h2, ab1, nil_sv, z_rv2, st_rv, list_len hps, key, n_bind, n_map, getL_0, getL_1, getL_2, getL_3, getL_4, getL_5, getL_6, getL_7, getL_8, getL_9, getL_10, getL_11, getL_12, condV_t, condV_f, guardV_tt, guardV_ff, guardV_tf, guardV_ft, guardV_u, apick_t, apick_f, exV_exit, exV_ret, lookE_same, joinK_eq, seqA_n, seqA_e, seqA_r, e_add, e_sub, e_mul, e_eql, e_neq, e_lss, e_leq, e_gtr, e_geq, e_conv, e_not, e_neg, and_guard, or_guard]
theorem k_part {v w : Value} {s : St} {l : List En} {ps : List BL} (h : listOf enC v s = some l) (hp : listOf strC w s = some ps) (hl : l.length ≤ 1600000000000) (hpl : ps.length ≤ 8800000000000) :
    (eB l = 0 ∧ okP none ps = true ∧ ∃ out t q, (run Try.prog (libL libT) hints) 12 [v, w] s = some (.tuple #[out, .int .i64 0], t) ∧ q.map (·.1) = partsL ps l (ps.length + 1) ∧ PartsOk s.heap.length t out q ∧ Ext s.heap.length s t)
    ∨ ∃ n : Int, n ≠ 0 ∧ (run Try.prog (libL libT) hints) 12 [v, w] s = some (.tuple #[.slice none 0 0, .int .i64 n], s) := by
  have z0 : ((0 : Int) != 0) = false := rfl
  have hK : ∀ k s, (run Try.prog (libL libT) hints) 31 [sv k] s = some (.int .i64 (eK k), s) := fun k s => (known (g := gKey) rfl).trans key_eq
  have hb0 := b0_loop (R := (run Try.prog (libL libT) hints)) hK hp (by omega) v ps 0 rfl (Nat.zero_le _)
  rw [show ((0 : Nat) : Int) = 0 from rfl] at hb0
  by_cases c : eB l = 0
  · by_cases c2 : okP none ps = true
    · left
      refine ⟨c, c2, ?_⟩
      obtain ⟨out, t, q, k1, k2, k3, k4⟩ := b1_loop (R := (run Try.prog (libL libT) hints)) (fun o s => (known (g := gOf) rfl).trans of_eq) (fun r k s => (known (g := gHas) rfl).trans has_eq) (fun a b s => (known (g := gMeet) rfl).trans meet_eq) h hp hl hpl _ 0 s (.slice none 0 0) (sv []) [] rfl (Nat.zero_le _) (.refl _ _) (fun _ => rfl) rfl ⟨.nil _ _ _, fun x hx => by cases hx⟩
      rw [show ((0 : Nat) : Int) = 0 from rfl] at k1
      refine ⟨out, t, q, buffer_Part_of rfl ?_, k2, k3, k4⟩
      have hn1 : IntKind.wrap .i64 (((ps.length : Nat) : Int) + 1) = ((ps.length + 1 : Nat) : Int) := inc_i64 (by omega)
      unfold b1T at k1
      have c3 : okP (prevS ps 0) ps = true := c2
      rw [if_pos c3] at hb0
      unfold buffer_Part
      simp only [buffer_Check_call, k_chkE h (by omega), c, z0, list_len hp, hb0, hn1, nil_sv, k1, n_bind, n_map, getL_0, getL_1, getL_2, getL_3, getL_4, getL_5, getL_6, getL_7, getL_8, getL_9, getL_10, getL_11, getL_12, condV_t, condV_f, guardV_tt, guardV_ff, guardV_tf, guardV_ft, guardV_u, apick_t, apick_f, exV_exit, exV_ret, lookE_same, joinK_eq, seqA_n, seqA_e, seqA_r, e_add, e_sub, e_mul, e_eql, e_neq, e_lss, e_leq, e_gtr, e_geq, e_conv, e_not, e_neg, and_guard, or_guard]
      exact ret2T k3.1.notup
    · right
      refine ⟨20, by decide, buffer_Part_of rfl ?_⟩
      have c3 : ¬ okP (prevS ps 0) ps = true := c2
      rw [if_neg c3] at hb0
      unfold buffer_Part
      simp only [buffer_Check_call, k_chkE h (by omega), c, z0, list_len hp, hb0, n_bind, n_map, getL_0, getL_1, getL_2, getL_3, getL_4, getL_5, getL_6, getL_7, getL_8, getL_9, getL_10, getL_11, getL_12, condV_t, condV_f, guardV_tt, guardV_ff, guardV_tf, guardV_ft, guardV_u, apick_t, apick_f, exV_exit, exV_ret, lookE_same, joinK_eq, seqA_n, seqA_e, seqA_r, e_add, e_sub, e_mul, e_eql, e_neq, e_lss, e_leq, e_gtr, e_geq, e_conv, e_not, e_neg, and_guard, or_guard]
      exact ret2T rfl
  · right
    refine ⟨eB l, c, buffer_Part_of rfl ?_⟩
    have n1 : (eB l != 0) = true := by simp [c]
    unfold buffer_Part
    simp only [buffer_Check_call, k_chkE h (by omega), n1, n_bind, n_map, getL_0, getL_1, getL_2, getL_3, getL_4, getL_5, getL_6, getL_7, getL_8, getL_9, getL_10, getL_11, getL_12, condV_t, condV_f, guardV_tt, guardV_ff, guardV_tf, guardV_ft, guardV_u, apick_t, apick_f, exV_exit, exV_ret, lookE_same, joinK_eq, seqA_n, seqA_e, seqA_r, e_add, e_sub, e_mul, e_eql, e_neq, e_lss, e_leq, e_gtr, e_geq, e_conv, e_not, e_neg, and_guard, or_guard]
    exact ret2T rfl

/-! ### The law -/
theorem cell_at {N : Nat} {s : St} {v : Value} {cs : List Value} (h : Own N 1 s v cs) {i : Nat} (hi : i < cs.length) : ∃ p, aindexS 1 v (.int .i64 (i : Int)) = some p ∧ aload false 1 p s = some cs[i] := by
  rcases h with ⟨rfl, rfl⟩ | ⟨b, len, rfl, h1, h2, h3, h4⟩
  · simp at hi
  · rw [Nat.mul_one] at h3
    refine ⟨.pointer (some ⟨b, i, none⟩), ?_, ?_⟩
    · simp [aindexS, ← h3, hi]
    · simp [aload, readRow, h2, hi]
theorem own_len {N : Nat} {s s2 : St} {v : Value} {cs : List Value} (h : Own N 1 s v cs) {e : TypeId} : alenV (.slice e) v s2 = some (.int .i64 ((cs.length : Nat) : Int)) := by
  rcases h with ⟨rfl, rfl⟩ | ⟨b, len, rfl, h1, h2, h3, h4⟩
  · rfl
  · rw [Nat.mul_one] at h3
    rw [h3]
    rfl
def wT (m w up p whole all n i : Value) : List Value := [m, w, up, p, whole, all, p, n, i]
theorem whole_loop {x0 x2 p whole : Value} {s0 : St} {m : List Rg} {l : List En} {ps : List BL} {q : List (List En × Value)} {N : Nat} (hm : listOf prC x0 s0 = some m) (hps : listOf strC x2 s0 = some ps) (hml : m.length ≤ 4500000000000) (hl : l.length ≤ 1600000000000) (hpl : ps.length ≤ 8800000000000)
    (hv : Val m) (he : eB l = 0) (hok : okP none ps = true) (hq : q.map (·.1) = partsL ps l (ps.length + 1)) (hp : PartsOk N s0 p q) : ∀ (d i : Nat) (s : St) (all : Value), ps.length + 1 - i = d → i ≤ ps.length + 1 → Ext s0.heap.length s0 s → Own s0.heap.length 2 s all (encL prC (below ps (apM m (opsL l)) i)) →
    ∃ all' t, loopL (law12_BufferWhole.b0 (run Try.prog (libL libT) hints)) (wT x0 x2 (.bool true) p whole all (.int .i64 ((ps.length + 1 : Nat) : Int)) (.int .i64 (i : Int))) s = some (.exit 0, [x2, .bool true, p, whole, all'], t) ∧ Own s0.heap.length 2 t all' (encL prC (apM m (opsL l))) ∧ Ext s0.heap.length s0 t := by
  have hvM : Val (apM m (opsL l)) := val_ap hv (eB_allE he)
  have hlM : (apM m (opsL l)).length ≤ 6100000000000 := by
    have := len_ap (m := m) (l := opsL l)
    unfold opsL at this ⊢
    rw [List.length_map] at this
    omega
  have hql : q.length = ps.length + 1 := by
    have := congrArg List.length hq
    simpa [partsL] using this
  intro d
  induction d with
  | zero =>
    intro i s all hd hi hx ho
    have h1 : decide ((i : Int) < ((ps.length + 1 : Nat) : Int)) = false := by simp; omega
    obtain rfl : i = ps.length + 1 := by omega
    rw [below_all] at ho
    refine ⟨all, s, ?_, ho, hx⟩
    rw [loopL_eq]
    simp only [law12_BufferWhole.b0, wT, h1, n_bind, n_map, getL_0, getL_1, getL_2, getL_3, getL_4, getL_5, getL_6, getL_7, getL_8, getL_9, getL_10, getL_11, getL_12, condV_t, condV_f, guardV_tt, guardV_ff, guardV_tf, guardV_ft, guardV_u, apick_t, apick_f, exV_exit, exV_ret, lookE_same, joinK_eq, seqA_n, seqA_e, seqA_r, e_add, e_sub, e_mul, e_eql, e_neq, e_lss, e_leq, e_gtr, e_geq, e_conv, e_not, e_neg, and_guard, or_guard]
  | succ d ih =>
    intro i s all hd hi hx ho
    have hle : i ≤ ps.length := by omega
    have h1 : decide ((i : Int) < ((ps.length + 1 : Nat) : Int)) = true := by simp; omega
    have hiq : i < q.length := by omega
    have hpo := hp.1.later hx
    obtain ⟨a, f1, f2⟩ := cell_at hpo (i := i) (by rw [List.length_map]; exact hiq)
    rw [List.getElem_map] at f2
    have hrow : q[i].1 = partE (rgI ps i) l := by
      have e1 : (q.map (·.1))[i]? = (partsL ps l (ps.length + 1))[i]? := by rw [hq]
      rw [List.getElem?_map, List.getElem?_eq_getElem hiq] at e1
      simp only [Option.map_some, partsL, List.getElem?_map, List.getElem?_range (show i < ps.length + 1 by omega)] at e1
      exact Option.some.inj e1
    have hR := ref12_Range_of (lib := libL libT) rfl (Range_run (R := (run Try.prog (libL libT) hints)) (list_ext hx hps) (by omega) hle)
    obtain ⟨out, t1, g1, g2, g3⟩ := wa_run (R := (run Try.prog (libL libT) hints)) (fun r k s => (known (g := gHas) rfl).trans has_eq) (rgI ps i) (list_ext hx hm) (by omega)
    have hW := ref04_Within_of (lib := libL libT) rfl g1
    have hin : (cIn m (rgI ps i)).length ≤ 4500000000000 := Nat.le_trans (List.length_filter_le _ _) hml
    have hrowl : listOf enC q[i].2 t1 = some (partE (rgI ps i) l) := by
      have := ((hp.2 _ (List.getElem_mem hiq)).later hx).later g3
      rw [hrow] at this
      exact this.list
    have hA := k_bapply (own_list (C := prC) g2) hrowl hin (Nat.le_trans partE_len hl)
    have hb0 : bE (cIn m (rgI ps i)) (partE (rgI ps i) l) = 0 := by
      unfold bE
      have hz : mapE [] (cIn m (rgI ps i)) = 0 := val_mapE.2 (val_filter hv)
      rw [if_pos hz]
      exact part_eB (p := none) he trivial
    rw [if_pos hb0, part_apply hv he] at hA
    obtain ⟨av, t2, k1, k2, k3⟩ := hA
    have ho2 := (ho.later g3).later k3
    have hN : s0.heap.length ≤ t2.heap.length := Nat.le_trans hx.1 (Nat.le_trans g3.1 k3.1)
    have hnx := below_next hok hvM hle
    have hbl : (below ps (apM m (opsL l)) (i + 1)).length ≤ (apM m (opsL l)).length := by
      show (if i < ps.length then _ else _ : List Rg).length ≤ _
      split
      · exact List.length_filter_le _ _
      · exact Nat.le_refl _
    have hsum := congrArg List.length hnx
    rw [List.length_append] at hsum
    obtain ⟨all2, t3, e1, e2, e3⟩ := own_appendR (w := 32) ho2 hN (by decide) (by decide) (list_lenV k2.list) (list_elems k2.list) (encL_len prC _) fun x hx2 => room32 (by
      rw [encL_len, encL_len] at hx2
      have hn : prC.n = 2 := rfl
      rw [hn] at hx2
      omega)
    rw [← encL_append, hnx] at e2
    obtain ⟨all', t4, d1, d2, d3⟩ := ih (i + 1) t3 all2 (by omega) (by omega) (hx.trans ((g3.less hx.1).trans ((k3.less (Nat.le_trans hx.1 g3.1)).trans e3))) e2
    refine ⟨all', t4, ?_, d2, d3⟩
    have z0 : ((0 : Int) != 0) = false := rfl
    have y0 := x_20 k2.notup (.int .i64 0)
    have y1 := x_21 av 0
    have e1' : aappend 2 32 all av t2 = some (all2, t3) := e1
    rw [← d1, loopL_eq]
    unfold wT
    simp only [law12_BufferWhole.b0, h1, f1, f2, ref12_Range_call, hR, ref04_Within_call, hW, buffer_Apply_call, k1, y0, y1, z0, n_bind, n_map, getL_0, getL_1, getL_2, getL_3, getL_4, getL_5, getL_6, getL_7, getL_8, getL_9, getL_10, getL_11, getL_12, condV_t, condV_f, guardV_tt, guardV_ff, guardV_tf, guardV_ft, guardV_u, apick_t, apick_f, exV_exit, exV_ret, lookE_same, joinK_eq, seqA_n, seqA_e, seqA_r, e_add, e_sub, e_mul, e_eql, e_neq, e_lss, e_leq, e_gtr, e_geq, e_conv, e_not, e_neg, and_guard, or_guard]
    simp only [e1', inc_i64 (show i < 140737488355328 by omega), n_bind, n_map, getL_0, getL_1, getL_2, getL_3, getL_4, getL_5, getL_6, getL_7, getL_8, getL_9, getL_10, getL_11, getL_12, condV_t, condV_f, guardV_tt, guardV_ff, guardV_tf, guardV_ft, guardV_u, apick_t, apick_f, exV_exit, exV_ret, lookE_same, joinK_eq, seqA_n, seqA_e, seqA_r, e_add, e_sub, e_mul, e_eql, e_neq, e_lss, e_leq, e_gtr, e_geq, e_conv, e_not, e_neg, and_guard, or_guard]
theorem whole_run (s : St) (v w x : Value) (m : List Rg) (l : List En) (ps : List BL) (hm : listOf prC v s = some m) (h : listOf enC w s = some l) (hp : listOf strC x s = some ps) (hml : m.length ≤ 4500000000000) (hl : l.length ≤ 1600000000000) (hpl : ps.length ≤ 8800000000000) : ∃ t, law12_BufferWhole (run Try.prog (libL libT) hints) v w x s = some (.bool true, t) := by
  have z0 : ((0 : Int) != 0) = false := rfl
  have hb : ∀ s : St, retV [.bool true] s = some (.bool true, s) := fun s => ret1 (show noTup (.bool true) = true from rfl)
  rcases k_part h hp hl hpl with ⟨he, hok, out, t, q, k1, k2, k3, k4⟩ | ⟨n, hn, k1⟩
  · have hA := k_bapply (list_ext k4 hm) (list_ext k4 h) hml hl
    have y0 := x_20 k3.1.notup (.int .i64 0)
    have y1 := x_21 out 0
    by_cases c : bE m l = 0
    · rw [if_pos c] at hA
      obtain ⟨a, t2, g1, g2, g3⟩ := hA
      have c1 : mapE [] m = 0 := by
        unfold bE at c
        by_cases c1 : mapE [] m = 0
        · exact c1
        · rw [if_neg c1] at c; exact c
      have u0 := x_20 g2.notup (.int .i64 0)
      have u1 := x_21 a 0
      have hx : Ext s.heap.length s t2 := k4.trans (g3.less k4.1)
      have hpo : PartsOk s.heap.length t2 out q := ⟨k3.1.later g3, fun y hy => (k3.2 y hy).later g3⟩
      have hql : q.length = ps.length + 1 := by
        have := congrArg List.length k2
        simpa [partsL] using this
      have hps2 := list_ext hx hp
      obtain ⟨all, t3, f1, f2, f3⟩ := whole_loop (whole := a) (list_ext hx hm) hps2 hml hl hpl (val_mapE.1 c1) he hok k2 hpo _ 0 t2 (.slice none 0 0) rfl (Nat.zero_le _) (.refl _ _) (.nil _ _ _)
      rw [show ((0 : Nat) : Int) = 0 from rfl] at f1
      have hlen : alenV (.slice 22) out t2 = some (.int .i64 ((ps.length + 1 : Nat) : Int)) := by rw [own_len hpo.1, List.length_map, hql]
      have hlen3 : alenV (.slice 22) out t3 = some (.int .i64 ((ps.length + 1 : Nat) : Int)) := by rw [own_len hpo.1, List.length_map, hql]
      have hn1 : IntKind.wrap .i64 (((ps.length : Nat) : Int) + 1) = ((ps.length + 1 : Nat) : Int) := inc_i64 (by omega)
      have hS := ref04_SameMap_of (lib := libL libT) rfl (same_run (R := (run Try.prog (libL libT) hints)) (own_list (C := prC) f2) (list_ext f3 g2.list) (by
        have := len_ap (m := m) (l := opsL l)
        unfold opsL at this ⊢
        rw [List.length_map] at this
        omega))
      have hd : decide (apM m (opsL l) = apM m (opsL l)) = true := by simp
      have hi : ∀ n : Int, (n == n) = true := fun n => by simp
      rw [hd] at hS
      unfold wT at f1
      refine ⟨t3, ?_⟩
      unfold law12_BufferWhole
      simp only [law12_live_call, k_live, buffer_Part_call, k1, y0, y1, buffer_Apply_call, g1, u0, u1, z0, Bool.or_self, n_bind, n_map, getL_0, getL_1, getL_2, getL_3, getL_4, getL_5, getL_6, getL_7, getL_8, getL_9, getL_10, getL_11, getL_12, condV_t, condV_f, guardV_tt, guardV_ff, guardV_tf, guardV_ft, guardV_u, apick_t, apick_f, exV_exit, exV_ret, lookE_same, joinK_eq, seqA_n, seqA_e, seqA_r, e_add, e_sub, e_mul, e_eql, e_neq, e_lss, e_leq, e_gtr, e_geq, e_conv, e_not, e_neg, and_guard, or_guard]
      simp only [hlen, f1, hlen3, list_len hps2, hn1, hi, ref04_SameMap_call, hS, hb, n_bind, n_map, getL_0, getL_1, getL_2, getL_3, getL_4, getL_5, getL_6, getL_7, getL_8, getL_9, getL_10, getL_11, getL_12, condV_t, condV_f, guardV_tt, guardV_ff, guardV_tf, guardV_ft, guardV_u, apick_t, apick_f, exV_exit, exV_ret, lookE_same, joinK_eq, seqA_n, seqA_e, seqA_r, e_add, e_sub, e_mul, e_eql, e_neq, e_lss, e_leq, e_gtr, e_geq, e_conv, e_not, e_neg, and_guard, or_guard]
    · rw [if_neg c] at hA
      have n1 : (bE m l != 0) = true := by simp [c]
      have u0 := x_20 (a := .slice none 0 0) rfl (.int .i64 (bE m l))
      have u1 := x_21 (.slice none 0 0) (bE m l)
      refine ⟨t, ?_⟩
      unfold law12_BufferWhole
      simp only [law12_live_call, k_live, buffer_Part_call, k1, y0, y1, buffer_Apply_call, hA, u0, u1, z0, n1, Bool.or_true, Bool.false_or, hb, n_bind, n_map, getL_0, getL_1, getL_2, getL_3, getL_4, getL_5, getL_6, getL_7, getL_8, getL_9, getL_10, getL_11, getL_12, condV_t, condV_f, guardV_tt, guardV_ff, guardV_tf, guardV_ft, guardV_u, apick_t, apick_f, exV_exit, exV_ret, lookE_same, joinK_eq, seqA_n, seqA_e, seqA_r, e_add, e_sub, e_mul, e_eql, e_neq, e_lss, e_leq, e_gtr, e_geq, e_conv, e_not, e_neg, and_guard, or_guard]
  · have hA := k_bapply hm h hml hl
    have n1 : (n != 0) = true := by simp [hn]
    have y0 := x_20 (a := .slice none 0 0) rfl (.int .i64 n)
    have y1 := x_21 (.slice none 0 0) n
    by_cases c : bE m l = 0
    · rw [if_pos c] at hA
      obtain ⟨a, t2, g1, g2, g3⟩ := hA
      have u0 := x_20 g2.notup (.int .i64 0)
      have u1 := x_21 a 0
      refine ⟨t2, ?_⟩
      unfold law12_BufferWhole
      simp only [law12_live_call, k_live, buffer_Part_call, k1, y0, y1, buffer_Apply_call, g1, u0, u1, n1, hb, n_bind, n_map, getL_0, getL_1, getL_2, getL_3, getL_4, getL_5, getL_6, getL_7, getL_8, getL_9, getL_10, getL_11, getL_12, condV_t, condV_f, guardV_tt, guardV_ff, guardV_tf, guardV_ft, guardV_u, apick_t, apick_f, exV_exit, exV_ret, lookE_same, joinK_eq, seqA_n, seqA_e, seqA_r, e_add, e_sub, e_mul, e_eql, e_neq, e_lss, e_leq, e_gtr, e_geq, e_conv, e_not, e_neg, and_guard, or_guard]
    · rw [if_neg c] at hA
      have u0 := x_20 (a := .slice none 0 0) rfl (.int .i64 (bE m l))
      have u1 := x_21 (.slice none 0 0) (bE m l)
      refine ⟨s, ?_⟩
      unfold law12_BufferWhole
      simp only [law12_live_call, k_live, buffer_Part_call, k1, y0, y1, buffer_Apply_call, hA, u0, u1, n1, hb, n_bind, n_map, getL_0, getL_1, getL_2, getL_3, getL_4, getL_5, getL_6, getL_7, getL_8, getL_9, getL_10, getL_11, getL_12, condV_t, condV_f, guardV_tt, guardV_ff, guardV_tf, guardV_ft, guardV_u, apick_t, apick_f, exV_exit, exV_ret, lookE_same, joinK_eq, seqA_n, seqA_e, seqA_r, e_add, e_sub, e_mul, e_eql, e_neq, e_lss, e_leq, e_gtr, e_geq, e_conv, e_not, e_neg, and_guard, or_guard]
theorem BufferWhole_law (s : St) (v : Value) (m : List Rg) (hm : listOf prC v s = some m) (hml : m.length ≤ 4500000000000) (w : Value) (l : List En) (h : listOf enC w s = some l) (hl : l.length ≤ 1600000000000) (x : Value) (ps : List BL) (hp : listOf strC x s = some ps) (hpl : ps.length ≤ 8800000000000) : ∃ s', (run Try.prog (libL libT) hints) 4 [v, w, x] s = some (.bool true, s') := by
  obtain ⟨t, h1⟩ := whole_run s v w x m l ps hm h hp hml hl hpl
  exact ⟨t, law12_BufferWhole_of rfl h1⟩

end Go.Proofs.Ythnjkakmkmoceaa.Ab
