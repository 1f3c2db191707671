/- What operations do to a map, by definition: plain. -/
import Derived.Test.YthnjkakmkmoceaaOpAll
import Derived.Test.YthnjkakmkmoceaaSpAll
set_option linter.unusedVariables false
set_option linter.unusedSimpArgs false
set_option linter.unusedSectionVars false
namespace Go.Proofs.Ythnjkakmkmoceaa.Ab
open Go

theorem bl_up {p q a : BL} (h : bl p a = false) (g : bl p q = true) : bl q a = false := by
  cases e : bl q a with
  | false => rfl
  | true => rw [bl_trans g e] at h; cases h
theorem bl_asym {a b : BL} (h : bl a b = true) : bl b a = false := by
  cases e : bl b a with
  | false => rfl
  | true => have := bl_trans h e; rw [bl_irrefl] at this; cases this
theorem bl_eq {a b : BL} (h : bl a b = false) (g : bl b a = false) : a = b := by
  apply Classical.byContradiction
  intro e
  rcases bl_total e with e | e
  · rw [e] at h; cases h
  · rw [e] at g; cases g
theorem beq_of_bl {a b : BL} (h : bl a b = true) : (a == b) = false ∧ (b == a) = false := by
  constructor <;>
  · rw [beq_eq_false_iff_ne]
    rintro rfl
    rw [bl_irrefl] at h
    cases h
theorem srt_cons {p : Rg} {m : List Rg} : Srt (p :: m) ↔ (∀ q ∈ m, bl p.1 q.1 = true) ∧ Srt m := List.pairwise_cons
theorem lb_cons (p : Rg) (m : List Rg) (k : BL) : lb (p :: m) k = if bl p.1 k = true then lb m k + 1 else 0 := by
  unfold lb
  rw [List.takeWhile_cons]
  split <;> simp_all
theorem fnd_cons (p : Rg) (m : List Rg) (k : BL) : fnd (p :: m) k = if bl p.1 k = true then fnd m k else p.1 == k := by
  unfold fnd
  rw [lb_cons]
  by_cases c : bl p.1 k = true
  · rw [if_pos c, if_pos c, List.getElem?_cons_succ]
  · rw [if_neg c, if_neg c]
    rfl
theorem filter_none {m : List Rg} {f : Rg → Bool} (h : ∀ p ∈ m, f p = false) : m.filter f = [] := List.filter_eq_nil_iff.2 fun p hp => by rw [h p hp]; simp
theorem filter_same {m : List Rg} {f g : Rg → Bool} (h : ∀ p ∈ m, f p = g p) : m.filter f = m.filter g := List.filter_congr h
theorem take_lb : ∀ {m : List Rg} (_ : Srt m) (k : BL), m.take (lb m k) = m.filter fun p => bl p.1 k
  | [], _, _ => rfl
  | p :: m, h, k => by
    obtain ⟨h1, h2⟩ := srt_cons.1 h
    rw [lb_cons, List.filter_cons]
    by_cases c : bl p.1 k = true
    · rw [if_pos c, if_pos c, List.take_succ_cons, take_lb h2]
    · have c2 : bl p.1 k = false := by simpa using c
      rw [if_neg c, if_neg c, List.take_zero, filter_none fun q hq => bl_up c2 (h1 q hq)]
theorem drop_lb : ∀ {m : List Rg} (_ : Srt m) (k : BL), m.drop (lb m k) = m.filter fun p => !bl p.1 k
  | [], _, _ => rfl
  | p :: m, h, k => by
    obtain ⟨h1, h2⟩ := srt_cons.1 h
    rw [lb_cons, List.filter_cons]
    by_cases c : bl p.1 k = true
    · rw [if_pos c, c]
      simp only [Bool.not_true, Bool.false_eq_true, if_false, List.drop_succ_cons]
      exact drop_lb h2 k
    · have c2 : bl p.1 k = false := by simpa using c
      rw [if_neg c, c2]
      simp only [Bool.not_false, if_true, List.drop_zero]
      congr 1
      exact (List.filter_eq_self.2 fun q hq => by rw [bl_up c2 (h1 q hq)]; rfl).symm

def cPut (m : List Rg) (k v : BL) : List Rg := m.filter (fun p => bl p.1 k) ++ (k, v) :: m.filter fun p => bl k p.1
def cDel (m : List Rg) (k : BL) : List Rg := m.filter fun p => p.1 != k
def cGet (m : List Rg) (k : BL) : Option BL := (m.find? fun p => p.1 == k).map (·.2)
def cOut (m : List Rg) (r : Rg) : List Rg := m.filter fun p => !hasR r p.1
def cIn (m : List Rg) (r : Rg) : List Rg := m.filter fun p => hasR r p.1

theorem cGet_cons (p : Rg) (m : List Rg) (k : BL) : cGet (p :: m) k = if (p.1 == k) = true then some p.2 else cGet m k := by
  unfold cGet
  rw [List.find?_cons]
  cases h : (p.1 == k) <;> simp
theorem cGet_none {m : List Rg} {k : BL} (h : ∀ p ∈ m, (p.1 == k) = false) : cGet m k = none := by
  unfold cGet
  rw [List.find?_eq_none.2 fun p hp => by rw [h p hp]; simp]
  rfl
theorem getR_eq : ∀ {m : List Rg} (_ : Srt m) (k : BL), getR m k = ((cGet m k).isSome, (cGet m k).getD [])
  | [], _, _ => rfl
  | p :: m, h, k => by
    obtain ⟨h1, h2⟩ := srt_cons.1 h
    have ih := getR_eq h2 k
    unfold getR at ih ⊢
    rw [fnd_cons, lb_cons, cGet_cons]
    by_cases c : bl p.1 k = true
    · rw [if_pos c, if_pos c, (beq_of_bl c).1, List.getElem?_cons_succ]
      exact ih
    · rw [if_neg c, if_neg c]
      have c2 : bl p.1 k = false := by simpa using c
      by_cases e : (p.1 == k) = true
      · rw [if_pos e, if_pos e]; rfl
      · rw [if_neg e, if_neg e, cGet_none fun q hq => ?_]
        · rfl
        · have e1 : p.1 ≠ k := by simpa using e
          rcases bl_total e1 with e2 | e2
          · exact absurd e2 c
          · exact (beq_of_bl (bl_trans e2 (h1 q hq))).2
theorem putL_eq : ∀ {m : List Rg} (_ : Srt m) (k v : BL), putL m k v = cPut m k v
  | [], _, _, _ => rfl
  | p :: m, h, k, v => by
    obtain ⟨h1, h2⟩ := srt_cons.1 h
    have ih := putL_eq h2 k v
    unfold putL cPut at ih ⊢
    rw [fnd_cons, lb_cons, List.filter_cons, List.filter_cons]
    by_cases c : bl p.1 k = true
    · rw [if_pos c, if_pos c, if_pos c, bl_asym c, List.getElem?_cons_succ, List.set_cons_succ, List.take_succ_cons, List.drop_succ_cons]
      simp only [Bool.false_eq_true, if_false, List.cons_append]
      rw [← ih]
      split <;> rfl
    · have c2 : bl p.1 k = false := by simpa using c
      rw [if_neg c, if_neg c, if_neg c, filter_none fun q hq => bl_up c2 (h1 q hq)]
      by_cases e : (p.1 == k) = true
      · have e1 : p.1 = k := by simpa using e
        rw [if_pos e, ← e1, bl_irrefl]
        simp only [Bool.false_eq_true, if_false, List.nil_append, List.getElem?_cons_zero, List.set_cons_zero, Option.getD_some]
        congr 1
        exact (List.filter_eq_self.2 fun q hq => h1 q hq).symm
      · have e1 : p.1 ≠ k := by simpa using e
        have e2 : bl k p.1 = true := by
          rcases bl_total e1 with e2 | e2
          · exact absurd e2 c
          · exact e2
        rw [if_neg e, if_pos e2]
        simp only [List.take_zero, List.nil_append, List.drop_zero]
        congr 2
        exact (List.filter_eq_self.2 fun q hq => bl_trans e2 (h1 q hq)).symm
theorem delL_eq : ∀ {m : List Rg} (_ : Srt m) (k : BL), delL m k = cDel m k
  | [], _, _ => rfl
  | p :: m, h, k => by
    obtain ⟨h1, h2⟩ := srt_cons.1 h
    have ih := delL_eq h2 k
    unfold delL cDel at ih ⊢
    rw [fnd_cons, lb_cons, List.filter_cons]
    by_cases c : bl p.1 k = true
    · have c3 : (p.1 != k) = true := by simp [bne, (beq_of_bl c).1]
      rw [if_pos c, if_pos c, if_pos c3, List.take_succ_cons, List.drop_succ_cons, ← ih]
      split <;> rfl
    · have c2 : bl p.1 k = false := by simpa using c
      rw [if_neg c, if_neg c]
      by_cases e : (p.1 == k) = true
      · have c3 : (p.1 != k) = false := by simp [bne, e]
        have e1 : p.1 = k := by simpa using e
        rw [if_pos e, c3]
        simp only [Bool.false_eq_true, if_false, List.take_zero, List.nil_append, List.drop_succ_cons, List.drop_zero]
        exact (List.filter_eq_self.2 fun q hq => by simp only [bne, (beq_of_bl (e1 ▸ h1 q hq)).2]; rfl).symm
      · have e1 : p.1 ≠ k := by simpa using e
        have e2 : bl k p.1 = true := by
          rcases bl_total e1 with e2 | e2
          · exact absurd e2 c
          · exact e2
        have c3 : (p.1 != k) = true := by simp [bne, e]
        rw [if_neg e, if_pos c3]
        congr 1
        exact (List.filter_eq_self.2 fun q hq => by simp only [bne, (beq_of_bl (bl_trans e2 (h1 q hq))).2]; rfl).symm

/-! ### Maps that may be -/
def Val (m : List Rg) : Prop := Srt m ∧ ∀ p ∈ m, ckK p.1 = true ∧ p.2.length ≤ 16
theorem val_mapE {m : List Rg} : mapE [] m = 0 ↔ Val m := by
  constructor
  · intro h
    obtain ⟨h1, h2⟩ := mapE_srt h
    exact ⟨h1, fun p hp => (h2 p hp).2⟩
  · rintro ⟨h1, h2⟩
    exact srt_mapE h1 fun p hp => ⟨bl_nil_l (ckK_len (h2 p hp).1).2, h2 p hp⟩
theorem val_filter {m : List Rg} {f : Rg → Bool} (h : Val m) : Val (m.filter f) := ⟨List.Pairwise.filter f h.1, fun p hp => h.2 p ((List.mem_filter.1 hp).1)⟩
theorem mid_lb : ∀ {m : List Rg} (_ : Srt m) {a b : BL} (_ : bl a b = true), (m.drop (lb m a)).take (lb m b - lb m a) = m.filter fun p => !bl p.1 a && bl p.1 b
  | [], _, _, _, _ => by simp [lb]
  | p :: m, h, a, b, hab => by
    obtain ⟨h1, h2⟩ := srt_cons.1 h
    by_cases c : bl p.1 a = true
    · rw [lb_cons, lb_cons, if_pos c, if_pos (bl_trans c hab), List.filter_cons, c]
      simp only [Bool.not_true, Bool.false_and, Bool.false_eq_true, if_false, List.drop_succ_cons, Nat.add_sub_add_right]
      exact mid_lb h2 hab
    · have c2 : bl p.1 a = false := by simpa using c
      have h0 : lb (p :: m) a = 0 := by rw [lb_cons, if_neg c]
      rw [h0, List.drop_zero, Nat.sub_zero, take_lb h]
      refine filter_same fun q hq => ?_
      rcases List.mem_cons.1 hq with rfl | hq
      · rw [c2]; rfl
      · rw [bl_up c2 (h1 q hq)]; rfl
theorem out_lb : ∀ {m : List Rg} (_ : Srt m) {a b : BL} (_ : bl a b = true), m.take (lb m a) ++ m.drop (lb m b) = m.filter fun p => bl p.1 a || !bl p.1 b
  | [], _, _, _, _ => by simp [lb]
  | p :: m, h, a, b, hab => by
    obtain ⟨h1, h2⟩ := srt_cons.1 h
    by_cases c : bl p.1 a = true
    · rw [lb_cons, lb_cons, if_pos c, if_pos (bl_trans c hab), List.filter_cons, c]
      simp only [Bool.true_or, if_true, List.take_succ_cons, List.drop_succ_cons, List.cons_append]
      rw [out_lb h2 hab]
    · have c2 : bl p.1 a = false := by simpa using c
      have h0 : lb (p :: m) a = 0 := by rw [lb_cons, if_neg c]
      rw [h0, List.take_zero, List.nil_append, drop_lb h]
      refine filter_same fun q hq => ?_
      rcases List.mem_cons.1 hq with rfl | hq
      · rw [c2]; rfl
      · rw [bl_up c2 (h1 q hq)]; rfl
theorem clearL_eq {m : List Rg} (h : Val m) {r : Rg} (hr : ckR r = true) : clearL m r = cOut m r := by
  unfold clearL cOut endsL
  have h1 := ckR_lt hr
  by_cases e : r.2 = []
  · have e2 : (r.2 == []) = true := by simp [e]
    simp only [e2, if_true, List.drop_length, List.append_nil]
    rw [take_lb h.1]
    exact filter_same fun q hq => by rw [has_iff hr (h.2 q hq).1, e2]; simp
  · have e2 : (r.2 == []) = false := by simp [e]
    rw [e2] at h1
    simp only [Bool.false_or] at h1
    simp only [e2, Bool.false_eq_true, if_false]
    rw [out_lb h.1 h1]
    exact filter_same fun q hq => by rw [has_iff hr (h.2 q hq).1, e2]; simp [Bool.not_and]
theorem mid_eq {m : List Rg} (h : Val m) {r : Rg} (hr : ckR r = true) : (m.drop (endsL m r).1).take ((endsL m r).2 - (endsL m r).1) = cIn m r := by
  unfold cIn endsL
  have h1 := ckR_lt hr
  by_cases e : r.2 = []
  · have e2 : (r.2 == []) = true := by simp [e]
    simp only [e2, if_true]
    rw [List.take_of_length_le (by rw [List.length_drop]; omega), drop_lb h.1]
    exact filter_same fun q hq => by rw [has_iff hr (h.2 q hq).1, e2]; simp
  · have e2 : (r.2 == []) = false := by simp [e]
    rw [e2] at h1
    simp only [Bool.false_or] at h1
    simp only [e2, Bool.false_eq_true, if_false]
    rw [mid_lb h.1 h1]
    exact filter_same fun q hq => by rw [has_iff hr (h.2 q hq).1, e2]; simp
theorem scanL_eq {m : List Rg} (h : Val m) {r : Rg} (hr : ckR r = true) (n : Nat) : scanL m r n = (cIn m r).take n := by
  unfold scanL
  rw [← mid_eq h hr, List.take_take]
  congr 1
  omega

/-! ### One operation -/
abbrev Rs := Bool × BL × List Rg
def doM (m : List Rg) (o : OpT) : List Rg := if o.kind = 2 then cPut m o.key o.val else if o.kind = 3 then cDel m o.key else if o.kind = 5 then cOut m (o.lo, o.hi) else m
def doR (m : List Rg) (o : OpT) : Rs := if o.kind = 1 then ((cGet m o.key).isSome, (cGet m o.key).getD [], []) else if o.kind = 4 then (false, [], (cIn m (o.lo, o.hi)).take o.most.toNat) else (false, [], [])
theorem val_put {m : List Rg} (h : Val m) {k v : BL} (hk : ckK k = true) (hv : v.length ≤ 16) : Val (cPut m k v) := by
  refine ⟨?_, fun p hp => ?_⟩
  · refine List.pairwise_append.2 ⟨List.Pairwise.filter _ h.1, List.pairwise_cons.2 ⟨fun q hq => (List.mem_filter.1 hq).2, List.Pairwise.filter _ h.1⟩, fun p hp q hq => ?_⟩
    have h1 := (List.mem_filter.1 hp).2
    rcases List.mem_cons.1 hq with rfl | hq
    · exact h1
    · exact bl_trans h1 (List.mem_filter.1 hq).2
  · rcases List.mem_append.1 hp with hp | hp
    · exact h.2 p ((List.mem_filter.1 hp).1)
    · rcases List.mem_cons.1 hp with rfl | hp
      · exact ⟨hk, hv⟩
      · exact h.2 p ((List.mem_filter.1 hp).1)
theorem len_put {m : List Rg} {k v : BL} : (cPut m k v).length ≤ m.length + 1 := by
  unfold cPut
  induction m with
  | nil => simp
  | cons p m ih =>
    rw [List.length_append, List.length_cons] at ih ⊢
    rw [List.filter_cons, List.filter_cons]
    cases c : bl p.1 k
    · cases d : bl k p.1 <;> simp <;> omega
    · rw [bl_asym c]; simp; omega
theorem val_do {m : List Rg} (h : Val m) {o : OpT} (ho : ckO o = 0) : Val (doM m o) := by
  obtain ⟨h1, h2, _⟩ := ckO_key ho
  have hv : o.val.length ≤ 16 := by
    unfold ckO at ho
    split at ho; · cases ho
    split at ho; · cases ho
    split at ho; · cases ho
    rename_i h3
    simpa using h3
  unfold doM
  split
  · rename_i e
    exact val_put h (h2 (by rw [e]; rfl)) hv
  · split
    · exact val_filter h
    · split
      · exact val_filter h
      · exact h
theorem len_do {m : List Rg} {o : OpT} : (doM m o).length ≤ m.length + 1 := by
  unfold doM
  split
  · exact len_put
  · split
    · have := List.length_filter_le (fun p : Rg => p.1 != o.key) m
      unfold cDel; omega
    · split
      · have := List.length_filter_le (fun p : Rg => !hasR (o.lo, o.hi) p.1) m
        unfold cOut; omega
      · omega
def apM : List Rg → List OpT → List Rg
  | m, [] => m
  | m, o :: l => apM (doM m o) l
def apR : List Rg → List OpT → List Rs
  | _, [] => []
  | m, o :: l => doR m o :: apR (doM m o) l
theorem apM_snoc : ∀ (l : List OpT) (m : List Rg) (o : OpT), apM m (l ++ [o]) = doM (apM m l) o
  | [], _, _ => rfl
  | _ :: l, m, o => apM_snoc l _ o
theorem apR_snoc : ∀ (l : List OpT) (m : List Rg) (o : OpT), apR m (l ++ [o]) = apR m l ++ [doR (apM m l) o]
  | [], _, _ => rfl
  | p :: l, m, o => by
    show doR m p :: apR (doM m p) (l ++ [o]) = _
    rw [apR_snoc l _ o]
    rfl
theorem apR_len : ∀ (l : List OpT) (m : List Rg), (apR m l).length = l.length
  | [], _ => rfl
  | _ :: l, m => by
    show (apR _ l).length + 1 = _
    rw [apR_len l]
    rfl
theorem allE_cons0 {o : OpT} {l : List OpT} (h : allE (o :: l) = 0) : ckO o = 0 ∧ allE l = 0 := by
  rw [allE_cons] at h
  split at h
  · exact ⟨by assumption, h⟩
  · exact absurd h (by assumption)
theorem val_ap : ∀ {l : List OpT} {m : List Rg}, Val m → allE l = 0 → Val (apM m l)
  | [], _, h, _ => h
  | o :: l, m, h, hl => val_ap (l := l) (val_do h (allE_cons0 hl).1) (allE_cons0 hl).2
theorem len_ap : ∀ {l : List OpT} {m : List Rg}, (apM m l).length ≤ m.length + l.length
  | [], m => by simp [apM]
  | o :: l, m => by
    have h1 : (apM (doM m o) l).length ≤ (doM m o).length + l.length := len_ap
    have h2 := len_do (m := m) (o := o)
    simp only [apM, List.length_cons]
    omega

end Go.Proofs.Ythnjkakmkmoceaa.Ab
