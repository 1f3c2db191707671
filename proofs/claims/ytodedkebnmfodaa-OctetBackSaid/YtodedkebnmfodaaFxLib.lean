/- What is known of each function of the layer, level by level. -/
import Derived.Test.YtodedkebnmfodaaFxRead
import Derived.Test.YtodedkebnmfodaaFxCrc
import Derived.Test.YtodedkebnmfodaaFxSum
set_option linter.unusedVariables false
set_option linter.unusedSimpArgs false
set_option linter.unusedSectionVars false
namespace Go.Proofs.Ytodedkebnmfodaa.Ab
open Go

theorem progOk : progW Try.prog = true := by kernel_rfl

def gBytes1 (G : List UInt8 → Option Value) : Sum := fun xs s => (match xs with | [v] => (bytesOf v s).bind fun l => if l.length ≤ 140737488355328 then G l else none | _ => none).map fun v => (v, s)
theorem gBytes1_eq {G : List UInt8 → Option Value} {v : Value} {s : St} {l : List UInt8} (h : bytesOf v s = some l) (hl : l.length ≤ 140737488355328) : gBytes1 G [v] s = (G l).map fun v => (v, s) := by
  simp only [gBytes1, h, Option.bind_some, if_pos hl]
theorem bytes1_sum {lib : Lib} {f : FuncId} {G : List UInt8 → Option Value} (h : ∀ v s l r, bytesOf v s = some l → l.length ≤ 140737488355328 → G l = some r → plainV r = true ∧ ∃ t0, run Try.prog lib hints f [v] s = some (r, t0)) : SumOk Try.prog lib hints f (gBytes1 G) :=
  SumOk.plain (G := fun xs s => match xs with | [v] => (bytesOf v s).bind fun l => if l.length ≤ 140737488355328 then G l else none | _ => none) fun xs s v hh => by
    split at hh
    · rename_i v0
      simp only [Option.bind_eq_some_iff] at hh
      obtain ⟨l, h1, h2⟩ := hh
      split at h2
      · rename_i hl
        exact h v0 (frzS s) l v (by rw [bytesOf_frz]; exact h1) hl h2
      · cases h2
    · cases hh

def gReadText : Sum := fun xs s => (match xs with | [v, .int .i64 m] => if -9223372036854775808 ≤ m ∧ m < 9223372036854775808 then (bytesOf v s).bind fun l => if l.length ≤ 150000000000000 then some (tupT (readText l m).1 (readText l m).2.1 (readText l m).2.2) else none else none | _ => none).map fun v => (v, s)
theorem gReadText_eq {v : Value} {s : St} {l : List UInt8} {m : Int} (h : bytesOf v s = some l) (hl : l.length ≤ 150000000000000) (h1 : -9223372036854775808 ≤ m) (h2 : m < 9223372036854775808) : gReadText [v, .int .i64 m] s = some (tupT (readText l m).1 (readText l m).2.1 (readText l m).2.2, s) := by
  simp only [gReadText, if_pos (And.intro h1 h2), h, Option.bind_some, if_pos hl, Option.map_some]
theorem readText_sum {lib : Lib} {f : FuncId} (h : ∀ v s l m, bytesOf v s = some l → l.length ≤ 150000000000000 → -9223372036854775808 ≤ m → m < 9223372036854775808 → run Try.prog lib hints f [v, .int .i64 m] s = some (tupT (readText l m).1 (readText l m).2.1 (readText l m).2.2, s)) : SumOk Try.prog lib hints f gReadText :=
  SumOk.plain (G := fun xs s => match xs with | [v, .int .i64 m] => if -9223372036854775808 ≤ m ∧ m < 9223372036854775808 then (bytesOf v s).bind fun l => if l.length ≤ 150000000000000 then some (tupT (readText l m).1 (readText l m).2.1 (readText l m).2.2) else none else none | _ => none) fun xs s v hh => by
    split at hh
    · rename_i v0 m
      split at hh
      · rename_i hm
        simp only [Option.bind_eq_some_iff] at hh
        obtain ⟨l, h1, h2⟩ := hh
        split at h2
        · rename_i hl
          cases h2
          exact ⟨rfl, _, h v0 (frzS s) l m (by rw [bytesOf_frz]; exact h1) hl hm.1 hm.2⟩
        · cases h2
      · cases hh
    · cases hh

def gText : Sum := fun xs s => (match xs with | [.string t] => if t.size ≤ 140737488300000 then some (textB t) else none | _ => none).map fun l => newBytes l s
theorem gText_eq {t : ByteArray} {s : St} (h : t.size ≤ 140737488300000) : gText [.string t] s = some (newBytes (textB t) s) := by
  simp only [gText, if_pos h, Option.map_some]
theorem text_sum {lib : Lib} {f : FuncId} (h : ∀ t s, t.size ≤ 140737488300000 → ∃ v s', run Try.prog lib hints f [.string t] s = some (v, s') ∧ Own s.heap.length 1 s' v (bv (textB t))) : SumOk Try.prog lib hints f gText :=
  SumOk.bytes (G := fun xs _ => match xs with | [.string t] => if t.size ≤ 140737488300000 then some (textB t) else none | _ => none) fun xs s l hh => by
    split at hh
    · rename_i t
      split at hh
      · rename_i ht
        cases hh
        obtain ⟨v, s', h1, h2⟩ := h t (frzS s) ht
        rw [frzS_len] at h2
        exact ⟨textB_ne, v, s', h1, h2⟩
      · cases hh
    · cases hh

def gFixed : Sum := fun xs s => (match xs with | [.int .u32 a] => if 0 ≤ a ∧ a < 4294967296 then some (fixV a.toNat) else none | _ => none).map fun v => (v, s)
theorem gFixed_eq {n : Nat} {s : St} (h : n < 4294967296) : gFixed [.int .u32 (n : Int)] s = some (fixV n, s) := by
  simp only [gFixed]
  rw [if_pos (by omega)]
  rfl
theorem fixed_sum {lib : Lib} {f : FuncId} (h : ∀ n s, n < 4294967296 → run Try.prog lib hints f [.int .u32 ((n : Nat) : Int)] s = some (fixV n, s)) : SumOk Try.prog lib hints f gFixed :=
  SumOk.plain (G := fun xs _ => match xs with | [.int .u32 a] => if 0 ≤ a ∧ a < 4294967296 then some (fixV a.toNat) else none | _ => none) fun xs s v hh => by
    split at hh
    · rename_i a
      split at hh
      · rename_i ha
        cases hh
        obtain ⟨n, rfl⟩ := Int.eq_ofNat_of_zero_le ha.1
        exact ⟨rfl, _, h n (frzS s) (by omega)⟩
      · cases hh
    · cases hh

def gConst (v : Value) : Sum := fun xs s => (match xs with | [] => some v | _ => none).map fun v => (v, s)
theorem gConst_eq {v : Value} {s : St} : gConst v [] s = some (v, s) := rfl
theorem const_sum {lib : Lib} {f : FuncId} {v : Value} (hv : plainV v = true) (h : ∀ s, ∃ t, run Try.prog lib hints f [] s = some (v, t)) : SumOk Try.prog lib hints f (gConst v) :=
  SumOk.plain (G := fun xs _ => match xs with | [] => some v | _ => none) fun xs s r hh => by
    split at hh
    · cases hh
      exact ⟨hv, h (frzS s)⟩
    · cases hh

theorem tabV_plain : plainV tabV = true := by
  show (tabC 256).toArray.toList.all leafOk = true
  simp [tabC, tabL, List.all_eq_true, leafOk]

/-! ### The levels -/
def gSum : Sum := gBytes1 fun l => some (.int .u32 ((sumV l : Nat) : Int))
def gReadFixed : Sum := gBytes1 fun l => some (tupF (readFix l).1 (readFix l).2)
def lib1 : List (FuncId × Sum) := [(15, gNum)]
def lib2 : List (FuncId × Sum) := (13, gReadNum) :: lib1
def lib3 : List (FuncId × Sum) := (16, gNum) :: lib2
def lib4 : List (FuncId × Sum) := (27, gConst tabV) :: lib3
def lib5 : List (FuncId × Sum) := (25, gFixed) :: lib4
def lib6 : List (FuncId × Sum) := (26, gFixed) :: lib5
def lib7 : List (FuncId × Sum) := (23, gReadFixed) :: lib6
def lib8 : List (FuncId × Sum) := (24, gReadFixed) :: lib7
def lib9 : List (FuncId × Sum) := (14, gReadNum) :: lib8
def lib10 : List (FuncId × Sum) := (17, gSum) :: lib9
def lib11 : List (FuncId × Sum) := (18, gSum) :: lib10
def lib12 : List (FuncId × Sum) := (19, gReadText) :: lib11
def lib13 : List (FuncId × Sum) := (20, gReadText) :: lib12
def lib14 : List (FuncId × Sum) := (21, gText) :: lib13
def lib15 : List (FuncId × Sum) := (22, gText) :: lib14
def lib16 : List (FuncId × Sum) := (12, gConst (.bool true)) :: lib15

theorem lib1_ok : LibOk Try.prog (libL lib1) := libOk_cons progOk (libOk_nil _) octet_Num_ok (Num_sum rfl)
theorem lib2_ok : LibOk Try.prog (libL lib2) := libOk_cons progOk lib1_ok octet_ReadNum_ok (ReadNum_sum rfl)
theorem lib3_ok : LibOk Try.prog (libL lib3) := libOk_cons progOk lib2_ok ref01_Num_ok (refNum_sum rfl)
theorem lib4_ok : LibOk Try.prog (libL lib4) := libOk_cons progOk lib3_ok octet_steps_ok (const_sum tabV_plain fun s => ⟨s, octet_steps_of rfl (steps_run s)⟩)
theorem lib5_ok : LibOk Try.prog (libL lib5) := libOk_cons progOk lib4_ok octet_Fixed_ok (fixed_sum fun _ s h => octet_Fixed_of rfl (Fixed_run h s))
theorem lib6_ok : LibOk Try.prog (libL lib6) := libOk_cons progOk lib5_ok ref01_Fixed_ok (fixed_sum fun _ s h => ref01_Fixed_of rfl (refFixed_run h s))
theorem lib7_ok : LibOk Try.prog (libL lib7) := libOk_cons progOk lib6_ok octet_ReadFixed_ok (bytes1_sum fun v s l r h _ e => by cases e; exact ⟨rfl, s, octet_ReadFixed_of rfl (ReadFixed_run h)⟩)
theorem lib8_ok : LibOk Try.prog (libL lib8) := libOk_cons progOk lib7_ok ref01_ReadFixed_ok (bytes1_sum fun v s l r h _ e => by cases e; exact ⟨rfl, s, ref01_ReadFixed_of rfl (refReadFixed_run h)⟩)
theorem refReadNum_sum {lib : Lib} (hl : lib 14 = none) (hR : lib 16 = some gNum) : SumOk Try.prog lib hints 14 gReadNum :=
  SumOk.plain (G := fun xs s => match xs with | [v] => (bytesOf v s).map fun l => tup3 (readNum l).1 (readNum l).2.1 (readNum l).2.2 | _ => none) fun xs s v h => by
    split at h
    · simp only [Option.map_eq_some_iff] at h
      obtain ⟨l, hl2, rfl⟩ := h
      obtain ⟨s', h1⟩ := refReadNum_run (R := run Try.prog lib hints) (fun xs s => known hR) (s := frzS s) (by rw [bytesOf_frz]; exact hl2)
      rw [refRead_eq] at h1
      exact ⟨rfl, _, ref01_ReadNum_of hl h1⟩
    · cases h
theorem lib9_ok : LibOk Try.prog (libL lib9) := libOk_cons progOk lib8_ok ref01_ReadNum_ok (refReadNum_sum rfl rfl)
theorem lib10_ok : LibOk Try.prog (libL lib10) := libOk_cons progOk lib9_ok octet_Sum_ok (bytes1_sum fun v s l r h hl e => by cases e; exact ⟨rfl, s, octet_Sum_of rfl (Sum_run (fun s => (known (g := gConst tabV) rfl).trans gConst_eq) h hl)⟩)
theorem lib11_ok : LibOk Try.prog (libL lib11) := libOk_cons progOk lib10_ok ref01_Sum_ok (bytes1_sum fun v s l r h hl e => by cases e; rw [← sumV_eq]; exact ⟨rfl, s, ref01_Sum_of rfl (refSum_run h hl)⟩)
theorem lib12_ok : LibOk Try.prog (libL lib12) := libOk_cons progOk lib11_ok octet_ReadText_ok (readText_sum fun v s l m h hl h1 h2 => octet_ReadText_of rfl (ReadText_run (fun xs s => known rfl) h hl h1 h2))
theorem lib13_ok : LibOk Try.prog (libL lib13) := libOk_cons progOk lib12_ok ref01_ReadText_ok (readText_sum fun v s l m h hl h1 h2 => ref01_ReadText_of rfl (refReadText_run (fun xs s => known rfl) h hl h1 h2))
theorem lib14_ok : LibOk Try.prog (libL lib14) := libOk_cons progOk lib13_ok octet_Text_ok (text_sum fun t s ht => by
  obtain ⟨v, s', h1, h2, _⟩ := Text_run (R := run Try.prog (libL lib13) hints) (fun xs s => known rfl) ht s
  exact ⟨v, s', octet_Text_of rfl h1, h2⟩)
theorem lib15_ok : LibOk Try.prog (libL lib15) := libOk_cons progOk lib14_ok ref01_Text_ok (text_sum fun t s ht => by
  obtain ⟨v, s', h1, h2, _⟩ := refText_run (R := run Try.prog (libL lib14) hints) (fun xs s => known rfl) ht s
  exact ⟨v, s', ref01_Text_of rfl h1, h2⟩)

end Go.Proofs.Ytodedkebnmfodaa.Ab
