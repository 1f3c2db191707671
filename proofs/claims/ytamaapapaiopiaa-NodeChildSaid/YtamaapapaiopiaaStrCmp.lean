/- Compared strings: known by the kit's walk. -/
import Derived.Test.YtamaapapaiopiaaSpAll
import Derived.Lib.Strings
import Derived.Lib.Bytealg
set_option linter.unusedVariables false
set_option linter.unusedSimpArgs false
set_option linter.unusedSectionVars false
namespace Go.Proofs.Ytamaapapaiopiaa.Ab
open Go Go.RowKit Go.Lib

theorem libOk_direct {P : Program} (hprog : progW P = true) {l : List (FuncId × Sum)} (hl : LibOk P (libL l)) {f : FuncId} {g : Sum} (hok : funcOk P f = true)
    (hg : LibOk P (libL l) → ∀ args s v s', g args s = some (v, s') → ∀ wb ι w (args' : Array Value), Sim wb ι s.heap w → All2 (VRel ι) args args'.toList → Calls P f args' w fun e w' => ∃ v', e = .returned v' ∧ After wb ι s.heap w s'.heap v v' w') : LibOk P (libL ((f, g) :: l)) := by
  intro f' g' hf' args s v s' h wb ι w args' hs ha
  simp only [libL] at hf'
  split at hf'
  · rename_i hff
    cases hf'
    subst hff
    exact hg hl args s v s' h wb ι w args' hs ha
  · exact hl f' g' hf' args s v s' h wb ι w args' hs ha

/-! ### Strings compared -/
def cmpL (a b : BL) : Int := if a == b then 0 else if bl a b then -1 else 1
theorem cmp_eq : ∀ (a b : BL), Lib.compareBytes a b = cmpL a b
  | [], [] => rfl
  | [], _ :: _ => rfl
  | _ :: _, [] => rfl
  | x :: a, y :: b => by
    have ih := cmp_eq a b
    unfold Lib.compareBytes
    unfold cmpL at ih ⊢
    by_cases h1 : x < y
    · have h2 : x ≠ y := fun e => by subst e; exact absurd h1 (by simp)
      have h3 : bl (x :: a) (y :: b) = true := bl_cons.2 (.inl (UInt8.lt_iff_toNat_lt.1 h1))
      simp [h1, h2, h3]
    · by_cases h4 : y < x
      · have h2 : x ≠ y := fun e => by subst e; exact absurd h4 (by simp)
        have h3 : bl (x :: a) (y :: b) = false := bl_asymm (bl_cons.2 (.inl (UInt8.lt_iff_toNat_lt.1 h4)))
        have h5 : Op.bytesLess (x :: a) (y :: b) = false := h3
        simp [h1, h4, h2, h5]
      · have e : x = y := by
          apply UInt8.toNat_inj.1
          rw [UInt8.lt_iff_toNat_lt] at h1 h4
          omega
        subst e
        have h3 : bl (x :: a) (x :: b) = bl a b := by
          cases h : bl a b with
          | true => exact bl_cons.2 (.inr ⟨rfl, h⟩)
          | false =>
            cases g : bl (x :: a) (x :: b) with
            | false => rfl
            | true =>
              rcases bl_cons.1 g with g | ⟨_, g⟩
              · omega
              · rw [h] at g; cases g
        simp only [h1, if_false, ih, h3]
        simp
set_option maxHeartbeats 1000000 in
set_option maxRecDepth 100000 in
theorem CompareString_calls (a b : ByteArray) (w : World) :
    Calls Try.prog 104 #[.string a, .string b] w fun e w' => e = .returned (.int .i64 (Lib.compareBytes a.data.toList b.data.toList)) ∧ w' = w := by
  go_enter Try.func104, Try.ntmps104
  go_wp2
  rw [run_callFunc_extern Try.func106 (by kernel_rfl) (by kernel_rfl) (by kernel_rfl) (e := Extern.BytealgCompare.compare) (by kernel_rfl), Lib.run_compareString]
  simp only [Result.andThen]
  rw [Oper.upon_value]
  go_wp2
  go_ret
  exact ⟨rfl, rfl⟩
theorem two_args {R : Value → Value → Prop} {x y : Value} {l : List Value} (h : All2 R [x, y] l) : ∃ x' y', l = [x', y'] ∧ R x x' ∧ R y y' := by
  match l, h with
  | [x', y'], h => exact ⟨x', y', rfl, h.1, h.2.1⟩
def gCmp : Sum := gP (G2KK fun a b => .int .i64 (cmpL a b))
theorem cmp_known {l : List (FuncId × Sum)} (_ : LibOk Try.prog (libL l)) : ∀ args s v s', gCmp args s = some (v, s') → ∀ wb ι w (args' : Array Value), Sim wb ι s.heap w → All2 (VRel ι) args args'.toList → Calls Try.prog 104 args' w fun e w' => ∃ v', e = .returned v' ∧ After wb ι s.heap w s'.heap v v' w' := by
  intro args s v s' h wb ι w args' hs ha
  unfold gCmp gP G2KK at h
  simp only [Option.map_eq_some_iff] at h
  obtain ⟨u, h, e⟩ := h
  cases e
  split at h
  case h_2 => cases h
  rename_i x y
  simp only [Option.bind_eq_some_iff, Option.map_eq_some_iff] at h
  obtain ⟨a, h1, b, h2, rfl⟩ := h
  obtain ⟨l⟩ := args'
  obtain ⟨x', y', rfl, hx, hy⟩ := two_args ha
  rw [asBl_some h1] at hx
  rw [asBl_some h2] at hy
  have ex := hx.inv_string
  have ey := hy.inv_string
  subst ex
  subst ey
  refine (CompareString_calls ⟨a.toArray⟩ ⟨b.toArray⟩ w).mono ?_
  rintro e w' ⟨rfl, rfl⟩
  refine ⟨_, rfl, ?_⟩
  have := cmp_eq a b
  rw [show (⟨a.toArray⟩ : ByteArray).data.toList = a from rfl, show (⟨b.toArray⟩ : ByteArray).data.toList = b from rfl, this]
  exact after_same hs (.of0 (.int _ _))

theorem cmp_lt {a b : BL} : decide (cmpL a b < 0) = bl a b := by
  unfold cmpL
  by_cases h : a = b
  · subst h; simp [bl_irrefl]
  · have : (a == b) = false := by simp [h]
    rw [this]
    cases bl a b <;> rfl
theorem cmp_0 {a b : BL} : (cmpL a b == 0) = (a == b) := by
  unfold cmpL
  by_cases h : a = b
  · subst h; simp
  · have : (a == b) = false := by simp [h]
    rw [this]
    cases bl a b <;> rfl
theorem Compare_run {R : Caller} (hC : ∀ a b s, R 104 [sv a, sv b] s = some (.int .i64 (cmpL a b), s)) (a b : BL) (s : St) : strings_Compare R (sv a) (sv b) s = some (.int .i64 (cmpL a b), s) := by
  unfold strings_Compare
  simp only [internal_bytealg_CompareString_call, hC, n_bind, n_map, getL_0, getL_1, getL_2, getL_3, getL_4, getL_5, getL_6, getL_7, getL_8, getL_9, getL_10, getL_11, getL_12, condV_t, condV_f, guardV_tt, guardV_ff, guardV_tf, guardV_ft, guardV_u, apick_t, apick_f, exV_exit, exV_ret, lookE_same, joinK_eq, seqA_n, seqA_e, seqA_r, e_add, e_sub, e_mul, e_eql, e_neq, e_lss, e_leq, e_gtr, e_geq, e_conv, e_not, e_neg, and_guard, or_guard, retV]
  rfl

end Go.Proofs.Ytamaapapaiopiaa.Ab
