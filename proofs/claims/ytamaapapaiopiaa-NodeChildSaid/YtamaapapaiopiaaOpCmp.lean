/- slices.Insert of pairs: known by the kit's walks. -/
import Derived.Test.YtamaapapaiopiaaStrCmp
import Derived.Test.YtamaapapaiopiaaBIns
import Derived.Shelf.Spec.SlicesInsert
set_option linter.unusedVariables false
set_option linter.unusedSimpArgs false
set_option linter.unusedSectionVars false
namespace Go.Proofs.Ytamaapapaiopiaa.Ab
open Go Go.RowKit Go.Lib Go.Shelf

/-! ### slices.Insert -/
set_option maxHeartbeats 4000000 in
set_option maxRecDepth 100000 in
theorem InsD (b off n c i vb voff m vc : Nat) (w : World) (hi : i < n) (hm : 0 < m) (hroom : n + m ≤ c) (hc63 : n + m ≤ 9223372036854775807)
    (hov : ∀ lb cb, (callFunc 102 #[.slice (some ⟨vb, voff, none⟩) m vc, .slice (some ⟨b, off + (i + m) * 2, none⟩) lb cb]).run Try.prog w = .ok (.value (.bool false)) w)
    (W1 : World) (r1 : Value) (hcp1 : ∀ ty dc sc, (Builtin.copy_ #[24, 24] ty #[.slice (some ⟨b, off + (i + m) * 2, none⟩) (n + m - (i + m)) dc, .slice (some ⟨b, off + i * 2, none⟩) (n + m - i) sc]).run Try.prog w.drew = .ok r1 W1)
    (W2 : World) (r2 : Value) (hcp2 : ∀ ty dc, (Builtin.copy_ #[24, 24] ty #[.slice (some ⟨b, off + i * 2, none⟩) (n + m - i) dc, .slice (some ⟨vb, voff, none⟩) m vc]).run Try.prog W1 = .ok r2 W2) :
    Calls Try.prog 95 #[.slice (some ⟨b, off, none⟩) n c, .int .i64 i, .slice (some ⟨vb, voff, none⟩) m vc] w fun e w' => e = .returned (.slice (some ⟨b, off, none⟩) (n + m) c) ∧ w' = W2 := by
  have hz1 : ¬ ((m : Int) = 0) := by omega
  have hz2 : ¬ ((i : Int) = (n : Int)) := by omega
  have hsz : (Try.prog.info? 45).map (·.size) = some 2 := by kernel_rfl
  have hw1 : IntKind.i64.wrap ((i : Int) + (m : Int)) = (i : Int) + (m : Int) := by rw [IntKind.wrap_i64]; omega
  have hb1 : (0 : Int) ≤ (i : Int) + (m : Int) := by omega
  have hin : i ≤ n := by omega
  have htn : ((i : Int) + (m : Int)).toNat = i + m := by omega
  have hb2 : ¬ (c = i + m) := by omega
  have hb3 : (i : Int) ≤ (n : Int) + (m : Int) := by omega
  have hb4 : ¬ (c = i) := by omega
  have mixed : Try.prog.follows .mixedOrders = true := by kernel_rfl
  go_enter Try.func95, Try.ntmps95
  go_wp2_with (simp only [hov])
  go_region_law_o (refine step_copy_runI rfl _ _ 24 24 rfl _ _ (by simp [Act.eval, Act.put]) (by simp [Act.eval, Act.put]) (hcp1 _ _ _) ?_)
  go_wp2_with (at_builtin; refine wpList_copy_runI _ rfl _ _ 24 24 rfl _ _ rfl rfl (hcp2 _ _) ?_)
  go_ret
  exact ⟨rfl, rfl⟩
set_option maxHeartbeats 4000000 in
set_option maxRecDepth 100000 in
theorem InsE (b off n c i vb voff m vc : Nat) (w : World) (hi : i < n) (hm : 0 < m) (hnc : n ≤ c) (hroom : c < n + m) (hc63 : n + m ≤ 9223372036854775807)
    (W0 : World) (N cap : Nat) (hcap : n + m ≤ cap) (hap : ∀ ty, (Builtin.append_ #[24, 3] ty #[.slice (some ⟨b, off, none⟩) i c, .int .i64 ((n : Int) + (m : Int) - (i : Int))]).run Try.prog w = .ok (.slice (some ⟨N, 0, none⟩) (n + m) cap) W0)
    (W1 : World) (r1 : Value) (hcp1 : ∀ ty dc, (Builtin.copy_ #[24, 24] ty #[.slice (some ⟨N, i * 2, none⟩) (n + m - i) dc, .slice (some ⟨vb, voff, none⟩) m vc]).run Try.prog W0 = .ok r1 W1)
    (W2 : World) (r2 : Value) (hcp2 : ∀ ty dc sc, (Builtin.copy_ #[24, 24] ty #[.slice (some ⟨N, (i + m) * 2, none⟩) (n + m - (i + m)) dc, .slice (some ⟨b, off + i * 2, none⟩) (n - i) sc]).run Try.prog W1.drew = .ok r2 W2) :
    Calls Try.prog 95 #[.slice (some ⟨b, off, none⟩) n c, .int .i64 i, .slice (some ⟨vb, voff, none⟩) m vc] w fun e w' => e = .returned (.slice (some ⟨N, 0, none⟩) (n + m) cap) ∧ w' = W2 := by
  have hz1 : ¬ ((m : Int) = 0) := by omega
  have hz2 : ¬ ((i : Int) = (n : Int)) := by omega
  have hz3 : (c : Int) < (n : Int) + (m : Int) := by omega
  have hsz : (Try.prog.info? 45).map (·.size) = some 2 := by kernel_rfl
  have hw1 : IntKind.i64.wrap ((i : Int) + (m : Int)) = (i : Int) + (m : Int) := by rw [IntKind.wrap_i64]; omega
  have hb1 : (0 : Int) ≤ (i : Int) + (m : Int) := by omega
  have hin : i ≤ n := by omega
  have hb3 : (i : Int) ≤ (n : Int) := by omega
  have hb5 : ¬ (cap = i + m) := by omega
  have hb6 : ¬ (c = i) := by omega
  have htn : ((i : Int) + (m : Int)).toNat = i + m := by omega
  have mixed : Try.prog.follows .mixedOrders = true := by kernel_rfl
  go_enter Try.func95, Try.ntmps95
  go_wp2_with (first
    | (at_builtin; refine Lib.wpList_append_run _ rfl _ _ _ _ rfl _ _ rfl rfl _ _ (hap _) ?_)
    | (at_builtin; refine wpList_copy_runI _ rfl _ _ 24 24 rfl _ _ rfl rfl (hcp1 _ _) ?_)
    | (at_builtin; refine wpList_copy_runI _ rfl _ _ 24 24 rfl _ _ rfl rfl (hcp2 _ _ _) ?_))
  go_region_law_o (refine step_copy_runI rfl _ _ 24 24 rfl (.slice (some ⟨N, (i + m) * 2, none⟩) (n + m - (i + m)) (cap - (i + m))) (.slice (some ⟨b, off + i * 2, none⟩) (n - i) (c - i)) (by simp [Act.eval, Act.put, hb5, hb6]) (by simp [Act.eval, Act.put, hb5, hb6]) (hcp2 3 (cap - (i + m)) (c - i)) ?_)
  go_wp2
  go_ret
  exact ⟨rfl, rfl⟩
theorem insWalk : InsWalk Try.prog 95 24 45 3 102 2 32 where
  ht := Try.underlying24
  hI := Try.underlying3
  hn := by kernel_rfl
  hw := by kernel_rfl
  hz := ⟨.agg #[.string ⟨#[]⟩, .string ⟨#[]⟩], by kernel_rfl, rfl⟩
  hn2 := by decide
  hw0 := by decide
  hov w a b la ca lb cb hne tA tB kA kB h1 h2 h3 h4 h5 := by
    have hz : ∀ w, (Go.sizeOf 45).run Try.prog w = .ok 2 w := fun w => run_sizeOf' (by kernel_rfl)
    rw [run_callFunc_extern Try.func102 (by kernel_rfl) (by kernel_rfl) (by kernel_rfl) (e := Extern.SlicesOverlaps.overlaps #[24, 24] #[4]) (by kernel_rfl),
      Lib.run_overlaps_apart w 24 4 45 Try.underlying24 2 hz a b la ca lb cb hne tA tB kA kB h1 h2 h3 h4 h5]
    rfl
  walkD := InsD
  walkE := InsE

def gIns : Sum := fun xs s => match xs with
  | [x, .int .i64 i, y] => if 0 ≤ i then
      (if lenV x = some i.toNat then (if (asliceV 2 x (some (.int .i64 i)) none none).isSome = true ∧ lenV y ≠ none ∧ lenV y ≠ some 0 then (aappend 2 32 x y s).bind fun r => retV [r.1] r.2 else none)
      else gInsMid 2 32 x i.toNat y s) else none
  | _ => none
theorem lenV_slice {x : Value} {n : Nat} {s : St} {u : Value} {lo hi mx : Option Value} (h : lenV x = some n) (hs : asliceV 2 x lo hi mx = some u) (e : TypeId) : alenV (.slice e) x s = some (.int .i64 (n : Int)) := by
  unfold asliceV at hs
  split at hs
  · cases h; rfl
  · cases hs
theorem ins_known {l : List (FuncId × Sum)} (hno : libL l 95 = none) (hl : LibOk Try.prog (libL l)) : ∀ args s v s', gIns args s = some (v, s') → ∀ wb ι w (args' : Array Value), Sim wb ι s.heap w → All2 (VRel ι) args args'.toList → Calls Try.prog 95 args' w fun e w' => ∃ v', e = .returned v' ∧ After wb ι s.heap w s'.heap v v' w' := by
  intro args s v s' h wb ι w args' hs ha
  unfold gIns at h
  split at h
  case h_2 => cases h
  rename_i x i y
  split at h
  case isFalse => cases h
  rename_i hi
  obtain ⟨i, rfl⟩ := Int.eq_ofNat_of_zero_le hi
  simp only [Int.toNat_natCast] at h
  split at h
  · rename_i hlen
    split at h
    case isFalse => cases h
    rename_i hc
    obtain ⟨hc1, hc2, hc3⟩ := hc
    obtain ⟨m, hm⟩ : ∃ m, lenV y = some (m + 1) := by
      cases e : lenV y with
      | none => exact absurd e hc2
      | some q => cases q with
        | zero => exact absurd e hc3
        | succ m => exact ⟨m, rfl⟩
    obtain ⟨u, hu⟩ := Option.isSome_iff_exists.1 hc1
    have hrun : run Try.prog (libL l) hints 95 [x, .int .i64 (i : Int), y] s = some (v, s') := by
      refine slices_Insert_api_Pair_api_Pair_of hno ?_
      unfold slices_Insert_api_Pair_api_Pair
      simp only [Option.bind_eq_some_iff] at h
      obtain ⟨r, hr, hv⟩ := h
      have hy : ∀ e, alenV (.slice e) y s = some (.int .i64 ((m + 1 : Nat) : Int)) := fun e => by
        unfold aappend at hr
        split at hr
        case isFalse => cases hr
        simp only [Option.bind_eq_some_iff] at hr
        obtain ⟨m', _, new, hnew, _⟩ := hr
        unfold elemsOf at hnew
        split at hnew
        · cases hm
        · cases hm; rfl
        · simp at hnew
        · cases hnew
      have e1 : (((m + 1 : Nat) : Int) == 0) = false := by rw [beq_eq_false_iff_ne]; omega
      simp only [hu, hy, lenV_slice hlen hu, e1, beq_self_eq_true, n_bind, n_map, getL_0, getL_1, getL_2, getL_3, getL_4, getL_5, getL_6, getL_7, getL_8, getL_9, getL_10, getL_11, getL_12, condV_t, condV_f, guardV_tt, guardV_ff, guardV_tf, guardV_ft, guardV_u, apick_t, apick_f, exV_exit, exV_ret, lookE_same, joinK_eq, seqA_n, seqA_e, seqA_r, e_add, e_sub, e_mul, e_eql, e_neq, e_lss, e_leq, e_gtr, e_geq, e_conv, e_not, e_neg, and_guard, or_guard, hr]
      exact hv
    exact run_sound progOk hl _ _ _ _ _ hrun slices_Insert_api_Pair_api_Pair_ok _ _ _ _ hs ha
  · exact ins_sound insWalk h hs ha

end Go.Proofs.Ytamaapapaiopiaa.Ab
