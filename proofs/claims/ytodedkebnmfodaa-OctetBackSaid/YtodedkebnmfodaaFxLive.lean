/- The chapter's examples hold. -/
import Derived.Test.YtodedkebnmfodaaFxLib
set_option linter.unusedVariables false
set_option linter.unusedSimpArgs false
set_option linter.unusedSectionVars false
namespace Go.Proofs.Ytodedkebnmfodaa.Ab
open Go

theorem live_run {R : Caller} (h1 : ∀ xs s, R 13 xs s = gReadNum xs s) (h2 : ∀ xs s, R 19 xs s = gReadText xs s) (h3 : ∀ xs s, R 15 xs s = gNum xs s) (h4 : ∀ xs s, R 17 xs s = gSum xs s) (s : St) : ∃ s', law01_live R s = some (.bool true, s') := by
  have e1 : ∀ s, abuildSl 1 [(.int .u8 0)] 3 [(0, (.int .u8 172)), (1, (.int .u8 2)), (2, (.int .u8 7))] s = some (newBytes [172, 2, 7] s) := fun s => rfl
  have e2 : ∀ s, abuildSl 1 [(.int .u8 0)] 1 [(0, (.int .u8 128))] s = some (newBytes [128] s) := fun s => rfl
  have e3 : ∀ s, abuildSl 1 [(.int .u8 0)] 2 [(0, (.int .u8 128)), (1, (.int .u8 0))] s = some (newBytes [128, 0] s) := fun s => rfl
  have e4 : ∀ s, abuildSl 1 [(.int .u8 0)] 4 [(0, (.int .u8 2)), (1, (.int .u8 97)), (2, (.int .u8 98)), (3, (.int .u8 9))] s = some (newBytes [2, 97, 98, 9] s) := fun s => rfl
  have e5 : ∀ s, abuildSl 1 [(.int .u8 0)] 9 [(0, (.int .u8 49)), (1, (.int .u8 50)), (2, (.int .u8 51)), (3, (.int .u8 52)), (4, (.int .u8 53)), (5, (.int .u8 54)), (6, (.int .u8 55)), (7, (.int .u8 56)), (8, (.int .u8 57))] s = some (newBytes [49, 50, 51, 52, 53, 54, 55, 56, 57] s) := fun s => rfl
  have r1 : readNum [172, 2, 7] = (300, 2, 0) := by decide +kernel
  have r2 : readNum [128] = (0, 0, 10) := by decide +kernel
  have r3 : readNum [128, 0] = (0, 0, 11) := by decide +kernel
  have r4 : readText [2, 97, 98, 9] 5 = ([97, 98], 3, 0) := by decide +kernel
  have r5 : sumV [49, 50, 51, 52, 53, 54, 55, 56, 57] = 3421780262 := by decide +kernel
  have r6 : enc 300 = [172, 2] := by decide +kernel
  have c1 : ∀ s, callV Try.prog R (.func (.func 13) #[] #[]) [(newBytes [172, 2, 7] s).1] (newBytes [172, 2, 7] s).2 = some (tup3 300 2 0, (newBytes [172, 2, 7] s).2) := fun s => by
    rw [octet_ReadNum_call, h1, gReadNum_eq newBytes_bytes, r1]
  have c2 : ∀ s, callV Try.prog R (.func (.func 13) #[] #[]) [(newBytes [128] s).1] (newBytes [128] s).2 = some (tup3 0 0 10, (newBytes [128] s).2) := fun s => by
    rw [octet_ReadNum_call, h1, gReadNum_eq newBytes_bytes, r2]
  have c3 : ∀ s, callV Try.prog R (.func (.func 13) #[] #[]) [(newBytes [128, 0] s).1] (newBytes [128, 0] s).2 = some (tup3 0 0 11, (newBytes [128, 0] s).2) := fun s => by
    rw [octet_ReadNum_call, h1, gReadNum_eq newBytes_bytes, r3]
  have c4 : ∀ s, callV Try.prog R (.func (.func 19) #[] #[]) [(newBytes [2, 97, 98, 9] s).1, .int .i64 5] (newBytes [2, 97, 98, 9] s).2 = some (tupT [97, 98] 3 0, (newBytes [2, 97, 98, 9] s).2) := fun s => by
    rw [octet_ReadText_call, h2, gReadText_eq newBytes_bytes (by decide) (by decide) (by decide), r4]
  have c5 : ∀ s, callV Try.prog R (.func (.func 15) #[] #[]) [.int .u64 300] s = some (newBytes [172, 2] s) := fun s => by
    rw [octet_Num_call, h3, show (Value.int .u64 300) = .int .u64 ((300 : Nat) : Int) from rfl, gNum_eq (by decide), r6]
  have c6 : ∀ s, callV Try.prog R (.func (.func 17) #[] #[]) [(newBytes [49, 50, 51, 52, 53, 54, 55, 56, 57] s).1] (newBytes [49, 50, 51, 52, 53, 54, 55, 56, 57] s).2 = some (.int .u32 ((3421780262 : Nat) : Int), (newBytes [49, 50, 51, 52, 53, 54, 55, 56, 57] s).2) := fun s => by
    rw [octet_Sum_call, h4]
    unfold gSum
    rw [gBytes1_eq newBytes_bytes (by decide), r5]
    rfl
  have b1 : ∀ s, abytesToStr (newBytes [172, 2] s).1 (newBytes [172, 2] s).2 = some (.string ⟨#[172, 2]⟩) := fun s => bytes_str newBytes_bytes
  have v1 : ∀ s, convSl (newBytes [49, 50, 51, 52, 53, 54, 55, 56, 57] s).1 (newBytes [49, 50, 51, 52, 53, 54, 55, 56, 57] s).2 = some (newBytes [49, 50, 51, 52, 53, 54, 55, 56, 57] s).1 := fun s => by
    simp only [newBytes, convSl, List.length_cons, push_get]
  have b2 : ∀ t o1 o2, abin Try.prog .eql t o1 o2 (.string ⟨#[172, 2]⟩) (.string ⟨#[172, 2]⟩) = some (.bool true) := fun t o1 o2 => by
    rw [show (Value.string ⟨#[172, 2]⟩) = sv [172, 2] from rfl, e_seql]
    rfl
  have b3 : ∀ t o1 o2, abin Try.prog .eql t o1 o2 (.string ⟨#[97, 98]⟩) (.string ⟨#[97, 98]⟩) = some (.bool true) := fun t o1 o2 => by
    rw [show (Value.string ⟨#[97, 98]⟩) = sv [97, 98] from rfl, e_seql]
    rfl
  have i1 : ∀ t o1 o2 k (a : Int), abin Try.prog .eql t o1 o2 (.int k a) (.int k a) = some (.bool true) := fun t o1 o2 k a => by rw [e_eql, beq_self_eq_true]
  have x3 : ∀ (n k : Nat) (e : Int), aextract 0 (tup3 n k e) = some (.int .u64 n) ∧ aextract 1 (tup3 n k e) = some (.int .i64 k) ∧ aextract 2 (tup3 n k e) = some (.int .i64 e) := fun n k e => ⟨rfl, rfl, rfl⟩
  have xT : ∀ (n : List UInt8) (k : Nat) (e : Int), aextract 0 (tupT n k e) = some (.string ⟨n.toArray⟩) ∧ aextract 1 (tupT n k e) = some (.int .i64 k) ∧ aextract 2 (tupT n k e) = some (.int .i64 e) := fun n k e => ⟨rfl, rfl, rfl⟩
  have n1 : ((300 : Nat) : Int) = 300 := rfl
  have n2 : ((2 : Nat) : Int) = 2 := rfl
  have n3 : ((3 : Nat) : Int) = 3 := rfl
  have n4 : ((3421780262 : Nat) : Int) = 3421780262 := rfl
  unfold law01_live
  simp only [e1, e2, e3, e4, e5, c1, c2, c3, c4, c5, c6, b1, b2, b3, v1, i1, (x3 _ _ _).1, (x3 _ _ _).2.1, (x3 _ _ _).2.2, (xT _ _ _).1, (xT _ _ _).2.1, (xT _ _ _).2.2, n1, n2, n3, n4, Option.bind_some, Option.map_some, getL_0, condV_t, guardV_tt, apick_t, retV]
  exact ⟨_, rfl⟩
theorem live_sum : SumOk Try.prog (libL lib15) hints 12 (gConst (.bool true)) := const_sum rfl fun s => by
  obtain ⟨s', h⟩ := live_run (R := run Try.prog (libL lib15) hints) (fun xs s => known rfl) (fun xs s => known rfl) (fun xs s => known rfl) (fun xs s => known rfl) s
  exact ⟨s', law01_live_of rfl h⟩
theorem lib16_ok : LibOk Try.prog (libL lib16) := libOk_cons progOk lib15_ok law01_live_ok live_sum

end Go.Proofs.Ytodedkebnmfodaa.Ab
