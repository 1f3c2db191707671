/- Datagrams: what is known, and the chapter's examples. -/
import Derived.Test.YtpbbbfemnkeplaaFrFacts
set_option linter.unusedVariables false
set_option linter.unusedSimpArgs false
set_option linter.unusedSectionVars false
namespace Go.Proofs.Ytpbbbfemnkeplaa.Ab
open Go

def lib1 : List (FuncId × Sum) := [(13, gNum)]
def lib2 : List (FuncId × Sum) := (20, gReadNum) :: lib1
def lib3 : List (FuncId × Sum) := (25, gConst tabV) :: lib2
def lib4 : List (FuncId × Sum) := (14, gFixed) :: lib3
def lib5 : List (FuncId × Sum) := (19, gReadFixed) :: lib4
def lib6 : List (FuncId × Sum) := (15, gSum) :: lib5
def lib7 : List (FuncId × Sum) := (24, gGrow) :: lib6
def lib8 : List (FuncId × Sum) := (12, gConcat) :: lib7
def lib9 : List (FuncId × Sum) := (21, gClone) :: lib8
def lib10 : List (FuncId × Sum) := (8, gSeal) :: lib9
def lib11 : List (FuncId × Sum) := (10, gOpen) :: lib10
def lib12 : List (FuncId × Sum) := (7, gConst (.bool true)) :: lib11
abbrev libT := lib12
theorem lib1_ok : LibOk Try.prog (libL lib1) := libOk_cons progOk (libOk_nil _) octet_Num_ok (Num_sum rfl)
theorem lib2_ok : LibOk Try.prog (libL lib2) := libOk_cons progOk lib1_ok octet_ReadNum_ok (ReadNum_sum rfl)
theorem lib3_ok : LibOk Try.prog (libL lib3) := libOk_cons progOk lib2_ok octet_steps_ok (const_sum tabV_plain fun s => ⟨s, octet_steps_of rfl (steps_run s)⟩)
theorem lib4_ok : LibOk Try.prog (libL lib4) := libOk_cons progOk lib3_ok octet_Fixed_ok (fixed_sum fun _ s h => octet_Fixed_of rfl (Fixed_run h s))
theorem lib5_ok : LibOk Try.prog (libL lib5) := libOk_cons progOk lib4_ok octet_ReadFixed_ok (bytes1_sum fun v s l r h _ e => by cases e; exact ⟨rfl, s, octet_ReadFixed_of rfl (ReadFixed_run h)⟩)
theorem lib6_ok : LibOk Try.prog (libL lib6) := libOk_cons progOk lib5_ok octet_Sum_ok (bytes1_sum fun v s l r h hl e => by cases e; exact ⟨rfl, s, octet_Sum_of rfl (Sum_run (fun s => (known (g := gConst tabV) rfl).trans gConst_eq) h hl)⟩)
theorem lib7_ok : LibOk Try.prog (libL lib7) := libOk_cons progOk lib6_ok slices_Grow_byte_byte_ok (grow_sum rfl)
theorem lib8_ok : LibOk Try.prog (libL lib8) := libOk_cons progOk lib7_ok slices_Concat_byte_byte_ok (concat_sum rfl rfl)
theorem lib9_ok : LibOk Try.prog (libL lib9) := libOk_cons progOk lib8_ok slices_Clone_byte_byte_ok (clone_sum rfl)
theorem lib10_ok : LibOk Try.prog (libL lib10) := libOk_cons progOk lib9_ok frame_Seal_ok (seal_sum rfl rfl rfl rfl rfl)
theorem lib11_ok : LibOk Try.prog (libL lib11) := libOk_cons progOk lib10_ok frame_Open_ok (open_sum rfl rfl rfl rfl rfl)

theorem xE_0 (v : Value) (h : isTup v = false := by rfl) : aextract 0 (pkE v) = some v := by simp [aextract, pkE, h]
theorem xE_1 (v : Value) : aextract 1 (pkE v) = some (.int .i64 0) := rfl
theorem xN_0 (e : Int) : aextract 0 (nilE e) = some (.slice none 0 0) := rfl
theorem xN_1 (e : Int) : aextract 1 (nilE e) = some (.int .i64 e) := rfl
theorem nil_bytes (s : St) : bytesOf (.slice none 0 0) s = some [] := rfl
theorem live_run {R : Caller} (hS : ∀ xs s, R 8 xs s = gSeal xs s) (hO : ∀ xs s, R 10 xs s = gOpen xs s) (s : St) : ∃ s', law05_live R s = some (.bool true, s') := by
  have p1 : sealL [] = [83, 0, 219, 252, 217, 4] ∨ True := .inr trivial
  have q1 : (sealL []).length = 6 := by decide +kernel
  have q2 : (sealL []).getD 0 0 = 83 := rfl
  have q3 : (sealL []).getD 1 0 = 0 := by decide +kernel
  have q4 : (openL (sealL [] ++ [0])).2 = 50 := by decide +kernel
  have q5 : (openL [0, 0, 0, 0, 0]).2 = 10 := by decide +kernel
  have q6 : openL (sealL []) = ([], 0) := open_seal (by decide)
  have a1 := gSeal_eq (nil_bytes s) (by decide)
  have b1 : bytesOf (newBytes (sealL []) s).1 (newBytes (sealL []) s).2 = some (sealL []) := newBytes_bytes
  have t1 : isTup (newBytes (sealL []) s).1 = false := rfl
  generalize hL : sealL [] = L at *
  generalize newBytes L s = r1 at a1 b1 t1
  obtain ⟨c2, s2, a2, o2, x2⟩ := own_copy b1 (by omega)
  have a3 : abuildSl 1 [(.int .u8 0)] 1 [(0, (.int .u8 0))] s2 = some (newBytes [0] s2) := rfl
  have b3 : bytesOf (newBytes [0] s2).1 (newBytes [0] s2).2 = some [0] := newBytes_bytes
  have x3 : Ext s2.heap.length s2 (newBytes [0] s2).2 := newBytes_ext (Nat.le_refl _)
  have o3 : Own r1.2.heap.length 1 (newBytes [0] s2).2 c2 (bv L) := by
    rcases o2 with h | ⟨b, len, e1, e2, e3, e4, e5⟩
    · exact .inl h
    · exact .inr ⟨b, len, e1, e2, by rw [x3.2 b (List.getElem?_eq_some_iff.1 e3).1]; exact e3, e4, e5⟩
  have n3 : r1.2.heap.length ≤ (newBytes [0] s2).2.heap.length := Nat.le_trans x2.1 x3.1
  have y3 := x3.bytes (x2.bytes b1)
  generalize newBytes [0] s2 = r3 at a3 b3 x3 o3 n3 y3
  obtain ⟨c4, s4, a4, o4, x4⟩ := own_more o3 n3 b3 (by simp; omega)
  have a5 := gOpen_no o4.bytes (by simp; omega) (by rw [q4]; decide)
  rw [q4] at a5
  have a6 : amake 1 1 [(.int .u8 0)] (.int .i64 5) (.int .i64 5) s4 = some (newBytes [0, 0, 0, 0, 0] s4) := rfl
  have b6 : bytesOf (newBytes [0, 0, 0, 0, 0] s4).1 (newBytes [0, 0, 0, 0, 0] s4).2 = some [0, 0, 0, 0, 0] := newBytes_bytes
  have x6 : Ext s4.heap.length s4 (newBytes [0, 0, 0, 0, 0] s4).2 := newBytes_ext (Nat.le_refl _)
  generalize newBytes [0, 0, 0, 0, 0] s4 = r6 at a6 b6 x6
  have a7 := gOpen_no b6 (by decide) (by rw [q5]; decide)
  rw [q5] at a7
  have y4 : bytesOf r1.1 s4 = some L := by
    refine (Ext.trans (x2.less (Nat.le_refl _)) ?_).bytes b1
    exact Ext.trans (x3.less x2.1) x4
  have y6 := x6.bytes y4
  have a8 := gOpen_ok y6 (by omega) (by rw [q6])
  rw [q6] at a8
  have b8 : bytesOf (newBytes [] r6.2).1 (newBytes [] r6.2).2 = some [] := newBytes_bytes
  have t8 : isTup (newBytes [] r6.2).1 = false := rfl
  have x8 : Ext r6.2.heap.length r6.2 (newBytes [] r6.2).2 := newBytes_ext (Nat.le_refl _)
  simp only at a8
  generalize newBytes [] r6.2 = r8 at a8 b8 t8 x8
  have y8 := x8.bytes y6
  obtain ⟨p0, g1, g2⟩ := bytes_at y8 (i := 0) (by omega) (k := .i64)
  obtain ⟨p1, g3, g4⟩ := bytes_at y8 (i := 1) (by omega) (k := .i64)
  rw [getD_lt (by omega), q2] at g2
  rw [getD_lt (by omega), q3] at g4
  have z0 : ((0 : Nat) : Int) = 0 := rfl
  have z1 : ((1 : Nat) : Int) = 1 := rfl
  have z2 : (((83 : UInt8).toNat : Nat) : Int) = 83 := rfl
  have z3 : (((0 : UInt8).toNat : Nat) : Int) = 0 := rfl
  rw [z0] at g1
  rw [z1] at g3
  rw [z2] at g2
  rw [z3] at g4
  have l1 : ((L.length : Nat) : Int) = 6 := by rw [q1]; rfl
  have l2 : ((([] : List UInt8).length : Nat) : Int) = 0 := rfl
  have i1 : ∀ t o1 o2 k (a : Int), abin Try.prog .eql t o1 o2 (.int k a) (.int k a) = some (.bool true) := fun t o1 o2 k a => by rw [e_eql, beq_self_eq_true]
  refine ⟨r8.2, ?_⟩
  unfold law05_live
  simp only [frame_Seal_call, hS, a1, Option.bind_some, xE_0 _ t1, xE_1]
  simp only [a2, a3, a4, Option.bind_some]
  simp only [frame_Open_call, hO, a5, Option.bind_some, xN_0, xN_1]
  simp only [a6, a7, Option.bind_some, xN_0, xN_1]
  simp only [a8, Option.bind_some, xE_0 _ t8, xE_1]
  simp only [bytes_len b1, bytes_len b8, l1, l2, i1, Option.bind_some, guardV_tt, getL_0, apick_t, g1, g2, g3, g4, retV]
  rfl
theorem lib12_ok : LibOk Try.prog (libL lib12) := libOk_cons progOk lib11_ok law05_live_ok (const_sum rfl fun s => by
  obtain ⟨s', h⟩ := live_run (R := run Try.prog (libL lib11) hints) (fun xs s => known rfl) (fun xs s => known rfl) s
  exact ⟨s', law05_live_of rfl h⟩)

theorem k_live {s : St} : callV Try.prog (run Try.prog (libL libT) hints) (.func (.func 7) #[] #[]) [] s = some (.bool true, s) := by
  rw [law05_live_call, known (g := gConst (.bool true)) rfl, gConst_eq]
theorem k_seal {xs : List Value} {s : St} : callV Try.prog (run Try.prog (libL libT) hints) (.func (.func 8) #[] #[]) xs s = gSeal xs s := by
  rw [frame_Seal_call, known (g := gSeal) rfl]
theorem k_open {xs : List Value} {s : St} : callV Try.prog (run Try.prog (libL libT) hints) (.func (.func 10) #[] #[]) xs s = gOpen xs s := by
  rw [frame_Open_call, known (g := gOpen) rfl]

end Go.Proofs.Ytpbbbfemnkeplaa.Ab
