/- FrameBack: what the law says. -/
import Derived.Test.YtpbbbfemnkeplaaFrLib
set_option linter.unusedVariables false
set_option linter.unusedSimpArgs false
set_option linter.unusedSectionVars false
namespace Go.Proofs.Ytpbbbfemnkeplaa.Ab
open Go

theorem z_eq : ((0 : Int) == 0) = true := rfl
theorem z_ne : ((0 : Int) != 0) = false := rfl
theorem FrameBack_law (s : St) (v : Value) (l : List UInt8) (h : bytesOf v s = some l) (hl : l.length ≤ 140737488355328) (u : Value) (m : List UInt8) (hu : bytesOf u s = some m) (hm : m.length ≤ 140737488355328) : ∃ s', (run Try.prog (libL libT) hints) 4 [v, u] s = some (.bool true, s') := by
  have key : ∃ s', law05_FrameBack (run Try.prog (libL libT) hints) v u s = some (.bool true, s') := by
    unfold law05_FrameBack
    simp only [k_live, bytes_len h, bytes_len hu, e_gtr, Option.bind_some]
    by_cases c1 : 100000 < l.length
    · have e1 : decide (((l.length : Nat) : Int) > 100000) = true := by simp; omega
      simp only [e1, guardV_tf, apick_t, Option.bind_some, condV_t, retV]
      exact ⟨_, rfl⟩
    have e1 : decide (((l.length : Nat) : Int) > 100000) = false := by simp; omega
    by_cases c2 : 100000 < m.length
    · have e2 : decide (((m.length : Nat) : Int) > 100000) = true := by simp; omega
      simp only [e1, e2, guardV_ff, apick_f, getL_0, Option.bind_some, condV_t, retV]
      exact ⟨_, rfl⟩
    have e2 : decide (((m.length : Nat) : Int) > 100000) = false := by simp; omega
    simp only [e1, e2, guardV_ff, apick_f, getL_0, Option.bind_some, condV_f]
    have front : ∃ (t : St) (a b : Value) (r : Value × St), gSeal [v] s = some r ∧ aextract 0 r.1 = some a ∧ bytesOf a r.2 = some (if l.length ≤ 4096 then sealL l else []) ∧ aextract 1 r.1 = some (.int .i64 (if l.length ≤ 4096 then 0 else 2)) ∧ Ext s.heap.length s r.2 := by
      by_cases c3 : l.length ≤ 4096
      · rw [if_pos c3, if_pos c3]
        exact ⟨s, _, v, _, gSeal_eq h c3, xE_0 _, newBytes_bytes, xE_1 _, newBytes_ext (Nat.le_refl _)⟩
      · rw [if_neg c3, if_neg c3]
        exact ⟨s, _, v, _, gSeal_long h (by omega) hl, xN_0 _, nil_bytes _, xN_1 _, .refl _ _⟩
    obtain ⟨_, a, _, r1, g1, g2, g3, g4, x1⟩ := front
    have hu1 := x1.bytes hu
    have hv1 := x1.bytes h
    have tail : ∀ t : St, bytesOf u t = some m → (∀ r, openL m = r → r.2 ≠ 0 → gOpen [u] t = some (nilE r.2, t)) ∧ ((openL m).2 = 0 → ∃ q r2 b, openL m = (q, 0) ∧ sealL q = m ∧ gOpen [u] t = some r2 ∧ aextract 0 r2.1 = some b ∧ aextract 1 r2.1 = some (.int .i64 0) ∧ ∃ r3 c, gSeal [b] r2.2 = some r3 ∧ aextract 0 r3.1 = some c ∧ aextract 1 r3.1 = some (.int .i64 0) ∧ abytesToStr c r3.2 = some (sv m) ∧ abytesToStr u r3.2 = some (sv m)) := by
      intro t ht
      refine ⟨fun r hr h0 => by subst hr; exact gOpen_no ht hm h0, fun h0 => ?_⟩
      obtain ⟨k1, k2⟩ := seal_open h0
      have y1 : bytesOf (newBytes (openL m).1 t).1 (newBytes (openL m).1 t).2 = some (openL m).1 := newBytes_bytes
      have x2 : Ext t.heap.length t (newBytes (openL m).1 t).2 := newBytes_ext (Nat.le_refl _)
      have x3 : Ext (newBytes (openL m).1 t).2.heap.length (newBytes (openL m).1 t).2 (newBytes (sealL (openL m).1) (newBytes (openL m).1 t).2).2 := newBytes_ext (Nat.le_refl _)
      have y2 : bytesOf (newBytes (sealL (openL m).1) (newBytes (openL m).1 t).2).1 (newBytes (sealL (openL m).1) (newBytes (openL m).1 t).2).2 = some (sealL (openL m).1) := newBytes_bytes
      exact ⟨(openL m).1, _, _, by rw [← h0], k1, gOpen_ok ht hm h0, xE_0 _, xE_1 _, _, _, gSeal_eq y1 k2, xE_0 _, xE_1 _, (bytes_str y2).trans (by rw [k1]; rfl), bytes_str (x3.bytes (x2.bytes ht))⟩
    have fin : ∀ t : St, bytesOf u t = some m → ∃ s', ((callV Try.prog (run Try.prog (libL libT) hints) (.func (.func 10) #[] #[]) [u] t).bind fun r31 =>
(aextract 0 r31.1).bind fun v32 =>
(aextract 1 r31.1).bind fun v33 =>
(abin Try.prog .neq 24 (.tmp 61) (.const (.int .i64 0)) v33 (.int .i64 0)).bind fun v34 =>
condV v34
 ((guardV (.bool true) true ((alenV (.slice 5) v32 r31.2).bind fun v35 =>
(abin Try.prog .eql 3 (.tmp 66) (.const (.int .i64 0)) v35 (.int .i64 0)).bind fun v36 =>
some ([v36], r31.2)) (some ([undef], r31.2))).bind fun q37 =>
(apick (.bool true) (getL q37.1 0) (.bool false)).bind fun v38 =>
retV [v38] q37.2)
 ((callV Try.prog (run Try.prog (libL libT) hints) (.func (.func 8) #[] #[]) [v32] r31.2).bind fun r39 =>
(aextract 0 r39.1).bind fun v40 =>
(aextract 1 r39.1).bind fun v41 =>
(guardV (.bool true) true ((abin Try.prog .eql 24 (.tmp 76) (.const (.int .i64 0)) v41 (.int .i64 0)).bind fun v42 =>
some ([v42], r39.2)) (some ([undef], r39.2))).bind fun q43 =>
(apick (.bool true) (getL q43.1 0) (.bool false)).bind fun v44 =>
(guardV v44 true ((abytesToStr v40 q43.2).bind fun v45 =>
(abytesToStr u q43.2).bind fun v46 =>
(abin Try.prog .eql 9 (.tmp 81) (.tmp 83) v45 v46).bind fun v47 =>
some ([v47], q43.2)) (some ([undef], q43.2))).bind fun q48 =>
(apick v44 (getL q48.1 0) (.bool false)).bind fun v49 =>
retV [v49] q48.2)) = some (.bool true, s') := by
      intro t ht
      obtain ⟨t1, t2⟩ := tail t ht
      by_cases h0 : (openL m).2 = 0
      · obtain ⟨q, r2, b, j1, j2, j3, j4, j5, r3, c, j6, j7, j8, j9, j10⟩ := t2 h0
        refine ⟨r3.2, ?_⟩
        simp only [k_open, j3, j4, j5, Option.bind_some, e_neq, z_ne, condV_f]
        simp only [k_seal, j6, j7, j8, Option.bind_some, e_eql, z_eq, guardV_tt, getL_0, apick_t]
        simp only [j9, j10, Option.bind_some, e_seql, beq_self_eq_true, getL_0, apick_t, retV]
        rfl
      · have j1 := t1 _ rfl h0
        have e3 : ((openL m).2 != 0) = true := by simp [h0]
        have e4 : alenV (.slice 5) (.slice none 0 0) t = some (.int .i64 0) := rfl
        refine ⟨t, ?_⟩
        simp only [k_open, j1, xN_0, xN_1, Option.bind_some, e_neq, e3, condV_t]
        simp only [e4, Option.bind_some, e_eql, z_eq, guardV_tt, getL_0, apick_t, retV]
        rfl
    simp only [k_seal, g1, g2, g4, Option.bind_some]
    by_cases c3 : l.length ≤ 4096
    · rw [if_pos c3] at g3
      have o1 := open_seal c3
      have g5 := gOpen_ok g3 (by have := sealL_len l; have := sealB_len l; have := enc_two (n := l.length) (by omega); omega) (by rw [o1])
      rw [o1] at g5
      have y1 : bytesOf (newBytes l r1.2).1 (newBytes l r1.2).2 = some l := newBytes_bytes
      have x2 : Ext r1.2.heap.length r1.2 (newBytes l r1.2).2 := newBytes_ext (Nat.le_refl _)
      have e5 := bytes_str y1
      have e6 := bytes_str (x2.bytes hv1)
      have hu2 := x2.bytes hu1
      have xx : aextract 0 (pkE (newBytes l r1.2).1) = some (newBytes l r1.2).1 := xE_0 _
      simp only at g5
      generalize newBytes l r1.2 = r2 at *
      have hs : Value.string ⟨l.toArray⟩ = sv l := rfl
      rw [hs] at e5 e6
      simp only [k_open, g5, xx, xE_1, Option.bind_some, if_pos c3, e_eql, e_neq, z_eq, z_ne, guardV_tt, guardV_ff, guardV_ft, getL_0, apick_t, apick_f, e5, e6, e_sneq, beq_self_eq_true, Bool.not_true, condV_f]
      obtain ⟨s', hf⟩ := fin r2.2 hu2
      refine ⟨s', ?_⟩
      simp only [k_seal, k_open, Option.bind_some, guardV_tt, guardV_ff, guardV_ft, guardV_u, getL_0, apick_t, apick_f, condV_f] at hf
      try simp only [k_seal, k_open, Option.bind_some, guardV_tt, guardV_ff, guardV_ft, guardV_u, getL_0, apick_t, apick_f, condV_f]
      exact hf
    · rw [if_neg c3] at g3
      have e7 : decide (((l.length : Nat) : Int) ≤ 4096) = false := by simp; omega
      have e8 : ((2 : Int) == 0) = false := rfl
      have e9 : ((2 : Int) != 0) = true := rfl
      have g5 := gOpen_no g3 (by decide) (by decide)
      have o1 : openL [] = ([], 10) := by decide
      rw [o1] at g5
      simp only [k_open, g5, xN_0, xN_1, Option.bind_some, if_neg c3, e_eql, e_neq, e8, e9, guardV_tt, guardV_ff, guardV_ft, guardV_u, getL_0, apick_t, apick_f, bytes_len h, e_leq, e7, condV_f]
      obtain ⟨s', hf⟩ := fin r1.2 hu1
      refine ⟨s', ?_⟩
      simp only [k_seal, k_open, Option.bind_some, guardV_tt, guardV_ff, guardV_ft, guardV_u, getL_0, apick_t, apick_f, condV_f] at hf
      try simp only [k_seal, k_open, Option.bind_some, guardV_tt, guardV_ff, guardV_ft, guardV_u, getL_0, apick_t, apick_f, condV_f]
      exact hf
  obtain ⟨s', h⟩ := key
  exact ⟨s', law05_FrameBack_of rfl h⟩

end Go.Proofs.Ytpbbbfemnkeplaa.Ab
