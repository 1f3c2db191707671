/- The program's functions, as the abstract machine runs them: printed. -/
import Derived.Test.YtpbbbfemnkeplaaLib0
namespace Go.Proofs.Ytpbbbfemnkeplaa.Ab
open Go
set_option maxRecDepth 100000
set_option linter.unusedVariables false

def hints : Hints := fun f => hintL f [(2, []), (3, []), (4, []), (5, []), (6, []), (7, []), (8, []), (9, [(5, 33), (23, 33), (25, 33), (27, 33), (29, 33)]), (10, []), (11, []), (12, []), (13, []), (14, [(2, 17), (3, 18), (14, 18)]), (15, [(3, 26), (20, 26)]), (16, []), (17, [(2, 15)]), (18, []), (19, []), (20, []), (21, []), (22, []), (23, []), (24, []), (25, [(0, 24), (1, 25), (21, 25)])]

/-! ### gosem.cut.init: 2 -/

noncomputable def gosem_cut_init (R : Caller) (s : St) : Option (Value × St) :=
(callV Try.prog R (.func (.func 1) #[] #[]) [] s).bind fun r0 =>
retV [] r0.2

theorem gosem_cut_init_of {lib : Lib} (hl : lib 2 = none) {s : St} {r : Value × St} (h : gosem_cut_init (run Try.prog lib hints)  s = some r) : run Try.prog lib hints 2 [] s = some r :=
  run_of hl Try.func2 (Eq.trans (by kernel_rfl) h)

theorem gosem_cut_init_ok : funcOk Try.prog 2 = true := by kernel_rfl
theorem gosem_cut_init_call {R : Caller} {xs : List Value} {s : St} : callV Try.prog R (.func (.func 2) #[] #[]) xs s = R 2 xs s := callV_eq gosem_cut_init_ok

/-! ### sumpter/sumpterlaw05.FrameSeals: 3 -/

noncomputable def law05_FrameSeals.b1 (R : Caller) (T : List Value) (s : St) : Res :=
(abin Try.prog .lss 3 (.tmp 76) (.tmp 75) (getL T 7) (getL T 6)).bind fun v37 =>
condV v37
 ((aindexS 1 (getL T 3) (getL T 7)).bind fun v38 =>
(aload false 1 v38 s).bind fun v39 =>
(abin Try.prog .add 5 (.tmp 82) (.const (.int .u8 1)) v39 (.int .u8 1)).bind fun v40 =>
(aindexS 1 (getL T 3) (getL T 7)).bind fun v41 =>
(astore 1 v41 v40 s).bind fun s42 =>
(abin Try.prog .add 3 (.tmp 76) (.const (.int .i64 1)) (getL T 7) (.int .i64 1)).bind fun v43 =>
some (.normal, [(getL T 0), (getL T 1), (getL T 2), (getL T 3), (getL T 4), (getL T 5), (getL T 6), v43], s42))
 (some (.exit 2, [(getL T 0), (getL T 1), (getL T 2), (getL T 4), (getL T 5)], s))

noncomputable def law05_FrameSeals.b2 (R : Caller) (T : List Value) (s : St) : Res :=
(abin Try.prog .lss 3 (.tmp 92) (.tmp 91) (getL T 6) (getL T 5)).bind fun v48 =>
condV v48
 ((aindexS 1 (getL T 3) (getL T 6)).bind fun v49 =>
(aload false 1 v49 s).bind fun v50 =>
(abin Try.prog .add 5 (.tmp 98) (.const (.int .u8 1)) v50 (.int .u8 1)).bind fun v51 =>
(aindexS 1 (getL T 3) (getL T 6)).bind fun v52 =>
(astore 1 v52 v51 s).bind fun s53 =>
(abin Try.prog .add 3 (.tmp 92) (.const (.int .i64 1)) (getL T 6) (.int .i64 1)).bind fun v54 =>
some (.normal, [(getL T 0), (getL T 1), (getL T 2), (getL T 3), (getL T 4), (getL T 5), v54], s53))
 (some (.exit 4, [(getL T 0), (getL T 1), (getL T 2), (getL T 4)], s))

noncomputable def law05_FrameSeals.b0 (R : Caller) (T : List Value) (s : St) : Res :=
(abin Try.prog .lss 3 (.tmp 26) (.const (.int .i64 2)) (getL T 3) (.int .i64 2)).bind fun v7 =>
condV v7
 ((callV Try.prog R (.func (.func 8) #[] #[]) [(getL T 0)] s).bind fun r8 =>
(aextract 0 r8.1).bind fun v9 =>
(aextract 1 r8.1).bind fun v10 =>
(callV Try.prog R (.func (.func 9) #[] #[]) [(getL T 0)] r8.2).bind fun r11 =>
(aextract 0 r11.1).bind fun v12 =>
(aextract 1 r11.1).bind fun v13 =>
(callV Try.prog R (.func (.func 10) #[] #[]) [(getL T 1)] r11.2).bind fun r14 =>
(aextract 0 r14.1).bind fun v15 =>
(aextract 1 r14.1).bind fun v16 =>
(callV Try.prog R (.func (.func 11) #[] #[]) [(getL T 1)] r14.2).bind fun r17 =>
(aextract 0 r17.1).bind fun v18 =>
(aextract 1 r17.1).bind fun v19 =>
(abytesToStr v9 r17.2).bind fun v20 =>
(abytesToStr v12 r17.2).bind fun v21 =>
(abin Try.prog .neq 9 (.tmp 49) (.tmp 51) v20 v21).bind fun v22 =>
(guardV v22 false ((abin Try.prog .neq 24 (.tmp 54) (.tmp 55) v10 v13).bind fun v23 =>
some ([v23], r17.2)) (some ([undef], r17.2))).bind fun q24 =>
(apick v22 (.bool true) (getL q24.1 0)).bind fun v25 =>
(guardV v25 false ((abytesToStr v15 q24.2).bind fun v26 =>
(abytesToStr v18 q24.2).bind fun v27 =>
(abin Try.prog .neq 9 (.tmp 60) (.tmp 62) v26 v27).bind fun v28 =>
some ([v28], q24.2)) (some ([undef], q24.2))).bind fun q29 =>
(apick v25 (.bool true) (getL q29.1 0)).bind fun v30 =>
(guardV v30 false ((abin Try.prog .neq 24 (.tmp 66) (.tmp 67) v16 v19).bind fun v31 =>
some ([v31], q29.2)) (some ([undef], q29.2))).bind fun q32 =>
(apick v30 (.bool true) (getL q32.1 0)).bind fun v33 =>
condV v33
 (some (.ret, [(.bool false)], q32.2))
 ((acap v9).bind fun v34 =>
(asliceV 1 v9 none (some v34) none).bind fun v35 =>
(alenV (.slice 5) v35 q32.2).bind fun v36 =>
(loopL (law05_FrameSeals.b1 R) [(getL T 0), (getL T 1), (getL T 2), v35, v15, (getL T 3), v36, (.int .i64 0)] q32.2).bind fun r44 =>
exV r44.1 [(2, (acap (getL r44.2.1 3)).bind fun v45 =>
(asliceV 1 (getL r44.2.1 3) none (some v45) none).bind fun v46 =>
(alenV (.slice 5) v46 r44.2.2).bind fun v47 =>
(loopL (law05_FrameSeals.b2 R) [(getL r44.2.1 0), (getL r44.2.1 1), (getL r44.2.1 2), v46, (getL r44.2.1 4), v47, (.int .i64 0)] r44.2.2).bind fun r55 =>
exV r55.1 [(4, (abin Try.prog .add 3 (.tmp 26) (.const (.int .i64 1)) (getL r55.2.1 3) (.int .i64 1)).bind fun v56 =>
some (.normal, [(getL r55.2.1 0), (getL r55.2.1 1), (getL r55.2.1 2), v56], r55.2.2))]
 (none))]
 (none)))
 (some (.exit 0, [(getL T 2)], s))

noncomputable def law05_FrameSeals (R : Caller) (x0 x1 : Value) (s : St) : Option (Value × St) :=
(callV Try.prog R (.func (.func 7) #[] #[]) [] s).bind fun r0 =>
(alenV (.slice 5) x0 r0.2).bind fun v1 =>
(abin Try.prog .gtr 3 (.tmp 18) (.const (.int .i64 100000)) v1 (.int .i64 100000)).bind fun v2 =>
(guardV v2 false ((alenV (.slice 5) x1 r0.2).bind fun v3 =>
(abin Try.prog .gtr 3 (.tmp 22) (.const (.int .i64 100000)) v3 (.int .i64 100000)).bind fun v4 =>
some ([v4], r0.2)) (some ([undef], r0.2))).bind fun q5 =>
(apick v2 (.bool true) (getL q5.1 0)).bind fun v6 =>
condV v6
 (retV [r0.1] q5.2)
 ((loopL (law05_FrameSeals.b0 R) [x0, x1, r0.1, (.int .i64 0)] q5.2).bind fun r57 =>
exV r57.1 [(0, retV [(getL r57.2.1 0)] r57.2.2)]
 (retV [(getL r57.2.1 0)] r57.2.2))

theorem law05_FrameSeals_of {lib : Lib} (hl : lib 3 = none) {x0 x1 : Value} {s : St} {r : Value × St} (h : law05_FrameSeals (run Try.prog lib hints) x0 x1 s = some r) : run Try.prog lib hints 3 [x0, x1] s = some r :=
  run_of hl Try.func3 (Eq.trans (by kernel_rfl) h)

theorem law05_FrameSeals_ok : funcOk Try.prog 3 = true := by kernel_rfl
theorem law05_FrameSeals_call {R : Caller} {xs : List Value} {s : St} : callV Try.prog R (.func (.func 3) #[] #[]) xs s = R 3 xs s := callV_eq law05_FrameSeals_ok

/-! ### sumpter/sumpterlaw05.FrameBack: 4 -/

noncomputable def law05_FrameBack (R : Caller) (x0 x1 : Value) (s : St) : Option (Value × St) :=
(callV Try.prog R (.func (.func 7) #[] #[]) [] s).bind fun r0 =>
(alenV (.slice 5) x0 r0.2).bind fun v1 =>
(abin Try.prog .gtr 3 (.tmp 16) (.const (.int .i64 100000)) v1 (.int .i64 100000)).bind fun v2 =>
(guardV v2 false ((alenV (.slice 5) x1 r0.2).bind fun v3 =>
(abin Try.prog .gtr 3 (.tmp 20) (.const (.int .i64 100000)) v3 (.int .i64 100000)).bind fun v4 =>
some ([v4], r0.2)) (some ([undef], r0.2))).bind fun q5 =>
(apick v2 (.bool true) (getL q5.1 0)).bind fun v6 =>
condV v6
 (retV [r0.1] q5.2)
 ((callV Try.prog R (.func (.func 8) #[] #[]) [x0] q5.2).bind fun r7 =>
(aextract 0 r7.1).bind fun v8 =>
(aextract 1 r7.1).bind fun v9 =>
(callV Try.prog R (.func (.func 10) #[] #[]) [v8] r7.2).bind fun r10 =>
(aextract 0 r10.1).bind fun v11 =>
(aextract 1 r10.1).bind fun v12 =>
(abin Try.prog .eql 24 (.tmp 34) (.const (.int .i64 0)) v9 (.int .i64 0)).bind fun v13 =>
(guardV v13 true ((abin Try.prog .neq 24 (.tmp 37) (.const (.int .i64 0)) v12 (.int .i64 0)).bind fun v14 =>
some ([v14], r10.2)) (some ([undef], r10.2))).bind fun q15 =>
(guardV (getL q15.1 0) false ((abytesToStr v11 q15.2).bind fun v16 =>
(abytesToStr x0 q15.2).bind fun v17 =>
(abin Try.prog .neq 9 (.tmp 41) (.tmp 43) v16 v17).bind fun v18 =>
some ([v18], q15.2)) (some ([undef], q15.2))).bind fun q19 =>
(guardV v13 true ((apick (getL q15.1 0) (.bool true) (getL q19.1 0)).bind fun v20 =>
some ([v20], q19.2)) (some ([undef], q19.2))).bind fun q21 =>
(apick v13 (getL q21.1 0) (.bool false)).bind fun v22 =>
(guardV v22 false ((abin Try.prog .neq 24 (.tmp 48) (.const (.int .i64 0)) v9 (.int .i64 0)).bind fun v23 =>
some ([v23], q21.2)) (some ([undef], q21.2))).bind fun q24 =>
(guardV (getL q24.1 0) true ((alenV (.slice 5) x0 q24.2).bind fun v25 =>
(abin Try.prog .leq 3 (.tmp 52) (.const (.int .i64 4096)) v25 (.int .i64 4096)).bind fun v26 =>
some ([v26], q24.2)) (some ([undef], q24.2))).bind fun q27 =>
(guardV v22 false ((apick (getL q24.1 0) (getL q27.1 0) (.bool false)).bind fun v28 =>
some ([v28], q27.2)) (some ([undef], q27.2))).bind fun q29 =>
(apick v22 (.bool true) (getL q29.1 0)).bind fun v30 =>
condV v30
 (retV [(.bool false)] q29.2)
 ((callV Try.prog R (.func (.func 10) #[] #[]) [x1] q29.2).bind fun r31 =>
(aextract 0 r31.1).bind fun v32 =>
(aextract 1 r31.1).bind fun v33 =>
(abin Try.prog .neq 24 (.tmp 61) (.const (.int .i64 0)) v33 (.int .i64 0)).bind fun v34 =>
condV v34
 ((guardV r0.1 true ((alenV (.slice 5) v32 r31.2).bind fun v35 =>
(abin Try.prog .eql 3 (.tmp 66) (.const (.int .i64 0)) v35 (.int .i64 0)).bind fun v36 =>
some ([v36], r31.2)) (some ([undef], r31.2))).bind fun q37 =>
(apick r0.1 (getL q37.1 0) (.bool false)).bind fun v38 =>
retV [v38] q37.2)
 ((callV Try.prog R (.func (.func 8) #[] #[]) [v32] r31.2).bind fun r39 =>
(aextract 0 r39.1).bind fun v40 =>
(aextract 1 r39.1).bind fun v41 =>
(guardV r0.1 true ((abin Try.prog .eql 24 (.tmp 76) (.const (.int .i64 0)) v41 (.int .i64 0)).bind fun v42 =>
some ([v42], r39.2)) (some ([undef], r39.2))).bind fun q43 =>
(apick r0.1 (getL q43.1 0) (.bool false)).bind fun v44 =>
(guardV v44 true ((abytesToStr v40 q43.2).bind fun v45 =>
(abytesToStr x1 q43.2).bind fun v46 =>
(abin Try.prog .eql 9 (.tmp 81) (.tmp 83) v45 v46).bind fun v47 =>
some ([v47], q43.2)) (some ([undef], q43.2))).bind fun q48 =>
(apick v44 (getL q48.1 0) (.bool false)).bind fun v49 =>
retV [v49] q48.2)))

theorem law05_FrameBack_of {lib : Lib} (hl : lib 4 = none) {x0 x1 : Value} {s : St} {r : Value × St} (h : law05_FrameBack (run Try.prog lib hints) x0 x1 s = some r) : run Try.prog lib hints 4 [x0, x1] s = some r :=
  run_of hl Try.func4 (Eq.trans (by kernel_rfl) h)

theorem law05_FrameBack_ok : funcOk Try.prog 4 = true := by kernel_rfl
theorem law05_FrameBack_call {R : Caller} {xs : List Value} {s : St} : callV Try.prog R (.func (.func 4) #[] #[]) xs s = R 4 xs s := callV_eq law05_FrameBack_ok

/-! ### sumpter/sumpterlaw05.FrameBursts: 5 -/

noncomputable def law05_FrameBursts.j0 (R : Caller) (T : List Value) (s : St) : Res :=
(abin Try.prog .add 3 (.tmp 51) (.const (.int .i64 1)) (getL T 6) (.int .i64 1)).bind fun v35 =>
some (.normal, [(getL T 0), (getL T 1), (getL T 2), (getL T 3), (getL T 4), (getL T 5), v35], s)

noncomputable def law05_FrameBursts.b0 (R : Caller) (T : List Value) (s : St) : Res :=
(abin Try.prog .lss 3 (.tmp 42) (.const (.int .i64 32)) (getL T 6) (.int .i64 32)).bind fun v16 =>
(guardV v16 true ((abin Try.prog .add 3 (.tmp 45) (.tmp 46) (getL T 0) (getL T 6)).bind fun v17 =>
(abin Try.prog .lss 3 (.tmp 47) (.tmp 48) v17 (getL T 4)).bind fun v18 =>
some ([v18], s)) (some ([undef], s))).bind fun q19 =>
(apick v16 (getL q19.1 0) (.bool false)).bind fun v20 =>
condV v20
 ((abin Try.prog .shr 28 (.tmp 53) (.tmp 54) (getL T 1) (getL T 6)).bind fun v22 =>
(abin Try.prog .and 28 (.tmp 55) (.const (.int .u32 1)) v22 (.int .u32 1)).bind fun v23 =>
(abin Try.prog .eql 28 (.tmp 56) (.const (.int .u32 1)) v23 (.int .u32 1)).bind fun v24 =>
condV v24
 ((abin Try.prog .add 3 (.tmp 59) (.tmp 60) (getL T 0) (getL T 6)).bind fun v25 =>
(abin Try.prog .quo 3 (.tmp 61) (.const (.int .i64 8)) v25 (.int .i64 8)).bind fun v26 =>
(aindexS 1 (getL T 3) v26).bind fun v27 =>
(((aload false 1 v27 q19.2).bind fun v37 =>
some (v37, q19.2)).bind (ownR q19.2)).bind fun r28 =>
(abin Try.prog .add 3 (.tmp 65) (.tmp 66) (getL T 0) (getL T 6)).bind fun v29 =>
(abin Try.prog .rem 3 (.tmp 67) (.const (.int .i64 8)) v29 (.int .i64 8)).bind fun v30 =>
(abin Try.prog .shl 5 (.const (.int .u8 1)) (.tmp 68) (.int .u8 1) v30).bind fun v31 =>
(abin Try.prog .xor 5 (.tmp 64) (.tmp 69) r28.1 v31).bind fun v32 =>
(aindexS 1 (getL T 3) v26).bind fun v33 =>
(((astore 1 v33 v32 r28.2).bind fun s36 =>
some (undef, s36)).bind (ownR r28.2)).bind fun r34 =>
joinK (law05_FrameBursts.j0 R) [(getL T 0), (getL T 1), (getL T 2), (getL T 3), (getL T 4), (.bool true), (getL T 6)] r34.2)
 (joinK (law05_FrameBursts.j0 R) [(getL T 0), (getL T 1), (getL T 2), (getL T 3), (getL T 4), (getL T 5), (getL T 6)] q19.2))
 (some (.exit 0, [(getL T 2), (getL T 3), (getL T 5)], q19.2))

noncomputable def law05_FrameBursts (R : Caller) (x0 x1 x2 : Value) (s : St) : Option (Value × St) :=
(callV Try.prog R (.func (.func 7) #[] #[]) [] s).bind fun r0 =>
(alenV (.slice 5) x0 r0.2).bind fun v1 =>
(abin Try.prog .gtr 3 (.tmp 17) (.const (.int .i64 4096)) v1 (.int .i64 4096)).bind fun v2 =>
condV v2
 (retV [r0.1] r0.2)
 ((callV Try.prog R (.func (.func 8) #[] #[]) [x0] r0.2).bind fun r3 =>
(aextract 0 r3.1).bind fun v4 =>
(aextract 1 r3.1).bind fun v5 =>
(abin Try.prog .neq 24 (.tmp 25) (.const (.int .i64 0)) v5 (.int .i64 0)).bind fun v6 =>
(guardV v6 false ((alenV (.slice 5) v4 r3.2).bind fun v7 =>
(abin Try.prog .eql 3 (.tmp 29) (.const (.int .i64 0)) v7 (.int .i64 0)).bind fun v8 =>
some ([v8], r3.2)) (some ([undef], r3.2))).bind fun q9 =>
(apick v6 (.bool true) (getL q9.1 0)).bind fun v10 =>
condV v10
 (retV [(.bool false)] q9.2)
 ((alenV (.slice 5) v4 q9.2).bind fun v11 =>
(abin Try.prog .mul 3 (.const (.int .i64 8)) (.tmp 33) (.int .i64 8) v11).bind fun v12 =>
(abin Try.prog .rem 3 (.tmp 35) (.tmp 36) x1 v12).bind fun v13 =>
(abin Try.prog .add 3 (.tmp 37) (.tmp 38) v13 v12).bind fun v14 =>
(abin Try.prog .rem 3 (.tmp 39) (.tmp 40) v14 v12).bind fun v15 =>
(loopL (law05_FrameBursts.b0 R) [v15, x2, r0.1, v4, v12, (.bool false), (.int .i64 0)] q9.2).bind fun r38 =>
exV r38.1 [(0, (callV Try.prog R (.func (.func 10) #[] #[]) [(getL r38.2.1 1)] r38.2.2).bind fun r39 =>
(aextract 0 r39.1).bind fun v40 =>
(aextract 1 r39.1).bind fun v41 =>
(guardV (getL r38.2.1 0) true (some ([(getL r38.2.1 2)], r39.2)) (some ([undef], r39.2))).bind fun q42 =>
(guardV (getL q42.1 0) true ((abin Try.prog .eql 24 (.tmp 81) (.const (.int .i64 50)) v41 (.int .i64 50)).bind fun v43 =>
some ([v43], q42.2)) (some ([undef], q42.2))).bind fun q44 =>
(guardV (getL r38.2.1 0) true ((apick (getL q42.1 0) (getL q44.1 0) (.bool false)).bind fun v45 =>
some ([v45], q44.2)) (some ([undef], q44.2))).bind fun q46 =>
(guardV (getL q46.1 0) false ((aun .not (getL r38.2.1 2)).bind fun v47 =>
some ([v47], q46.2)) (some ([undef], q46.2))).bind fun q48 =>
(guardV (getL q48.1 0) true ((abin Try.prog .eql 24 (.tmp 88) (.const (.int .i64 0)) v41 (.int .i64 0)).bind fun v49 =>
some ([v49], q48.2)) (some ([undef], q48.2))).bind fun q50 =>
(guardV (getL q46.1 0) false ((apick (getL q48.1 0) (getL q50.1 0) (.bool false)).bind fun v51 =>
some ([v51], q50.2)) (some ([undef], q50.2))).bind fun q52 =>
(guardV (getL r38.2.1 0) true ((apick (getL q46.1 0) (.bool true) (getL q52.1 0)).bind fun v53 =>
some ([v53], q52.2)) (some ([undef], q52.2))).bind fun q54 =>
(apick (getL r38.2.1 0) (getL q54.1 0) (.bool false)).bind fun v55 =>
retV [v55] q54.2)]
 (none)))

theorem law05_FrameBursts_of {lib : Lib} (hl : lib 5 = none) {x0 x1 x2 : Value} {s : St} {r : Value × St} (h : law05_FrameBursts (run Try.prog lib hints) x0 x1 x2 s = some r) : run Try.prog lib hints 5 [x0, x1, x2] s = some r :=
  run_of hl Try.func5 (Eq.trans (by kernel_rfl) h)

theorem law05_FrameBursts_ok : funcOk Try.prog 5 = true := by kernel_rfl
theorem law05_FrameBursts_call {R : Caller} {xs : List Value} {s : St} : callV Try.prog R (.func (.func 5) #[] #[]) xs s = R 5 xs s := callV_eq law05_FrameBursts_ok

/-! ### sumpter/sumpterlaw05.FrameCuts: 6 -/

noncomputable def law05_FrameCuts (R : Caller) (x0 x1 x2 : Value) (s : St) : Option (Value × St) :=
(callV Try.prog R (.func (.func 7) #[] #[]) [] s).bind fun r0 =>
(alenV (.slice 5) x2 r0.2).bind fun v1 =>
(abin Try.prog .gtr 3 (.tmp 16) (.const (.int .i64 10000)) v1 (.int .i64 10000)).bind fun v2 =>
condV v2
 (retV [r0.1] r0.2)
 ((callV Try.prog R (.func (.func 8) #[] #[]) [x0] r0.2).bind fun r3 =>
(aextract 0 r3.1).bind fun v4 =>
(aextract 1 r3.1).bind fun v5 =>
(abin Try.prog .neq 24 (.tmp 24) (.const (.int .i64 0)) v5 (.int .i64 0)).bind fun v6 =>
(guardV v6 false ((alenV (.slice 5) v4 r3.2).bind fun v7 =>
(abin Try.prog .eql 3 (.tmp 28) (.const (.int .i64 0)) v7 (.int .i64 0)).bind fun v8 =>
some ([v8], r3.2)) (some ([undef], r3.2))).bind fun q9 =>
(apick v6 (.bool true) (getL q9.1 0)).bind fun v10 =>
condV v10
 ((guardV r0.1 true ((abin Try.prog .eql 24 (.tmp 33) (.const (.int .i64 2)) v5 (.int .i64 2)).bind fun v11 =>
some ([v11], q9.2)) (some ([undef], q9.2))).bind fun q12 =>
(apick r0.1 (getL q12.1 0) (.bool false)).bind fun v13 =>
(guardV v13 true ((alenV (.slice 5) x0 q12.2).bind fun v14 =>
(abin Try.prog .gtr 3 (.tmp 38) (.const (.int .i64 4096)) v14 (.int .i64 4096)).bind fun v15 =>
some ([v15], q12.2)) (some ([undef], q12.2))).bind fun q16 =>
(apick v13 (getL q16.1 0) (.bool false)).bind fun v17 =>
retV [v17] q16.2)
 ((alenV (.slice 5) v4 q9.2).bind fun v18 =>
(abin Try.prog .rem 3 (.tmp 41) (.tmp 43) x1 v18).bind fun v19 =>
(alenV (.slice 5) v4 q9.2).bind fun v20 =>
(abin Try.prog .add 3 (.tmp 44) (.tmp 46) v19 v20).bind fun v21 =>
(alenV (.slice 5) v4 q9.2).bind fun v22 =>
(abin Try.prog .rem 3 (.tmp 47) (.tmp 49) v21 v22).bind fun v23 =>
(asliceV 1 v4 none (some v23) none).bind fun v24 =>
(callV Try.prog R (.func (.func 10) #[] #[]) [v24] q9.2).bind fun r25 =>
(aextract 0 r25.1).bind fun v26 =>
(aextract 1 r25.1).bind fun v27 =>
(aappend 1 1 (.slice none 0 0) v4 r25.2).bind fun r28 =>
(aappend 1 1 r28.1 x2 r28.2).bind fun r29 =>
(callV Try.prog R (.func (.func 10) #[] #[]) [r29.1] r29.2).bind fun r30 =>
(aextract 0 r30.1).bind fun v31 =>
(aextract 1 r30.1).bind fun v32 =>
(guardV r0.1 true ((abin Try.prog .neq 24 (.tmp 68) (.const (.int .i64 0)) v27 (.int .i64 0)).bind fun v33 =>
some ([v33], r30.2)) (some ([undef], r30.2))).bind fun q34 =>
(apick r0.1 (getL q34.1 0) (.bool false)).bind fun v35 =>
(guardV v35 true ((alenV (.slice 5) v26 q34.2).bind fun v36 =>
(abin Try.prog .eql 3 (.tmp 73) (.const (.int .i64 0)) v36 (.int .i64 0)).bind fun v37 =>
some ([v37], q34.2)) (some ([undef], q34.2))).bind fun q38 =>
(apick v35 (getL q38.1 0) (.bool false)).bind fun v39 =>
(guardV v39 true ((abin Try.prog .eql 24 (.tmp 77) (.const (.int .i64 0)) v32 (.int .i64 0)).bind fun v40 =>
(alenV (.slice 5) x2 q38.2).bind fun v41 =>
(abin Try.prog .eql 3 (.tmp 80) (.const (.int .i64 0)) v41 (.int .i64 0)).bind fun v42 =>
(abin Try.prog .eql 4 (.tmp 78) (.tmp 81) v40 v42).bind fun v43 =>
some ([v43], q38.2)) (some ([undef], q38.2))).bind fun q44 =>
(apick v39 (getL q44.1 0) (.bool false)).bind fun v45 =>
(guardV v45 true ((abin Try.prog .eql 24 (.tmp 85) (.const (.int .i64 0)) v32 (.int .i64 0)).bind fun v46 =>
some ([v46], q44.2)) (some ([undef], q44.2))).bind fun q47 =>
(guardV (getL q47.1 0) false ((alenV (.slice 5) v31 q47.2).bind fun v48 =>
(abin Try.prog .eql 3 (.tmp 89) (.const (.int .i64 0)) v48 (.int .i64 0)).bind fun v49 =>
some ([v49], q47.2)) (some ([undef], q47.2))).bind fun q50 =>
(guardV v45 true ((apick (getL q47.1 0) (.bool true) (getL q50.1 0)).bind fun v51 =>
some ([v51], q50.2)) (some ([undef], q50.2))).bind fun q52 =>
(apick v45 (getL q52.1 0) (.bool false)).bind fun v53 =>
retV [v53] q52.2))

theorem law05_FrameCuts_of {lib : Lib} (hl : lib 6 = none) {x0 x1 x2 : Value} {s : St} {r : Value × St} (h : law05_FrameCuts (run Try.prog lib hints) x0 x1 x2 s = some r) : run Try.prog lib hints 6 [x0, x1, x2] s = some r :=
  run_of hl Try.func6 (Eq.trans (by kernel_rfl) h)

theorem law05_FrameCuts_ok : funcOk Try.prog 6 = true := by kernel_rfl
theorem law05_FrameCuts_call {R : Caller} {xs : List Value} {s : St} : callV Try.prog R (.func (.func 6) #[] #[]) xs s = R 6 xs s := callV_eq law05_FrameCuts_ok

/-! ### sumpter/sumpterlaw05.live: 7 -/

noncomputable def law05_live (R : Caller) (s : St) : Option (Value × St) :=
(callV Try.prog R (.func (.func 8) #[] #[]) [(.slice none 0 0)] s).bind fun r0 =>
(aextract 0 r0.1).bind fun v1 =>
(aextract 1 r0.1).bind fun v2 =>
(aappend 1 1 (.slice none 0 0) v1 r0.2).bind fun r3 =>
(abuildSl 1 [(.int .u8 0)] 1 [(0, (.int .u8 0))] r3.2).bind fun r4 =>
(aappend 1 1 r3.1 r4.1 r4.2).bind fun r5 =>
(callV Try.prog R (.func (.func 10) #[] #[]) [r5.1] r5.2).bind fun r6 =>
(aextract 0 r6.1).bind fun v7 =>
(aextract 1 r6.1).bind fun v8 =>
(amake 1 1 [(.int .u8 0)] (.int .i64 5) (.int .i64 5) r6.2).bind fun r9 =>
(callV Try.prog R (.func (.func 10) #[] #[]) [r9.1] r9.2).bind fun r10 =>
(aextract 0 r10.1).bind fun v11 =>
(aextract 1 r10.1).bind fun v12 =>
(callV Try.prog R (.func (.func 10) #[] #[]) [v1] r10.2).bind fun r13 =>
(aextract 0 r13.1).bind fun v14 =>
(aextract 1 r13.1).bind fun v15 =>
(alenV (.slice 5) v1 r13.2).bind fun v16 =>
(abin Try.prog .eql 3 (.tmp 32) (.const (.int .i64 6)) v16 (.int .i64 6)).bind fun v17 =>
(guardV v17 true ((aindexS 1 v1 (.int .i64 0)).bind fun v18 =>
(aload false 1 v18 r13.2).bind fun v19 =>
(abin Try.prog .eql 5 (.tmp 37) (.const (.int .u8 83)) v19 (.int .u8 83)).bind fun v20 =>
some ([v20], r13.2)) (some ([undef], r13.2))).bind fun q21 =>
(apick v17 (getL q21.1 0) (.bool false)).bind fun v22 =>
(guardV v22 true ((aindexS 1 v1 (.int .i64 1)).bind fun v23 =>
(aload false 1 v23 q21.2).bind fun v24 =>
(abin Try.prog .eql 5 (.tmp 43) (.const (.int .u8 0)) v24 (.int .u8 0)).bind fun v25 =>
some ([v25], q21.2)) (some ([undef], q21.2))).bind fun q26 =>
(apick v22 (getL q26.1 0) (.bool false)).bind fun v27 =>
(guardV v27 true ((abin Try.prog .eql 24 (.tmp 47) (.const (.int .i64 0)) v2 (.int .i64 0)).bind fun v28 =>
some ([v28], q26.2)) (some ([undef], q26.2))).bind fun q29 =>
(apick v27 (getL q29.1 0) (.bool false)).bind fun v30 =>
(guardV v30 true ((abin Try.prog .eql 24 (.tmp 51) (.const (.int .i64 50)) v8 (.int .i64 50)).bind fun v31 =>
some ([v31], q29.2)) (some ([undef], q29.2))).bind fun q32 =>
(apick v30 (getL q32.1 0) (.bool false)).bind fun v33 =>
(guardV v33 true ((abin Try.prog .eql 24 (.tmp 55) (.const (.int .i64 10)) v12 (.int .i64 10)).bind fun v34 =>
some ([v34], q32.2)) (some ([undef], q32.2))).bind fun q35 =>
(apick v33 (getL q35.1 0) (.bool false)).bind fun v36 =>
(guardV v36 true ((alenV (.slice 5) v14 q35.2).bind fun v37 =>
(abin Try.prog .eql 3 (.tmp 60) (.const (.int .i64 0)) v37 (.int .i64 0)).bind fun v38 =>
some ([v38], q35.2)) (some ([undef], q35.2))).bind fun q39 =>
(apick v36 (getL q39.1 0) (.bool false)).bind fun v40 =>
(guardV v40 true ((abin Try.prog .eql 24 (.tmp 64) (.const (.int .i64 0)) v15 (.int .i64 0)).bind fun v41 =>
some ([v41], q39.2)) (some ([undef], q39.2))).bind fun q42 =>
(apick v40 (getL q42.1 0) (.bool false)).bind fun v43 =>
retV [v43] q42.2

theorem law05_live_of {lib : Lib} (hl : lib 7 = none) {s : St} {r : Value × St} (h : law05_live (run Try.prog lib hints)  s = some r) : run Try.prog lib hints 7 [] s = some r :=
  run_of hl Try.func7 (Eq.trans (by kernel_rfl) h)

theorem law05_live_ok : funcOk Try.prog 7 = true := by kernel_rfl
theorem law05_live_call {R : Caller} {xs : List Value} {s : St} : callV Try.prog R (.func (.func 7) #[] #[]) xs s = R 7 xs s := callV_eq law05_live_ok

/-! ### sumpter/frame.Seal: 8 -/

noncomputable def frame_Seal (R : Caller) (x0 : Value) (s : St) : Option (Value × St) :=
(alenV (.slice 5) x0 s).bind fun v0 =>
(abin Try.prog .gtr 3 (.tmp 7) (.const (.int .i64 4096)) v0 (.int .i64 4096)).bind fun v1 =>
condV v1
 (retV [(.slice none 0 0), (.int .i64 2)] s)
 ((abuildSl 1 [(.int .u8 0)] 1 [(0, (.int .u8 83))] s).bind fun r2 =>
(alenV (.slice 5) x0 r2.2).bind fun v3 =>
(convInt .u64 v3).bind fun v4 =>
(callV Try.prog R (.func (.func 13) #[] #[]) [v4] r2.2).bind fun r5 =>
(abuildSl 1 [(.slice none 0 0)] 3 [(0, r2.1), (1, r5.1), (2, x0)] r5.2).bind fun r6 =>
(callV Try.prog R (.func (.func 12) #[] #[]) [r6.1] r6.2).bind fun r7 =>
(callV Try.prog R (.func (.func 15) #[] #[]) [r7.1] r7.2).bind fun r8 =>
(callV Try.prog R (.func (.func 14) #[] #[]) [r8.1] r8.2).bind fun r9 =>
(anew [(.int .u8 0), (.int .u8 0), (.int .u8 0), (.int .u8 0)] r9.2).bind fun r10 =>
(astore 4 r10.1 r9.1 r10.2).bind fun s11 =>
(asliceArr 4 1 r10.1 none none none s11).bind fun v12 =>
(abuildSl 1 [(.slice none 0 0)] 2 [(0, r7.1), (1, v12)] s11).bind fun r13 =>
(callV Try.prog R (.func (.func 12) #[] #[]) [r13.1] r13.2).bind fun r14 =>
retV [r14.1, (.int .i64 0)] r14.2)

theorem frame_Seal_of {lib : Lib} (hl : lib 8 = none) {x0 : Value} {s : St} {r : Value × St} (h : frame_Seal (run Try.prog lib hints) x0 s = some r) : run Try.prog lib hints 8 [x0] s = some r :=
  run_of hl Try.func8 (Eq.trans (by kernel_rfl) h)

theorem frame_Seal_ok : funcOk Try.prog 8 = true := by kernel_rfl
theorem frame_Seal_call {R : Caller} {xs : List Value} {s : St} : callV Try.prog R (.func (.func 8) #[] #[]) xs s = R 8 xs s := callV_eq frame_Seal_ok

/-! ### sumpter/sumpterref05.Seal: 9 -/

noncomputable def ref05_Seal (R : Caller) (x0 : Value) (s : St) : Option (Value × St) :=
(alenV (.slice 5) x0 s).bind fun v0 =>
(abin Try.prog .gtr 3 (.tmp 7) (.const (.int .i64 4096)) v0 (.int .i64 4096)).bind fun v1 =>
condV v1
 (retV [(.slice none 0 0), (.int .i64 2)] s)
 ((abuildSl 1 [(.int .u8 0)] 1 [(0, (.int .u8 83))] s).bind fun r2 =>
(alenV (.slice 5) x0 r2.2).bind fun v3 =>
(convInt .u64 v3).bind fun v4 =>
(callV Try.prog R (.func (.func 16) #[] #[]) [v4] r2.2).bind fun r5 =>
(aappend 1 1 r2.1 r5.1 r5.2).bind fun r6 =>
(aappend 1 1 r6.1 x0 r6.2).bind fun r7 =>
(callV Try.prog R (.func (.func 18) #[] #[]) [r7.1] r7.2).bind fun r8 =>
(callV Try.prog R (.func (.func 17) #[] #[]) [r8.1] r8.2).bind fun r9 =>
(lstore 4 lptr r9.1 (.agg #[(.int .u8 0), (.int .u8 0), (.int .u8 0), (.int .u8 0)])).bind fun v10 =>
(lload false 1 lptr v10).bind fun v11 =>
(lload false 1 (.pointer (some ⟨0, 1, none⟩)) v10).bind fun v12 =>
(lload false 1 (.pointer (some ⟨0, 2, none⟩)) v10).bind fun v13 =>
(lload false 1 (.pointer (some ⟨0, 3, none⟩)) v10).bind fun v14 =>
(abuildSl 1 [(.int .u8 0)] 4 [(0, v11), (1, v12), (2, v13), (3, v14)] r9.2).bind fun r15 =>
(aappend 1 1 r7.1 r15.1 r15.2).bind fun r16 =>
retV [r16.1, (.int .i64 0)] r16.2)

theorem ref05_Seal_of {lib : Lib} (hl : lib 9 = none) {x0 : Value} {s : St} {r : Value × St} (h : ref05_Seal (run Try.prog lib hints) x0 s = some r) : run Try.prog lib hints 9 [x0] s = some r :=
  run_of hl Try.func9 (Eq.trans (by kernel_rfl) h)

theorem ref05_Seal_ok : funcOk Try.prog 9 = true := by kernel_rfl
theorem ref05_Seal_call {R : Caller} {xs : List Value} {s : St} : callV Try.prog R (.func (.func 9) #[] #[]) xs s = R 9 xs s := callV_eq ref05_Seal_ok

/-! ### sumpter/frame.Open: 10 -/

noncomputable def frame_Open (R : Caller) (x0 : Value) (s : St) : Option (Value × St) :=
(alenV (.slice 5) x0 s).bind fun v0 =>
(abin Try.prog .gtr 3 (.tmp 13) (.const (.int .i64 4103)) v0 (.int .i64 4103)).bind fun v1 =>
condV v1
 (retV [(.slice none 0 0), (.int .i64 2)] s)
 ((alenV (.slice 5) x0 s).bind fun v2 =>
(abin Try.prog .lss 3 (.tmp 16) (.const (.int .i64 6)) v2 (.int .i64 6)).bind fun v3 =>
condV v3
 (retV [(.slice none 0 0), (.int .i64 10)] s)
 ((alenV (.slice 5) x0 s).bind fun v4 =>
(abin Try.prog .sub 3 (.tmp 19) (.const (.int .i64 4)) v4 (.int .i64 4)).bind fun v5 =>
(asliceV 1 x0 none (some v5) (some v5)).bind fun v6 =>
(asliceV 1 x0 (some v5) none none).bind fun v7 =>
(callV Try.prog R (.func (.func 19) #[] #[]) [v7] s).bind fun r8 =>
(aextract 0 r8.1).bind fun v9 =>
(aextract 1 r8.1).bind fun v10 =>
(abin Try.prog .neq 24 (.tmp 33) (.const (.int .i64 0)) v10 (.int .i64 0)).bind fun v11 =>
(guardV v11 false ((callV Try.prog R (.func (.func 15) #[] #[]) [v6] r8.2).bind fun r12 =>
(abin Try.prog .neq 28 (.tmp 36) (.tmp 38) v9 r12.1).bind fun v13 =>
some ([v13], r12.2)) (some ([undef], r8.2))).bind fun q14 =>
(apick v11 (.bool true) (getL q14.1 0)).bind fun v15 =>
condV v15
 (retV [(.slice none 0 0), (.int .i64 50)] q14.2)
 ((asliceV 1 v6 (some (.int .i64 1)) none none).bind fun v16 =>
(callV Try.prog R (.func (.func 20) #[] #[]) [v16] q14.2).bind fun r17 =>
(aextract 0 r17.1).bind fun v18 =>
(aextract 1 r17.1).bind fun v19 =>
(aextract 2 r17.1).bind fun v20 =>
(aindexS 1 v6 (.int .i64 0)).bind fun v21 =>
(aload false 1 v21 r17.2).bind fun v22 =>
(abin Try.prog .neq 5 (.tmp 50) (.const (.int .u8 83)) v22 (.int .u8 83)).bind fun v23 =>
(guardV v23 false ((abin Try.prog .neq 24 (.tmp 53) (.const (.int .i64 0)) v20 (.int .i64 0)).bind fun v24 =>
some ([v24], r17.2)) (some ([undef], r17.2))).bind fun q25 =>
(apick v23 (.bool true) (getL q25.1 0)).bind fun v26 =>
(guardV v26 false ((abin Try.prog .gtr 33 (.tmp 57) (.const (.int .u64 4096)) v18 (.int .u64 4096)).bind fun v27 =>
some ([v27], q25.2)) (some ([undef], q25.2))).bind fun q28 =>
(apick v26 (.bool true) (getL q28.1 0)).bind fun v29 =>
(guardV v29 false ((alenV (.slice 5) v6 q28.2).bind fun v30 =>
(abin Try.prog .add 3 (.const (.int .i64 1)) (.tmp 63) (.int .i64 1) v19).bind fun v31 =>
(convInt .i64 v18).bind fun v32 =>
(abin Try.prog .add 3 (.tmp 64) (.tmp 66) v31 v32).bind fun v33 =>
(abin Try.prog .neq 3 (.tmp 62) (.tmp 67) v30 v33).bind fun v34 =>
some ([v34], q28.2)) (some ([undef], q28.2))).bind fun q35 =>
(apick v29 (.bool true) (getL q35.1 0)).bind fun v36 =>
condV v36
 (retV [(.slice none 0 0), (.int .i64 11)] q35.2)
 ((abin Try.prog .add 3 (.const (.int .i64 1)) (.tmp 71) (.int .i64 1) v19).bind fun v37 =>
(asliceV 1 v6 (some v37) none none).bind fun v38 =>
(callV Try.prog R (.func (.func 21) #[] #[]) [v38] q35.2).bind fun r39 =>
retV [r39.1, (.int .i64 0)] r39.2))))

theorem frame_Open_of {lib : Lib} (hl : lib 10 = none) {x0 : Value} {s : St} {r : Value × St} (h : frame_Open (run Try.prog lib hints) x0 s = some r) : run Try.prog lib hints 10 [x0] s = some r :=
  run_of hl Try.func10 (Eq.trans (by kernel_rfl) h)

theorem frame_Open_ok : funcOk Try.prog 10 = true := by kernel_rfl
theorem frame_Open_call {R : Caller} {xs : List Value} {s : St} : callV Try.prog R (.func (.func 10) #[] #[]) xs s = R 10 xs s := callV_eq frame_Open_ok

/-! ### sumpter/sumpterref05.Open: 11 -/

noncomputable def ref05_Open (R : Caller) (x0 : Value) (s : St) : Option (Value × St) :=
(alenV (.slice 5) x0 s).bind fun v0 =>
(abin Try.prog .gtr 3 (.tmp 11) (.const (.int .i64 4103)) v0 (.int .i64 4103)).bind fun v1 =>
condV v1
 (retV [(.slice none 0 0), (.int .i64 2)] s)
 ((alenV (.slice 5) x0 s).bind fun v2 =>
(abin Try.prog .lss 3 (.tmp 14) (.const (.int .i64 6)) v2 (.int .i64 6)).bind fun v3 =>
condV v3
 (retV [(.slice none 0 0), (.int .i64 10)] s)
 ((alenV (.slice 5) x0 s).bind fun v4 =>
(abin Try.prog .sub 3 (.tmp 17) (.const (.int .i64 4)) v4 (.int .i64 4)).bind fun v5 =>
(asliceV 1 x0 (some v5) none none).bind fun v6 =>
(callV Try.prog R (.func (.func 22) #[] #[]) [v6] s).bind fun r7 =>
(aextract 0 r7.1).bind fun v8 =>
(aextract 1 r7.1).bind fun v9 =>
(asliceV 1 x0 none (some v5) none).bind fun v10 =>
(callV Try.prog R (.func (.func 18) #[] #[]) [v10] r7.2).bind fun r11 =>
(abin Try.prog .neq 28 (.tmp 26) (.tmp 30) v8 r11.1).bind fun v12 =>
condV v12
 (retV [(.slice none 0 0), (.int .i64 50)] r11.2)
 ((asliceV 1 x0 (some (.int .i64 1)) (some v5) none).bind fun v13 =>
(callV Try.prog R (.func (.func 23) #[] #[]) [v13] r11.2).bind fun r14 =>
(aextract 0 r14.1).bind fun v15 =>
(aextract 1 r14.1).bind fun v16 =>
(aextract 2 r14.1).bind fun v17 =>
(aindexS 1 x0 (.int .i64 0)).bind fun v18 =>
(aload false 1 v18 r14.2).bind fun v19 =>
(abin Try.prog .neq 5 (.tmp 42) (.const (.int .u8 83)) v19 (.int .u8 83)).bind fun v20 =>
(guardV v20 false ((abin Try.prog .neq 24 (.tmp 45) (.const (.int .i64 0)) v17 (.int .i64 0)).bind fun v21 =>
some ([v21], r14.2)) (some ([undef], r14.2))).bind fun q22 =>
(apick v20 (.bool true) (getL q22.1 0)).bind fun v23 =>
(guardV v23 false ((abin Try.prog .gtr 33 (.tmp 49) (.const (.int .u64 4096)) v15 (.int .u64 4096)).bind fun v24 =>
some ([v24], q22.2)) (some ([undef], q22.2))).bind fun q25 =>
(apick v23 (.bool true) (getL q25.1 0)).bind fun v26 =>
(guardV v26 false ((convInt .i64 v15).bind fun v27 =>
(abin Try.prog .sub 3 (.tmp 55) (.const (.int .i64 1)) v5 (.int .i64 1)).bind fun v28 =>
(abin Try.prog .sub 3 (.tmp 56) (.tmp 57) v28 v16).bind fun v29 =>
(abin Try.prog .neq 3 (.tmp 54) (.tmp 58) v27 v29).bind fun v30 =>
some ([v30], q25.2)) (some ([undef], q25.2))).bind fun q31 =>
(apick v26 (.bool true) (getL q31.1 0)).bind fun v32 =>
condV v32
 (retV [(.slice none 0 0), (.int .i64 11)] q31.2)
 ((abin Try.prog .add 3 (.const (.int .i64 1)) (.tmp 62) (.int .i64 1) v16).bind fun v33 =>
(asliceV 1 x0 (some v33) (some v5) none).bind fun v34 =>
(aappend 1 1 (.slice none 0 0) v34 q31.2).bind fun r35 =>
retV [r35.1, (.int .i64 0)] r35.2))))

theorem ref05_Open_of {lib : Lib} (hl : lib 11 = none) {x0 : Value} {s : St} {r : Value × St} (h : ref05_Open (run Try.prog lib hints) x0 s = some r) : run Try.prog lib hints 11 [x0] s = some r :=
  run_of hl Try.func11 (Eq.trans (by kernel_rfl) h)

theorem ref05_Open_ok : funcOk Try.prog 11 = true := by kernel_rfl
theorem ref05_Open_call {R : Caller} {xs : List Value} {s : St} : callV Try.prog R (.func (.func 11) #[] #[]) xs s = R 11 xs s := callV_eq ref05_Open_ok

/-! ### slices.Concat[[]byte,byte]: 12 -/

noncomputable def slices_Concat_byte_byte.j0 (R : Caller) (T : List Value) (s : St) : Res :=
(abin Try.prog .add 3 (.tmp 11) (.const (.int .i64 1)) (getL T 4) (.int .i64 1)).bind fun v9 =>
some (.normal, [(getL T 0), (getL T 1), (getL T 2), (getL T 3), v9], s)

noncomputable def slices_Concat_byte_byte.b0 (R : Caller) (T : List Value) (s : St) : Res :=
(abin Try.prog .lss 3 (.tmp 11) (.tmp 10) (getL T 4) (getL T 3)).bind fun v1 =>
condV v1
 ((aindexS 1 (getL T 2) (getL T 4)).bind fun v3 =>
(aload false 1 v3 s).bind fun v4 =>
(alenV (.slice 5) v4 s).bind fun v5 =>
(abin Try.prog .add 3 (.tmp 15) (.tmp 17) (getL T 1) v5).bind fun v6 =>
(abin Try.prog .lss 3 (.tmp 19) (.const (.int .i64 0)) v6 (.int .i64 0)).bind fun v7 =>
condV v7
 ((aiface 9 (.string ⟨#[108, 101, 110, 32, 111, 117, 116, 32, 111, 102, 32, 114, 97, 110, 103, 101]⟩)).bind fun v8 =>
none)
 (joinK (slices_Concat_byte_byte.j0 R) [(getL T 0), v6, (getL T 2), (getL T 3), (getL T 4)] s))
 (some (.exit 0, [(getL T 0), (getL T 1)], s))

noncomputable def slices_Concat_byte_byte.b1 (R : Caller) (T : List Value) (s : St) : Res :=
(abin Try.prog .lss 3 (.tmp 27) (.tmp 26) (getL T 3) (getL T 2)).bind fun v13 =>
condV v13
 ((aindexS 1 (getL T 1) (getL T 3)).bind fun v14 =>
(aload false 1 v14 s).bind fun v15 =>
(aappend 1 1 (getL T 0) v15 s).bind fun r16 =>
(abin Try.prog .add 3 (.tmp 27) (.const (.int .i64 1)) (getL T 3) (.int .i64 1)).bind fun v17 =>
some (.normal, [r16.1, (getL T 1), (getL T 2), v17], r16.2))
 (some (.exit 2, [(getL T 0)], s))

noncomputable def slices_Concat_byte_byte (R : Caller) (x0 : Value) (s : St) : Option (Value × St) :=
(alenV (.slice 22) x0 s).bind fun v0 =>
(loopL (slices_Concat_byte_byte.b0 R) [x0, (.int .i64 0), x0, v0, (.int .i64 0)] s).bind fun r10 =>
exV r10.1 [(0, (callV Try.prog R (.func (.func 24) #[] #[]) [(.slice none 0 0), (getL r10.2.1 1)] r10.2.2).bind fun r11 =>
(alenV (.slice 22) (getL r10.2.1 0) r11.2).bind fun v12 =>
(loopL (slices_Concat_byte_byte.b1 R) [r11.1, (getL r10.2.1 0), v12, (.int .i64 0)] r11.2).bind fun r18 =>
exV r18.1 [(2, retV [(getL r18.2.1 0)] r18.2.2)]
 (none))]
 (none)

theorem slices_Concat_byte_byte_of {lib : Lib} (hl : lib 12 = none) {x0 : Value} {s : St} {r : Value × St} (h : slices_Concat_byte_byte (run Try.prog lib hints) x0 s = some r) : run Try.prog lib hints 12 [x0] s = some r :=
  run_of hl Try.func12 (Eq.trans (by kernel_rfl) h)

theorem slices_Concat_byte_byte_ok : funcOk Try.prog 12 = true := by kernel_rfl
theorem slices_Concat_byte_byte_call {R : Caller} {xs : List Value} {s : St} : callV Try.prog R (.func (.func 12) #[] #[]) xs s = R 12 xs s := callV_eq slices_Concat_byte_byte_ok

/-! ### sumpter/octet.Num: 13 -/

noncomputable def octet_Num.b0 (R : Caller) (T : List Value) (s : St) : Res :=
(abin Try.prog .geq 33 (.tmp 4) (.const (.int .u64 128)) (getL T 0) (.int .u64 128)).bind fun v0 =>
condV v0
 ((convInt .u8 (getL T 0)).bind fun v1 =>
(abin Try.prog .or 5 (.tmp 8) (.const (.int .u8 128)) v1 (.int .u8 128)).bind fun v2 =>
(abuildSl 1 [(.int .u8 0)] 1 [(0, v2)] s).bind fun r3 =>
(aappend 1 1 (getL T 1) r3.1 r3.2).bind fun r4 =>
(abin Try.prog .shr 33 (.tmp 12) (.const (.int .u64 7)) (getL T 0) (.int .u64 7)).bind fun v5 =>
some (.normal, [v5, r4.1], r4.2))
 (some (.exit 0, [(getL T 0), (getL T 1)], s))

noncomputable def octet_Num (R : Caller) (x0 : Value) (s : St) : Option (Value × St) :=
(loopL (octet_Num.b0 R) [x0, (.slice none 0 0)] s).bind fun r6 =>
exV r6.1 [(0, (convInt .u8 (getL r6.2.1 0)).bind fun v7 =>
(abuildSl 1 [(.int .u8 0)] 1 [(0, v7)] r6.2.2).bind fun r8 =>
(aappend 1 1 (getL r6.2.1 1) r8.1 r8.2).bind fun r9 =>
retV [r9.1] r9.2)]
 (none)

theorem octet_Num_of {lib : Lib} (hl : lib 13 = none) {x0 : Value} {s : St} {r : Value × St} (h : octet_Num (run Try.prog lib hints) x0 s = some r) : run Try.prog lib hints 13 [x0] s = some r :=
  run_of hl Try.func13 (Eq.trans (by kernel_rfl) h)

theorem octet_Num_ok : funcOk Try.prog 13 = true := by kernel_rfl
theorem octet_Num_call {R : Caller} {xs : List Value} {s : St} : callV Try.prog R (.func (.func 13) #[] #[]) xs s = R 13 xs s := callV_eq octet_Num_ok

/-! ### sumpter/octet.Fixed: 14 -/

noncomputable def octet_Fixed.b0 (R : Caller) (T : List Value) (s : St) : Res :=
(abin Try.prog .lss 3 (.tmp 5) (.const (.int .i64 4)) (getL T 3) (.int .i64 4)).bind fun v0 =>
condV v0
 ((abin Try.prog .mul 3 (.const (.int .i64 8)) (.tmp 10) (.int .i64 8) (getL T 3)).bind fun v1 =>
(abin Try.prog .shr 28 (.tmp 9) (.tmp 11) (getL T 0) v1).bind fun v2 =>
(convInt .u8 v2).bind fun v3 =>
(aindexA 4 1 (getL T 2) (getL T 3)).bind fun v4 =>
(lstore 1 v4 v3 (getL T 5)).bind fun v5 =>
(abin Try.prog .add 3 (.tmp 5) (.const (.int .i64 1)) (getL T 3) (.int .i64 1)).bind fun v6 =>
some (.normal, [(getL T 0), (getL T 1), (getL T 2), v6, (getL T 4), v5], s))
 (some (.exit 0, [(getL T 1), (getL T 2), (getL T 4), (getL T 5)], s))

noncomputable def octet_Fixed (R : Caller) (x0 : Value) (s : St) : Option (Value × St) :=
(loopL (octet_Fixed.b0 R) [x0, lptr, lptr, (.int .i64 0), (.agg #[(.int .u8 0), (.int .u8 0), (.int .u8 0), (.int .u8 0)]), (.agg #[(.int .u8 0), (.int .u8 0), (.int .u8 0), (.int .u8 0)])] s).bind fun r7 =>
exV r7.1 [(0, (lload true 4 (getL r7.2.1 1) (getL r7.2.1 3)).bind fun v8 =>
(lstore 4 (getL r7.2.1 0) v8 (getL r7.2.1 2)).bind fun v9 =>
(lload true 4 (getL r7.2.1 0) v9).bind fun v10 =>
retV [v10] r7.2.2)]
 (none)

theorem octet_Fixed_of {lib : Lib} (hl : lib 14 = none) {x0 : Value} {s : St} {r : Value × St} (h : octet_Fixed (run Try.prog lib hints) x0 s = some r) : run Try.prog lib hints 14 [x0] s = some r :=
  run_of hl Try.func14 (Eq.trans (by kernel_rfl) h)

theorem octet_Fixed_ok : funcOk Try.prog 14 = true := by kernel_rfl
theorem octet_Fixed_call {R : Caller} {xs : List Value} {s : St} : callV Try.prog R (.func (.func 14) #[] #[]) xs s = R 14 xs s := callV_eq octet_Fixed_ok

/-! ### sumpter/octet.Sum: 15 -/

noncomputable def octet_Sum.b0 (R : Caller) (T : List Value) (s : St) : Res :=
(abin Try.prog .lss 3 (.tmp 10) (.tmp 9) (getL T 4) (getL T 3)).bind fun v3 =>
condV v3
 ((aindexS 1 (getL T 2) (getL T 4)).bind fun v4 =>
(aload false 1 v4 s).bind fun v5 =>
(abin Try.prog .shr 28 (.tmp 14) (.const (.int .u64 8)) (getL T 1) (.int .u64 8)).bind fun v6 =>
(convInt .u8 (getL T 1)).bind fun v7 =>
(abin Try.prog .xor 5 (.tmp 17) (.tmp 18) v7 v5).bind fun v8 =>
(aindexA 256 1 (getL T 0) v8).bind fun v9 =>
(lload false 1 v9 (getL T 5)).bind fun v10 =>
(abin Try.prog .xor 28 (.tmp 15) (.tmp 21) v6 v10).bind fun v11 =>
(abin Try.prog .add 3 (.tmp 10) (.const (.int .i64 1)) (getL T 4) (.int .i64 1)).bind fun v12 =>
some (.normal, [(getL T 0), v11, (getL T 2), (getL T 3), v12, (getL T 5)], s))
 (some (.exit 0, [(getL T 1)], s))

noncomputable def octet_Sum (R : Caller) (x0 : Value) (s : St) : Option (Value × St) :=
(callV Try.prog R (.func (.func 25) #[] #[]) [] s).bind fun r0 =>
(lstore 256 lptr r0.1 (.agg (List.replicate 256 (.int .u32 0)).toArray)).bind fun v1 =>
(alenV (.slice 5) x0 r0.2).bind fun v2 =>
(loopL (octet_Sum.b0 R) [lptr, (.int .u32 4294967295), x0, v2, (.int .i64 0), v1] r0.2).bind fun r13 =>
exV r13.1 [(0, (aun .xor (getL r13.2.1 0)).bind fun v14 =>
retV [v14] r13.2.2)]
 (none)

theorem octet_Sum_of {lib : Lib} (hl : lib 15 = none) {x0 : Value} {s : St} {r : Value × St} (h : octet_Sum (run Try.prog lib hints) x0 s = some r) : run Try.prog lib hints 15 [x0] s = some r :=
  run_of hl Try.func15 (Eq.trans (by kernel_rfl) h)

theorem octet_Sum_ok : funcOk Try.prog 15 = true := by kernel_rfl
theorem octet_Sum_call {R : Caller} {xs : List Value} {s : St} : callV Try.prog R (.func (.func 15) #[] #[]) xs s = R 15 xs s := callV_eq octet_Sum_ok

/-! ### sumpter/sumpterref01.Num: 16 -/

noncomputable def ref01_Num (R : Caller) (x0 : Value) (s : St) : Option (Value × St) :=
(abin Try.prog .lss 33 (.tmp 3) (.const (.int .u64 128)) x0 (.int .u64 128)).bind fun v0 =>
condV v0
 ((convInt .u8 x0).bind fun v1 =>
(abuildSl 1 [(.int .u8 0)] 1 [(0, v1)] s).bind fun r2 =>
retV [r2.1] r2.2)
 ((abin Try.prog .rem 33 (.tmp 8) (.const (.int .u64 128)) x0 (.int .u64 128)).bind fun v3 =>
(convInt .u8 v3).bind fun v4 =>
(abin Try.prog .add 5 (.tmp 10) (.const (.int .u8 128)) v4 (.int .u8 128)).bind fun v5 =>
(abuildSl 1 [(.int .u8 0)] 1 [(0, v5)] s).bind fun r6 =>
(abin Try.prog .quo 33 (.tmp 13) (.const (.int .u64 128)) x0 (.int .u64 128)).bind fun v7 =>
(callV Try.prog R (.func (.func 16) #[] #[]) [v7] r6.2).bind fun r8 =>
(aappend 1 1 r6.1 r8.1 r8.2).bind fun r9 =>
retV [r9.1] r9.2)

theorem ref01_Num_of {lib : Lib} (hl : lib 16 = none) {x0 : Value} {s : St} {r : Value × St} (h : ref01_Num (run Try.prog lib hints) x0 s = some r) : run Try.prog lib hints 16 [x0] s = some r :=
  run_of hl Try.func16 (Eq.trans (by kernel_rfl) h)

theorem ref01_Num_ok : funcOk Try.prog 16 = true := by kernel_rfl
theorem ref01_Num_call {R : Caller} {xs : List Value} {s : St} : callV Try.prog R (.func (.func 16) #[] #[]) xs s = R 16 xs s := callV_eq ref01_Num_ok

/-! ### sumpter/sumpterref01.Fixed: 17 -/

noncomputable def ref01_Fixed (R : Caller) (x0 : Value) (s : St) : Option (Value × St) :=
(convInt .u8 x0).bind fun v0 =>
(abin Try.prog .shr 28 (.tmp 5) (.const (.int .u64 8)) x0 (.int .u64 8)).bind fun v1 =>
(convInt .u8 v1).bind fun v2 =>
(abin Try.prog .shr 28 (.tmp 8) (.const (.int .u64 16)) x0 (.int .u64 16)).bind fun v3 =>
(convInt .u8 v3).bind fun v4 =>
(abin Try.prog .shr 28 (.tmp 11) (.const (.int .u64 24)) x0 (.int .u64 24)).bind fun v5 =>
(convInt .u8 v5).bind fun v6 =>
(abuild Try.prog 34 [(0, v0), (1, v2), (2, v4), (3, v6)]).bind fun v7 =>
(lstore 4 lptr v7 (.agg #[(.int .u8 0), (.int .u8 0), (.int .u8 0), (.int .u8 0)])).bind fun v8 =>
(lload true 4 lptr v8).bind fun v9 =>
retV [v9] s

theorem ref01_Fixed_of {lib : Lib} (hl : lib 17 = none) {x0 : Value} {s : St} {r : Value × St} (h : ref01_Fixed (run Try.prog lib hints) x0 s = some r) : run Try.prog lib hints 17 [x0] s = some r :=
  run_of hl Try.func17 (Eq.trans (by kernel_rfl) h)

theorem ref01_Fixed_ok : funcOk Try.prog 17 = true := by kernel_rfl
theorem ref01_Fixed_call {R : Caller} {xs : List Value} {s : St} : callV Try.prog R (.func (.func 17) #[] #[]) xs s = R 17 xs s := callV_eq ref01_Fixed_ok

/-! ### sumpter/sumpterref01.Sum: 18 -/

noncomputable def ref01_Sum.j0 (R : Caller) (T : List Value) (s : St) : Res :=
(abin Try.prog .add 3 (.tmp 19) (.const (.int .i64 1)) (getL T 1) (.int .i64 1)).bind fun v12 =>
some (.normal, [(getL T 0), v12, (getL T 2), (getL T 3), (getL T 4)], s)

noncomputable def ref01_Sum.b1 (R : Caller) (T : List Value) (s : St) : Res :=
(abin Try.prog .lss 3 (.tmp 17) (.const (.int .i64 8)) (getL T 1) (.int .i64 8)).bind fun v6 =>
condV v6
 ((abin Try.prog .rem 28 (.tmp 21) (.const (.int .u32 2)) (getL T 0) (.int .u32 2)).bind fun v8 =>
(abin Try.prog .eql 28 (.tmp 22) (.const (.int .u32 1)) v8 (.int .u32 1)).bind fun v9 =>
condV v9
 ((abin Try.prog .shr 28 (.tmp 24) (.const (.int .u64 1)) (getL T 0) (.int .u64 1)).bind fun v10 =>
(abin Try.prog .xor 28 (.tmp 25) (.const (.int .u32 3988292384)) v10 (.int .u32 3988292384)).bind fun v11 =>
joinK (ref01_Sum.j0 R) [v11, (getL T 1), (getL T 2), (getL T 3), (getL T 4)] s)
 ((abin Try.prog .shr 28 (.tmp 27) (.const (.int .u64 1)) (getL T 0) (.int .u64 1)).bind fun v13 =>
joinK (ref01_Sum.j0 R) [v13, (getL T 1), (getL T 2), (getL T 3), (getL T 4)] s))
 (some (.exit 2, [(getL T 0), (getL T 2), (getL T 3), (getL T 4)], s))

noncomputable def ref01_Sum.b0 (R : Caller) (T : List Value) (s : St) : Res :=
(abin Try.prog .lss 3 (.tmp 9) (.tmp 8) (getL T 3) (getL T 2)).bind fun v1 =>
condV v1
 ((aindexS 1 (getL T 1) (getL T 3)).bind fun v2 =>
(aload false 1 v2 s).bind fun v3 =>
(convInt .u32 v3).bind fun v4 =>
(abin Try.prog .xor 28 (.tmp 13) (.tmp 15) (getL T 0) v4).bind fun v5 =>
(loopL (ref01_Sum.b1 R) [v5, (.int .i64 0), (getL T 1), (getL T 2), (getL T 3)] s).bind fun r14 =>
exV r14.1 [(2, (abin Try.prog .add 3 (.tmp 9) (.const (.int .i64 1)) (getL r14.2.1 3) (.int .i64 1)).bind fun v15 =>
some (.normal, [(getL r14.2.1 0), (getL r14.2.1 1), (getL r14.2.1 2), v15], r14.2.2))]
 (none))
 (some (.exit 0, [(getL T 0)], s))

noncomputable def ref01_Sum (R : Caller) (x0 : Value) (s : St) : Option (Value × St) :=
(alenV (.slice 5) x0 s).bind fun v0 =>
(loopL (ref01_Sum.b0 R) [(.int .u32 4294967295), x0, v0, (.int .i64 0)] s).bind fun r16 =>
exV r16.1 [(0, (abin Try.prog .xor 28 (.tmp 30) (.const (.int .u32 4294967295)) (getL r16.2.1 0) (.int .u32 4294967295)).bind fun v17 =>
retV [v17] r16.2.2)]
 (none)

theorem ref01_Sum_of {lib : Lib} (hl : lib 18 = none) {x0 : Value} {s : St} {r : Value × St} (h : ref01_Sum (run Try.prog lib hints) x0 s = some r) : run Try.prog lib hints 18 [x0] s = some r :=
  run_of hl Try.func18 (Eq.trans (by kernel_rfl) h)

theorem ref01_Sum_ok : funcOk Try.prog 18 = true := by kernel_rfl
theorem ref01_Sum_call {R : Caller} {xs : List Value} {s : St} : callV Try.prog R (.func (.func 18) #[] #[]) xs s = R 18 xs s := callV_eq ref01_Sum_ok

/-! ### sumpter/octet.ReadFixed: 19 -/

noncomputable def octet_ReadFixed.b0 (R : Caller) (T : List Value) (s : St) : Res :=
(abin Try.prog .lss 3 (.tmp 13) (.tmp 12) (getL T 3) (getL T 2)).bind fun v4 =>
condV v4
 ((aindexS 1 (getL T 1) (getL T 3)).bind fun v5 =>
(aload false 1 v5 s).bind fun v6 =>
(convInt .u32 v6).bind fun v7 =>
(abin Try.prog .mul 3 (.const (.int .i64 8)) (.tmp 21) (.int .i64 8) (getL T 3)).bind fun v8 =>
(abin Try.prog .shl 28 (.tmp 20) (.tmp 22) v7 v8).bind fun v9 =>
(abin Try.prog .or 28 (.tmp 18) (.tmp 23) (getL T 0) v9).bind fun v10 =>
(abin Try.prog .add 3 (.tmp 13) (.const (.int .i64 1)) (getL T 3) (.int .i64 1)).bind fun v11 =>
some (.normal, [v10, (getL T 1), (getL T 2), v11], s))
 (some (.exit 0, [(getL T 0)], s))

noncomputable def octet_ReadFixed (R : Caller) (x0 : Value) (s : St) : Option (Value × St) :=
(alenV (.slice 5) x0 s).bind fun v0 =>
(abin Try.prog .lss 3 (.tmp 8) (.const (.int .i64 4)) v0 (.int .i64 4)).bind fun v1 =>
condV v1
 (retV [(.int .u32 0), (.int .i64 10)] s)
 ((asliceV 1 x0 none (some (.int .i64 4)) none).bind fun v2 =>
(alenV (.slice 5) v2 s).bind fun v3 =>
(loopL (octet_ReadFixed.b0 R) [(.int .u32 0), v2, v3, (.int .i64 0)] s).bind fun r12 =>
exV r12.1 [(0, retV [(getL r12.2.1 0), (.int .i64 0)] r12.2.2)]
 (none))

theorem octet_ReadFixed_of {lib : Lib} (hl : lib 19 = none) {x0 : Value} {s : St} {r : Value × St} (h : octet_ReadFixed (run Try.prog lib hints) x0 s = some r) : run Try.prog lib hints 19 [x0] s = some r :=
  run_of hl Try.func19 (Eq.trans (by kernel_rfl) h)

theorem octet_ReadFixed_ok : funcOk Try.prog 19 = true := by kernel_rfl
theorem octet_ReadFixed_call {R : Caller} {xs : List Value} {s : St} : callV Try.prog R (.func (.func 19) #[] #[]) xs s = R 19 xs s := callV_eq octet_ReadFixed_ok

/-! ### sumpter/octet.ReadNum: 20 -/

noncomputable def octet_ReadNum.b0 (R : Caller) (T : List Value) (s : St) : Res :=
(abin Try.prog .lss 3 (.tmp 10) (.tmp 9) (getL T 3) (getL T 2)).bind fun v1 =>
condV v1
 ((aindexS 1 (getL T 1) (getL T 3)).bind fun v2 =>
(aload false 1 v2 s).bind fun v3 =>
(abin Try.prog .eql 3 (.tmp 15) (.const (.int .i64 9)) (getL T 3) (.int .i64 9)).bind fun v4 =>
(guardV v4 true ((abin Try.prog .gtr 5 (.tmp 18) (.const (.int .u8 1)) v3 (.int .u8 1)).bind fun v5 =>
some ([v5], s)) (some ([undef], s))).bind fun q6 =>
(apick v4 (getL q6.1 0) (.bool false)).bind fun v7 =>
condV v7
 (some (.ret, [(.int .u64 0), (.int .i64 0), (.int .i64 11)], q6.2))
 ((abin Try.prog .and 5 (.tmp 22) (.const (.int .u8 127)) v3 (.int .u8 127)).bind fun v8 =>
(convInt .u64 v8).bind fun v9 =>
(abin Try.prog .mul 3 (.const (.int .i64 7)) (.tmp 25) (.int .i64 7) (getL T 3)).bind fun v10 =>
(abin Try.prog .shl 33 (.tmp 24) (.tmp 26) v9 v10).bind fun v11 =>
(abin Try.prog .or 33 (.tmp 21) (.tmp 27) (getL T 0) v11).bind fun v12 =>
(abin Try.prog .lss 5 (.tmp 29) (.const (.int .u8 128)) v3 (.int .u8 128)).bind fun v13 =>
condV v13
 ((abin Try.prog .eql 5 (.tmp 31) (.const (.int .u8 0)) v3 (.int .u8 0)).bind fun v14 =>
(guardV v14 true ((abin Try.prog .gtr 3 (.tmp 34) (.const (.int .i64 0)) (getL T 3) (.int .i64 0)).bind fun v15 =>
some ([v15], q6.2)) (some ([undef], q6.2))).bind fun q16 =>
(apick v14 (getL q16.1 0) (.bool false)).bind fun v17 =>
condV v17
 (some (.ret, [(.int .u64 0), (.int .i64 0), (.int .i64 11)], q16.2))
 ((abin Try.prog .add 3 (.tmp 38) (.const (.int .i64 1)) (getL T 3) (.int .i64 1)).bind fun v18 =>
some (.ret, [v12, v18, (.int .i64 0)], q16.2)))
 ((abin Try.prog .add 3 (.tmp 10) (.const (.int .i64 1)) (getL T 3) (.int .i64 1)).bind fun v19 =>
some (.normal, [v12, (getL T 1), (getL T 2), v19], q6.2))))
 (some (.exit 0, [], s))

noncomputable def octet_ReadNum (R : Caller) (x0 : Value) (s : St) : Option (Value × St) :=
(alenV (.slice 5) x0 s).bind fun v0 =>
(loopL (octet_ReadNum.b0 R) [(.int .u64 0), x0, v0, (.int .i64 0)] s).bind fun r20 =>
exV r20.1 [(0, retV [(.int .u64 0), (.int .i64 0), (.int .i64 10)] r20.2.2)]
 (retV [(getL r20.2.1 0), (getL r20.2.1 1), (getL r20.2.1 2)] r20.2.2)

theorem octet_ReadNum_of {lib : Lib} (hl : lib 20 = none) {x0 : Value} {s : St} {r : Value × St} (h : octet_ReadNum (run Try.prog lib hints) x0 s = some r) : run Try.prog lib hints 20 [x0] s = some r :=
  run_of hl Try.func20 (Eq.trans (by kernel_rfl) h)

theorem octet_ReadNum_ok : funcOk Try.prog 20 = true := by kernel_rfl
theorem octet_ReadNum_call {R : Caller} {xs : List Value} {s : St} : callV Try.prog R (.func (.func 20) #[] #[]) xs s = R 20 xs s := callV_eq octet_ReadNum_ok

/-! ### slices.Clone[[]byte,byte]: 21 -/

noncomputable def slices_Clone_byte_byte (R : Caller) (x0 : Value) (s : St) : Option (Value × St) :=
(abin Try.prog .eql 22 (.tmp 3) (.const (.slice none 0 0)) x0 (.slice none 0 0)).bind fun v0 =>
condV v0
 (retV [(.slice none 0 0)] s)
 ((abuildSl 1 [(.int .u8 0)] 0 [] s).bind fun r1 =>
(aappend 1 1 r1.1 x0 r1.2).bind fun r2 =>
retV [r2.1] r2.2)

theorem slices_Clone_byte_byte_of {lib : Lib} (hl : lib 21 = none) {x0 : Value} {s : St} {r : Value × St} (h : slices_Clone_byte_byte (run Try.prog lib hints) x0 s = some r) : run Try.prog lib hints 21 [x0] s = some r :=
  run_of hl Try.func21 (Eq.trans (by kernel_rfl) h)

theorem slices_Clone_byte_byte_ok : funcOk Try.prog 21 = true := by kernel_rfl
theorem slices_Clone_byte_byte_call {R : Caller} {xs : List Value} {s : St} : callV Try.prog R (.func (.func 21) #[] #[]) xs s = R 21 xs s := callV_eq slices_Clone_byte_byte_ok

/-! ### sumpter/sumpterref01.ReadFixed: 22 -/

noncomputable def ref01_ReadFixed (R : Caller) (x0 : Value) (s : St) : Option (Value × St) :=
(alenV (.slice 5) x0 s).bind fun v0 =>
(abin Try.prog .lss 3 (.tmp 5) (.const (.int .i64 4)) v0 (.int .i64 4)).bind fun v1 =>
condV v1
 (retV [(.int .u32 0), (.int .i64 10)] s)
 ((aindexS 1 x0 (.int .i64 0)).bind fun v2 =>
((aload false 1 v2 (frzS s)).bind fun v23 =>
some (v23, (frzS s))).bind fun r3 =>
(convInt .u32 r3.1).bind fun v4 =>
(aindexS 1 x0 (.int .i64 1)).bind fun v5 =>
((aload false 1 v5 (frzS s)).bind fun v22 =>
some (v22, (frzS s))).bind fun r6 =>
(convInt .u32 r6.1).bind fun v7 =>
(abin Try.prog .shl 28 (.tmp 14) (.const (.int .u64 8)) v7 (.int .u64 8)).bind fun v8 =>
(abin Try.prog .or 28 (.tmp 10) (.tmp 15) v4 v8).bind fun v9 =>
(aindexS 1 x0 (.int .i64 2)).bind fun v10 =>
((aload false 1 v10 (frzS s)).bind fun v21 =>
some (v21, (frzS s))).bind fun r11 =>
(convInt .u32 r11.1).bind fun v12 =>
(abin Try.prog .shl 28 (.tmp 20) (.const (.int .u64 16)) v12 (.int .u64 16)).bind fun v13 =>
(abin Try.prog .or 28 (.tmp 16) (.tmp 21) v9 v13).bind fun v14 =>
(aindexS 1 x0 (.int .i64 3)).bind fun v15 =>
((aload false 1 v15 (frzS s)).bind fun v20 =>
some (v20, (frzS s))).bind fun r16 =>
(convInt .u32 r16.1).bind fun v17 =>
(abin Try.prog .shl 28 (.tmp 26) (.const (.int .u64 24)) v17 (.int .u64 24)).bind fun v18 =>
(abin Try.prog .or 28 (.tmp 22) (.tmp 27) v14 v18).bind fun v19 =>
retV [v19, (.int .i64 0)] s)

theorem ref01_ReadFixed_of {lib : Lib} (hl : lib 22 = none) {x0 : Value} {s : St} {r : Value × St} (h : ref01_ReadFixed (run Try.prog lib hints) x0 s = some r) : run Try.prog lib hints 22 [x0] s = some r :=
  run_of hl Try.func22 (Eq.trans (by kernel_rfl) h)

theorem ref01_ReadFixed_ok : funcOk Try.prog 22 = true := by kernel_rfl
theorem ref01_ReadFixed_call {R : Caller} {xs : List Value} {s : St} : callV Try.prog R (.func (.func 22) #[] #[]) xs s = R 22 xs s := callV_eq ref01_ReadFixed_ok

/-! ### sumpter/sumpterref01.ReadNum: 23 -/

noncomputable def ref01_ReadNum.b1 (R : Caller) (T : List Value) (s : St) : Res :=
(abin Try.prog .geq 3 (.tmp 24) (.const (.int .i64 0)) (getL T 3) (.int .i64 0)).bind fun v9 =>
condV v9
 ((abin Try.prog .mul 33 (.tmp 28) (.const (.int .u64 128)) (getL T 2) (.int .u64 128)).bind fun v10 =>
(aindexS 1 (getL T 0) (getL T 3)).bind fun v11 =>
(aload false 1 v11 s).bind fun v12 =>
(abin Try.prog .rem 5 (.tmp 33) (.const (.int .u8 128)) v12 (.int .u8 128)).bind fun v13 =>
(convInt .u64 v13).bind fun v14 =>
(abin Try.prog .add 33 (.tmp 29) (.tmp 35) v10 v14).bind fun v15 =>
(abin Try.prog .sub 3 (.tmp 26) (.const (.int .i64 1)) (getL T 3) (.int .i64 1)).bind fun v16 =>
some (.normal, [(getL T 0), (getL T 1), v15, v16], s))
 (some (.exit 2, [(getL T 0), (getL T 1), (getL T 2)], s))

noncomputable def ref01_ReadNum.b0 (R : Caller) (T : List Value) (s : St) : Res :=
(alenV (.slice 5) (getL T 0) s).bind fun v0 =>
(abin Try.prog .lss 3 (.tmp 8) (.tmp 10) (getL T 1) v0).bind fun v1 =>
(guardV v1 true ((abin Try.prog .lss 3 (.tmp 13) (.const (.int .i64 10)) (getL T 1) (.int .i64 10)).bind fun v2 =>
some ([v2], s)) (some ([undef], s))).bind fun q3 =>
(apick v1 (getL q3.1 0) (.bool false)).bind fun v4 =>
condV v4
 ((aindexS 1 (getL T 0) (getL T 1)).bind fun v5 =>
(aload false 1 v5 q3.2).bind fun v6 =>
(abin Try.prog .geq 5 (.tmp 21) (.const (.int .u8 128)) v6 (.int .u8 128)).bind fun v7 =>
condV v7
 ((abin Try.prog .add 3 (.tmp 16) (.const (.int .i64 1)) (getL T 1) (.int .i64 1)).bind fun v8 =>
some (.normal, [(getL T 0), v8], q3.2))
 ((loopL (ref01_ReadNum.b1 R) [(getL T 0), (getL T 1), (.int .u64 0), (getL T 1)] q3.2).bind fun r17 =>
exV r17.1 [(2, (((callV Try.prog R (.func (.func 16) #[] #[]) [(getL r17.2.1 2)] (frzS r17.2.2)).bind fun r27 =>
some (r27.1, r27.2)).map (quietR r17.2.2)).bind fun r18 =>
((abytesToStr r18.1 (frzS r18.2)).bind fun v26 =>
some (v26, (frzS r18.2))).bind fun r19 =>
(abin Try.prog .add 3 (.tmp 41) (.const (.int .i64 1)) (getL r17.2.1 1) (.int .i64 1)).bind fun v20 =>
(asliceV 1 (getL r17.2.1 0) none (some v20) none).bind fun v21 =>
((abytesToStr v21 (frzS r18.2)).bind fun v25 =>
some (v25, (frzS r18.2))).bind fun r22 =>
(abin Try.prog .neq 9 (.tmp 39) (.tmp 44) r19.1 r22.1).bind fun v23 =>
condV v23
 (some (.ret, [(.int .u64 0), (.int .i64 0), (.int .i64 11)], r18.2))
 ((abin Try.prog .add 3 (.tmp 47) (.const (.int .i64 1)) (getL r17.2.1 1) (.int .i64 1)).bind fun v24 =>
some (.ret, [(getL r17.2.1 2), v24, (.int .i64 0)], r18.2)))]
 (none)))
 (some (.exit 0, [(getL T 0)], q3.2))

noncomputable def ref01_ReadNum (R : Caller) (x0 : Value) (s : St) : Option (Value × St) :=
(loopL (ref01_ReadNum.b0 R) [x0, (.int .i64 0)] s).bind fun r28 =>
exV r28.1 [(0, (alenV (.slice 5) (getL r28.2.1 0) r28.2.2).bind fun v29 =>
(abin Try.prog .geq 3 (.tmp 50) (.const (.int .i64 10)) v29 (.int .i64 10)).bind fun v30 =>
condV v30
 (retV [(.int .u64 0), (.int .i64 0), (.int .i64 11)] r28.2.2)
 (retV [(.int .u64 0), (.int .i64 0), (.int .i64 10)] r28.2.2))]
 (retV [(getL r28.2.1 0), (getL r28.2.1 1), (getL r28.2.1 2)] r28.2.2)

theorem ref01_ReadNum_of {lib : Lib} (hl : lib 23 = none) {x0 : Value} {s : St} {r : Value × St} (h : ref01_ReadNum (run Try.prog lib hints) x0 s = some r) : run Try.prog lib hints 23 [x0] s = some r :=
  run_of hl Try.func23 (Eq.trans (by kernel_rfl) h)

theorem ref01_ReadNum_ok : funcOk Try.prog 23 = true := by kernel_rfl
theorem ref01_ReadNum_call {R : Caller} {xs : List Value} {s : St} : callV Try.prog R (.func (.func 23) #[] #[]) xs s = R 23 xs s := callV_eq ref01_ReadNum_ok

/-! ### slices.Grow[[]byte,byte]: 24 -/

noncomputable def slices_Grow_byte_byte.j0 (R : Caller) (T : List Value) (s : St) : Option (Value × St) :=
retV [(getL T 0)] s

noncomputable def slices_Grow_byte_byte.j1 (R : Caller) (T : List Value) (s : St) : Option (Value × St) :=
(acap (getL T 0)).bind fun v4 =>
(alenV (.slice 5) (getL T 0) s).bind fun v5 =>
(abin Try.prog .sub 3 (.tmp 10) (.tmp 12) v4 v5).bind fun v6 =>
(abin Try.prog .sub 3 (.tmp 8) (.tmp 13) (getL T 1) v6).bind fun v7 =>
(abin Try.prog .gtr 3 (.tmp 15) (.const (.int .i64 0)) v7 (.int .i64 0)).bind fun v8 =>
condV v8
 ((acap (getL T 0)).bind fun v9 =>
(asliceV 1 (getL T 0) none (some v9) none).bind fun v10 =>
(aappendZ 1 1 [(.int .u8 0)] v10 v7 s).bind fun r11 =>
(alenV (.slice 5) (getL T 0) r11.2).bind fun v12 =>
(asliceV 1 r11.1 none (some v12) none).bind fun v13 =>
joinK (slices_Grow_byte_byte.j0 R) [v13] r11.2)
 (joinK (slices_Grow_byte_byte.j0 R) [(getL T 0)] s)

noncomputable def slices_Grow_byte_byte (R : Caller) (x0 x1 : Value) (s : St) : Option (Value × St) :=
(abin Try.prog .lss 3 (.tmp 5) (.const (.int .i64 0)) x1 (.int .i64 0)).bind fun v1 =>
condV v1
 ((aiface 9 (.string ⟨#[99, 97, 110, 110, 111, 116, 32, 98, 101, 32, 110, 101, 103, 97, 116, 105, 118, 101]⟩)).bind fun v2 =>
none)
 (joinK (slices_Grow_byte_byte.j1 R) [x0, x1] s)

theorem slices_Grow_byte_byte_of {lib : Lib} (hl : lib 24 = none) {x0 x1 : Value} {s : St} {r : Value × St} (h : slices_Grow_byte_byte (run Try.prog lib hints) x0 x1 s = some r) : run Try.prog lib hints 24 [x0, x1] s = some r :=
  run_of hl Try.func24 (Eq.trans (by kernel_rfl) h)

theorem slices_Grow_byte_byte_ok : funcOk Try.prog 24 = true := by kernel_rfl
theorem slices_Grow_byte_byte_call {R : Caller} {xs : List Value} {s : St} : callV Try.prog R (.func (.func 24) #[] #[]) xs s = R 24 xs s := callV_eq slices_Grow_byte_byte_ok

/-! ### sumpter/octet.steps: 25 -/

noncomputable def octet_steps.b1 (R : Caller) (T : List Value) (s : St) : Res :=
(abin Try.prog .lss 3 (.tmp 9) (.const (.int .i64 8)) (getL T 5) (.int .i64 8)).bind fun v2 =>
condV v2
 ((abin Try.prog .shr 28 (.tmp 11) (.const (.int .u64 1)) (getL T 3) (.int .u64 1)).bind fun v3 =>
(abin Try.prog .and 28 (.tmp 13) (.const (.int .u32 1)) (getL T 3) (.int .u32 1)).bind fun v4 =>
(aun .neg v4).bind fun v5 =>
(abin Try.prog .and 28 (.const (.int .u32 3988292384)) (.tmp 15) (.int .u32 3988292384) v5).bind fun v6 =>
(abin Try.prog .xor 28 (.tmp 12) (.tmp 16) v3 v6).bind fun v7 =>
(abin Try.prog .add 3 (.tmp 9) (.const (.int .i64 1)) (getL T 5) (.int .i64 1)).bind fun v8 =>
some (.normal, [(getL T 0), (getL T 1), (getL T 2), v7, (getL T 4), v8, (getL T 6), (getL T 7)], s))
 (some (.exit 2, [(getL T 0), (getL T 1), (getL T 2), (getL T 3), (getL T 4), (getL T 6), (getL T 7)], s))

noncomputable def octet_steps.b0 (R : Caller) (T : List Value) (s : St) : Res :=
(abin Try.prog .lss 3 (.tmp 4) (.const (.int .i64 256)) (getL T 2) (.int .i64 256)).bind fun v0 =>
condV v0
 ((convInt .u32 (getL T 2)).bind fun v1 =>
(loopL (octet_steps.b1 R) [(getL T 0), (getL T 1), (getL T 2), v1, (getL T 2), (.int .i64 0), (getL T 3), (getL T 4)] s).bind fun r9 =>
exV r9.1 [(2, (aindexA 256 1 (getL r9.2.1 1) (getL r9.2.1 2)).bind fun v10 =>
(lstore 1 v10 (getL r9.2.1 3) (getL r9.2.1 6)).bind fun v11 =>
(abin Try.prog .add 3 (.tmp 4) (.const (.int .i64 1)) (getL r9.2.1 4) (.int .i64 1)).bind fun v12 =>
some (.normal, [(getL r9.2.1 0), (getL r9.2.1 1), v12, (getL r9.2.1 5), v11], r9.2.2))]
 (none))
 (some (.exit 0, [(getL T 0), (getL T 1), (getL T 3), (getL T 4)], s))

noncomputable def octet_steps (R : Caller) (s : St) : Option (Value × St) :=
(loopL (octet_steps.b0 R) [lptr, lptr, (.int .i64 0), (.agg (List.replicate 256 (.int .u32 0)).toArray), (.agg (List.replicate 256 (.int .u32 0)).toArray)] s).bind fun r13 =>
exV r13.1 [(0, (lload true 256 (getL r13.2.1 1) (getL r13.2.1 3)).bind fun v14 =>
(lstore 256 (getL r13.2.1 0) v14 (getL r13.2.1 2)).bind fun v15 =>
(lload true 256 (getL r13.2.1 0) v15).bind fun v16 =>
retV [v16] r13.2.2)]
 (none)

theorem octet_steps_of {lib : Lib} (hl : lib 25 = none) {s : St} {r : Value × St} (h : octet_steps (run Try.prog lib hints)  s = some r) : run Try.prog lib hints 25 [] s = some r :=
  run_of hl Try.func25 (Eq.trans (by kernel_rfl) h)

theorem octet_steps_ok : funcOk Try.prog 25 = true := by kernel_rfl
theorem octet_steps_call {R : Caller} {xs : List Value} {s : St} : callV Try.prog R (.func (.func 25) #[] #[]) xs s = R 25 xs s := callV_eq octet_steps_ok


end Go.Proofs.Ytpbbbfemnkeplaa.Ab
