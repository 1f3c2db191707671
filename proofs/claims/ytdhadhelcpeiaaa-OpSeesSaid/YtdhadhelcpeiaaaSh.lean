/- The program's functions, as the abstract machine runs them: printed. -/
import Derived.Test.YtdhadhelcpeiaaaLib0
namespace Go.Proofs.Ytdhadhelcpeiaaa.Ab
open Go
set_option maxRecDepth 100000
set_option linter.unusedVariables false

def hints : Hints := fun f => hintL f [(2, []), (3, []), (4, []), (5, [(11, 66)]), (6, [(3, 59)]), (7, [(4, 135), (8, 136), (12, 137), (53, 135), (68, 135), (75, 135), (79, 135)]), (8, [(4, 111), (5, 112), (8, 113), (10, 114), (12, 115)]), (9, [(3, 102), (8, 103), (10, 104)]), (10, []), (11, [(11, 49), (12, 50), (33, 49)]), (12, [(11, 46), (13, 47)]), (13, []), (14, []), (15, [(1, 13), (3, 14), (6, 13), (11, 14)]), (16, [(5, 30), (13, 30), (18, 30), (23, 30), (27, 30)]), (17, [(1, 21), (2, 22), (11, 21), (16, 21)]), (18, [(2, 30), (14, 30), (20, 30), (25, 30)]), (19, [(7, 21), (14, 21), (18, 21)]), (20, [(2, 33), (3, 34), (4, 35), (6, 36), (7, 33), (9, 34), (12, 33), (14, 34)]), (21, [(1, 24), (2, 25), (11, 24), (14, 24), (19, 24), (21, 24)]), (22, [(6, 32), (7, 33)]), (23, [(7, 35), (8, 36)]), (24, [(1, 83), (3, 84), (6, 83), (14, 84), (18, 83), (22, 84), (26, 83), (30, 84), (39, 84), (43, 83), (48, 84), (51, 83), (57, 83), (62, 84), (71, 84), (74, 83), (78, 83)]), (25, [(1, 107), (5, 107), (9, 107), (14, 107), (18, 107), (22, 107), (35, 107), (39, 107), (48, 107), (54, 107), (58, 107), (64, 107), (68, 107), (75, 107), (80, 107), (86, 107), (88, 107), (94, 107), (98, 107), (102, 107)]), (26, []), (27, []), (28, [(4, 34), (12, 34), (16, 34), (29, 34)]), (29, [(1, 16), (3, 16), (7, 16), (12, 16)]), (30, [(4, 18)]), (31, []), (32, [(0, 7)]), (33, [(4, 18)]), (34, [(3, 66), (5, 67), (6, 68), (9, 69), (11, 66), (13, 66), (16, 66), (22, 66), (34, 66), (36, 66), (44, 66), (58, 66)]), (35, [(2, 14)]), (36, []), (37, [(1, 8), (2, 9), (3, 8), (5, 8)]), (38, [(2, 53)]), (39, [(1, 28), (8, 28), (13, 28), (18, 28), (22, 28), (24, 28)]), (40, []), (41, [(2, 48)]), (42, []), (43, [(1, 25), (3, 25), (8, 25), (14, 25), (18, 25), (20, 25)]), (44, [(3, 26), (5, 27), (10, 26)]), (45, [(3, 35), (5, 36), (10, 35), (19, 35), (21, 35), (29, 35)]), (46, [(3, 23), (5, 24), (10, 23)]), (47, [(3, 27), (5, 28), (20, 27)]), (48, [(3, 20), (5, 21)]), (49, [(3, 45), (8, 46), (18, 46), (20, 45), (28, 46), (30, 45)]), (50, [(3, 25), (7, 26), (15, 26)]), (51, [(4, 36), (9, 37), (17, 37)]), (52, [(0, 2)]), (53, []), (54, []), (55, []), (56, [(3, 30), (11, 30), (18, 30), (23, 30)]), (57, [(2, 30), (15, 30), (20, 30), (25, 30)]), (58, []), (59, [(2, 9), (5, 9)]), (60, []), (62, []), (63, []), (64, []), (66, [])]

/-! ### gosem.cut.init: 2 -/

noncomputable def gosem_cut_init (R : Caller) (s : St) : Option (Value × St) :=
(callV Try.prog R (.func (.func 1) #[] #[]) [] s).bind fun r0 =>
retV [] r0.2

theorem gosem_cut_init_of {lib : Lib} (hl : lib 2 = none) {s : St} {r : Value × St} (h : gosem_cut_init (run Try.prog lib hints)  s = some r) : run Try.prog lib hints 2 [] s = some r :=
  run_of hl Try.func2 (Eq.trans (by kernel_rfl) h)

theorem gosem_cut_init_ok : funcOk Try.prog 2 = true := by kernel_rfl
theorem gosem_cut_init_call {R : Caller} {xs : List Value} {s : St} : callV Try.prog R (.func (.func 2) #[] #[]) xs s = R 2 xs s := callV_eq gosem_cut_init_ok

/-! ### sumpter/sumpterlaw04.OpApplies: 3 -/

noncomputable def law04_OpApplies.b1 (R : Caller) (T : List Value) (s : St) : Res :=
(abin Try.prog .lss 3 (.tmp 58) (.tmp 57) (getL T 8) (getL T 7)).bind fun v25 =>
condV v25
 ((aindexS 2 (getL T 4) (getL T 8)).bind fun v26 =>
(afieldAddr 1 v26).bind fun v27 =>
(astore 1 v27 (.string ⟨#[122, 122]⟩) s).bind fun s28 =>
(abin Try.prog .add 3 (.tmp 58) (.const (.int .i64 1)) (getL T 8) (.int .i64 1)).bind fun v29 =>
some (.normal, [(getL T 0), (getL T 1), (getL T 2), (getL T 3), (getL T 4), (getL T 5), (getL T 6), (getL T 7), v29], s28))
 (some (.exit 2, [(getL T 0), (getL T 1), (getL T 2), (getL T 3), (getL T 5), (getL T 6)], s))

noncomputable def law04_OpApplies.b3 (R : Caller) (T : List Value) (s : St) : Res :=
(abin Try.prog .lss 3 (.tmp 77) (.tmp 76) (getL T 10) (getL T 9)).bind fun v37 =>
condV v37
 ((aindexS 3 (getL T 4) (getL T 5)).bind fun v38 =>
(afieldAddr 2 v38).bind fun v39 =>
(aload false 1 v39 s).bind fun v40 =>
(aindexS 2 v40 (getL T 10)).bind fun v41 =>
(afieldAddr 0 v41).bind fun v42 =>
(astore 1 v42 (.string ⟨#[122, 122]⟩) s).bind fun s43 =>
(abin Try.prog .add 3 (.tmp 77) (.const (.int .i64 1)) (getL T 10) (.int .i64 1)).bind fun v44 =>
some (.normal, [(getL T 0), (getL T 1), (getL T 2), (getL T 3), (getL T 4), (getL T 5), (getL T 6), (getL T 7), (getL T 8), (getL T 9), v44], s43))
 (some (.exit 6, [(getL T 0), (getL T 1), (getL T 2), (getL T 3), (getL T 4), (getL T 6), (getL T 7), (getL T 8)], s))

noncomputable def law04_OpApplies.b2 (R : Caller) (T : List Value) (s : St) : Res :=
(abin Try.prog .lss 3 (.tmp 68) (.tmp 67) (getL T 7) (getL T 6)).bind fun v32 =>
condV v32
 ((aindexS 3 (getL T 4) (getL T 7)).bind fun v33 =>
(afieldAddr 2 v33).bind fun v34 =>
(aload false 1 v34 s).bind fun v35 =>
(alenV (.slice 32) v35 s).bind fun v36 =>
(loopL (law04_OpApplies.b3 R) [(getL T 0), (getL T 1), (getL T 2), (getL T 3), (getL T 4), (getL T 7), (getL T 5), (getL T 6), (getL T 7), v36, (.int .i64 0)] s).bind fun r45 =>
exV r45.1 [(6, (abin Try.prog .add 3 (.tmp 68) (.const (.int .i64 1)) (getL r45.2.1 7) (.int .i64 1)).bind fun v46 =>
some (.normal, [(getL r45.2.1 0), (getL r45.2.1 1), (getL r45.2.1 2), (getL r45.2.1 3), (getL r45.2.1 4), (getL r45.2.1 5), (getL r45.2.1 6), v46], r45.2.2))]
 (none))
 (some (.exit 4, [(getL T 0), (getL T 1), (getL T 2), (getL T 3), (getL T 5)], s))

noncomputable def law04_OpApplies.b0 (R : Caller) (T : List Value) (s : St) : Res :=
(abin Try.prog .lss 3 (.tmp 19) (.const (.int .i64 2)) (getL T 4) (.int .i64 2)).bind fun v2 =>
condV v2
 ((callV Try.prog R (.func (.func 11) #[] #[]) [(getL T 3), (getL T 1)] s).bind fun r3 =>
(aextract 0 r3.1).bind fun v4 =>
(aextract 1 r3.1).bind fun v5 =>
(aextract 2 r3.1).bind fun v6 =>
(callV Try.prog R (.func (.func 12) #[] #[]) [(getL T 0), (getL T 1)] r3.2).bind fun r7 =>
(aextract 0 r7.1).bind fun v8 =>
(aextract 1 r7.1).bind fun v9 =>
(aextract 2 r7.1).bind fun v10 =>
(abin Try.prog .neq 26 (.tmp 35) (.tmp 36) v6 v10).bind fun v11 =>
(guardV v11 false ((callV Try.prog R (.func (.func 13) #[] #[]) [v4, v8] r7.2).bind fun r12 =>
(aun .not r12.1).bind fun v13 =>
some ([v13], r12.2)) (some ([undef], r7.2))).bind fun q14 =>
(apick v11 (.bool true) (getL q14.1 0)).bind fun v15 =>
(guardV v15 false ((callV Try.prog R (.func (.func 14) #[] #[]) [v5, v9] q14.2).bind fun r16 =>
(aun .not r16.1).bind fun v17 =>
some ([v17], r16.2)) (some ([undef], q14.2))).bind fun q18 =>
(apick v15 (.bool true) (getL q18.1 0)).bind fun v19 =>
(guardV v19 false ((callV Try.prog R (.func (.func 13) #[] #[]) [(getL T 3), (getL T 0)] q18.2).bind fun r20 =>
(aun .not r20.1).bind fun v21 =>
some ([v21], r20.2)) (some ([undef], q18.2))).bind fun q22 =>
(apick v19 (.bool true) (getL q22.1 0)).bind fun v23 =>
condV v23
 (some (.ret, [(.bool false)], q22.2))
 ((alenV (.slice 32) v4 q22.2).bind fun v24 =>
(loopL (law04_OpApplies.b1 R) [(getL T 0), (getL T 1), (getL T 2), (getL T 3), v4, v5, (getL T 4), v24, (.int .i64 0)] q22.2).bind fun r30 =>
exV r30.1 [(2, (alenV (.slice 34) (getL r30.2.1 4) r30.2.2).bind fun v31 =>
(loopL (law04_OpApplies.b2 R) [(getL r30.2.1 0), (getL r30.2.1 1), (getL r30.2.1 2), (getL r30.2.1 3), (getL r30.2.1 4), (getL r30.2.1 5), v31, (.int .i64 0)] r30.2.2).bind fun r47 =>
exV r47.1 [(4, (abin Try.prog .add 3 (.tmp 19) (.const (.int .i64 1)) (getL r47.2.1 4) (.int .i64 1)).bind fun v48 =>
some (.normal, [(getL r47.2.1 0), (getL r47.2.1 1), (getL r47.2.1 2), (getL r47.2.1 3), v48], r47.2.2))]
 (none))]
 (none)))
 (some (.exit 0, [(getL T 0), (getL T 2), (getL T 3)], s))

noncomputable def law04_OpApplies (R : Caller) (x0 x1 : Value) (s : St) : Option (Value × St) :=
(callV Try.prog R (.func (.func 10) #[] #[]) [] s).bind fun r0 =>
(aappend 2 32 (.slice none 0 0) x0 r0.2).bind fun r1 =>
(loopL (law04_OpApplies.b0 R) [x0, x1, r0.1, r1.1, (.int .i64 0)] r1.2).bind fun r49 =>
exV r49.1 [(0, (guardV (getL r49.2.1 1) true ((callV Try.prog R (.func (.func 13) #[] #[]) [(getL r49.2.1 2), (getL r49.2.1 0)] r49.2.2).bind fun r50 =>
some ([r50.1], r50.2)) (some ([undef], r49.2.2))).bind fun q51 =>
(apick (getL r49.2.1 1) (getL q51.1 0) (.bool false)).bind fun v52 =>
retV [v52] q51.2)]
 (retV [(getL r49.2.1 0)] r49.2.2)

theorem law04_OpApplies_of {lib : Lib} (hl : lib 3 = none) {x0 x1 : Value} {s : St} {r : Value × St} (h : law04_OpApplies (run Try.prog lib hints) x0 x1 s = some r) : run Try.prog lib hints 3 [x0, x1] s = some r :=
  run_of hl Try.func3 (Eq.trans (by kernel_rfl) h)

theorem law04_OpApplies_ok : funcOk Try.prog 3 = true := by kernel_rfl
theorem law04_OpApplies_call {R : Caller} {xs : List Value} {s : St} : callV Try.prog R (.func (.func 3) #[] #[]) xs s = R 3 xs s := callV_eq law04_OpApplies_ok

/-! ### sumpter/sumpterlaw04.OpParts: 4 -/

noncomputable def law04_OpParts (R : Caller) (x0 x1 x2 : Value) (s : St) : Option (Value × St) :=
(callV Try.prog R (.func (.func 10) #[] #[]) [] s).bind fun r0 =>
(alenV (.slice 38) x1 r0.2).bind fun v1 =>
(abin Try.prog .add 3 (.tmp 20) (.const (.int .i64 1)) v1 (.int .i64 1)).bind fun v2 =>
(abin Try.prog .rem 3 (.tmp 18) (.tmp 21) x2 v2).bind fun v3 =>
(alenV (.slice 38) x1 r0.2).bind fun v4 =>
(abin Try.prog .add 3 (.tmp 22) (.tmp 24) v3 v4).bind fun v5 =>
(abin Try.prog .add 3 (.tmp 25) (.const (.int .i64 1)) v5 (.int .i64 1)).bind fun v6 =>
(alenV (.slice 38) x1 r0.2).bind fun v7 =>
(abin Try.prog .add 3 (.tmp 28) (.const (.int .i64 1)) v7 (.int .i64 1)).bind fun v8 =>
(abin Try.prog .rem 3 (.tmp 26) (.tmp 29) v6 v8).bind fun v9 =>
(callV Try.prog R (.func (.func 11) #[] #[]) [x0, x1] r0.2).bind fun r10 =>
(aextract 0 r10.1).bind fun v11 =>
(aextract 1 r10.1).bind fun v12 =>
(aextract 2 r10.1).bind fun v13 =>
(abin Try.prog .neq 26 (.tmp 38) (.const (.int .i64 0)) v13 (.int .i64 0)).bind fun v14 =>
condV v14
 (retV [r0.1] r10.2)
 ((asliceV 6 x1 none (some v9) none).bind fun v15 =>
(callV Try.prog R (.func (.func 11) #[] #[]) [x0, v15] r10.2).bind fun r16 =>
(aextract 0 r16.1).bind fun v17 =>
(aextract 1 r16.1).bind fun v18 =>
(aextract 2 r16.1).bind fun v19 =>
(asliceV 6 x1 (some v9) none none).bind fun v20 =>
(callV Try.prog R (.func (.func 11) #[] #[]) [v17, v20] r16.2).bind fun r21 =>
(aextract 0 r21.1).bind fun v22 =>
(aextract 1 r21.1).bind fun v23 =>
(aextract 2 r21.1).bind fun v24 =>
(guardV r0.1 true ((abin Try.prog .eql 26 (.tmp 61) (.const (.int .i64 0)) v19 (.int .i64 0)).bind fun v25 =>
some ([v25], r21.2)) (some ([undef], r21.2))).bind fun q26 =>
(apick r0.1 (getL q26.1 0) (.bool false)).bind fun v27 =>
(guardV v27 true ((abin Try.prog .eql 26 (.tmp 65) (.const (.int .i64 0)) v24 (.int .i64 0)).bind fun v28 =>
some ([v28], q26.2)) (some ([undef], q26.2))).bind fun q29 =>
(apick v27 (getL q29.1 0) (.bool false)).bind fun v30 =>
(guardV v30 true ((callV Try.prog R (.func (.func 13) #[] #[]) [v11, v22] q29.2).bind fun r31 =>
some ([r31.1], r31.2)) (some ([undef], q29.2))).bind fun q32 =>
(apick v30 (getL q32.1 0) (.bool false)).bind fun v33 =>
(guardV v33 true ((aappend 3 48 (.slice none 0 0) v18 q32.2).bind fun r34 =>
(aappend 3 48 r34.1 v23 r34.2).bind fun r35 =>
(callV Try.prog R (.func (.func 14) #[] #[]) [v12, r35.1] r35.2).bind fun r36 =>
some ([r36.1], r36.2)) (some ([undef], q32.2))).bind fun q37 =>
(apick v33 (getL q37.1 0) (.bool false)).bind fun v38 =>
retV [v38] q37.2)

theorem law04_OpParts_of {lib : Lib} (hl : lib 4 = none) {x0 x1 x2 : Value} {s : St} {r : Value × St} (h : law04_OpParts (run Try.prog lib hints) x0 x1 x2 s = some r) : run Try.prog lib hints 4 [x0, x1, x2] s = some r :=
  run_of hl Try.func4 (Eq.trans (by kernel_rfl) h)

theorem law04_OpParts_ok : funcOk Try.prog 4 = true := by kernel_rfl
theorem law04_OpParts_call {R : Caller} {xs : List Value} {s : St} : callV Try.prog R (.func (.func 4) #[] #[]) xs s = R 4 xs s := callV_eq law04_OpParts_ok

/-! ### sumpter/sumpterlaw04.OpReads: 5 -/

noncomputable def law04_OpReads.b0 (R : Caller) (T : List Value) (s : St) : Res :=
(abin Try.prog .lss 3 (.tmp 35) (.tmp 34) (getL T 8) (getL T 7)).bind fun v15 =>
condV v15
 ((aindexS 6 (getL T 6) (getL T 8)).bind fun v16 =>
(aload true 6 v16 s).bind fun v17 =>
(lstore 6 lptr v17 (.agg #[(.int .i64 0), (.string ⟨#[]⟩), (.string ⟨#[]⟩), (.string ⟨#[]⟩), (.string ⟨#[]⟩), (.int .i64 0)])).bind fun v18 =>
(guardV (getL T 5) false ((lload true 6 lptr v18).bind fun v19 =>
(callV Try.prog R (.func (.func 15) #[] #[]) [v19] s).bind fun r20 =>
some ([r20.1], r20.2)) (some ([undef], s))).bind fun q21 =>
(apick (getL T 5) (.bool true) (getL q21.1 0)).bind fun v22 =>
(abin Try.prog .add 3 (.tmp 35) (.const (.int .i64 1)) (getL T 8) (.int .i64 1)).bind fun v23 =>
some (.normal, [(getL T 0), (getL T 1), (getL T 2), (getL T 3), (getL T 4), v22, (getL T 6), (getL T 7), v23], q21.2))
 (some (.exit 0, [(getL T 0), (getL T 1), (getL T 2), (getL T 3), (getL T 4), (getL T 5)], s))

noncomputable def law04_OpReads (R : Caller) (x0 x1 : Value) (s : St) : Option (Value × St) :=
(callV Try.prog R (.func (.func 10) #[] #[]) [] s).bind fun r0 =>
(callV Try.prog R (.func (.func 11) #[] #[]) [x0, x1] r0.2).bind fun r1 =>
(aextract 0 r1.1).bind fun v2 =>
(aextract 1 r1.1).bind fun v3 =>
(aextract 2 r1.1).bind fun v4 =>
(abin Try.prog .neq 26 (.tmp 20) (.const (.int .i64 0)) v4 (.int .i64 0)).bind fun v5 =>
condV v5
 ((guardV r0.1 true ((alenV (.slice 32) v2 r1.2).bind fun v6 =>
(abin Try.prog .eql 3 (.tmp 25) (.const (.int .i64 0)) v6 (.int .i64 0)).bind fun v7 =>
some ([v7], r1.2)) (some ([undef], r1.2))).bind fun q8 =>
(apick r0.1 (getL q8.1 0) (.bool false)).bind fun v9 =>
(guardV v9 true ((alenV (.slice 34) v3 q8.2).bind fun v10 =>
(abin Try.prog .eql 3 (.tmp 30) (.const (.int .i64 0)) v10 (.int .i64 0)).bind fun v11 =>
some ([v11], q8.2)) (some ([undef], q8.2))).bind fun q12 =>
(apick v9 (getL q12.1 0) (.bool false)).bind fun v13 =>
retV [v13] q12.2)
 ((alenV (.slice 38) x1 r1.2).bind fun v14 =>
(loopL (law04_OpReads.b0 R) [x0, x1, r0.1, v2, v3, (.bool false), x1, v14, (.int .i64 0)] r1.2).bind fun r24 =>
exV r24.1 [(0, (guardV (getL r24.2.1 2) true ((callV Try.prog R (.func (.func 16) #[] #[]) [(getL r24.2.1 3)] r24.2.2).bind fun r25 =>
(abin Try.prog .eql 26 (.tmp 48) (.const (.int .i64 0)) r25.1 (.int .i64 0)).bind fun v26 =>
some ([v26], r25.2)) (some ([undef], r24.2.2))).bind fun q27 =>
(apick (getL r24.2.1 2) (getL q27.1 0) (.bool false)).bind fun v28 =>
(guardV v28 true ((alenV (.slice 34) (getL r24.2.1 4) q27.2).bind fun v29 =>
(alenV (.slice 38) (getL r24.2.1 1) q27.2).bind fun v30 =>
(abin Try.prog .eql 3 (.tmp 53) (.tmp 55) v29 v30).bind fun v31 =>
some ([v31], q27.2)) (some ([undef], q27.2))).bind fun q32 =>
(apick v28 (getL q32.1 0) (.bool false)).bind fun v33 =>
(guardV v33 true (some ([(getL r24.2.1 5)], q32.2)) (some ([undef], q32.2))).bind fun q34 =>
(guardV (getL q34.1 0) false ((callV Try.prog R (.func (.func 13) #[] #[]) [(getL r24.2.1 3), (getL r24.2.1 0)] q34.2).bind fun r35 =>
some ([r35.1], r35.2)) (some ([undef], q34.2))).bind fun q36 =>
(guardV v33 true ((apick (getL q34.1 0) (.bool true) (getL q36.1 0)).bind fun v37 =>
some ([v37], q36.2)) (some ([undef], q36.2))).bind fun q38 =>
(apick v33 (getL q38.1 0) (.bool false)).bind fun v39 =>
retV [v39] q38.2)]
 (none))

theorem law04_OpReads_of {lib : Lib} (hl : lib 5 = none) {x0 x1 : Value} {s : St} {r : Value × St} (h : law04_OpReads (run Try.prog lib hints) x0 x1 s = some r) : run Try.prog lib hints 5 [x0, x1] s = some r :=
  run_of hl Try.func5 (Eq.trans (by kernel_rfl) h)

theorem law04_OpReads_ok : funcOk Try.prog 5 = true := by kernel_rfl
theorem law04_OpReads_call {R : Caller} {xs : List Value} {s : St} : callV Try.prog R (.func (.func 5) #[] #[]) xs s = R 5 xs s := callV_eq law04_OpReads_ok

/-! ### sumpter/sumpterlaw04.OpTwice: 6 -/

noncomputable def law04_OpTwice (R : Caller) (x0 x1 : Value) (s : St) : Option (Value × St) :=
(lbox x1).bind fun v0 =>
(callV Try.prog R (.func (.func 10) #[] #[]) [] s).bind fun r1 =>
(lload true 6 lptr v0).bind fun v2 =>
(callV Try.prog R (.func (.func 15) #[] #[]) [v2] r1.2).bind fun r3 =>
(aun .not r3.1).bind fun v4 =>
condV v4
 (retV [r1.1] r3.2)
 ((lload true 6 lptr v0).bind fun v5 =>
(abuildSl 6 [(.int .i64 0), (.string ⟨#[]⟩), (.string ⟨#[]⟩), (.string ⟨#[]⟩), (.string ⟨#[]⟩), (.int .i64 0)] 1 [(0, v5)] r3.2).bind fun r6 =>
(callV Try.prog R (.func (.func 11) #[] #[]) [x0, r6.1] r6.2).bind fun r7 =>
(aextract 0 r7.1).bind fun v8 =>
(aextract 1 r7.1).bind fun v9 =>
(aextract 2 r7.1).bind fun v10 =>
(lload true 6 lptr v0).bind fun v11 =>
(lload true 6 lptr v0).bind fun v12 =>
(abuildSl 6 [(.int .i64 0), (.string ⟨#[]⟩), (.string ⟨#[]⟩), (.string ⟨#[]⟩), (.string ⟨#[]⟩), (.int .i64 0)] 2 [(0, v11), (1, v12)] r7.2).bind fun r13 =>
(callV Try.prog R (.func (.func 11) #[] #[]) [x0, r13.1] r13.2).bind fun r14 =>
(aextract 0 r14.1).bind fun v15 =>
(aextract 1 r14.1).bind fun v16 =>
(aextract 2 r14.1).bind fun v17 =>
(guardV r1.1 true ((abin Try.prog .eql 26 (.tmp 36) (.tmp 37) v10 v17).bind fun v18 =>
some ([v18], r14.2)) (some ([undef], r14.2))).bind fun q19 =>
(apick r1.1 (getL q19.1 0) (.bool false)).bind fun v20 =>
(guardV v20 true ((abin Try.prog .neq 26 (.tmp 41) (.const (.int .i64 0)) v10 (.int .i64 0)).bind fun v21 =>
some ([v21], q19.2)) (some ([undef], q19.2))).bind fun q22 =>
(guardV (getL q22.1 0) false ((callV Try.prog R (.func (.func 13) #[] #[]) [v8, v15] q22.2).bind fun r23 =>
some ([r23.1], r23.2)) (some ([undef], q22.2))).bind fun q24 =>
(guardV (getL q24.1 0) true ((alenV (.slice 34) v9 q24.2).bind fun v25 =>
(abin Try.prog .eql 3 (.tmp 49) (.const (.int .i64 1)) v25 (.int .i64 1)).bind fun v26 =>
some ([v26], q24.2)) (some ([undef], q24.2))).bind fun q27 =>
(guardV (getL q22.1 0) false ((apick (getL q24.1 0) (getL q27.1 0) (.bool false)).bind fun v28 =>
some ([v28], q27.2)) (some ([undef], q27.2))).bind fun q29 =>
(guardV (getL q29.1 0) true ((alenV (.slice 34) v16 q29.2).bind fun v30 =>
(abin Try.prog .eql 3 (.tmp 54) (.const (.int .i64 2)) v30 (.int .i64 2)).bind fun v31 =>
some ([v31], q29.2)) (some ([undef], q29.2))).bind fun q32 =>
(guardV (getL q22.1 0) false ((apick (getL q29.1 0) (getL q32.1 0) (.bool false)).bind fun v33 =>
some ([v33], q32.2)) (some ([undef], q32.2))).bind fun q34 =>
(guardV v20 true ((apick (getL q22.1 0) (.bool true) (getL q34.1 0)).bind fun v35 =>
some ([v35], q34.2)) (some ([undef], q34.2))).bind fun q36 =>
(apick v20 (getL q36.1 0) (.bool false)).bind fun v37 =>
retV [v37] q36.2)

theorem law04_OpTwice_of {lib : Lib} (hl : lib 6 = none) {x0 x1 : Value} {s : St} {r : Value × St} (h : law04_OpTwice (run Try.prog lib hints) x0 x1 s = some r) : run Try.prog lib hints 6 [x0, x1] s = some r :=
  run_of hl Try.func6 (Eq.trans (by kernel_rfl) h)

theorem law04_OpTwice_ok : funcOk Try.prog 6 = true := by kernel_rfl
theorem law04_OpTwice_call {R : Caller} {xs : List Value} {s : St} : callV Try.prog R (.func (.func 6) #[] #[]) xs s = R 6 xs s := callV_eq law04_OpTwice_ok

/-! ### sumpter/sumpterlaw04.OpSees: 7 -/

noncomputable def law04_OpSees.j0 (R : Caller) (T : List Value) (s : St) : Option (Value × St) :=
condV (getL T 4)
 (retV [(.bool false)] s)
 ((callV Try.prog R (.func (.func 19) #[] #[]) [(getL T 2), (getL T 0)] s).bind fun r55 =>
(aextract 0 r55.1).bind fun v56 =>
(aextract 1 r55.1).bind fun v57 =>
(aindexS 3 (getL T 3) (.int .i64 2)).bind fun v58 =>
(afieldAddr 2 v58).bind fun v59 =>
(aload false 1 v59 r55.2).bind fun v60 =>
(alenV (.slice 32) v60 r55.2).bind fun v61 =>
(abin Try.prog .eql 3 (.tmp 100) (.const (.int .i64 1)) v61 (.int .i64 1)).bind fun v62 =>
(guardV v62 true ((aindexS 3 (getL T 3) (.int .i64 2)).bind fun v63 =>
(afieldAddr 2 v63).bind fun v64 =>
(aload false 1 v64 r55.2).bind fun v65 =>
(aindexS 2 v65 (.int .i64 0)).bind fun v66 =>
(afieldAddr 0 v66).bind fun v67 =>
(aload false 1 v67 r55.2).bind fun v68 =>
(abin Try.prog .eql 9 (.tmp 109) (.tmp 110) v68 (getL T 0)).bind fun v69 =>
some ([v69], r55.2)) (some ([undef], r55.2))).bind fun q70 =>
(apick v62 (getL q70.1 0) (.bool false)).bind fun v71 =>
(guardV (getL T 1) true ((aindexS 3 (getL T 3) (.int .i64 1)).bind fun v72 =>
(afieldAddr 0 v72).bind fun v73 =>
(aload false 1 v73 q70.2).bind fun v74 =>
(abin Try.prog .eql 4 (.tmp 118) (.tmp 119) v74 v57).bind fun v75 =>
some ([v75], q70.2)) (some ([undef], q70.2))).bind fun q76 =>
(apick (getL T 1) (getL q76.1 0) (.bool false)).bind fun v77 =>
(guardV v77 true ((aindexS 3 (getL T 3) (.int .i64 1)).bind fun v78 =>
(afieldAddr 1 v78).bind fun v79 =>
(aload false 1 v79 q76.2).bind fun v80 =>
(abin Try.prog .eql 9 (.tmp 126) (.tmp 127) v80 v56).bind fun v81 =>
some ([v81], q76.2)) (some ([undef], q76.2))).bind fun q82 =>
(apick v77 (getL q82.1 0) (.bool false)).bind fun v83 =>
(guardV v83 true ((abin Try.prog .eql 4 (.tmp 131) (.tmp 132) v71 v57).bind fun v84 =>
some ([v84], q82.2)) (some ([undef], q82.2))).bind fun q85 =>
(apick v83 (getL q85.1 0) (.bool false)).bind fun v86 =>
retV [v86] q85.2)

noncomputable def law04_OpSees (R : Caller) (x0 x1 x2 : Value) (s : St) : Option (Value × St) :=
(lbox x1).bind fun v0 =>
(callV Try.prog R (.func (.func 10) #[] #[]) [] s).bind fun r1 =>
(abuild Try.prog 38 [(0, (.int .i64 1)), (1, x2)]).bind fun v2 =>
(lstore 6 lptr v2 (.agg #[(.int .i64 0), (.string ⟨#[]⟩), (.string ⟨#[]⟩), (.string ⟨#[]⟩), (.string ⟨#[]⟩), (.int .i64 0)])).bind fun v3 =>
(lload true 6 lptr v0).bind fun v4 =>
(lload true 6 lptr v3).bind fun v5 =>
(abuild Try.prog 38 [(0, (.int .i64 4)), (3, x2), (5, (.int .i64 1))]).bind fun v6 =>
(abuildSl 6 [(.int .i64 0), (.string ⟨#[]⟩), (.string ⟨#[]⟩), (.string ⟨#[]⟩), (.string ⟨#[]⟩), (.int .i64 0)] 3 [(0, v4), (1, v5), (2, v6)] r1.2).bind fun r7 =>
(callV Try.prog R (.func (.func 11) #[] #[]) [x0, r7.1] r7.2).bind fun r8 =>
(aextract 0 r8.1).bind fun v9 =>
(aextract 1 r8.1).bind fun v10 =>
(aextract 2 r8.1).bind fun v11 =>
(abin Try.prog .neq 26 (.tmp 32) (.const (.int .i64 0)) v11 (.int .i64 0)).bind fun v12 =>
condV v12
 (retV [r1.1] r8.2)
 ((alenV (.slice 34) v10 r8.2).bind fun v13 =>
(abin Try.prog .neq 3 (.tmp 36) (.const (.int .i64 3)) v13 (.int .i64 3)).bind fun v14 =>
condV v14
 (retV [(.bool false)] r8.2)
 ((lload true 6 lptr v0).bind fun v15 =>
(callV Try.prog R (.func (.func 17) #[] #[]) [v15] r8.2).bind fun r16 =>
(aextract 0 r16.1).bind fun v17 =>
(aextract 1 r16.1).bind fun v18 =>
(lstore 2 lptr v17 (.agg #[(.string ⟨#[]⟩), (.string ⟨#[]⟩)])).bind fun v19 =>
(abin Try.prog .eql 26 (.tmp 43) (.const (.int .i64 0)) v18 (.int .i64 0)).bind fun v20 =>
(guardV v20 true ((lload true 2 lptr v19).bind fun v21 =>
(callV Try.prog R (.func (.func 18) #[] #[]) [v21, x2] r16.2).bind fun r22 =>
some ([r22.1], r22.2)) (some ([undef], r16.2))).bind fun q23 =>
(apick v20 (getL q23.1 0) (.bool false)).bind fun v24 =>
(guardV v24 true (some ([lptr], q23.2)) (some ([undef], q23.2))).bind fun q26 =>
(guardV v24 true ((lload false 1 (getL q26.1 0) v0).bind fun v27 =>
some ([v27], q26.2)) (some ([undef], q26.2))).bind fun q28 =>
(guardV v24 true ((abin Try.prog .eql 3 (.tmp 54) (.const (.int .i64 2)) (getL q28.1 0) (.int .i64 2)).bind fun v29 =>
some ([v29], q28.2)) (some ([undef], q28.2))).bind fun q30 =>
(apick v24 (getL q30.1 0) (.bool false)).bind fun v31 =>
(guardV v31 true (some ([v10], q30.2)) (some ([undef], q30.2))).bind fun q32 =>
(guardV v31 true ((aindexS 3 (getL q32.1 0) (.int .i64 1)).bind fun v33 =>
some ([v33], q32.2)) (some ([undef], q32.2))).bind fun q34 =>
(guardV v31 true ((afieldAddr 0 (getL q34.1 0)).bind fun v35 =>
some ([v35], q34.2)) (some ([undef], q34.2))).bind fun q36 =>
((guardV v31 true ((aload false 1 (getL q36.1 0) q36.2).bind fun v102 =>
some (v102, q36.2)) (some (undef, q36.2))).bind (ownR q36.2)).bind fun r37 =>
(guardV v31 true ((aun .not r37.1).bind fun v38 =>
some ([v38], r37.2)) (some ([undef], r37.2))).bind fun q39 =>
(guardV v31 true (some ([(getL q39.1 0)], q39.2)) (some ([undef], q39.2))).bind fun q40 =>
(guardV (getL q40.1 0) false (some ([v10], q40.2)) (some ([undef], q40.2))).bind fun q41 =>
(guardV (getL q40.1 0) false ((aindexS 3 (getL q41.1 0) (.int .i64 1)).bind fun v42 =>
some ([v42], q41.2)) (some ([undef], q41.2))).bind fun q43 =>
(guardV (getL q40.1 0) false ((afieldAddr 1 (getL q43.1 0)).bind fun v44 =>
some ([v44], q43.2)) (some ([undef], q43.2))).bind fun q45 =>
((guardV (getL q40.1 0) false ((aload false 1 (getL q45.1 0) q45.2).bind fun v101 =>
some (v101, q45.2)) (some (undef, q45.2))).bind (ownR q45.2)).bind fun r46 =>
(guardV (getL q40.1 0) false (some ([(.pointer (some ⟨0, 2, none⟩))], r46.2)) (some ([undef], r46.2))).bind fun q47 =>
(guardV (getL q40.1 0) false ((lload false 1 (getL q47.1 0) v0).bind fun v48 =>
some ([v48], q47.2)) (some ([undef], q47.2))).bind fun q49 =>
(guardV (getL q40.1 0) false ((abin Try.prog .neq 9 (.tmp 67) (.tmp 69) r46.1 (getL q49.1 0)).bind fun v50 =>
some ([v50], q49.2)) (some ([undef], q49.2))).bind fun q51 =>
(guardV v31 true ((apick (getL q40.1 0) (.bool true) (getL q51.1 0)).bind fun v52 =>
some ([v52], q51.2)) (some ([undef], q51.2))).bind fun q53 =>
(apick v31 (getL q53.1 0) (.bool false)).bind fun v54 =>
condV v54
 (joinK (law04_OpSees.j0 R) [x2, r1.1, v9, v10, v54] q53.2)
 ((guardV v24 true ((lload false 1 lptr v0).bind fun v87 =>
(abin Try.prog .eql 3 (.tmp 76) (.const (.int .i64 3)) v87 (.int .i64 3)).bind fun v88 =>
some ([v88], q53.2)) (some ([undef], q53.2))).bind fun q89 =>
(guardV (getL q89.1 0) false ((lload false 1 lptr v0).bind fun v90 =>
(abin Try.prog .eql 3 (.tmp 80) (.const (.int .i64 5)) v90 (.int .i64 5)).bind fun v91 =>
some ([v91], q89.2)) (some ([undef], q89.2))).bind fun q92 =>
(guardV v24 true ((apick (getL q89.1 0) (.bool true) (getL q92.1 0)).bind fun v93 =>
some ([v93], q92.2)) (some ([undef], q92.2))).bind fun q94 =>
(apick v24 (getL q94.1 0) (.bool false)).bind fun v95 =>
(guardV v95 true ((aindexS 3 v10 (.int .i64 1)).bind fun v96 =>
(afieldAddr 0 v96).bind fun v97 =>
(aload false 1 v97 q94.2).bind fun v98 =>
some ([v98], q94.2)) (some ([undef], q94.2))).bind fun q99 =>
(apick v95 (getL q99.1 0) (.bool false)).bind fun v100 =>
joinK (law04_OpSees.j0 R) [x2, r1.1, v9, v10, v100] q99.2)))

theorem law04_OpSees_of {lib : Lib} (hl : lib 7 = none) {x0 x1 x2 : Value} {s : St} {r : Value × St} (h : law04_OpSees (run Try.prog lib hints) x0 x1 x2 s = some r) : run Try.prog lib hints 7 [x0, x1, x2] s = some r :=
  run_of hl Try.func7 (Eq.trans (by kernel_rfl) h)

theorem law04_OpSees_ok : funcOk Try.prog 7 = true := by kernel_rfl
theorem law04_OpSees_call {R : Caller} {xs : List Value} {s : St} : callV Try.prog R (.func (.func 7) #[] #[]) xs s = R 7 xs s := callV_eq law04_OpSees_ok

/-! ### sumpter/sumpterlaw04.OpTurns: 8 -/

noncomputable def law04_OpTurns (R : Caller) (x0 x1 x2 : Value) (s : St) : Option (Value × St) :=
(lbox x1).bind fun v0 =>
(lbox x2).bind fun v1 =>
(callV Try.prog R (.func (.func 10) #[] #[]) [] s).bind fun r2 =>
(lload true 6 lptr v0).bind fun v3 =>
(callV Try.prog R (.func (.func 17) #[] #[]) [v3] r2.2).bind fun r4 =>
(aextract 0 r4.1).bind fun v5 =>
(aextract 1 r4.1).bind fun v6 =>
(lstore 2 lptr v5 (.agg #[(.string ⟨#[]⟩), (.string ⟨#[]⟩)])).bind fun v7 =>
(lload true 6 lptr v1).bind fun v8 =>
(callV Try.prog R (.func (.func 17) #[] #[]) [v8] r4.2).bind fun r9 =>
(aextract 0 r9.1).bind fun v10 =>
(aextract 1 r9.1).bind fun v11 =>
(lstore 2 lptr v10 (.agg #[(.string ⟨#[]⟩), (.string ⟨#[]⟩)])).bind fun v12 =>
(abin Try.prog .neq 26 (.tmp 31) (.const (.int .i64 0)) v6 (.int .i64 0)).bind fun v13 =>
(guardV v13 false ((abin Try.prog .neq 26 (.tmp 34) (.const (.int .i64 0)) v11 (.int .i64 0)).bind fun v14 =>
some ([v14], r9.2)) (some ([undef], r9.2))).bind fun q15 =>
(apick v13 (.bool true) (getL q15.1 0)).bind fun v16 =>
condV v16
 (retV [r2.1] q15.2)
 ((lload true 2 lptr v7).bind fun v17 =>
(lload true 2 lptr v12).bind fun v18 =>
(callV Try.prog R (.func (.func 20) #[] #[]) [v17, v18] q15.2).bind fun r19 =>
(aextract 0 r19.1).bind fun v20 =>
(aextract 1 r19.1).bind fun v21 =>
(lstore 2 lptr v20 (.agg #[(.string ⟨#[]⟩), (.string ⟨#[]⟩)])).bind fun v22 =>
(guardV v21 true ((lload true 6 lptr v0).bind fun v23 =>
(callV Try.prog R (.func (.func 15) #[] #[]) [v23] r19.2).bind fun r24 =>
some ([r24.1], r24.2)) (some ([undef], r19.2))).bind fun q25 =>
(guardV (getL q25.1 0) false ((lload true 6 lptr v1).bind fun v26 =>
(callV Try.prog R (.func (.func 15) #[] #[]) [v26] q25.2).bind fun r27 =>
some ([r27.1], r27.2)) (some ([undef], q25.2))).bind fun q28 =>
(guardV v21 true ((apick (getL q25.1 0) (.bool true) (getL q28.1 0)).bind fun v29 =>
some ([v29], q28.2)) (some ([undef], q28.2))).bind fun q30 =>
(apick v21 (getL q30.1 0) (.bool false)).bind fun v31 =>
condV v31
 (retV [r2.1] q30.2)
 ((lload true 6 lptr v0).bind fun v32 =>
(lload true 6 lptr v1).bind fun v33 =>
(abuildSl 6 [(.int .i64 0), (.string ⟨#[]⟩), (.string ⟨#[]⟩), (.string ⟨#[]⟩), (.string ⟨#[]⟩), (.int .i64 0)] 2 [(0, v32), (1, v33)] q30.2).bind fun r34 =>
(callV Try.prog R (.func (.func 11) #[] #[]) [x0, r34.1] r34.2).bind fun r35 =>
(aextract 0 r35.1).bind fun v36 =>
(aextract 1 r35.1).bind fun v37 =>
(aextract 2 r35.1).bind fun v38 =>
(lload true 6 lptr v1).bind fun v39 =>
(lload true 6 lptr v0).bind fun v40 =>
(abuildSl 6 [(.int .i64 0), (.string ⟨#[]⟩), (.string ⟨#[]⟩), (.string ⟨#[]⟩), (.string ⟨#[]⟩), (.int .i64 0)] 2 [(0, v39), (1, v40)] r35.2).bind fun r41 =>
(callV Try.prog R (.func (.func 11) #[] #[]) [x0, r41.1] r41.2).bind fun r42 =>
(aextract 0 r42.1).bind fun v43 =>
(aextract 1 r42.1).bind fun v44 =>
(aextract 2 r42.1).bind fun v45 =>
(abin Try.prog .neq 26 (.tmp 72) (.const (.int .i64 0)) v38 (.int .i64 0)).bind fun v46 =>
(guardV v46 false ((abin Try.prog .neq 26 (.tmp 75) (.const (.int .i64 0)) v45 (.int .i64 0)).bind fun v47 =>
some ([v47], r42.2)) (some ([undef], r42.2))).bind fun q48 =>
(apick v46 (.bool true) (getL q48.1 0)).bind fun v49 =>
condV v49
 ((guardV r2.1 true ((abin Try.prog .eql 26 (.tmp 80) (.tmp 81) v38 v45).bind fun v50 =>
some ([v50], q48.2)) (some ([undef], q48.2))).bind fun q51 =>
(apick r2.1 (getL q51.1 0) (.bool false)).bind fun v52 =>
retV [v52] q51.2)
 ((guardV r2.1 true (some ([v36], q48.2)) (some ([undef], q48.2))).bind fun q53 =>
(guardV r2.1 true (some ([v43], q53.2)) (some ([undef], q53.2))).bind fun q54 =>
((guardV r2.1 true ((callV Try.prog R (.func (.func 13) #[] #[]) [(getL q53.1 0), (getL q54.1 0)] q54.2).bind fun r85 =>
some (r85.1, r85.2)) (some (undef, q54.2))).bind (ownR q54.2)).bind fun r55 =>
(apick r2.1 r55.1 (.bool false)).bind fun v56 =>
(guardV v56 true (some ([v37], r55.2)) (some ([undef], r55.2))).bind fun q57 =>
((guardV v56 true ((alenV (.slice 34) (getL q57.1 0) q57.2).bind fun v84 =>
some (v84, q57.2)) (some (undef, q57.2))).bind (ownR q57.2)).bind fun r58 =>
(guardV v56 true ((abin Try.prog .eql 3 (.tmp 92) (.const (.int .i64 2)) r58.1 (.int .i64 2)).bind fun v59 =>
some ([v59], r58.2)) (some ([undef], r58.2))).bind fun q60 =>
(apick v56 (getL q60.1 0) (.bool false)).bind fun v61 =>
(guardV v61 true (some ([v44], q60.2)) (some ([undef], q60.2))).bind fun q62 =>
((guardV v61 true ((alenV (.slice 34) (getL q62.1 0) q62.2).bind fun v83 =>
some (v83, q62.2)) (some (undef, q62.2))).bind (ownR q62.2)).bind fun r63 =>
(guardV v61 true ((abin Try.prog .eql 3 (.tmp 97) (.const (.int .i64 2)) r63.1 (.int .i64 2)).bind fun v64 =>
some ([v64], r63.2)) (some ([undef], r63.2))).bind fun q65 =>
(apick v61 (getL q65.1 0) (.bool false)).bind fun v66 =>
(guardV v66 true (some ([v37], q65.2)) (some ([undef], q65.2))).bind fun q67 =>
(guardV v66 true (some ([v44], q67.2)) (some ([undef], q67.2))).bind fun q68 =>
(guardV v66 true ((aindexS 3 (getL q68.1 0) (.int .i64 1)).bind fun v69 =>
some ([v69], q68.2)) (some ([undef], q68.2))).bind fun q70 =>
(guardV v66 true ((aload true 3 (getL q70.1 0) (frzS q70.2)).bind fun v82 =>
some (v82, (frzS q70.2))) (some (undef, (frzS q70.2)))).bind fun r71 =>
(guardV v66 true (some ([v44], q70.2)) (some ([undef], q70.2))).bind fun q72 =>
(guardV v66 true ((aindexS 3 (getL q72.1 0) (.int .i64 0)).bind fun v73 =>
some ([v73], q72.2)) (some ([undef], q72.2))).bind fun q74 =>
(guardV v66 true ((aload true 3 (getL q74.1 0) (frzS q74.2)).bind fun v81 =>
some (v81, (frzS q74.2))) (some (undef, (frzS q74.2)))).bind fun r75 =>
((guardV v66 true ((abuildSl 3 [(.bool false), (.string ⟨#[]⟩), (.slice none 0 0)] 2 [(0, r71.1), (1, r75.1)] q74.2).bind fun r80 =>
some (r80.1, r80.2)) (some (undef, q74.2))).bind (ownR q74.2)).bind fun r76 =>
((guardV v66 true ((callV Try.prog R (.func (.func 14) #[] #[]) [(getL q67.1 0), r76.1] r76.2).bind fun r79 =>
some (r79.1, r79.2)) (some (undef, r76.2))).bind (ownR r76.2)).bind fun r77 =>
(apick v66 r77.1 (.bool false)).bind fun v78 =>
retV [v78] r77.2)))

theorem law04_OpTurns_of {lib : Lib} (hl : lib 8 = none) {x0 x1 x2 : Value} {s : St} {r : Value × St} (h : law04_OpTurns (run Try.prog lib hints) x0 x1 x2 s = some r) : run Try.prog lib hints 8 [x0, x1, x2] s = some r :=
  run_of hl Try.func8 (Eq.trans (by kernel_rfl) h)

theorem law04_OpTurns_ok : funcOk Try.prog 8 = true := by kernel_rfl
theorem law04_OpTurns_call {R : Caller} {xs : List Value} {s : St} : callV Try.prog R (.func (.func 8) #[] #[]) xs s = R 8 xs s := callV_eq law04_OpTurns_ok

/-! ### sumpter/sumpterlaw04.OpChecks: 9 -/

noncomputable def law04_OpChecks.b0 (R : Caller) (T : List Value) (s : St) : Res :=
(abin Try.prog .lss 3 (.tmp 60) (.tmp 59) (getL T 7) (getL T 6)).bind fun v33 =>
condV v33
 ((aindexS 3 (getL T 4) (getL T 7)).bind fun v34 =>
((aload true 3 v34 (frzS s)).bind fun v41 =>
some (v41, (frzS s))).bind fun r35 =>
(aindexS 3 (getL T 5) (getL T 7)).bind fun v36 =>
((aload true 3 v36 (frzS s)).bind fun v40 =>
some (v40, (frzS s))).bind fun r37 =>
(abin Try.prog .neq 57 (.tmp 66) (.tmp 70) r35.1 r37.1).bind fun v38 =>
condV v38
 (some (.ret, [(.bool false)], s))
 ((abin Try.prog .add 3 (.tmp 60) (.const (.int .i64 1)) (getL T 7) (.int .i64 1)).bind fun v39 =>
some (.normal, [(getL T 0), (getL T 1), (getL T 2), (getL T 3), (getL T 4), (getL T 5), (getL T 6), v39, (getL T 8)], s)))
 (some (.exit 0, [(getL T 0), (getL T 1), (getL T 2), (getL T 3), (getL T 8)], s))

noncomputable def law04_OpChecks (R : Caller) (x0 x1 x2 : Value) (s : St) : Option (Value × St) :=
(lbox x0).bind fun v0 =>
(callV Try.prog R (.func (.func 10) #[] #[]) [] s).bind fun r1 =>
(lload true 6 lptr v0).bind fun v2 =>
(callV Try.prog R (.func (.func 17) #[] #[]) [v2] r1.2).bind fun r3 =>
(aextract 0 r3.1).bind fun v4 =>
(aextract 1 r3.1).bind fun v5 =>
(lstore 2 lptr v4 (.agg #[(.string ⟨#[]⟩), (.string ⟨#[]⟩)])).bind fun v6 =>
(lload true 6 lptr v0).bind fun v7 =>
(callV Try.prog R (.func (.func 21) #[] #[]) [v7] r3.2).bind fun r8 =>
(aextract 0 r8.1).bind fun v9 =>
(aextract 1 r8.1).bind fun v10 =>
(lstore 2 lptr v9 (.agg #[(.string ⟨#[]⟩), (.string ⟨#[]⟩)])).bind fun v11 =>
(callV Try.prog R (.func (.func 22) #[] #[]) [x1] r8.2).bind fun r12 =>
(aextract 0 r12.1).bind fun v13 =>
(aextract 1 r12.1).bind fun v14 =>
(callV Try.prog R (.func (.func 23) #[] #[]) [x1] r12.2).bind fun r15 =>
(aextract 0 r15.1).bind fun v16 =>
(aextract 1 r15.1).bind fun v17 =>
(lload true 2 lptr v6).bind fun v18 =>
(lload true 2 lptr v11).bind fun v19 =>
(abin Try.prog .neq 43 (.tmp 38) (.tmp 39) v18 v19).bind fun v20 =>
(guardV v20 false ((abin Try.prog .neq 26 (.tmp 42) (.tmp 43) v5 v10).bind fun v21 =>
some ([v21], r15.2)) (some ([undef], r15.2))).bind fun q22 =>
(apick v20 (.bool true) (getL q22.1 0)).bind fun v23 =>
(guardV v23 false ((abin Try.prog .neq 26 (.tmp 47) (.tmp 48) v14 v17).bind fun v24 =>
some ([v24], q22.2)) (some ([undef], q22.2))).bind fun q25 =>
(apick v23 (.bool true) (getL q25.1 0)).bind fun v26 =>
(guardV v26 false ((alenV (.slice 57) v13 q25.2).bind fun v27 =>
(alenV (.slice 57) v16 q25.2).bind fun v28 =>
(abin Try.prog .neq 3 (.tmp 53) (.tmp 55) v27 v28).bind fun v29 =>
some ([v29], q25.2)) (some ([undef], q25.2))).bind fun q30 =>
(apick v26 (.bool true) (getL q30.1 0)).bind fun v31 =>
condV v31
 (retV [(.bool false)] q30.2)
 ((alenV (.slice 57) v13 q30.2).bind fun v32 =>
(loopL (law04_OpChecks.b0 R) [x1, x2, lptr, r1.1, v13, v16, v32, (.int .i64 0), v0] q30.2).bind fun r42 =>
exV r42.1 [(0, (guardV (getL r42.2.1 3) true ((lload true 6 (getL r42.2.1 2) (getL r42.2.1 4)).bind fun v43 =>
some ([v43], r42.2.2)) (some ([undef], r42.2.2))).bind fun q44 =>
((guardV (getL r42.2.1 3) true ((callV Try.prog R (.func (.func 24) #[] #[]) [(getL q44.1 0)] q44.2).bind fun r82 =>
some (r82.1, r82.2)) (some (undef, q44.2))).bind (ownR q44.2)).bind fun r45 =>
(guardV (getL r42.2.1 3) true ((lload true 6 (getL r42.2.1 2) (getL r42.2.1 4)).bind fun v46 =>
some ([v46], r45.2)) (some ([undef], r45.2))).bind fun q47 =>
((guardV (getL r42.2.1 3) true ((callV Try.prog R (.func (.func 25) #[] #[]) [(getL q47.1 0)] q47.2).bind fun r81 =>
some (r81.1, r81.2)) (some (undef, q47.2))).bind (ownR q47.2)).bind fun r48 =>
(guardV (getL r42.2.1 3) true ((abin Try.prog .eql 26 (.tmp 76) (.tmp 78) r45.1 r48.1).bind fun v49 =>
some ([v49], r48.2)) (some ([undef], r48.2))).bind fun q50 =>
(apick (getL r42.2.1 3) (getL q50.1 0) (.bool false)).bind fun v51 =>
(guardV v51 true (some ([(getL r42.2.1 0)], q50.2)) (some ([undef], q50.2))).bind fun q52 =>
((guardV v51 true ((callV Try.prog R (.func (.func 26) #[] #[]) [(getL q52.1 0)] q52.2).bind fun r80 =>
some (r80.1, r80.2)) (some (undef, q52.2))).bind (ownR q52.2)).bind fun r53 =>
(guardV v51 true (some ([(getL r42.2.1 0)], r53.2)) (some ([undef], r53.2))).bind fun q54 =>
((guardV v51 true ((callV Try.prog R (.func (.func 27) #[] #[]) [(getL q54.1 0)] q54.2).bind fun r79 =>
some (r79.1, r79.2)) (some (undef, q54.2))).bind (ownR q54.2)).bind fun r55 =>
(guardV v51 true ((abin Try.prog .eql 26 (.tmp 83) (.tmp 85) r53.1 r55.1).bind fun v56 =>
some ([v56], r55.2)) (some ([undef], r55.2))).bind fun q57 =>
(apick v51 (getL q57.1 0) (.bool false)).bind fun v58 =>
(guardV v58 true (some ([(getL r42.2.1 1)], q57.2)) (some ([undef], q57.2))).bind fun q59 =>
((guardV v58 true ((callV Try.prog R (.func (.func 16) #[] #[]) [(getL q59.1 0)] q59.2).bind fun r78 =>
some (r78.1, r78.2)) (some (undef, q59.2))).bind (ownR q59.2)).bind fun r60 =>
(guardV v58 true (some ([(getL r42.2.1 1)], r60.2)) (some ([undef], r60.2))).bind fun q61 =>
((guardV v58 true ((callV Try.prog R (.func (.func 28) #[] #[]) [(getL q61.1 0)] q61.2).bind fun r77 =>
some (r77.1, r77.2)) (some (undef, q61.2))).bind (ownR q61.2)).bind fun r62 =>
(guardV v58 true ((abin Try.prog .eql 26 (.tmp 90) (.tmp 92) r60.1 r62.1).bind fun v63 =>
some ([v63], r62.2)) (some ([undef], r62.2))).bind fun q64 =>
(apick v58 (getL q64.1 0) (.bool false)).bind fun v65 =>
(guardV v65 true ((lload true 6 (getL r42.2.1 2) (getL r42.2.1 4)).bind fun v66 =>
some ([v66], q64.2)) (some ([undef], q64.2))).bind fun q67 =>
((guardV v65 true ((callV Try.prog R (.func (.func 15) #[] #[]) [(getL q67.1 0)] q67.2).bind fun r76 =>
some (r76.1, r76.2)) (some (undef, q67.2))).bind (ownR q67.2)).bind fun r68 =>
(guardV v65 true ((lload true 6 (getL r42.2.1 2) (getL r42.2.1 4)).bind fun v69 =>
some ([v69], r68.2)) (some ([undef], r68.2))).bind fun q70 =>
((guardV v65 true ((callV Try.prog R (.func (.func 29) #[] #[]) [(getL q70.1 0)] q70.2).bind fun r75 =>
some (r75.1, r75.2)) (some (undef, q70.2))).bind (ownR q70.2)).bind fun r71 =>
(guardV v65 true ((abin Try.prog .eql 4 (.tmp 97) (.tmp 99) r68.1 r71.1).bind fun v72 =>
some ([v72], r71.2)) (some ([undef], r71.2))).bind fun q73 =>
(apick v65 (getL q73.1 0) (.bool false)).bind fun v74 =>
retV [v74] q73.2)]
 (retV [(getL r42.2.1 0)] r42.2.2))

theorem law04_OpChecks_of {lib : Lib} (hl : lib 9 = none) {x0 x1 x2 : Value} {s : St} {r : Value × St} (h : law04_OpChecks (run Try.prog lib hints) x0 x1 x2 s = some r) : run Try.prog lib hints 9 [x0, x1, x2] s = some r :=
  run_of hl Try.func9 (Eq.trans (by kernel_rfl) h)

theorem law04_OpChecks_ok : funcOk Try.prog 9 = true := by kernel_rfl
theorem law04_OpChecks_call {R : Caller} {xs : List Value} {s : St} : callV Try.prog R (.func (.func 9) #[] #[]) xs s = R 9 xs s := callV_eq law04_OpChecks_ok

/-! ### sumpter/sumpterlaw04.live: 10 -/

noncomputable def law04_live (R : Caller) (s : St) : Option (Value × St) :=
(abuildSl 6 [(.int .i64 0), (.string ⟨#[]⟩), (.string ⟨#[]⟩), (.string ⟨#[]⟩), (.string ⟨#[]⟩), (.int .i64 0)] 5 [(0, (.agg #[(.int .i64 2), (.string ⟨#[97]⟩), (.string ⟨#[49]⟩), (.string ⟨#[]⟩), (.string ⟨#[]⟩), (.int .i64 0)])), (1, (.agg #[(.int .i64 2), (.string ⟨#[98]⟩), (.string ⟨#[50]⟩), (.string ⟨#[]⟩), (.string ⟨#[]⟩), (.int .i64 0)])), (2, (.agg #[(.int .i64 3), (.string ⟨#[97]⟩), (.string ⟨#[]⟩), (.string ⟨#[]⟩), (.string ⟨#[]⟩), (.int .i64 0)])), (3, (.agg #[(.int .i64 4), (.string ⟨#[]⟩), (.string ⟨#[]⟩), (.string ⟨#[]⟩), (.string ⟨#[]⟩), (.int .i64 2)])), (4, (.agg #[(.int .i64 1), (.string ⟨#[97]⟩), (.string ⟨#[]⟩), (.string ⟨#[]⟩), (.string ⟨#[]⟩), (.int .i64 0)]))] s).bind fun r0 =>
(callV Try.prog R (.func (.func 11) #[] #[]) [(.slice none 0 0), r0.1] r0.2).bind fun r1 =>
(aextract 0 r1.1).bind fun v2 =>
(aextract 1 r1.1).bind fun v3 =>
(aextract 2 r1.1).bind fun v4 =>
(abin Try.prog .eql 26 (.tmp 17) (.const (.int .i64 0)) v4 (.int .i64 0)).bind fun v5 =>
(guardV v5 true ((alenV (.slice 32) v2 r1.2).bind fun v6 =>
(abin Try.prog .eql 3 (.tmp 21) (.const (.int .i64 1)) v6 (.int .i64 1)).bind fun v7 =>
some ([v7], r1.2)) (some ([undef], r1.2))).bind fun q8 =>
(apick v5 (getL q8.1 0) (.bool false)).bind fun v9 =>
(guardV v9 true ((aindexS 2 v2 (.int .i64 0)).bind fun v10 =>
(aload true 2 v10 q8.2).bind fun v11 =>
(abin Try.prog .eql 32 (.tmp 27) (.tmp 28) v11 (.agg #[(.string ⟨#[98]⟩), (.string ⟨#[50]⟩)])).bind fun v12 =>
some ([v12], q8.2)) (some ([undef], q8.2))).bind fun q13 =>
(apick v9 (getL q13.1 0) (.bool false)).bind fun v14 =>
(guardV v14 true ((alenV (.slice 34) v3 q13.2).bind fun v15 =>
(abin Try.prog .eql 3 (.tmp 33) (.const (.int .i64 5)) v15 (.int .i64 5)).bind fun v16 =>
some ([v16], q13.2)) (some ([undef], q13.2))).bind fun q17 =>
(apick v14 (getL q17.1 0) (.bool false)).bind fun v18 =>
(guardV v18 true ((aindexS 3 v3 (.int .i64 3)).bind fun v19 =>
(afieldAddr 2 v19).bind fun v20 =>
(aload false 1 v20 q17.2).bind fun v21 =>
(alenV (.slice 32) v21 q17.2).bind fun v22 =>
(abin Try.prog .eql 3 (.tmp 41) (.const (.int .i64 1)) v22 (.int .i64 1)).bind fun v23 =>
some ([v23], q17.2)) (some ([undef], q17.2))).bind fun q24 =>
(apick v18 (getL q24.1 0) (.bool false)).bind fun v25 =>
(guardV v25 true ((aindexS 3 v3 (.int .i64 4)).bind fun v26 =>
(afieldAddr 0 v26).bind fun v27 =>
(aload false 1 v27 q24.2).bind fun v28 =>
(aun .not v28).bind fun v29 =>
some ([v29], q24.2)) (some ([undef], q24.2))).bind fun q30 =>
(apick v25 (getL q30.1 0) (.bool false)).bind fun v31 =>
(guardV v31 true ((callV Try.prog R (.func (.func 24) #[] #[]) [(.agg #[(.int .i64 1), (.string ⟨#[97]⟩), (.string ⟨#[120]⟩), (.string ⟨#[]⟩), (.string ⟨#[]⟩), (.int .i64 0)])] q30.2).bind fun r32 =>
(abin Try.prog .eql 26 (.tmp 53) (.const (.int .i64 40)) r32.1 (.int .i64 40)).bind fun v33 =>
some ([v33], r32.2)) (some ([undef], q30.2))).bind fun q34 =>
(apick v31 (getL q34.1 0) (.bool false)).bind fun v35 =>
(guardV v35 true ((callV Try.prog R (.func (.func 24) #[] #[]) [(.agg #[(.int .i64 4), (.string ⟨#[]⟩), (.string ⟨#[]⟩), (.string ⟨#[]⟩), (.string ⟨#[]⟩), (.int .i64 5)])] q34.2).bind fun r36 =>
(abin Try.prog .eql 26 (.tmp 58) (.const (.int .i64 1)) r36.1 (.int .i64 1)).bind fun v37 =>
some ([v37], r36.2)) (some ([undef], q34.2))).bind fun q38 =>
(apick v35 (getL q38.1 0) (.bool false)).bind fun v39 =>
(guardV v39 true ((callV Try.prog R (.func (.func 24) #[] #[]) [(.agg #[(.int .i64 5), (.string ⟨#[]⟩), (.string ⟨#[]⟩), (.string ⟨#[98]⟩), (.string ⟨#[97]⟩), (.int .i64 0)])] q38.2).bind fun r40 =>
(abin Try.prog .eql 26 (.tmp 63) (.const (.int .i64 21)) r40.1 (.int .i64 21)).bind fun v41 =>
some ([v41], r40.2)) (some ([undef], q38.2))).bind fun q42 =>
(apick v39 (getL q42.1 0) (.bool false)).bind fun v43 =>
retV [v43] q42.2

theorem law04_live_of {lib : Lib} (hl : lib 10 = none) {s : St} {r : Value × St} (h : law04_live (run Try.prog lib hints)  s = some r) : run Try.prog lib hints 10 [] s = some r :=
  run_of hl Try.func10 (Eq.trans (by kernel_rfl) h)

theorem law04_live_ok : funcOk Try.prog 10 = true := by kernel_rfl
theorem law04_live_call {R : Caller} {xs : List Value} {s : St} : callV Try.prog R (.func (.func 10) #[] #[]) xs s = R 10 xs s := callV_eq law04_live_ok

/-! ### sumpter/op.Apply: 11 -/

noncomputable def op_Apply.b0 (R : Caller) (T : List Value) (s : St) : Res :=
(abin Try.prog .lss 3 (.tmp 27) (.tmp 26) (getL T 4) (getL T 3)).bind fun v6 =>
condV v6
 ((aindexS 6 (getL T 2) (getL T 4)).bind fun v7 =>
(aload true 6 v7 s).bind fun v8 =>
(lstore 6 lptr v8 (.agg #[(.int .i64 0), (.string ⟨#[]⟩), (.string ⟨#[]⟩), (.string ⟨#[]⟩), (.string ⟨#[]⟩), (.int .i64 0)])).bind fun v9 =>
(((callV Try.prog R (.func (.func 32) #[] #[]) [] s).bind fun r24 =>
some (r24.1, r24.2)).bind (ownR s)).bind fun r10 =>
(lload false 1 lptr v9).bind fun v11 =>
(aindexAgg true 6 6 r10.1 v11).bind fun v12 =>
(afield false 5 1 v12).bind fun v13 =>
(lload true 6 lptr v9).bind fun v14 =>
(((callV Try.prog R v13 [(getL T 0), v14] r10.2).bind fun r23 =>
some (r23.1, r23.2)).bind (ownR r10.2)).bind fun r15 =>
(aextract 0 r15.1).bind fun v16 =>
(aextract 1 r15.1).bind fun v17 =>
(lstore 3 lptr v17 (.agg #[(.bool false), (.string ⟨#[]⟩), (.slice none 0 0)])).bind fun v18 =>
(lload true 3 lptr v18).bind fun v19 =>
(abuildSl 3 [(.bool false), (.string ⟨#[]⟩), (.slice none 0 0)] 1 [(0, v19)] r15.2).bind fun r20 =>
(aappend 3 48 (getL T 1) r20.1 r20.2).bind fun r21 =>
(abin Try.prog .add 3 (.tmp 27) (.const (.int .i64 1)) (getL T 4) (.int .i64 1)).bind fun v22 =>
some (.normal, [v16, r21.1, (getL T 2), (getL T 3), v22], r21.2))
 (some (.exit 0, [(getL T 0), (getL T 1)], s))

noncomputable def op_Apply (R : Caller) (x0 x1 : Value) (s : St) : Option (Value × St) :=
(callV Try.prog R (.func (.func 16) #[] #[]) [x0] s).bind fun r0 =>
(abin Try.prog .neq 26 (.tmp 15) (.const (.int .i64 0)) r0.1 (.int .i64 0)).bind fun v1 =>
condV v1
 (retV [(.slice none 0 0), (.slice none 0 0), r0.1] r0.2)
 ((callV Try.prog R (.func (.func 30) #[] #[]) [x1] r0.2).bind fun r2 =>
(abin Try.prog .neq 26 (.tmp 20) (.const (.int .i64 0)) r2.1 (.int .i64 0)).bind fun v3 =>
condV v3
 (retV [(.slice none 0 0), (.slice none 0 0), r2.1] r2.2)
 ((callV Try.prog R (.func (.func 31) #[] #[]) [x0] r2.2).bind fun r4 =>
(alenV (.slice 38) x1 r4.2).bind fun v5 =>
(loopL (op_Apply.b0 R) [r4.1, (.slice none 0 0), x1, v5, (.int .i64 0)] r4.2).bind fun r25 =>
exV r25.1 [(0, retV [(getL r25.2.1 0), (getL r25.2.1 1), (.int .i64 0)] r25.2.2)]
 (none)))

theorem op_Apply_of {lib : Lib} (hl : lib 11 = none) {x0 x1 : Value} {s : St} {r : Value × St} (h : op_Apply (run Try.prog lib hints) x0 x1 s = some r) : run Try.prog lib hints 11 [x0, x1] s = some r :=
  run_of hl Try.func11 (Eq.trans (by kernel_rfl) h)

theorem op_Apply_ok : funcOk Try.prog 11 = true := by kernel_rfl
theorem op_Apply_call {R : Caller} {xs : List Value} {s : St} : callV Try.prog R (.func (.func 11) #[] #[]) xs s = R 11 xs s := callV_eq op_Apply_ok

/-! ### sumpter/sumpterref04.Apply: 12 -/

noncomputable def ref04_Apply.b0 (R : Caller) (T : List Value) (s : St) : Res :=
(abin Try.prog .lss 3 (.tmp 28) (.tmp 27) (getL T 4) (getL T 3)).bind fun v6 =>
condV v6
 ((aindexS 6 (getL T 2) (getL T 4)).bind fun v7 =>
(aload true 6 v7 s).bind fun v8 =>
(lstore 6 lptr v8 (.agg #[(.int .i64 0), (.string ⟨#[]⟩), (.string ⟨#[]⟩), (.string ⟨#[]⟩), (.string ⟨#[]⟩), (.int .i64 0)])).bind fun v9 =>
(lload true 6 lptr v9).bind fun v10 =>
(callV Try.prog R (.func (.func 34) #[] #[]) [(getL T 0), v10] s).bind fun r11 =>
(aextract 0 r11.1).bind fun v12 =>
(aextract 1 r11.1).bind fun v13 =>
(lstore 3 lptr v13 (.agg #[(.bool false), (.string ⟨#[]⟩), (.slice none 0 0)])).bind fun v14 =>
(lload true 3 lptr v14).bind fun v15 =>
(abuildSl 3 [(.bool false), (.string ⟨#[]⟩), (.slice none 0 0)] 1 [(0, v15)] r11.2).bind fun r16 =>
(aappend 3 48 (getL T 1) r16.1 r16.2).bind fun r17 =>
(abin Try.prog .add 3 (.tmp 28) (.const (.int .i64 1)) (getL T 4) (.int .i64 1)).bind fun v18 =>
some (.normal, [v12, r17.1, (getL T 2), (getL T 3), v18], r17.2))
 (some (.exit 0, [(getL T 0), (getL T 1)], s))

noncomputable def ref04_Apply (R : Caller) (x0 x1 : Value) (s : St) : Option (Value × St) :=
(callV Try.prog R (.func (.func 28) #[] #[]) [x0] s).bind fun r0 =>
(abin Try.prog .neq 26 (.tmp 16) (.const (.int .i64 0)) r0.1 (.int .i64 0)).bind fun v1 =>
condV v1
 (retV [(.slice none 0 0), (.slice none 0 0), r0.1] r0.2)
 ((callV Try.prog R (.func (.func 33) #[] #[]) [x1] r0.2).bind fun r2 =>
(abin Try.prog .neq 26 (.tmp 21) (.const (.int .i64 0)) r2.1 (.int .i64 0)).bind fun v3 =>
condV v3
 (retV [(.slice none 0 0), (.slice none 0 0), r2.1] r2.2)
 ((aappend 2 32 (.slice none 0 0) x0 r2.2).bind fun r4 =>
(alenV (.slice 38) x1 r4.2).bind fun v5 =>
(loopL (ref04_Apply.b0 R) [r4.1, (.slice none 0 0), x1, v5, (.int .i64 0)] r4.2).bind fun r19 =>
exV r19.1 [(0, retV [(getL r19.2.1 0), (getL r19.2.1 1), (.int .i64 0)] r19.2.2)]
 (none)))

theorem ref04_Apply_of {lib : Lib} (hl : lib 12 = none) {x0 x1 : Value} {s : St} {r : Value × St} (h : ref04_Apply (run Try.prog lib hints) x0 x1 s = some r) : run Try.prog lib hints 12 [x0, x1] s = some r :=
  run_of hl Try.func12 (Eq.trans (by kernel_rfl) h)

theorem ref04_Apply_ok : funcOk Try.prog 12 = true := by kernel_rfl
theorem ref04_Apply_call {R : Caller} {xs : List Value} {s : St} : callV Try.prog R (.func (.func 12) #[] #[]) xs s = R 12 xs s := callV_eq ref04_Apply_ok

/-! ### sumpter/sumpterref04.SameMap: 13 -/

noncomputable def ref04_SameMap.b0 (R : Caller) (T : List Value) (s : St) : Res :=
(abin Try.prog .lss 3 (.tmp 13) (.tmp 12) (getL T 3) (getL T 2)).bind fun v4 =>
condV v4
 ((aindexS 2 (getL T 0) (getL T 3)).bind fun v5 =>
((aload true 2 v5 (frzS s)).bind fun v12 =>
some (v12, (frzS s))).bind fun r6 =>
(aindexS 2 (getL T 1) (getL T 3)).bind fun v7 =>
((aload true 2 v7 (frzS s)).bind fun v11 =>
some (v11, (frzS s))).bind fun r8 =>
(abin Try.prog .neq 32 (.tmp 19) (.tmp 23) r6.1 r8.1).bind fun v9 =>
condV v9
 (some (.ret, [(.bool false)], s))
 ((abin Try.prog .add 3 (.tmp 13) (.const (.int .i64 1)) (getL T 3) (.int .i64 1)).bind fun v10 =>
some (.normal, [(getL T 0), (getL T 1), (getL T 2), v10], s)))
 (some (.exit 0, [], s))

noncomputable def ref04_SameMap (R : Caller) (x0 x1 : Value) (s : St) : Option (Value × St) :=
(alenV (.slice 32) x0 s).bind fun v0 =>
(alenV (.slice 32) x1 s).bind fun v1 =>
(abin Try.prog .neq 3 (.tmp 7) (.tmp 9) v0 v1).bind fun v2 =>
condV v2
 (retV [(.bool false)] s)
 ((alenV (.slice 32) x0 s).bind fun v3 =>
(loopL (ref04_SameMap.b0 R) [x0, x1, v3, (.int .i64 0)] s).bind fun r13 =>
exV r13.1 [(0, retV [(.bool true)] r13.2.2)]
 (retV [(getL r13.2.1 0)] r13.2.2))

theorem ref04_SameMap_of {lib : Lib} (hl : lib 13 = none) {x0 x1 : Value} {s : St} {r : Value × St} (h : ref04_SameMap (run Try.prog lib hints) x0 x1 s = some r) : run Try.prog lib hints 13 [x0, x1] s = some r :=
  run_of hl Try.func13 (Eq.trans (by kernel_rfl) h)

theorem ref04_SameMap_ok : funcOk Try.prog 13 = true := by kernel_rfl
theorem ref04_SameMap_call {R : Caller} {xs : List Value} {s : St} : callV Try.prog R (.func (.func 13) #[] #[]) xs s = R 13 xs s := callV_eq ref04_SameMap_ok

/-! ### sumpter/sumpterref04.SameResults: 14 -/

noncomputable def ref04_SameResults.b0 (R : Caller) (T : List Value) (s : St) : Res :=
(abin Try.prog .lss 3 (.tmp 13) (.tmp 12) (getL T 3) (getL T 2)).bind fun v4 =>
condV v4
 ((aindexS 3 (getL T 0) (getL T 3)).bind fun v5 =>
(afieldAddr 0 v5).bind fun v6 =>
((aload false 1 v6 (frzS s)).bind fun v54 =>
some (v54, (frzS s))).bind fun r7 =>
(aindexS 3 (getL T 1) (getL T 3)).bind fun v8 =>
(afieldAddr 0 v8).bind fun v9 =>
((aload false 1 v9 (frzS s)).bind fun v53 =>
some (v53, (frzS s))).bind fun r10 =>
(abin Try.prog .neq 4 (.tmp 20) (.tmp 25) r7.1 r10.1).bind fun v11 =>
(guardV v11 false (some ([(getL T 0)], s)) (some ([undef], s))).bind fun q12 =>
(guardV v11 false (some ([(getL T 3)], q12.2)) (some ([undef], q12.2))).bind fun q13 =>
(guardV v11 false ((aindexS 3 (getL q12.1 0) (getL q13.1 0)).bind fun v14 =>
some ([v14], q13.2)) (some ([undef], q13.2))).bind fun q15 =>
(guardV v11 false ((afieldAddr 1 (getL q15.1 0)).bind fun v16 =>
some ([v16], q15.2)) (some ([undef], q15.2))).bind fun q17 =>
(guardV v11 false ((aload false 1 (getL q17.1 0) (frzS q17.2)).bind fun v52 =>
some (v52, (frzS q17.2))) (some (undef, (frzS q17.2)))).bind fun r18 =>
(guardV v11 false (some ([(getL T 1)], q17.2)) (some ([undef], q17.2))).bind fun q19 =>
(guardV v11 false (some ([(getL T 3)], q19.2)) (some ([undef], q19.2))).bind fun q20 =>
(guardV v11 false ((aindexS 3 (getL q19.1 0) (getL q20.1 0)).bind fun v21 =>
some ([v21], q20.2)) (some ([undef], q20.2))).bind fun q22 =>
(guardV v11 false ((afieldAddr 1 (getL q22.1 0)).bind fun v23 =>
some ([v23], q22.2)) (some ([undef], q22.2))).bind fun q24 =>
(guardV v11 false ((aload false 1 (getL q24.1 0) (frzS q24.2)).bind fun v51 =>
some (v51, (frzS q24.2))) (some (undef, (frzS q24.2)))).bind fun r25 =>
(guardV v11 false ((abin Try.prog .neq 9 (.tmp 32) (.tmp 37) r18.1 r25.1).bind fun v26 =>
some ([v26], q24.2)) (some ([undef], q24.2))).bind fun q27 =>
(apick v11 (.bool true) (getL q27.1 0)).bind fun v28 =>
(guardV v28 false (some ([(getL T 0)], q27.2)) (some ([undef], q27.2))).bind fun q29 =>
(guardV v28 false (some ([(getL T 3)], q29.2)) (some ([undef], q29.2))).bind fun q30 =>
(guardV v28 false ((aindexS 3 (getL q29.1 0) (getL q30.1 0)).bind fun v31 =>
some ([v31], q30.2)) (some ([undef], q30.2))).bind fun q32 =>
(guardV v28 false ((afieldAddr 2 (getL q32.1 0)).bind fun v33 =>
some ([v33], q32.2)) (some ([undef], q32.2))).bind fun q34 =>
(guardV v28 false ((aload false 1 (getL q34.1 0) (frzS q34.2)).bind fun v50 =>
some (v50, (frzS q34.2))) (some (undef, (frzS q34.2)))).bind fun r35 =>
(guardV v28 false (some ([(getL T 1)], q34.2)) (some ([undef], q34.2))).bind fun q36 =>
(guardV v28 false (some ([(getL T 3)], q36.2)) (some ([undef], q36.2))).bind fun q37 =>
(guardV v28 false ((aindexS 3 (getL q36.1 0) (getL q37.1 0)).bind fun v38 =>
some ([v38], q37.2)) (some ([undef], q37.2))).bind fun q39 =>
(guardV v28 false ((afieldAddr 2 (getL q39.1 0)).bind fun v40 =>
some ([v40], q39.2)) (some ([undef], q39.2))).bind fun q41 =>
(guardV v28 false ((aload false 1 (getL q41.1 0) (frzS q41.2)).bind fun v49 =>
some (v49, (frzS q41.2))) (some (undef, (frzS q41.2)))).bind fun r42 =>
((guardV v28 false ((callV Try.prog R (.func (.func 13) #[] #[]) [r35.1, r42.1] q41.2).bind fun r48 =>
some (r48.1, r48.2)) (some (undef, q41.2))).bind (ownR q41.2)).bind fun r43 =>
(guardV v28 false ((aun .not r43.1).bind fun v44 =>
some ([v44], r43.2)) (some ([undef], r43.2))).bind fun q45 =>
(apick v28 (.bool true) (getL q45.1 0)).bind fun v46 =>
condV v46
 (some (.ret, [(.bool false)], q45.2))
 ((abin Try.prog .add 3 (.tmp 13) (.const (.int .i64 1)) (getL T 3) (.int .i64 1)).bind fun v47 =>
some (.normal, [(getL T 0), (getL T 1), (getL T 2), v47], q45.2)))
 (some (.exit 0, [], s))

noncomputable def ref04_SameResults (R : Caller) (x0 x1 : Value) (s : St) : Option (Value × St) :=
(alenV (.slice 34) x0 s).bind fun v0 =>
(alenV (.slice 34) x1 s).bind fun v1 =>
(abin Try.prog .neq 3 (.tmp 7) (.tmp 9) v0 v1).bind fun v2 =>
condV v2
 (retV [(.bool false)] s)
 ((alenV (.slice 34) x0 s).bind fun v3 =>
(loopL (ref04_SameResults.b0 R) [x0, x1, v3, (.int .i64 0)] s).bind fun r55 =>
exV r55.1 [(0, retV [(.bool true)] r55.2.2)]
 (retV [(getL r55.2.1 0)] r55.2.2))

theorem ref04_SameResults_of {lib : Lib} (hl : lib 14 = none) {x0 x1 : Value} {s : St} {r : Value × St} (h : ref04_SameResults (run Try.prog lib hints) x0 x1 s = some r) : run Try.prog lib hints 14 [x0, x1] s = some r :=
  run_of hl Try.func14 (Eq.trans (by kernel_rfl) h)

theorem ref04_SameResults_ok : funcOk Try.prog 14 = true := by kernel_rfl
theorem ref04_SameResults_call {R : Caller} {xs : List Value} {s : St} : callV Try.prog R (.func (.func 14) #[] #[]) xs s = R 14 xs s := callV_eq ref04_SameResults_ok

/-! ### sumpter/op.Writes: 15 -/

noncomputable def op_Writes (R : Caller) (x0 : Value) (s : St) : Option (Value × St) :=
(lbox x0).bind fun v0 =>
(lload false 1 lptr v0).bind fun v1 =>
(callV Try.prog R (.func (.func 35) #[] #[]) [v1] s).bind fun r2 =>
(aextract 0 r2.1).bind fun v3 =>
(aextract 1 r2.1).bind fun v4 =>
(lstore 6 lptr v3 (.agg #[(.bool false), (.bool false), (.bool false), (.bool false), (.bool false), .nilFunc])).bind fun v5 =>
(lload false 1 (.pointer (some ⟨0, 4, none⟩)) v5).bind fun v6 =>
retV [v6] r2.2

theorem op_Writes_of {lib : Lib} (hl : lib 15 = none) {x0 : Value} {s : St} {r : Value × St} (h : op_Writes (run Try.prog lib hints) x0 s = some r) : run Try.prog lib hints 15 [x0] s = some r :=
  run_of hl Try.func15 (Eq.trans (by kernel_rfl) h)

theorem op_Writes_ok : funcOk Try.prog 15 = true := by kernel_rfl
theorem op_Writes_call {R : Caller} {xs : List Value} {s : St} : callV Try.prog R (.func (.func 15) #[] #[]) xs s = R 15 xs s := callV_eq op_Writes_ok

/-! ### sumpter/op.CheckMap: 16 -/

noncomputable def op_CheckMap.b0 (R : Caller) (T : List Value) (s : St) : Res :=
(abin Try.prog .lss 3 (.tmp 8) (.tmp 7) (getL T 3) (getL T 2)).bind fun v1 =>
condV v1
 ((aindexS 2 (getL T 1) (getL T 3)).bind fun v2 =>
(aload true 2 v2 s).bind fun v3 =>
(lstore 2 lptr v3 (.agg #[(.string ⟨#[]⟩), (.string ⟨#[]⟩)])).bind fun v4 =>
(lload false 1 lptr v4).bind fun v5 =>
(callV Try.prog R (.func (.func 36) #[] #[]) [v5] s).bind fun r6 =>
(abin Try.prog .neq 26 (.tmp 15) (.const (.int .i64 0)) r6.1 (.int .i64 0)).bind fun v7 =>
condV v7
 (some (.ret, [(.int .i64 20)], r6.2))
 ((lload false 1 (.pointer (some ⟨0, 1, none⟩)) v4).bind fun v8 =>
(alenV .string v8 r6.2).bind fun v9 =>
(abin Try.prog .gtr 3 (.tmp 20) (.const (.int .i64 16)) v9 (.int .i64 16)).bind fun v10 =>
condV v10
 (some (.ret, [(.int .i64 2)], r6.2))
 ((lload false 1 lptr v4).bind fun v11 =>
(abin Try.prog .leq 9 (.tmp 24) (.tmp 25) v11 (getL T 0)).bind fun v12 =>
condV v12
 (some (.ret, [(.int .i64 1)], r6.2))
 ((lload false 1 lptr v4).bind fun v13 =>
(abin Try.prog .add 3 (.tmp 8) (.const (.int .i64 1)) (getL T 3) (.int .i64 1)).bind fun v14 =>
some (.normal, [v13, (getL T 1), (getL T 2), v14], r6.2)))))
 (some (.exit 0, [], s))

noncomputable def op_CheckMap (R : Caller) (x0 : Value) (s : St) : Option (Value × St) :=
(alenV (.slice 32) x0 s).bind fun v0 =>
(loopL (op_CheckMap.b0 R) [(.string ⟨#[]⟩), x0, v0, (.int .i64 0)] s).bind fun r15 =>
exV r15.1 [(0, retV [(.int .i64 0)] r15.2.2)]
 (retV [(getL r15.2.1 0)] r15.2.2)

theorem op_CheckMap_of {lib : Lib} (hl : lib 16 = none) {x0 : Value} {s : St} {r : Value × St} (h : op_CheckMap (run Try.prog lib hints) x0 s = some r) : run Try.prog lib hints 16 [x0] s = some r :=
  run_of hl Try.func16 (Eq.trans (by kernel_rfl) h)

theorem op_CheckMap_ok : funcOk Try.prog 16 = true := by kernel_rfl
theorem op_CheckMap_call {R : Caller} {xs : List Value} {s : St} : callV Try.prog R (.func (.func 16) #[] #[]) xs s = R 16 xs s := callV_eq op_CheckMap_ok

/-! ### sumpter/op.Span: 17 -/

noncomputable def op_Span (R : Caller) (x0 : Value) (s : St) : Option (Value × St) :=
(lbox x0).bind fun v0 =>
(lload true 6 lptr v0).bind fun v1 =>
(callV Try.prog R (.func (.func 24) #[] #[]) [v1] s).bind fun r2 =>
(abin Try.prog .neq 26 (.tmp 7) (.const (.int .i64 0)) r2.1 (.int .i64 0)).bind fun v3 =>
condV v3
 (retV [(.agg #[(.string ⟨#[]⟩), (.string ⟨#[]⟩)]), r2.1] r2.2)
 ((lload false 1 (.pointer (some ⟨0, 1, none⟩)) v0).bind fun v4 =>
(abin Try.prog .eql 9 (.tmp 12) (.const (.string ⟨#[]⟩)) v4 (.string ⟨#[]⟩)).bind fun v5 =>
condV v5
 ((lload true 6 lptr v0).bind fun v6 =>
(callV Try.prog R (.func (.func 37) #[] #[]) [v6] r2.2).bind fun r7 =>
(lstore 2 lptr r7.1 (.agg #[(.string ⟨#[]⟩), (.string ⟨#[]⟩)])).bind fun v8 =>
(lload true 2 lptr v8).bind fun v9 =>
retV [v9, (.int .i64 0)] r7.2)
 ((lload false 1 (.pointer (some ⟨0, 1, none⟩)) v0).bind fun v10 =>
(callV Try.prog R (.func (.func 38) #[] #[]) [v10] r2.2).bind fun r11 =>
(aextract 0 r11.1).bind fun v12 =>
(aextract 1 r11.1).bind fun v13 =>
(lstore 2 lptr v12 (.agg #[(.string ⟨#[]⟩), (.string ⟨#[]⟩)])).bind fun v14 =>
(lload true 2 lptr v14).bind fun v15 =>
retV [v15, v13] r11.2))

theorem op_Span_of {lib : Lib} (hl : lib 17 = none) {x0 : Value} {s : St} {r : Value × St} (h : op_Span (run Try.prog lib hints) x0 s = some r) : run Try.prog lib hints 17 [x0] s = some r :=
  run_of hl Try.func17 (Eq.trans (by kernel_rfl) h)

theorem op_Span_ok : funcOk Try.prog 17 = true := by kernel_rfl
theorem op_Span_call {R : Caller} {xs : List Value} {s : St} : callV Try.prog R (.func (.func 17) #[] #[]) xs s = R 17 xs s := callV_eq op_Span_ok

/-! ### sumpter/span.Has: 18 -/

noncomputable def span_Has (R : Caller) (x0 x1 : Value) (s : St) : Option (Value × St) :=
(lbox x0).bind fun v0 =>
(lload true 2 lptr v0).bind fun v1 =>
(callV Try.prog R (.func (.func 39) #[] #[]) [v1] s).bind fun r2 =>
(abin Try.prog .eql 26 (.tmp 6) (.const (.int .i64 0)) r2.1 (.int .i64 0)).bind fun v3 =>
(guardV v3 true ((callV Try.prog R (.func (.func 36) #[] #[]) [x1] r2.2).bind fun r4 =>
(abin Try.prog .eql 26 (.tmp 10) (.const (.int .i64 0)) r4.1 (.int .i64 0)).bind fun v5 =>
some ([v5], r4.2)) (some ([undef], r2.2))).bind fun q6 =>
(apick v3 (getL q6.1 0) (.bool false)).bind fun v7 =>
(guardV v7 true ((lload false 1 lptr v0).bind fun v8 =>
(abin Try.prog .leq 9 (.tmp 15) (.tmp 16) v8 x1).bind fun v9 =>
some ([v9], q6.2)) (some ([undef], q6.2))).bind fun q10 =>
(apick v7 (getL q10.1 0) (.bool false)).bind fun v11 =>
(guardV v11 true ((lload false 1 (.pointer (some ⟨0, 1, none⟩)) v0).bind fun v12 =>
(abin Try.prog .eql 9 (.tmp 21) (.const (.string ⟨#[]⟩)) v12 (.string ⟨#[]⟩)).bind fun v13 =>
some ([v13], q10.2)) (some ([undef], q10.2))).bind fun q14 =>
(guardV (getL q14.1 0) false ((lload false 1 (.pointer (some ⟨0, 1, none⟩)) v0).bind fun v15 =>
(abin Try.prog .lss 9 (.tmp 24) (.tmp 26) x1 v15).bind fun v16 =>
some ([v16], q14.2)) (some ([undef], q14.2))).bind fun q17 =>
(guardV v11 true ((apick (getL q14.1 0) (.bool true) (getL q17.1 0)).bind fun v18 =>
some ([v18], q17.2)) (some ([undef], q17.2))).bind fun q19 =>
(apick v11 (getL q19.1 0) (.bool false)).bind fun v20 =>
retV [v20] q19.2

theorem span_Has_of {lib : Lib} (hl : lib 18 = none) {x0 x1 : Value} {s : St} {r : Value × St} (h : span_Has (run Try.prog lib hints) x0 x1 s = some r) : run Try.prog lib hints 18 [x0, x1] s = some r :=
  run_of hl Try.func18 (Eq.trans (by kernel_rfl) h)

theorem span_Has_ok : funcOk Try.prog 18 = true := by kernel_rfl
theorem span_Has_call {R : Caller} {xs : List Value} {s : St} : callV Try.prog R (.func (.func 18) #[] #[]) xs s = R 18 xs s := callV_eq span_Has_ok

/-! ### sumpter/sumpterref04.Find: 19 -/

noncomputable def ref04_Find.b0 (R : Caller) (T : List Value) (s : St) : Res :=
(abin Try.prog .lss 3 (.tmp 10) (.tmp 9) (getL T 3) (getL T 2)).bind fun v1 =>
condV v1
 ((aindexS 2 (getL T 1) (getL T 3)).bind fun v2 =>
(aload true 2 v2 s).bind fun v3 =>
(lstore 2 lptr v3 (.agg #[(.string ⟨#[]⟩), (.string ⟨#[]⟩)])).bind fun v4 =>
(lload false 1 lptr v4).bind fun v5 =>
(abin Try.prog .eql 9 (.tmp 15) (.tmp 16) v5 (getL T 0)).bind fun v6 =>
condV v6
 ((lload false 1 (.pointer (some ⟨0, 1, none⟩)) v4).bind fun v7 =>
some (.ret, [v7, (.bool true)], s))
 ((abin Try.prog .add 3 (.tmp 10) (.const (.int .i64 1)) (getL T 3) (.int .i64 1)).bind fun v8 =>
some (.normal, [(getL T 0), (getL T 1), (getL T 2), v8], s)))
 (some (.exit 0, [], s))

noncomputable def ref04_Find (R : Caller) (x0 x1 : Value) (s : St) : Option (Value × St) :=
(alenV (.slice 32) x0 s).bind fun v0 =>
(loopL (ref04_Find.b0 R) [x1, x0, v0, (.int .i64 0)] s).bind fun r9 =>
exV r9.1 [(0, retV [(.string ⟨#[]⟩), (.bool false)] r9.2.2)]
 (retV [(getL r9.2.1 0), (getL r9.2.1 1)] r9.2.2)

theorem ref04_Find_of {lib : Lib} (hl : lib 19 = none) {x0 x1 : Value} {s : St} {r : Value × St} (h : ref04_Find (run Try.prog lib hints) x0 x1 s = some r) : run Try.prog lib hints 19 [x0, x1] s = some r :=
  run_of hl Try.func19 (Eq.trans (by kernel_rfl) h)

theorem ref04_Find_ok : funcOk Try.prog 19 = true := by kernel_rfl
theorem ref04_Find_call {R : Caller} {xs : List Value} {s : St} : callV Try.prog R (.func (.func 19) #[] #[]) xs s = R 19 xs s := callV_eq ref04_Find_ok

/-! ### sumpter/span.Meet: 20 -/

noncomputable def span_Meet (R : Caller) (x0 x1 : Value) (s : St) : Option (Value × St) :=
(lbox x0).bind fun v0 =>
(lbox x1).bind fun v1 =>
(lload false 1 lptr v0).bind fun v2 =>
(lload false 1 lptr v1).bind fun v3 =>
(amax2 v2 v3).bind fun v4 =>
(lload false 1 (.pointer (some ⟨0, 1, none⟩)) v0).bind fun v5 =>
(lload false 1 (.pointer (some ⟨0, 1, none⟩)) v1).bind fun v6 =>
(((callV Try.prog R (.func (.func 40) #[] #[]) [v5, v6] s).bind fun r26 =>
some (r26.1, r26.2)).bind (ownR s)).bind fun r7 =>
(abuild Try.prog 43 [(0, v4), (1, r7.1)]).bind fun v8 =>
(lstore 2 lptr v8 (.agg #[(.string ⟨#[]⟩), (.string ⟨#[]⟩)])).bind fun v9 =>
(lload true 2 lptr v0).bind fun v10 =>
(callV Try.prog R (.func (.func 39) #[] #[]) [v10] r7.2).bind fun r11 =>
(abin Try.prog .neq 26 (.tmp 19) (.const (.int .i64 0)) r11.1 (.int .i64 0)).bind fun v12 =>
(guardV v12 false ((lload true 2 lptr v1).bind fun v13 =>
(callV Try.prog R (.func (.func 39) #[] #[]) [v13] r11.2).bind fun r14 =>
(abin Try.prog .neq 26 (.tmp 23) (.const (.int .i64 0)) r14.1 (.int .i64 0)).bind fun v15 =>
some ([v15], r14.2)) (some ([undef], r11.2))).bind fun q16 =>
(apick v12 (.bool true) (getL q16.1 0)).bind fun v17 =>
(guardV v17 false ((lload true 2 lptr v9).bind fun v18 =>
(callV Try.prog R (.func (.func 39) #[] #[]) [v18] q16.2).bind fun r19 =>
(abin Try.prog .neq 26 (.tmp 28) (.const (.int .i64 0)) r19.1 (.int .i64 0)).bind fun v20 =>
some ([v20], r19.2)) (some ([undef], q16.2))).bind fun q21 =>
(apick v17 (.bool true) (getL q21.1 0)).bind fun v22 =>
condV v22
 (retV [(.agg #[(.string ⟨#[]⟩), (.string ⟨#[]⟩)]), (.bool false)] q21.2)
 ((lload true 2 lptr v9).bind fun v23 =>
(lstore 2 lptr v23 (.agg #[(.string ⟨#[]⟩), (.string ⟨#[]⟩)])).bind fun v24 =>
(lload true 2 lptr v24).bind fun v25 =>
retV [v25, (.bool true)] q21.2)

theorem span_Meet_of {lib : Lib} (hl : lib 20 = none) {x0 x1 : Value} {s : St} {r : Value × St} (h : span_Meet (run Try.prog lib hints) x0 x1 s = some r) : run Try.prog lib hints 20 [x0, x1] s = some r :=
  run_of hl Try.func20 (Eq.trans (by kernel_rfl) h)

theorem span_Meet_ok : funcOk Try.prog 20 = true := by kernel_rfl
theorem span_Meet_call {R : Caller} {xs : List Value} {s : St} : callV Try.prog R (.func (.func 20) #[] #[]) xs s = R 20 xs s := callV_eq span_Meet_ok

/-! ### sumpter/sumpterref04.Span: 21 -/

noncomputable def ref04_Span (R : Caller) (x0 : Value) (s : St) : Option (Value × St) :=
(lbox x0).bind fun v0 =>
(lload true 6 lptr v0).bind fun v1 =>
(callV Try.prog R (.func (.func 25) #[] #[]) [v1] s).bind fun r2 =>
(abin Try.prog .neq 26 (.tmp 7) (.const (.int .i64 0)) r2.1 (.int .i64 0)).bind fun v3 =>
condV v3
 (retV [(.agg #[(.string ⟨#[]⟩), (.string ⟨#[]⟩)]), r2.1] r2.2)
 ((lload false 1 (.pointer (some ⟨0, 1, none⟩)) v0).bind fun v4 =>
(abin Try.prog .neq 9 (.tmp 12) (.const (.string ⟨#[]⟩)) v4 (.string ⟨#[]⟩)).bind fun v5 =>
condV v5
 ((lload false 1 (.pointer (some ⟨0, 1, none⟩)) v0).bind fun v6 =>
(callV Try.prog R (.func (.func 41) #[] #[]) [v6] r2.2).bind fun r7 =>
(aextract 0 r7.1).bind fun v8 =>
(aextract 1 r7.1).bind fun v9 =>
(lstore 2 lptr v8 (.agg #[(.string ⟨#[]⟩), (.string ⟨#[]⟩)])).bind fun v10 =>
(lload true 2 lptr v10).bind fun v11 =>
retV [v11, v9] r7.2)
 ((lload false 1 (.pointer (some ⟨0, 3, none⟩)) v0).bind fun v12 =>
(lload false 1 (.pointer (some ⟨0, 4, none⟩)) v0).bind fun v13 =>
(abuild Try.prog 43 [(0, v12), (1, v13)]).bind fun v14 =>
(lstore 2 lptr v14 (.agg #[(.string ⟨#[]⟩), (.string ⟨#[]⟩)])).bind fun v15 =>
(lload true 2 lptr v15).bind fun v16 =>
retV [v16, (.int .i64 0)] r2.2))

theorem ref04_Span_of {lib : Lib} (hl : lib 21 = none) {x0 : Value} {s : St} {r : Value × St} (h : ref04_Span (run Try.prog lib hints) x0 s = some r) : run Try.prog lib hints 21 [x0] s = some r :=
  run_of hl Try.func21 (Eq.trans (by kernel_rfl) h)

theorem ref04_Span_ok : funcOk Try.prog 21 = true := by kernel_rfl
theorem ref04_Span_call {R : Caller} {xs : List Value} {s : St} : callV Try.prog R (.func (.func 21) #[] #[]) xs s = R 21 xs s := callV_eq ref04_Span_ok

/-! ### sumpter/op.Locks: 22 -/

noncomputable def op_Locks.b0 (R : Caller) (T : List Value) (s : St) : Res :=
(abin Try.prog .lss 3 (.tmp 11) (.tmp 10) (getL T 3) (getL T 2)).bind fun v1 =>
condV v1
 ((aindexS 6 (getL T 1) (getL T 3)).bind fun v2 =>
(aload true 6 v2 s).bind fun v3 =>
(lstore 6 lptr v3 (.agg #[(.int .i64 0), (.string ⟨#[]⟩), (.string ⟨#[]⟩), (.string ⟨#[]⟩), (.string ⟨#[]⟩), (.int .i64 0)])).bind fun v4 =>
(lload true 6 lptr v4).bind fun v5 =>
(callV Try.prog R (.func (.func 17) #[] #[]) [v5] s).bind fun r6 =>
(aextract 0 r6.1).bind fun v7 =>
(aextract 1 r6.1).bind fun v8 =>
(lstore 2 lptr v7 (.agg #[(.string ⟨#[]⟩), (.string ⟨#[]⟩)])).bind fun v9 =>
(abin Try.prog .neq 26 (.tmp 20) (.const (.int .i64 0)) v8 (.int .i64 0)).bind fun v10 =>
condV v10
 (some (.ret, [(.slice none 0 0), v8], r6.2))
 ((lload true 2 lptr v9).bind fun v11 =>
(lload true 6 lptr v4).bind fun v12 =>
(((callV Try.prog R (.func (.func 15) #[] #[]) [v12] r6.2).bind fun r20 =>
some (r20.1, r20.2)).bind (ownR r6.2)).bind fun r13 =>
(abuild Try.prog 57 [(0, v11), (1, r13.1)]).bind fun v14 =>
(((abuildSl 3 [(.string ⟨#[]⟩), (.string ⟨#[]⟩), (.bool false)] 1 [(0, v14)] r13.2).bind fun r19 =>
some (r19.1, r19.2)).bind (ownR r13.2)).bind fun r15 =>
(((aappend 3 40 (getL T 0) r15.1 r15.2).bind fun r18 =>
some (r18.1, r18.2)).bind (ownR r15.2)).bind fun r16 =>
(abin Try.prog .add 3 (.tmp 11) (.const (.int .i64 1)) (getL T 3) (.int .i64 1)).bind fun v17 =>
some (.normal, [r16.1, (getL T 1), (getL T 2), v17], r16.2)))
 (some (.exit 0, [(getL T 0)], s))

noncomputable def op_Locks (R : Caller) (x0 : Value) (s : St) : Option (Value × St) :=
(alenV (.slice 38) x0 s).bind fun v0 =>
(loopL (op_Locks.b0 R) [(.slice none 0 0), x0, v0, (.int .i64 0)] s).bind fun r21 =>
exV r21.1 [(0, retV [(getL r21.2.1 0), (.int .i64 0)] r21.2.2)]
 (retV [(getL r21.2.1 0), (getL r21.2.1 1)] r21.2.2)

theorem op_Locks_of {lib : Lib} (hl : lib 22 = none) {x0 : Value} {s : St} {r : Value × St} (h : op_Locks (run Try.prog lib hints) x0 s = some r) : run Try.prog lib hints 22 [x0] s = some r :=
  run_of hl Try.func22 (Eq.trans (by kernel_rfl) h)

theorem op_Locks_ok : funcOk Try.prog 22 = true := by kernel_rfl
theorem op_Locks_call {R : Caller} {xs : List Value} {s : St} : callV Try.prog R (.func (.func 22) #[] #[]) xs s = R 22 xs s := callV_eq op_Locks_ok

/-! ### sumpter/sumpterref04.Locks: 23 -/

noncomputable def ref04_Locks.b0 (R : Caller) (T : List Value) (s : St) : Res :=
(abin Try.prog .lss 3 (.tmp 17) (.tmp 16) (getL T 3) (getL T 2)).bind fun v3 =>
condV v3
 ((aindexS 6 (getL T 1) (getL T 3)).bind fun v4 =>
(aload true 6 v4 s).bind fun v5 =>
(lstore 6 lptr v5 (.agg #[(.int .i64 0), (.string ⟨#[]⟩), (.string ⟨#[]⟩), (.string ⟨#[]⟩), (.string ⟨#[]⟩), (.int .i64 0)])).bind fun v6 =>
(lload true 6 lptr v6).bind fun v7 =>
(callV Try.prog R (.func (.func 21) #[] #[]) [v7] s).bind fun r8 =>
(aextract 0 r8.1).bind fun v9 =>
(aextract 1 r8.1).bind fun v10 =>
(lstore 2 lptr v9 (.agg #[(.string ⟨#[]⟩), (.string ⟨#[]⟩)])).bind fun v11 =>
(lload true 2 lptr v11).bind fun v12 =>
(lload true 6 lptr v6).bind fun v13 =>
(((callV Try.prog R (.func (.func 29) #[] #[]) [v13] r8.2).bind fun r21 =>
some (r21.1, r21.2)).bind (ownR r8.2)).bind fun r14 =>
(abuild Try.prog 57 [(0, v12), (1, r14.1)]).bind fun v15 =>
(((abuildSl 3 [(.string ⟨#[]⟩), (.string ⟨#[]⟩), (.bool false)] 1 [(0, v15)] r14.2).bind fun r20 =>
some (r20.1, r20.2)).bind (ownR r14.2)).bind fun r16 =>
(((aappend 3 40 (getL T 0) r16.1 r16.2).bind fun r19 =>
some (r19.1, r19.2)).bind (ownR r16.2)).bind fun r17 =>
(abin Try.prog .add 3 (.tmp 17) (.const (.int .i64 1)) (getL T 3) (.int .i64 1)).bind fun v18 =>
some (.normal, [r17.1, (getL T 1), (getL T 2), v18], r17.2))
 (some (.exit 0, [(getL T 0)], s))

noncomputable def ref04_Locks (R : Caller) (x0 : Value) (s : St) : Option (Value × St) :=
(callV Try.prog R (.func (.func 33) #[] #[]) [x0] s).bind fun r0 =>
(abin Try.prog .neq 26 (.tmp 12) (.const (.int .i64 0)) r0.1 (.int .i64 0)).bind fun v1 =>
condV v1
 (retV [(.slice none 0 0), r0.1] r0.2)
 ((alenV (.slice 38) x0 r0.2).bind fun v2 =>
(loopL (ref04_Locks.b0 R) [(.slice none 0 0), x0, v2, (.int .i64 0)] r0.2).bind fun r22 =>
exV r22.1 [(0, retV [(getL r22.2.1 0), (.int .i64 0)] r22.2.2)]
 (none))

theorem ref04_Locks_of {lib : Lib} (hl : lib 23 = none) {x0 : Value} {s : St} {r : Value × St} (h : ref04_Locks (run Try.prog lib hints) x0 s = some r) : run Try.prog lib hints 23 [x0] s = some r :=
  run_of hl Try.func23 (Eq.trans (by kernel_rfl) h)

theorem ref04_Locks_ok : funcOk Try.prog 23 = true := by kernel_rfl
theorem ref04_Locks_call {R : Caller} {xs : List Value} {s : St} : callV Try.prog R (.func (.func 23) #[] #[]) xs s = R 23 xs s := callV_eq ref04_Locks_ok

/-! ### sumpter/op.CheckOp: 24 -/

noncomputable def op_CheckOp.j0 (R : Caller) (T : List Value) (s : St) : Option (Value × St) :=
condV (getL T 2)
 (retV [(.int .i64 40)] s)
 ((afieldAddr 0 (getL T 1)).bind fun v8 =>
(lload false 1 v8 (getL T 4)).bind fun v9 =>
(guardV v9 true ((afieldAddr 1 (getL T 0)).bind fun v10 =>
(lload false 1 v10 (getL T 3)).bind fun v11 =>
(callV Try.prog R (.func (.func 36) #[] #[]) [v11] s).bind fun r12 =>
(abin Try.prog .neq 26 (.tmp 53) (.const (.int .i64 0)) r12.1 (.int .i64 0)).bind fun v13 =>
some ([v13], r12.2)) (some ([undef], s))).bind fun q14 =>
(apick v9 (getL q14.1 0) (.bool false)).bind fun v15 =>
condV v15
 (retV [(.int .i64 20)] q14.2)
 ((afieldAddr 2 (getL T 0)).bind fun v16 =>
(lload false 1 v16 (getL T 3)).bind fun v17 =>
(alenV .string v17 q14.2).bind fun v18 =>
(abin Try.prog .gtr 3 (.tmp 59) (.const (.int .i64 16)) v18 (.int .i64 16)).bind fun v19 =>
condV v19
 (retV [(.int .i64 2)] q14.2)
 ((afieldAddr 2 (getL T 1)).bind fun v20 =>
(lload false 1 v20 (getL T 4)).bind fun v21 =>
(guardV v21 true ((lload true 6 (getL T 0) (getL T 3)).bind fun v22 =>
(callV Try.prog R (.func (.func 37) #[] #[]) [v22] q14.2).bind fun r23 =>
(callV Try.prog R (.func (.func 39) #[] #[]) [r23.1] r23.2).bind fun r24 =>
(abin Try.prog .neq 26 (.tmp 67) (.const (.int .i64 0)) r24.1 (.int .i64 0)).bind fun v25 =>
some ([v25], r24.2)) (some ([undef], q14.2))).bind fun q26 =>
(apick v21 (getL q26.1 0) (.bool false)).bind fun v27 =>
condV v27
 (retV [(.int .i64 21)] q26.2)
 ((afieldAddr 3 (getL T 1)).bind fun v28 =>
(lload false 1 v28 (getL T 4)).bind fun v29 =>
(guardV v29 true ((afieldAddr 5 (getL T 0)).bind fun v30 =>
(lload false 1 v30 (getL T 3)).bind fun v31 =>
(abin Try.prog .lss 3 (.tmp 75) (.const (.int .i64 1)) v31 (.int .i64 1)).bind fun v32 =>
some ([v32], q26.2)) (some ([undef], q26.2))).bind fun q33 =>
(guardV (getL q33.1 0) false ((afieldAddr 5 (getL T 0)).bind fun v34 =>
(lload false 1 v34 (getL T 3)).bind fun v35 =>
(abin Try.prog .gtr 3 (.tmp 79) (.const (.int .i64 4)) v35 (.int .i64 4)).bind fun v36 =>
some ([v36], q33.2)) (some ([undef], q33.2))).bind fun q37 =>
(guardV v29 true ((apick (getL q33.1 0) (.bool true) (getL q37.1 0)).bind fun v38 =>
some ([v38], q37.2)) (some ([undef], q37.2))).bind fun q39 =>
(apick v29 (getL q39.1 0) (.bool false)).bind fun v40 =>
condV v40
 (retV [(.int .i64 1)] q39.2)
 (retV [(.int .i64 0)] q39.2)))))

noncomputable def op_CheckOp (R : Caller) (x0 : Value) (s : St) : Option (Value × St) :=
(lbox x0).bind fun v0 =>
(lload false 1 lptr v0).bind fun v1 =>
(callV Try.prog R (.func (.func 35) #[] #[]) [v1] s).bind fun r2 =>
(aextract 0 r2.1).bind fun v3 =>
(aextract 1 r2.1).bind fun v4 =>
(lstore 6 lptr v3 (.agg #[(.bool false), (.bool false), (.bool false), (.bool false), (.bool false), .nilFunc])).bind fun v5 =>
(aun .not v4).bind fun v7 =>
condV v7
 (joinK (op_CheckOp.j0 R) [lptr, lptr, v7, v0, v5] r2.2)
 ((lload false 1 lptr v5).bind fun v41 =>
(aun .not v41).bind fun v42 =>
(guardV v42 true ((lload false 1 (.pointer (some ⟨0, 1, none⟩)) v0).bind fun v43 =>
(abin Try.prog .neq 9 (.tmp 19) (.const (.string ⟨#[]⟩)) v43 (.string ⟨#[]⟩)).bind fun v44 =>
some ([v44], r2.2)) (some ([undef], r2.2))).bind fun q45 =>
(apick v42 (getL q45.1 0) (.bool false)).bind fun v46 =>
condV v46
 (joinK (op_CheckOp.j0 R) [lptr, lptr, v46, v0, v5] q45.2)
 ((lload false 1 (.pointer (some ⟨0, 1, none⟩)) v5).bind fun v47 =>
(aun .not v47).bind fun v48 =>
(guardV v48 true ((lload false 1 (.pointer (some ⟨0, 2, none⟩)) v0).bind fun v49 =>
(abin Try.prog .neq 9 (.tmp 27) (.const (.string ⟨#[]⟩)) v49 (.string ⟨#[]⟩)).bind fun v50 =>
some ([v50], q45.2)) (some ([undef], q45.2))).bind fun q51 =>
(apick v48 (getL q51.1 0) (.bool false)).bind fun v52 =>
condV v52
 (joinK (op_CheckOp.j0 R) [lptr, lptr, v52, v0, v5] q51.2)
 ((lload false 1 (.pointer (some ⟨0, 2, none⟩)) v5).bind fun v53 =>
(aun .not v53).bind fun v54 =>
(guardV v54 true ((lload true 6 lptr v0).bind fun v55 =>
(callV Try.prog R (.func (.func 37) #[] #[]) [v55] q51.2).bind fun r56 =>
(abin Try.prog .neq 43 (.tmp 35) (.tmp 36) r56.1 (.agg #[(.string ⟨#[]⟩), (.string ⟨#[]⟩)])).bind fun v57 =>
some ([v57], r56.2)) (some ([undef], q51.2))).bind fun q58 =>
(apick v54 (getL q58.1 0) (.bool false)).bind fun v59 =>
condV v59
 (joinK (op_CheckOp.j0 R) [lptr, lptr, v59, v0, v5] q58.2)
 ((lload false 1 (.pointer (some ⟨0, 3, none⟩)) v5).bind fun v60 =>
(aun .not v60).bind fun v61 =>
(guardV v61 true ((lload false 1 (.pointer (some ⟨0, 5, none⟩)) v0).bind fun v62 =>
(abin Try.prog .neq 3 (.tmp 44) (.const (.int .i64 0)) v62 (.int .i64 0)).bind fun v63 =>
some ([v63], q58.2)) (some ([undef], q58.2))).bind fun q64 =>
(apick v61 (getL q64.1 0) (.bool false)).bind fun v65 =>
joinK (op_CheckOp.j0 R) [lptr, lptr, v65, v0, v5] q64.2))))

theorem op_CheckOp_of {lib : Lib} (hl : lib 24 = none) {x0 : Value} {s : St} {r : Value × St} (h : op_CheckOp (run Try.prog lib hints) x0 s = some r) : run Try.prog lib hints 24 [x0] s = some r :=
  run_of hl Try.func24 (Eq.trans (by kernel_rfl) h)

theorem op_CheckOp_ok : funcOk Try.prog 24 = true := by kernel_rfl
theorem op_CheckOp_call {R : Caller} {xs : List Value} {s : St} : callV Try.prog R (.func (.func 24) #[] #[]) xs s = R 24 xs s := callV_eq op_CheckOp_ok

/-! ### sumpter/sumpterref04.CheckOp: 25 -/

noncomputable def ref04_CheckOp (R : Caller) (x0 : Value) (s : St) : Option (Value × St) :=
(lbox x0).bind fun v0 =>
(lload false 1 lptr v0).bind fun v1 =>
(abin Try.prog .eql 3 (.tmp 6) (.const (.int .i64 1)) v1 (.int .i64 1)).bind fun v2 =>
(guardV v2 false ((lload false 1 lptr v0).bind fun v3 =>
(abin Try.prog .eql 3 (.tmp 10) (.const (.int .i64 2)) v3 (.int .i64 2)).bind fun v4 =>
some ([v4], s)) (some ([undef], s))).bind fun q5 =>
(apick v2 (.bool true) (getL q5.1 0)).bind fun v6 =>
(guardV v6 false ((lload false 1 lptr v0).bind fun v7 =>
(abin Try.prog .eql 3 (.tmp 15) (.const (.int .i64 3)) v7 (.int .i64 3)).bind fun v8 =>
some ([v8], q5.2)) (some ([undef], q5.2))).bind fun q9 =>
(apick v6 (.bool true) (getL q9.1 0)).bind fun v10 =>
(lload false 1 lptr v0).bind fun v11 =>
(abin Try.prog .eql 3 (.tmp 19) (.const (.int .i64 4)) v11 (.int .i64 4)).bind fun v12 =>
(guardV v12 false ((lload false 1 lptr v0).bind fun v13 =>
(abin Try.prog .eql 3 (.tmp 23) (.const (.int .i64 5)) v13 (.int .i64 5)).bind fun v14 =>
some ([v14], q9.2)) (some ([undef], q9.2))).bind fun q15 =>
(apick v12 (.bool true) (getL q15.1 0)).bind fun v16 =>
(aun .not v10).bind fun v17 =>
(guardV v17 true ((aun .not v16).bind fun v18 =>
some ([v18], q15.2)) (some ([undef], q15.2))).bind fun q19 =>
(apick v17 (getL q19.1 0) (.bool false)).bind fun v20 =>
(guardV v20 false (some ([v10], q19.2)) (some ([undef], q19.2))).bind fun q21 =>
(guardV (getL q21.1 0) true ((lload false 1 (.pointer (some ⟨0, 3, none⟩)) v0).bind fun v22 =>
(abin Try.prog .neq 9 (.tmp 36) (.const (.string ⟨#[]⟩)) v22 (.string ⟨#[]⟩)).bind fun v23 =>
some ([v23], q21.2)) (some ([undef], q21.2))).bind fun q24 =>
(guardV (getL q24.1 0) false ((lload false 1 (.pointer (some ⟨0, 4, none⟩)) v0).bind fun v25 =>
(abin Try.prog .neq 9 (.tmp 40) (.const (.string ⟨#[]⟩)) v25 (.string ⟨#[]⟩)).bind fun v26 =>
some ([v26], q24.2)) (some ([undef], q24.2))).bind fun q27 =>
(guardV (getL q21.1 0) true ((apick (getL q24.1 0) (.bool true) (getL q27.1 0)).bind fun v28 =>
some ([v28], q27.2)) (some ([undef], q27.2))).bind fun q29 =>
(guardV v20 false ((apick (getL q21.1 0) (getL q29.1 0) (.bool false)).bind fun v30 =>
some ([v30], q29.2)) (some ([undef], q29.2))).bind fun q31 =>
(apick v20 (.bool true) (getL q31.1 0)).bind fun v32 =>
(guardV v32 false (some ([v16], q31.2)) (some ([undef], q31.2))).bind fun q33 =>
(guardV (getL q33.1 0) true ((lload false 1 (.pointer (some ⟨0, 1, none⟩)) v0).bind fun v34 =>
(abin Try.prog .neq 9 (.tmp 49) (.const (.string ⟨#[]⟩)) v34 (.string ⟨#[]⟩)).bind fun v35 =>
some ([v35], q33.2)) (some ([undef], q33.2))).bind fun q36 =>
(guardV v32 false ((apick (getL q33.1 0) (getL q36.1 0) (.bool false)).bind fun v37 =>
some ([v37], q36.2)) (some ([undef], q36.2))).bind fun q38 =>
(apick v32 (.bool true) (getL q38.1 0)).bind fun v39 =>
(guardV v39 false ((lload false 1 lptr v0).bind fun v40 =>
(abin Try.prog .neq 3 (.tmp 55) (.const (.int .i64 2)) v40 (.int .i64 2)).bind fun v41 =>
some ([v41], q38.2)) (some ([undef], q38.2))).bind fun q42 =>
(guardV (getL q42.1 0) true ((lload false 1 (.pointer (some ⟨0, 2, none⟩)) v0).bind fun v43 =>
(abin Try.prog .neq 9 (.tmp 59) (.const (.string ⟨#[]⟩)) v43 (.string ⟨#[]⟩)).bind fun v44 =>
some ([v44], q42.2)) (some ([undef], q42.2))).bind fun q45 =>
(guardV v39 false ((apick (getL q42.1 0) (getL q45.1 0) (.bool false)).bind fun v46 =>
some ([v46], q45.2)) (some ([undef], q45.2))).bind fun q47 =>
(apick v39 (.bool true) (getL q47.1 0)).bind fun v48 =>
(guardV v48 false ((lload false 1 lptr v0).bind fun v49 =>
(abin Try.prog .neq 3 (.tmp 65) (.const (.int .i64 4)) v49 (.int .i64 4)).bind fun v50 =>
some ([v50], q47.2)) (some ([undef], q47.2))).bind fun q51 =>
(guardV (getL q51.1 0) true ((lload false 1 (.pointer (some ⟨0, 5, none⟩)) v0).bind fun v52 =>
(abin Try.prog .neq 3 (.tmp 69) (.const (.int .i64 0)) v52 (.int .i64 0)).bind fun v53 =>
some ([v53], q51.2)) (some ([undef], q51.2))).bind fun q54 =>
(guardV v48 false ((apick (getL q51.1 0) (getL q54.1 0) (.bool false)).bind fun v55 =>
some ([v55], q54.2)) (some ([undef], q54.2))).bind fun q56 =>
(apick v48 (.bool true) (getL q56.1 0)).bind fun v57 =>
condV v57
 (retV [(.int .i64 40)] q56.2)
 ((guardV v10 true ((lload false 1 (.pointer (some ⟨0, 1, none⟩)) v0).bind fun v58 =>
(callV Try.prog R (.func (.func 42) #[] #[]) [v58] q56.2).bind fun r59 =>
(abin Try.prog .neq 26 (.tmp 77) (.const (.int .i64 0)) r59.1 (.int .i64 0)).bind fun v60 =>
some ([v60], r59.2)) (some ([undef], q56.2))).bind fun q61 =>
(apick v10 (getL q61.1 0) (.bool false)).bind fun v62 =>
condV v62
 (retV [(.int .i64 20)] q61.2)
 ((lload false 1 (.pointer (some ⟨0, 2, none⟩)) v0).bind fun v63 =>
(alenV .string v63 q61.2).bind fun v64 =>
(abin Try.prog .gtr 3 (.tmp 82) (.const (.int .i64 16)) v64 (.int .i64 16)).bind fun v65 =>
condV v65
 (retV [(.int .i64 2)] q61.2)
 ((guardV v16 true ((lload false 1 (.pointer (some ⟨0, 3, none⟩)) v0).bind fun v66 =>
(lload false 1 (.pointer (some ⟨0, 4, none⟩)) v0).bind fun v67 =>
(abuild Try.prog 43 [(0, v66), (1, v67)]).bind fun v68 =>
(callV Try.prog R (.func (.func 43) #[] #[]) [v68] q61.2).bind fun r69 =>
(abin Try.prog .neq 26 (.tmp 91) (.const (.int .i64 0)) r69.1 (.int .i64 0)).bind fun v70 =>
some ([v70], r69.2)) (some ([undef], q61.2))).bind fun q71 =>
(apick v16 (getL q71.1 0) (.bool false)).bind fun v72 =>
condV v72
 (retV [(.int .i64 21)] q71.2)
 ((lload false 1 lptr v0).bind fun v73 =>
(abin Try.prog .eql 3 (.tmp 95) (.const (.int .i64 4)) v73 (.int .i64 4)).bind fun v74 =>
(guardV v74 true ((lload false 1 (.pointer (some ⟨0, 5, none⟩)) v0).bind fun v75 =>
(abin Try.prog .lss 3 (.tmp 99) (.const (.int .i64 1)) v75 (.int .i64 1)).bind fun v76 =>
some ([v76], q71.2)) (some ([undef], q71.2))).bind fun q77 =>
(guardV (getL q77.1 0) false ((lload false 1 (.pointer (some ⟨0, 5, none⟩)) v0).bind fun v78 =>
(abin Try.prog .gtr 3 (.tmp 103) (.const (.int .i64 4)) v78 (.int .i64 4)).bind fun v79 =>
some ([v79], q77.2)) (some ([undef], q77.2))).bind fun q80 =>
(guardV v74 true ((apick (getL q77.1 0) (.bool true) (getL q80.1 0)).bind fun v81 =>
some ([v81], q80.2)) (some ([undef], q80.2))).bind fun q82 =>
(apick v74 (getL q82.1 0) (.bool false)).bind fun v83 =>
condV v83
 (retV [(.int .i64 1)] q82.2)
 (retV [(.int .i64 0)] q82.2)))))

theorem ref04_CheckOp_of {lib : Lib} (hl : lib 25 = none) {x0 : Value} {s : St} {r : Value × St} (h : ref04_CheckOp (run Try.prog lib hints) x0 s = some r) : run Try.prog lib hints 25 [x0] s = some r :=
  run_of hl Try.func25 (Eq.trans (by kernel_rfl) h)

theorem ref04_CheckOp_ok : funcOk Try.prog 25 = true := by kernel_rfl
theorem ref04_CheckOp_call {R : Caller} {xs : List Value} {s : St} : callV Try.prog R (.func (.func 25) #[] #[]) xs s = R 25 xs s := callV_eq ref04_CheckOp_ok

/-! ### sumpter/op.Check: 26 -/

noncomputable def op_Check (R : Caller) (x0 : Value) (s : St) : Option (Value × St) :=
(alenV (.slice 38) x0 s).bind fun v0 =>
(abin Try.prog .eql 3 (.tmp 4) (.const (.int .i64 0)) v0 (.int .i64 0)).bind fun v1 =>
(guardV v1 false ((alenV (.slice 38) x0 s).bind fun v2 =>
(abin Try.prog .gtr 3 (.tmp 8) (.const (.int .i64 4)) v2 (.int .i64 4)).bind fun v3 =>
some ([v3], s)) (some ([undef], s))).bind fun q4 =>
(apick v1 (.bool true) (getL q4.1 0)).bind fun v5 =>
condV v5
 (retV [(.int .i64 3)] q4.2)
 ((callV Try.prog R (.func (.func 30) #[] #[]) [x0] q4.2).bind fun r6 =>
retV [r6.1] r6.2)

theorem op_Check_of {lib : Lib} (hl : lib 26 = none) {x0 : Value} {s : St} {r : Value × St} (h : op_Check (run Try.prog lib hints) x0 s = some r) : run Try.prog lib hints 26 [x0] s = some r :=
  run_of hl Try.func26 (Eq.trans (by kernel_rfl) h)

theorem op_Check_ok : funcOk Try.prog 26 = true := by kernel_rfl
theorem op_Check_call {R : Caller} {xs : List Value} {s : St} : callV Try.prog R (.func (.func 26) #[] #[]) xs s = R 26 xs s := callV_eq op_Check_ok

/-! ### sumpter/sumpterref04.Check: 27 -/

noncomputable def ref04_Check (R : Caller) (x0 : Value) (s : St) : Option (Value × St) :=
(alenV (.slice 38) x0 s).bind fun v0 =>
(abin Try.prog .lss 3 (.tmp 4) (.const (.int .i64 1)) v0 (.int .i64 1)).bind fun v1 =>
(guardV v1 false ((alenV (.slice 38) x0 s).bind fun v2 =>
(abin Try.prog .gtr 3 (.tmp 8) (.const (.int .i64 4)) v2 (.int .i64 4)).bind fun v3 =>
some ([v3], s)) (some ([undef], s))).bind fun q4 =>
(apick v1 (.bool true) (getL q4.1 0)).bind fun v5 =>
condV v5
 (retV [(.int .i64 3)] q4.2)
 ((callV Try.prog R (.func (.func 33) #[] #[]) [x0] q4.2).bind fun r6 =>
retV [r6.1] r6.2)

theorem ref04_Check_of {lib : Lib} (hl : lib 27 = none) {x0 : Value} {s : St} {r : Value × St} (h : ref04_Check (run Try.prog lib hints) x0 s = some r) : run Try.prog lib hints 27 [x0] s = some r :=
  run_of hl Try.func27 (Eq.trans (by kernel_rfl) h)

theorem ref04_Check_ok : funcOk Try.prog 27 = true := by kernel_rfl
theorem ref04_Check_call {R : Caller} {xs : List Value} {s : St} : callV Try.prog R (.func (.func 27) #[] #[]) xs s = R 27 xs s := callV_eq ref04_Check_ok

/-! ### sumpter/sumpterref04.CheckMap: 28 -/

noncomputable def ref04_CheckMap.b0 (R : Caller) (T : List Value) (s : St) : Res :=
(abin Try.prog .lss 3 (.tmp 7) (.tmp 6) (getL T 3) (getL T 2)).bind fun v1 =>
condV v1
 ((aindexS 2 (getL T 1) (getL T 3)).bind fun v2 =>
(aload true 2 v2 s).bind fun v3 =>
(lstore 2 lptr v3 (.agg #[(.string ⟨#[]⟩), (.string ⟨#[]⟩)])).bind fun v4 =>
(lload false 1 lptr v4).bind fun v5 =>
(callV Try.prog R (.func (.func 42) #[] #[]) [v5] s).bind fun r6 =>
(abin Try.prog .neq 26 (.tmp 14) (.const (.int .i64 0)) r6.1 (.int .i64 0)).bind fun v7 =>
condV v7
 (some (.ret, [(.int .i64 20)], r6.2))
 ((lload false 1 (.pointer (some ⟨0, 1, none⟩)) v4).bind fun v8 =>
(alenV .string v8 r6.2).bind fun v9 =>
(abin Try.prog .gtr 3 (.tmp 18) (.const (.int .i64 16)) v9 (.int .i64 16)).bind fun v10 =>
condV v10
 (some (.ret, [(.int .i64 2)], r6.2))
 ((abin Try.prog .gtr 3 (.tmp 20) (.const (.int .i64 0)) (getL T 3) (.int .i64 0)).bind fun v11 =>
(guardV v11 true (some ([(getL T 0)], r6.2)) (some ([undef], r6.2))).bind fun q12 =>
(guardV v11 true (some ([(getL T 3)], q12.2)) (some ([undef], q12.2))).bind fun q13 =>
(guardV v11 true ((abin Try.prog .sub 3 (.tmp 24) (.const (.int .i64 1)) (getL q13.1 0) (.int .i64 1)).bind fun v14 =>
some ([v14], q13.2)) (some ([undef], q13.2))).bind fun q15 =>
(guardV v11 true ((aindexS 2 (getL q12.1 0) (getL q15.1 0)).bind fun v16 =>
some ([v16], q15.2)) (some ([undef], q15.2))).bind fun q17 =>
(guardV v11 true ((afieldAddr 0 (getL q17.1 0)).bind fun v18 =>
some ([v18], q17.2)) (some ([undef], q17.2))).bind fun q19 =>
((guardV v11 true ((aload false 1 (getL q19.1 0) q19.2).bind fun v28 =>
some (v28, q19.2)) (some (undef, q19.2))).bind (ownR q19.2)).bind fun r20 =>
(guardV v11 true (some ([lptr], r20.2)) (some ([undef], r20.2))).bind fun q21 =>
(guardV v11 true ((lload false 1 (getL q21.1 0) v4).bind fun v22 =>
some ([v22], q21.2)) (some ([undef], q21.2))).bind fun q23 =>
(guardV v11 true ((abin Try.prog .geq 9 (.tmp 28) (.tmp 30) r20.1 (getL q23.1 0)).bind fun v24 =>
some ([v24], q23.2)) (some ([undef], q23.2))).bind fun q25 =>
(apick v11 (getL q25.1 0) (.bool false)).bind fun v26 =>
condV v26
 (some (.ret, [(.int .i64 1)], q25.2))
 ((abin Try.prog .add 3 (.tmp 7) (.const (.int .i64 1)) (getL T 3) (.int .i64 1)).bind fun v27 =>
some (.normal, [(getL T 0), (getL T 1), (getL T 2), v27], q25.2)))))
 (some (.exit 0, [], s))

noncomputable def ref04_CheckMap (R : Caller) (x0 : Value) (s : St) : Option (Value × St) :=
(alenV (.slice 32) x0 s).bind fun v0 =>
(loopL (ref04_CheckMap.b0 R) [x0, x0, v0, (.int .i64 0)] s).bind fun r29 =>
exV r29.1 [(0, retV [(.int .i64 0)] r29.2.2)]
 (retV [(getL r29.2.1 0)] r29.2.2)

theorem ref04_CheckMap_of {lib : Lib} (hl : lib 28 = none) {x0 : Value} {s : St} {r : Value × St} (h : ref04_CheckMap (run Try.prog lib hints) x0 s = some r) : run Try.prog lib hints 28 [x0] s = some r :=
  run_of hl Try.func28 (Eq.trans (by kernel_rfl) h)

theorem ref04_CheckMap_ok : funcOk Try.prog 28 = true := by kernel_rfl
theorem ref04_CheckMap_call {R : Caller} {xs : List Value} {s : St} : callV Try.prog R (.func (.func 28) #[] #[]) xs s = R 28 xs s := callV_eq ref04_CheckMap_ok

/-! ### sumpter/sumpterref04.Writes: 29 -/

noncomputable def ref04_Writes (R : Caller) (x0 : Value) (s : St) : Option (Value × St) :=
(lbox x0).bind fun v0 =>
(lload false 1 lptr v0).bind fun v1 =>
(abin Try.prog .eql 3 (.tmp 4) (.const (.int .i64 2)) v1 (.int .i64 2)).bind fun v2 =>
(guardV v2 false ((lload false 1 lptr v0).bind fun v3 =>
(abin Try.prog .eql 3 (.tmp 8) (.const (.int .i64 3)) v3 (.int .i64 3)).bind fun v4 =>
some ([v4], s)) (some ([undef], s))).bind fun q5 =>
(apick v2 (.bool true) (getL q5.1 0)).bind fun v6 =>
(guardV v6 false ((lload false 1 lptr v0).bind fun v7 =>
(abin Try.prog .eql 3 (.tmp 13) (.const (.int .i64 5)) v7 (.int .i64 5)).bind fun v8 =>
some ([v8], q5.2)) (some ([undef], q5.2))).bind fun q9 =>
(apick v6 (.bool true) (getL q9.1 0)).bind fun v10 =>
retV [v10] q9.2

theorem ref04_Writes_of {lib : Lib} (hl : lib 29 = none) {x0 : Value} {s : St} {r : Value × St} (h : ref04_Writes (run Try.prog lib hints) x0 s = some r) : run Try.prog lib hints 29 [x0] s = some r :=
  run_of hl Try.func29 (Eq.trans (by kernel_rfl) h)

theorem ref04_Writes_ok : funcOk Try.prog 29 = true := by kernel_rfl
theorem ref04_Writes_call {R : Caller} {xs : List Value} {s : St} : callV Try.prog R (.func (.func 29) #[] #[]) xs s = R 29 xs s := callV_eq ref04_Writes_ok

/-! ### sumpter/op.all: 30 -/

noncomputable def op_all.b0 (R : Caller) (T : List Value) (s : St) : Res :=
(abin Try.prog .lss 3 (.tmp 8) (.tmp 7) (getL T 2) (getL T 1)).bind fun v1 =>
condV v1
 ((aindexS 6 (getL T 0) (getL T 2)).bind fun v2 =>
(aload true 6 v2 s).bind fun v3 =>
(lstore 6 lptr v3 (.agg #[(.int .i64 0), (.string ⟨#[]⟩), (.string ⟨#[]⟩), (.string ⟨#[]⟩), (.string ⟨#[]⟩), (.int .i64 0)])).bind fun v4 =>
(lload true 6 lptr v4).bind fun v5 =>
(callV Try.prog R (.func (.func 24) #[] #[]) [v5] s).bind fun r6 =>
(abin Try.prog .neq 26 (.tmp 14) (.const (.int .i64 0)) r6.1 (.int .i64 0)).bind fun v7 =>
condV v7
 (some (.ret, [r6.1], r6.2))
 ((abin Try.prog .add 3 (.tmp 8) (.const (.int .i64 1)) (getL T 2) (.int .i64 1)).bind fun v8 =>
some (.normal, [(getL T 0), (getL T 1), v8], r6.2)))
 (some (.exit 0, [], s))

noncomputable def op_all (R : Caller) (x0 : Value) (s : St) : Option (Value × St) :=
(alenV (.slice 38) x0 s).bind fun v0 =>
(loopL (op_all.b0 R) [x0, v0, (.int .i64 0)] s).bind fun r9 =>
exV r9.1 [(0, retV [(.int .i64 0)] r9.2.2)]
 (retV [(getL r9.2.1 0)] r9.2.2)

theorem op_all_of {lib : Lib} (hl : lib 30 = none) {x0 : Value} {s : St} {r : Value × St} (h : op_all (run Try.prog lib hints) x0 s = some r) : run Try.prog lib hints 30 [x0] s = some r :=
  run_of hl Try.func30 (Eq.trans (by kernel_rfl) h)

theorem op_all_ok : funcOk Try.prog 30 = true := by kernel_rfl
theorem op_all_call {R : Caller} {xs : List Value} {s : St} : callV Try.prog R (.func (.func 30) #[] #[]) xs s = R 30 xs s := callV_eq op_all_ok

/-! ### slices.Clone[[]sumpter/api.Pair,sumpter/api.Pair]: 31 -/

noncomputable def slices_Clone_api_Pair_api_Pair (R : Caller) (x0 : Value) (s : St) : Option (Value × St) :=
(abin Try.prog .eql 22 (.tmp 3) (.const (.slice none 0 0)) x0 (.slice none 0 0)).bind fun v0 =>
condV v0
 (retV [(.slice none 0 0)] s)
 ((abuildSl 2 [(.string ⟨#[]⟩), (.string ⟨#[]⟩)] 0 [] s).bind fun r1 =>
(aappend 2 32 r1.1 x0 r1.2).bind fun r2 =>
retV [r2.1] r2.2)

theorem slices_Clone_api_Pair_api_Pair_of {lib : Lib} (hl : lib 31 = none) {x0 : Value} {s : St} {r : Value × St} (h : slices_Clone_api_Pair_api_Pair (run Try.prog lib hints) x0 s = some r) : run Try.prog lib hints 31 [x0] s = some r :=
  run_of hl Try.func31 (Eq.trans (by kernel_rfl) h)

theorem slices_Clone_api_Pair_api_Pair_ok : funcOk Try.prog 31 = true := by kernel_rfl
theorem slices_Clone_api_Pair_api_Pair_call {R : Caller} {xs : List Value} {s : St} : callV Try.prog R (.func (.func 31) #[] #[]) xs s = R 31 xs s := callV_eq slices_Clone_api_Pair_api_Pair_ok

/-! ### sumpter/op.forms: 32 -/

noncomputable def op_forms (R : Caller) (s : St) : Option (Value × St) :=
(abuild Try.prog 65 [(0, (.bool true)), (5, (.func (.func 44) #[] #[]))]).bind fun v0 =>
(abuild Try.prog 65 [(0, (.bool true)), (1, (.bool true)), (4, (.bool true)), (5, (.func (.func 45) #[] #[]))]).bind fun v1 =>
(abuild Try.prog 65 [(0, (.bool true)), (4, (.bool true)), (5, (.func (.func 46) #[] #[]))]).bind fun v2 =>
(abuild Try.prog 65 [(2, (.bool true)), (3, (.bool true)), (5, (.func (.func 47) #[] #[]))]).bind fun v3 =>
(abuild Try.prog 65 [(2, (.bool true)), (4, (.bool true)), (5, (.func (.func 48) #[] #[]))]).bind fun v4 =>
(abuild Try.prog 66 [(1, v0), (2, v1), (3, v2), (4, v3), (5, v4)]).bind fun v5 =>
(lstore 36 lptr v5 (.agg #[(.bool false), (.bool false), (.bool false), (.bool false), (.bool false), .nilFunc, (.bool false), (.bool false), (.bool false), (.bool false), (.bool false), .nilFunc, (.bool false), (.bool false), (.bool false), (.bool false), (.bool false), .nilFunc, (.bool false), (.bool false), (.bool false), (.bool false), (.bool false), .nilFunc, (.bool false), (.bool false), (.bool false), (.bool false), (.bool false), .nilFunc, (.bool false), (.bool false), (.bool false), (.bool false), (.bool false), .nilFunc])).bind fun v6 =>
(lload true 36 lptr v6).bind fun v7 =>
retV [v7] s

theorem op_forms_of {lib : Lib} (hl : lib 32 = none) {s : St} {r : Value × St} (h : op_forms (run Try.prog lib hints)  s = some r) : run Try.prog lib hints 32 [] s = some r :=
  run_of hl Try.func32 (Eq.trans (by kernel_rfl) h)

theorem op_forms_ok : funcOk Try.prog 32 = true := by kernel_rfl
theorem op_forms_call {R : Caller} {xs : List Value} {s : St} : callV Try.prog R (.func (.func 32) #[] #[]) xs s = R 32 xs s := callV_eq op_forms_ok

/-! ### sumpter/sumpterref04.All: 33 -/

noncomputable def ref04_All.b0 (R : Caller) (T : List Value) (s : St) : Res :=
(abin Try.prog .lss 3 (.tmp 8) (.tmp 7) (getL T 2) (getL T 1)).bind fun v1 =>
condV v1
 ((aindexS 6 (getL T 0) (getL T 2)).bind fun v2 =>
(aload true 6 v2 s).bind fun v3 =>
(lstore 6 lptr v3 (.agg #[(.int .i64 0), (.string ⟨#[]⟩), (.string ⟨#[]⟩), (.string ⟨#[]⟩), (.string ⟨#[]⟩), (.int .i64 0)])).bind fun v4 =>
(lload true 6 lptr v4).bind fun v5 =>
(callV Try.prog R (.func (.func 25) #[] #[]) [v5] s).bind fun r6 =>
(abin Try.prog .neq 26 (.tmp 14) (.const (.int .i64 0)) r6.1 (.int .i64 0)).bind fun v7 =>
condV v7
 (some (.ret, [r6.1], r6.2))
 ((abin Try.prog .add 3 (.tmp 8) (.const (.int .i64 1)) (getL T 2) (.int .i64 1)).bind fun v8 =>
some (.normal, [(getL T 0), (getL T 1), v8], r6.2)))
 (some (.exit 0, [], s))

noncomputable def ref04_All (R : Caller) (x0 : Value) (s : St) : Option (Value × St) :=
(alenV (.slice 38) x0 s).bind fun v0 =>
(loopL (ref04_All.b0 R) [x0, v0, (.int .i64 0)] s).bind fun r9 =>
exV r9.1 [(0, retV [(.int .i64 0)] r9.2.2)]
 (retV [(getL r9.2.1 0)] r9.2.2)

theorem ref04_All_of {lib : Lib} (hl : lib 33 = none) {x0 : Value} {s : St} {r : Value × St} (h : ref04_All (run Try.prog lib hints) x0 s = some r) : run Try.prog lib hints 33 [x0] s = some r :=
  run_of hl Try.func33 (Eq.trans (by kernel_rfl) h)

theorem ref04_All_ok : funcOk Try.prog 33 = true := by kernel_rfl
theorem ref04_All_call {R : Caller} {xs : List Value} {s : St} : callV Try.prog R (.func (.func 33) #[] #[]) xs s = R 33 xs s := callV_eq ref04_All_ok

/-! ### sumpter/sumpterref04.Do: 34 -/

noncomputable def ref04_Do (R : Caller) (x0 x1 : Value) (s : St) : Option (Value × St) :=
(lbox x1).bind fun v0 =>
(lload false 1 (.pointer (some ⟨0, 3, none⟩)) v0).bind fun v1 =>
(lload false 1 (.pointer (some ⟨0, 4, none⟩)) v0).bind fun v2 =>
(abuild Try.prog 43 [(0, v1), (1, v2)]).bind fun v3 =>
(lstore 2 lptr v3 (.agg #[(.string ⟨#[]⟩), (.string ⟨#[]⟩)])).bind fun v4 =>
(lload false 1 lptr v0).bind fun v5 =>
(abin Try.prog .eql 3 (.tmp 17) (.const (.int .i64 1)) v5 (.int .i64 1)).bind fun v6 =>
condV v6
 ((lload false 1 (.pointer (some ⟨0, 1, none⟩)) v0).bind fun v7 =>
(callV Try.prog R (.func (.func 19) #[] #[]) [x0, v7] s).bind fun r8 =>
(aextract 0 r8.1).bind fun v9 =>
(aextract 1 r8.1).bind fun v10 =>
(abuild Try.prog 34 [(0, v10), (1, v9)]).bind fun v11 =>
(lstore 3 lptr v11 (.agg #[(.bool false), (.string ⟨#[]⟩), (.slice none 0 0)])).bind fun v12 =>
(lload true 3 lptr v12).bind fun v13 =>
retV [x0, v13] r8.2)
 ((abin Try.prog .eql 3 (.tmp 17) (.const (.int .i64 2)) v5 (.int .i64 2)).bind fun v14 =>
condV v14
 ((lload false 1 (.pointer (some ⟨0, 1, none⟩)) v0).bind fun v15 =>
(lload false 1 (.pointer (some ⟨0, 2, none⟩)) v0).bind fun v16 =>
(abuild Try.prog 32 [(0, v15), (1, v16)]).bind fun v17 =>
(callV Try.prog R (.func (.func 49) #[] #[]) [x0, v17] s).bind fun r18 =>
retV [r18.1, (.agg #[(.bool false), (.string ⟨#[]⟩), (.slice none 0 0)])] r18.2)
 ((abin Try.prog .eql 3 (.tmp 17) (.const (.int .i64 3)) v5 (.int .i64 3)).bind fun v19 =>
condV v19
 ((lload false 1 (.pointer (some ⟨0, 1, none⟩)) v0).bind fun v20 =>
(callV Try.prog R (.func (.func 41) #[] #[]) [v20] s).bind fun r21 =>
(aextract 0 r21.1).bind fun v22 =>
(aextract 1 r21.1).bind fun v23 =>
(lstore 2 lptr v22 (.agg #[(.string ⟨#[]⟩), (.string ⟨#[]⟩)])).bind fun v24 =>
(lload true 2 lptr v24).bind fun v25 =>
(callV Try.prog R (.func (.func 50) #[] #[]) [x0, v25] r21.2).bind fun r26 =>
retV [r26.1, (.agg #[(.bool false), (.string ⟨#[]⟩), (.slice none 0 0)])] r26.2)
 ((abin Try.prog .eql 3 (.tmp 17) (.const (.int .i64 4)) v5 (.int .i64 4)).bind fun v27 =>
condV v27
 ((lload true 2 lptr v4).bind fun v28 =>
(lload false 1 (.pointer (some ⟨0, 5, none⟩)) v0).bind fun v29 =>
(callV Try.prog R (.func (.func 51) #[] #[]) [x0, v28, v29] s).bind fun r30 =>
(abuild Try.prog 34 [(2, r30.1)]).bind fun v31 =>
(lstore 3 lptr v31 (.agg #[(.bool false), (.string ⟨#[]⟩), (.slice none 0 0)])).bind fun v32 =>
(lload true 3 lptr v32).bind fun v33 =>
retV [x0, v33] r30.2)
 ((lload true 2 lptr v4).bind fun v34 =>
(callV Try.prog R (.func (.func 50) #[] #[]) [x0, v34] s).bind fun r35 =>
retV [r35.1, (.agg #[(.bool false), (.string ⟨#[]⟩), (.slice none 0 0)])] r35.2))))

theorem ref04_Do_of {lib : Lib} (hl : lib 34 = none) {x0 x1 : Value} {s : St} {r : Value × St} (h : ref04_Do (run Try.prog lib hints) x0 x1 s = some r) : run Try.prog lib hints 34 [x0, x1] s = some r :=
  run_of hl Try.func34 (Eq.trans (by kernel_rfl) h)

theorem ref04_Do_ok : funcOk Try.prog 34 = true := by kernel_rfl
theorem ref04_Do_call {R : Caller} {xs : List Value} {s : St} : callV Try.prog R (.func (.func 34) #[] #[]) xs s = R 34 xs s := callV_eq ref04_Do_ok

/-! ### sumpter/op.formOf: 35 -/

noncomputable def op_formOf (R : Caller) (x0 : Value) (s : St) : Option (Value × St) :=
(abin Try.prog .lss 3 (.tmp 4) (.const (.int .i64 1)) x0 (.int .i64 1)).bind fun v0 =>
(guardV v0 false ((abin Try.prog .gtr 3 (.tmp 7) (.const (.int .i64 5)) x0 (.int .i64 5)).bind fun v1 =>
some ([v1], s)) (some ([undef], s))).bind fun q2 =>
(apick v0 (.bool true) (getL q2.1 0)).bind fun v3 =>
condV v3
 (retV [(.agg #[(.bool false), (.bool false), (.bool false), (.bool false), (.bool false), .nilFunc]), (.bool false)] q2.2)
 ((callV Try.prog R (.func (.func 32) #[] #[]) [] q2.2).bind fun r4 =>
(aindexAgg true 6 6 r4.1 x0).bind fun v5 =>
(lstore 6 lptr v5 (.agg #[(.bool false), (.bool false), (.bool false), (.bool false), (.bool false), .nilFunc])).bind fun v6 =>
(lload true 6 lptr v6).bind fun v7 =>
retV [v7, (.bool true)] r4.2)

theorem op_formOf_of {lib : Lib} (hl : lib 35 = none) {x0 : Value} {s : St} {r : Value × St} (h : op_formOf (run Try.prog lib hints) x0 s = some r) : run Try.prog lib hints 35 [x0] s = some r :=
  run_of hl Try.func35 (Eq.trans (by kernel_rfl) h)

theorem op_formOf_ok : funcOk Try.prog 35 = true := by kernel_rfl
theorem op_formOf_call {R : Caller} {xs : List Value} {s : St} : callV Try.prog R (.func (.func 35) #[] #[]) xs s = R 35 xs s := callV_eq op_formOf_ok

/-! ### sumpter/span.CheckKey: 36 -/

noncomputable def span_CheckKey (R : Caller) (x0 : Value) (s : St) : Option (Value × St) :=
(abin Try.prog .eql 9 (.tmp 3) (.const (.string ⟨#[]⟩)) x0 (.string ⟨#[]⟩)).bind fun v0 =>
(guardV v0 false ((alenV .string x0 s).bind fun v1 =>
(abin Try.prog .gtr 3 (.tmp 7) (.const (.int .i64 12)) v1 (.int .i64 12)).bind fun v2 =>
some ([v2], s)) (some ([undef], s))).bind fun q3 =>
(apick v0 (.bool true) (getL q3.1 0)).bind fun v4 =>
condV v4
 (retV [(.int .i64 20)] q3.2)
 (retV [(.int .i64 0)] q3.2)

theorem span_CheckKey_of {lib : Lib} (hl : lib 36 = none) {x0 : Value} {s : St} {r : Value × St} (h : span_CheckKey (run Try.prog lib hints) x0 s = some r) : run Try.prog lib hints 36 [x0] s = some r :=
  run_of hl Try.func36 (Eq.trans (by kernel_rfl) h)

theorem span_CheckKey_ok : funcOk Try.prog 36 = true := by kernel_rfl
theorem span_CheckKey_call {R : Caller} {xs : List Value} {s : St} : callV Try.prog R (.func (.func 36) #[] #[]) xs s = R 36 xs s := callV_eq span_CheckKey_ok

/-! ### sumpter/op.of: 37 -/

noncomputable def op_of (R : Caller) (x0 : Value) (s : St) : Option (Value × St) :=
(lbox x0).bind fun v0 =>
(lload false 1 (.pointer (some ⟨0, 3, none⟩)) v0).bind fun v1 =>
(lload false 1 (.pointer (some ⟨0, 4, none⟩)) v0).bind fun v2 =>
(abuild Try.prog 43 [(0, v1), (1, v2)]).bind fun v3 =>
(lstore 2 lptr v3 (.agg #[(.string ⟨#[]⟩), (.string ⟨#[]⟩)])).bind fun v4 =>
(lload true 2 lptr v4).bind fun v5 =>
retV [v5] s

theorem op_of_of {lib : Lib} (hl : lib 37 = none) {x0 : Value} {s : St} {r : Value × St} (h : op_of (run Try.prog lib hints) x0 s = some r) : run Try.prog lib hints 37 [x0] s = some r :=
  run_of hl Try.func37 (Eq.trans (by kernel_rfl) h)

theorem op_of_ok : funcOk Try.prog 37 = true := by kernel_rfl
theorem op_of_call {R : Caller} {xs : List Value} {s : St} : callV Try.prog R (.func (.func 37) #[] #[]) xs s = R 37 xs s := callV_eq op_of_ok

/-! ### sumpter/span.Point: 38 -/

noncomputable def span_Point.b0 (R : Caller) (T : List Value) (s : St) : Res :=
(alenV (.slice 5) (getL T 2) s).bind fun v9 =>
(abin Try.prog .gtr 3 (.tmp 22) (.const (.int .i64 0)) v9 (.int .i64 0)).bind fun v10 =>
(guardV v10 true ((alenV (.slice 5) (getL T 2) s).bind fun v11 =>
(abin Try.prog .sub 3 (.tmp 27) (.const (.int .i64 1)) v11 (.int .i64 1)).bind fun v12 =>
(aindexS 1 (getL T 2) v12).bind fun v13 =>
(aload false 1 v13 s).bind fun v14 =>
(abin Try.prog .eql 5 (.tmp 30) (.const (.int .u8 255)) v14 (.int .u8 255)).bind fun v15 =>
some ([v15], s)) (some ([undef], s))).bind fun q16 =>
(apick v10 (getL q16.1 0) (.bool false)).bind fun v17 =>
condV v17
 ((alenV (.slice 5) (getL T 2) q16.2).bind fun v18 =>
(abin Try.prog .sub 3 (.tmp 35) (.const (.int .i64 1)) v18 (.int .i64 1)).bind fun v19 =>
(asliceV 1 (getL T 2) none (some v19) none).bind fun v20 =>
some (.normal, [(getL T 0), (getL T 1), v20, (getL T 3)], q16.2))
 (some (.exit 0, [(getL T 0), (getL T 1), (getL T 2), (getL T 3)], q16.2))

noncomputable def span_Point.j0 (R : Caller) (T : List Value) (s : St) : Option (Value × St) :=
(abytesToStr (getL T 2) s).bind fun v32 =>
(abuild Try.prog 43 [(0, (getL T 0)), (1, v32)]).bind fun v33 =>
(lstore 2 (getL T 1) v33 (getL T 3)).bind fun v34 =>
(lload true 2 (getL T 1) v34).bind fun v35 =>
retV [v35, (.int .i64 0)] s

noncomputable def span_Point (R : Caller) (x0 : Value) (s : St) : Option (Value × St) :=
(callV Try.prog R (.func (.func 36) #[] #[]) [x0] s).bind fun r0 =>
(abin Try.prog .neq 26 (.tmp 8) (.const (.int .i64 0)) r0.1 (.int .i64 0)).bind fun v1 =>
condV v1
 (retV [(.agg #[(.string ⟨#[]⟩), (.string ⟨#[]⟩)]), r0.1] r0.2)
 ((alenV .string x0 r0.2).bind fun v2 =>
(abin Try.prog .lss 3 (.tmp 13) (.const (.int .i64 12)) v2 (.int .i64 12)).bind fun v3 =>
condV v3
 ((abin Try.prog .add 9 (.tmp 16) (.const (.string ⟨#[0]⟩)) x0 (.string ⟨#[0]⟩)).bind fun v4 =>
(abuild Try.prog 43 [(0, x0), (1, v4)]).bind fun v5 =>
(lstore 2 lptr v5 (.agg #[(.string ⟨#[]⟩), (.string ⟨#[]⟩)])).bind fun v6 =>
(lload true 2 lptr v6).bind fun v7 =>
retV [v7, (.int .i64 0)] r0.2)
 ((convBytes x0 r0.2).bind fun r8 =>
(loopL (span_Point.b0 R) [x0, lptr, r8.1, (.agg #[(.string ⟨#[]⟩), (.string ⟨#[]⟩)])] r8.2).bind fun r21 =>
exV r21.1 [(0, (alenV (.slice 5) (getL r21.2.1 2) r21.2.2).bind fun v23 =>
(abin Try.prog .gtr 3 (.tmp 39) (.const (.int .i64 0)) v23 (.int .i64 0)).bind fun v24 =>
condV v24
 ((alenV (.slice 5) (getL r21.2.1 2) r21.2.2).bind fun v25 =>
(abin Try.prog .sub 3 (.tmp 43) (.const (.int .i64 1)) v25 (.int .i64 1)).bind fun v26 =>
(aindexS 1 (getL r21.2.1 2) v26).bind fun v27 =>
(aload false 1 v27 r21.2.2).bind fun v28 =>
(abin Try.prog .add 5 (.tmp 46) (.const (.int .u8 1)) v28 (.int .u8 1)).bind fun v29 =>
(aindexS 1 (getL r21.2.1 2) v26).bind fun v30 =>
(astore 1 v30 v29 r21.2.2).bind fun s31 =>
joinK (span_Point.j0 R) [(getL r21.2.1 0), (getL r21.2.1 1), (getL r21.2.1 2), (getL r21.2.1 3)] s31)
 (joinK (span_Point.j0 R) [(getL r21.2.1 0), (getL r21.2.1 1), (getL r21.2.1 2), (getL r21.2.1 3)] r21.2.2))]
 (none)))

theorem span_Point_of {lib : Lib} (hl : lib 38 = none) {x0 : Value} {s : St} {r : Value × St} (h : span_Point (run Try.prog lib hints) x0 s = some r) : run Try.prog lib hints 38 [x0] s = some r :=
  run_of hl Try.func38 (Eq.trans (by kernel_rfl) h)

theorem span_Point_ok : funcOk Try.prog 38 = true := by kernel_rfl
theorem span_Point_call {R : Caller} {xs : List Value} {s : St} : callV Try.prog R (.func (.func 38) #[] #[]) xs s = R 38 xs s := callV_eq span_Point_ok

/-! ### sumpter/span.Check: 39 -/

noncomputable def span_Check.j0 (R : Caller) (T : List Value) (s : St) : Option (Value × St) :=
condV (getL T 0)
 (retV [(.int .i64 21)] s)
 (retV [(.int .i64 0)] s)

noncomputable def span_Check (R : Caller) (x0 : Value) (s : St) : Option (Value × St) :=
(lbox x0).bind fun v0 =>
(lload true 2 lptr v0).bind fun v1 =>
(((callV Try.prog R (.func (.func 52) #[] #[]) [] s).bind fun r20 =>
some (r20.1, r20.2)).bind (ownR s)).bind fun r2 =>
(abin Try.prog .eql 43 (.tmp 4) (.tmp 5) v1 r2.1).bind fun v3 =>
condV v3
 (retV [(.int .i64 0)] r2.2)
 ((lload false 1 lptr v0).bind fun v5 =>
(alenV .string v5 r2.2).bind fun v6 =>
(abin Try.prog .gtr 3 (.tmp 10) (.const (.int .i64 12)) v6 (.int .i64 12)).bind fun v7 =>
(guardV v7 false ((lload false 1 (.pointer (some ⟨0, 1, none⟩)) v0).bind fun v8 =>
(alenV .string v8 r2.2).bind fun v9 =>
(abin Try.prog .gtr 3 (.tmp 15) (.const (.int .i64 12)) v9 (.int .i64 12)).bind fun v10 =>
some ([v10], r2.2)) (some ([undef], r2.2))).bind fun q11 =>
(apick v7 (.bool true) (getL q11.1 0)).bind fun v12 =>
condV v12
 (joinK (span_Check.j0 R) [v12] q11.2)
 ((lload false 1 (.pointer (some ⟨0, 1, none⟩)) v0).bind fun v13 =>
(abin Try.prog .neq 9 (.tmp 19) (.const (.string ⟨#[]⟩)) v13 (.string ⟨#[]⟩)).bind fun v14 =>
(guardV v14 true ((lload false 1 lptr v0).bind fun v15 =>
(lload false 1 (.pointer (some ⟨0, 1, none⟩)) v0).bind fun v16 =>
(abin Try.prog .geq 9 (.tmp 23) (.tmp 25) v15 v16).bind fun v17 =>
some ([v17], q11.2)) (some ([undef], q11.2))).bind fun q18 =>
(apick v14 (getL q18.1 0) (.bool false)).bind fun v19 =>
joinK (span_Check.j0 R) [v19] q18.2))

theorem span_Check_of {lib : Lib} (hl : lib 39 = none) {x0 : Value} {s : St} {r : Value × St} (h : span_Check (run Try.prog lib hints) x0 s = some r) : run Try.prog lib hints 39 [x0] s = some r :=
  run_of hl Try.func39 (Eq.trans (by kernel_rfl) h)

theorem span_Check_ok : funcOk Try.prog 39 = true := by kernel_rfl
theorem span_Check_call {R : Caller} {xs : List Value} {s : St} : callV Try.prog R (.func (.func 39) #[] #[]) xs s = R 39 xs s := callV_eq span_Check_ok

/-! ### sumpter/span.least: 40 -/

noncomputable def span_least (R : Caller) (x0 x1 : Value) (s : St) : Option (Value × St) :=
(abin Try.prog .eql 9 (.tmp 5) (.const (.string ⟨#[]⟩)) x0 (.string ⟨#[]⟩)).bind fun v0 =>
(guardV v0 false ((abin Try.prog .neq 9 (.tmp 8) (.const (.string ⟨#[]⟩)) x1 (.string ⟨#[]⟩)).bind fun v1 =>
some ([v1], s)) (some ([undef], s))).bind fun q2 =>
(guardV (getL q2.1 0) true ((abin Try.prog .lss 9 (.tmp 11) (.tmp 12) x1 x0).bind fun v3 =>
some ([v3], q2.2)) (some ([undef], q2.2))).bind fun q4 =>
(guardV v0 false ((apick (getL q2.1 0) (getL q4.1 0) (.bool false)).bind fun v5 =>
some ([v5], q4.2)) (some ([undef], q4.2))).bind fun q6 =>
(apick v0 (.bool true) (getL q6.1 0)).bind fun v7 =>
condV v7
 (retV [x1] q6.2)
 (retV [x0] q6.2)

theorem span_least_of {lib : Lib} (hl : lib 40 = none) {x0 x1 : Value} {s : St} {r : Value × St} (h : span_least (run Try.prog lib hints) x0 x1 s = some r) : run Try.prog lib hints 40 [x0, x1] s = some r :=
  run_of hl Try.func40 (Eq.trans (by kernel_rfl) h)

theorem span_least_ok : funcOk Try.prog 40 = true := by kernel_rfl
theorem span_least_call {R : Caller} {xs : List Value} {s : St} : callV Try.prog R (.func (.func 40) #[] #[]) xs s = R 40 xs s := callV_eq span_least_ok

/-! ### sumpter/sumpterref02.Point: 41 -/

noncomputable def ref02_Point.b0 (R : Caller) (T : List Value) (s : St) : Res :=
(abin Try.prog .gtr 3 (.tmp 19) (.const (.int .i64 0)) (getL T 2) (.int .i64 0)).bind fun v8 =>
(guardV v8 true ((abin Try.prog .sub 3 (.tmp 23) (.const (.int .i64 1)) (getL T 2) (.int .i64 1)).bind fun v9 =>
(aindexStr (getL T 0) v9).bind fun v10 =>
(abin Try.prog .eql 5 (.tmp 25) (.const (.int .u8 255)) v10 (.int .u8 255)).bind fun v11 =>
some ([v11], s)) (some ([undef], s))).bind fun q12 =>
(apick v8 (getL q12.1 0) (.bool false)).bind fun v13 =>
condV v13
 ((abin Try.prog .sub 3 (.tmp 28) (.const (.int .i64 1)) (getL T 2) (.int .i64 1)).bind fun v14 =>
some (.normal, [(getL T 0), (getL T 1), v14, (getL T 3)], q12.2))
 (some (.exit 0, [(getL T 0), (getL T 1), (getL T 2), (getL T 3)], q12.2))

noncomputable def ref02_Point (R : Caller) (x0 : Value) (s : St) : Option (Value × St) :=
(callV Try.prog R (.func (.func 42) #[] #[]) [x0] s).bind fun r0 =>
(abin Try.prog .neq 26 (.tmp 8) (.const (.int .i64 0)) r0.1 (.int .i64 0)).bind fun v1 =>
condV v1
 (retV [(.agg #[(.string ⟨#[]⟩), (.string ⟨#[]⟩)]), r0.1] r0.2)
 ((alenV .string x0 r0.2).bind fun v2 =>
(abin Try.prog .lss 3 (.tmp 13) (.const (.int .i64 12)) v2 (.int .i64 12)).bind fun v3 =>
condV v3
 ((abin Try.prog .add 9 (.tmp 16) (.const (.string ⟨#[0]⟩)) x0 (.string ⟨#[0]⟩)).bind fun v4 =>
(abuild Try.prog 43 [(0, x0), (1, v4)]).bind fun v5 =>
(lstore 2 lptr v5 (.agg #[(.string ⟨#[]⟩), (.string ⟨#[]⟩)])).bind fun v6 =>
(lload true 2 lptr v6).bind fun v7 =>
retV [v7, (.int .i64 0)] r0.2)
 ((loopL (ref02_Point.b0 R) [x0, lptr, (.int .i64 12), (.agg #[(.string ⟨#[]⟩), (.string ⟨#[]⟩)])] r0.2).bind fun r15 =>
exV r15.1 [(0, (abin Try.prog .eql 3 (.tmp 30) (.const (.int .i64 0)) (getL r15.2.1 2) (.int .i64 0)).bind fun v16 =>
condV v16
 ((abuild Try.prog 43 [(0, (getL r15.2.1 0))]).bind fun v17 =>
(lstore 2 (getL r15.2.1 1) v17 (getL r15.2.1 3)).bind fun v18 =>
(lload true 2 (getL r15.2.1 1) v18).bind fun v19 =>
retV [v19, (.int .i64 0)] r15.2.2)
 ((abin Try.prog .sub 3 (.tmp 36) (.const (.int .i64 1)) (getL r15.2.1 2) (.int .i64 1)).bind fun v20 =>
(asliceStrV (getL r15.2.1 0) none (some v20) none).bind fun v21 =>
(abin Try.prog .sub 3 (.tmp 40) (.const (.int .i64 1)) (getL r15.2.1 2) (.int .i64 1)).bind fun v22 =>
(aindexStr (getL r15.2.1 0) v22).bind fun v23 =>
(abin Try.prog .add 5 (.tmp 42) (.const (.int .u8 1)) v23 (.int .u8 1)).bind fun v24 =>
(((abuildSl 1 [(.int .u8 0)] 1 [(0, v24)] r15.2.2).bind fun r32 =>
some (r32.1, r32.2)).bind (ownR r15.2.2)).bind fun r25 =>
(((abytesToStr r25.1 r25.2).bind fun v31 =>
some (v31, r25.2)).bind (ownR r25.2)).bind fun r26 =>
(abin Try.prog .add 9 (.tmp 38) (.tmp 45) v21 r26.1).bind fun v27 =>
(abuild Try.prog 43 [(0, (getL r15.2.1 0)), (1, v27)]).bind fun v28 =>
(lstore 2 (getL r15.2.1 1) v28 (getL r15.2.1 3)).bind fun v29 =>
(lload true 2 (getL r15.2.1 1) v29).bind fun v30 =>
retV [v30, (.int .i64 0)] r26.2))]
 (none)))

theorem ref02_Point_of {lib : Lib} (hl : lib 41 = none) {x0 : Value} {s : St} {r : Value × St} (h : ref02_Point (run Try.prog lib hints) x0 s = some r) : run Try.prog lib hints 41 [x0] s = some r :=
  run_of hl Try.func41 (Eq.trans (by kernel_rfl) h)

theorem ref02_Point_ok : funcOk Try.prog 41 = true := by kernel_rfl
theorem ref02_Point_call {R : Caller} {xs : List Value} {s : St} : callV Try.prog R (.func (.func 41) #[] #[]) xs s = R 41 xs s := callV_eq ref02_Point_ok

/-! ### sumpter/sumpterref02.CheckKey: 42 -/

noncomputable def ref02_CheckKey (R : Caller) (x0 : Value) (s : St) : Option (Value × St) :=
(alenV .string x0 s).bind fun v0 =>
(abin Try.prog .lss 3 (.tmp 4) (.const (.int .i64 1)) v0 (.int .i64 1)).bind fun v1 =>
(guardV v1 false ((alenV .string x0 s).bind fun v2 =>
(abin Try.prog .gtr 3 (.tmp 8) (.const (.int .i64 12)) v2 (.int .i64 12)).bind fun v3 =>
some ([v3], s)) (some ([undef], s))).bind fun q4 =>
(apick v1 (.bool true) (getL q4.1 0)).bind fun v5 =>
condV v5
 (retV [(.int .i64 20)] q4.2)
 (retV [(.int .i64 0)] q4.2)

theorem ref02_CheckKey_of {lib : Lib} (hl : lib 42 = none) {x0 : Value} {s : St} {r : Value × St} (h : ref02_CheckKey (run Try.prog lib hints) x0 s = some r) : run Try.prog lib hints 42 [x0] s = some r :=
  run_of hl Try.func42 (Eq.trans (by kernel_rfl) h)

theorem ref02_CheckKey_ok : funcOk Try.prog 42 = true := by kernel_rfl
theorem ref02_CheckKey_call {R : Caller} {xs : List Value} {s : St} : callV Try.prog R (.func (.func 42) #[] #[]) xs s = R 42 xs s := callV_eq ref02_CheckKey_ok

/-! ### sumpter/sumpterref02.Check: 43 -/

noncomputable def ref02_Check (R : Caller) (x0 : Value) (s : St) : Option (Value × St) :=
(lbox x0).bind fun v0 =>
(lload false 1 lptr v0).bind fun v1 =>
(alenV .string v1 s).bind fun v2 =>
(abin Try.prog .gtr 3 (.tmp 5) (.const (.int .i64 12)) v2 (.int .i64 12)).bind fun v3 =>
(guardV v3 false ((lload false 1 (.pointer (some ⟨0, 1, none⟩)) v0).bind fun v4 =>
(alenV .string v4 s).bind fun v5 =>
(abin Try.prog .gtr 3 (.tmp 10) (.const (.int .i64 12)) v5 (.int .i64 12)).bind fun v6 =>
some ([v6], s)) (some ([undef], s))).bind fun q7 =>
(apick v3 (.bool true) (getL q7.1 0)).bind fun v8 =>
(guardV v8 false ((lload false 1 (.pointer (some ⟨0, 1, none⟩)) v0).bind fun v9 =>
(abin Try.prog .neq 9 (.tmp 15) (.const (.string ⟨#[]⟩)) v9 (.string ⟨#[]⟩)).bind fun v10 =>
some ([v10], q7.2)) (some ([undef], q7.2))).bind fun q11 =>
(guardV (getL q11.1 0) true ((lload false 1 lptr v0).bind fun v12 =>
(lload false 1 (.pointer (some ⟨0, 1, none⟩)) v0).bind fun v13 =>
(abin Try.prog .geq 9 (.tmp 19) (.tmp 21) v12 v13).bind fun v14 =>
some ([v14], q11.2)) (some ([undef], q11.2))).bind fun q15 =>
(guardV v8 false ((apick (getL q11.1 0) (getL q15.1 0) (.bool false)).bind fun v16 =>
some ([v16], q15.2)) (some ([undef], q15.2))).bind fun q17 =>
(apick v8 (.bool true) (getL q17.1 0)).bind fun v18 =>
condV v18
 (retV [(.int .i64 21)] q17.2)
 (retV [(.int .i64 0)] q17.2)

theorem ref02_Check_of {lib : Lib} (hl : lib 43 = none) {x0 : Value} {s : St} {r : Value × St} (h : ref02_Check (run Try.prog lib hints) x0 s = some r) : run Try.prog lib hints 43 [x0] s = some r :=
  run_of hl Try.func43 (Eq.trans (by kernel_rfl) h)

theorem ref02_Check_ok : funcOk Try.prog 43 = true := by kernel_rfl
theorem ref02_Check_call {R : Caller} {xs : List Value} {s : St} : callV Try.prog R (.func (.func 43) #[] #[]) xs s = R 43 xs s := callV_eq ref02_Check_ok

/-! ### sumpter/op.get: 44 -/

noncomputable def op_get (R : Caller) (x0 x1 : Value) (s : St) : Option (Value × St) :=
(lbox x1).bind fun v0 =>
(lload false 1 (.pointer (some ⟨0, 1, none⟩)) v0).bind fun v1 =>
(callV Try.prog R (.func (.func 53) #[] #[]) [x0, v1] s).bind fun r2 =>
(aextract 0 r2.1).bind fun v3 =>
(aextract 1 r2.1).bind fun v4 =>
(aun .not v4).bind fun v5 =>
condV v5
 (retV [x0, (.agg #[(.bool false), (.string ⟨#[]⟩), (.slice none 0 0)])] r2.2)
 ((aindexS 2 x0 v3).bind fun v6 =>
(afieldAddr 1 v6).bind fun v7 =>
(((aload false 1 v7 r2.2).bind fun v12 =>
some (v12, r2.2)).bind (ownR r2.2)).bind fun r8 =>
(abuild Try.prog 34 [(0, (.bool true)), (1, r8.1)]).bind fun v9 =>
(lstore 3 lptr v9 (.agg #[(.bool false), (.string ⟨#[]⟩), (.slice none 0 0)])).bind fun v10 =>
(lload true 3 lptr v10).bind fun v11 =>
retV [x0, v11] r8.2)

theorem op_get_of {lib : Lib} (hl : lib 44 = none) {x0 x1 : Value} {s : St} {r : Value × St} (h : op_get (run Try.prog lib hints) x0 x1 s = some r) : run Try.prog lib hints 44 [x0, x1] s = some r :=
  run_of hl Try.func44 (Eq.trans (by kernel_rfl) h)

theorem op_get_ok : funcOk Try.prog 44 = true := by kernel_rfl
theorem op_get_call {R : Caller} {xs : List Value} {s : St} : callV Try.prog R (.func (.func 44) #[] #[]) xs s = R 44 xs s := callV_eq op_get_ok

/-! ### sumpter/op.put: 45 -/

noncomputable def op_put (R : Caller) (x0 x1 : Value) (s : St) : Option (Value × St) :=
(lbox x1).bind fun v0 =>
(lload false 1 (.pointer (some ⟨0, 1, none⟩)) v0).bind fun v1 =>
(callV Try.prog R (.func (.func 53) #[] #[]) [x0, v1] s).bind fun r2 =>
(aextract 0 r2.1).bind fun v3 =>
(aextract 1 r2.1).bind fun v4 =>
(aun .not v4).bind fun v5 =>
condV v5
 ((lload false 1 (.pointer (some ⟨0, 1, none⟩)) v0).bind fun v6 =>
(lload false 1 (.pointer (some ⟨0, 2, none⟩)) v0).bind fun v7 =>
(abuild Try.prog 32 [(0, v6), (1, v7)]).bind fun v8 =>
(abuildSl 2 [(.string ⟨#[]⟩), (.string ⟨#[]⟩)] 1 [(0, v8)] r2.2).bind fun r9 =>
(callV Try.prog R (.func (.func 54) #[] #[]) [x0, v3, r9.1] r9.2).bind fun r10 =>
retV [r10.1, (.agg #[(.bool false), (.string ⟨#[]⟩), (.slice none 0 0)])] r10.2)
 ((lload false 1 (.pointer (some ⟨0, 2, none⟩)) v0).bind fun v11 =>
(aindexS 2 x0 v3).bind fun v12 =>
(afieldAddr 1 v12).bind fun v13 =>
(astore 1 v13 v11 r2.2).bind fun s14 =>
retV [x0, (.agg #[(.bool false), (.string ⟨#[]⟩), (.slice none 0 0)])] s14)

theorem op_put_of {lib : Lib} (hl : lib 45 = none) {x0 x1 : Value} {s : St} {r : Value × St} (h : op_put (run Try.prog lib hints) x0 x1 s = some r) : run Try.prog lib hints 45 [x0, x1] s = some r :=
  run_of hl Try.func45 (Eq.trans (by kernel_rfl) h)

theorem op_put_ok : funcOk Try.prog 45 = true := by kernel_rfl
theorem op_put_call {R : Caller} {xs : List Value} {s : St} : callV Try.prog R (.func (.func 45) #[] #[]) xs s = R 45 xs s := callV_eq op_put_ok

/-! ### sumpter/op.del: 46 -/

noncomputable def op_del.j0 (R : Caller) (T : List Value) (s : St) : Option (Value × St) :=
(lstore 3 (getL T 1) (.agg #[(.bool false), (.string ⟨#[]⟩), (.slice none 0 0)]) (getL T 2)).bind fun v8 =>
(lload true 3 (getL T 1) v8).bind fun v9 =>
retV [(getL T 0), v9] s

noncomputable def op_del (R : Caller) (x0 x1 : Value) (s : St) : Option (Value × St) :=
(lbox x1).bind fun v0 =>
(lload false 1 (.pointer (some ⟨0, 1, none⟩)) v0).bind fun v2 =>
(callV Try.prog R (.func (.func 53) #[] #[]) [x0, v2] s).bind fun r3 =>
(aextract 0 r3.1).bind fun v4 =>
(aextract 1 r3.1).bind fun v5 =>
condV v5
 ((abin Try.prog .add 3 (.tmp 18) (.const (.int .i64 1)) v4 (.int .i64 1)).bind fun v6 =>
(callV Try.prog R (.func (.func 55) #[] #[]) [x0, v4, v6] r3.2).bind fun r7 =>
joinK (op_del.j0 R) [r7.1, lptr, (.agg #[(.bool false), (.string ⟨#[]⟩), (.slice none 0 0)])] r7.2)
 (joinK (op_del.j0 R) [x0, lptr, (.agg #[(.bool false), (.string ⟨#[]⟩), (.slice none 0 0)])] r3.2)

theorem op_del_of {lib : Lib} (hl : lib 46 = none) {x0 x1 : Value} {s : St} {r : Value × St} (h : op_del (run Try.prog lib hints) x0 x1 s = some r) : run Try.prog lib hints 46 [x0, x1] s = some r :=
  run_of hl Try.func46 (Eq.trans (by kernel_rfl) h)

theorem op_del_ok : funcOk Try.prog 46 = true := by kernel_rfl
theorem op_del_call {R : Caller} {xs : List Value} {s : St} : callV Try.prog R (.func (.func 46) #[] #[]) xs s = R 46 xs s := callV_eq op_del_ok

/-! ### sumpter/op.scan: 47 -/

noncomputable def op_scan (R : Caller) (x0 x1 : Value) (s : St) : Option (Value × St) :=
(lbox x1).bind fun v0 =>
(lload true 6 lptr v0).bind fun v1 =>
(callV Try.prog R (.func (.func 37) #[] #[]) [v1] s).bind fun r2 =>
(callV Try.prog R (.func (.func 56) #[] #[]) [x0, r2.1] r2.2).bind fun r3 =>
(aextract 0 r3.1).bind fun v4 =>
(aextract 1 r3.1).bind fun v5 =>
(lload false 1 (.pointer (some ⟨0, 5, none⟩)) v0).bind fun v6 =>
(abin Try.prog .add 3 (.tmp 19) (.tmp 21) v4 v6).bind fun v7 =>
(amin2 v5 v7).bind fun v8 =>
(asliceV 2 x0 (some v4) (some v8) none).bind fun v9 =>
(callV Try.prog R (.func (.func 31) #[] #[]) [v9] r3.2).bind fun r10 =>
(abuild Try.prog 34 [(2, r10.1)]).bind fun v11 =>
(lstore 3 lptr v11 (.agg #[(.bool false), (.string ⟨#[]⟩), (.slice none 0 0)])).bind fun v12 =>
(lload true 3 lptr v12).bind fun v13 =>
retV [x0, v13] r10.2

theorem op_scan_of {lib : Lib} (hl : lib 47 = none) {x0 x1 : Value} {s : St} {r : Value × St} (h : op_scan (run Try.prog lib hints) x0 x1 s = some r) : run Try.prog lib hints 47 [x0, x1] s = some r :=
  run_of hl Try.func47 (Eq.trans (by kernel_rfl) h)

theorem op_scan_ok : funcOk Try.prog 47 = true := by kernel_rfl
theorem op_scan_call {R : Caller} {xs : List Value} {s : St} : callV Try.prog R (.func (.func 47) #[] #[]) xs s = R 47 xs s := callV_eq op_scan_ok

/-! ### sumpter/op.clear: 48 -/

noncomputable def op_clear (R : Caller) (x0 x1 : Value) (s : St) : Option (Value × St) :=
(lbox x1).bind fun v0 =>
(lload true 6 lptr v0).bind fun v1 =>
(callV Try.prog R (.func (.func 37) #[] #[]) [v1] s).bind fun r2 =>
(callV Try.prog R (.func (.func 56) #[] #[]) [x0, r2.1] r2.2).bind fun r3 =>
(aextract 0 r3.1).bind fun v4 =>
(aextract 1 r3.1).bind fun v5 =>
(callV Try.prog R (.func (.func 55) #[] #[]) [x0, v4, v5] r3.2).bind fun r6 =>
retV [r6.1, (.agg #[(.bool false), (.string ⟨#[]⟩), (.slice none 0 0)])] r6.2

theorem op_clear_of {lib : Lib} (hl : lib 48 = none) {x0 x1 : Value} {s : St} {r : Value × St} (h : op_clear (run Try.prog lib hints) x0 x1 s = some r) : run Try.prog lib hints 48 [x0, x1] s = some r :=
  run_of hl Try.func48 (Eq.trans (by kernel_rfl) h)

theorem op_clear_ok : funcOk Try.prog 48 = true := by kernel_rfl
theorem op_clear_call {R : Caller} {xs : List Value} {s : St} : callV Try.prog R (.func (.func 48) #[] #[]) xs s = R 48 xs s := callV_eq op_clear_ok

/-! ### sumpter/sumpterref04.put: 49 -/

noncomputable def ref04_put.j0 (R : Caller) (T : List Value) (s : St) : Res :=
(abin Try.prog .add 3 (.tmp 11) (.const (.int .i64 1)) (getL T 5) (.int .i64 1)).bind fun v26 =>
some (.normal, [(getL T 0), (getL T 1), (getL T 2), (getL T 3), (getL T 4), v26, (getL T 6)], s)

noncomputable def ref04_put.j1 (R : Caller) (T : List Value) (s : St) : Res :=
(afieldAddr 0 (getL T 3)).bind fun v18 =>
(lload false 1 v18 (getL T 8)).bind fun v19 =>
(afieldAddr 0 (getL T 0)).bind fun v20 =>
(lload false 1 v20 (getL T 7)).bind fun v21 =>
(abin Try.prog .neq 9 (.tmp 29) (.tmp 31) v19 v21).bind fun v22 =>
condV v22
 ((lload true 2 (getL T 3) (getL T 8)).bind fun v23 =>
(abuildSl 2 [(.string ⟨#[]⟩), (.string ⟨#[]⟩)] 1 [(0, v23)] s).bind fun r24 =>
(aappend 2 32 (getL T 1) r24.1 r24.2).bind fun r25 =>
joinK (ref04_put.j0 R) [(getL T 0), r25.1, (getL T 2), (getL T 4), (getL T 5), (getL T 6), (getL T 7)] r25.2)
 (joinK (ref04_put.j0 R) [(getL T 0), (getL T 1), (getL T 2), (getL T 4), (getL T 5), (getL T 6), (getL T 7)] s)

noncomputable def ref04_put.b0 (R : Caller) (T : List Value) (s : St) : Res :=
(abin Try.prog .lss 3 (.tmp 11) (.tmp 10) (getL T 5) (getL T 4)).bind fun v2 =>
condV v2
 ((aindexS 2 (getL T 3) (getL T 5)).bind fun v4 =>
(aload true 2 v4 s).bind fun v5 =>
(lstore 2 lptr v5 (.agg #[(.string ⟨#[]⟩), (.string ⟨#[]⟩)])).bind fun v6 =>
(aun .not (getL T 2)).bind fun v8 =>
(guardV v8 true ((lload false 1 lptr v6).bind fun v9 =>
(afieldAddr 0 (getL T 0)).bind fun v10 =>
(lload false 1 v10 (getL T 6)).bind fun v11 =>
(abin Try.prog .geq 9 (.tmp 19) (.tmp 21) v9 v11).bind fun v12 =>
some ([v12], s)) (some ([undef], s))).bind fun q13 =>
(apick v8 (getL q13.1 0) (.bool false)).bind fun v14 =>
condV v14
 ((lload true 2 (getL T 0) (getL T 6)).bind fun v15 =>
(abuildSl 2 [(.string ⟨#[]⟩), (.string ⟨#[]⟩)] 1 [(0, v15)] q13.2).bind fun r16 =>
(aappend 2 32 (getL T 1) r16.1 r16.2).bind fun r17 =>
joinK (ref04_put.j1 R) [(getL T 0), r17.1, (.bool true), lptr, (getL T 3), (getL T 4), (getL T 5), (getL T 6), v6] r17.2)
 (joinK (ref04_put.j1 R) [(getL T 0), (getL T 1), (getL T 2), lptr, (getL T 3), (getL T 4), (getL T 5), (getL T 6), v6] q13.2))
 (some (.exit 0, [(getL T 0), (getL T 1), (getL T 2), (getL T 6)], s))

noncomputable def ref04_put.j2 (R : Caller) (T : List Value) (s : St) : Option (Value × St) :=
retV [(getL T 0)] s

noncomputable def ref04_put (R : Caller) (x0 x1 : Value) (s : St) : Option (Value × St) :=
(lbox x1).bind fun v0 =>
(alenV (.slice 32) x0 s).bind fun v1 =>
(loopL (ref04_put.b0 R) [lptr, (.slice none 0 0), (.bool false), x0, v1, (.int .i64 0), v0] s).bind fun r27 =>
exV r27.1 [(0, (aun .not (getL r27.2.1 2)).bind fun v29 =>
condV v29
 ((lload true 2 (getL r27.2.1 0) (getL r27.2.1 3)).bind fun v30 =>
(abuildSl 2 [(.string ⟨#[]⟩), (.string ⟨#[]⟩)] 1 [(0, v30)] r27.2.2).bind fun r31 =>
(aappend 2 32 (getL r27.2.1 1) r31.1 r31.2).bind fun r32 =>
joinK (ref04_put.j2 R) [r32.1] r32.2)
 (joinK (ref04_put.j2 R) [(getL r27.2.1 1)] r27.2.2))]
 (none)

theorem ref04_put_of {lib : Lib} (hl : lib 49 = none) {x0 x1 : Value} {s : St} {r : Value × St} (h : ref04_put (run Try.prog lib hints) x0 x1 s = some r) : run Try.prog lib hints 49 [x0, x1] s = some r :=
  run_of hl Try.func49 (Eq.trans (by kernel_rfl) h)

theorem ref04_put_ok : funcOk Try.prog 49 = true := by kernel_rfl
theorem ref04_put_call {R : Caller} {xs : List Value} {s : St} : callV Try.prog R (.func (.func 49) #[] #[]) xs s = R 49 xs s := callV_eq ref04_put_ok

/-! ### sumpter/sumpterref04.without: 50 -/

noncomputable def ref04_without.j0 (R : Caller) (T : List Value) (s : St) : Res :=
(abin Try.prog .add 3 (.tmp 10) (.const (.int .i64 1)) (getL T 4) (.int .i64 1)).bind fun v14 =>
some (.normal, [(getL T 0), (getL T 1), (getL T 2), (getL T 3), v14, (getL T 5)], s)

noncomputable def ref04_without.b0 (R : Caller) (T : List Value) (s : St) : Res :=
(abin Try.prog .lss 3 (.tmp 10) (.tmp 9) (getL T 4) (getL T 3)).bind fun v2 =>
condV v2
 ((aindexS 2 (getL T 2) (getL T 4)).bind fun v4 =>
(aload true 2 v4 s).bind fun v5 =>
(lstore 2 lptr v5 (.agg #[(.string ⟨#[]⟩), (.string ⟨#[]⟩)])).bind fun v6 =>
(lload true 2 (getL T 0) (getL T 5)).bind fun v7 =>
(lload false 1 lptr v6).bind fun v8 =>
(callV Try.prog R (.func (.func 57) #[] #[]) [v7, v8] s).bind fun r9 =>
(aun .not r9.1).bind fun v10 =>
condV v10
 ((lload true 2 lptr v6).bind fun v11 =>
(abuildSl 2 [(.string ⟨#[]⟩), (.string ⟨#[]⟩)] 1 [(0, v11)] r9.2).bind fun r12 =>
(aappend 2 32 (getL T 1) r12.1 r12.2).bind fun r13 =>
joinK (ref04_without.j0 R) [(getL T 0), r13.1, (getL T 2), (getL T 3), (getL T 4), (getL T 5)] r13.2)
 (joinK (ref04_without.j0 R) [(getL T 0), (getL T 1), (getL T 2), (getL T 3), (getL T 4), (getL T 5)] r9.2))
 (some (.exit 0, [(getL T 1)], s))

noncomputable def ref04_without (R : Caller) (x0 x1 : Value) (s : St) : Option (Value × St) :=
(lbox x1).bind fun v0 =>
(alenV (.slice 32) x0 s).bind fun v1 =>
(loopL (ref04_without.b0 R) [lptr, (.slice none 0 0), x0, v1, (.int .i64 0), v0] s).bind fun r15 =>
exV r15.1 [(0, retV [(getL r15.2.1 0)] r15.2.2)]
 (none)

theorem ref04_without_of {lib : Lib} (hl : lib 50 = none) {x0 x1 : Value} {s : St} {r : Value × St} (h : ref04_without (run Try.prog lib hints) x0 x1 s = some r) : run Try.prog lib hints 50 [x0, x1] s = some r :=
  run_of hl Try.func50 (Eq.trans (by kernel_rfl) h)

theorem ref04_without_ok : funcOk Try.prog 50 = true := by kernel_rfl
theorem ref04_without_call {R : Caller} {xs : List Value} {s : St} : callV Try.prog R (.func (.func 50) #[] #[]) xs s = R 50 xs s := callV_eq ref04_without_ok

/-! ### sumpter/sumpterref04.Within: 51 -/

noncomputable def ref04_Within.j0 (R : Caller) (T : List Value) (s : St) : Res :=
(abin Try.prog .add 3 (.tmp 12) (.const (.int .i64 1)) (getL T 5) (.int .i64 1)).bind fun v21 =>
some (.normal, [(getL T 0), (getL T 1), (getL T 2), (getL T 3), (getL T 4), v21, (getL T 6)], s)

noncomputable def ref04_Within.b0 (R : Caller) (T : List Value) (s : St) : Res :=
(abin Try.prog .lss 3 (.tmp 12) (.tmp 11) (getL T 5) (getL T 4)).bind fun v2 =>
condV v2
 ((aindexS 2 (getL T 3) (getL T 5)).bind fun v4 =>
(aload true 2 v4 s).bind fun v5 =>
(lstore 2 lptr v5 (.agg #[(.string ⟨#[]⟩), (.string ⟨#[]⟩)])).bind fun v6 =>
(lload true 2 (getL T 1) (getL T 6)).bind fun v7 =>
(lload false 1 lptr v6).bind fun v8 =>
(callV Try.prog R (.func (.func 57) #[] #[]) [v7, v8] s).bind fun r9 =>
(guardV r9.1 true ((abin Try.prog .lss 3 (.tmp 21) (.const (.int .i64 0)) (getL T 0) (.int .i64 0)).bind fun v10 =>
some ([v10], r9.2)) (some ([undef], r9.2))).bind fun q11 =>
(guardV (getL q11.1 0) false ((alenV (.slice 32) (getL T 2) q11.2).bind fun v12 =>
(abin Try.prog .lss 3 (.tmp 25) (.tmp 26) v12 (getL T 0)).bind fun v13 =>
some ([v13], q11.2)) (some ([undef], q11.2))).bind fun q14 =>
(guardV r9.1 true ((apick (getL q11.1 0) (.bool true) (getL q14.1 0)).bind fun v15 =>
some ([v15], q14.2)) (some ([undef], q14.2))).bind fun q16 =>
(apick r9.1 (getL q16.1 0) (.bool false)).bind fun v17 =>
condV v17
 ((lload true 2 lptr v6).bind fun v18 =>
(abuildSl 2 [(.string ⟨#[]⟩), (.string ⟨#[]⟩)] 1 [(0, v18)] q16.2).bind fun r19 =>
(aappend 2 32 (getL T 2) r19.1 r19.2).bind fun r20 =>
joinK (ref04_Within.j0 R) [(getL T 0), (getL T 1), r20.1, (getL T 3), (getL T 4), (getL T 5), (getL T 6)] r20.2)
 (joinK (ref04_Within.j0 R) [(getL T 0), (getL T 1), (getL T 2), (getL T 3), (getL T 4), (getL T 5), (getL T 6)] q16.2))
 (some (.exit 0, [(getL T 2)], s))

noncomputable def ref04_Within (R : Caller) (x0 x1 x2 : Value) (s : St) : Option (Value × St) :=
(lbox x1).bind fun v0 =>
(alenV (.slice 32) x0 s).bind fun v1 =>
(loopL (ref04_Within.b0 R) [x2, lptr, (.slice none 0 0), x0, v1, (.int .i64 0), v0] s).bind fun r22 =>
exV r22.1 [(0, retV [(getL r22.2.1 0)] r22.2.2)]
 (none)

theorem ref04_Within_of {lib : Lib} (hl : lib 51 = none) {x0 x1 x2 : Value} {s : St} {r : Value × St} (h : ref04_Within (run Try.prog lib hints) x0 x1 x2 s = some r) : run Try.prog lib hints 51 [x0, x1, x2] s = some r :=
  run_of hl Try.func51 (Eq.trans (by kernel_rfl) h)

theorem ref04_Within_ok : funcOk Try.prog 51 = true := by kernel_rfl
theorem ref04_Within_call {R : Caller} {xs : List Value} {s : St} : callV Try.prog R (.func (.func 51) #[] #[]) xs s = R 51 xs s := callV_eq ref04_Within_ok

/-! ### sumpter/span.all: 52 -/

noncomputable def span_all (R : Caller) (s : St) : Option (Value × St) :=
retV [(.agg #[(.string ⟨#[]⟩), (.string ⟨#[]⟩)])] s

theorem span_all_of {lib : Lib} (hl : lib 52 = none) {s : St} {r : Value × St} (h : span_all (run Try.prog lib hints)  s = some r) : run Try.prog lib hints 52 [] s = some r :=
  run_of hl Try.func52 (Eq.trans (by kernel_rfl) h)

theorem span_all_ok : funcOk Try.prog 52 = true := by kernel_rfl
theorem span_all_call {R : Caller} {xs : List Value} {s : St} : callV Try.prog R (.func (.func 52) #[] #[]) xs s = R 52 xs s := callV_eq span_all_ok

/-! ### sumpter/op.at: 53 -/

noncomputable def op_at (R : Caller) (x0 x1 : Value) (s : St) : Option (Value × St) :=
(callV Try.prog R (.func (.func 58) #[] #[]) [x0, x1, (.func (.func 59) #[] #[])] s).bind fun r0 =>
(aextract 0 r0.1).bind fun v1 =>
(aextract 1 r0.1).bind fun v2 =>
retV [v1, v2] r0.2

theorem op_at_of {lib : Lib} (hl : lib 53 = none) {x0 x1 : Value} {s : St} {r : Value × St} (h : op_at (run Try.prog lib hints) x0 x1 s = some r) : run Try.prog lib hints 53 [x0, x1] s = some r :=
  run_of hl Try.func53 (Eq.trans (by kernel_rfl) h)

theorem op_at_ok : funcOk Try.prog 53 = true := by kernel_rfl
theorem op_at_call {R : Caller} {xs : List Value} {s : St} : callV Try.prog R (.func (.func 53) #[] #[]) xs s = R 53 xs s := callV_eq op_at_ok

/-! ### slices.Insert[[]sumpter/api.Pair,sumpter/api.Pair]: 54 -/

noncomputable def slices_Insert_api_Pair_api_Pair (R : Caller) (x0 x1 x2 : Value) (s : St) : Option (Value × St) :=
(asliceV 2 x0 (some x1) none none).bind fun v0 =>
(alenV (.slice 32) x2 s).bind fun v1 =>
(abin Try.prog .eql 3 (.tmp 15) (.const (.int .i64 0)) v1 (.int .i64 0)).bind fun v2 =>
condV v2
 (retV [x0] s)
 ((alenV (.slice 32) x0 s).bind fun v3 =>
(abin Try.prog .eql 3 (.tmp 20) (.tmp 21) x1 v3).bind fun v4 =>
condV v4
 ((aappend 2 32 x0 x2 s).bind fun r5 =>
retV [r5.1] r5.2)
 ((abin Try.prog .add 3 (.tmp 26) (.tmp 27) v3 v1).bind fun v6 =>
(acap x0).bind fun v7 =>
(abin Try.prog .gtr 3 (.tmp 28) (.tmp 30) v6 v7).bind fun v8 =>
condV v8
 ((asliceV 2 x0 none (some x1) none).bind fun v9 =>
(abin Try.prog .add 3 (.tmp 35) (.tmp 36) v3 v1).bind fun v10 =>
(abin Try.prog .sub 3 (.tmp 37) (.tmp 38) v10 x1).bind fun v11 =>
(aappendZ 2 32 [(.string ⟨#[]⟩), (.string ⟨#[]⟩)] v9 v11 s).bind fun r12 =>
(asliceV 2 r12.1 (some x1) none none).bind fun v13 =>
(acopy 2 v13 x2 r12.2).bind fun r14 =>
(abin Try.prog .add 3 (.tmp 47) (.tmp 48) x1 v1).bind fun v15 =>
(asliceV 2 r12.1 (some v15) none none).bind fun v16 =>
(asliceV 2 x0 (some x1) none none).bind fun v17 =>
(((acopy 2 v16 v17 r14.2).bind fun r19 =>
some (r19.1, r19.2)).bind (ownR r14.2)).bind fun r18 =>
retV [r12.1] r18.2)
 ((abin Try.prog .add 3 (.tmp 57) (.tmp 58) v3 v1).bind fun v20 =>
(asliceV 2 x0 none (some v20) none).bind fun v21 =>
(abin Try.prog .add 3 (.tmp 63) (.tmp 64) x1 v1).bind fun v22 =>
(asliceV 2 v21 (some v22) none none).bind fun v23 =>
(callV Try.prog R (.func (.func 61) #[] #[]) [x2, v23] s).bind fun r24 =>
(aun .not r24.1).bind fun v25 =>
condV v25
 ((abin Try.prog .add 3 (.tmp 70) (.tmp 71) x1 v1).bind fun v26 =>
(asliceV 2 v21 (some v26) none none).bind fun v27 =>
(asliceV 2 v21 (some x1) none none).bind fun v28 =>
(((acopy 2 v27 v28 r24.2).bind fun r32 =>
some (r32.1, r32.2)).bind (ownR r24.2)).bind fun r29 =>
(asliceV 2 v21 (some x1) none none).bind fun v30 =>
(acopy 2 v30 x2 r29.2).bind fun r31 =>
retV [v21] r31.2)
 ((asliceV 2 v21 (some v3) none none).bind fun v33 =>
(acopy 2 v33 x2 r24.2).bind fun r34 =>
(asliceV 2 v21 (some x1) none none).bind fun v35 =>
(callV Try.prog R (.func (.func 62) #[] #[]) [v35, v1] r34.2).bind fun r36 =>
retV [v21] r36.2))))

theorem slices_Insert_api_Pair_api_Pair_of {lib : Lib} (hl : lib 54 = none) {x0 x1 x2 : Value} {s : St} {r : Value × St} (h : slices_Insert_api_Pair_api_Pair (run Try.prog lib hints) x0 x1 x2 s = some r) : run Try.prog lib hints 54 [x0, x1, x2] s = some r :=
  run_of hl Try.func54 (Eq.trans (by kernel_rfl) h)

theorem slices_Insert_api_Pair_api_Pair_ok : funcOk Try.prog 54 = true := by kernel_rfl
theorem slices_Insert_api_Pair_api_Pair_call {R : Caller} {xs : List Value} {s : St} : callV Try.prog R (.func (.func 54) #[] #[]) xs s = R 54 xs s := callV_eq slices_Insert_api_Pair_api_Pair_ok

/-! ### slices.Delete[[]sumpter/api.Pair,sumpter/api.Pair]: 55 -/

noncomputable def slices_Delete_api_Pair_api_Pair (R : Caller) (x0 x1 x2 : Value) (s : St) : Option (Value × St) :=
(alenV (.slice 32) x0 s).bind fun v0 =>
(asliceV 2 x0 (some x1) (some x2) (some v0)).bind fun v1 =>
(abin Try.prog .eql 3 (.tmp 14) (.tmp 15) x1 x2).bind fun v2 =>
condV v2
 (retV [x0] s)
 ((alenV (.slice 32) x0 s).bind fun v3 =>
(asliceV 2 x0 none (some x1) none).bind fun v4 =>
(asliceV 2 x0 (some x2) none none).bind fun v5 =>
(((aappend 2 32 v4 v5 s).bind fun r10 =>
some (r10.1, r10.2)).bind (ownR s)).bind fun r6 =>
(alenV (.slice 32) r6.1 r6.2).bind fun v7 =>
(asliceV 2 r6.1 (some v7) (some v3) none).bind fun v8 =>
(aclear 2 [(.string ⟨#[]⟩), (.string ⟨#[]⟩)] v8 r6.2).bind fun s9 =>
retV [r6.1] s9)

theorem slices_Delete_api_Pair_api_Pair_of {lib : Lib} (hl : lib 55 = none) {x0 x1 x2 : Value} {s : St} {r : Value × St} (h : slices_Delete_api_Pair_api_Pair (run Try.prog lib hints) x0 x1 x2 s = some r) : run Try.prog lib hints 55 [x0, x1, x2] s = some r :=
  run_of hl Try.func55 (Eq.trans (by kernel_rfl) h)

theorem slices_Delete_api_Pair_api_Pair_ok : funcOk Try.prog 55 = true := by kernel_rfl
theorem slices_Delete_api_Pair_api_Pair_call {R : Caller} {xs : List Value} {s : St} : callV Try.prog R (.func (.func 55) #[] #[]) xs s = R 55 xs s := callV_eq slices_Delete_api_Pair_api_Pair_ok

/-! ### sumpter/op.ends: 56 -/

noncomputable def op_ends.j0 (R : Caller) (T : List Value) (s : St) : Option (Value × St) :=
retV [(getL T 0), (getL T 1)] s

noncomputable def op_ends (R : Caller) (x0 x1 : Value) (s : St) : Option (Value × St) :=
(lbox x1).bind fun v0 =>
(lload false 1 lptr v0).bind fun v1 =>
(callV Try.prog R (.func (.func 53) #[] #[]) [x0, v1] s).bind fun r2 =>
(aextract 0 r2.1).bind fun v3 =>
(aextract 1 r2.1).bind fun v4 =>
(alenV (.slice 32) x0 r2.2).bind fun v5 =>
(lload false 1 (.pointer (some ⟨0, 1, none⟩)) v0).bind fun v7 =>
(abin Try.prog .neq 9 (.tmp 19) (.const (.string ⟨#[]⟩)) v7 (.string ⟨#[]⟩)).bind fun v8 =>
condV v8
 ((lload false 1 (.pointer (some ⟨0, 1, none⟩)) v0).bind fun v9 =>
(callV Try.prog R (.func (.func 53) #[] #[]) [x0, v9] r2.2).bind fun r10 =>
(aextract 0 r10.1).bind fun v11 =>
(aextract 1 r10.1).bind fun v12 =>
joinK (op_ends.j0 R) [v3, v11] r10.2)
 (joinK (op_ends.j0 R) [v3, v5] r2.2)

theorem op_ends_of {lib : Lib} (hl : lib 56 = none) {x0 x1 : Value} {s : St} {r : Value × St} (h : op_ends (run Try.prog lib hints) x0 x1 s = some r) : run Try.prog lib hints 56 [x0, x1] s = some r :=
  run_of hl Try.func56 (Eq.trans (by kernel_rfl) h)

theorem op_ends_ok : funcOk Try.prog 56 = true := by kernel_rfl
theorem op_ends_call {R : Caller} {xs : List Value} {s : St} : callV Try.prog R (.func (.func 56) #[] #[]) xs s = R 56 xs s := callV_eq op_ends_ok

/-! ### sumpter/sumpterref02.Has: 57 -/

noncomputable def ref02_Has (R : Caller) (x0 x1 : Value) (s : St) : Option (Value × St) :=
(lbox x0).bind fun v0 =>
(lload true 2 lptr v0).bind fun v1 =>
(callV Try.prog R (.func (.func 43) #[] #[]) [v1] s).bind fun r2 =>
(abin Try.prog .eql 26 (.tmp 6) (.const (.int .i64 0)) r2.1 (.int .i64 0)).bind fun v3 =>
(guardV v3 true ((callV Try.prog R (.func (.func 42) #[] #[]) [x1] r2.2).bind fun r4 =>
(abin Try.prog .eql 26 (.tmp 10) (.const (.int .i64 0)) r4.1 (.int .i64 0)).bind fun v5 =>
some ([v5], r4.2)) (some ([undef], r2.2))).bind fun q6 =>
(apick v3 (getL q6.1 0) (.bool false)).bind fun v7 =>
(guardV v7 true ((lload false 1 lptr v0).bind fun v8 =>
(abin Try.prog .geq 9 (.tmp 14) (.tmp 16) x1 v8).bind fun v9 =>
some ([v9], q6.2)) (some ([undef], q6.2))).bind fun q10 =>
(apick v7 (getL q10.1 0) (.bool false)).bind fun v11 =>
(guardV v11 true ((lload false 1 (.pointer (some ⟨0, 1, none⟩)) v0).bind fun v12 =>
(abin Try.prog .eql 9 (.tmp 21) (.const (.string ⟨#[]⟩)) v12 (.string ⟨#[]⟩)).bind fun v13 =>
some ([v13], q10.2)) (some ([undef], q10.2))).bind fun q14 =>
(guardV (getL q14.1 0) false ((lload false 1 (.pointer (some ⟨0, 1, none⟩)) v0).bind fun v15 =>
(abin Try.prog .lss 9 (.tmp 24) (.tmp 26) x1 v15).bind fun v16 =>
some ([v16], q14.2)) (some ([undef], q14.2))).bind fun q17 =>
(guardV v11 true ((apick (getL q14.1 0) (.bool true) (getL q17.1 0)).bind fun v18 =>
some ([v18], q17.2)) (some ([undef], q17.2))).bind fun q19 =>
(apick v11 (getL q19.1 0) (.bool false)).bind fun v20 =>
retV [v20] q19.2

theorem ref02_Has_of {lib : Lib} (hl : lib 57 = none) {x0 x1 : Value} {s : St} {r : Value × St} (h : ref02_Has (run Try.prog lib hints) x0 x1 s = some r) : run Try.prog lib hints 57 [x0, x1] s = some r :=
  run_of hl Try.func57 (Eq.trans (by kernel_rfl) h)

theorem ref02_Has_ok : funcOk Try.prog 57 = true := by kernel_rfl
theorem ref02_Has_call {R : Caller} {xs : List Value} {s : St} : callV Try.prog R (.func (.func 57) #[] #[]) xs s = R 57 xs s := callV_eq ref02_Has_ok

/-! ### slices.BinarySearchFunc[[]sumpter/api.Pair,sumpter/api.Pair,string]: 58 -/

noncomputable def slices_BinarySearchFunc_api_Pair_api_Pair_string.b0 (R : Caller) (T : List Value) (s : St) : Res :=
(abin Try.prog .lss 3 (.tmp 15) (.tmp 16) (getL T 4) (getL T 5)).bind fun v1 =>
condV v1
 ((abin Try.prog .add 3 (.tmp 18) (.tmp 19) (getL T 4) (getL T 5)).bind fun v2 =>
(convInt .u64 v2).bind fun v3 =>
(abin Try.prog .shr 90 (.tmp 21) (.const (.int .u64 1)) v3 (.int .u64 1)).bind fun v4 =>
(convInt .i64 v4).bind fun v5 =>
(aindexS 2 (getL T 0) v5).bind fun v6 =>
(aload true 2 v6 s).bind fun v7 =>
(callV Try.prog R (getL T 2) [v7, (getL T 1)] s).bind fun r8 =>
(abin Try.prog .lss 3 (.tmp 30) (.const (.int .i64 0)) r8.1 (.int .i64 0)).bind fun v9 =>
condV v9
 ((abin Try.prog .add 3 (.tmp 32) (.const (.int .i64 1)) v5 (.int .i64 1)).bind fun v10 =>
some (.normal, [(getL T 0), (getL T 1), (getL T 2), (getL T 3), v10, (getL T 5)], r8.2))
 (some (.normal, [(getL T 0), (getL T 1), (getL T 2), (getL T 3), (getL T 4), v5], r8.2)))
 (some (.exit 0, [(getL T 0), (getL T 1), (getL T 2), (getL T 3), (getL T 4)], s))

noncomputable def slices_BinarySearchFunc_api_Pair_api_Pair_string (R : Caller) (x0 x1 x2 : Value) (s : St) : Option (Value × St) :=
(alenV (.slice 32) x0 s).bind fun v0 =>
(loopL (slices_BinarySearchFunc_api_Pair_api_Pair_string.b0 R) [x0, x1, x2, v0, (.int .i64 0), v0] s).bind fun r11 =>
exV r11.1 [(0, (abin Try.prog .lss 3 (.tmp 36) (.tmp 37) (getL r11.2.1 4) (getL r11.2.1 3)).bind fun v12 =>
(guardV v12 true ((aindexS 2 (getL r11.2.1 0) (getL r11.2.1 4)).bind fun v13 =>
(aload true 2 v13 r11.2.2).bind fun v14 =>
(callV Try.prog R (getL r11.2.1 2) [v14, (getL r11.2.1 1)] r11.2.2).bind fun r15 =>
(abin Try.prog .eql 3 (.tmp 46) (.const (.int .i64 0)) r15.1 (.int .i64 0)).bind fun v16 =>
some ([v16], r15.2)) (some ([undef], r11.2.2))).bind fun q17 =>
(apick v12 (getL q17.1 0) (.bool false)).bind fun v18 =>
retV [(getL r11.2.1 4), v18] q17.2)]
 (none)

theorem slices_BinarySearchFunc_api_Pair_api_Pair_string_of {lib : Lib} (hl : lib 58 = none) {x0 x1 x2 : Value} {s : St} {r : Value × St} (h : slices_BinarySearchFunc_api_Pair_api_Pair_string (run Try.prog lib hints) x0 x1 x2 s = some r) : run Try.prog lib hints 58 [x0, x1, x2] s = some r :=
  run_of hl Try.func58 (Eq.trans (by kernel_rfl) h)

theorem slices_BinarySearchFunc_api_Pair_api_Pair_string_ok : funcOk Try.prog 58 = true := by kernel_rfl
theorem slices_BinarySearchFunc_api_Pair_api_Pair_string_call {R : Caller} {xs : List Value} {s : St} : callV Try.prog R (.func (.func 58) #[] #[]) xs s = R 58 xs s := callV_eq slices_BinarySearchFunc_api_Pair_api_Pair_string_ok

/-! ### sumpter/op.at$1: 59 -/

noncomputable def op_at_1 (R : Caller) (x0 x1 : Value) (s : St) : Option (Value × St) :=
(lbox x0).bind fun v0 =>
(lload false 1 lptr v0).bind fun v1 =>
(callV Try.prog R (.func (.func 60) #[] #[]) [v1, x1] s).bind fun r2 =>
retV [r2.1] r2.2

theorem op_at_1_of {lib : Lib} (hl : lib 59 = none) {x0 x1 : Value} {s : St} {r : Value × St} (h : op_at_1 (run Try.prog lib hints) x0 x1 s = some r) : run Try.prog lib hints 59 [x0, x1] s = some r :=
  run_of hl Try.func59 (Eq.trans (by kernel_rfl) h)

theorem op_at_1_ok : funcOk Try.prog 59 = true := by kernel_rfl
theorem op_at_1_call {R : Caller} {xs : List Value} {s : St} : callV Try.prog R (.func (.func 59) #[] #[]) xs s = R 59 xs s := callV_eq op_at_1_ok

/-! ### strings.Compare: 60 -/

noncomputable def strings_Compare (R : Caller) (x0 x1 : Value) (s : St) : Option (Value × St) :=
(callV Try.prog R (.func (.func 63) #[] #[]) [x0, x1] s).bind fun r0 =>
retV [r0.1] r0.2

theorem strings_Compare_of {lib : Lib} (hl : lib 60 = none) {x0 x1 : Value} {s : St} {r : Value × St} (h : strings_Compare (run Try.prog lib hints) x0 x1 s = some r) : run Try.prog lib hints 60 [x0, x1] s = some r :=
  run_of hl Try.func60 (Eq.trans (by kernel_rfl) h)

theorem strings_Compare_ok : funcOk Try.prog 60 = true := by kernel_rfl
theorem strings_Compare_call {R : Caller} {xs : List Value} {s : St} : callV Try.prog R (.func (.func 60) #[] #[]) xs s = R 60 xs s := callV_eq strings_Compare_ok

/-! ### slices.rotateRight[sumpter/api.Pair]: 62 -/

noncomputable def slices_rotateRight_api_Pair (R : Caller) (x0 x1 : Value) (s : St) : Option (Value × St) :=
(alenV (.slice 32) x0 s).bind fun v0 =>
(abin Try.prog .sub 3 (.tmp 6) (.tmp 7) v0 x1).bind fun v1 =>
(callV Try.prog R (.func (.func 64) #[] #[]) [x0, v1] s).bind fun r2 =>
retV [] r2.2

theorem slices_rotateRight_api_Pair_of {lib : Lib} (hl : lib 62 = none) {x0 x1 : Value} {s : St} {r : Value × St} (h : slices_rotateRight_api_Pair (run Try.prog lib hints) x0 x1 s = some r) : run Try.prog lib hints 62 [x0, x1] s = some r :=
  run_of hl Try.func62 (Eq.trans (by kernel_rfl) h)

theorem slices_rotateRight_api_Pair_ok : funcOk Try.prog 62 = true := by kernel_rfl
theorem slices_rotateRight_api_Pair_call {R : Caller} {xs : List Value} {s : St} : callV Try.prog R (.func (.func 62) #[] #[]) xs s = R 62 xs s := callV_eq slices_rotateRight_api_Pair_ok

/-! ### internal/bytealg.CompareString: 63 -/

noncomputable def internal_bytealg_CompareString (R : Caller) (x0 x1 : Value) (s : St) : Option (Value × St) :=
(callV Try.prog R (.func (.func 65) #[] #[]) [x0, x1] s).bind fun r0 =>
retV [r0.1] r0.2

theorem internal_bytealg_CompareString_of {lib : Lib} (hl : lib 63 = none) {x0 x1 : Value} {s : St} {r : Value × St} (h : internal_bytealg_CompareString (run Try.prog lib hints) x0 x1 s = some r) : run Try.prog lib hints 63 [x0, x1] s = some r :=
  run_of hl Try.func63 (Eq.trans (by kernel_rfl) h)

theorem internal_bytealg_CompareString_ok : funcOk Try.prog 63 = true := by kernel_rfl
theorem internal_bytealg_CompareString_call {R : Caller} {xs : List Value} {s : St} : callV Try.prog R (.func (.func 63) #[] #[]) xs s = R 63 xs s := callV_eq internal_bytealg_CompareString_ok

/-! ### slices.rotateLeft[sumpter/api.Pair]: 64 -/

noncomputable def slices_rotateLeft_api_Pair (R : Caller) (x0 x1 : Value) (s : St) : Option (Value × St) :=
(asliceV 2 x0 none (some x1) none).bind fun v0 =>
(callV Try.prog R (.func (.func 66) #[] #[]) [v0] s).bind fun r1 =>
(asliceV 2 x0 (some x1) none none).bind fun v2 =>
(callV Try.prog R (.func (.func 66) #[] #[]) [v2] r1.2).bind fun r3 =>
(callV Try.prog R (.func (.func 66) #[] #[]) [x0] r3.2).bind fun r4 =>
retV [] r4.2

theorem slices_rotateLeft_api_Pair_of {lib : Lib} (hl : lib 64 = none) {x0 x1 : Value} {s : St} {r : Value × St} (h : slices_rotateLeft_api_Pair (run Try.prog lib hints) x0 x1 s = some r) : run Try.prog lib hints 64 [x0, x1] s = some r :=
  run_of hl Try.func64 (Eq.trans (by kernel_rfl) h)

theorem slices_rotateLeft_api_Pair_ok : funcOk Try.prog 64 = true := by kernel_rfl
theorem slices_rotateLeft_api_Pair_call {R : Caller} {xs : List Value} {s : St} : callV Try.prog R (.func (.func 64) #[] #[]) xs s = R 64 xs s := callV_eq slices_rotateLeft_api_Pair_ok

/-! ### slices.Reverse[[]sumpter/api.Pair,sumpter/api.Pair]: 66 -/

noncomputable def slices_Reverse_api_Pair_api_Pair.b0 (R : Caller) (T : List Value) (s : St) : Res :=
(abin Try.prog .lss 3 (.tmp 7) (.tmp 8) (getL T 1) (getL T 2)).bind fun v2 =>
condV v2
 ((aindexS 2 (getL T 0) (getL T 2)).bind fun v3 =>
((aload true 2 v3 (frzS s)).bind fun v16 =>
some (v16, (frzS s))).bind fun r4 =>
(aindexS 2 (getL T 0) (getL T 1)).bind fun v5 =>
((aload true 2 v5 (frzS s)).bind fun v15 =>
some (v15, (frzS s))).bind fun r6 =>
(aindexS 2 (getL T 0) (getL T 1)).bind fun v7 =>
(((astore 2 v7 r4.1 s).bind fun s14 =>
some (undef, s14)).bind (ownR s)).bind fun r8 =>
(aindexS 2 (getL T 0) (getL T 2)).bind fun v9 =>
(((astore 2 v9 r6.1 r8.2).bind fun s13 =>
some (undef, s13)).bind (ownR r8.2)).bind fun r10 =>
(abin Try.prog .add 3 (.tmp 10) (.const (.int .i64 1)) (getL T 1) (.int .i64 1)).bind fun v11 =>
(abin Try.prog .sub 3 (.tmp 12) (.const (.int .i64 1)) (getL T 2) (.int .i64 1)).bind fun v12 =>
some (.normal, [(getL T 0), v11, v12], r10.2))
 (some (.exit 0, [], s))

noncomputable def slices_Reverse_api_Pair_api_Pair (R : Caller) (x0 : Value) (s : St) : Option (Value × St) :=
(alenV (.slice 32) x0 s).bind fun v0 =>
(abin Try.prog .sub 3 (.tmp 5) (.const (.int .i64 1)) v0 (.int .i64 1)).bind fun v1 =>
(loopL (slices_Reverse_api_Pair_api_Pair.b0 R) [x0, (.int .i64 0), v1] s).bind fun r17 =>
exV r17.1 [(0, retV [] r17.2.2)]
 (none)

theorem slices_Reverse_api_Pair_api_Pair_of {lib : Lib} (hl : lib 66 = none) {x0 : Value} {s : St} {r : Value × St} (h : slices_Reverse_api_Pair_api_Pair (run Try.prog lib hints) x0 s = some r) : run Try.prog lib hints 66 [x0] s = some r :=
  run_of hl Try.func66 (Eq.trans (by kernel_rfl) h)

theorem slices_Reverse_api_Pair_api_Pair_ok : funcOk Try.prog 66 = true := by kernel_rfl
theorem slices_Reverse_api_Pair_api_Pair_call {R : Caller} {xs : List Value} {s : St} : callV Try.prog R (.func (.func 66) #[] #[]) xs s = R 66 xs s := callV_eq slices_Reverse_api_Pair_api_Pair_ok


end Go.Proofs.Ytdhadhelcpeiaaa.Ab
