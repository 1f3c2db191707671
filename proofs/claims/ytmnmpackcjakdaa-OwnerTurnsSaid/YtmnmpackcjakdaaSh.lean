/- The program's functions, as the abstract machine runs them: printed. -/
import Derived.Test.YtmnmpackcjakdaaLib0
namespace Go.Proofs.Ytmnmpackcjakdaa.Ab
open Go
set_option maxRecDepth 100000
set_option linter.unusedVariables false

def hints : Hints := fun f => hintL f [(2, []), (3, []), (4, [(9, 84), (16, 85), (18, 86)]), (5, [(14, 111)]), (6, [(16, 122), (108, 122)]), (7, [(10, 86), (25, 86), (27, 86), (29, 86)]), (9, []), (10, []), (11, []), (12, []), (13, []), (14, []), (15, []), (16, []), (17, [(4, 25)]), (18, [(4, 25)]), (19, [(4, 57), (27, 57), (31, 57), (39, 57), (50, 57)]), (20, [(4, 57), (27, 57), (31, 57), (39, 57), (50, 57)]), (21, [(5, 31)]), (22, [(5, 36), (8, 37), (24, 37)]), (23, [(1, 28), (8, 28), (13, 28), (18, 28), (22, 28), (24, 28)]), (24, [(2, 30), (14, 30), (20, 30), (25, 30)]), (25, []), (26, [(9, 165), (15, 166), (17, 167), (31, 165), (34, 165), (39, 165), (50, 165), (98, 166), (110, 166), (112, 166), (114, 166), (131, 167), (140, 167)]), (27, [(9, 156), (14, 157), (15, 158), (18, 159), (21, 160), (23, 161), (36, 156), (39, 156), (44, 156), (54, 156), (86, 159), (104, 157), (107, 160), (114, 158), (118, 158), (121, 160), (123, 160), (125, 160), (131, 157), (135, 158), (138, 157), (143, 158), (145, 157), (149, 158)]), (28, []), (29, [(10, 130), (12, 131), (14, 132), (16, 133), (41, 131), (44, 130), (50, 130), (58, 130), (60, 130), (69, 132), (71, 132), (73, 133), (74, 133), (78, 131), (103, 131)]), (30, [(11, 49), (12, 50), (33, 49)]), (31, [(7, 21), (14, 21), (18, 21)]), (32, []), (33, []), (34, []), (35, []), (36, [(2, 9), (5, 9)]), (37, []), (38, []), (39, []), (40, [(4, 28)]), (41, [(4, 25), (5, 26), (23, 26)]), (42, [(2, 30), (3, 31), (14, 30), (16, 31), (21, 30), (23, 31), (26, 31)]), (43, [(1, 25), (3, 25), (8, 25), (14, 25), (18, 25), (20, 25)]), (44, [(2, 28), (3, 29), (14, 28), (16, 29), (21, 28), (23, 29)]), (45, [(0, 2)]), (46, []), (47, []), (48, []), (49, []), (50, [(2, 10), (3, 11), (5, 10), (7, 11)]), (51, [(3, 36), (17, 36)]), (52, []), (53, []), (54, [(2, 33), (3, 34), (4, 35), (6, 36), (7, 33), (9, 34), (12, 33), (14, 34)]), (55, [(7, 42)]), (56, []), (57, [(1, 6), (3, 6)]), (58, [(5, 30), (13, 30), (18, 30), (23, 30), (27, 30)]), (59, [(4, 18)]), (60, [(0, 7)]), (62, []), (63, []), (64, [(2, 30), (15, 30), (20, 30), (25, 30)]), (65, []), (66, []), (67, []), (68, []), (69, []), (70, [(1, 83), (3, 84), (6, 83), (14, 84), (18, 83), (22, 84), (26, 83), (30, 84), (39, 84), (43, 83), (48, 84), (51, 83), (57, 83), (62, 84), (71, 84), (74, 83), (78, 83)]), (71, [(3, 26), (5, 27), (10, 26)]), (72, [(3, 35), (5, 36), (10, 35), (19, 35), (21, 35), (29, 35)]), (73, [(3, 23), (5, 24), (10, 23)]), (74, [(3, 27), (5, 28), (20, 27)]), (75, [(3, 20), (5, 21)]), (76, []), (78, []), (79, []), (80, [(2, 14)]), (81, [(1, 8), (2, 9), (3, 8), (5, 8)]), (82, []), (83, []), (84, []), (85, [(3, 30), (11, 30), (18, 30), (23, 30)]), (86, []), (87, []), (88, []), (89, [(2, 9), (5, 9)]), (91, []), (92, []), (93, []), (94, [])]

/-! ### gosem.cut.init: 2 -/

noncomputable def gosem_cut_init (R : Caller) (s : St) : Option (Value × St) :=
(callV Try.prog R (.func (.func 1) #[] #[]) [] s).bind fun r0 =>
retV [] r0.2

theorem gosem_cut_init_of {lib : Lib} (hl : lib 2 = none) {s : St} {r : Value × St} (h : gosem_cut_init (run Try.prog lib hints)  s = some r) : run Try.prog lib hints 2 [] s = some r :=
  run_of hl Try.func2 (Eq.trans (by kernel_rfl) h)

theorem gosem_cut_init_ok : funcOk Try.prog 2 = true := by kernel_rfl
theorem gosem_cut_init_call {R : Caller} {xs : List Value} {s : St} : callV Try.prog R (.func (.func 2) #[] #[]) xs s = R 2 xs s := callV_eq gosem_cut_init_ok

/-! ### sumpter/sumpterlaw17.OwnerTurns: 3 -/

noncomputable def law17_OwnerTurns.b1 (R : Caller) (T : List Value) (s : St) : Res :=
(abin Try.prog .lss 3 (.tmp 80) (.tmp 79) (getL T 10) (getL T 9)).bind fun v32 =>
condV v32
 ((aindexS 2 (getL T 6) (getL T 10)).bind fun v33 =>
(afieldAddr 1 v33).bind fun v34 =>
(astore 1 v34 (.int .i64 99) s).bind fun s35 =>
(abin Try.prog .add 3 (.tmp 80) (.const (.int .i64 1)) (getL T 10) (.int .i64 1)).bind fun v36 =>
some (.normal, [(getL T 0), (getL T 1), (getL T 2), (getL T 3), (getL T 4), (getL T 5), (getL T 6), (getL T 7), (getL T 8), (getL T 9), v36], s35))
 (some (.exit 2, [(getL T 0), (getL T 1), (getL T 2), (getL T 3), (getL T 4), (getL T 5), (getL T 7), (getL T 8)], s))

noncomputable def law17_OwnerTurns.b2 (R : Caller) (T : List Value) (s : St) : Res :=
(abin Try.prog .lss 3 (.tmp 90) (.tmp 89) (getL T 9) (getL T 8)).bind fun v39 =>
condV v39
 ((aindexS 2 (getL T 6) (getL T 9)).bind fun v40 =>
(afieldAddr 1 v40).bind fun v41 =>
(astore 1 v41 (.int .i64 99) s).bind fun s42 =>
(abin Try.prog .add 3 (.tmp 90) (.const (.int .i64 1)) (getL T 9) (.int .i64 1)).bind fun v43 =>
some (.normal, [(getL T 0), (getL T 1), (getL T 2), (getL T 3), (getL T 4), (getL T 5), (getL T 6), (getL T 7), (getL T 8), v43], s42))
 (some (.exit 4, [(getL T 0), (getL T 1), (getL T 2), (getL T 3), (getL T 4), (getL T 5), (getL T 7)], s))

noncomputable def law17_OwnerTurns.b0 (R : Caller) (T : List Value) (s : St) : Res :=
(abin Try.prog .lss 3 (.tmp 24) (.const (.int .i64 2)) (getL T 6) (.int .i64 2)).bind fun v2 =>
condV v2
 ((callV Try.prog R (.func (.func 10) #[] #[]) [(getL T 5), (getL T 1)] s).bind fun r3 =>
(aextract 0 r3.1).bind fun v4 =>
(aextract 1 r3.1).bind fun v5 =>
(callV Try.prog R (.func (.func 11) #[] #[]) [(getL T 0), (getL T 1)] r3.2).bind fun r6 =>
(aextract 0 r6.1).bind fun v7 =>
(aextract 1 r6.1).bind fun v8 =>
(callV Try.prog R (.func (.func 12) #[] #[]) [(getL T 5), (getL T 2), (getL T 3)] r6.2).bind fun r9 =>
(aextract 0 r9.1).bind fun v10 =>
(aextract 1 r9.1).bind fun v11 =>
(callV Try.prog R (.func (.func 13) #[] #[]) [(getL T 0), (getL T 2), (getL T 3)] r9.2).bind fun r12 =>
(aextract 0 r12.1).bind fun v13 =>
(aextract 1 r12.1).bind fun v14 =>
(callV Try.prog R (.func (.func 14) #[] #[]) [v4, v7] r12.2).bind fun r15 =>
(aun .not r15.1).bind fun v16 =>
(guardV v16 false ((abin Try.prog .neq 24 (.tmp 57) (.tmp 58) v5 v8).bind fun v17 =>
some ([v17], r15.2)) (some ([undef], r15.2))).bind fun q18 =>
(apick v16 (.bool true) (getL q18.1 0)).bind fun v19 =>
(guardV v19 false ((callV Try.prog R (.func (.func 14) #[] #[]) [v10, v13] q18.2).bind fun r20 =>
(aun .not r20.1).bind fun v21 =>
some ([v21], r20.2)) (some ([undef], q18.2))).bind fun q22 =>
(apick v19 (.bool true) (getL q22.1 0)).bind fun v23 =>
(guardV v23 false ((abin Try.prog .neq 24 (.tmp 68) (.tmp 69) v11 v14).bind fun v24 =>
some ([v24], q22.2)) (some ([undef], q22.2))).bind fun q25 =>
(apick v23 (.bool true) (getL q25.1 0)).bind fun v26 =>
(guardV v26 false ((callV Try.prog R (.func (.func 14) #[] #[]) [(getL T 5), (getL T 0)] q25.2).bind fun r27 =>
(aun .not r27.1).bind fun v28 =>
some ([v28], r27.2)) (some ([undef], q25.2))).bind fun q29 =>
(apick v26 (.bool true) (getL q29.1 0)).bind fun v30 =>
condV v30
 (some (.ret, [(.bool false)], q29.2))
 ((alenV (.slice 30) v4 q29.2).bind fun v31 =>
(loopL (law17_OwnerTurns.b1 R) [(getL T 0), (getL T 1), (getL T 2), (getL T 3), (getL T 4), (getL T 5), v4, v10, (getL T 6), v31, (.int .i64 0)] q29.2).bind fun r37 =>
exV r37.1 [(2, (alenV (.slice 30) (getL r37.2.1 6) r37.2.2).bind fun v38 =>
(loopL (law17_OwnerTurns.b2 R) [(getL r37.2.1 0), (getL r37.2.1 1), (getL r37.2.1 2), (getL r37.2.1 3), (getL r37.2.1 4), (getL r37.2.1 5), (getL r37.2.1 6), (getL r37.2.1 7), v38, (.int .i64 0)] r37.2.2).bind fun r44 =>
exV r44.1 [(4, (abin Try.prog .add 3 (.tmp 24) (.const (.int .i64 1)) (getL r44.2.1 6) (.int .i64 1)).bind fun v45 =>
some (.normal, [(getL r44.2.1 0), (getL r44.2.1 1), (getL r44.2.1 2), (getL r44.2.1 3), (getL r44.2.1 4), (getL r44.2.1 5), v45], r44.2.2))]
 (none))]
 (none)))
 (some (.exit 0, [(getL T 4)], s))

noncomputable def law17_OwnerTurns (R : Caller) (x0 x1 x2 x3 : Value) (s : St) : Option (Value × St) :=
(callV Try.prog R (.func (.func 9) #[] #[]) [] s).bind fun r0 =>
(aappend 2 24 (.slice none 0 0) x0 r0.2).bind fun r1 =>
(loopL (law17_OwnerTurns.b0 R) [x0, x1, x2, x3, r0.1, r1.1, (.int .i64 0)] r1.2).bind fun r46 =>
exV r46.1 [(0, retV [(getL r46.2.1 0)] r46.2.2)]
 (retV [(getL r46.2.1 0)] r46.2.2)

theorem law17_OwnerTurns_of {lib : Lib} (hl : lib 3 = none) {x0 x1 x2 x3 : Value} {s : St} {r : Value × St} (h : law17_OwnerTurns (run Try.prog lib hints) x0 x1 x2 x3 s = some r) : run Try.prog lib hints 3 [x0, x1, x2, x3] s = some r :=
  run_of hl Try.func3 (Eq.trans (by kernel_rfl) h)

theorem law17_OwnerTurns_ok : funcOk Try.prog 3 = true := by kernel_rfl
theorem law17_OwnerTurns_call {R : Caller} {xs : List Value} {s : St} : callV Try.prog R (.func (.func 3) #[] #[]) xs s = R 3 xs s := callV_eq law17_OwnerTurns_ok

/-! ### sumpter/sumpterlaw17.OwnerAsks: 4 -/

noncomputable def law17_OwnerAsks (R : Caller) (x0 x1 x2 x3 x4 : Value) (s : St) : Option (Value × St) :=
(lbox x4).bind fun v0 =>
(callV Try.prog R (.func (.func 9) #[] #[]) [] s).bind fun r1 =>
(callV Try.prog R (.func (.func 15) #[] #[]) [x0, x1] r1.2).bind fun r2 =>
(aextract 0 r2.1).bind fun v3 =>
(aextract 1 r2.1).bind fun v4 =>
(callV Try.prog R (.func (.func 16) #[] #[]) [x0, x1] r2.2).bind fun r5 =>
(aextract 0 r5.1).bind fun v6 =>
(aextract 1 r5.1).bind fun v7 =>
(callV Try.prog R (.func (.func 17) #[] #[]) [x0, x2] r5.2).bind fun r8 =>
(aextract 0 r8.1).bind fun v9 =>
(aextract 1 r8.1).bind fun v10 =>
(lstore 2 lptr v9 (.agg #[(.string ⟨#[]⟩), (.string ⟨#[]⟩)])).bind fun v11 =>
(callV Try.prog R (.func (.func 18) #[] #[]) [x0, x2] r8.2).bind fun r12 =>
(aextract 0 r12.1).bind fun v13 =>
(aextract 1 r12.1).bind fun v14 =>
(lstore 2 lptr v13 (.agg #[(.string ⟨#[]⟩), (.string ⟨#[]⟩)])).bind fun v15 =>
(guardV r1.1 true (some ([x0], r12.2)) (some ([undef], r12.2))).bind fun q16 =>
((guardV r1.1 true ((callV Try.prog R (.func (.func 19) #[] #[]) [(getL q16.1 0)] q16.2).bind fun r61 =>
some (r61.1, r61.2)) (some (undef, q16.2))).bind (ownR q16.2)).bind fun r17 =>
(guardV r1.1 true (some ([x0], r17.2)) (some ([undef], r17.2))).bind fun q18 =>
((guardV r1.1 true ((callV Try.prog R (.func (.func 20) #[] #[]) [(getL q18.1 0)] q18.2).bind fun r60 =>
some (r60.1, r60.2)) (some (undef, q18.2))).bind (ownR q18.2)).bind fun r19 =>
(guardV r1.1 true ((abin Try.prog .eql 24 (.tmp 48) (.tmp 50) r17.1 r19.1).bind fun v20 =>
some ([v20], r19.2)) (some ([undef], r19.2))).bind fun q21 =>
(apick r1.1 (getL q21.1 0) (.bool false)).bind fun v22 =>
(guardV v22 true (some ([v3], q21.2)) (some ([undef], q21.2))).bind fun q23 =>
(guardV v22 true (some ([v6], q23.2)) (some ([undef], q23.2))).bind fun q24 =>
(guardV v22 true ((abin Try.prog .eql 3 (.tmp 54) (.tmp 55) (getL q23.1 0) (getL q24.1 0)).bind fun v25 =>
some ([v25], q24.2)) (some ([undef], q24.2))).bind fun q26 =>
(apick v22 (getL q26.1 0) (.bool false)).bind fun v27 =>
(guardV v27 true (some ([v4], q26.2)) (some ([undef], q26.2))).bind fun q28 =>
(guardV v27 true (some ([v7], q28.2)) (some ([undef], q28.2))).bind fun q29 =>
(guardV v27 true ((abin Try.prog .eql 24 (.tmp 59) (.tmp 60) (getL q28.1 0) (getL q29.1 0)).bind fun v30 =>
some ([v30], q29.2)) (some ([undef], q29.2))).bind fun q31 =>
(apick v27 (getL q31.1 0) (.bool false)).bind fun v32 =>
(guardV v32 true ((lload true 2 lptr v11).bind fun v33 =>
some ([v33], q31.2)) (some ([undef], q31.2))).bind fun q34 =>
(guardV v32 true ((lload true 2 lptr v15).bind fun v35 =>
some ([v35], q34.2)) (some ([undef], q34.2))).bind fun q36 =>
(guardV v32 true ((abin Try.prog .eql 33 (.tmp 64) (.tmp 65) (getL q34.1 0) (getL q36.1 0)).bind fun v37 =>
some ([v37], q36.2)) (some ([undef], q36.2))).bind fun q38 =>
(apick v32 (getL q38.1 0) (.bool false)).bind fun v39 =>
(guardV v39 true (some ([v10], q38.2)) (some ([undef], q38.2))).bind fun q40 =>
(guardV v39 true (some ([v14], q40.2)) (some ([undef], q40.2))).bind fun q41 =>
(guardV v39 true ((abin Try.prog .eql 24 (.tmp 69) (.tmp 70) (getL q40.1 0) (getL q41.1 0)).bind fun v42 =>
some ([v42], q41.2)) (some ([undef], q41.2))).bind fun q43 =>
(apick v39 (getL q43.1 0) (.bool false)).bind fun v44 =>
(guardV v44 true (some ([x0], q43.2)) (some ([undef], q43.2))).bind fun q45 =>
(guardV v44 true (some ([x3], q45.2)) (some ([undef], q45.2))).bind fun q46 =>
(guardV v44 true ((lload true 2 lptr v0).bind fun v47 =>
some ([v47], q46.2)) (some ([undef], q46.2))).bind fun q48 =>
((guardV v44 true ((callV Try.prog R (.func (.func 21) #[] #[]) [(getL q45.1 0), (getL q46.1 0), (getL q48.1 0)] q48.2).bind fun r59 =>
some (r59.1, r59.2)) (some (undef, q48.2))).bind (ownR q48.2)).bind fun r49 =>
(guardV v44 true (some ([x0], r49.2)) (some ([undef], r49.2))).bind fun q50 =>
(guardV v44 true (some ([x3], q50.2)) (some ([undef], q50.2))).bind fun q51 =>
(guardV v44 true ((lload true 2 lptr v0).bind fun v52 =>
some ([v52], q51.2)) (some ([undef], q51.2))).bind fun q53 =>
((guardV v44 true ((callV Try.prog R (.func (.func 22) #[] #[]) [(getL q50.1 0), (getL q51.1 0), (getL q53.1 0)] q53.2).bind fun r58 =>
some (r58.1, r58.2)) (some (undef, q53.2))).bind (ownR q53.2)).bind fun r54 =>
(guardV v44 true ((abin Try.prog .eql 4 (.tmp 77) (.tmp 81) r49.1 r54.1).bind fun v55 =>
some ([v55], r54.2)) (some ([undef], r54.2))).bind fun q56 =>
(apick v44 (getL q56.1 0) (.bool false)).bind fun v57 =>
retV [v57] q56.2

theorem law17_OwnerAsks_of {lib : Lib} (hl : lib 4 = none) {x0 x1 x2 x3 x4 : Value} {s : St} {r : Value × St} (h : law17_OwnerAsks (run Try.prog lib hints) x0 x1 x2 x3 x4 s = some r) : run Try.prog lib hints 4 [x0, x1, x2, x3, x4] s = some r :=
  run_of hl Try.func4 (Eq.trans (by kernel_rfl) h)

theorem law17_OwnerAsks_ok : funcOk Try.prog 4 = true := by kernel_rfl
theorem law17_OwnerAsks_call {R : Caller} {xs : List Value} {s : St} : callV Try.prog R (.func (.func 4) #[] #[]) xs s = R 4 xs s := callV_eq law17_OwnerAsks_ok

/-! ### sumpter/sumpterlaw17.OwnerOnce: 5 -/

noncomputable def law17_OwnerOnce.b0 (R : Caller) (T : List Value) (s : St) : Res :=
(abin Try.prog .lss 3 (.tmp 32) (.tmp 31) (getL T 8) (getL T 7)).bind fun v6 =>
condV v6
 ((callV Try.prog R (.func (.func 17) #[] #[]) [(getL T 0), (getL T 8)] s).bind fun r7 =>
(aextract 0 r7.1).bind fun v8 =>
(aextract 1 r7.1).bind fun v9 =>
(lstore 2 lptr v8 (.agg #[(.string ⟨#[]⟩), (.string ⟨#[]⟩)])).bind fun v10 =>
(abin Try.prog .neq 24 (.tmp 41) (.const (.int .i64 0)) v9 (.int .i64 0)).bind fun v11 =>
(guardV v11 false ((lload true 2 lptr v10).bind fun v12 =>
(callV Try.prog R (.func (.func 23) #[] #[]) [v12] r7.2).bind fun r13 =>
(abin Try.prog .neq 24 (.tmp 45) (.const (.int .i64 0)) r13.1 (.int .i64 0)).bind fun v14 =>
some ([v14], r13.2)) (some ([undef], r7.2))).bind fun q15 =>
(apick v11 (.bool true) (getL q15.1 0)).bind fun v16 =>
(guardV v16 false ((lload true 2 lptr v10).bind fun v17 =>
(callV Try.prog R (.func (.func 24) #[] #[]) [v17, (getL T 1)] q15.2).bind fun r18 =>
(abin Try.prog .eql 3 (.tmp 52) (.tmp 53) (getL T 8) (getL T 5)).bind fun v19 =>
(abin Try.prog .neq 4 (.tmp 51) (.tmp 54) r18.1 v19).bind fun v20 =>
some ([v20], r18.2)) (some ([undef], q15.2))).bind fun q21 =>
(apick v16 (.bool true) (getL q21.1 0)).bind fun v22 =>
condV v22
 (some (.ret, [(.bool false)], q21.2))
 ((abin Try.prog .add 3 (.tmp 57) (.const (.int .i64 1)) (getL T 6) (.int .i64 1)).bind fun v23 =>
(abin Try.prog .add 3 (.tmp 32) (.const (.int .i64 1)) (getL T 8) (.int .i64 1)).bind fun v24 =>
some (.normal, [(getL T 0), (getL T 1), (getL T 2), (getL T 3), (getL T 4), (getL T 5), v23, (getL T 7), v24], q21.2)))
 (some (.exit 0, [(getL T 0), (getL T 1), (getL T 2), (getL T 3), (getL T 4), (getL T 6)], s))

noncomputable def law17_OwnerOnce (R : Caller) (x0 x1 x2 x3 : Value) (s : St) : Option (Value × St) :=
(callV Try.prog R (.func (.func 9) #[] #[]) [] s).bind fun r0 =>
(callV Try.prog R (.func (.func 15) #[] #[]) [x0, x1] r0.2).bind fun r1 =>
(aextract 0 r1.1).bind fun v2 =>
(aextract 1 r1.1).bind fun v3 =>
(abin Try.prog .neq 24 (.tmp 27) (.const (.int .i64 0)) v3 (.int .i64 0)).bind fun v4 =>
condV v4
 (retV [r0.1] r1.2)
 ((alenV (.slice 30) x0 r1.2).bind fun v5 =>
(loopL (law17_OwnerOnce.b0 R) [x0, x1, x2, x3, r0.1, v2, (.int .i64 0), v5, (.int .i64 0)] r1.2).bind fun r25 =>
exV r25.1 [(0, (callV Try.prog R (.func (.func 10) #[] #[]) [(getL r25.2.1 0), (getL r25.2.1 1)] r25.2.2).bind fun r26 =>
(aextract 0 r26.1).bind fun v27 =>
(aextract 1 r26.1).bind fun v28 =>
(callV Try.prog R (.func (.func 12) #[] #[]) [(getL r25.2.1 0), (getL r25.2.1 2), (getL r25.2.1 3)] r26.2).bind fun r29 =>
(aextract 0 r29.1).bind fun v30 =>
(aextract 1 r29.1).bind fun v31 =>
(guardV (getL r25.2.1 4) true ((alenV (.slice 30) (getL r25.2.1 0) r29.2).bind fun v32 =>
(abin Try.prog .eql 3 (.tmp 75) (.tmp 77) (getL r25.2.1 5) v32).bind fun v33 =>
some ([v33], r29.2)) (some ([undef], r29.2))).bind fun q34 =>
(apick (getL r25.2.1 4) (getL q34.1 0) (.bool false)).bind fun v35 =>
(guardV v35 true ((abin Try.prog .neq 24 (.tmp 81) (.const (.int .i64 0)) v28 (.int .i64 0)).bind fun v36 =>
some ([v36], q34.2)) (some ([undef], q34.2))).bind fun q37 =>
(guardV (getL q37.1 0) false ((callV Try.prog R (.func (.func 19) #[] #[]) [v27] q37.2).bind fun r38 =>
(abin Try.prog .eql 24 (.tmp 85) (.const (.int .i64 0)) r38.1 (.int .i64 0)).bind fun v39 =>
some ([v39], r38.2)) (some ([undef], q37.2))).bind fun q40 =>
(guardV (getL q40.1 0) true ((alenV (.slice 30) v27 q40.2).bind fun v41 =>
(abin Try.prog .add 3 (.tmp 90) (.const (.int .i64 1)) (getL r25.2.1 5) (.int .i64 1)).bind fun v42 =>
(abin Try.prog .eql 3 (.tmp 89) (.tmp 91) v41 v42).bind fun v43 =>
some ([v43], q40.2)) (some ([undef], q40.2))).bind fun q44 =>
(guardV (getL q37.1 0) false ((apick (getL q40.1 0) (getL q44.1 0) (.bool false)).bind fun v45 =>
some ([v45], q44.2)) (some ([undef], q44.2))).bind fun q46 =>
(guardV v35 true ((apick (getL q37.1 0) (.bool true) (getL q46.1 0)).bind fun v47 =>
some ([v47], q46.2)) (some ([undef], q46.2))).bind fun q48 =>
(apick v35 (getL q48.1 0) (.bool false)).bind fun v49 =>
(guardV v49 true ((abin Try.prog .neq 24 (.tmp 97) (.const (.int .i64 0)) v31 (.int .i64 0)).bind fun v50 =>
some ([v50], q48.2)) (some ([undef], q48.2))).bind fun q51 =>
(guardV (getL q51.1 0) false ((callV Try.prog R (.func (.func 19) #[] #[]) [v30] q51.2).bind fun r52 =>
(abin Try.prog .eql 24 (.tmp 101) (.const (.int .i64 0)) r52.1 (.int .i64 0)).bind fun v53 =>
some ([v53], r52.2)) (some ([undef], q51.2))).bind fun q54 =>
(guardV (getL q54.1 0) true ((alenV (.slice 30) v30 q54.2).bind fun v55 =>
(abin Try.prog .eql 3 (.tmp 105) (.tmp 106) v55 (getL r25.2.1 5)).bind fun v56 =>
some ([v56], q54.2)) (some ([undef], q54.2))).bind fun q57 =>
(guardV (getL q51.1 0) false ((apick (getL q54.1 0) (getL q57.1 0) (.bool false)).bind fun v58 =>
some ([v58], q57.2)) (some ([undef], q57.2))).bind fun q59 =>
(guardV v49 true ((apick (getL q51.1 0) (.bool true) (getL q59.1 0)).bind fun v60 =>
some ([v60], q59.2)) (some ([undef], q59.2))).bind fun q61 =>
(apick v49 (getL q61.1 0) (.bool false)).bind fun v62 =>
retV [v62] q61.2)]
 (retV [(getL r25.2.1 0)] r25.2.2))

theorem law17_OwnerOnce_of {lib : Lib} (hl : lib 5 = none) {x0 x1 x2 x3 : Value} {s : St} {r : Value × St} (h : law17_OwnerOnce (run Try.prog lib hints) x0 x1 x2 x3 s = some r) : run Try.prog lib hints 5 [x0, x1, x2, x3] s = some r :=
  run_of hl Try.func5 (Eq.trans (by kernel_rfl) h)

theorem law17_OwnerOnce_ok : funcOk Try.prog 5 = true := by kernel_rfl
theorem law17_OwnerOnce_call {R : Caller} {xs : List Value} {s : St} : callV Try.prog R (.func (.func 5) #[] #[]) xs s = R 5 xs s := callV_eq law17_OwnerOnce_ok

/-! ### sumpter/sumpterlaw17.OwnerMoved: 6 -/

noncomputable def law17_OwnerMoved.j0 (R : Caller) (T : List Value) (s : St) : Option (Value × St) :=
(guardV (getL T 1) true ((abin Try.prog .eql 24 (.tmp 100) (.const (.int .i64 0)) (getL T 4) (.int .i64 0)).bind fun v45 =>
some ([v45], s)) (some ([undef], s))).bind fun q46 =>
(apick (getL T 1) (getL q46.1 0) (.bool false)).bind fun v47 =>
(guardV v47 true ((abin Try.prog .eql 24 (.tmp 104) (.const (.int .i64 0)) (getL T 6) (.int .i64 0)).bind fun v48 =>
some ([v48], q46.2)) (some ([undef], q46.2))).bind fun q49 =>
(apick v47 (getL q49.1 0) (.bool false)).bind fun v50 =>
(guardV v50 true ((afieldAddr 0 (getL T 3)).bind fun v51 =>
(lload false 1 v51 (getL T 8)).bind fun v52 =>
(abin Try.prog .eql 9 (.tmp 109) (.tmp 110) v52 (getL T 0)).bind fun v53 =>
some ([v53], q49.2)) (some ([undef], q49.2))).bind fun q54 =>
(apick v50 (getL q54.1 0) (.bool false)).bind fun v55 =>
(guardV v55 true ((aindexS 2 (getL T 2) (getL T 5)).bind fun v56 =>
(afieldAddr 1 v56).bind fun v57 =>
(aload false 1 v57 q54.2).bind fun v58 =>
(abin Try.prog .eql 3 (.tmp 118) (.tmp 119) v58 (getL T 7)).bind fun v59 =>
some ([v59], q54.2)) (some ([undef], q54.2))).bind fun q60 =>
(apick v55 (getL q60.1 0) (.bool false)).bind fun v61 =>
retV [v61] q60.2

noncomputable def law17_OwnerMoved (R : Caller) (x0 x1 x2 x3 : Value) (s : St) : Option (Value × St) :=
(callV Try.prog R (.func (.func 9) #[] #[]) [] s).bind fun r0 =>
(callV Try.prog R (.func (.func 10) #[] #[]) [x0, x1] r0.2).bind fun r1 =>
(aextract 0 r1.1).bind fun v2 =>
(aextract 1 r1.1).bind fun v3 =>
(abin Try.prog .neq 24 (.tmp 30) (.const (.int .i64 0)) v3 (.int .i64 0)).bind fun v4 =>
condV v4
 (retV [r0.1] r1.2)
 ((callV Try.prog R (.func (.func 15) #[] #[]) [v2, x1] r1.2).bind fun r5 =>
(aextract 0 r5.1).bind fun v6 =>
(aextract 1 r5.1).bind fun v7 =>
(callV Try.prog R (.func (.func 12) #[] #[]) [v2, v6, x2] r5.2).bind fun r8 =>
(aextract 0 r8.1).bind fun v9 =>
(aextract 1 r8.1).bind fun v10 =>
(abin Try.prog .neq 24 (.tmp 46) (.const (.int .i64 0)) v7 (.int .i64 0)).bind fun v11 =>
(guardV v11 false ((abin Try.prog .eql 24 (.tmp 49) (.const (.int .i64 0)) v10 (.int .i64 0)).bind fun v12 =>
(abin Try.prog .geq 3 (.tmp 51) (.const (.int .i64 1)) x2 (.int .i64 1)).bind fun v13 =>
some ([v12, v13], r8.2)) (some ([undef, undef], r8.2))).bind fun q14 =>
(guardV (getL q14.1 1) true ((abin Try.prog .leq 3 (.tmp 54) (.const (.int .i64 4)) x2 (.int .i64 4)).bind fun v15 =>
some ([v15], q14.2)) (some ([undef], q14.2))).bind fun q16 =>
(guardV v11 false ((apick (getL q14.1 1) (getL q16.1 0) (.bool false)).bind fun v17 =>
(abin Try.prog .neq 4 (.tmp 50) (.tmp 56) (getL q14.1 0) v17).bind fun v18 =>
some ([v18], q16.2)) (some ([undef], q16.2))).bind fun q19 =>
(apick v11 (.bool true) (getL q19.1 0)).bind fun v20 =>
condV v20
 (retV [(.bool false)] q19.2)
 ((callV Try.prog R (.func (.func 17) #[] #[]) [v2, v6] q19.2).bind fun r21 =>
(aextract 0 r21.1).bind fun v22 =>
(aextract 1 r21.1).bind fun v23 =>
(lstore 2 lptr v22 (.agg #[(.string ⟨#[]⟩), (.string ⟨#[]⟩)])).bind fun v24 =>
(abin Try.prog .neq 24 (.tmp 65) (.const (.int .i64 0)) v10 (.int .i64 0)).bind fun v25 =>
(guardV v25 false ((callV Try.prog R (.func (.func 25) #[] #[]) [x3] r21.2).bind fun r26 =>
(abin Try.prog .neq 24 (.tmp 69) (.const (.int .i64 0)) r26.1 (.int .i64 0)).bind fun v27 =>
some ([v27], r26.2)) (some ([undef], r21.2))).bind fun q28 =>
(apick v25 (.bool true) (getL q28.1 0)).bind fun v29 =>
condV v29
 ((guardV r0.1 true ((abin Try.prog .eql 24 (.tmp 74) (.const (.int .i64 0)) v23 (.int .i64 0)).bind fun v30 =>
some ([v30], q28.2)) (some ([undef], q28.2))).bind fun q31 =>
(apick r0.1 (getL q31.1 0) (.bool false)).bind fun v32 =>
retV [v32] q31.2)
 ((callV Try.prog R (.func (.func 15) #[] #[]) [x0, x3] q28.2).bind fun r33 =>
(aextract 0 r33.1).bind fun v34 =>
(aextract 1 r33.1).bind fun v35 =>
(callV Try.prog R (.func (.func 15) #[] #[]) [v9, x3] r33.2).bind fun r36 =>
(aextract 0 r36.1).bind fun v37 =>
(aextract 1 r36.1).bind fun v38 =>
(aindexS 2 x0 v34).bind fun v39 =>
(afieldAddr 1 v39).bind fun v40 =>
(aload false 1 v40 r36.2).bind fun v41 =>
(lload true 2 lptr v24).bind fun v43 =>
(callV Try.prog R (.func (.func 24) #[] #[]) [v43, x3] r36.2).bind fun r44 =>
condV r44.1
 (joinK (law17_OwnerMoved.j0 R) [x1, r0.1, v9, lptr, v23, v37, v38, x2, v24] r44.2)
 (joinK (law17_OwnerMoved.j0 R) [x1, r0.1, v9, lptr, v23, v37, v38, v41, v24] r44.2))))

theorem law17_OwnerMoved_of {lib : Lib} (hl : lib 6 = none) {x0 x1 x2 x3 : Value} {s : St} {r : Value × St} (h : law17_OwnerMoved (run Try.prog lib hints) x0 x1 x2 x3 s = some r) : run Try.prog lib hints 6 [x0, x1, x2, x3] s = some r :=
  run_of hl Try.func6 (Eq.trans (by kernel_rfl) h)

theorem law17_OwnerMoved_ok : funcOk Try.prog 6 = true := by kernel_rfl
theorem law17_OwnerMoved_call {R : Caller} {xs : List Value} {s : St} : callV Try.prog R (.func (.func 6) #[] #[]) xs s = R 6 xs s := callV_eq law17_OwnerMoved_ok

/-! ### sumpter/sumpterlaw17.OwnerGathers: 7 -/

noncomputable def law17_OwnerGathers.b0 (R : Caller) (T : List Value) (s : St) : Res :=
(abin Try.prog .lss 3 (.tmp 20) (.tmp 19) (getL T 7) (getL T 6)).bind fun v2 =>
condV v2
 ((aindexS 3 (getL T 5) (getL T 7)).bind fun v3 =>
(aload true 3 v3 s).bind fun v4 =>
(lstore 3 lptr v4 (.agg #[(.int .i64 0), (.slice none 0 0), (.slice none 0 0)])).bind fun v5 =>
(lload false 1 lptr v5).bind fun v6 =>
(lload false 1 (.pointer (some ⟨0, 1, none⟩)) v5).bind fun v7 =>
(lload false 1 (.pointer (some ⟨0, 2, none⟩)) v5).bind fun v8 =>
(abuild Try.prog 52 [(0, v6), (1, v7), (2, v8)]).bind fun v9 =>
(abuildSl 3 [(.int .i64 0), (.slice none 0 0), (.slice none 0 0)] 1 [(0, v9)] s).bind fun r10 =>
(aappend 3 56 (getL T 4) r10.1 r10.2).bind fun r11 =>
(abin Try.prog .add 3 (.tmp 20) (.const (.int .i64 1)) (getL T 7) (.int .i64 1)).bind fun v12 =>
some (.normal, [(getL T 0), (getL T 1), (getL T 2), (getL T 3), r11.1, (getL T 5), (getL T 6), v12], r11.2))
 (some (.exit 0, [(getL T 0), (getL T 1), (getL T 2), (getL T 3), (getL T 4)], s))

noncomputable def law17_OwnerGathers.b3 (R : Caller) (T : List Value) (s : St) : Res :=
(abin Try.prog .lss 3 (.tmp 71) (.tmp 70) (getL T 11) (getL T 10)).bind fun v32 =>
condV v32
 ((aindexS 3 (getL T 5) (getL T 6)).bind fun v33 =>
(afieldAddr 2 v33).bind fun v34 =>
(aload false 1 v34 s).bind fun v35 =>
(aindexS 2 v35 (getL T 11)).bind fun v36 =>
(afieldAddr 0 v36).bind fun v37 =>
(astore 1 v37 (.string ⟨#[122, 122]⟩) s).bind fun s38 =>
(abin Try.prog .add 3 (.tmp 71) (.const (.int .i64 1)) (getL T 11) (.int .i64 1)).bind fun v39 =>
some (.normal, [(getL T 0), (getL T 1), (getL T 2), (getL T 3), (getL T 4), (getL T 5), (getL T 6), (getL T 7), (getL T 8), (getL T 9), (getL T 10), v39], s38))
 (some (.exit 6, [(getL T 0), (getL T 1), (getL T 2), (getL T 3), (getL T 4), (getL T 5), (getL T 7), (getL T 8), (getL T 9)], s))

noncomputable def law17_OwnerGathers.b2 (R : Caller) (T : List Value) (s : St) : Res :=
(abin Try.prog .lss 3 (.tmp 62) (.tmp 61) (getL T 8) (getL T 7)).bind fun v27 =>
condV v27
 ((aindexS 3 (getL T 5) (getL T 8)).bind fun v28 =>
(afieldAddr 2 v28).bind fun v29 =>
(aload false 1 v29 s).bind fun v30 =>
(alenV (.slice 62) v30 s).bind fun v31 =>
(loopL (law17_OwnerGathers.b3 R) [(getL T 0), (getL T 1), (getL T 2), (getL T 3), (getL T 4), (getL T 5), (getL T 8), (getL T 6), (getL T 7), (getL T 8), v31, (.int .i64 0)] s).bind fun r40 =>
exV r40.1 [(6, (abin Try.prog .add 3 (.tmp 62) (.const (.int .i64 1)) (getL r40.2.1 8) (.int .i64 1)).bind fun v41 =>
some (.normal, [(getL r40.2.1 0), (getL r40.2.1 1), (getL r40.2.1 2), (getL r40.2.1 3), (getL r40.2.1 4), (getL r40.2.1 5), (getL r40.2.1 6), (getL r40.2.1 7), v41], r40.2.2))]
 (none))
 (some (.exit 4, [(getL T 0), (getL T 1), (getL T 2), (getL T 3), (getL T 4), (getL T 6)], s))

noncomputable def law17_OwnerGathers.b1 (R : Caller) (T : List Value) (s : St) : Res :=
(abin Try.prog .lss 3 (.tmp 35) (.const (.int .i64 2)) (getL T 5) (.int .i64 2)).bind fun v14 =>
condV v14
 ((callV Try.prog R (.func (.func 26) #[] #[]) [(getL T 0), (getL T 1), (getL T 2)] s).bind fun r15 =>
(aextract 0 r15.1).bind fun v16 =>
(aextract 1 r15.1).bind fun v17 =>
(callV Try.prog R (.func (.func 27) #[] #[]) [(getL T 0), (getL T 4), (getL T 2)] r15.2).bind fun r18 =>
(aextract 0 r18.1).bind fun v19 =>
(aextract 1 r18.1).bind fun v20 =>
(abin Try.prog .neq 24 (.tmp 51) (.tmp 52) v17 v20).bind fun v21 =>
(guardV v21 false ((callV Try.prog R (.func (.func 28) #[] #[]) [v16, v19] r18.2).bind fun r22 =>
(aun .not r22.1).bind fun v23 =>
some ([v23], r22.2)) (some ([undef], r18.2))).bind fun q24 =>
(apick v21 (.bool true) (getL q24.1 0)).bind fun v25 =>
condV v25
 (some (.ret, [(.bool false)], q24.2))
 ((alenV (.slice 60) v16 q24.2).bind fun v26 =>
(loopL (law17_OwnerGathers.b2 R) [(getL T 0), (getL T 1), (getL T 2), (getL T 3), (getL T 4), v16, (getL T 5), v26, (.int .i64 0)] q24.2).bind fun r42 =>
exV r42.1 [(4, (abin Try.prog .add 3 (.tmp 35) (.const (.int .i64 1)) (getL r42.2.1 5) (.int .i64 1)).bind fun v43 =>
some (.normal, [(getL r42.2.1 0), (getL r42.2.1 1), (getL r42.2.1 2), (getL r42.2.1 3), (getL r42.2.1 4), v43], r42.2.2))]
 (none)))
 (some (.exit 2, [(getL T 3)], s))

noncomputable def law17_OwnerGathers (R : Caller) (x0 x1 x2 : Value) (s : St) : Option (Value × St) :=
(callV Try.prog R (.func (.func 9) #[] #[]) [] s).bind fun r0 =>
(alenV (.slice 51) x1 r0.2).bind fun v1 =>
(loopL (law17_OwnerGathers.b0 R) [x0, x1, x2, r0.1, (.slice none 0 0), x1, v1, (.int .i64 0)] r0.2).bind fun r13 =>
exV r13.1 [(0, (loopL (law17_OwnerGathers.b1 R) [(getL r13.2.1 0), (getL r13.2.1 1), (getL r13.2.1 2), (getL r13.2.1 3), (getL r13.2.1 4), (.int .i64 0)] r13.2.2).bind fun r44 =>
exV r44.1 [(2, retV [(getL r44.2.1 0)] r44.2.2)]
 (retV [(getL r44.2.1 0)] r44.2.2))]
 (none)

theorem law17_OwnerGathers_of {lib : Lib} (hl : lib 7 = none) {x0 x1 x2 : Value} {s : St} {r : Value × St} (h : law17_OwnerGathers (run Try.prog lib hints) x0 x1 x2 s = some r) : run Try.prog lib hints 7 [x0, x1, x2] s = some r :=
  run_of hl Try.func7 (Eq.trans (by kernel_rfl) h)

theorem law17_OwnerGathers_ok : funcOk Try.prog 7 = true := by kernel_rfl
theorem law17_OwnerGathers_call {R : Caller} {xs : List Value} {s : St} : callV Try.prog R (.func (.func 7) #[] #[]) xs s = R 7 xs s := callV_eq law17_OwnerGathers_ok

/-! ### sumpter/sumpterlaw17.live: 9 -/

noncomputable def law17_live (R : Caller) (s : St) : Option (Value × St) :=
(callV Try.prog R (.func (.func 32) #[] #[]) [] s).bind fun r0 =>
(callV Try.prog R (.func (.func 15) #[] #[]) [r0.1, (.string ⟨#[122]⟩)] r0.2).bind fun r1 =>
(aextract 0 r1.1).bind fun v2 =>
(aextract 1 r1.1).bind fun v3 =>
(callV Try.prog R (.func (.func 32) #[] #[]) [] r1.2).bind fun r4 =>
(callV Try.prog R (.func (.func 10) #[] #[]) [r4.1, (.string ⟨#[103]⟩)] r4.2).bind fun r5 =>
(aextract 0 r5.1).bind fun v6 =>
(aextract 1 r5.1).bind fun v7 =>
(callV Try.prog R (.func (.func 32) #[] #[]) [] r5.2).bind fun r8 =>
(callV Try.prog R (.func (.func 10) #[] #[]) [r8.1, (.string ⟨#[109]⟩)] r8.2).bind fun r9 =>
(aextract 0 r9.1).bind fun v10 =>
(aextract 1 r9.1).bind fun v11 =>
(callV Try.prog R (.func (.func 32) #[] #[]) [] r9.2).bind fun r12 =>
(abuildSl 6 [(.int .i64 0), (.string ⟨#[]⟩), (.string ⟨#[]⟩), (.string ⟨#[]⟩), (.string ⟨#[]⟩), (.int .i64 0)] 2 [(0, (.agg #[(.int .i64 2), (.string ⟨#[122]⟩), (.string ⟨#[49]⟩), (.string ⟨#[]⟩), (.string ⟨#[]⟩), (.int .i64 0)])), (1, (.agg #[(.int .i64 4), (.string ⟨#[]⟩), (.string ⟨#[]⟩), (.string ⟨#[]⟩), (.string ⟨#[]⟩), (.int .i64 3)]))] r12.2).bind fun r13 =>
(callV Try.prog R (.func (.func 29) #[] #[]) [r12.1, r13.1] r13.2).bind fun r14 =>
(aextract 0 r14.1).bind fun v15 =>
(aextract 1 r14.1).bind fun v16 =>
(abin Try.prog .eql 3 (.tmp 32) (.const (.int .i64 1)) v2 (.int .i64 1)).bind fun v17 =>
(guardV v17 true ((abin Try.prog .eql 24 (.tmp 35) (.const (.int .i64 0)) v3 (.int .i64 0)).bind fun v18 =>
some ([v18], r14.2)) (some ([undef], r14.2))).bind fun q19 =>
(apick v17 (getL q19.1 0) (.bool false)).bind fun v20 =>
(guardV v20 true ((alenV (.slice 30) v6 q19.2).bind fun v21 =>
(abin Try.prog .eql 3 (.tmp 40) (.const (.int .i64 3)) v21 (.int .i64 3)).bind fun v22 =>
some ([v22], q19.2)) (some ([undef], q19.2))).bind fun q23 =>
(apick v20 (getL q23.1 0) (.bool false)).bind fun v24 =>
(guardV v24 true ((aindexS 2 v6 (.int .i64 1)).bind fun v25 =>
(aload true 2 v25 q23.2).bind fun v26 =>
(abin Try.prog .eql 30 (.tmp 46) (.tmp 47) v26 (.agg #[(.string ⟨#[103]⟩), (.int .i64 1)])).bind fun v27 =>
some ([v27], q23.2)) (some ([undef], q23.2))).bind fun q28 =>
(apick v24 (getL q28.1 0) (.bool false)).bind fun v29 =>
(guardV v29 true ((abin Try.prog .eql 24 (.tmp 51) (.const (.int .i64 0)) v7 (.int .i64 0)).bind fun v30 =>
some ([v30], q28.2)) (some ([undef], q28.2))).bind fun q31 =>
(apick v29 (getL q31.1 0) (.bool false)).bind fun v32 =>
(guardV v32 true ((abin Try.prog .eql 24 (.tmp 55) (.const (.int .i64 6)) v11 (.int .i64 6)).bind fun v33 =>
some ([v33], q31.2)) (some ([undef], q31.2))).bind fun q34 =>
(apick v32 (getL q34.1 0) (.bool false)).bind fun v35 =>
(guardV v35 true ((abin Try.prog .eql 24 (.tmp 59) (.const (.int .i64 0)) v16 (.int .i64 0)).bind fun v36 =>
some ([v36], q34.2)) (some ([undef], q34.2))).bind fun q37 =>
(apick v35 (getL q37.1 0) (.bool false)).bind fun v38 =>
(guardV v38 true ((alenV (.slice 51) v15 q37.2).bind fun v39 =>
(abin Try.prog .eql 3 (.tmp 64) (.const (.int .i64 2)) v39 (.int .i64 2)).bind fun v40 =>
some ([v40], q37.2)) (some ([undef], q37.2))).bind fun q41 =>
(apick v38 (getL q41.1 0) (.bool false)).bind fun v42 =>
(guardV v42 true ((aindexS 3 v15 (.int .i64 0)).bind fun v43 =>
(afieldAddr 1 v43).bind fun v44 =>
(aload false 1 v44 q41.2).bind fun v45 =>
(alenV (.slice 74) v45 q41.2).bind fun v46 =>
(abin Try.prog .eql 3 (.tmp 72) (.const (.int .i64 1)) v46 (.int .i64 1)).bind fun v47 =>
some ([v47], q41.2)) (some ([undef], q41.2))).bind fun q48 =>
(apick v42 (getL q48.1 0) (.bool false)).bind fun v49 =>
(guardV v49 true ((aindexS 3 v15 (.int .i64 0)).bind fun v50 =>
(afieldAddr 1 v50).bind fun v51 =>
(aload false 1 v51 q48.2).bind fun v52 =>
(aindexS 6 v52 (.int .i64 0)).bind fun v53 =>
(afieldAddr 4 v53).bind fun v54 =>
(aload false 1 v54 q48.2).bind fun v55 =>
(abin Try.prog .eql 9 (.tmp 82) (.const (.string ⟨#[109]⟩)) v55 (.string ⟨#[109]⟩)).bind fun v56 =>
some ([v56], q48.2)) (some ([undef], q48.2))).bind fun q57 =>
(apick v49 (getL q57.1 0) (.bool false)).bind fun v58 =>
(guardV v58 true ((aindexS 3 v15 (.int .i64 0)).bind fun v59 =>
(afieldAddr 2 v59).bind fun v60 =>
(aload false 1 v60 q57.2).bind fun v61 =>
(aindexS 1 v61 (.int .i64 0)).bind fun v62 =>
(aload false 1 v62 q57.2).bind fun v63 =>
(abin Try.prog .eql 3 (.tmp 91) (.const (.int .i64 1)) v63 (.int .i64 1)).bind fun v64 =>
some ([v64], q57.2)) (some ([undef], q57.2))).bind fun q65 =>
(apick v58 (getL q65.1 0) (.bool false)).bind fun v66 =>
(guardV v66 true ((aindexS 3 v15 (.int .i64 1)).bind fun v67 =>
(afieldAddr 1 v67).bind fun v68 =>
(aload false 1 v68 q65.2).bind fun v69 =>
(alenV (.slice 74) v69 q65.2).bind fun v70 =>
(abin Try.prog .eql 3 (.tmp 99) (.const (.int .i64 2)) v70 (.int .i64 2)).bind fun v71 =>
some ([v71], q65.2)) (some ([undef], q65.2))).bind fun q72 =>
(apick v66 (getL q72.1 0) (.bool false)).bind fun v73 =>
(guardV v73 true ((aindexS 3 v15 (.int .i64 1)).bind fun v74 =>
(afieldAddr 2 v74).bind fun v75 =>
(aload false 1 v75 q72.2).bind fun v76 =>
(aindexS 1 v76 (.int .i64 1)).bind fun v77 =>
(aload false 1 v77 q72.2).bind fun v78 =>
(abin Try.prog .eql 3 (.tmp 108) (.const (.int .i64 1)) v78 (.int .i64 1)).bind fun v79 =>
some ([v79], q72.2)) (some ([undef], q72.2))).bind fun q80 =>
(apick v73 (getL q80.1 0) (.bool false)).bind fun v81 =>
retV [v81] q80.2

theorem law17_live_of {lib : Lib} (hl : lib 9 = none) {s : St} {r : Value × St} (h : law17_live (run Try.prog lib hints)  s = some r) : run Try.prog lib hints 9 [] s = some r :=
  run_of hl Try.func9 (Eq.trans (by kernel_rfl) h)

theorem law17_live_ok : funcOk Try.prog 9 = true := by kernel_rfl
theorem law17_live_call {R : Caller} {xs : List Value} {s : St} : callV Try.prog R (.func (.func 9) #[] #[]) xs s = R 9 xs s := callV_eq law17_live_ok

/-! ### sumpter/owner.Split: 10 -/

noncomputable def owner_Split (R : Caller) (x0 x1 : Value) (s : St) : Option (Value × St) :=
(callV Try.prog R (.func (.func 15) #[] #[]) [x0, x1] s).bind fun r0 =>
(aextract 0 r0.1).bind fun v1 =>
(aextract 1 r0.1).bind fun v2 =>
(abin Try.prog .neq 24 (.tmp 15) (.const (.int .i64 0)) v2 (.int .i64 0)).bind fun v3 =>
condV v3
 (retV [(.slice none 0 0), v2] r0.2)
 ((aindexS 2 x0 v1).bind fun v4 =>
(afieldAddr 0 v4).bind fun v5 =>
(aload false 1 v5 r0.2).bind fun v6 =>
(abin Try.prog .eql 9 (.tmp 23) (.tmp 24) v6 x1).bind fun v7 =>
condV v7
 (retV [(.slice none 0 0), (.int .i64 6)] r0.2)
 ((alenV (.slice 30) x0 r0.2).bind fun v8 =>
(abin Try.prog .eql 3 (.tmp 28) (.const (.int .i64 6)) v8 (.int .i64 6)).bind fun v9 =>
condV v9
 (retV [(.slice none 0 0), (.int .i64 3)] r0.2)
 ((((callV Try.prog R (.func (.func 34) #[] #[]) [x0] (frzS r0.2)).bind fun r21 =>
some (r21.1, r21.2)).map (quietR r0.2)).bind fun r10 =>
(abin Try.prog .add 3 (.tmp 32) (.const (.int .i64 1)) v1 (.int .i64 1)).bind fun v11 =>
(aindexS 2 x0 v1).bind fun v12 =>
(afieldAddr 1 v12).bind fun v13 =>
((aload false 1 v13 (frzS r10.2)).bind fun v20 =>
some (v20, (frzS r10.2))).bind fun r14 =>
(abuild Try.prog 30 [(0, x1), (1, r14.1)]).bind fun v15 =>
(((abuildSl 2 [(.string ⟨#[]⟩), (.int .i64 0)] 1 [(0, v15)] (frzS r10.2)).bind fun r19 =>
some (r19.1, r19.2)).map (quietR r10.2)).bind fun r16 =>
(((callV Try.prog R (.func (.func 33) #[] #[]) [r10.1, v11, r16.1] r16.2).bind fun r18 =>
some (r18.1, r18.2)).bind (ownR r16.2)).bind fun r17 =>
retV [r17.1, (.int .i64 0)] r17.2)))

theorem owner_Split_of {lib : Lib} (hl : lib 10 = none) {x0 x1 : Value} {s : St} {r : Value × St} (h : owner_Split (run Try.prog lib hints) x0 x1 s = some r) : run Try.prog lib hints 10 [x0, x1] s = some r :=
  run_of hl Try.func10 (Eq.trans (by kernel_rfl) h)

theorem owner_Split_ok : funcOk Try.prog 10 = true := by kernel_rfl
theorem owner_Split_call {R : Caller} {xs : List Value} {s : St} : callV Try.prog R (.func (.func 10) #[] #[]) xs s = R 10 xs s := callV_eq owner_Split_ok

/-! ### sumpter/sumpterref17.Split: 11 -/

noncomputable def ref17_Split (R : Caller) (x0 x1 : Value) (s : St) : Option (Value × St) :=
(callV Try.prog R (.func (.func 16) #[] #[]) [x0, x1] s).bind fun r0 =>
(aextract 0 r0.1).bind fun v1 =>
(aextract 1 r0.1).bind fun v2 =>
(abin Try.prog .neq 24 (.tmp 15) (.const (.int .i64 0)) v2 (.int .i64 0)).bind fun v3 =>
condV v3
 (retV [(.slice none 0 0), v2] r0.2)
 ((aindexS 2 x0 v1).bind fun v4 =>
(afieldAddr 0 v4).bind fun v5 =>
(aload false 1 v5 r0.2).bind fun v6 =>
(abin Try.prog .eql 9 (.tmp 22) (.tmp 23) v6 x1).bind fun v7 =>
condV v7
 (retV [(.slice none 0 0), (.int .i64 6)] r0.2)
 ((alenV (.slice 30) x0 r0.2).bind fun v8 =>
(abin Try.prog .eql 3 (.tmp 26) (.const (.int .i64 6)) v8 (.int .i64 6)).bind fun v9 =>
condV v9
 (retV [(.slice none 0 0), (.int .i64 3)] r0.2)
 ((abin Try.prog .add 3 (.tmp 29) (.const (.int .i64 1)) v1 (.int .i64 1)).bind fun v10 =>
(asliceV 2 x0 none (some v10) none).bind fun v11 =>
(aappend 2 24 (.slice none 0 0) v11 r0.2).bind fun r12 =>
(aindexS 2 x0 v1).bind fun v13 =>
(afieldAddr 1 v13).bind fun v14 =>
(aload false 1 v14 r12.2).bind fun v15 =>
(abuild Try.prog 30 [(0, x1), (1, v15)]).bind fun v16 =>
(abuildSl 2 [(.string ⟨#[]⟩), (.int .i64 0)] 1 [(0, v16)] r12.2).bind fun r17 =>
(aappend 2 24 r12.1 r17.1 r17.2).bind fun r18 =>
(abin Try.prog .add 3 (.tmp 45) (.const (.int .i64 1)) v1 (.int .i64 1)).bind fun v19 =>
(asliceV 2 x0 (some v19) none none).bind fun v20 =>
(aappend 2 24 r18.1 v20 r18.2).bind fun r21 =>
retV [r21.1, (.int .i64 0)] r21.2)))

theorem ref17_Split_of {lib : Lib} (hl : lib 11 = none) {x0 x1 : Value} {s : St} {r : Value × St} (h : ref17_Split (run Try.prog lib hints) x0 x1 s = some r) : run Try.prog lib hints 11 [x0, x1] s = some r :=
  run_of hl Try.func11 (Eq.trans (by kernel_rfl) h)

theorem ref17_Split_ok : funcOk Try.prog 11 = true := by kernel_rfl
theorem ref17_Split_call {R : Caller} {xs : List Value} {s : St} : callV Try.prog R (.func (.func 11) #[] #[]) xs s = R 11 xs s := callV_eq ref17_Split_ok

/-! ### sumpter/owner.Give: 12 -/

noncomputable def owner_Give (R : Caller) (x0 x1 x2 : Value) (s : St) : Option (Value × St) :=
(callV Try.prog R (.func (.func 19) #[] #[]) [x0] s).bind fun r0 =>
(abin Try.prog .neq 24 (.tmp 11) (.const (.int .i64 0)) r0.1 (.int .i64 0)).bind fun v1 =>
condV v1
 (retV [(.slice none 0 0), r0.1] r0.2)
 ((abin Try.prog .lss 3 (.tmp 14) (.const (.int .i64 0)) x1 (.int .i64 0)).bind fun v2 =>
(guardV v2 false ((alenV (.slice 30) x0 r0.2).bind fun v3 =>
(abin Try.prog .geq 3 (.tmp 17) (.tmp 19) x1 v3).bind fun v4 =>
some ([v4], r0.2)) (some ([undef], r0.2))).bind fun q5 =>
(apick v2 (.bool true) (getL q5.1 0)).bind fun v6 =>
condV v6
 (retV [(.slice none 0 0), (.int .i64 5)] q5.2)
 ((abin Try.prog .lss 3 (.tmp 22) (.const (.int .i64 1)) x2 (.int .i64 1)).bind fun v7 =>
(guardV v7 false ((abin Try.prog .gtr 3 (.tmp 25) (.const (.int .i64 4)) x2 (.int .i64 4)).bind fun v8 =>
some ([v8], q5.2)) (some ([undef], q5.2))).bind fun q9 =>
(apick v7 (.bool true) (getL q9.1 0)).bind fun v10 =>
condV v10
 (retV [(.slice none 0 0), (.int .i64 1)] q9.2)
 ((callV Try.prog R (.func (.func 34) #[] #[]) [x0] q9.2).bind fun r11 =>
(aindexS 2 r11.1 x1).bind fun v12 =>
(afieldAddr 1 v12).bind fun v13 =>
(astore 1 v13 x2 r11.2).bind fun s14 =>
retV [r11.1, (.int .i64 0)] s14)))

theorem owner_Give_of {lib : Lib} (hl : lib 12 = none) {x0 x1 x2 : Value} {s : St} {r : Value × St} (h : owner_Give (run Try.prog lib hints) x0 x1 x2 s = some r) : run Try.prog lib hints 12 [x0, x1, x2] s = some r :=
  run_of hl Try.func12 (Eq.trans (by kernel_rfl) h)

theorem owner_Give_ok : funcOk Try.prog 12 = true := by kernel_rfl
theorem owner_Give_call {R : Caller} {xs : List Value} {s : St} : callV Try.prog R (.func (.func 12) #[] #[]) xs s = R 12 xs s := callV_eq owner_Give_ok

/-! ### sumpter/sumpterref17.Give: 13 -/

noncomputable def ref17_Give (R : Caller) (x0 x1 x2 : Value) (s : St) : Option (Value × St) :=
(callV Try.prog R (.func (.func 20) #[] #[]) [x0] s).bind fun r0 =>
(abin Try.prog .neq 24 (.tmp 12) (.const (.int .i64 0)) r0.1 (.int .i64 0)).bind fun v1 =>
condV v1
 (retV [(.slice none 0 0), r0.1] r0.2)
 ((abin Try.prog .lss 3 (.tmp 15) (.const (.int .i64 0)) x1 (.int .i64 0)).bind fun v2 =>
(guardV v2 false ((alenV (.slice 30) x0 r0.2).bind fun v3 =>
(abin Try.prog .geq 3 (.tmp 18) (.tmp 20) x1 v3).bind fun v4 =>
some ([v4], r0.2)) (some ([undef], r0.2))).bind fun q5 =>
(apick v2 (.bool true) (getL q5.1 0)).bind fun v6 =>
condV v6
 (retV [(.slice none 0 0), (.int .i64 5)] q5.2)
 ((abin Try.prog .lss 3 (.tmp 23) (.const (.int .i64 1)) x2 (.int .i64 1)).bind fun v7 =>
(guardV v7 false ((abin Try.prog .gtr 3 (.tmp 26) (.const (.int .i64 4)) x2 (.int .i64 4)).bind fun v8 =>
some ([v8], q5.2)) (some ([undef], q5.2))).bind fun q9 =>
(apick v7 (.bool true) (getL q9.1 0)).bind fun v10 =>
condV v10
 (retV [(.slice none 0 0), (.int .i64 1)] q9.2)
 ((aappend 2 24 (.slice none 0 0) x0 q9.2).bind fun r11 =>
(aindexS 2 r11.1 x1).bind fun v12 =>
(afieldAddr 1 v12).bind fun v13 =>
(astore 1 v13 x2 r11.2).bind fun s14 =>
retV [r11.1, (.int .i64 0)] s14)))

theorem ref17_Give_of {lib : Lib} (hl : lib 13 = none) {x0 x1 x2 : Value} {s : St} {r : Value × St} (h : ref17_Give (run Try.prog lib hints) x0 x1 x2 s = some r) : run Try.prog lib hints 13 [x0, x1, x2] s = some r :=
  run_of hl Try.func13 (Eq.trans (by kernel_rfl) h)

theorem ref17_Give_ok : funcOk Try.prog 13 = true := by kernel_rfl
theorem ref17_Give_call {R : Caller} {xs : List Value} {s : St} : callV Try.prog R (.func (.func 13) #[] #[]) xs s = R 13 xs s := callV_eq ref17_Give_ok

/-! ### sumpter/sumpterref17.Same: 14 -/

noncomputable def ref17_Same.b0 (R : Caller) (T : List Value) (s : St) : Res :=
(abin Try.prog .lss 3 (.tmp 13) (.tmp 12) (getL T 3) (getL T 2)).bind fun v4 =>
condV v4
 ((aindexS 2 (getL T 0) (getL T 3)).bind fun v5 =>
((aload true 2 v5 (frzS s)).bind fun v12 =>
some (v12, (frzS s))).bind fun r6 =>
(aindexS 2 (getL T 1) (getL T 3)).bind fun v7 =>
((aload true 2 v7 (frzS s)).bind fun v11 =>
some (v11, (frzS s))).bind fun r8 =>
(abin Try.prog .neq 30 (.tmp 19) (.tmp 23) r6.1 r8.1).bind fun v9 =>
condV v9
 (some (.ret, [(.bool false)], s))
 ((abin Try.prog .add 3 (.tmp 13) (.const (.int .i64 1)) (getL T 3) (.int .i64 1)).bind fun v10 =>
some (.normal, [(getL T 0), (getL T 1), (getL T 2), v10], s)))
 (some (.exit 0, [], s))

noncomputable def ref17_Same (R : Caller) (x0 x1 : Value) (s : St) : Option (Value × St) :=
(alenV (.slice 30) x0 s).bind fun v0 =>
(alenV (.slice 30) x1 s).bind fun v1 =>
(abin Try.prog .neq 3 (.tmp 7) (.tmp 9) v0 v1).bind fun v2 =>
condV v2
 (retV [(.bool false)] s)
 ((alenV (.slice 30) x0 s).bind fun v3 =>
(loopL (ref17_Same.b0 R) [x0, x1, v3, (.int .i64 0)] s).bind fun r13 =>
exV r13.1 [(0, retV [(.bool true)] r13.2.2)]
 (retV [(getL r13.2.1 0)] r13.2.2))

theorem ref17_Same_of {lib : Lib} (hl : lib 14 = none) {x0 x1 : Value} {s : St} {r : Value × St} (h : ref17_Same (run Try.prog lib hints) x0 x1 s = some r) : run Try.prog lib hints 14 [x0, x1] s = some r :=
  run_of hl Try.func14 (Eq.trans (by kernel_rfl) h)

theorem ref17_Same_ok : funcOk Try.prog 14 = true := by kernel_rfl
theorem ref17_Same_call {R : Caller} {xs : List Value} {s : St} : callV Try.prog R (.func (.func 14) #[] #[]) xs s = R 14 xs s := callV_eq ref17_Same_ok

/-! ### sumpter/owner.Find: 15 -/

noncomputable def owner_Find.j0 (R : Caller) (T : List Value) (s : St) : Option (Value × St) :=
retV [(getL T 0), (.int .i64 0)] s

noncomputable def owner_Find (R : Caller) (x0 x1 : Value) (s : St) : Option (Value × St) :=
(callV Try.prog R (.func (.func 19) #[] #[]) [x0] s).bind fun r0 =>
(abin Try.prog .neq 24 (.tmp 12) (.const (.int .i64 0)) r0.1 (.int .i64 0)).bind fun v1 =>
condV v1
 (retV [(.int .i64 0), r0.1] r0.2)
 ((callV Try.prog R (.func (.func 25) #[] #[]) [x1] r0.2).bind fun r2 =>
(abin Try.prog .neq 24 (.tmp 17) (.const (.int .i64 0)) r2.1 (.int .i64 0)).bind fun v3 =>
condV v3
 (retV [(.int .i64 0), r2.1] r2.2)
 ((callV Try.prog R (.func (.func 35) #[] #[]) [x0, x1, (.func (.func 36) #[] #[])] r2.2).bind fun r4 =>
(aextract 0 r4.1).bind fun v5 =>
(aextract 1 r4.1).bind fun v6 =>
(aun .not v6).bind fun v8 =>
condV v8
 ((abin Try.prog .sub 3 (.tmp 28) (.const (.int .i64 1)) v5 (.int .i64 1)).bind fun v9 =>
joinK (owner_Find.j0 R) [v9] r4.2)
 (joinK (owner_Find.j0 R) [v5] r4.2)))

theorem owner_Find_of {lib : Lib} (hl : lib 15 = none) {x0 x1 : Value} {s : St} {r : Value × St} (h : owner_Find (run Try.prog lib hints) x0 x1 s = some r) : run Try.prog lib hints 15 [x0, x1] s = some r :=
  run_of hl Try.func15 (Eq.trans (by kernel_rfl) h)

theorem owner_Find_ok : funcOk Try.prog 15 = true := by kernel_rfl
theorem owner_Find_call {R : Caller} {xs : List Value} {s : St} : callV Try.prog R (.func (.func 15) #[] #[]) xs s = R 15 xs s := callV_eq owner_Find_ok

/-! ### sumpter/sumpterref17.Find: 16 -/

noncomputable def ref17_Find (R : Caller) (x0 x1 : Value) (s : St) : Option (Value × St) :=
(callV Try.prog R (.func (.func 20) #[] #[]) [x0] s).bind fun r0 =>
(abin Try.prog .neq 24 (.tmp 10) (.const (.int .i64 0)) r0.1 (.int .i64 0)).bind fun v1 =>
condV v1
 (retV [(.int .i64 0), r0.1] r0.2)
 ((callV Try.prog R (.func (.func 38) #[] #[]) [x1] r0.2).bind fun r2 =>
(abin Try.prog .neq 24 (.tmp 15) (.const (.int .i64 0)) r2.1 (.int .i64 0)).bind fun v3 =>
condV v3
 (retV [(.int .i64 0), r2.1] r2.2)
 ((callV Try.prog R (.func (.func 39) #[] #[]) [x0, x1] r2.2).bind fun r4 =>
retV [r4.1, (.int .i64 0)] r4.2))

theorem ref17_Find_of {lib : Lib} (hl : lib 16 = none) {x0 x1 : Value} {s : St} {r : Value × St} (h : ref17_Find (run Try.prog lib hints) x0 x1 s = some r) : run Try.prog lib hints 16 [x0, x1] s = some r :=
  run_of hl Try.func16 (Eq.trans (by kernel_rfl) h)

theorem ref17_Find_ok : funcOk Try.prog 16 = true := by kernel_rfl
theorem ref17_Find_call {R : Caller} {xs : List Value} {s : St} : callV Try.prog R (.func (.func 16) #[] #[]) xs s = R 16 xs s := callV_eq ref17_Find_ok

/-! ### sumpter/owner.RangeOf: 17 -/

noncomputable def owner_RangeOf (R : Caller) (x0 x1 : Value) (s : St) : Option (Value × St) :=
(callV Try.prog R (.func (.func 19) #[] #[]) [x0] s).bind fun r0 =>
(abin Try.prog .neq 24 (.tmp 9) (.const (.int .i64 0)) r0.1 (.int .i64 0)).bind fun v1 =>
condV v1
 (retV [(.agg #[(.string ⟨#[]⟩), (.string ⟨#[]⟩)]), r0.1] r0.2)
 ((abin Try.prog .lss 3 (.tmp 13) (.const (.int .i64 0)) x1 (.int .i64 0)).bind fun v2 =>
(guardV v2 false ((alenV (.slice 30) x0 r0.2).bind fun v3 =>
(abin Try.prog .geq 3 (.tmp 16) (.tmp 18) x1 v3).bind fun v4 =>
some ([v4], r0.2)) (some ([undef], r0.2))).bind fun q5 =>
(apick v2 (.bool true) (getL q5.1 0)).bind fun v6 =>
condV v6
 (retV [(.agg #[(.string ⟨#[]⟩), (.string ⟨#[]⟩)]), (.int .i64 5)] q5.2)
 ((callV Try.prog R (.func (.func 40) #[] #[]) [x0, x1] q5.2).bind fun r7 =>
(lstore 2 lptr r7.1 (.agg #[(.string ⟨#[]⟩), (.string ⟨#[]⟩)])).bind fun v8 =>
(lload true 2 lptr v8).bind fun v9 =>
retV [v9, (.int .i64 0)] r7.2))

theorem owner_RangeOf_of {lib : Lib} (hl : lib 17 = none) {x0 x1 : Value} {s : St} {r : Value × St} (h : owner_RangeOf (run Try.prog lib hints) x0 x1 s = some r) : run Try.prog lib hints 17 [x0, x1] s = some r :=
  run_of hl Try.func17 (Eq.trans (by kernel_rfl) h)

theorem owner_RangeOf_ok : funcOk Try.prog 17 = true := by kernel_rfl
theorem owner_RangeOf_call {R : Caller} {xs : List Value} {s : St} : callV Try.prog R (.func (.func 17) #[] #[]) xs s = R 17 xs s := callV_eq owner_RangeOf_ok

/-! ### sumpter/sumpterref17.RangeOf: 18 -/

noncomputable def ref17_RangeOf (R : Caller) (x0 x1 : Value) (s : St) : Option (Value × St) :=
(callV Try.prog R (.func (.func 20) #[] #[]) [x0] s).bind fun r0 =>
(abin Try.prog .neq 24 (.tmp 9) (.const (.int .i64 0)) r0.1 (.int .i64 0)).bind fun v1 =>
condV v1
 (retV [(.agg #[(.string ⟨#[]⟩), (.string ⟨#[]⟩)]), r0.1] r0.2)
 ((abin Try.prog .lss 3 (.tmp 13) (.const (.int .i64 0)) x1 (.int .i64 0)).bind fun v2 =>
(guardV v2 false ((alenV (.slice 30) x0 r0.2).bind fun v3 =>
(abin Try.prog .geq 3 (.tmp 16) (.tmp 18) x1 v3).bind fun v4 =>
some ([v4], r0.2)) (some ([undef], r0.2))).bind fun q5 =>
(apick v2 (.bool true) (getL q5.1 0)).bind fun v6 =>
condV v6
 (retV [(.agg #[(.string ⟨#[]⟩), (.string ⟨#[]⟩)]), (.int .i64 5)] q5.2)
 ((callV Try.prog R (.func (.func 41) #[] #[]) [x0, x1] q5.2).bind fun r7 =>
(lstore 2 lptr r7.1 (.agg #[(.string ⟨#[]⟩), (.string ⟨#[]⟩)])).bind fun v8 =>
(lload true 2 lptr v8).bind fun v9 =>
retV [v9, (.int .i64 0)] r7.2))

theorem ref17_RangeOf_of {lib : Lib} (hl : lib 18 = none) {x0 x1 : Value} {s : St} {r : Value × St} (h : ref17_RangeOf (run Try.prog lib hints) x0 x1 s = some r) : run Try.prog lib hints 18 [x0, x1] s = some r :=
  run_of hl Try.func18 (Eq.trans (by kernel_rfl) h)

theorem ref17_RangeOf_ok : funcOk Try.prog 18 = true := by kernel_rfl
theorem ref17_RangeOf_call {R : Caller} {xs : List Value} {s : St} : callV Try.prog R (.func (.func 18) #[] #[]) xs s = R 18 xs s := callV_eq ref17_RangeOf_ok

/-! ### sumpter/owner.Check: 19 -/

noncomputable def owner_Check.b0 (R : Caller) (T : List Value) (s : St) : Res :=
(abin Try.prog .lss 3 (.tmp 22) (.tmp 21) (getL T 3) (getL T 2)).bind fun v13 =>
condV v13
 ((aindexS 2 (getL T 1) (getL T 3)).bind fun v14 =>
(aload true 2 v14 s).bind fun v15 =>
(lstore 2 lptr v15 (.agg #[(.string ⟨#[]⟩), (.int .i64 0)])).bind fun v16 =>
(lload false 1 (.pointer (some ⟨0, 1, none⟩)) v16).bind fun v17 =>
(abin Try.prog .lss 3 (.tmp 28) (.const (.int .i64 1)) v17 (.int .i64 1)).bind fun v18 =>
(guardV v18 false (some ([(.pointer (some ⟨0, 1, none⟩))], s)) (some ([undef], s))).bind fun q19 =>
(guardV v18 false ((lload false 1 (getL q19.1 0) v16).bind fun v20 =>
some ([v20], q19.2)) (some ([undef], q19.2))).bind fun q21 =>
(guardV v18 false ((abin Try.prog .gtr 3 (.tmp 32) (.const (.int .i64 4)) (getL q21.1 0) (.int .i64 4)).bind fun v22 =>
some ([v22], q21.2)) (some ([undef], q21.2))).bind fun q23 =>
(apick v18 (.bool true) (getL q23.1 0)).bind fun v24 =>
(guardV v24 false (some ([(getL T 3)], q23.2)) (some ([undef], q23.2))).bind fun q25 =>
(guardV v24 false ((abin Try.prog .gtr 3 (.tmp 36) (.const (.int .i64 0)) (getL q25.1 0) (.int .i64 0)).bind fun v26 =>
some ([v26], q25.2)) (some ([undef], q25.2))).bind fun q27 =>
(guardV v24 false (some ([(getL q27.1 0)], q27.2)) (some ([undef], q27.2))).bind fun q28 =>
(guardV (getL q28.1 0) true (some ([lptr], q28.2)) (some ([undef], q28.2))).bind fun q29 =>
(guardV (getL q28.1 0) true ((lload false 1 (getL q29.1 0) v16).bind fun v30 =>
some ([v30], q29.2)) (some ([undef], q29.2))).bind fun q31 =>
((guardV (getL q28.1 0) true ((callV Try.prog R (.func (.func 25) #[] #[]) [(getL q31.1 0)] q31.2).bind fun r57 =>
some (r57.1, r57.2)) (some (undef, q31.2))).bind (ownR q31.2)).bind fun r32 =>
(guardV (getL q28.1 0) true ((abin Try.prog .neq 24 (.tmp 41) (.const (.int .i64 0)) r32.1 (.int .i64 0)).bind fun v33 =>
some ([v33], r32.2)) (some ([undef], r32.2))).bind fun q34 =>
(guardV (getL q28.1 0) true (some ([(getL q34.1 0)], q34.2)) (some ([undef], q34.2))).bind fun q35 =>
(guardV (getL q35.1 0) false (some ([(getL T 0)], q35.2)) (some ([undef], q35.2))).bind fun q36 =>
(guardV (getL q35.1 0) false (some ([(getL T 3)], q36.2)) (some ([undef], q36.2))).bind fun q37 =>
(guardV (getL q35.1 0) false ((abin Try.prog .sub 3 (.tmp 45) (.const (.int .i64 1)) (getL q37.1 0) (.int .i64 1)).bind fun v38 =>
some ([v38], q37.2)) (some ([undef], q37.2))).bind fun q39 =>
(guardV (getL q35.1 0) false ((aindexS 2 (getL q36.1 0) (getL q39.1 0)).bind fun v40 =>
some ([v40], q39.2)) (some ([undef], q39.2))).bind fun q41 =>
(guardV (getL q35.1 0) false ((afieldAddr 0 (getL q41.1 0)).bind fun v42 =>
some ([v42], q41.2)) (some ([undef], q41.2))).bind fun q43 =>
((guardV (getL q35.1 0) false ((aload false 1 (getL q43.1 0) q43.2).bind fun v56 =>
some (v56, q43.2)) (some (undef, q43.2))).bind (ownR q43.2)).bind fun r44 =>
(guardV (getL q35.1 0) false (some ([lptr], r44.2)) (some ([undef], r44.2))).bind fun q45 =>
(guardV (getL q35.1 0) false ((lload false 1 (getL q45.1 0) v16).bind fun v46 =>
some ([v46], q45.2)) (some ([undef], q45.2))).bind fun q47 =>
(guardV (getL q35.1 0) false ((abin Try.prog .geq 9 (.tmp 49) (.tmp 51) r44.1 (getL q47.1 0)).bind fun v48 =>
some ([v48], q47.2)) (some ([undef], q47.2))).bind fun q49 =>
(guardV (getL q28.1 0) true ((apick (getL q35.1 0) (.bool true) (getL q49.1 0)).bind fun v50 =>
some ([v50], q49.2)) (some ([undef], q49.2))).bind fun q51 =>
(guardV v24 false ((apick (getL q28.1 0) (getL q51.1 0) (.bool false)).bind fun v52 =>
some ([v52], q51.2)) (some ([undef], q51.2))).bind fun q53 =>
(apick v24 (.bool true) (getL q53.1 0)).bind fun v54 =>
condV v54
 (some (.ret, [(.int .i64 170)], q53.2))
 ((abin Try.prog .add 3 (.tmp 22) (.const (.int .i64 1)) (getL T 3) (.int .i64 1)).bind fun v55 =>
some (.normal, [(getL T 0), (getL T 1), (getL T 2), v55], q53.2)))
 (some (.exit 0, [], s))

noncomputable def owner_Check (R : Caller) (x0 : Value) (s : St) : Option (Value × St) :=
(alenV (.slice 30) x0 s).bind fun v0 =>
(abin Try.prog .eql 3 (.tmp 6) (.const (.int .i64 0)) v0 (.int .i64 0)).bind fun v1 =>
(guardV v1 false ((alenV (.slice 30) x0 s).bind fun v2 =>
(abin Try.prog .gtr 3 (.tmp 10) (.const (.int .i64 6)) v2 (.int .i64 6)).bind fun v3 =>
some ([v3], s)) (some ([undef], s))).bind fun q4 =>
(apick v1 (.bool true) (getL q4.1 0)).bind fun v5 =>
(guardV v5 false ((aindexS 2 x0 (.int .i64 0)).bind fun v6 =>
(afieldAddr 0 v6).bind fun v7 =>
(aload false 1 v7 q4.2).bind fun v8 =>
(abin Try.prog .neq 9 (.tmp 17) (.const (.string ⟨#[]⟩)) v8 (.string ⟨#[]⟩)).bind fun v9 =>
some ([v9], q4.2)) (some ([undef], q4.2))).bind fun q10 =>
(apick v5 (.bool true) (getL q10.1 0)).bind fun v11 =>
condV v11
 (retV [(.int .i64 170)] q10.2)
 ((alenV (.slice 30) x0 q10.2).bind fun v12 =>
(loopL (owner_Check.b0 R) [x0, x0, v12, (.int .i64 0)] q10.2).bind fun r58 =>
exV r58.1 [(0, retV [(.int .i64 0)] r58.2.2)]
 (retV [(getL r58.2.1 0)] r58.2.2))

theorem owner_Check_of {lib : Lib} (hl : lib 19 = none) {x0 : Value} {s : St} {r : Value × St} (h : owner_Check (run Try.prog lib hints) x0 s = some r) : run Try.prog lib hints 19 [x0] s = some r :=
  run_of hl Try.func19 (Eq.trans (by kernel_rfl) h)

theorem owner_Check_ok : funcOk Try.prog 19 = true := by kernel_rfl
theorem owner_Check_call {R : Caller} {xs : List Value} {s : St} : callV Try.prog R (.func (.func 19) #[] #[]) xs s = R 19 xs s := callV_eq owner_Check_ok

/-! ### sumpter/sumpterref17.Check: 20 -/

noncomputable def ref17_Check.b0 (R : Caller) (T : List Value) (s : St) : Res :=
(abin Try.prog .lss 3 (.tmp 22) (.tmp 21) (getL T 3) (getL T 2)).bind fun v13 =>
condV v13
 ((aindexS 2 (getL T 1) (getL T 3)).bind fun v14 =>
(aload true 2 v14 s).bind fun v15 =>
(lstore 2 lptr v15 (.agg #[(.string ⟨#[]⟩), (.int .i64 0)])).bind fun v16 =>
(lload false 1 (.pointer (some ⟨0, 1, none⟩)) v16).bind fun v17 =>
(abin Try.prog .lss 3 (.tmp 28) (.const (.int .i64 1)) v17 (.int .i64 1)).bind fun v18 =>
(guardV v18 false (some ([(.pointer (some ⟨0, 1, none⟩))], s)) (some ([undef], s))).bind fun q19 =>
(guardV v18 false ((lload false 1 (getL q19.1 0) v16).bind fun v20 =>
some ([v20], q19.2)) (some ([undef], q19.2))).bind fun q21 =>
(guardV v18 false ((abin Try.prog .gtr 3 (.tmp 32) (.const (.int .i64 4)) (getL q21.1 0) (.int .i64 4)).bind fun v22 =>
some ([v22], q21.2)) (some ([undef], q21.2))).bind fun q23 =>
(apick v18 (.bool true) (getL q23.1 0)).bind fun v24 =>
(guardV v24 false (some ([(getL T 3)], q23.2)) (some ([undef], q23.2))).bind fun q25 =>
(guardV v24 false ((abin Try.prog .gtr 3 (.tmp 36) (.const (.int .i64 0)) (getL q25.1 0) (.int .i64 0)).bind fun v26 =>
some ([v26], q25.2)) (some ([undef], q25.2))).bind fun q27 =>
(guardV v24 false (some ([(getL q27.1 0)], q27.2)) (some ([undef], q27.2))).bind fun q28 =>
(guardV (getL q28.1 0) true (some ([lptr], q28.2)) (some ([undef], q28.2))).bind fun q29 =>
(guardV (getL q28.1 0) true ((lload false 1 (getL q29.1 0) v16).bind fun v30 =>
some ([v30], q29.2)) (some ([undef], q29.2))).bind fun q31 =>
((guardV (getL q28.1 0) true ((callV Try.prog R (.func (.func 38) #[] #[]) [(getL q31.1 0)] q31.2).bind fun r57 =>
some (r57.1, r57.2)) (some (undef, q31.2))).bind (ownR q31.2)).bind fun r32 =>
(guardV (getL q28.1 0) true ((abin Try.prog .neq 24 (.tmp 41) (.const (.int .i64 0)) r32.1 (.int .i64 0)).bind fun v33 =>
some ([v33], r32.2)) (some ([undef], r32.2))).bind fun q34 =>
(guardV (getL q28.1 0) true (some ([(getL q34.1 0)], q34.2)) (some ([undef], q34.2))).bind fun q35 =>
(guardV (getL q35.1 0) false (some ([(getL T 0)], q35.2)) (some ([undef], q35.2))).bind fun q36 =>
(guardV (getL q35.1 0) false (some ([(getL T 3)], q36.2)) (some ([undef], q36.2))).bind fun q37 =>
(guardV (getL q35.1 0) false ((abin Try.prog .sub 3 (.tmp 45) (.const (.int .i64 1)) (getL q37.1 0) (.int .i64 1)).bind fun v38 =>
some ([v38], q37.2)) (some ([undef], q37.2))).bind fun q39 =>
(guardV (getL q35.1 0) false ((aindexS 2 (getL q36.1 0) (getL q39.1 0)).bind fun v40 =>
some ([v40], q39.2)) (some ([undef], q39.2))).bind fun q41 =>
(guardV (getL q35.1 0) false ((afieldAddr 0 (getL q41.1 0)).bind fun v42 =>
some ([v42], q41.2)) (some ([undef], q41.2))).bind fun q43 =>
((guardV (getL q35.1 0) false ((aload false 1 (getL q43.1 0) q43.2).bind fun v56 =>
some (v56, q43.2)) (some (undef, q43.2))).bind (ownR q43.2)).bind fun r44 =>
(guardV (getL q35.1 0) false (some ([lptr], r44.2)) (some ([undef], r44.2))).bind fun q45 =>
(guardV (getL q35.1 0) false ((lload false 1 (getL q45.1 0) v16).bind fun v46 =>
some ([v46], q45.2)) (some ([undef], q45.2))).bind fun q47 =>
(guardV (getL q35.1 0) false ((abin Try.prog .geq 9 (.tmp 49) (.tmp 51) r44.1 (getL q47.1 0)).bind fun v48 =>
some ([v48], q47.2)) (some ([undef], q47.2))).bind fun q49 =>
(guardV (getL q28.1 0) true ((apick (getL q35.1 0) (.bool true) (getL q49.1 0)).bind fun v50 =>
some ([v50], q49.2)) (some ([undef], q49.2))).bind fun q51 =>
(guardV v24 false ((apick (getL q28.1 0) (getL q51.1 0) (.bool false)).bind fun v52 =>
some ([v52], q51.2)) (some ([undef], q51.2))).bind fun q53 =>
(apick v24 (.bool true) (getL q53.1 0)).bind fun v54 =>
condV v54
 (some (.ret, [(.int .i64 170)], q53.2))
 ((abin Try.prog .add 3 (.tmp 22) (.const (.int .i64 1)) (getL T 3) (.int .i64 1)).bind fun v55 =>
some (.normal, [(getL T 0), (getL T 1), (getL T 2), v55], q53.2)))
 (some (.exit 0, [], s))

noncomputable def ref17_Check (R : Caller) (x0 : Value) (s : St) : Option (Value × St) :=
(alenV (.slice 30) x0 s).bind fun v0 =>
(abin Try.prog .lss 3 (.tmp 6) (.const (.int .i64 1)) v0 (.int .i64 1)).bind fun v1 =>
(guardV v1 false ((alenV (.slice 30) x0 s).bind fun v2 =>
(abin Try.prog .gtr 3 (.tmp 10) (.const (.int .i64 6)) v2 (.int .i64 6)).bind fun v3 =>
some ([v3], s)) (some ([undef], s))).bind fun q4 =>
(apick v1 (.bool true) (getL q4.1 0)).bind fun v5 =>
(guardV v5 false ((aindexS 2 x0 (.int .i64 0)).bind fun v6 =>
(afieldAddr 0 v6).bind fun v7 =>
(aload false 1 v7 q4.2).bind fun v8 =>
(abin Try.prog .neq 9 (.tmp 17) (.const (.string ⟨#[]⟩)) v8 (.string ⟨#[]⟩)).bind fun v9 =>
some ([v9], q4.2)) (some ([undef], q4.2))).bind fun q10 =>
(apick v5 (.bool true) (getL q10.1 0)).bind fun v11 =>
condV v11
 (retV [(.int .i64 170)] q10.2)
 ((alenV (.slice 30) x0 q10.2).bind fun v12 =>
(loopL (ref17_Check.b0 R) [x0, x0, v12, (.int .i64 0)] q10.2).bind fun r58 =>
exV r58.1 [(0, retV [(.int .i64 0)] r58.2.2)]
 (retV [(getL r58.2.1 0)] r58.2.2))

theorem ref17_Check_of {lib : Lib} (hl : lib 20 = none) {x0 : Value} {s : St} {r : Value × St} (h : ref17_Check (run Try.prog lib hints) x0 s = some r) : run Try.prog lib hints 20 [x0] s = some r :=
  run_of hl Try.func20 (Eq.trans (by kernel_rfl) h)

theorem ref17_Check_ok : funcOk Try.prog 20 = true := by kernel_rfl
theorem ref17_Check_call {R : Caller} {xs : List Value} {s : St} : callV Try.prog R (.func (.func 20) #[] #[]) xs s = R 20 xs s := callV_eq ref17_Check_ok

/-! ### sumpter/owner.Owns: 21 -/

noncomputable def owner_Owns.b0 (R : Caller) (T : List Value) (s : St) : Res :=
(abin Try.prog .lss 3 (.tmp 13) (.tmp 12) (getL T 4) (getL T 3)).bind fun v4 =>
condV v4
 ((aindexS 2 (getL T 0) (getL T 4)).bind fun v5 =>
(afieldAddr 1 v5).bind fun v6 =>
(((aload false 1 v6 s).bind fun v19 =>
some (v19, s)).bind (ownR s)).bind fun r7 =>
(abin Try.prog .eql 3 (.tmp 20) (.tmp 21) r7.1 (getL T 1)).bind fun v8 =>
(guardV v8 true (some ([(getL T 0)], r7.2)) (some ([undef], r7.2))).bind fun q9 =>
(guardV v8 true (some ([(getL T 4)], q9.2)) (some ([undef], q9.2))).bind fun q10 =>
((guardV v8 true ((callV Try.prog R (.func (.func 40) #[] #[]) [(getL q9.1 0), (getL q10.1 0)] q10.2).bind fun r18 =>
some (r18.1, r18.2)) (some (undef, q10.2))).bind (ownR q10.2)).bind fun r11 =>
(guardV v8 true ((lload true 2 (getL T 2) (getL T 5)).bind fun v12 =>
some ([v12], r11.2)) (some ([undef], r11.2))).bind fun q13 =>
((guardV v8 true ((callV Try.prog R (.func (.func 42) #[] #[]) [r11.1, (getL q13.1 0)] q13.2).bind fun r17 =>
some (r17.1, r17.2)) (some (undef, q13.2))).bind (ownR q13.2)).bind fun r14 =>
(apick v8 r14.1 (.bool false)).bind fun v15 =>
condV v15
 (some (.ret, [(.bool true)], r14.2))
 ((abin Try.prog .add 3 (.tmp 13) (.const (.int .i64 1)) (getL T 4) (.int .i64 1)).bind fun v16 =>
some (.normal, [(getL T 0), (getL T 1), (getL T 2), (getL T 3), v16, (getL T 5)], r14.2)))
 (some (.exit 0, [], s))

noncomputable def owner_Owns (R : Caller) (x0 x1 x2 : Value) (s : St) : Option (Value × St) :=
(lbox x2).bind fun v0 =>
(callV Try.prog R (.func (.func 19) #[] #[]) [x0] s).bind fun r1 =>
(abin Try.prog .neq 24 (.tmp 9) (.const (.int .i64 0)) r1.1 (.int .i64 0)).bind fun v2 =>
condV v2
 (retV [(.bool false)] r1.2)
 ((alenV (.slice 30) x0 r1.2).bind fun v3 =>
(loopL (owner_Owns.b0 R) [x0, x1, lptr, v3, (.int .i64 0), v0] r1.2).bind fun r20 =>
exV r20.1 [(0, retV [(.bool false)] r20.2.2)]
 (retV [(getL r20.2.1 0)] r20.2.2))

theorem owner_Owns_of {lib : Lib} (hl : lib 21 = none) {x0 x1 x2 : Value} {s : St} {r : Value × St} (h : owner_Owns (run Try.prog lib hints) x0 x1 x2 s = some r) : run Try.prog lib hints 21 [x0, x1, x2] s = some r :=
  run_of hl Try.func21 (Eq.trans (by kernel_rfl) h)

theorem owner_Owns_ok : funcOk Try.prog 21 = true := by kernel_rfl
theorem owner_Owns_call {R : Caller} {xs : List Value} {s : St} : callV Try.prog R (.func (.func 21) #[] #[]) xs s = R 21 xs s := callV_eq owner_Owns_ok

/-! ### sumpter/sumpterref17.Owns: 22 -/

noncomputable def ref17_Owns.b0 (R : Caller) (T : List Value) (s : St) : Res :=
(abin Try.prog .lss 3 (.tmp 19) (.tmp 18) (getL T 5) (getL T 4)).bind fun v9 =>
condV v9
 ((aindexS 2 (getL T 3) (getL T 5)).bind fun v10 =>
(aload true 2 v10 s).bind fun v11 =>
(lstore 2 lptr v11 (.agg #[(.string ⟨#[]⟩), (.int .i64 0)])).bind fun v12 =>
(lload false 1 (.pointer (some ⟨0, 1, none⟩)) v12).bind fun v13 =>
(abin Try.prog .eql 3 (.tmp 25) (.tmp 26) v13 (getL T 1)).bind fun v14 =>
(guardV v14 true (some ([(getL T 0)], s)) (some ([undef], s))).bind fun q15 =>
(guardV v14 true (some ([(getL T 5)], q15.2)) (some ([undef], q15.2))).bind fun q16 =>
((guardV v14 true ((callV Try.prog R (.func (.func 41) #[] #[]) [(getL q15.1 0), (getL q16.1 0)] q16.2).bind fun r24 =>
some (r24.1, r24.2)) (some (undef, q16.2))).bind (ownR q16.2)).bind fun r17 =>
(guardV v14 true ((lload true 2 (getL T 2) (getL T 6)).bind fun v18 =>
some ([v18], r17.2)) (some ([undef], r17.2))).bind fun q19 =>
((guardV v14 true ((callV Try.prog R (.func (.func 44) #[] #[]) [r17.1, (getL q19.1 0)] q19.2).bind fun r23 =>
some (r23.1, r23.2)) (some (undef, q19.2))).bind (ownR q19.2)).bind fun r20 =>
(apick v14 r20.1 (.bool false)).bind fun v21 =>
condV v21
 (some (.ret, [(.bool true)], r20.2))
 ((abin Try.prog .add 3 (.tmp 19) (.const (.int .i64 1)) (getL T 5) (.int .i64 1)).bind fun v22 =>
some (.normal, [(getL T 0), (getL T 1), (getL T 2), (getL T 3), (getL T 4), v22, (getL T 6)], r20.2)))
 (some (.exit 0, [], s))

noncomputable def ref17_Owns (R : Caller) (x0 x1 x2 : Value) (s : St) : Option (Value × St) :=
(lbox x2).bind fun v0 =>
(callV Try.prog R (.func (.func 20) #[] #[]) [x0] s).bind fun r1 =>
(abin Try.prog .neq 24 (.tmp 10) (.const (.int .i64 0)) r1.1 (.int .i64 0)).bind fun v2 =>
(guardV v2 false ((lload true 2 lptr v0).bind fun v3 =>
(callV Try.prog R (.func (.func 43) #[] #[]) [v3] r1.2).bind fun r4 =>
(abin Try.prog .neq 24 (.tmp 14) (.const (.int .i64 0)) r4.1 (.int .i64 0)).bind fun v5 =>
some ([v5], r4.2)) (some ([undef], r1.2))).bind fun q6 =>
(apick v2 (.bool true) (getL q6.1 0)).bind fun v7 =>
condV v7
 (retV [(.bool false)] q6.2)
 ((alenV (.slice 30) x0 q6.2).bind fun v8 =>
(loopL (ref17_Owns.b0 R) [x0, x1, lptr, x0, v8, (.int .i64 0), v0] q6.2).bind fun r25 =>
exV r25.1 [(0, retV [(.bool false)] r25.2.2)]
 (retV [(getL r25.2.1 0)] r25.2.2))

theorem ref17_Owns_of {lib : Lib} (hl : lib 22 = none) {x0 x1 x2 : Value} {s : St} {r : Value × St} (h : ref17_Owns (run Try.prog lib hints) x0 x1 x2 s = some r) : run Try.prog lib hints 22 [x0, x1, x2] s = some r :=
  run_of hl Try.func22 (Eq.trans (by kernel_rfl) h)

theorem ref17_Owns_ok : funcOk Try.prog 22 = true := by kernel_rfl
theorem ref17_Owns_call {R : Caller} {xs : List Value} {s : St} : callV Try.prog R (.func (.func 22) #[] #[]) xs s = R 22 xs s := callV_eq ref17_Owns_ok

/-! ### sumpter/span.Check: 23 -/

noncomputable def span_Check.j0 (R : Caller) (T : List Value) (s : St) : Option (Value × St) :=
condV (getL T 0)
 (retV [(.int .i64 21)] s)
 (retV [(.int .i64 0)] s)

noncomputable def span_Check (R : Caller) (x0 : Value) (s : St) : Option (Value × St) :=
(lbox x0).bind fun v0 =>
(lload true 2 lptr v0).bind fun v1 =>
(((callV Try.prog R (.func (.func 45) #[] #[]) [] s).bind fun r20 =>
some (r20.1, r20.2)).bind (ownR s)).bind fun r2 =>
(abin Try.prog .eql 33 (.tmp 4) (.tmp 5) v1 r2.1).bind fun v3 =>
condV v3
 (retV [(.int .i64 0)] r2.2)
 ((lload false 1 lptr v0).bind fun v5 =>
(alenV .string v5 r2.2).bind fun v6 =>
(abin Try.prog .gtr 3 (.tmp 10) (.const (.int .i64 12)) v6 (.int .i64 12)).bind fun v7 =>
(guardV v7 false ((lload false 1 (.pointer (some ⟨0, 1, none⟩)) v0).bind fun v8 =>
(alenV .string v8 r2.2).bind fun v9 =>
(abin Try.prog .gtr 3 (.tmp 15) (.const (.int .i64 12)) v9 (.int .i64 12)).bind fun v10 =>
some ([v10], r2.2)) (some ([undef], r2.2))).bind fun q11 =>
(apick v7 (.bool true) (getL q11.1 0)).bind fun v12 =>
condV v12
 (joinK (span_Check.j0 R) [v12] q11.2)
 ((lload false 1 (.pointer (some ⟨0, 1, none⟩)) v0).bind fun v13 =>
(abin Try.prog .neq 9 (.tmp 19) (.const (.string ⟨#[]⟩)) v13 (.string ⟨#[]⟩)).bind fun v14 =>
(guardV v14 true ((lload false 1 lptr v0).bind fun v15 =>
(lload false 1 (.pointer (some ⟨0, 1, none⟩)) v0).bind fun v16 =>
(abin Try.prog .geq 9 (.tmp 23) (.tmp 25) v15 v16).bind fun v17 =>
some ([v17], q11.2)) (some ([undef], q11.2))).bind fun q18 =>
(apick v14 (getL q18.1 0) (.bool false)).bind fun v19 =>
joinK (span_Check.j0 R) [v19] q18.2))

theorem span_Check_of {lib : Lib} (hl : lib 23 = none) {x0 : Value} {s : St} {r : Value × St} (h : span_Check (run Try.prog lib hints) x0 s = some r) : run Try.prog lib hints 23 [x0] s = some r :=
  run_of hl Try.func23 (Eq.trans (by kernel_rfl) h)

theorem span_Check_ok : funcOk Try.prog 23 = true := by kernel_rfl
theorem span_Check_call {R : Caller} {xs : List Value} {s : St} : callV Try.prog R (.func (.func 23) #[] #[]) xs s = R 23 xs s := callV_eq span_Check_ok

/-! ### sumpter/span.Has: 24 -/

noncomputable def span_Has (R : Caller) (x0 x1 : Value) (s : St) : Option (Value × St) :=
(lbox x0).bind fun v0 =>
(lload true 2 lptr v0).bind fun v1 =>
(callV Try.prog R (.func (.func 23) #[] #[]) [v1] s).bind fun r2 =>
(abin Try.prog .eql 24 (.tmp 6) (.const (.int .i64 0)) r2.1 (.int .i64 0)).bind fun v3 =>
(guardV v3 true ((callV Try.prog R (.func (.func 25) #[] #[]) [x1] r2.2).bind fun r4 =>
(abin Try.prog .eql 24 (.tmp 10) (.const (.int .i64 0)) r4.1 (.int .i64 0)).bind fun v5 =>
some ([v5], r4.2)) (some ([undef], r2.2))).bind fun q6 =>
(apick v3 (getL q6.1 0) (.bool false)).bind fun v7 =>
(guardV v7 true ((lload false 1 lptr v0).bind fun v8 =>
(abin Try.prog .leq 9 (.tmp 15) (.tmp 16) v8 x1).bind fun v9 =>
some ([v9], q6.2)) (some ([undef], q6.2))).bind fun q10 =>
(apick v7 (getL q10.1 0) (.bool false)).bind fun v11 =>
(guardV v11 true ((lload false 1 (.pointer (some ⟨0, 1, none⟩)) v0).bind fun v12 =>
(abin Try.prog .eql 9 (.tmp 21) (.const (.string ⟨#[]⟩)) v12 (.string ⟨#[]⟩)).bind fun v13 =>
some ([v13], q10.2)) (some ([undef], q10.2))).bind fun q14 =>
(guardV (getL q14.1 0) false ((lload false 1 (.pointer (some ⟨0, 1, none⟩)) v0).bind fun v15 =>
(abin Try.prog .lss 9 (.tmp 24) (.tmp 26) x1 v15).bind fun v16 =>
some ([v16], q14.2)) (some ([undef], q14.2))).bind fun q17 =>
(guardV v11 true ((apick (getL q14.1 0) (.bool true) (getL q17.1 0)).bind fun v18 =>
some ([v18], q17.2)) (some ([undef], q17.2))).bind fun q19 =>
(apick v11 (getL q19.1 0) (.bool false)).bind fun v20 =>
retV [v20] q19.2

theorem span_Has_of {lib : Lib} (hl : lib 24 = none) {x0 x1 : Value} {s : St} {r : Value × St} (h : span_Has (run Try.prog lib hints) x0 x1 s = some r) : run Try.prog lib hints 24 [x0, x1] s = some r :=
  run_of hl Try.func24 (Eq.trans (by kernel_rfl) h)

theorem span_Has_ok : funcOk Try.prog 24 = true := by kernel_rfl
theorem span_Has_call {R : Caller} {xs : List Value} {s : St} : callV Try.prog R (.func (.func 24) #[] #[]) xs s = R 24 xs s := callV_eq span_Has_ok

/-! ### sumpter/span.CheckKey: 25 -/

noncomputable def span_CheckKey (R : Caller) (x0 : Value) (s : St) : Option (Value × St) :=
(abin Try.prog .eql 9 (.tmp 3) (.const (.string ⟨#[]⟩)) x0 (.string ⟨#[]⟩)).bind fun v0 =>
(guardV v0 false ((alenV .string x0 s).bind fun v1 =>
(abin Try.prog .gtr 3 (.tmp 7) (.const (.int .i64 12)) v1 (.int .i64 12)).bind fun v2 =>
some ([v2], s)) (some ([undef], s))).bind fun q3 =>
(apick v0 (.bool true) (getL q3.1 0)).bind fun v4 =>
condV v4
 (retV [(.int .i64 20)] q3.2)
 (retV [(.int .i64 0)] q3.2)

theorem span_CheckKey_of {lib : Lib} (hl : lib 25 = none) {x0 : Value} {s : St} {r : Value × St} (h : span_CheckKey (run Try.prog lib hints) x0 s = some r) : run Try.prog lib hints 25 [x0] s = some r :=
  run_of hl Try.func25 (Eq.trans (by kernel_rfl) h)

theorem span_CheckKey_ok : funcOk Try.prog 25 = true := by kernel_rfl
theorem span_CheckKey_call {R : Caller} {xs : List Value} {s : St} : callV Try.prog R (.func (.func 25) #[] #[]) xs s = R 25 xs s := callV_eq span_CheckKey_ok

/-! ### sumpter/owner.Gather: 26 -/

noncomputable def owner_Gather.b0 (R : Caller) (T : List Value) (s : St) : Res :=
(abin Try.prog .lss 3 (.tmp 26) (.tmp 25) (getL T 5) (getL T 4)).bind fun v5 =>
condV v5
 ((aindexS 3 (getL T 3) (getL T 5)).bind fun v6 =>
(aload true 3 v6 s).bind fun v7 =>
(lstore 3 lptr v7 (.agg #[(.int .i64 0), (.slice none 0 0), (.slice none 0 0)])).bind fun v8 =>
(lload false 1 (.pointer (some ⟨0, 1, none⟩)) v8).bind fun v9 =>
((alenV (.slice 74) v9 (frzS s)).bind fun v40 =>
some (v40, (frzS s))).bind fun r10 =>
(lload false 1 (.pointer (some ⟨0, 2, none⟩)) v8).bind fun v11 =>
((alenV (.slice 3) v11 (frzS s)).bind fun v39 =>
some (v39, (frzS s))).bind fun r12 =>
(abin Try.prog .neq 3 (.tmp 33) (.tmp 36) r10.1 r12.1).bind fun v13 =>
(guardV v13 false (some ([(.pointer (some ⟨0, 1, none⟩))], s)) (some ([undef], s))).bind fun q14 =>
(guardV v13 false ((lload false 1 (getL q14.1 0) v8).bind fun v15 =>
some ([v15], q14.2)) (some ([undef], q14.2))).bind fun q16 =>
(guardV v13 false ((alenV (.slice 74) (getL q16.1 0) (frzS q16.2)).bind fun v38 =>
some (v38, (frzS q16.2))) (some (undef, (frzS q16.2)))).bind fun r17 =>
(guardV v13 false (some ([(getL T 1)], q16.2)) (some ([undef], q16.2))).bind fun q18 =>
(guardV v13 false (some ([(getL T 5)], q18.2)) (some ([undef], q18.2))).bind fun q19 =>
(guardV v13 false ((aindexS 1 (getL q18.1 0) (getL q19.1 0)).bind fun v20 =>
some ([v20], q19.2)) (some ([undef], q19.2))).bind fun q21 =>
(guardV v13 false ((aload false 1 (getL q21.1 0) (frzS q21.2)).bind fun v37 =>
some (v37, (frzS q21.2))) (some (undef, (frzS q21.2)))).bind fun r22 =>
(guardV v13 false ((alenV (.slice 60) r22.1 (frzS q21.2)).bind fun v36 =>
some (v36, (frzS q21.2))) (some (undef, (frzS q21.2)))).bind fun r23 =>
(guardV v13 false ((abin Try.prog .neq 3 (.tmp 41) (.tmp 46) r17.1 r23.1).bind fun v24 =>
some ([v24], q21.2)) (some ([undef], q21.2))).bind fun q25 =>
(apick v13 (.bool true) (getL q25.1 0)).bind fun v26 =>
(guardV v26 false (some ([(.pointer (some ⟨0, 2, none⟩))], q25.2)) (some ([undef], q25.2))).bind fun q27 =>
(guardV v26 false ((lload false 1 (getL q27.1 0) v8).bind fun v28 =>
some ([v28], q27.2)) (some ([undef], q27.2))).bind fun q29 =>
(guardV v26 false ((amkFunc 47 [] [(getL T 2)]).bind fun v30 =>
some ([v30], q29.2)) (some ([undef], q29.2))).bind fun q31 =>
((guardV v26 false ((callV Try.prog R (.func (.func 46) #[] #[]) [(getL q29.1 0), (getL q31.1 0)] q31.2).bind fun r35 =>
some (r35.1, r35.2)) (some (undef, q31.2))).bind (ownR q31.2)).bind fun r32 =>
(apick v26 (.bool true) r32.1).bind fun v33 =>
condV v33
 (some (.ret, [(.slice none 0 0), (.int .i64 1)], r32.2))
 ((abin Try.prog .add 3 (.tmp 26) (.const (.int .i64 1)) (getL T 5) (.int .i64 1)).bind fun v34 =>
some (.normal, [(getL T 0), (getL T 1), (getL T 2), (getL T 3), (getL T 4), v34], r32.2)))
 (some (.exit 0, [(getL T 0), (getL T 1), (getL T 2)], s))

noncomputable def owner_Gather.j0 (R : Caller) (T : List Value) (s : St) : Res :=
(aindexS 1 (getL T 4) (getL T 6)).bind fun v76 =>
(astore 1 v76 (.bool true) s).bind fun s77 =>
(abin Try.prog .add 3 (.tmp 73) (.const (.int .i64 1)) (getL T 11) (.int .i64 1)).bind fun v78 =>
some (.normal, [(getL T 0), (getL T 1), (getL T 2), (getL T 3), (getL T 4), (getL T 5), (getL T 7), (getL T 8), (getL T 9), (getL T 10), v78], s77)

noncomputable def owner_Gather.b2 (R : Caller) (T : List Value) (s : St) : Res :=
(abin Try.prog .lss 3 (.tmp 73) (.tmp 72) (getL T 10) (getL T 9)).bind fun v54 =>
condV v54
 ((aindexS 1 (getL T 8) (getL T 10)).bind fun v55 =>
(aload false 1 v55 s).bind fun v56 =>
(aindexS 1 (getL T 1) (getL T 5)).bind fun v57 =>
(aload false 1 v57 s).bind fun v58 =>
(aindexS 3 v58 (getL T 10)).bind fun v59 =>
(aload true 3 v59 s).bind fun v60 =>
(lstore 3 lptr v60 (.agg #[(.bool false), (.string ⟨#[]⟩), (.slice none 0 0)])).bind fun v61 =>
(aload false 1 (getL T 2) s).bind fun v63 =>
(aindexS 6 v63 v56).bind fun v64 =>
(afieldAddr 0 v64).bind fun v65 =>
(aload false 1 v65 s).bind fun v66 =>
(abin Try.prog .eql 3 (.tmp 89) (.const (.int .i64 4)) v66 (.int .i64 4)).bind fun v67 =>
condV v67
 ((aindexS 3 (getL T 3) v56).bind fun v68 =>
(afieldAddr 2 v68).bind fun v69 =>
(((aload false 1 v69 s).bind fun v81 =>
some (v81, s)).bind (ownR s)).bind fun r70 =>
(lload false 1 (.pointer (some ⟨0, 2, none⟩)) v61).bind fun v71 =>
(((aappend 2 32 r70.1 v71 r70.2).bind fun r80 =>
some (r80.1, r80.2)).bind (ownR r70.2)).bind fun r72 =>
(aindexS 3 (getL T 3) v56).bind fun v73 =>
(afieldAddr 2 v73).bind fun v74 =>
(((astore 1 v74 r72.1 r72.2).bind fun s79 =>
some (undef, s79)).bind (ownR r72.2)).bind fun r75 =>
joinK (owner_Gather.j0 R) [(getL T 0), (getL T 1), (getL T 2), (getL T 3), (getL T 4), (getL T 5), v56, (getL T 6), (getL T 7), (getL T 8), (getL T 9), (getL T 10)] r75.2)
 ((aindexS 1 (getL T 4) v56).bind fun v82 =>
(aload false 1 v82 s).bind fun v83 =>
(aun .not v83).bind fun v84 =>
condV v84
 ((lload false 1 lptr v61).bind fun v85 =>
(lload false 1 (.pointer (some ⟨0, 1, none⟩)) v61).bind fun v86 =>
(lload false 1 (.pointer (some ⟨0, 2, none⟩)) v61).bind fun v87 =>
(((callV Try.prog R (.func (.func 48) #[] #[]) [v87] s).bind fun r93 =>
some (r93.1, r93.2)).bind (ownR s)).bind fun r88 =>
(abuild Try.prog 60 [(0, v85), (1, v86), (2, r88.1)]).bind fun v89 =>
(aindexS 3 (getL T 3) v56).bind fun v90 =>
(((astore 3 v90 v89 r88.2).bind fun s92 =>
some (undef, s92)).bind (ownR r88.2)).bind fun r91 =>
joinK (owner_Gather.j0 R) [(getL T 0), (getL T 1), (getL T 2), (getL T 3), (getL T 4), (getL T 5), v56, (getL T 6), (getL T 7), (getL T 8), (getL T 9), (getL T 10)] r91.2)
 (joinK (owner_Gather.j0 R) [(getL T 0), (getL T 1), (getL T 2), (getL T 3), (getL T 4), (getL T 5), v56, (getL T 6), (getL T 7), (getL T 8), (getL T 9), (getL T 10)] s)))
 (some (.exit 4, [(getL T 0), (getL T 1), (getL T 2), (getL T 3), (getL T 4), (getL T 6), (getL T 7)], s))

noncomputable def owner_Gather.b1 (R : Caller) (T : List Value) (s : St) : Res :=
(abin Try.prog .lss 3 (.tmp 64) (.tmp 63) (getL T 6) (getL T 5)).bind fun v49 =>
condV v49
 ((aindexS 3 (getL T 0) (getL T 6)).bind fun v50 =>
(afieldAddr 2 v50).bind fun v51 =>
(aload false 1 v51 s).bind fun v52 =>
(alenV (.slice 3) v52 s).bind fun v53 =>
(loopL (owner_Gather.b2 R) [(getL T 0), (getL T 1), (getL T 2), (getL T 3), (getL T 4), (getL T 6), (getL T 5), (getL T 6), v52, v53, (.int .i64 0)] s).bind fun r94 =>
exV r94.1 [(4, (abin Try.prog .add 3 (.tmp 64) (.const (.int .i64 1)) (getL r94.2.1 6) (.int .i64 1)).bind fun v95 =>
some (.normal, [(getL r94.2.1 0), (getL r94.2.1 1), (getL r94.2.1 2), (getL r94.2.1 3), (getL r94.2.1 4), (getL r94.2.1 5), v95], r94.2.2))]
 (none))
 (some (.exit 2, [(getL T 2), (getL T 3)], s))

noncomputable def owner_Gather.j1 (R : Caller) (T : List Value) (s : St) : Res :=
(abin Try.prog .add 3 (.tmp 126) (.const (.int .i64 1)) (getL T 3) (.int .i64 1)).bind fun v106 =>
some (.normal, [(getL T 0), (getL T 1), (getL T 2), v106], s)

noncomputable def owner_Gather.b3 (R : Caller) (T : List Value) (s : St) : Res :=
(abin Try.prog .lss 3 (.tmp 126) (.tmp 125) (getL T 3) (getL T 2)).bind fun v99 =>
condV v99
 ((aindexS 6 (getL T 1) (getL T 3)).bind fun v101 =>
(aload true 6 v101 s).bind fun v102 =>
(lstore 6 lptr v102 (.agg #[(.int .i64 0), (.string ⟨#[]⟩), (.string ⟨#[]⟩), (.string ⟨#[]⟩), (.string ⟨#[]⟩), (.int .i64 0)])).bind fun v103 =>
(lload false 1 lptr v103).bind fun v104 =>
(abin Try.prog .neq 3 (.tmp 132) (.const (.int .i64 4)) v104 (.int .i64 4)).bind fun v105 =>
condV v105
 (joinK (owner_Gather.j1 R) [(getL T 0), (getL T 1), (getL T 2), (getL T 3)] s)
 ((aindexS 3 (getL T 0) (getL T 3)).bind fun v107 =>
(afieldAddr 2 v107).bind fun v108 =>
(aload false 1 v108 s).bind fun v109 =>
(callV Try.prog R (.func (.func 49) #[] #[]) [v109, (.func (.func 50) #[] #[])] s).bind fun r110 =>
(lload false 1 (.pointer (some ⟨0, 5, none⟩)) v103).bind fun v111 =>
(amax2 (.int .i64 0) v111).bind fun v112 =>
(aindexS 3 (getL T 0) (getL T 3)).bind fun v113 =>
(afieldAddr 2 v113).bind fun v114 =>
(aload false 1 v114 r110.2).bind fun v115 =>
(alenV (.slice 62) v115 r110.2).bind fun v116 =>
(abin Try.prog .gtr 3 (.tmp 148) (.tmp 149) v116 v112).bind fun v117 =>
condV v117
 ((aindexS 3 (getL T 0) (getL T 3)).bind fun v118 =>
(afieldAddr 2 v118).bind fun v119 =>
(aload false 1 v119 r110.2).bind fun v120 =>
(asliceV 2 v120 none (some v112) none).bind fun v121 =>
(callV Try.prog R (.func (.func 48) #[] #[]) [v121] r110.2).bind fun r122 =>
(aindexS 3 (getL T 0) (getL T 3)).bind fun v123 =>
(afieldAddr 2 v123).bind fun v124 =>
(astore 1 v124 r122.1 r122.2).bind fun s125 =>
joinK (owner_Gather.j1 R) [(getL T 0), (getL T 1), (getL T 2), (getL T 3)] s125)
 (joinK (owner_Gather.j1 R) [(getL T 0), (getL T 1), (getL T 2), (getL T 3)] r110.2)))
 (some (.exit 6, [(getL T 0)], s))

noncomputable def owner_Gather (R : Caller) (x0 x1 x2 : Value) (s : St) : Option (Value × St) :=
(anew (cellsV x0) s).bind fun r0 =>
(alenV (.slice 51) x1 r0.2).bind fun v1 =>
(alenV (.slice 53) x2 r0.2).bind fun v2 =>
(abin Try.prog .neq 3 (.tmp 20) (.tmp 22) v1 v2).bind fun v3 =>
condV v3
 (retV [(.slice none 0 0), (.int .i64 1)] r0.2)
 ((alenV (.slice 51) x1 r0.2).bind fun v4 =>
(loopL (owner_Gather.b0 R) [x1, x2, r0.1, x1, v4, (.int .i64 0)] r0.2).bind fun r41 =>
exV r41.1 [(0, (aload false 1 (getL r41.2.1 2) r41.2.2).bind fun v42 =>
(alenV (.slice 74) v42 r41.2.2).bind fun v43 =>
(amake 3 48 [(.bool false), (.string ⟨#[]⟩), (.slice none 0 0)] v43 v43 r41.2.2).bind fun r44 =>
(aload false 1 (getL r41.2.1 2) r44.2).bind fun v45 =>
(alenV (.slice 74) v45 r44.2).bind fun v46 =>
(amake 1 1 [(.bool false)] v46 v46 r44.2).bind fun r47 =>
(alenV (.slice 51) (getL r41.2.1 0) r47.2).bind fun v48 =>
(loopL (owner_Gather.b1 R) [(getL r41.2.1 0), (getL r41.2.1 1), (getL r41.2.1 2), r44.1, r47.1, v48, (.int .i64 0)] r47.2).bind fun r96 =>
exV r96.1 [(2, (aload false 1 (getL r96.2.1 0) r96.2.2).bind fun v97 =>
(alenV (.slice 74) v97 r96.2.2).bind fun v98 =>
(loopL (owner_Gather.b3 R) [(getL r96.2.1 1), v97, v98, (.int .i64 0)] r96.2.2).bind fun r126 =>
exV r126.1 [(6, retV [(getL r126.2.1 0), (.int .i64 0)] r126.2.2)]
 (none))]
 (none))]
 (retV [(getL r41.2.1 0), (getL r41.2.1 1)] r41.2.2))

theorem owner_Gather_of {lib : Lib} (hl : lib 26 = none) {x0 x1 x2 : Value} {s : St} {r : Value × St} (h : owner_Gather (run Try.prog lib hints) x0 x1 x2 s = some r) : run Try.prog lib hints 26 [x0, x1, x2] s = some r :=
  run_of hl Try.func26 (Eq.trans (by kernel_rfl) h)

theorem owner_Gather_ok : funcOk Try.prog 26 = true := by kernel_rfl
theorem owner_Gather_call {R : Caller} {xs : List Value} {s : St} : callV Try.prog R (.func (.func 26) #[] #[]) xs s = R 26 xs s := callV_eq owner_Gather_ok

/-! ### sumpter/sumpterref17.Gather: 27 -/

noncomputable def ref17_Gather.b1 (R : Caller) (T : List Value) (s : St) : Res :=
(abin Try.prog .lss 3 (.tmp 57) (.tmp 56) (getL T 8) (getL T 7)).bind fun v28 =>
condV v28
 ((aindexS 1 (getL T 6) (getL T 8)).bind fun v29 =>
(aload false 1 v29 s).bind fun v30 =>
(abin Try.prog .lss 3 (.tmp 61) (.const (.int .i64 0)) v30 (.int .i64 0)).bind fun v31 =>
(guardV v31 false ((alenV (.slice 74) (getL T 0) s).bind fun v32 =>
(abin Try.prog .geq 3 (.tmp 64) (.tmp 66) v30 v32).bind fun v33 =>
some ([v33], s)) (some ([undef], s))).bind fun q34 =>
(apick v31 (.bool true) (getL q34.1 0)).bind fun v35 =>
condV v35
 (some (.ret, [(.slice none 0 0), (.int .i64 1)], q34.2))
 ((abin Try.prog .add 3 (.tmp 57) (.const (.int .i64 1)) (getL T 8) (.int .i64 1)).bind fun v36 =>
some (.normal, [(getL T 0), (getL T 1), (getL T 2), (getL T 3), (getL T 4), (getL T 5), (getL T 6), (getL T 7), v36], q34.2)))
 (some (.exit 2, [(getL T 0), (getL T 1), (getL T 2), (getL T 3), (getL T 4), (getL T 5)], s))

noncomputable def ref17_Gather.b0 (R : Caller) (T : List Value) (s : St) : Res :=
(abin Try.prog .lss 3 (.tmp 31) (.tmp 30) (getL T 5) (getL T 4)).bind fun v4 =>
condV v4
 ((aindexS 3 (getL T 3) (getL T 5)).bind fun v5 =>
(aload true 3 v5 s).bind fun v6 =>
(lstore 3 lptr v6 (.agg #[(.int .i64 0), (.slice none 0 0), (.slice none 0 0)])).bind fun v7 =>
(lload false 1 (.pointer (some ⟨0, 1, none⟩)) v7).bind fun v8 =>
((alenV (.slice 74) v8 (frzS s)).bind fun v43 =>
some (v43, (frzS s))).bind fun r9 =>
(lload false 1 (.pointer (some ⟨0, 2, none⟩)) v7).bind fun v10 =>
((alenV (.slice 3) v10 (frzS s)).bind fun v42 =>
some (v42, (frzS s))).bind fun r11 =>
(abin Try.prog .neq 3 (.tmp 38) (.tmp 41) r9.1 r11.1).bind fun v12 =>
(guardV v12 false (some ([(.pointer (some ⟨0, 1, none⟩))], s)) (some ([undef], s))).bind fun q13 =>
(guardV v12 false ((lload false 1 (getL q13.1 0) v7).bind fun v14 =>
some ([v14], q13.2)) (some ([undef], q13.2))).bind fun q15 =>
(guardV v12 false ((alenV (.slice 74) (getL q15.1 0) (frzS q15.2)).bind fun v41 =>
some (v41, (frzS q15.2))) (some (undef, (frzS q15.2)))).bind fun r16 =>
(guardV v12 false (some ([(getL T 2)], q15.2)) (some ([undef], q15.2))).bind fun q17 =>
(guardV v12 false (some ([(getL T 5)], q17.2)) (some ([undef], q17.2))).bind fun q18 =>
(guardV v12 false ((aindexS 1 (getL q17.1 0) (getL q18.1 0)).bind fun v19 =>
some ([v19], q18.2)) (some ([undef], q18.2))).bind fun q20 =>
(guardV v12 false ((aload false 1 (getL q20.1 0) (frzS q20.2)).bind fun v40 =>
some (v40, (frzS q20.2))) (some (undef, (frzS q20.2)))).bind fun r21 =>
(guardV v12 false ((alenV (.slice 60) r21.1 (frzS q20.2)).bind fun v39 =>
some (v39, (frzS q20.2))) (some (undef, (frzS q20.2)))).bind fun r22 =>
(guardV v12 false ((abin Try.prog .neq 3 (.tmp 46) (.tmp 51) r16.1 r22.1).bind fun v23 =>
some ([v23], q20.2)) (some ([undef], q20.2))).bind fun q24 =>
(apick v12 (.bool true) (getL q24.1 0)).bind fun v25 =>
condV v25
 (some (.ret, [(.slice none 0 0), (.int .i64 1)], q24.2))
 ((lload false 1 (.pointer (some ⟨0, 2, none⟩)) v7).bind fun v26 =>
(alenV (.slice 3) v26 q24.2).bind fun v27 =>
(loopL (ref17_Gather.b1 R) [(getL T 0), (getL T 1), (getL T 2), (getL T 3), (getL T 4), (getL T 5), v26, v27, (.int .i64 0)] q24.2).bind fun r37 =>
exV r37.1 [(2, (abin Try.prog .add 3 (.tmp 31) (.const (.int .i64 1)) (getL r37.2.1 5) (.int .i64 1)).bind fun v38 =>
some (.normal, [(getL r37.2.1 0), (getL r37.2.1 1), (getL r37.2.1 2), (getL r37.2.1 3), (getL r37.2.1 4), v38], r37.2.2))]
 (some (.ret, [(getL r37.2.1 0), (getL r37.2.1 1)], r37.2.2))))
 (some (.exit 0, [(getL T 0), (getL T 1), (getL T 2)], s))

noncomputable def ref17_Gather.j0 (R : Caller) (T : List Value) (s : St) : Res :=
(abin Try.prog .add 3 (.tmp 89) (.const (.int .i64 1)) (getL T 16) (.int .i64 1)).bind fun v62 =>
some (.normal, [(getL T 0), (getL T 1), (getL T 2), (getL T 3), (getL T 4), (getL T 5), (getL T 6), (getL T 7), (getL T 8), (getL T 9), (getL T 10), (getL T 11), (getL T 12), (getL T 13), (getL T 14), (getL T 15), v62, (getL T 17), (getL T 18)], s)

noncomputable def ref17_Gather.b5 (R : Caller) (T : List Value) (s : St) : Res :=
(abin Try.prog .lss 3 (.tmp 110) (.tmp 109) (getL T 18) (getL T 17)).bind fun v74 =>
condV v74
 ((aindexS 2 (getL T 16) (getL T 18)).bind fun v75 =>
(aload true 2 v75 s).bind fun v76 =>
(lstore 2 lptr v76 (.agg #[(.string ⟨#[]⟩), (.string ⟨#[]⟩)])).bind fun v77 =>
(afieldAddr 2 (getL T 5)).bind fun v78 =>
(lload false 1 v78 (getL T 20)).bind fun v79 =>
(lload true 2 lptr v77).bind fun v80 =>
(callV Try.prog R (.func (.func 51) #[] #[]) [v79, v80] s).bind fun r81 =>
(afieldAddr 2 (getL T 5)).bind fun v82 =>
(lstore 1 v82 r81.1 (getL T 20)).bind fun v83 =>
(abin Try.prog .add 3 (.tmp 110) (.const (.int .i64 1)) (getL T 18) (.int .i64 1)).bind fun v84 =>
some (.normal, [(getL T 0), (getL T 1), (getL T 2), (getL T 3), (getL T 4), (getL T 5), (getL T 6), (getL T 7), (getL T 8), (getL T 9), (getL T 10), (getL T 11), (getL T 12), (getL T 13), (getL T 14), (getL T 15), (getL T 16), (getL T 17), v84, (getL T 19), v83], r81.2))
 (some (.exit 10, [(getL T 0), (getL T 1), (getL T 2), (getL T 3), (getL T 4), (getL T 5), (getL T 6), (getL T 7), (getL T 8), (getL T 9), (getL T 10), (getL T 11), (getL T 12), (getL T 13), (getL T 14), (getL T 15), (getL T 19), (getL T 20)], s))

noncomputable def ref17_Gather.j1 (R : Caller) (T : List Value) (s : St) : Res :=
joinK (ref17_Gather.j0 R) [(getL T 0), (getL T 1), (getL T 2), (getL T 3), (getL T 4), (getL T 5), (.bool false), (getL T 6), (getL T 7), (getL T 8), (getL T 9), (getL T 10), (getL T 11), (getL T 12), (getL T 13), (getL T 14), (getL T 15), (getL T 16), (getL T 17)] s

noncomputable def ref17_Gather.b4 (R : Caller) (T : List Value) (s : St) : Res :=
(abin Try.prog .lss 3 (.tmp 89) (.tmp 88) (getL T 16) (getL T 15)).bind fun v57 =>
condV v57
 ((aindexS 1 (getL T 14) (getL T 16)).bind fun v59 =>
(aload false 1 v59 s).bind fun v60 =>
(abin Try.prog .neq 3 (.tmp 94) (.tmp 95) v60 (getL T 3)).bind fun v61 =>
condV v61
 (joinK (ref17_Gather.j0 R) [(getL T 0), (getL T 1), (getL T 2), (getL T 3), (getL T 4), (getL T 5), (getL T 6), (getL T 7), (getL T 8), (getL T 9), (getL T 10), (getL T 11), (getL T 12), (getL T 13), (getL T 14), (getL T 15), (getL T 16), (getL T 17), (getL T 18)] s)
 ((aindexS 1 (getL T 1) (getL T 7)).bind fun v63 =>
(aload false 1 v63 s).bind fun v64 =>
(aindexS 3 v64 (getL T 16)).bind fun v65 =>
(aload true 3 v65 s).bind fun v66 =>
(lstore 3 lptr v66 (.agg #[(.bool false), (.string ⟨#[]⟩), (.slice none 0 0)])).bind fun v67 =>
(afieldAddr 0 (getL T 4)).bind fun v69 =>
(lload false 1 v69 (getL T 17)).bind fun v70 =>
(abin Try.prog .eql 3 (.tmp 105) (.const (.int .i64 4)) v70 (.int .i64 4)).bind fun v71 =>
condV v71
 ((lload false 1 (.pointer (some ⟨0, 2, none⟩)) v67).bind fun v72 =>
(alenV (.slice 62) v72 s).bind fun v73 =>
(loopL (ref17_Gather.b5 R) [(getL T 0), (getL T 1), (getL T 2), (getL T 3), (getL T 4), (getL T 5), (getL T 7), (getL T 8), (getL T 9), (getL T 10), (getL T 11), (getL T 12), (getL T 13), (getL T 14), (getL T 15), (getL T 16), v72, v73, (.int .i64 0), (getL T 17), (getL T 18)] s).bind fun r85 =>
exV r85.1 [(10, joinK (ref17_Gather.j1 R) [(getL r85.2.1 0), (getL r85.2.1 1), (getL r85.2.1 2), (getL r85.2.1 3), (getL r85.2.1 4), (getL r85.2.1 5), (getL r85.2.1 6), (getL r85.2.1 7), (getL r85.2.1 8), (getL r85.2.1 9), (getL r85.2.1 10), (getL r85.2.1 11), (getL r85.2.1 12), (getL r85.2.1 13), (getL r85.2.1 14), (getL r85.2.1 15), (getL r85.2.1 16), (getL r85.2.1 17)] r85.2.2)]
 (none))
 (condV (getL T 6)
 ((lload false 1 lptr v67).bind fun v86 =>
(lload false 1 (.pointer (some ⟨0, 1, none⟩)) v67).bind fun v87 =>
(lload false 1 (.pointer (some ⟨0, 2, none⟩)) v67).bind fun v88 =>
(((aappend 2 32 (.slice none 0 0) v88 s).bind fun r92 =>
some (r92.1, r92.2)).bind (ownR s)).bind fun r89 =>
(abuild Try.prog 60 [(0, v86), (1, v87), (2, r89.1)]).bind fun v90 =>
(lstore 3 (getL T 5) v90 (getL T 18)).bind fun v91 =>
joinK (ref17_Gather.j1 R) [(getL T 0), (getL T 1), (getL T 2), (getL T 3), (getL T 4), (getL T 5), (getL T 7), (getL T 8), (getL T 9), (getL T 10), (getL T 11), (getL T 12), (getL T 13), (getL T 14), (getL T 15), (getL T 16), (getL T 17), v91] r89.2)
 (joinK (ref17_Gather.j1 R) [(getL T 0), (getL T 1), (getL T 2), (getL T 3), (getL T 4), (getL T 5), (getL T 7), (getL T 8), (getL T 9), (getL T 10), (getL T 11), (getL T 12), (getL T 13), (getL T 14), (getL T 15), (getL T 16), (getL T 17), (getL T 18)] s))))
 (some (.exit 8, [(getL T 0), (getL T 1), (getL T 2), (getL T 3), (getL T 4), (getL T 5), (getL T 6), (getL T 8), (getL T 9), (getL T 10), (getL T 11), (getL T 12), (getL T 13), (getL T 17), (getL T 18)], s))

noncomputable def ref17_Gather.b3 (R : Caller) (T : List Value) (s : St) : Res :=
(abin Try.prog .lss 3 (.tmp 81) (.tmp 80) (getL T 12) (getL T 11)).bind fun v51 =>
condV v51
 ((aindexS 3 (getL T 10) (getL T 12)).bind fun v52 =>
(aload true 3 v52 s).bind fun v53 =>
(lstore 3 lptr v53 (.agg #[(.int .i64 0), (.slice none 0 0), (.slice none 0 0)])).bind fun v54 =>
(lload false 1 (.pointer (some ⟨0, 2, none⟩)) v54).bind fun v55 =>
(alenV (.slice 3) v55 s).bind fun v56 =>
(loopL (ref17_Gather.b4 R) [(getL T 0), (getL T 1), (getL T 2), (getL T 3), (getL T 4), (getL T 5), (getL T 6), (getL T 12), (getL T 7), (getL T 8), (getL T 9), (getL T 10), (getL T 11), (getL T 12), v55, v56, (.int .i64 0), (getL T 13), (getL T 14)] s).bind fun r93 =>
exV r93.1 [(8, (abin Try.prog .add 3 (.tmp 81) (.const (.int .i64 1)) (getL r93.2.1 12) (.int .i64 1)).bind fun v94 =>
some (.normal, [(getL r93.2.1 0), (getL r93.2.1 1), (getL r93.2.1 2), (getL r93.2.1 3), (getL r93.2.1 4), (getL r93.2.1 5), (getL r93.2.1 6), (getL r93.2.1 7), (getL r93.2.1 8), (getL r93.2.1 9), (getL r93.2.1 10), (getL r93.2.1 11), v94, (getL r93.2.1 13), (getL r93.2.1 14)], r93.2.2))]
 (none))
 (some (.exit 6, [(getL T 0), (getL T 1), (getL T 2), (getL T 4), (getL T 5), (getL T 7), (getL T 8), (getL T 9), (getL T 13), (getL T 14)], s))

noncomputable def ref17_Gather.j2 (R : Caller) (T : List Value) (s : St) : Res :=
(lload true 3 (getL T 3) (getL T 7)).bind fun v117 =>
(abuildSl 3 [(.bool false), (.string ⟨#[]⟩), (.slice none 0 0)] 1 [(0, v117)] s).bind fun r118 =>
(aappend 3 48 (getL T 2) r118.1 r118.2).bind fun r119 =>
(abin Try.prog .add 3 (.tmp 73) (.const (.int .i64 1)) (getL T 6) (.int .i64 1)).bind fun v120 =>
some (.normal, [(getL T 0), (getL T 1), r119.1, (getL T 4), (getL T 5), v120], r119.2)

noncomputable def ref17_Gather.b2 (R : Caller) (T : List Value) (s : St) : Res :=
(abin Try.prog .lss 3 (.tmp 73) (.tmp 72) (getL T 5) (getL T 4)).bind fun v46 =>
condV v46
 ((aindexS 6 (getL T 3) (getL T 5)).bind fun v47 =>
(aload true 6 v47 s).bind fun v48 =>
(lstore 6 lptr v48 (.agg #[(.int .i64 0), (.string ⟨#[]⟩), (.string ⟨#[]⟩), (.string ⟨#[]⟩), (.string ⟨#[]⟩), (.int .i64 0)])).bind fun v49 =>
(alenV (.slice 52) (getL T 0) s).bind fun v50 =>
(loopL (ref17_Gather.b3 R) [(getL T 0), (getL T 1), (getL T 2), (getL T 5), lptr, lptr, (.bool true), (getL T 3), (getL T 4), (getL T 5), (getL T 0), v50, (.int .i64 0), v49, (.agg #[(.bool false), (.string ⟨#[]⟩), (.slice none 0 0)])] s).bind fun r95 =>
exV r95.1 [(6, (afieldAddr 0 (getL r95.2.1 3)).bind fun v97 =>
(lload false 1 v97 (getL r95.2.1 8)).bind fun v98 =>
(abin Try.prog .eql 3 (.tmp 132) (.const (.int .i64 4)) v98 (.int .i64 4)).bind fun v99 =>
(guardV v99 true ((afieldAddr 2 (getL r95.2.1 4)).bind fun v100 =>
(lload false 1 v100 (getL r95.2.1 9)).bind fun v101 =>
(alenV (.slice 62) v101 r95.2.2).bind fun v102 =>
(afieldAddr 5 (getL r95.2.1 3)).bind fun v103 =>
(lload false 1 v103 (getL r95.2.1 8)).bind fun v104 =>
(amax2 (.int .i64 0) v104).bind fun v105 =>
(abin Try.prog .gtr 3 (.tmp 137) (.tmp 140) v102 v105).bind fun v106 =>
some ([v106], r95.2.2)) (some ([undef], r95.2.2))).bind fun q107 =>
(apick v99 (getL q107.1 0) (.bool false)).bind fun v108 =>
condV v108
 ((afieldAddr 2 (getL r95.2.1 4)).bind fun v109 =>
(lload false 1 v109 (getL r95.2.1 9)).bind fun v110 =>
(afieldAddr 5 (getL r95.2.1 3)).bind fun v111 =>
(lload false 1 v111 (getL r95.2.1 8)).bind fun v112 =>
(amax2 (.int .i64 0) v112).bind fun v113 =>
(asliceV 2 v110 none (some v113) none).bind fun v114 =>
(afieldAddr 2 (getL r95.2.1 4)).bind fun v115 =>
(lstore 1 v115 v114 (getL r95.2.1 9)).bind fun v116 =>
joinK (ref17_Gather.j2 R) [(getL r95.2.1 0), (getL r95.2.1 1), (getL r95.2.1 2), (getL r95.2.1 4), (getL r95.2.1 5), (getL r95.2.1 6), (getL r95.2.1 7), v116] q107.2)
 (joinK (ref17_Gather.j2 R) [(getL r95.2.1 0), (getL r95.2.1 1), (getL r95.2.1 2), (getL r95.2.1 4), (getL r95.2.1 5), (getL r95.2.1 6), (getL r95.2.1 7), (getL r95.2.1 9)] q107.2))]
 (none))
 (some (.exit 4, [(getL T 2)], s))

noncomputable def ref17_Gather (R : Caller) (x0 x1 x2 : Value) (s : St) : Option (Value × St) :=
(alenV (.slice 52) x1 s).bind fun v0 =>
(alenV (.slice 53) x2 s).bind fun v1 =>
(abin Try.prog .neq 3 (.tmp 25) (.tmp 27) v0 v1).bind fun v2 =>
condV v2
 (retV [(.slice none 0 0), (.int .i64 1)] s)
 ((alenV (.slice 52) x1 s).bind fun v3 =>
(loopL (ref17_Gather.b0 R) [x0, x1, x2, x1, v3, (.int .i64 0)] s).bind fun r44 =>
exV r44.1 [(0, (alenV (.slice 74) (getL r44.2.1 0) r44.2.2).bind fun v45 =>
(loopL (ref17_Gather.b2 R) [(getL r44.2.1 1), (getL r44.2.1 2), (.slice none 0 0), (getL r44.2.1 0), v45, (.int .i64 0)] r44.2.2).bind fun r121 =>
exV r121.1 [(4, retV [(getL r121.2.1 0), (.int .i64 0)] r121.2.2)]
 (none))]
 (retV [(getL r44.2.1 0), (getL r44.2.1 1)] r44.2.2))

theorem ref17_Gather_of {lib : Lib} (hl : lib 27 = none) {x0 x1 x2 : Value} {s : St} {r : Value × St} (h : ref17_Gather (run Try.prog lib hints) x0 x1 x2 s = some r) : run Try.prog lib hints 27 [x0, x1, x2] s = some r :=
  run_of hl Try.func27 (Eq.trans (by kernel_rfl) h)

theorem ref17_Gather_ok : funcOk Try.prog 27 = true := by kernel_rfl
theorem ref17_Gather_call {R : Caller} {xs : List Value} {s : St} : callV Try.prog R (.func (.func 27) #[] #[]) xs s = R 27 xs s := callV_eq ref17_Gather_ok

/-! ### sumpter/sumpterref04.SameResults: 28 -/

noncomputable def ref04_SameResults.b0 (R : Caller) (T : List Value) (s : St) : Res :=
(abin Try.prog .lss 3 (.tmp 13) (.tmp 12) (getL T 3) (getL T 2)).bind fun v4 =>
condV v4
 ((aindexS 3 (getL T 0) (getL T 3)).bind fun v5 =>
(afieldAddr 0 v5).bind fun v6 =>
((aload false 1 v6 (frzS s)).bind fun v54 =>
some (v54, (frzS s))).bind fun r7 =>
(aindexS 3 (getL T 1) (getL T 3)).bind fun v8 =>
(afieldAddr 0 v8).bind fun v9 =>
((aload false 1 v9 (frzS s)).bind fun v53 =>
some (v53, (frzS s))).bind fun r10 =>
(abin Try.prog .neq 4 (.tmp 20) (.tmp 25) r7.1 r10.1).bind fun v11 =>
(guardV v11 false (some ([(getL T 0)], s)) (some ([undef], s))).bind fun q12 =>
(guardV v11 false (some ([(getL T 3)], q12.2)) (some ([undef], q12.2))).bind fun q13 =>
(guardV v11 false ((aindexS 3 (getL q12.1 0) (getL q13.1 0)).bind fun v14 =>
some ([v14], q13.2)) (some ([undef], q13.2))).bind fun q15 =>
(guardV v11 false ((afieldAddr 1 (getL q15.1 0)).bind fun v16 =>
some ([v16], q15.2)) (some ([undef], q15.2))).bind fun q17 =>
(guardV v11 false ((aload false 1 (getL q17.1 0) (frzS q17.2)).bind fun v52 =>
some (v52, (frzS q17.2))) (some (undef, (frzS q17.2)))).bind fun r18 =>
(guardV v11 false (some ([(getL T 1)], q17.2)) (some ([undef], q17.2))).bind fun q19 =>
(guardV v11 false (some ([(getL T 3)], q19.2)) (some ([undef], q19.2))).bind fun q20 =>
(guardV v11 false ((aindexS 3 (getL q19.1 0) (getL q20.1 0)).bind fun v21 =>
some ([v21], q20.2)) (some ([undef], q20.2))).bind fun q22 =>
(guardV v11 false ((afieldAddr 1 (getL q22.1 0)).bind fun v23 =>
some ([v23], q22.2)) (some ([undef], q22.2))).bind fun q24 =>
(guardV v11 false ((aload false 1 (getL q24.1 0) (frzS q24.2)).bind fun v51 =>
some (v51, (frzS q24.2))) (some (undef, (frzS q24.2)))).bind fun r25 =>
(guardV v11 false ((abin Try.prog .neq 9 (.tmp 32) (.tmp 37) r18.1 r25.1).bind fun v26 =>
some ([v26], q24.2)) (some ([undef], q24.2))).bind fun q27 =>
(apick v11 (.bool true) (getL q27.1 0)).bind fun v28 =>
(guardV v28 false (some ([(getL T 0)], q27.2)) (some ([undef], q27.2))).bind fun q29 =>
(guardV v28 false (some ([(getL T 3)], q29.2)) (some ([undef], q29.2))).bind fun q30 =>
(guardV v28 false ((aindexS 3 (getL q29.1 0) (getL q30.1 0)).bind fun v31 =>
some ([v31], q30.2)) (some ([undef], q30.2))).bind fun q32 =>
(guardV v28 false ((afieldAddr 2 (getL q32.1 0)).bind fun v33 =>
some ([v33], q32.2)) (some ([undef], q32.2))).bind fun q34 =>
(guardV v28 false ((aload false 1 (getL q34.1 0) (frzS q34.2)).bind fun v50 =>
some (v50, (frzS q34.2))) (some (undef, (frzS q34.2)))).bind fun r35 =>
(guardV v28 false (some ([(getL T 1)], q34.2)) (some ([undef], q34.2))).bind fun q36 =>
(guardV v28 false (some ([(getL T 3)], q36.2)) (some ([undef], q36.2))).bind fun q37 =>
(guardV v28 false ((aindexS 3 (getL q36.1 0) (getL q37.1 0)).bind fun v38 =>
some ([v38], q37.2)) (some ([undef], q37.2))).bind fun q39 =>
(guardV v28 false ((afieldAddr 2 (getL q39.1 0)).bind fun v40 =>
some ([v40], q39.2)) (some ([undef], q39.2))).bind fun q41 =>
(guardV v28 false ((aload false 1 (getL q41.1 0) (frzS q41.2)).bind fun v49 =>
some (v49, (frzS q41.2))) (some (undef, (frzS q41.2)))).bind fun r42 =>
((guardV v28 false ((callV Try.prog R (.func (.func 52) #[] #[]) [r35.1, r42.1] q41.2).bind fun r48 =>
some (r48.1, r48.2)) (some (undef, q41.2))).bind (ownR q41.2)).bind fun r43 =>
(guardV v28 false ((aun .not r43.1).bind fun v44 =>
some ([v44], r43.2)) (some ([undef], r43.2))).bind fun q45 =>
(apick v28 (.bool true) (getL q45.1 0)).bind fun v46 =>
condV v46
 (some (.ret, [(.bool false)], q45.2))
 ((abin Try.prog .add 3 (.tmp 13) (.const (.int .i64 1)) (getL T 3) (.int .i64 1)).bind fun v47 =>
some (.normal, [(getL T 0), (getL T 1), (getL T 2), v47], q45.2)))
 (some (.exit 0, [], s))

noncomputable def ref04_SameResults (R : Caller) (x0 x1 : Value) (s : St) : Option (Value × St) :=
(alenV (.slice 60) x0 s).bind fun v0 =>
(alenV (.slice 60) x1 s).bind fun v1 =>
(abin Try.prog .neq 3 (.tmp 7) (.tmp 9) v0 v1).bind fun v2 =>
condV v2
 (retV [(.bool false)] s)
 ((alenV (.slice 60) x0 s).bind fun v3 =>
(loopL (ref04_SameResults.b0 R) [x0, x1, v3, (.int .i64 0)] s).bind fun r55 =>
exV r55.1 [(0, retV [(.bool true)] r55.2.2)]
 (retV [(getL r55.2.1 0)] r55.2.2))

theorem ref04_SameResults_of {lib : Lib} (hl : lib 28 = none) {x0 x1 : Value} {s : St} {r : Value × St} (h : ref04_SameResults (run Try.prog lib hints) x0 x1 s = some r) : run Try.prog lib hints 28 [x0, x1] s = some r :=
  run_of hl Try.func28 (Eq.trans (by kernel_rfl) h)

theorem ref04_SameResults_ok : funcOk Try.prog 28 = true := by kernel_rfl
theorem ref04_SameResults_call {R : Caller} {xs : List Value} {s : St} : callV Try.prog R (.func (.func 28) #[] #[]) xs s = R 28 xs s := callV_eq ref04_SameResults_ok

/-! ### sumpter/owner.Cut: 29 -/

noncomputable def owner_Cut.j0 (R : Caller) (T : List Value) (s : St) : Res :=
(abin Try.prog .add 3 (.tmp 36) (.const (.int .i64 1)) (getL T 9) (.int .i64 1)).bind fun v26 =>
some (.normal, [(getL T 0), (getL T 1), (getL T 2), (getL T 3), (getL T 4), (getL T 5), (getL T 6), (getL T 7), (getL T 8), v26, (getL T 10)], s)

noncomputable def owner_Cut.b1 (R : Caller) (T : List Value) (s : St) : Res :=
(abin Try.prog .lss 3 (.tmp 36) (.tmp 35) (getL T 9) (getL T 8)).bind fun v11 =>
condV v11
 ((aindexS 2 (getL T 7) (getL T 9)).bind fun v13 =>
(aload true 2 v13 s).bind fun v14 =>
(lstore 2 lptr v14 (.agg #[(.string ⟨#[]⟩), (.int .i64 0)])).bind fun v15 =>
(lload false 1 (.pointer (some ⟨0, 1, none⟩)) v15).bind fun v16 =>
(aindexA 5 3 (getL T 1) v16).bind fun v17 =>
(afieldAddr 1 (getL T 3)).bind fun v18 =>
(lload false 1 v18 (getL T 10)).bind fun v19 =>
(abin Try.prog .neq 9 (.tmp 45) (.const (.string ⟨#[]⟩)) v19 (.string ⟨#[]⟩)).bind fun v20 =>
condV v20
 ((((callV Try.prog R (.func (.func 40) #[] #[]) [(getL T 0), (getL T 9)] s).bind fun r80 =>
some (r80.1, r80.2)).bind (ownR s)).bind fun r21 =>
(afieldAddr 1 (getL T 3)).bind fun v22 =>
(lload false 1 v22 (getL T 10)).bind fun v23 =>
(((callV Try.prog R (.func (.func 24) #[] #[]) [r21.1, v23] r21.2).bind fun r79 =>
some (r79.1, r79.2)).bind (ownR r21.2)).bind fun r24 =>
(aun .not r24.1).bind fun v25 =>
condV v25
 (joinK (owner_Cut.j0 R) [(getL T 0), (getL T 1), (getL T 2), (getL T 3), (getL T 4), (getL T 5), (getL T 6), (getL T 7), (getL T 8), (getL T 9), (getL T 10)] r24.2)
 (((lload false 1 (.pointer (some ⟨0, 1, none⟩)) v15).bind fun v27 =>
(anilCheck v17).bind fun v28 =>
(afieldAddr 1 v28).bind fun v29 =>
(aload false 1 v29 r24.2).bind fun v30 =>
(lload true 6 (getL T 3) (getL T 10)).bind fun v31 =>
(abuildSl 6 [(.int .i64 0), (.string ⟨#[]⟩), (.string ⟨#[]⟩), (.string ⟨#[]⟩), (.string ⟨#[]⟩), (.int .i64 0)] 1 [(0, v31)] r24.2).bind fun r32 =>
(aappend 6 80 v30 r32.1 r32.2).bind fun r33 =>
(anilCheck v17).bind fun v34 =>
(afieldAddr 2 v34).bind fun v35 =>
(aload false 1 v35 r33.2).bind fun v36 =>
(abuildSl 1 [(.int .i64 0)] 1 [(0, (getL T 2))] r33.2).bind fun r37 =>
(aappend 1 8 v36 r37.1 r37.2).bind fun r38 =>
(anilCheck v17).bind fun v39 =>
(afieldAddr 0 v39).bind fun v40 =>
(astore 1 v40 v27 r38.2).bind fun s41 =>
(anilCheck v17).bind fun v42 =>
(afieldAddr 1 v42).bind fun v43 =>
(astore 1 v43 r33.1 s41).bind fun s44 =>
(anilCheck v17).bind fun v45 =>
(afieldAddr 2 v45).bind fun v46 =>
(astore 1 v46 r38.1 s44).bind fun s47 =>
some [v30, r32.1]).bind fun q48 =>
(lload false 1 (.pointer (some ⟨0, 1, none⟩)) v15).bind fun v49 =>
(anilCheck v17).bind fun v50 =>
(afieldAddr 1 v50).bind fun v51 =>
(((aload false 1 v51 (⟨frzK [] 0 (r24.2).heap⟩ : St)).bind fun v78 =>
some (v78, (⟨frzK [] 0 (r24.2).heap⟩ : St))).bind (apartR [] r24.2)).bind fun r52 =>
(lload true 6 (getL T 3) (getL T 10)).bind fun v53 =>
(((abuildSl 6 [(.int .i64 0), (.string ⟨#[]⟩), (.string ⟨#[]⟩), (.string ⟨#[]⟩), (.string ⟨#[]⟩), (.int .i64 0)] 1 [(0, v53)] (⟨frzK [] 0 (r52.2).heap⟩ : St)).bind fun r77 =>
some (r77.1, r77.2)).bind (apartR [] r52.2)).bind fun r54 =>
(((aappend 6 80 r52.1 r54.1 (⟨onlyL (blkV (getL q48 0) ++ blkV (getL q48 1)) 0 (r54.2).heap⟩ : St)).bind fun r76 =>
some (r76.1, r76.2)).bind (appR (blkV (getL q48 0) ++ blkV (getL q48 1)) [] r54.2)).bind fun r55 =>
(anilCheck v17).bind fun v56 =>
(afieldAddr 2 v56).bind fun v57 =>
(((aload false 1 v57 (⟨frzK ((blkV (getL q48 0) ++ blkV (getL q48 1)) ++ []) 0 (r55.2).heap⟩ : St)).bind fun v75 =>
some (v75, (⟨frzK ((blkV (getL q48 0) ++ blkV (getL q48 1)) ++ []) 0 (r55.2).heap⟩ : St))).bind (apartR ((blkV (getL q48 0) ++ blkV (getL q48 1)) ++ []) r55.2)).bind fun r58 =>
(((abuildSl 1 [(.int .i64 0)] 1 [(0, (getL T 2))] (⟨frzK ((blkV (getL q48 0) ++ blkV (getL q48 1)) ++ []) 0 (r58.2).heap⟩ : St)).bind fun r74 =>
some (r74.1, r74.2)).bind (apartR ((blkV (getL q48 0) ++ blkV (getL q48 1)) ++ []) r58.2)).bind fun r59 =>
(((aappend 1 8 r58.1 r59.1 r59.2).bind fun r73 =>
some (r73.1, r73.2)).bind (ownR r59.2)).bind fun r60 =>
(anilCheck v17).bind fun v61 =>
(afieldAddr 0 v61).bind fun v62 =>
(((astore 1 v62 v49 r60.2).bind fun s72 =>
some (undef, s72)).bind (ownR r60.2)).bind fun r63 =>
(anilCheck v17).bind fun v64 =>
(afieldAddr 1 v64).bind fun v65 =>
(((astore 1 v65 r55.1 r63.2).bind fun s71 =>
some (undef, s71)).bind (ownR r63.2)).bind fun r66 =>
(anilCheck v17).bind fun v67 =>
(afieldAddr 2 v67).bind fun v68 =>
(((astore 1 v68 r60.1 r66.2).bind fun s70 =>
some (undef, s70)).bind (ownR r66.2)).bind fun r69 =>
joinK (owner_Cut.j0 R) [(getL T 0), (getL T 1), (getL T 2), (getL T 3), (getL T 4), (getL T 5), (getL T 6), (getL T 7), (getL T 8), (getL T 9), (getL T 10)] r69.2))
 ((((callV Try.prog R (.func (.func 40) #[] #[]) [(getL T 0), (getL T 9)] s).bind fun r151 =>
some (r151.1, r151.2)).bind (ownR s)).bind fun r81 =>
(afieldAddr 3 (getL T 3)).bind fun v82 =>
(lload false 1 v82 (getL T 10)).bind fun v83 =>
(afieldAddr 4 (getL T 3)).bind fun v84 =>
(lload false 1 v84 (getL T 10)).bind fun v85 =>
(abuild Try.prog 33 [(0, v83), (1, v85)]).bind fun v86 =>
(((callV Try.prog R (.func (.func 54) #[] #[]) [r81.1, v86] r81.2).bind fun r150 =>
some (r150.1, r150.2)).bind (ownR r81.2)).bind fun r87 =>
(aextract 0 r87.1).bind fun v88 =>
(aextract 1 r87.1).bind fun v89 =>
(lstore 2 lptr v88 (.agg #[(.string ⟨#[]⟩), (.string ⟨#[]⟩)])).bind fun v90 =>
(aun .not v89).bind fun v91 =>
condV v91
 (joinK (owner_Cut.j0 R) [(getL T 0), (getL T 1), (getL T 2), (getL T 3), (getL T 4), (getL T 5), (getL T 6), (getL T 7), (getL T 8), (getL T 9), (getL T 10)] r87.2)
 ((lload true 6 (getL T 3) (getL T 10)).bind fun v92 =>
(lstore 6 lptr v92 (.agg #[(.int .i64 0), (.string ⟨#[]⟩), (.string ⟨#[]⟩), (.string ⟨#[]⟩), (.string ⟨#[]⟩), (.int .i64 0)])).bind fun v93 =>
(lload false 1 lptr v90).bind fun v94 =>
(lload false 1 (.pointer (some ⟨0, 1, none⟩)) v90).bind fun v95 =>
(lstore 1 (.pointer (some ⟨0, 3, none⟩)) v94 v93).bind fun v96 =>
(lstore 1 (.pointer (some ⟨0, 4, none⟩)) v95 v96).bind fun v97 =>
((lload false 1 (.pointer (some ⟨0, 1, none⟩)) v15).bind fun v98 =>
(anilCheck v17).bind fun v99 =>
(afieldAddr 1 v99).bind fun v100 =>
(aload false 1 v100 r87.2).bind fun v101 =>
(lload true 6 lptr v97).bind fun v102 =>
(abuildSl 6 [(.int .i64 0), (.string ⟨#[]⟩), (.string ⟨#[]⟩), (.string ⟨#[]⟩), (.string ⟨#[]⟩), (.int .i64 0)] 1 [(0, v102)] r87.2).bind fun r103 =>
(aappend 6 80 v101 r103.1 r103.2).bind fun r104 =>
(anilCheck v17).bind fun v105 =>
(afieldAddr 2 v105).bind fun v106 =>
(aload false 1 v106 r104.2).bind fun v107 =>
(abuildSl 1 [(.int .i64 0)] 1 [(0, (getL T 2))] r104.2).bind fun r108 =>
(aappend 1 8 v107 r108.1 r108.2).bind fun r109 =>
(anilCheck v17).bind fun v110 =>
(afieldAddr 0 v110).bind fun v111 =>
(astore 1 v111 v98 r109.2).bind fun s112 =>
(anilCheck v17).bind fun v113 =>
(afieldAddr 1 v113).bind fun v114 =>
(astore 1 v114 r104.1 s112).bind fun s115 =>
(anilCheck v17).bind fun v116 =>
(afieldAddr 2 v116).bind fun v117 =>
(astore 1 v117 r109.1 s115).bind fun s118 =>
some [v101, r103.1]).bind fun q119 =>
(lload false 1 (.pointer (some ⟨0, 1, none⟩)) v15).bind fun v120 =>
(anilCheck v17).bind fun v121 =>
(afieldAddr 1 v121).bind fun v122 =>
(((aload false 1 v122 (⟨frzK [] 0 (r87.2).heap⟩ : St)).bind fun v149 =>
some (v149, (⟨frzK [] 0 (r87.2).heap⟩ : St))).bind (apartR [] r87.2)).bind fun r123 =>
(lload true 6 lptr v97).bind fun v124 =>
(((abuildSl 6 [(.int .i64 0), (.string ⟨#[]⟩), (.string ⟨#[]⟩), (.string ⟨#[]⟩), (.string ⟨#[]⟩), (.int .i64 0)] 1 [(0, v124)] (⟨frzK [] 0 (r123.2).heap⟩ : St)).bind fun r148 =>
some (r148.1, r148.2)).bind (apartR [] r123.2)).bind fun r125 =>
(((aappend 6 80 r123.1 r125.1 (⟨onlyL (blkV (getL q119 0) ++ blkV (getL q119 1)) 0 (r125.2).heap⟩ : St)).bind fun r147 =>
some (r147.1, r147.2)).bind (appR (blkV (getL q119 0) ++ blkV (getL q119 1)) [] r125.2)).bind fun r126 =>
(anilCheck v17).bind fun v127 =>
(afieldAddr 2 v127).bind fun v128 =>
(((aload false 1 v128 (⟨frzK ((blkV (getL q119 0) ++ blkV (getL q119 1)) ++ []) 0 (r126.2).heap⟩ : St)).bind fun v146 =>
some (v146, (⟨frzK ((blkV (getL q119 0) ++ blkV (getL q119 1)) ++ []) 0 (r126.2).heap⟩ : St))).bind (apartR ((blkV (getL q119 0) ++ blkV (getL q119 1)) ++ []) r126.2)).bind fun r129 =>
(((abuildSl 1 [(.int .i64 0)] 1 [(0, (getL T 2))] (⟨frzK ((blkV (getL q119 0) ++ blkV (getL q119 1)) ++ []) 0 (r129.2).heap⟩ : St)).bind fun r145 =>
some (r145.1, r145.2)).bind (apartR ((blkV (getL q119 0) ++ blkV (getL q119 1)) ++ []) r129.2)).bind fun r130 =>
(((aappend 1 8 r129.1 r130.1 r130.2).bind fun r144 =>
some (r144.1, r144.2)).bind (ownR r130.2)).bind fun r131 =>
(anilCheck v17).bind fun v132 =>
(afieldAddr 0 v132).bind fun v133 =>
(((astore 1 v133 v120 r131.2).bind fun s143 =>
some (undef, s143)).bind (ownR r131.2)).bind fun r134 =>
(anilCheck v17).bind fun v135 =>
(afieldAddr 1 v135).bind fun v136 =>
(((astore 1 v136 r126.1 r134.2).bind fun s142 =>
some (undef, s142)).bind (ownR r134.2)).bind fun r137 =>
(anilCheck v17).bind fun v138 =>
(afieldAddr 2 v138).bind fun v139 =>
(((astore 1 v139 r131.1 r137.2).bind fun s141 =>
some (undef, s141)).bind (ownR r137.2)).bind fun r140 =>
joinK (owner_Cut.j0 R) [(getL T 0), (getL T 1), (getL T 2), (getL T 3), (getL T 4), (getL T 5), (getL T 6), (getL T 7), (getL T 8), (getL T 9), (getL T 10)] r140.2)))
 (some (.exit 2, [(getL T 0), (getL T 1), (getL T 4), (getL T 5), (getL T 6)], s))

noncomputable def owner_Cut.b0 (R : Caller) (T : List Value) (s : St) : Res :=
(abin Try.prog .lss 3 (.tmp 29) (.tmp 28) (getL T 4) (getL T 3)).bind fun v6 =>
condV v6
 ((aindexS 6 (getL T 2) (getL T 4)).bind fun v7 =>
(aload true 6 v7 s).bind fun v8 =>
(lstore 6 lptr v8 (.agg #[(.int .i64 0), (.string ⟨#[]⟩), (.string ⟨#[]⟩), (.string ⟨#[]⟩), (.string ⟨#[]⟩), (.int .i64 0)])).bind fun v9 =>
(alenV (.slice 30) (getL T 0) s).bind fun v10 =>
(loopL (owner_Cut.b1 R) [(getL T 0), (getL T 1), (getL T 4), lptr, (getL T 2), (getL T 3), (getL T 4), (getL T 0), v10, (.int .i64 0), v9] s).bind fun r152 =>
exV r152.1 [(2, (abin Try.prog .add 3 (.tmp 29) (.const (.int .i64 1)) (getL r152.2.1 4) (.int .i64 1)).bind fun v153 =>
some (.normal, [(getL r152.2.1 0), (getL r152.2.1 1), (getL r152.2.1 2), (getL r152.2.1 3), v153], r152.2.2))]
 (none))
 (some (.exit 0, [(getL T 1)], s))

noncomputable def owner_Cut (R : Caller) (x0 x1 : Value) (s : St) : Option (Value × St) :=
(callV Try.prog R (.func (.func 19) #[] #[]) [x0] s).bind fun r0 =>
(abin Try.prog .neq 24 (.tmp 19) (.const (.int .i64 0)) r0.1 (.int .i64 0)).bind fun v1 =>
condV v1
 (retV [(.slice none 0 0), r0.1] r0.2)
 ((callV Try.prog R (.func (.func 53) #[] #[]) [x1] r0.2).bind fun r2 =>
(abin Try.prog .neq 24 (.tmp 24) (.const (.int .i64 0)) r2.1 (.int .i64 0)).bind fun v3 =>
condV v3
 (retV [(.slice none 0 0), r2.1] r2.2)
 ((anew [(.int .i64 0), (.slice none 0 0), (.slice none 0 0), (.int .i64 0), (.slice none 0 0), (.slice none 0 0), (.int .i64 0), (.slice none 0 0), (.slice none 0 0), (.int .i64 0), (.slice none 0 0), (.slice none 0 0), (.int .i64 0), (.slice none 0 0), (.slice none 0 0)] r2.2).bind fun r4 =>
(alenV (.slice 74) x1 r4.2).bind fun v5 =>
(loopL (owner_Cut.b0 R) [x0, r4.1, x1, v5, (.int .i64 0)] r4.2).bind fun r154 =>
exV r154.1 [(0, (asliceArr 5 3 (getL r154.2.1 0) none none none r154.2.2).bind fun v155 =>
(callV Try.prog R (.func (.func 56) #[] #[]) [v155] r154.2.2).bind fun r156 =>
(callV Try.prog R (.func (.func 55) #[] #[]) [r156.1, (.func (.func 57) #[] #[])] r156.2).bind fun r157 =>
retV [r157.1, (.int .i64 0)] r157.2)]
 (none)))

theorem owner_Cut_of {lib : Lib} (hl : lib 29 = none) {x0 x1 : Value} {s : St} {r : Value × St} (h : owner_Cut (run Try.prog lib hints) x0 x1 s = some r) : run Try.prog lib hints 29 [x0, x1] s = some r :=
  run_of hl Try.func29 (Eq.trans (by kernel_rfl) h)

theorem owner_Cut_ok : funcOk Try.prog 29 = true := by kernel_rfl
theorem owner_Cut_call {R : Caller} {xs : List Value} {s : St} : callV Try.prog R (.func (.func 29) #[] #[]) xs s = R 29 xs s := callV_eq owner_Cut_ok

/-! ### sumpter/op.Apply: 30 -/

noncomputable def op_Apply.b0 (R : Caller) (T : List Value) (s : St) : Res :=
(abin Try.prog .lss 3 (.tmp 27) (.tmp 26) (getL T 4) (getL T 3)).bind fun v6 =>
condV v6
 ((aindexS 6 (getL T 2) (getL T 4)).bind fun v7 =>
(aload true 6 v7 s).bind fun v8 =>
(lstore 6 lptr v8 (.agg #[(.int .i64 0), (.string ⟨#[]⟩), (.string ⟨#[]⟩), (.string ⟨#[]⟩), (.string ⟨#[]⟩), (.int .i64 0)])).bind fun v9 =>
(((callV Try.prog R (.func (.func 60) #[] #[]) [] s).bind fun r24 =>
some (r24.1, r24.2)).bind (ownR s)).bind fun r10 =>
(lload false 1 lptr v9).bind fun v11 =>
(aindexAgg true 6 6 r10.1 v11).bind fun v12 =>
(afield false 5 1 v12).bind fun v13 =>
(lload true 6 lptr v9).bind fun v14 =>
(((callV Try.prog R v13 [(getL T 0), v14] r10.2).bind fun r23 =>
some (r23.1, r23.2)).bind (ownR r10.2)).bind fun r15 =>
(aextract 0 r15.1).bind fun v16 =>
(aextract 1 r15.1).bind fun v17 =>
(lstore 3 lptr v17 (.agg #[(.bool false), (.string ⟨#[]⟩), (.slice none 0 0)])).bind fun v18 =>
(lload true 3 lptr v18).bind fun v19 =>
(abuildSl 3 [(.bool false), (.string ⟨#[]⟩), (.slice none 0 0)] 1 [(0, v19)] r15.2).bind fun r20 =>
(aappend 3 48 (getL T 1) r20.1 r20.2).bind fun r21 =>
(abin Try.prog .add 3 (.tmp 27) (.const (.int .i64 1)) (getL T 4) (.int .i64 1)).bind fun v22 =>
some (.normal, [v16, r21.1, (getL T 2), (getL T 3), v22], r21.2))
 (some (.exit 0, [(getL T 0), (getL T 1)], s))

noncomputable def op_Apply (R : Caller) (x0 x1 : Value) (s : St) : Option (Value × St) :=
(callV Try.prog R (.func (.func 58) #[] #[]) [x0] s).bind fun r0 =>
(abin Try.prog .neq 24 (.tmp 15) (.const (.int .i64 0)) r0.1 (.int .i64 0)).bind fun v1 =>
condV v1
 (retV [(.slice none 0 0), (.slice none 0 0), r0.1] r0.2)
 ((callV Try.prog R (.func (.func 59) #[] #[]) [x1] r0.2).bind fun r2 =>
(abin Try.prog .neq 24 (.tmp 20) (.const (.int .i64 0)) r2.1 (.int .i64 0)).bind fun v3 =>
condV v3
 (retV [(.slice none 0 0), (.slice none 0 0), r2.1] r2.2)
 ((callV Try.prog R (.func (.func 48) #[] #[]) [x0] r2.2).bind fun r4 =>
(alenV (.slice 74) x1 r4.2).bind fun v5 =>
(loopL (op_Apply.b0 R) [r4.1, (.slice none 0 0), x1, v5, (.int .i64 0)] r4.2).bind fun r25 =>
exV r25.1 [(0, retV [(getL r25.2.1 0), (getL r25.2.1 1), (.int .i64 0)] r25.2.2)]
 (none)))

theorem op_Apply_of {lib : Lib} (hl : lib 30 = none) {x0 x1 : Value} {s : St} {r : Value × St} (h : op_Apply (run Try.prog lib hints) x0 x1 s = some r) : run Try.prog lib hints 30 [x0, x1] s = some r :=
  run_of hl Try.func30 (Eq.trans (by kernel_rfl) h)

theorem op_Apply_ok : funcOk Try.prog 30 = true := by kernel_rfl
theorem op_Apply_call {R : Caller} {xs : List Value} {s : St} : callV Try.prog R (.func (.func 30) #[] #[]) xs s = R 30 xs s := callV_eq op_Apply_ok

/-! ### sumpter/sumpterref04.Find: 31 -/

noncomputable def ref04_Find.b0 (R : Caller) (T : List Value) (s : St) : Res :=
(abin Try.prog .lss 3 (.tmp 10) (.tmp 9) (getL T 3) (getL T 2)).bind fun v1 =>
condV v1
 ((aindexS 2 (getL T 1) (getL T 3)).bind fun v2 =>
(aload true 2 v2 s).bind fun v3 =>
(lstore 2 lptr v3 (.agg #[(.string ⟨#[]⟩), (.string ⟨#[]⟩)])).bind fun v4 =>
(lload false 1 lptr v4).bind fun v5 =>
(abin Try.prog .eql 9 (.tmp 15) (.tmp 16) v5 (getL T 0)).bind fun v6 =>
condV v6
 ((lload false 1 (.pointer (some ⟨0, 1, none⟩)) v4).bind fun v7 =>
some (.ret, [v7, (.bool true)], s))
 ((abin Try.prog .add 3 (.tmp 10) (.const (.int .i64 1)) (getL T 3) (.int .i64 1)).bind fun v8 =>
some (.normal, [(getL T 0), (getL T 1), (getL T 2), v8], s)))
 (some (.exit 0, [], s))

noncomputable def ref04_Find (R : Caller) (x0 x1 : Value) (s : St) : Option (Value × St) :=
(alenV (.slice 62) x0 s).bind fun v0 =>
(loopL (ref04_Find.b0 R) [x1, x0, v0, (.int .i64 0)] s).bind fun r9 =>
exV r9.1 [(0, retV [(.string ⟨#[]⟩), (.bool false)] r9.2.2)]
 (retV [(getL r9.2.1 0), (getL r9.2.1 1)] r9.2.2)

theorem ref04_Find_of {lib : Lib} (hl : lib 31 = none) {x0 x1 : Value} {s : St} {r : Value × St} (h : ref04_Find (run Try.prog lib hints) x0 x1 s = some r) : run Try.prog lib hints 31 [x0, x1] s = some r :=
  run_of hl Try.func31 (Eq.trans (by kernel_rfl) h)

theorem ref04_Find_ok : funcOk Try.prog 31 = true := by kernel_rfl
theorem ref04_Find_call {R : Caller} {xs : List Value} {s : St} : callV Try.prog R (.func (.func 31) #[] #[]) xs s = R 31 xs s := callV_eq ref04_Find_ok

/-! ### sumpter/sumpterlaw17.two: 32 -/

noncomputable def law17_two (R : Caller) (s : St) : Option (Value × St) :=
(abuildSl 2 [(.string ⟨#[]⟩), (.int .i64 0)] 2 [(0, (.agg #[(.string ⟨#[]⟩), (.int .i64 1)])), (1, (.agg #[(.string ⟨#[109]⟩), (.int .i64 2)]))] s).bind fun r0 =>
retV [r0.1] r0.2

theorem law17_two_of {lib : Lib} (hl : lib 32 = none) {s : St} {r : Value × St} (h : law17_two (run Try.prog lib hints)  s = some r) : run Try.prog lib hints 32 [] s = some r :=
  run_of hl Try.func32 (Eq.trans (by kernel_rfl) h)

theorem law17_two_ok : funcOk Try.prog 32 = true := by kernel_rfl
theorem law17_two_call {R : Caller} {xs : List Value} {s : St} : callV Try.prog R (.func (.func 32) #[] #[]) xs s = R 32 xs s := callV_eq law17_two_ok

/-! ### slices.Insert[[]sumpter/api.Owner,sumpter/api.Owner]: 33 -/

noncomputable def slices_Insert_api_Owner_api_Owner (R : Caller) (x0 x1 x2 : Value) (s : St) : Option (Value × St) :=
(asliceV 2 x0 (some x1) none none).bind fun v0 =>
(alenV (.slice 30) x2 s).bind fun v1 =>
(abin Try.prog .eql 3 (.tmp 15) (.const (.int .i64 0)) v1 (.int .i64 0)).bind fun v2 =>
condV v2
 (retV [x0] s)
 ((alenV (.slice 30) x0 s).bind fun v3 =>
(abin Try.prog .eql 3 (.tmp 20) (.tmp 21) x1 v3).bind fun v4 =>
condV v4
 ((aappend 2 24 x0 x2 s).bind fun r5 =>
retV [r5.1] r5.2)
 ((abin Try.prog .add 3 (.tmp 26) (.tmp 27) v3 v1).bind fun v6 =>
(acap x0).bind fun v7 =>
(abin Try.prog .gtr 3 (.tmp 28) (.tmp 30) v6 v7).bind fun v8 =>
condV v8
 ((asliceV 2 x0 none (some x1) none).bind fun v9 =>
(abin Try.prog .add 3 (.tmp 35) (.tmp 36) v3 v1).bind fun v10 =>
(abin Try.prog .sub 3 (.tmp 37) (.tmp 38) v10 x1).bind fun v11 =>
(aappendZ 2 24 [(.string ⟨#[]⟩), (.int .i64 0)] v9 v11 s).bind fun r12 =>
(asliceV 2 r12.1 (some x1) none none).bind fun v13 =>
(acopy 2 v13 x2 r12.2).bind fun r14 =>
(abin Try.prog .add 3 (.tmp 47) (.tmp 48) x1 v1).bind fun v15 =>
(asliceV 2 r12.1 (some v15) none none).bind fun v16 =>
(asliceV 2 x0 (some x1) none none).bind fun v17 =>
(((acopy 2 v16 v17 r14.2).bind fun r19 =>
some (r19.1, r19.2)).bind (ownR r14.2)).bind fun r18 =>
retV [r12.1] r18.2)
 ((abin Try.prog .add 3 (.tmp 57) (.tmp 58) v3 v1).bind fun v20 =>
(asliceV 2 x0 none (some v20) none).bind fun v21 =>
(abin Try.prog .add 3 (.tmp 63) (.tmp 64) x1 v1).bind fun v22 =>
(asliceV 2 v21 (some v22) none none).bind fun v23 =>
(callV Try.prog R (.func (.func 61) #[] #[]) [x2, v23] s).bind fun r24 =>
(aun .not r24.1).bind fun v25 =>
condV v25
 ((abin Try.prog .add 3 (.tmp 70) (.tmp 71) x1 v1).bind fun v26 =>
(asliceV 2 v21 (some v26) none none).bind fun v27 =>
(asliceV 2 v21 (some x1) none none).bind fun v28 =>
(((acopy 2 v27 v28 r24.2).bind fun r32 =>
some (r32.1, r32.2)).bind (ownR r24.2)).bind fun r29 =>
(asliceV 2 v21 (some x1) none none).bind fun v30 =>
(acopy 2 v30 x2 r29.2).bind fun r31 =>
retV [v21] r31.2)
 ((asliceV 2 v21 (some v3) none none).bind fun v33 =>
(acopy 2 v33 x2 r24.2).bind fun r34 =>
(asliceV 2 v21 (some x1) none none).bind fun v35 =>
(callV Try.prog R (.func (.func 62) #[] #[]) [v35, v1] r34.2).bind fun r36 =>
retV [v21] r36.2))))

theorem slices_Insert_api_Owner_api_Owner_of {lib : Lib} (hl : lib 33 = none) {x0 x1 x2 : Value} {s : St} {r : Value × St} (h : slices_Insert_api_Owner_api_Owner (run Try.prog lib hints) x0 x1 x2 s = some r) : run Try.prog lib hints 33 [x0, x1, x2] s = some r :=
  run_of hl Try.func33 (Eq.trans (by kernel_rfl) h)

theorem slices_Insert_api_Owner_api_Owner_ok : funcOk Try.prog 33 = true := by kernel_rfl
theorem slices_Insert_api_Owner_api_Owner_call {R : Caller} {xs : List Value} {s : St} : callV Try.prog R (.func (.func 33) #[] #[]) xs s = R 33 xs s := callV_eq slices_Insert_api_Owner_api_Owner_ok

/-! ### slices.Clone[[]sumpter/api.Owner,sumpter/api.Owner]: 34 -/

noncomputable def slices_Clone_api_Owner_api_Owner (R : Caller) (x0 : Value) (s : St) : Option (Value × St) :=
(abin Try.prog .eql 22 (.tmp 3) (.const (.slice none 0 0)) x0 (.slice none 0 0)).bind fun v0 =>
condV v0
 (retV [(.slice none 0 0)] s)
 ((abuildSl 2 [(.string ⟨#[]⟩), (.int .i64 0)] 0 [] s).bind fun r1 =>
(aappend 2 24 r1.1 x0 r1.2).bind fun r2 =>
retV [r2.1] r2.2)

theorem slices_Clone_api_Owner_api_Owner_of {lib : Lib} (hl : lib 34 = none) {x0 : Value} {s : St} {r : Value × St} (h : slices_Clone_api_Owner_api_Owner (run Try.prog lib hints) x0 s = some r) : run Try.prog lib hints 34 [x0] s = some r :=
  run_of hl Try.func34 (Eq.trans (by kernel_rfl) h)

theorem slices_Clone_api_Owner_api_Owner_ok : funcOk Try.prog 34 = true := by kernel_rfl
theorem slices_Clone_api_Owner_api_Owner_call {R : Caller} {xs : List Value} {s : St} : callV Try.prog R (.func (.func 34) #[] #[]) xs s = R 34 xs s := callV_eq slices_Clone_api_Owner_api_Owner_ok

/-! ### slices.BinarySearchFunc[[]sumpter/api.Owner,sumpter/api.Owner,string]: 35 -/

noncomputable def slices_BinarySearchFunc_api_Owner_api_Owner_string.b0 (R : Caller) (T : List Value) (s : St) : Res :=
(abin Try.prog .lss 3 (.tmp 15) (.tmp 16) (getL T 4) (getL T 5)).bind fun v1 =>
condV v1
 ((abin Try.prog .add 3 (.tmp 18) (.tmp 19) (getL T 4) (getL T 5)).bind fun v2 =>
(convInt .u64 v2).bind fun v3 =>
(abin Try.prog .shr 109 (.tmp 21) (.const (.int .u64 1)) v3 (.int .u64 1)).bind fun v4 =>
(convInt .i64 v4).bind fun v5 =>
(aindexS 2 (getL T 0) v5).bind fun v6 =>
(aload true 2 v6 s).bind fun v7 =>
(callV Try.prog R (getL T 2) [v7, (getL T 1)] s).bind fun r8 =>
(abin Try.prog .lss 3 (.tmp 30) (.const (.int .i64 0)) r8.1 (.int .i64 0)).bind fun v9 =>
condV v9
 ((abin Try.prog .add 3 (.tmp 32) (.const (.int .i64 1)) v5 (.int .i64 1)).bind fun v10 =>
some (.normal, [(getL T 0), (getL T 1), (getL T 2), (getL T 3), v10, (getL T 5)], r8.2))
 (some (.normal, [(getL T 0), (getL T 1), (getL T 2), (getL T 3), (getL T 4), v5], r8.2)))
 (some (.exit 0, [(getL T 0), (getL T 1), (getL T 2), (getL T 3), (getL T 4)], s))

noncomputable def slices_BinarySearchFunc_api_Owner_api_Owner_string (R : Caller) (x0 x1 x2 : Value) (s : St) : Option (Value × St) :=
(alenV (.slice 30) x0 s).bind fun v0 =>
(loopL (slices_BinarySearchFunc_api_Owner_api_Owner_string.b0 R) [x0, x1, x2, v0, (.int .i64 0), v0] s).bind fun r11 =>
exV r11.1 [(0, (abin Try.prog .lss 3 (.tmp 36) (.tmp 37) (getL r11.2.1 4) (getL r11.2.1 3)).bind fun v12 =>
(guardV v12 true ((aindexS 2 (getL r11.2.1 0) (getL r11.2.1 4)).bind fun v13 =>
(aload true 2 v13 r11.2.2).bind fun v14 =>
(callV Try.prog R (getL r11.2.1 2) [v14, (getL r11.2.1 1)] r11.2.2).bind fun r15 =>
(abin Try.prog .eql 3 (.tmp 46) (.const (.int .i64 0)) r15.1 (.int .i64 0)).bind fun v16 =>
some ([v16], r15.2)) (some ([undef], r11.2.2))).bind fun q17 =>
(apick v12 (getL q17.1 0) (.bool false)).bind fun v18 =>
retV [(getL r11.2.1 4), v18] q17.2)]
 (none)

theorem slices_BinarySearchFunc_api_Owner_api_Owner_string_of {lib : Lib} (hl : lib 35 = none) {x0 x1 x2 : Value} {s : St} {r : Value × St} (h : slices_BinarySearchFunc_api_Owner_api_Owner_string (run Try.prog lib hints) x0 x1 x2 s = some r) : run Try.prog lib hints 35 [x0, x1, x2] s = some r :=
  run_of hl Try.func35 (Eq.trans (by kernel_rfl) h)

theorem slices_BinarySearchFunc_api_Owner_api_Owner_string_ok : funcOk Try.prog 35 = true := by kernel_rfl
theorem slices_BinarySearchFunc_api_Owner_api_Owner_string_call {R : Caller} {xs : List Value} {s : St} : callV Try.prog R (.func (.func 35) #[] #[]) xs s = R 35 xs s := callV_eq slices_BinarySearchFunc_api_Owner_api_Owner_string_ok

/-! ### sumpter/owner.Find$1: 36 -/

noncomputable def owner_Find_1 (R : Caller) (x0 x1 : Value) (s : St) : Option (Value × St) :=
(lbox x0).bind fun v0 =>
(lload false 1 lptr v0).bind fun v1 =>
(callV Try.prog R (.func (.func 37) #[] #[]) [v1, x1] s).bind fun r2 =>
retV [r2.1] r2.2

theorem owner_Find_1_of {lib : Lib} (hl : lib 36 = none) {x0 x1 : Value} {s : St} {r : Value × St} (h : owner_Find_1 (run Try.prog lib hints) x0 x1 s = some r) : run Try.prog lib hints 36 [x0, x1] s = some r :=
  run_of hl Try.func36 (Eq.trans (by kernel_rfl) h)

theorem owner_Find_1_ok : funcOk Try.prog 36 = true := by kernel_rfl
theorem owner_Find_1_call {R : Caller} {xs : List Value} {s : St} : callV Try.prog R (.func (.func 36) #[] #[]) xs s = R 36 xs s := callV_eq owner_Find_1_ok

/-! ### strings.Compare: 37 -/

noncomputable def strings_Compare (R : Caller) (x0 x1 : Value) (s : St) : Option (Value × St) :=
(callV Try.prog R (.func (.func 63) #[] #[]) [x0, x1] s).bind fun r0 =>
retV [r0.1] r0.2

theorem strings_Compare_of {lib : Lib} (hl : lib 37 = none) {x0 x1 : Value} {s : St} {r : Value × St} (h : strings_Compare (run Try.prog lib hints) x0 x1 s = some r) : run Try.prog lib hints 37 [x0, x1] s = some r :=
  run_of hl Try.func37 (Eq.trans (by kernel_rfl) h)

theorem strings_Compare_ok : funcOk Try.prog 37 = true := by kernel_rfl
theorem strings_Compare_call {R : Caller} {xs : List Value} {s : St} : callV Try.prog R (.func (.func 37) #[] #[]) xs s = R 37 xs s := callV_eq strings_Compare_ok

/-! ### sumpter/sumpterref02.CheckKey: 38 -/

noncomputable def ref02_CheckKey (R : Caller) (x0 : Value) (s : St) : Option (Value × St) :=
(alenV .string x0 s).bind fun v0 =>
(abin Try.prog .lss 3 (.tmp 4) (.const (.int .i64 1)) v0 (.int .i64 1)).bind fun v1 =>
(guardV v1 false ((alenV .string x0 s).bind fun v2 =>
(abin Try.prog .gtr 3 (.tmp 8) (.const (.int .i64 12)) v2 (.int .i64 12)).bind fun v3 =>
some ([v3], s)) (some ([undef], s))).bind fun q4 =>
(apick v1 (.bool true) (getL q4.1 0)).bind fun v5 =>
condV v5
 (retV [(.int .i64 20)] q4.2)
 (retV [(.int .i64 0)] q4.2)

theorem ref02_CheckKey_of {lib : Lib} (hl : lib 38 = none) {x0 : Value} {s : St} {r : Value × St} (h : ref02_CheckKey (run Try.prog lib hints) x0 s = some r) : run Try.prog lib hints 38 [x0] s = some r :=
  run_of hl Try.func38 (Eq.trans (by kernel_rfl) h)

theorem ref02_CheckKey_ok : funcOk Try.prog 38 = true := by kernel_rfl
theorem ref02_CheckKey_call {R : Caller} {xs : List Value} {s : St} : callV Try.prog R (.func (.func 38) #[] #[]) xs s = R 38 xs s := callV_eq ref02_CheckKey_ok

/-! ### sumpter/sumpterref17.at: 39 -/

noncomputable def ref17_at.b0 (R : Caller) (T : List Value) (s : St) : Res :=
(abin Try.prog .lss 3 (.tmp 8) (.tmp 7) (getL T 3) (getL T 2)).bind fun v1 =>
condV v1
 ((callV Try.prog R (.func (.func 41) #[] #[]) [(getL T 0), (getL T 3)] s).bind fun r2 =>
(callV Try.prog R (.func (.func 64) #[] #[]) [r2.1, (getL T 1)] r2.2).bind fun r3 =>
condV r3.1
 (some (.ret, [(getL T 3)], r3.2))
 ((abin Try.prog .add 3 (.tmp 8) (.const (.int .i64 1)) (getL T 3) (.int .i64 1)).bind fun v4 =>
some (.normal, [(getL T 0), (getL T 1), (getL T 2), v4], r3.2)))
 (some (.exit 0, [], s))

noncomputable def ref17_at (R : Caller) (x0 x1 : Value) (s : St) : Option (Value × St) :=
(alenV (.slice 30) x0 s).bind fun v0 =>
(loopL (ref17_at.b0 R) [x0, x1, v0, (.int .i64 0)] s).bind fun r5 =>
exV r5.1 [(0, retV [(.int .i64 0)] r5.2.2)]
 (retV [(getL r5.2.1 0)] r5.2.2)

theorem ref17_at_of {lib : Lib} (hl : lib 39 = none) {x0 x1 : Value} {s : St} {r : Value × St} (h : ref17_at (run Try.prog lib hints) x0 x1 s = some r) : run Try.prog lib hints 39 [x0, x1] s = some r :=
  run_of hl Try.func39 (Eq.trans (by kernel_rfl) h)

theorem ref17_at_ok : funcOk Try.prog 39 = true := by kernel_rfl
theorem ref17_at_call {R : Caller} {xs : List Value} {s : St} : callV Try.prog R (.func (.func 39) #[] #[]) xs s = R 39 xs s := callV_eq ref17_at_ok

/-! ### sumpter/owner.keys: 40 -/

noncomputable def owner_keys (R : Caller) (x0 x1 : Value) (s : St) : Option (Value × St) :=
(abin Try.prog .add 3 (.tmp 5) (.const (.int .i64 1)) x1 (.int .i64 1)).bind fun v0 =>
(alenV (.slice 30) x0 s).bind fun v1 =>
(abin Try.prog .eql 3 (.tmp 6) (.tmp 8) v0 v1).bind fun v2 =>
condV v2
 ((aindexS 2 x0 x1).bind fun v3 =>
(afieldAddr 0 v3).bind fun v4 =>
(aload false 1 v4 s).bind fun v5 =>
(abuild Try.prog 33 [(0, v5)]).bind fun v6 =>
(lstore 2 lptr v6 (.agg #[(.string ⟨#[]⟩), (.string ⟨#[]⟩)])).bind fun v7 =>
(lload true 2 lptr v7).bind fun v8 =>
retV [v8] s)
 ((aindexS 2 x0 x1).bind fun v9 =>
(afieldAddr 0 v9).bind fun v10 =>
((aload false 1 v10 (frzS s)).bind fun v20 =>
some (v20, (frzS s))).bind fun r11 =>
(abin Try.prog .add 3 (.tmp 22) (.const (.int .i64 1)) x1 (.int .i64 1)).bind fun v12 =>
(aindexS 2 x0 v12).bind fun v13 =>
(afieldAddr 0 v13).bind fun v14 =>
((aload false 1 v14 (frzS s)).bind fun v19 =>
some (v19, (frzS s))).bind fun r15 =>
(abuild Try.prog 33 [(0, r11.1), (1, r15.1)]).bind fun v16 =>
(lstore 2 lptr v16 (.agg #[(.string ⟨#[]⟩), (.string ⟨#[]⟩)])).bind fun v17 =>
(lload true 2 lptr v17).bind fun v18 =>
retV [v18] s)

theorem owner_keys_of {lib : Lib} (hl : lib 40 = none) {x0 x1 : Value} {s : St} {r : Value × St} (h : owner_keys (run Try.prog lib hints) x0 x1 s = some r) : run Try.prog lib hints 40 [x0, x1] s = some r :=
  run_of hl Try.func40 (Eq.trans (by kernel_rfl) h)

theorem owner_keys_ok : funcOk Try.prog 40 = true := by kernel_rfl
theorem owner_keys_call {R : Caller} {xs : List Value} {s : St} : callV Try.prog R (.func (.func 40) #[] #[]) xs s = R 40 xs s := callV_eq owner_keys_ok

/-! ### sumpter/sumpterref17.Range: 41 -/

noncomputable def ref17_Range.j0 (R : Caller) (T : List Value) (s : St) : Option (Value × St) :=
(lload true 2 (getL T 1) (getL T 3)).bind fun v14 =>
(lstore 2 (getL T 0) v14 (getL T 2)).bind fun v15 =>
(lload true 2 (getL T 0) v15).bind fun v16 =>
retV [v16] s

noncomputable def ref17_Range (R : Caller) (x0 x1 : Value) (s : St) : Option (Value × St) :=
(aindexS 2 x0 x1).bind fun v0 =>
(afieldAddr 0 v0).bind fun v1 =>
(aload false 1 v1 s).bind fun v2 =>
(abuild Try.prog 33 [(0, v2)]).bind fun v3 =>
(lstore 2 lptr v3 (.agg #[(.string ⟨#[]⟩), (.string ⟨#[]⟩)])).bind fun v4 =>
(abin Try.prog .add 3 (.tmp 12) (.const (.int .i64 1)) x1 (.int .i64 1)).bind fun v6 =>
(alenV (.slice 30) x0 s).bind fun v7 =>
(abin Try.prog .lss 3 (.tmp 13) (.tmp 15) v6 v7).bind fun v8 =>
condV v8
 ((abin Try.prog .add 3 (.tmp 18) (.const (.int .i64 1)) x1 (.int .i64 1)).bind fun v9 =>
(aindexS 2 x0 v9).bind fun v10 =>
(afieldAddr 0 v10).bind fun v11 =>
(aload false 1 v11 s).bind fun v12 =>
(lstore 1 (.pointer (some ⟨0, 1, none⟩)) v12 v4).bind fun v13 =>
joinK (ref17_Range.j0 R) [lptr, lptr, (.agg #[(.string ⟨#[]⟩), (.string ⟨#[]⟩)]), v13] s)
 (joinK (ref17_Range.j0 R) [lptr, lptr, (.agg #[(.string ⟨#[]⟩), (.string ⟨#[]⟩)]), v4] s)

theorem ref17_Range_of {lib : Lib} (hl : lib 41 = none) {x0 x1 : Value} {s : St} {r : Value × St} (h : ref17_Range (run Try.prog lib hints) x0 x1 s = some r) : run Try.prog lib hints 41 [x0, x1] s = some r :=
  run_of hl Try.func41 (Eq.trans (by kernel_rfl) h)

theorem ref17_Range_ok : funcOk Try.prog 41 = true := by kernel_rfl
theorem ref17_Range_call {R : Caller} {xs : List Value} {s : St} : callV Try.prog R (.func (.func 41) #[] #[]) xs s = R 41 xs s := callV_eq ref17_Range_ok

/-! ### sumpter/span.Covers: 42 -/

noncomputable def span_Covers (R : Caller) (x0 x1 : Value) (s : St) : Option (Value × St) :=
(lbox x0).bind fun v0 =>
(lbox x1).bind fun v1 =>
(lload true 2 lptr v0).bind fun v2 =>
(((callV Try.prog R (.func (.func 23) #[] #[]) [v2] s).bind fun r35 =>
some (r35.1, r35.2)).bind (ownR s)).bind fun r3 =>
(abin Try.prog .eql 24 (.tmp 6) (.const (.int .i64 0)) r3.1 (.int .i64 0)).bind fun v4 =>
(guardV v4 true ((lload true 2 lptr v1).bind fun v5 =>
some ([v5], r3.2)) (some ([undef], r3.2))).bind fun q6 =>
((guardV v4 true ((callV Try.prog R (.func (.func 23) #[] #[]) [(getL q6.1 0)] q6.2).bind fun r34 =>
some (r34.1, r34.2)) (some (undef, q6.2))).bind (ownR q6.2)).bind fun r7 =>
(guardV v4 true ((abin Try.prog .eql 24 (.tmp 10) (.const (.int .i64 0)) r7.1 (.int .i64 0)).bind fun v8 =>
some ([v8], r7.2)) (some ([undef], r7.2))).bind fun q9 =>
(apick v4 (getL q9.1 0) (.bool false)).bind fun v10 =>
(guardV v10 true (some ([lptr], q9.2)) (some ([undef], q9.2))).bind fun q11 =>
(guardV v10 true ((lload false 1 (getL q11.1 0) v0).bind fun v12 =>
some ([v12], q11.2)) (some ([undef], q11.2))).bind fun q13 =>
(guardV v10 true (some ([lptr], q13.2)) (some ([undef], q13.2))).bind fun q14 =>
(guardV v10 true ((lload false 1 (getL q14.1 0) v1).bind fun v15 =>
some ([v15], q14.2)) (some ([undef], q14.2))).bind fun q16 =>
(guardV v10 true ((abin Try.prog .leq 9 (.tmp 15) (.tmp 17) (getL q13.1 0) (getL q16.1 0)).bind fun v17 =>
some ([v17], q16.2)) (some ([undef], q16.2))).bind fun q18 =>
(apick v10 (getL q18.1 0) (.bool false)).bind fun v19 =>
(guardV v19 true (some ([(.pointer (some ⟨0, 1, none⟩))], q18.2)) (some ([undef], q18.2))).bind fun q20 =>
(guardV v19 true ((lload false 1 (getL q20.1 0) v0).bind fun v21 =>
some ([v21], q20.2)) (some ([undef], q20.2))).bind fun q22 =>
(guardV v19 true (some ([(.pointer (some ⟨0, 1, none⟩))], q22.2)) (some ([undef], q22.2))).bind fun q23 =>
(guardV v19 true ((lload false 1 (getL q23.1 0) v1).bind fun v24 =>
some ([v24], q23.2)) (some ([undef], q23.2))).bind fun q25 =>
((guardV v19 true ((callV Try.prog R (.func (.func 65) #[] #[]) [(getL q22.1 0), (getL q25.1 0)] q25.2).bind fun r33 =>
some (r33.1, r33.2)) (some (undef, q25.2))).bind (ownR q25.2)).bind fun r26 =>
(guardV v19 true (some ([(.pointer (some ⟨0, 1, none⟩))], r26.2)) (some ([undef], r26.2))).bind fun q27 =>
(guardV v19 true ((lload false 1 (getL q27.1 0) v1).bind fun v28 =>
some ([v28], q27.2)) (some ([undef], q27.2))).bind fun q29 =>
(guardV v19 true ((abin Try.prog .eql 9 (.tmp 25) (.tmp 27) r26.1 (getL q29.1 0)).bind fun v30 =>
some ([v30], q29.2)) (some ([undef], q29.2))).bind fun q31 =>
(apick v19 (getL q31.1 0) (.bool false)).bind fun v32 =>
retV [v32] q31.2

theorem span_Covers_of {lib : Lib} (hl : lib 42 = none) {x0 x1 : Value} {s : St} {r : Value × St} (h : span_Covers (run Try.prog lib hints) x0 x1 s = some r) : run Try.prog lib hints 42 [x0, x1] s = some r :=
  run_of hl Try.func42 (Eq.trans (by kernel_rfl) h)

theorem span_Covers_ok : funcOk Try.prog 42 = true := by kernel_rfl
theorem span_Covers_call {R : Caller} {xs : List Value} {s : St} : callV Try.prog R (.func (.func 42) #[] #[]) xs s = R 42 xs s := callV_eq span_Covers_ok

/-! ### sumpter/sumpterref02.Check: 43 -/

noncomputable def ref02_Check (R : Caller) (x0 : Value) (s : St) : Option (Value × St) :=
(lbox x0).bind fun v0 =>
(lload false 1 lptr v0).bind fun v1 =>
(alenV .string v1 s).bind fun v2 =>
(abin Try.prog .gtr 3 (.tmp 5) (.const (.int .i64 12)) v2 (.int .i64 12)).bind fun v3 =>
(guardV v3 false ((lload false 1 (.pointer (some ⟨0, 1, none⟩)) v0).bind fun v4 =>
(alenV .string v4 s).bind fun v5 =>
(abin Try.prog .gtr 3 (.tmp 10) (.const (.int .i64 12)) v5 (.int .i64 12)).bind fun v6 =>
some ([v6], s)) (some ([undef], s))).bind fun q7 =>
(apick v3 (.bool true) (getL q7.1 0)).bind fun v8 =>
(guardV v8 false ((lload false 1 (.pointer (some ⟨0, 1, none⟩)) v0).bind fun v9 =>
(abin Try.prog .neq 9 (.tmp 15) (.const (.string ⟨#[]⟩)) v9 (.string ⟨#[]⟩)).bind fun v10 =>
some ([v10], q7.2)) (some ([undef], q7.2))).bind fun q11 =>
(guardV (getL q11.1 0) true ((lload false 1 lptr v0).bind fun v12 =>
(lload false 1 (.pointer (some ⟨0, 1, none⟩)) v0).bind fun v13 =>
(abin Try.prog .geq 9 (.tmp 19) (.tmp 21) v12 v13).bind fun v14 =>
some ([v14], q11.2)) (some ([undef], q11.2))).bind fun q15 =>
(guardV v8 false ((apick (getL q11.1 0) (getL q15.1 0) (.bool false)).bind fun v16 =>
some ([v16], q15.2)) (some ([undef], q15.2))).bind fun q17 =>
(apick v8 (.bool true) (getL q17.1 0)).bind fun v18 =>
condV v18
 (retV [(.int .i64 21)] q17.2)
 (retV [(.int .i64 0)] q17.2)

theorem ref02_Check_of {lib : Lib} (hl : lib 43 = none) {x0 : Value} {s : St} {r : Value × St} (h : ref02_Check (run Try.prog lib hints) x0 s = some r) : run Try.prog lib hints 43 [x0] s = some r :=
  run_of hl Try.func43 (Eq.trans (by kernel_rfl) h)

theorem ref02_Check_ok : funcOk Try.prog 43 = true := by kernel_rfl
theorem ref02_Check_call {R : Caller} {xs : List Value} {s : St} : callV Try.prog R (.func (.func 43) #[] #[]) xs s = R 43 xs s := callV_eq ref02_Check_ok

/-! ### sumpter/sumpterref02.Covers: 44 -/

noncomputable def ref02_Covers (R : Caller) (x0 x1 : Value) (s : St) : Option (Value × St) :=
(lbox x0).bind fun v0 =>
(lbox x1).bind fun v1 =>
(lload true 2 lptr v0).bind fun v2 =>
(callV Try.prog R (.func (.func 43) #[] #[]) [v2] s).bind fun r3 =>
(abin Try.prog .eql 24 (.tmp 6) (.const (.int .i64 0)) r3.1 (.int .i64 0)).bind fun v4 =>
(guardV v4 true ((lload true 2 lptr v1).bind fun v5 =>
(callV Try.prog R (.func (.func 43) #[] #[]) [v5] r3.2).bind fun r6 =>
(abin Try.prog .eql 24 (.tmp 10) (.const (.int .i64 0)) r6.1 (.int .i64 0)).bind fun v7 =>
some ([v7], r6.2)) (some ([undef], r3.2))).bind fun q8 =>
(apick v4 (getL q8.1 0) (.bool false)).bind fun v9 =>
(guardV v9 true ((lload false 1 lptr v0).bind fun v10 =>
(lload false 1 lptr v1).bind fun v11 =>
(abin Try.prog .leq 9 (.tmp 15) (.tmp 17) v10 v11).bind fun v12 =>
some ([v12], q8.2)) (some ([undef], q8.2))).bind fun q13 =>
(apick v9 (getL q13.1 0) (.bool false)).bind fun v14 =>
(guardV v14 true ((lload false 1 (.pointer (some ⟨0, 1, none⟩)) v0).bind fun v15 =>
(lload false 1 (.pointer (some ⟨0, 1, none⟩)) v1).bind fun v16 =>
(callV Try.prog R (.func (.func 66) #[] #[]) [v15, v16] q13.2).bind fun r17 =>
(aun .not r17.1).bind fun v18 =>
some ([v18], r17.2)) (some ([undef], q13.2))).bind fun q19 =>
(apick v14 (getL q19.1 0) (.bool false)).bind fun v20 =>
retV [v20] q19.2

theorem ref02_Covers_of {lib : Lib} (hl : lib 44 = none) {x0 x1 : Value} {s : St} {r : Value × St} (h : ref02_Covers (run Try.prog lib hints) x0 x1 s = some r) : run Try.prog lib hints 44 [x0, x1] s = some r :=
  run_of hl Try.func44 (Eq.trans (by kernel_rfl) h)

theorem ref02_Covers_ok : funcOk Try.prog 44 = true := by kernel_rfl
theorem ref02_Covers_call {R : Caller} {xs : List Value} {s : St} : callV Try.prog R (.func (.func 44) #[] #[]) xs s = R 44 xs s := callV_eq ref02_Covers_ok

/-! ### sumpter/span.all: 45 -/

noncomputable def span_all (R : Caller) (s : St) : Option (Value × St) :=
retV [(.agg #[(.string ⟨#[]⟩), (.string ⟨#[]⟩)])] s

theorem span_all_of {lib : Lib} (hl : lib 45 = none) {s : St} {r : Value × St} (h : span_all (run Try.prog lib hints)  s = some r) : run Try.prog lib hints 45 [] s = some r :=
  run_of hl Try.func45 (Eq.trans (by kernel_rfl) h)

theorem span_all_ok : funcOk Try.prog 45 = true := by kernel_rfl
theorem span_all_call {R : Caller} {xs : List Value} {s : St} : callV Try.prog R (.func (.func 45) #[] #[]) xs s = R 45 xs s := callV_eq span_all_ok

/-! ### slices.ContainsFunc[[]int,int]: 46 -/

noncomputable def slices_ContainsFunc_int_int (R : Caller) (x0 x1 : Value) (s : St) : Option (Value × St) :=
(callV Try.prog R (.func (.func 67) #[] #[]) [x0, x1] s).bind fun r0 =>
(abin Try.prog .geq 3 (.tmp 7) (.const (.int .i64 0)) r0.1 (.int .i64 0)).bind fun v1 =>
retV [v1] r0.2

theorem slices_ContainsFunc_int_int_of {lib : Lib} (hl : lib 46 = none) {x0 x1 : Value} {s : St} {r : Value × St} (h : slices_ContainsFunc_int_int (run Try.prog lib hints) x0 x1 s = some r) : run Try.prog lib hints 46 [x0, x1] s = some r :=
  run_of hl Try.func46 (Eq.trans (by kernel_rfl) h)

theorem slices_ContainsFunc_int_int_ok : funcOk Try.prog 46 = true := by kernel_rfl
theorem slices_ContainsFunc_int_int_call {R : Caller} {xs : List Value} {s : St} : callV Try.prog R (.func (.func 46) #[] #[]) xs s = R 46 xs s := callV_eq slices_ContainsFunc_int_int_ok

/-! ### sumpter/owner.Gather$1: 47 -/

noncomputable def owner_Gather_1 (R : Caller) (x0 x1 : Value) (s : St) : Option (Value × St) :=
(abin Try.prog .lss 3 (.tmp 4) (.const (.int .i64 0)) x0 (.int .i64 0)).bind fun v0 =>
(guardV v0 false ((aload false 1 x1 s).bind fun v1 =>
(alenV (.slice 74) v1 s).bind fun v2 =>
(abin Try.prog .geq 3 (.tmp 7) (.tmp 9) x0 v2).bind fun v3 =>
some ([v3], s)) (some ([undef], s))).bind fun q4 =>
(apick v0 (.bool true) (getL q4.1 0)).bind fun v5 =>
retV [v5] q4.2

theorem owner_Gather_1_of {lib : Lib} (hl : lib 47 = none) {x0 x1 : Value} {s : St} {r : Value × St} (h : owner_Gather_1 (run Try.prog lib hints) x0 x1 s = some r) : run Try.prog lib hints 47 [x0, x1] s = some r :=
  run_of hl Try.func47 (Eq.trans (by kernel_rfl) h)

theorem owner_Gather_1_ok : funcOk Try.prog 47 = true := by kernel_rfl
theorem owner_Gather_1_call {R : Caller} {xs : List Value} {s : St} : callV Try.prog R (.func (.func 47) #[] #[]) xs s = R 47 xs s := callV_eq owner_Gather_1_ok

/-! ### slices.Clone[[]sumpter/api.Pair,sumpter/api.Pair]: 48 -/

noncomputable def slices_Clone_api_Pair_api_Pair (R : Caller) (x0 : Value) (s : St) : Option (Value × St) :=
(abin Try.prog .eql 58 (.tmp 3) (.const (.slice none 0 0)) x0 (.slice none 0 0)).bind fun v0 =>
condV v0
 (retV [(.slice none 0 0)] s)
 ((abuildSl 2 [(.string ⟨#[]⟩), (.string ⟨#[]⟩)] 0 [] s).bind fun r1 =>
(aappend 2 32 r1.1 x0 r1.2).bind fun r2 =>
retV [r2.1] r2.2)

theorem slices_Clone_api_Pair_api_Pair_of {lib : Lib} (hl : lib 48 = none) {x0 : Value} {s : St} {r : Value × St} (h : slices_Clone_api_Pair_api_Pair (run Try.prog lib hints) x0 s = some r) : run Try.prog lib hints 48 [x0] s = some r :=
  run_of hl Try.func48 (Eq.trans (by kernel_rfl) h)

theorem slices_Clone_api_Pair_api_Pair_ok : funcOk Try.prog 48 = true := by kernel_rfl
theorem slices_Clone_api_Pair_api_Pair_call {R : Caller} {xs : List Value} {s : St} : callV Try.prog R (.func (.func 48) #[] #[]) xs s = R 48 xs s := callV_eq slices_Clone_api_Pair_api_Pair_ok

/-! ### slices.SortStableFunc[[]sumpter/api.Pair,sumpter/api.Pair]: 49 -/

noncomputable def slices_SortStableFunc_api_Pair_api_Pair (R : Caller) (x0 x1 : Value) (s : St) : Option (Value × St) :=
(alenV (.slice 62) x0 s).bind fun v0 =>
(callV Try.prog R (.func (.func 68) #[] #[]) [x0, v0, x1] s).bind fun r1 =>
retV [] r1.2

theorem slices_SortStableFunc_api_Pair_api_Pair_of {lib : Lib} (hl : lib 49 = none) {x0 x1 : Value} {s : St} {r : Value × St} (h : slices_SortStableFunc_api_Pair_api_Pair (run Try.prog lib hints) x0 x1 s = some r) : run Try.prog lib hints 49 [x0, x1] s = some r :=
  run_of hl Try.func49 (Eq.trans (by kernel_rfl) h)

theorem slices_SortStableFunc_api_Pair_api_Pair_ok : funcOk Try.prog 49 = true := by kernel_rfl
theorem slices_SortStableFunc_api_Pair_api_Pair_call {R : Caller} {xs : List Value} {s : St} : callV Try.prog R (.func (.func 49) #[] #[]) xs s = R 49 xs s := callV_eq slices_SortStableFunc_api_Pair_api_Pair_ok

/-! ### sumpter/owner.Gather$2: 50 -/

noncomputable def owner_Gather_2 (R : Caller) (x0 x1 : Value) (s : St) : Option (Value × St) :=
(lbox x0).bind fun v0 =>
(lbox x1).bind fun v1 =>
(lload false 1 lptr v0).bind fun v2 =>
(lload false 1 lptr v1).bind fun v3 =>
(callV Try.prog R (.func (.func 37) #[] #[]) [v2, v3] s).bind fun r4 =>
retV [r4.1] r4.2

theorem owner_Gather_2_of {lib : Lib} (hl : lib 50 = none) {x0 x1 : Value} {s : St} {r : Value × St} (h : owner_Gather_2 (run Try.prog lib hints) x0 x1 s = some r) : run Try.prog lib hints 50 [x0, x1] s = some r :=
  run_of hl Try.func50 (Eq.trans (by kernel_rfl) h)

theorem owner_Gather_2_ok : funcOk Try.prog 50 = true := by kernel_rfl
theorem owner_Gather_2_call {R : Caller} {xs : List Value} {s : St} : callV Try.prog R (.func (.func 50) #[] #[]) xs s = R 50 xs s := callV_eq owner_Gather_2_ok

/-! ### sumpter/sumpterref17.in: 51 -/

noncomputable def ref17_in.b0 (R : Caller) (T : List Value) (s : St) : Res :=
(((alenV (.slice 62) (getL T 0) s).bind fun v19 =>
some (v19, s)).bind (ownR s)).bind fun r1 =>
(abin Try.prog .lss 3 (.tmp 7) (.tmp 9) (getL T 2) r1.1).bind fun v2 =>
(guardV v2 true (some ([(getL T 0)], r1.2)) (some ([undef], r1.2))).bind fun q3 =>
(guardV v2 true (some ([(getL T 2)], q3.2)) (some ([undef], q3.2))).bind fun q4 =>
(guardV v2 true ((aindexS 2 (getL q3.1 0) (getL q4.1 0)).bind fun v5 =>
some ([v5], q4.2)) (some ([undef], q4.2))).bind fun q6 =>
(guardV v2 true ((afieldAddr 0 (getL q6.1 0)).bind fun v7 =>
some ([v7], q6.2)) (some ([undef], q6.2))).bind fun q8 =>
((guardV v2 true ((aload false 1 (getL q8.1 0) q8.2).bind fun v18 =>
some (v18, q8.2)) (some (undef, q8.2))).bind (ownR q8.2)).bind fun r9 =>
(guardV v2 true ((afieldAddr 0 (getL T 1)).bind fun v10 =>
some ([v10], r9.2)) (some ([undef], r9.2))).bind fun q11 =>
(guardV v2 true ((lload false 1 (getL q11.1 0) (getL T 3)).bind fun v12 =>
some ([v12], q11.2)) (some ([undef], q11.2))).bind fun q13 =>
(guardV v2 true ((abin Try.prog .leq 9 (.tmp 16) (.tmp 18) r9.1 (getL q13.1 0)).bind fun v14 =>
some ([v14], q13.2)) (some ([undef], q13.2))).bind fun q15 =>
(apick v2 (getL q15.1 0) (.bool false)).bind fun v16 =>
condV v16
 ((abin Try.prog .add 3 (.tmp 21) (.const (.int .i64 1)) (getL T 2) (.int .i64 1)).bind fun v17 =>
some (.normal, [(getL T 0), (getL T 1), v17, (getL T 3)], q15.2))
 (some (.exit 0, [(getL T 0), (getL T 1), (getL T 2), (getL T 3)], q15.2))

noncomputable def ref17_in (R : Caller) (x0 x1 : Value) (s : St) : Option (Value × St) :=
(lbox x1).bind fun v0 =>
(loopL (ref17_in.b0 R) [x0, lptr, (.int .i64 0), v0] s).bind fun r20 =>
exV r20.1 [(0, (asliceV 2 (getL r20.2.1 0) none (some (getL r20.2.1 2)) none).bind fun v21 =>
(aappend 2 32 (.slice none 0 0) v21 r20.2.2).bind fun r22 =>
(lload true 2 (getL r20.2.1 1) (getL r20.2.1 3)).bind fun v23 =>
(abuildSl 2 [(.string ⟨#[]⟩), (.string ⟨#[]⟩)] 1 [(0, v23)] r22.2).bind fun r24 =>
(aappend 2 32 r22.1 r24.1 r24.2).bind fun r25 =>
(asliceV 2 (getL r20.2.1 0) (some (getL r20.2.1 2)) none none).bind fun v26 =>
(aappend 2 32 r25.1 v26 r25.2).bind fun r27 =>
retV [r27.1] r27.2)]
 (none)

theorem ref17_in_of {lib : Lib} (hl : lib 51 = none) {x0 x1 : Value} {s : St} {r : Value × St} (h : ref17_in (run Try.prog lib hints) x0 x1 s = some r) : run Try.prog lib hints 51 [x0, x1] s = some r :=
  run_of hl Try.func51 (Eq.trans (by kernel_rfl) h)

theorem ref17_in_ok : funcOk Try.prog 51 = true := by kernel_rfl
theorem ref17_in_call {R : Caller} {xs : List Value} {s : St} : callV Try.prog R (.func (.func 51) #[] #[]) xs s = R 51 xs s := callV_eq ref17_in_ok

/-! ### sumpter/sumpterref04.SameMap: 52 -/

noncomputable def ref04_SameMap.b0 (R : Caller) (T : List Value) (s : St) : Res :=
(abin Try.prog .lss 3 (.tmp 13) (.tmp 12) (getL T 3) (getL T 2)).bind fun v4 =>
condV v4
 ((aindexS 2 (getL T 0) (getL T 3)).bind fun v5 =>
((aload true 2 v5 (frzS s)).bind fun v12 =>
some (v12, (frzS s))).bind fun r6 =>
(aindexS 2 (getL T 1) (getL T 3)).bind fun v7 =>
((aload true 2 v7 (frzS s)).bind fun v11 =>
some (v11, (frzS s))).bind fun r8 =>
(abin Try.prog .neq 62 (.tmp 19) (.tmp 23) r6.1 r8.1).bind fun v9 =>
condV v9
 (some (.ret, [(.bool false)], s))
 ((abin Try.prog .add 3 (.tmp 13) (.const (.int .i64 1)) (getL T 3) (.int .i64 1)).bind fun v10 =>
some (.normal, [(getL T 0), (getL T 1), (getL T 2), v10], s)))
 (some (.exit 0, [], s))

noncomputable def ref04_SameMap (R : Caller) (x0 x1 : Value) (s : St) : Option (Value × St) :=
(alenV (.slice 62) x0 s).bind fun v0 =>
(alenV (.slice 62) x1 s).bind fun v1 =>
(abin Try.prog .neq 3 (.tmp 7) (.tmp 9) v0 v1).bind fun v2 =>
condV v2
 (retV [(.bool false)] s)
 ((alenV (.slice 62) x0 s).bind fun v3 =>
(loopL (ref04_SameMap.b0 R) [x0, x1, v3, (.int .i64 0)] s).bind fun r13 =>
exV r13.1 [(0, retV [(.bool true)] r13.2.2)]
 (retV [(getL r13.2.1 0)] r13.2.2))

theorem ref04_SameMap_of {lib : Lib} (hl : lib 52 = none) {x0 x1 : Value} {s : St} {r : Value × St} (h : ref04_SameMap (run Try.prog lib hints) x0 x1 s = some r) : run Try.prog lib hints 52 [x0, x1] s = some r :=
  run_of hl Try.func52 (Eq.trans (by kernel_rfl) h)

theorem ref04_SameMap_ok : funcOk Try.prog 52 = true := by kernel_rfl
theorem ref04_SameMap_call {R : Caller} {xs : List Value} {s : St} : callV Try.prog R (.func (.func 52) #[] #[]) xs s = R 52 xs s := callV_eq ref04_SameMap_ok

/-! ### sumpter/op.Check: 53 -/

noncomputable def op_Check (R : Caller) (x0 : Value) (s : St) : Option (Value × St) :=
(alenV (.slice 74) x0 s).bind fun v0 =>
(abin Try.prog .eql 3 (.tmp 4) (.const (.int .i64 0)) v0 (.int .i64 0)).bind fun v1 =>
(guardV v1 false ((alenV (.slice 74) x0 s).bind fun v2 =>
(abin Try.prog .gtr 3 (.tmp 8) (.const (.int .i64 4)) v2 (.int .i64 4)).bind fun v3 =>
some ([v3], s)) (some ([undef], s))).bind fun q4 =>
(apick v1 (.bool true) (getL q4.1 0)).bind fun v5 =>
condV v5
 (retV [(.int .i64 3)] q4.2)
 ((callV Try.prog R (.func (.func 59) #[] #[]) [x0] q4.2).bind fun r6 =>
retV [r6.1] r6.2)

theorem op_Check_of {lib : Lib} (hl : lib 53 = none) {x0 : Value} {s : St} {r : Value × St} (h : op_Check (run Try.prog lib hints) x0 s = some r) : run Try.prog lib hints 53 [x0] s = some r :=
  run_of hl Try.func53 (Eq.trans (by kernel_rfl) h)

theorem op_Check_ok : funcOk Try.prog 53 = true := by kernel_rfl
theorem op_Check_call {R : Caller} {xs : List Value} {s : St} : callV Try.prog R (.func (.func 53) #[] #[]) xs s = R 53 xs s := callV_eq op_Check_ok

/-! ### sumpter/span.Meet: 54 -/

noncomputable def span_Meet (R : Caller) (x0 x1 : Value) (s : St) : Option (Value × St) :=
(lbox x0).bind fun v0 =>
(lbox x1).bind fun v1 =>
(lload false 1 lptr v0).bind fun v2 =>
(lload false 1 lptr v1).bind fun v3 =>
(amax2 v2 v3).bind fun v4 =>
(lload false 1 (.pointer (some ⟨0, 1, none⟩)) v0).bind fun v5 =>
(lload false 1 (.pointer (some ⟨0, 1, none⟩)) v1).bind fun v6 =>
(((callV Try.prog R (.func (.func 65) #[] #[]) [v5, v6] s).bind fun r26 =>
some (r26.1, r26.2)).bind (ownR s)).bind fun r7 =>
(abuild Try.prog 33 [(0, v4), (1, r7.1)]).bind fun v8 =>
(lstore 2 lptr v8 (.agg #[(.string ⟨#[]⟩), (.string ⟨#[]⟩)])).bind fun v9 =>
(lload true 2 lptr v0).bind fun v10 =>
(callV Try.prog R (.func (.func 23) #[] #[]) [v10] r7.2).bind fun r11 =>
(abin Try.prog .neq 24 (.tmp 19) (.const (.int .i64 0)) r11.1 (.int .i64 0)).bind fun v12 =>
(guardV v12 false ((lload true 2 lptr v1).bind fun v13 =>
(callV Try.prog R (.func (.func 23) #[] #[]) [v13] r11.2).bind fun r14 =>
(abin Try.prog .neq 24 (.tmp 23) (.const (.int .i64 0)) r14.1 (.int .i64 0)).bind fun v15 =>
some ([v15], r14.2)) (some ([undef], r11.2))).bind fun q16 =>
(apick v12 (.bool true) (getL q16.1 0)).bind fun v17 =>
(guardV v17 false ((lload true 2 lptr v9).bind fun v18 =>
(callV Try.prog R (.func (.func 23) #[] #[]) [v18] q16.2).bind fun r19 =>
(abin Try.prog .neq 24 (.tmp 28) (.const (.int .i64 0)) r19.1 (.int .i64 0)).bind fun v20 =>
some ([v20], r19.2)) (some ([undef], q16.2))).bind fun q21 =>
(apick v17 (.bool true) (getL q21.1 0)).bind fun v22 =>
condV v22
 (retV [(.agg #[(.string ⟨#[]⟩), (.string ⟨#[]⟩)]), (.bool false)] q21.2)
 ((lload true 2 lptr v9).bind fun v23 =>
(lstore 2 lptr v23 (.agg #[(.string ⟨#[]⟩), (.string ⟨#[]⟩)])).bind fun v24 =>
(lload true 2 lptr v24).bind fun v25 =>
retV [v25, (.bool true)] q21.2)

theorem span_Meet_of {lib : Lib} (hl : lib 54 = none) {x0 x1 : Value} {s : St} {r : Value × St} (h : span_Meet (run Try.prog lib hints) x0 x1 s = some r) : run Try.prog lib hints 54 [x0, x1] s = some r :=
  run_of hl Try.func54 (Eq.trans (by kernel_rfl) h)

theorem span_Meet_ok : funcOk Try.prog 54 = true := by kernel_rfl
theorem span_Meet_call {R : Caller} {xs : List Value} {s : St} : callV Try.prog R (.func (.func 54) #[] #[]) xs s = R 54 xs s := callV_eq span_Meet_ok

/-! ### slices.DeleteFunc[[]sumpter/owner.Part,sumpter/owner.Part]: 55 -/

noncomputable def slices_DeleteFunc_owner_Part_owner_Part.j0 (R : Caller) (T : List Value) (s : St) : Res :=
(abin Try.prog .add 3 (.tmp 20) (.const (.int .i64 1)) (getL T 3) (.int .i64 1)).bind fun v16 =>
some (.normal, [(getL T 0), (getL T 1), (getL T 2), v16], s)

noncomputable def slices_DeleteFunc_owner_Part_owner_Part.b0 (R : Caller) (T : List Value) (s : St) : Res :=
(alenV (.slice 51) (getL T 0) s).bind fun v3 =>
(abin Try.prog .lss 3 (.tmp 16) (.tmp 18) (getL T 3) v3).bind fun v4 =>
condV v4
 ((aindexS 3 (getL T 0) (getL T 3)).bind fun v6 =>
(aload true 3 v6 s).bind fun v7 =>
(lstore 3 lptr v7 (.agg #[(.int .i64 0), (.slice none 0 0), (.slice none 0 0)])).bind fun v8 =>
(lload true 3 lptr v8).bind fun v9 =>
(callV Try.prog R (getL T 1) [v9] s).bind fun r10 =>
(aun .not r10.1).bind fun v11 =>
condV v11
 ((lload true 3 lptr v8).bind fun v12 =>
(aindexS 3 (getL T 0) (getL T 2)).bind fun v13 =>
(astore 3 v13 v12 r10.2).bind fun s14 =>
(abin Try.prog .add 3 (.tmp 34) (.const (.int .i64 1)) (getL T 2) (.int .i64 1)).bind fun v15 =>
joinK (slices_DeleteFunc_owner_Part_owner_Part.j0 R) [(getL T 0), (getL T 1), v15, (getL T 3)] s14)
 (joinK (slices_DeleteFunc_owner_Part_owner_Part.j0 R) [(getL T 0), (getL T 1), (getL T 2), (getL T 3)] r10.2))
 (some (.exit 0, [(getL T 0), (getL T 2)], s))

noncomputable def slices_DeleteFunc_owner_Part_owner_Part (R : Caller) (x0 x1 : Value) (s : St) : Option (Value × St) :=
(callV Try.prog R (.func (.func 69) #[] #[]) [x0, x1] s).bind fun r0 =>
(abin Try.prog .eql 3 (.tmp 11) (.const (.int .i64 (-1))) r0.1 (.int .i64 (-1))).bind fun v1 =>
condV v1
 (retV [x0] r0.2)
 ((abin Try.prog .add 3 (.tmp 14) (.const (.int .i64 1)) r0.1 (.int .i64 1)).bind fun v2 =>
(loopL (slices_DeleteFunc_owner_Part_owner_Part.b0 R) [x0, x1, r0.1, v2] r0.2).bind fun r17 =>
exV r17.1 [(0, (asliceV 3 (getL r17.2.1 0) (some (getL r17.2.1 1)) none none).bind fun v18 =>
(aclear 3 [(.int .i64 0), (.slice none 0 0), (.slice none 0 0)] v18 r17.2.2).bind fun s19 =>
(asliceV 3 (getL r17.2.1 0) none (some (getL r17.2.1 1)) none).bind fun v20 =>
retV [v20] s19)]
 (none))

theorem slices_DeleteFunc_owner_Part_owner_Part_of {lib : Lib} (hl : lib 55 = none) {x0 x1 : Value} {s : St} {r : Value × St} (h : slices_DeleteFunc_owner_Part_owner_Part (run Try.prog lib hints) x0 x1 s = some r) : run Try.prog lib hints 55 [x0, x1] s = some r :=
  run_of hl Try.func55 (Eq.trans (by kernel_rfl) h)

theorem slices_DeleteFunc_owner_Part_owner_Part_ok : funcOk Try.prog 55 = true := by kernel_rfl
theorem slices_DeleteFunc_owner_Part_owner_Part_call {R : Caller} {xs : List Value} {s : St} : callV Try.prog R (.func (.func 55) #[] #[]) xs s = R 55 xs s := callV_eq slices_DeleteFunc_owner_Part_owner_Part_ok

/-! ### slices.Clone[[]sumpter/owner.Part,sumpter/owner.Part]: 56 -/

noncomputable def slices_Clone_owner_Part_owner_Part (R : Caller) (x0 : Value) (s : St) : Option (Value × St) :=
(abin Try.prog .eql 46 (.tmp 3) (.const (.slice none 0 0)) x0 (.slice none 0 0)).bind fun v0 =>
condV v0
 (retV [(.slice none 0 0)] s)
 ((abuildSl 3 [(.int .i64 0), (.slice none 0 0), (.slice none 0 0)] 0 [] s).bind fun r1 =>
(aappend 3 56 r1.1 x0 r1.2).bind fun r2 =>
retV [r2.1] r2.2)

theorem slices_Clone_owner_Part_owner_Part_of {lib : Lib} (hl : lib 56 = none) {x0 : Value} {s : St} {r : Value × St} (h : slices_Clone_owner_Part_owner_Part (run Try.prog lib hints) x0 s = some r) : run Try.prog lib hints 56 [x0] s = some r :=
  run_of hl Try.func56 (Eq.trans (by kernel_rfl) h)

theorem slices_Clone_owner_Part_owner_Part_ok : funcOk Try.prog 56 = true := by kernel_rfl
theorem slices_Clone_owner_Part_owner_Part_call {R : Caller} {xs : List Value} {s : St} : callV Try.prog R (.func (.func 56) #[] #[]) xs s = R 56 xs s := callV_eq slices_Clone_owner_Part_owner_Part_ok

/-! ### sumpter/owner.Cut$1: 57 -/

noncomputable def owner_Cut_1 (R : Caller) (x0 : Value) (s : St) : Option (Value × St) :=
(lbox x0).bind fun v0 =>
(lload false 1 lptr v0).bind fun v1 =>
(abin Try.prog .eql 3 (.tmp 4) (.const (.int .i64 0)) v1 (.int .i64 0)).bind fun v2 =>
retV [v2] s

theorem owner_Cut_1_of {lib : Lib} (hl : lib 57 = none) {x0 : Value} {s : St} {r : Value × St} (h : owner_Cut_1 (run Try.prog lib hints) x0 s = some r) : run Try.prog lib hints 57 [x0] s = some r :=
  run_of hl Try.func57 (Eq.trans (by kernel_rfl) h)

theorem owner_Cut_1_ok : funcOk Try.prog 57 = true := by kernel_rfl
theorem owner_Cut_1_call {R : Caller} {xs : List Value} {s : St} : callV Try.prog R (.func (.func 57) #[] #[]) xs s = R 57 xs s := callV_eq owner_Cut_1_ok

/-! ### sumpter/op.CheckMap: 58 -/

noncomputable def op_CheckMap.b0 (R : Caller) (T : List Value) (s : St) : Res :=
(abin Try.prog .lss 3 (.tmp 8) (.tmp 7) (getL T 3) (getL T 2)).bind fun v1 =>
condV v1
 ((aindexS 2 (getL T 1) (getL T 3)).bind fun v2 =>
(aload true 2 v2 s).bind fun v3 =>
(lstore 2 lptr v3 (.agg #[(.string ⟨#[]⟩), (.string ⟨#[]⟩)])).bind fun v4 =>
(lload false 1 lptr v4).bind fun v5 =>
(callV Try.prog R (.func (.func 25) #[] #[]) [v5] s).bind fun r6 =>
(abin Try.prog .neq 24 (.tmp 15) (.const (.int .i64 0)) r6.1 (.int .i64 0)).bind fun v7 =>
condV v7
 (some (.ret, [(.int .i64 20)], r6.2))
 ((lload false 1 (.pointer (some ⟨0, 1, none⟩)) v4).bind fun v8 =>
(alenV .string v8 r6.2).bind fun v9 =>
(abin Try.prog .gtr 3 (.tmp 20) (.const (.int .i64 16)) v9 (.int .i64 16)).bind fun v10 =>
condV v10
 (some (.ret, [(.int .i64 2)], r6.2))
 ((lload false 1 lptr v4).bind fun v11 =>
(abin Try.prog .leq 9 (.tmp 24) (.tmp 25) v11 (getL T 0)).bind fun v12 =>
condV v12
 (some (.ret, [(.int .i64 1)], r6.2))
 ((lload false 1 lptr v4).bind fun v13 =>
(abin Try.prog .add 3 (.tmp 8) (.const (.int .i64 1)) (getL T 3) (.int .i64 1)).bind fun v14 =>
some (.normal, [v13, (getL T 1), (getL T 2), v14], r6.2)))))
 (some (.exit 0, [], s))

noncomputable def op_CheckMap (R : Caller) (x0 : Value) (s : St) : Option (Value × St) :=
(alenV (.slice 62) x0 s).bind fun v0 =>
(loopL (op_CheckMap.b0 R) [(.string ⟨#[]⟩), x0, v0, (.int .i64 0)] s).bind fun r15 =>
exV r15.1 [(0, retV [(.int .i64 0)] r15.2.2)]
 (retV [(getL r15.2.1 0)] r15.2.2)

theorem op_CheckMap_of {lib : Lib} (hl : lib 58 = none) {x0 : Value} {s : St} {r : Value × St} (h : op_CheckMap (run Try.prog lib hints) x0 s = some r) : run Try.prog lib hints 58 [x0] s = some r :=
  run_of hl Try.func58 (Eq.trans (by kernel_rfl) h)

theorem op_CheckMap_ok : funcOk Try.prog 58 = true := by kernel_rfl
theorem op_CheckMap_call {R : Caller} {xs : List Value} {s : St} : callV Try.prog R (.func (.func 58) #[] #[]) xs s = R 58 xs s := callV_eq op_CheckMap_ok

/-! ### sumpter/op.all: 59 -/

noncomputable def op_all.b0 (R : Caller) (T : List Value) (s : St) : Res :=
(abin Try.prog .lss 3 (.tmp 8) (.tmp 7) (getL T 2) (getL T 1)).bind fun v1 =>
condV v1
 ((aindexS 6 (getL T 0) (getL T 2)).bind fun v2 =>
(aload true 6 v2 s).bind fun v3 =>
(lstore 6 lptr v3 (.agg #[(.int .i64 0), (.string ⟨#[]⟩), (.string ⟨#[]⟩), (.string ⟨#[]⟩), (.string ⟨#[]⟩), (.int .i64 0)])).bind fun v4 =>
(lload true 6 lptr v4).bind fun v5 =>
(callV Try.prog R (.func (.func 70) #[] #[]) [v5] s).bind fun r6 =>
(abin Try.prog .neq 24 (.tmp 14) (.const (.int .i64 0)) r6.1 (.int .i64 0)).bind fun v7 =>
condV v7
 (some (.ret, [r6.1], r6.2))
 ((abin Try.prog .add 3 (.tmp 8) (.const (.int .i64 1)) (getL T 2) (.int .i64 1)).bind fun v8 =>
some (.normal, [(getL T 0), (getL T 1), v8], r6.2)))
 (some (.exit 0, [], s))

noncomputable def op_all (R : Caller) (x0 : Value) (s : St) : Option (Value × St) :=
(alenV (.slice 74) x0 s).bind fun v0 =>
(loopL (op_all.b0 R) [x0, v0, (.int .i64 0)] s).bind fun r9 =>
exV r9.1 [(0, retV [(.int .i64 0)] r9.2.2)]
 (retV [(getL r9.2.1 0)] r9.2.2)

theorem op_all_of {lib : Lib} (hl : lib 59 = none) {x0 : Value} {s : St} {r : Value × St} (h : op_all (run Try.prog lib hints) x0 s = some r) : run Try.prog lib hints 59 [x0] s = some r :=
  run_of hl Try.func59 (Eq.trans (by kernel_rfl) h)

theorem op_all_ok : funcOk Try.prog 59 = true := by kernel_rfl
theorem op_all_call {R : Caller} {xs : List Value} {s : St} : callV Try.prog R (.func (.func 59) #[] #[]) xs s = R 59 xs s := callV_eq op_all_ok

/-! ### sumpter/op.forms: 60 -/

noncomputable def op_forms (R : Caller) (s : St) : Option (Value × St) :=
(abuild Try.prog 105 [(0, (.bool true)), (5, (.func (.func 71) #[] #[]))]).bind fun v0 =>
(abuild Try.prog 105 [(0, (.bool true)), (1, (.bool true)), (4, (.bool true)), (5, (.func (.func 72) #[] #[]))]).bind fun v1 =>
(abuild Try.prog 105 [(0, (.bool true)), (4, (.bool true)), (5, (.func (.func 73) #[] #[]))]).bind fun v2 =>
(abuild Try.prog 105 [(2, (.bool true)), (3, (.bool true)), (5, (.func (.func 74) #[] #[]))]).bind fun v3 =>
(abuild Try.prog 105 [(2, (.bool true)), (4, (.bool true)), (5, (.func (.func 75) #[] #[]))]).bind fun v4 =>
(abuild Try.prog 106 [(1, v0), (2, v1), (3, v2), (4, v3), (5, v4)]).bind fun v5 =>
(lstore 36 lptr v5 (.agg #[(.bool false), (.bool false), (.bool false), (.bool false), (.bool false), .nilFunc, (.bool false), (.bool false), (.bool false), (.bool false), (.bool false), .nilFunc, (.bool false), (.bool false), (.bool false), (.bool false), (.bool false), .nilFunc, (.bool false), (.bool false), (.bool false), (.bool false), (.bool false), .nilFunc, (.bool false), (.bool false), (.bool false), (.bool false), (.bool false), .nilFunc, (.bool false), (.bool false), (.bool false), (.bool false), (.bool false), .nilFunc])).bind fun v6 =>
(lload true 36 lptr v6).bind fun v7 =>
retV [v7] s

theorem op_forms_of {lib : Lib} (hl : lib 60 = none) {s : St} {r : Value × St} (h : op_forms (run Try.prog lib hints)  s = some r) : run Try.prog lib hints 60 [] s = some r :=
  run_of hl Try.func60 (Eq.trans (by kernel_rfl) h)

theorem op_forms_ok : funcOk Try.prog 60 = true := by kernel_rfl
theorem op_forms_call {R : Caller} {xs : List Value} {s : St} : callV Try.prog R (.func (.func 60) #[] #[]) xs s = R 60 xs s := callV_eq op_forms_ok

/-! ### slices.rotateRight[sumpter/api.Owner]: 62 -/

noncomputable def slices_rotateRight_api_Owner (R : Caller) (x0 x1 : Value) (s : St) : Option (Value × St) :=
(alenV (.slice 30) x0 s).bind fun v0 =>
(abin Try.prog .sub 3 (.tmp 6) (.tmp 7) v0 x1).bind fun v1 =>
(callV Try.prog R (.func (.func 76) #[] #[]) [x0, v1] s).bind fun r2 =>
retV [] r2.2

theorem slices_rotateRight_api_Owner_of {lib : Lib} (hl : lib 62 = none) {x0 x1 : Value} {s : St} {r : Value × St} (h : slices_rotateRight_api_Owner (run Try.prog lib hints) x0 x1 s = some r) : run Try.prog lib hints 62 [x0, x1] s = some r :=
  run_of hl Try.func62 (Eq.trans (by kernel_rfl) h)

theorem slices_rotateRight_api_Owner_ok : funcOk Try.prog 62 = true := by kernel_rfl
theorem slices_rotateRight_api_Owner_call {R : Caller} {xs : List Value} {s : St} : callV Try.prog R (.func (.func 62) #[] #[]) xs s = R 62 xs s := callV_eq slices_rotateRight_api_Owner_ok

/-! ### internal/bytealg.CompareString: 63 -/

noncomputable def internal_bytealg_CompareString (R : Caller) (x0 x1 : Value) (s : St) : Option (Value × St) :=
(callV Try.prog R (.func (.func 77) #[] #[]) [x0, x1] s).bind fun r0 =>
retV [r0.1] r0.2

theorem internal_bytealg_CompareString_of {lib : Lib} (hl : lib 63 = none) {x0 x1 : Value} {s : St} {r : Value × St} (h : internal_bytealg_CompareString (run Try.prog lib hints) x0 x1 s = some r) : run Try.prog lib hints 63 [x0, x1] s = some r :=
  run_of hl Try.func63 (Eq.trans (by kernel_rfl) h)

theorem internal_bytealg_CompareString_ok : funcOk Try.prog 63 = true := by kernel_rfl
theorem internal_bytealg_CompareString_call {R : Caller} {xs : List Value} {s : St} : callV Try.prog R (.func (.func 63) #[] #[]) xs s = R 63 xs s := callV_eq internal_bytealg_CompareString_ok

/-! ### sumpter/sumpterref02.Has: 64 -/

noncomputable def ref02_Has (R : Caller) (x0 x1 : Value) (s : St) : Option (Value × St) :=
(lbox x0).bind fun v0 =>
(lload true 2 lptr v0).bind fun v1 =>
(callV Try.prog R (.func (.func 43) #[] #[]) [v1] s).bind fun r2 =>
(abin Try.prog .eql 24 (.tmp 6) (.const (.int .i64 0)) r2.1 (.int .i64 0)).bind fun v3 =>
(guardV v3 true ((callV Try.prog R (.func (.func 38) #[] #[]) [x1] r2.2).bind fun r4 =>
(abin Try.prog .eql 24 (.tmp 10) (.const (.int .i64 0)) r4.1 (.int .i64 0)).bind fun v5 =>
some ([v5], r4.2)) (some ([undef], r2.2))).bind fun q6 =>
(apick v3 (getL q6.1 0) (.bool false)).bind fun v7 =>
(guardV v7 true ((lload false 1 lptr v0).bind fun v8 =>
(abin Try.prog .geq 9 (.tmp 14) (.tmp 16) x1 v8).bind fun v9 =>
some ([v9], q6.2)) (some ([undef], q6.2))).bind fun q10 =>
(apick v7 (getL q10.1 0) (.bool false)).bind fun v11 =>
(guardV v11 true ((lload false 1 (.pointer (some ⟨0, 1, none⟩)) v0).bind fun v12 =>
(abin Try.prog .eql 9 (.tmp 21) (.const (.string ⟨#[]⟩)) v12 (.string ⟨#[]⟩)).bind fun v13 =>
some ([v13], q10.2)) (some ([undef], q10.2))).bind fun q14 =>
(guardV (getL q14.1 0) false ((lload false 1 (.pointer (some ⟨0, 1, none⟩)) v0).bind fun v15 =>
(abin Try.prog .lss 9 (.tmp 24) (.tmp 26) x1 v15).bind fun v16 =>
some ([v16], q14.2)) (some ([undef], q14.2))).bind fun q17 =>
(guardV v11 true ((apick (getL q14.1 0) (.bool true) (getL q17.1 0)).bind fun v18 =>
some ([v18], q17.2)) (some ([undef], q17.2))).bind fun q19 =>
(apick v11 (getL q19.1 0) (.bool false)).bind fun v20 =>
retV [v20] q19.2

theorem ref02_Has_of {lib : Lib} (hl : lib 64 = none) {x0 x1 : Value} {s : St} {r : Value × St} (h : ref02_Has (run Try.prog lib hints) x0 x1 s = some r) : run Try.prog lib hints 64 [x0, x1] s = some r :=
  run_of hl Try.func64 (Eq.trans (by kernel_rfl) h)

theorem ref02_Has_ok : funcOk Try.prog 64 = true := by kernel_rfl
theorem ref02_Has_call {R : Caller} {xs : List Value} {s : St} : callV Try.prog R (.func (.func 64) #[] #[]) xs s = R 64 xs s := callV_eq ref02_Has_ok

/-! ### sumpter/span.least: 65 -/

noncomputable def span_least (R : Caller) (x0 x1 : Value) (s : St) : Option (Value × St) :=
(abin Try.prog .eql 9 (.tmp 5) (.const (.string ⟨#[]⟩)) x0 (.string ⟨#[]⟩)).bind fun v0 =>
(guardV v0 false ((abin Try.prog .neq 9 (.tmp 8) (.const (.string ⟨#[]⟩)) x1 (.string ⟨#[]⟩)).bind fun v1 =>
some ([v1], s)) (some ([undef], s))).bind fun q2 =>
(guardV (getL q2.1 0) true ((abin Try.prog .lss 9 (.tmp 11) (.tmp 12) x1 x0).bind fun v3 =>
some ([v3], q2.2)) (some ([undef], q2.2))).bind fun q4 =>
(guardV v0 false ((apick (getL q2.1 0) (getL q4.1 0) (.bool false)).bind fun v5 =>
some ([v5], q4.2)) (some ([undef], q4.2))).bind fun q6 =>
(apick v0 (.bool true) (getL q6.1 0)).bind fun v7 =>
condV v7
 (retV [x1] q6.2)
 (retV [x0] q6.2)

theorem span_least_of {lib : Lib} (hl : lib 65 = none) {x0 x1 : Value} {s : St} {r : Value × St} (h : span_least (run Try.prog lib hints) x0 x1 s = some r) : run Try.prog lib hints 65 [x0, x1] s = some r :=
  run_of hl Try.func65 (Eq.trans (by kernel_rfl) h)

theorem span_least_ok : funcOk Try.prog 65 = true := by kernel_rfl
theorem span_least_call {R : Caller} {xs : List Value} {s : St} : callV Try.prog R (.func (.func 65) #[] #[]) xs s = R 65 xs s := callV_eq span_least_ok

/-! ### sumpter/sumpterref02.below: 66 -/

noncomputable def ref02_below (R : Caller) (x0 x1 : Value) (s : St) : Option (Value × St) :=
(abin Try.prog .neq 9 (.tmp 5) (.const (.string ⟨#[]⟩)) x0 (.string ⟨#[]⟩)).bind fun v0 =>
(guardV v0 true ((abin Try.prog .eql 9 (.tmp 8) (.const (.string ⟨#[]⟩)) x1 (.string ⟨#[]⟩)).bind fun v1 =>
some ([v1], s)) (some ([undef], s))).bind fun q2 =>
(guardV (getL q2.1 0) false ((abin Try.prog .lss 9 (.tmp 11) (.tmp 12) x0 x1).bind fun v3 =>
some ([v3], q2.2)) (some ([undef], q2.2))).bind fun q4 =>
(guardV v0 true ((apick (getL q2.1 0) (.bool true) (getL q4.1 0)).bind fun v5 =>
some ([v5], q4.2)) (some ([undef], q4.2))).bind fun q6 =>
(apick v0 (getL q6.1 0) (.bool false)).bind fun v7 =>
retV [v7] q6.2

theorem ref02_below_of {lib : Lib} (hl : lib 66 = none) {x0 x1 : Value} {s : St} {r : Value × St} (h : ref02_below (run Try.prog lib hints) x0 x1 s = some r) : run Try.prog lib hints 66 [x0, x1] s = some r :=
  run_of hl Try.func66 (Eq.trans (by kernel_rfl) h)

theorem ref02_below_ok : funcOk Try.prog 66 = true := by kernel_rfl
theorem ref02_below_call {R : Caller} {xs : List Value} {s : St} : callV Try.prog R (.func (.func 66) #[] #[]) xs s = R 66 xs s := callV_eq ref02_below_ok

/-! ### slices.IndexFunc[[]int,int]: 67 -/

noncomputable def slices_IndexFunc_int_int.b0 (R : Caller) (T : List Value) (s : St) : Res :=
(abin Try.prog .lss 3 (.tmp 8) (.tmp 7) (getL T 3) (getL T 2)).bind fun v1 =>
condV v1
 ((aindexS 1 (getL T 0) (getL T 3)).bind fun v2 =>
(aload false 1 v2 s).bind fun v3 =>
(callV Try.prog R (getL T 1) [v3] s).bind fun r4 =>
condV r4.1
 (some (.ret, [(getL T 3)], r4.2))
 ((abin Try.prog .add 3 (.tmp 8) (.const (.int .i64 1)) (getL T 3) (.int .i64 1)).bind fun v5 =>
some (.normal, [(getL T 0), (getL T 1), (getL T 2), v5], r4.2)))
 (some (.exit 0, [], s))

noncomputable def slices_IndexFunc_int_int (R : Caller) (x0 x1 : Value) (s : St) : Option (Value × St) :=
(alenV (.slice 3) x0 s).bind fun v0 =>
(loopL (slices_IndexFunc_int_int.b0 R) [x0, x1, v0, (.int .i64 0)] s).bind fun r6 =>
exV r6.1 [(0, retV [(.int .i64 (-1))] r6.2.2)]
 (retV [(getL r6.2.1 0)] r6.2.2)

theorem slices_IndexFunc_int_int_of {lib : Lib} (hl : lib 67 = none) {x0 x1 : Value} {s : St} {r : Value × St} (h : slices_IndexFunc_int_int (run Try.prog lib hints) x0 x1 s = some r) : run Try.prog lib hints 67 [x0, x1] s = some r :=
  run_of hl Try.func67 (Eq.trans (by kernel_rfl) h)

theorem slices_IndexFunc_int_int_ok : funcOk Try.prog 67 = true := by kernel_rfl
theorem slices_IndexFunc_int_int_call {R : Caller} {xs : List Value} {s : St} : callV Try.prog R (.func (.func 67) #[] #[]) xs s = R 67 xs s := callV_eq slices_IndexFunc_int_int_ok

/-! ### slices.stableCmpFunc[sumpter/api.Pair]: 68 -/

noncomputable def slices_stableCmpFunc_api_Pair.b0 (R : Caller) (T : List Value) (s : St) : Res :=
(abin Try.prog .leq 3 (.tmp 11) (.tmp 12) (getL T 5) (getL T 1)).bind fun v0 =>
condV v0
 ((callV Try.prog R (.func (.func 78) #[] #[]) [(getL T 0), (getL T 4), (getL T 5), (getL T 2)] s).bind fun r1 =>
(abin Try.prog .add 3 (.tmp 20) (.tmp 21) (getL T 5) (getL T 3)).bind fun v2 =>
some (.normal, [(getL T 0), (getL T 1), (getL T 2), (getL T 3), (getL T 5), v2], r1.2))
 (some (.exit 0, [(getL T 0), (getL T 1), (getL T 2), (getL T 3), (getL T 4)], s))

noncomputable def slices_stableCmpFunc_api_Pair.b2 (R : Caller) (T : List Value) (s : St) : Res :=
(abin Try.prog .leq 3 (.tmp 33) (.tmp 34) (getL T 5) (getL T 1)).bind fun v7 =>
condV v7
 ((abin Try.prog .add 3 (.tmp 38) (.tmp 39) (getL T 4) (getL T 3)).bind fun v8 =>
(callV Try.prog R (.func (.func 79) #[] #[]) [(getL T 0), (getL T 4), v8, (getL T 5), (getL T 2)] s).bind fun r9 =>
(abin Try.prog .mul 3 (.const (.int .i64 2)) (.tmp 46) (.int .i64 2) (getL T 3)).bind fun v10 =>
(abin Try.prog .add 3 (.tmp 45) (.tmp 47) (getL T 5) v10).bind fun v11 =>
some (.normal, [(getL T 0), (getL T 1), (getL T 2), (getL T 3), (getL T 5), v11], r9.2))
 (some (.exit 4, [(getL T 0), (getL T 1), (getL T 2), (getL T 3), (getL T 4)], s))

noncomputable def slices_stableCmpFunc_api_Pair.j0 (R : Caller) (T : List Value) (s : St) : Res :=
(abin Try.prog .mul 3 (.tmp 61) (.const (.int .i64 2)) (getL T 3) (.int .i64 2)).bind fun v17 =>
some (.normal, [(getL T 0), (getL T 1), (getL T 2), v17], s)

noncomputable def slices_stableCmpFunc_api_Pair.b1 (R : Caller) (T : List Value) (s : St) : Res :=
(abin Try.prog .lss 3 (.tmp 28) (.tmp 29) (getL T 3) (getL T 1)).bind fun v5 =>
condV v5
 ((abin Try.prog .mul 3 (.const (.int .i64 2)) (.tmp 31) (.int .i64 2) (getL T 3)).bind fun v6 =>
(loopL (slices_stableCmpFunc_api_Pair.b2 R) [(getL T 0), (getL T 1), (getL T 2), (getL T 3), (.int .i64 0), v6] s).bind fun r12 =>
exV r12.1 [(4, (abin Try.prog .add 3 (.tmp 49) (.tmp 50) (getL r12.2.1 4) (getL r12.2.1 3)).bind fun v14 =>
(abin Try.prog .lss 3 (.tmp 52) (.tmp 53) v14 (getL r12.2.1 1)).bind fun v15 =>
condV v15
 ((callV Try.prog R (.func (.func 79) #[] #[]) [(getL r12.2.1 0), (getL r12.2.1 4), v14, (getL r12.2.1 1), (getL r12.2.1 2)] r12.2.2).bind fun r16 =>
joinK (slices_stableCmpFunc_api_Pair.j0 R) [(getL r12.2.1 0), (getL r12.2.1 1), (getL r12.2.1 2), (getL r12.2.1 3)] r16.2)
 (joinK (slices_stableCmpFunc_api_Pair.j0 R) [(getL r12.2.1 0), (getL r12.2.1 1), (getL r12.2.1 2), (getL r12.2.1 3)] r12.2.2))]
 (none))
 (some (.exit 2, [], s))

noncomputable def slices_stableCmpFunc_api_Pair (R : Caller) (x0 x1 x2 : Value) (s : St) : Option (Value × St) :=
(loopL (slices_stableCmpFunc_api_Pair.b0 R) [x0, x1, x2, (.int .i64 20), (.int .i64 0), (.int .i64 20)] s).bind fun r3 =>
exV r3.1 [(0, (callV Try.prog R (.func (.func 78) #[] #[]) [(getL r3.2.1 0), (getL r3.2.1 4), (getL r3.2.1 1), (getL r3.2.1 2)] r3.2.2).bind fun r4 =>
(loopL (slices_stableCmpFunc_api_Pair.b1 R) [(getL r3.2.1 0), (getL r3.2.1 1), (getL r3.2.1 2), (getL r3.2.1 3)] r4.2).bind fun r18 =>
exV r18.1 [(2, retV [] r18.2.2)]
 (none))]
 (none)

theorem slices_stableCmpFunc_api_Pair_of {lib : Lib} (hl : lib 68 = none) {x0 x1 x2 : Value} {s : St} {r : Value × St} (h : slices_stableCmpFunc_api_Pair (run Try.prog lib hints) x0 x1 x2 s = some r) : run Try.prog lib hints 68 [x0, x1, x2] s = some r :=
  run_of hl Try.func68 (Eq.trans (by kernel_rfl) h)

theorem slices_stableCmpFunc_api_Pair_ok : funcOk Try.prog 68 = true := by kernel_rfl
theorem slices_stableCmpFunc_api_Pair_call {R : Caller} {xs : List Value} {s : St} : callV Try.prog R (.func (.func 68) #[] #[]) xs s = R 68 xs s := callV_eq slices_stableCmpFunc_api_Pair_ok

/-! ### slices.IndexFunc[[]sumpter/owner.Part,sumpter/owner.Part]: 69 -/

noncomputable def slices_IndexFunc_owner_Part_owner_Part.b0 (R : Caller) (T : List Value) (s : St) : Res :=
(abin Try.prog .lss 3 (.tmp 8) (.tmp 7) (getL T 3) (getL T 2)).bind fun v1 =>
condV v1
 ((aindexS 3 (getL T 0) (getL T 3)).bind fun v2 =>
(aload true 3 v2 s).bind fun v3 =>
(callV Try.prog R (getL T 1) [v3] s).bind fun r4 =>
condV r4.1
 (some (.ret, [(getL T 3)], r4.2))
 ((abin Try.prog .add 3 (.tmp 8) (.const (.int .i64 1)) (getL T 3) (.int .i64 1)).bind fun v5 =>
some (.normal, [(getL T 0), (getL T 1), (getL T 2), v5], r4.2)))
 (some (.exit 0, [], s))

noncomputable def slices_IndexFunc_owner_Part_owner_Part (R : Caller) (x0 x1 : Value) (s : St) : Option (Value × St) :=
(alenV (.slice 51) x0 s).bind fun v0 =>
(loopL (slices_IndexFunc_owner_Part_owner_Part.b0 R) [x0, x1, v0, (.int .i64 0)] s).bind fun r6 =>
exV r6.1 [(0, retV [(.int .i64 (-1))] r6.2.2)]
 (retV [(getL r6.2.1 0)] r6.2.2)

theorem slices_IndexFunc_owner_Part_owner_Part_of {lib : Lib} (hl : lib 69 = none) {x0 x1 : Value} {s : St} {r : Value × St} (h : slices_IndexFunc_owner_Part_owner_Part (run Try.prog lib hints) x0 x1 s = some r) : run Try.prog lib hints 69 [x0, x1] s = some r :=
  run_of hl Try.func69 (Eq.trans (by kernel_rfl) h)

theorem slices_IndexFunc_owner_Part_owner_Part_ok : funcOk Try.prog 69 = true := by kernel_rfl
theorem slices_IndexFunc_owner_Part_owner_Part_call {R : Caller} {xs : List Value} {s : St} : callV Try.prog R (.func (.func 69) #[] #[]) xs s = R 69 xs s := callV_eq slices_IndexFunc_owner_Part_owner_Part_ok

/-! ### sumpter/op.CheckOp: 70 -/

noncomputable def op_CheckOp.j0 (R : Caller) (T : List Value) (s : St) : Option (Value × St) :=
condV (getL T 2)
 (retV [(.int .i64 40)] s)
 ((afieldAddr 0 (getL T 1)).bind fun v8 =>
(lload false 1 v8 (getL T 4)).bind fun v9 =>
(guardV v9 true ((afieldAddr 1 (getL T 0)).bind fun v10 =>
(lload false 1 v10 (getL T 3)).bind fun v11 =>
(callV Try.prog R (.func (.func 25) #[] #[]) [v11] s).bind fun r12 =>
(abin Try.prog .neq 24 (.tmp 53) (.const (.int .i64 0)) r12.1 (.int .i64 0)).bind fun v13 =>
some ([v13], r12.2)) (some ([undef], s))).bind fun q14 =>
(apick v9 (getL q14.1 0) (.bool false)).bind fun v15 =>
condV v15
 (retV [(.int .i64 20)] q14.2)
 ((afieldAddr 2 (getL T 0)).bind fun v16 =>
(lload false 1 v16 (getL T 3)).bind fun v17 =>
(alenV .string v17 q14.2).bind fun v18 =>
(abin Try.prog .gtr 3 (.tmp 59) (.const (.int .i64 16)) v18 (.int .i64 16)).bind fun v19 =>
condV v19
 (retV [(.int .i64 2)] q14.2)
 ((afieldAddr 2 (getL T 1)).bind fun v20 =>
(lload false 1 v20 (getL T 4)).bind fun v21 =>
(guardV v21 true ((lload true 6 (getL T 0) (getL T 3)).bind fun v22 =>
(callV Try.prog R (.func (.func 81) #[] #[]) [v22] q14.2).bind fun r23 =>
(callV Try.prog R (.func (.func 23) #[] #[]) [r23.1] r23.2).bind fun r24 =>
(abin Try.prog .neq 24 (.tmp 67) (.const (.int .i64 0)) r24.1 (.int .i64 0)).bind fun v25 =>
some ([v25], r24.2)) (some ([undef], q14.2))).bind fun q26 =>
(apick v21 (getL q26.1 0) (.bool false)).bind fun v27 =>
condV v27
 (retV [(.int .i64 21)] q26.2)
 ((afieldAddr 3 (getL T 1)).bind fun v28 =>
(lload false 1 v28 (getL T 4)).bind fun v29 =>
(guardV v29 true ((afieldAddr 5 (getL T 0)).bind fun v30 =>
(lload false 1 v30 (getL T 3)).bind fun v31 =>
(abin Try.prog .lss 3 (.tmp 75) (.const (.int .i64 1)) v31 (.int .i64 1)).bind fun v32 =>
some ([v32], q26.2)) (some ([undef], q26.2))).bind fun q33 =>
(guardV (getL q33.1 0) false ((afieldAddr 5 (getL T 0)).bind fun v34 =>
(lload false 1 v34 (getL T 3)).bind fun v35 =>
(abin Try.prog .gtr 3 (.tmp 79) (.const (.int .i64 4)) v35 (.int .i64 4)).bind fun v36 =>
some ([v36], q33.2)) (some ([undef], q33.2))).bind fun q37 =>
(guardV v29 true ((apick (getL q33.1 0) (.bool true) (getL q37.1 0)).bind fun v38 =>
some ([v38], q37.2)) (some ([undef], q37.2))).bind fun q39 =>
(apick v29 (getL q39.1 0) (.bool false)).bind fun v40 =>
condV v40
 (retV [(.int .i64 1)] q39.2)
 (retV [(.int .i64 0)] q39.2)))))

noncomputable def op_CheckOp (R : Caller) (x0 : Value) (s : St) : Option (Value × St) :=
(lbox x0).bind fun v0 =>
(lload false 1 lptr v0).bind fun v1 =>
(callV Try.prog R (.func (.func 80) #[] #[]) [v1] s).bind fun r2 =>
(aextract 0 r2.1).bind fun v3 =>
(aextract 1 r2.1).bind fun v4 =>
(lstore 6 lptr v3 (.agg #[(.bool false), (.bool false), (.bool false), (.bool false), (.bool false), .nilFunc])).bind fun v5 =>
(aun .not v4).bind fun v7 =>
condV v7
 (joinK (op_CheckOp.j0 R) [lptr, lptr, v7, v0, v5] r2.2)
 ((lload false 1 lptr v5).bind fun v41 =>
(aun .not v41).bind fun v42 =>
(guardV v42 true ((lload false 1 (.pointer (some ⟨0, 1, none⟩)) v0).bind fun v43 =>
(abin Try.prog .neq 9 (.tmp 19) (.const (.string ⟨#[]⟩)) v43 (.string ⟨#[]⟩)).bind fun v44 =>
some ([v44], r2.2)) (some ([undef], r2.2))).bind fun q45 =>
(apick v42 (getL q45.1 0) (.bool false)).bind fun v46 =>
condV v46
 (joinK (op_CheckOp.j0 R) [lptr, lptr, v46, v0, v5] q45.2)
 ((lload false 1 (.pointer (some ⟨0, 1, none⟩)) v5).bind fun v47 =>
(aun .not v47).bind fun v48 =>
(guardV v48 true ((lload false 1 (.pointer (some ⟨0, 2, none⟩)) v0).bind fun v49 =>
(abin Try.prog .neq 9 (.tmp 27) (.const (.string ⟨#[]⟩)) v49 (.string ⟨#[]⟩)).bind fun v50 =>
some ([v50], q45.2)) (some ([undef], q45.2))).bind fun q51 =>
(apick v48 (getL q51.1 0) (.bool false)).bind fun v52 =>
condV v52
 (joinK (op_CheckOp.j0 R) [lptr, lptr, v52, v0, v5] q51.2)
 ((lload false 1 (.pointer (some ⟨0, 2, none⟩)) v5).bind fun v53 =>
(aun .not v53).bind fun v54 =>
(guardV v54 true ((lload true 6 lptr v0).bind fun v55 =>
(callV Try.prog R (.func (.func 81) #[] #[]) [v55] q51.2).bind fun r56 =>
(abin Try.prog .neq 33 (.tmp 35) (.tmp 36) r56.1 (.agg #[(.string ⟨#[]⟩), (.string ⟨#[]⟩)])).bind fun v57 =>
some ([v57], r56.2)) (some ([undef], q51.2))).bind fun q58 =>
(apick v54 (getL q58.1 0) (.bool false)).bind fun v59 =>
condV v59
 (joinK (op_CheckOp.j0 R) [lptr, lptr, v59, v0, v5] q58.2)
 ((lload false 1 (.pointer (some ⟨0, 3, none⟩)) v5).bind fun v60 =>
(aun .not v60).bind fun v61 =>
(guardV v61 true ((lload false 1 (.pointer (some ⟨0, 5, none⟩)) v0).bind fun v62 =>
(abin Try.prog .neq 3 (.tmp 44) (.const (.int .i64 0)) v62 (.int .i64 0)).bind fun v63 =>
some ([v63], q58.2)) (some ([undef], q58.2))).bind fun q64 =>
(apick v61 (getL q64.1 0) (.bool false)).bind fun v65 =>
joinK (op_CheckOp.j0 R) [lptr, lptr, v65, v0, v5] q64.2))))

theorem op_CheckOp_of {lib : Lib} (hl : lib 70 = none) {x0 : Value} {s : St} {r : Value × St} (h : op_CheckOp (run Try.prog lib hints) x0 s = some r) : run Try.prog lib hints 70 [x0] s = some r :=
  run_of hl Try.func70 (Eq.trans (by kernel_rfl) h)

theorem op_CheckOp_ok : funcOk Try.prog 70 = true := by kernel_rfl
theorem op_CheckOp_call {R : Caller} {xs : List Value} {s : St} : callV Try.prog R (.func (.func 70) #[] #[]) xs s = R 70 xs s := callV_eq op_CheckOp_ok

/-! ### sumpter/op.get: 71 -/

noncomputable def op_get (R : Caller) (x0 x1 : Value) (s : St) : Option (Value × St) :=
(lbox x1).bind fun v0 =>
(lload false 1 (.pointer (some ⟨0, 1, none⟩)) v0).bind fun v1 =>
(callV Try.prog R (.func (.func 82) #[] #[]) [x0, v1] s).bind fun r2 =>
(aextract 0 r2.1).bind fun v3 =>
(aextract 1 r2.1).bind fun v4 =>
(aun .not v4).bind fun v5 =>
condV v5
 (retV [x0, (.agg #[(.bool false), (.string ⟨#[]⟩), (.slice none 0 0)])] r2.2)
 ((aindexS 2 x0 v3).bind fun v6 =>
(afieldAddr 1 v6).bind fun v7 =>
(((aload false 1 v7 r2.2).bind fun v12 =>
some (v12, r2.2)).bind (ownR r2.2)).bind fun r8 =>
(abuild Try.prog 60 [(0, (.bool true)), (1, r8.1)]).bind fun v9 =>
(lstore 3 lptr v9 (.agg #[(.bool false), (.string ⟨#[]⟩), (.slice none 0 0)])).bind fun v10 =>
(lload true 3 lptr v10).bind fun v11 =>
retV [x0, v11] r8.2)

theorem op_get_of {lib : Lib} (hl : lib 71 = none) {x0 x1 : Value} {s : St} {r : Value × St} (h : op_get (run Try.prog lib hints) x0 x1 s = some r) : run Try.prog lib hints 71 [x0, x1] s = some r :=
  run_of hl Try.func71 (Eq.trans (by kernel_rfl) h)

theorem op_get_ok : funcOk Try.prog 71 = true := by kernel_rfl
theorem op_get_call {R : Caller} {xs : List Value} {s : St} : callV Try.prog R (.func (.func 71) #[] #[]) xs s = R 71 xs s := callV_eq op_get_ok

/-! ### sumpter/op.put: 72 -/

noncomputable def op_put (R : Caller) (x0 x1 : Value) (s : St) : Option (Value × St) :=
(lbox x1).bind fun v0 =>
(lload false 1 (.pointer (some ⟨0, 1, none⟩)) v0).bind fun v1 =>
(callV Try.prog R (.func (.func 82) #[] #[]) [x0, v1] s).bind fun r2 =>
(aextract 0 r2.1).bind fun v3 =>
(aextract 1 r2.1).bind fun v4 =>
(aun .not v4).bind fun v5 =>
condV v5
 ((lload false 1 (.pointer (some ⟨0, 1, none⟩)) v0).bind fun v6 =>
(lload false 1 (.pointer (some ⟨0, 2, none⟩)) v0).bind fun v7 =>
(abuild Try.prog 62 [(0, v6), (1, v7)]).bind fun v8 =>
(abuildSl 2 [(.string ⟨#[]⟩), (.string ⟨#[]⟩)] 1 [(0, v8)] r2.2).bind fun r9 =>
(callV Try.prog R (.func (.func 83) #[] #[]) [x0, v3, r9.1] r9.2).bind fun r10 =>
retV [r10.1, (.agg #[(.bool false), (.string ⟨#[]⟩), (.slice none 0 0)])] r10.2)
 ((lload false 1 (.pointer (some ⟨0, 2, none⟩)) v0).bind fun v11 =>
(aindexS 2 x0 v3).bind fun v12 =>
(afieldAddr 1 v12).bind fun v13 =>
(astore 1 v13 v11 r2.2).bind fun s14 =>
retV [x0, (.agg #[(.bool false), (.string ⟨#[]⟩), (.slice none 0 0)])] s14)

theorem op_put_of {lib : Lib} (hl : lib 72 = none) {x0 x1 : Value} {s : St} {r : Value × St} (h : op_put (run Try.prog lib hints) x0 x1 s = some r) : run Try.prog lib hints 72 [x0, x1] s = some r :=
  run_of hl Try.func72 (Eq.trans (by kernel_rfl) h)

theorem op_put_ok : funcOk Try.prog 72 = true := by kernel_rfl
theorem op_put_call {R : Caller} {xs : List Value} {s : St} : callV Try.prog R (.func (.func 72) #[] #[]) xs s = R 72 xs s := callV_eq op_put_ok

/-! ### sumpter/op.del: 73 -/

noncomputable def op_del.j0 (R : Caller) (T : List Value) (s : St) : Option (Value × St) :=
(lstore 3 (getL T 1) (.agg #[(.bool false), (.string ⟨#[]⟩), (.slice none 0 0)]) (getL T 2)).bind fun v8 =>
(lload true 3 (getL T 1) v8).bind fun v9 =>
retV [(getL T 0), v9] s

noncomputable def op_del (R : Caller) (x0 x1 : Value) (s : St) : Option (Value × St) :=
(lbox x1).bind fun v0 =>
(lload false 1 (.pointer (some ⟨0, 1, none⟩)) v0).bind fun v2 =>
(callV Try.prog R (.func (.func 82) #[] #[]) [x0, v2] s).bind fun r3 =>
(aextract 0 r3.1).bind fun v4 =>
(aextract 1 r3.1).bind fun v5 =>
condV v5
 ((abin Try.prog .add 3 (.tmp 18) (.const (.int .i64 1)) v4 (.int .i64 1)).bind fun v6 =>
(callV Try.prog R (.func (.func 84) #[] #[]) [x0, v4, v6] r3.2).bind fun r7 =>
joinK (op_del.j0 R) [r7.1, lptr, (.agg #[(.bool false), (.string ⟨#[]⟩), (.slice none 0 0)])] r7.2)
 (joinK (op_del.j0 R) [x0, lptr, (.agg #[(.bool false), (.string ⟨#[]⟩), (.slice none 0 0)])] r3.2)

theorem op_del_of {lib : Lib} (hl : lib 73 = none) {x0 x1 : Value} {s : St} {r : Value × St} (h : op_del (run Try.prog lib hints) x0 x1 s = some r) : run Try.prog lib hints 73 [x0, x1] s = some r :=
  run_of hl Try.func73 (Eq.trans (by kernel_rfl) h)

theorem op_del_ok : funcOk Try.prog 73 = true := by kernel_rfl
theorem op_del_call {R : Caller} {xs : List Value} {s : St} : callV Try.prog R (.func (.func 73) #[] #[]) xs s = R 73 xs s := callV_eq op_del_ok

/-! ### sumpter/op.scan: 74 -/

noncomputable def op_scan (R : Caller) (x0 x1 : Value) (s : St) : Option (Value × St) :=
(lbox x1).bind fun v0 =>
(lload true 6 lptr v0).bind fun v1 =>
(callV Try.prog R (.func (.func 81) #[] #[]) [v1] s).bind fun r2 =>
(callV Try.prog R (.func (.func 85) #[] #[]) [x0, r2.1] r2.2).bind fun r3 =>
(aextract 0 r3.1).bind fun v4 =>
(aextract 1 r3.1).bind fun v5 =>
(lload false 1 (.pointer (some ⟨0, 5, none⟩)) v0).bind fun v6 =>
(abin Try.prog .add 3 (.tmp 19) (.tmp 21) v4 v6).bind fun v7 =>
(amin2 v5 v7).bind fun v8 =>
(asliceV 2 x0 (some v4) (some v8) none).bind fun v9 =>
(callV Try.prog R (.func (.func 48) #[] #[]) [v9] r3.2).bind fun r10 =>
(abuild Try.prog 60 [(2, r10.1)]).bind fun v11 =>
(lstore 3 lptr v11 (.agg #[(.bool false), (.string ⟨#[]⟩), (.slice none 0 0)])).bind fun v12 =>
(lload true 3 lptr v12).bind fun v13 =>
retV [x0, v13] r10.2

theorem op_scan_of {lib : Lib} (hl : lib 74 = none) {x0 x1 : Value} {s : St} {r : Value × St} (h : op_scan (run Try.prog lib hints) x0 x1 s = some r) : run Try.prog lib hints 74 [x0, x1] s = some r :=
  run_of hl Try.func74 (Eq.trans (by kernel_rfl) h)

theorem op_scan_ok : funcOk Try.prog 74 = true := by kernel_rfl
theorem op_scan_call {R : Caller} {xs : List Value} {s : St} : callV Try.prog R (.func (.func 74) #[] #[]) xs s = R 74 xs s := callV_eq op_scan_ok

/-! ### sumpter/op.clear: 75 -/

noncomputable def op_clear (R : Caller) (x0 x1 : Value) (s : St) : Option (Value × St) :=
(lbox x1).bind fun v0 =>
(lload true 6 lptr v0).bind fun v1 =>
(callV Try.prog R (.func (.func 81) #[] #[]) [v1] s).bind fun r2 =>
(callV Try.prog R (.func (.func 85) #[] #[]) [x0, r2.1] r2.2).bind fun r3 =>
(aextract 0 r3.1).bind fun v4 =>
(aextract 1 r3.1).bind fun v5 =>
(callV Try.prog R (.func (.func 84) #[] #[]) [x0, v4, v5] r3.2).bind fun r6 =>
retV [r6.1, (.agg #[(.bool false), (.string ⟨#[]⟩), (.slice none 0 0)])] r6.2

theorem op_clear_of {lib : Lib} (hl : lib 75 = none) {x0 x1 : Value} {s : St} {r : Value × St} (h : op_clear (run Try.prog lib hints) x0 x1 s = some r) : run Try.prog lib hints 75 [x0, x1] s = some r :=
  run_of hl Try.func75 (Eq.trans (by kernel_rfl) h)

theorem op_clear_ok : funcOk Try.prog 75 = true := by kernel_rfl
theorem op_clear_call {R : Caller} {xs : List Value} {s : St} : callV Try.prog R (.func (.func 75) #[] #[]) xs s = R 75 xs s := callV_eq op_clear_ok

/-! ### slices.rotateLeft[sumpter/api.Owner]: 76 -/

noncomputable def slices_rotateLeft_api_Owner (R : Caller) (x0 x1 : Value) (s : St) : Option (Value × St) :=
(asliceV 2 x0 none (some x1) none).bind fun v0 =>
(callV Try.prog R (.func (.func 86) #[] #[]) [v0] s).bind fun r1 =>
(asliceV 2 x0 (some x1) none none).bind fun v2 =>
(callV Try.prog R (.func (.func 86) #[] #[]) [v2] r1.2).bind fun r3 =>
(callV Try.prog R (.func (.func 86) #[] #[]) [x0] r3.2).bind fun r4 =>
retV [] r4.2

theorem slices_rotateLeft_api_Owner_of {lib : Lib} (hl : lib 76 = none) {x0 x1 : Value} {s : St} {r : Value × St} (h : slices_rotateLeft_api_Owner (run Try.prog lib hints) x0 x1 s = some r) : run Try.prog lib hints 76 [x0, x1] s = some r :=
  run_of hl Try.func76 (Eq.trans (by kernel_rfl) h)

theorem slices_rotateLeft_api_Owner_ok : funcOk Try.prog 76 = true := by kernel_rfl
theorem slices_rotateLeft_api_Owner_call {R : Caller} {xs : List Value} {s : St} : callV Try.prog R (.func (.func 76) #[] #[]) xs s = R 76 xs s := callV_eq slices_rotateLeft_api_Owner_ok

/-! ### slices.insertionSortCmpFunc[sumpter/api.Pair]: 78 -/

noncomputable def slices_insertionSortCmpFunc_api_Pair.b1 (R : Caller) (T : List Value) (s : St) : Res :=
(abin Try.prog .gtr 3 (.tmp 18) (.tmp 19) (getL T 5) (getL T 1)).bind fun v2 =>
(guardV v2 true (some ([(getL T 3)], s)) (some ([undef], s))).bind fun q3 =>
(guardV v2 true (some ([(getL T 0)], q3.2)) (some ([undef], q3.2))).bind fun q4 =>
(guardV v2 true (some ([(getL T 5)], q4.2)) (some ([undef], q4.2))).bind fun q5 =>
(guardV v2 true ((aindexS 2 (getL q4.1 0) (getL q5.1 0)).bind fun v6 =>
some ([v6], q5.2)) (some ([undef], q5.2))).bind fun q7 =>
(guardV v2 true ((aload true 2 (getL q7.1 0) (frzS q7.2)).bind fun v37 =>
some (v37, (frzS q7.2))) (some (undef, (frzS q7.2)))).bind fun r8 =>
(guardV v2 true (some ([(getL T 0)], q7.2)) (some ([undef], q7.2))).bind fun q9 =>
(guardV v2 true (some ([(getL T 5)], q9.2)) (some ([undef], q9.2))).bind fun q10 =>
(guardV v2 true ((abin Try.prog .sub 3 (.tmp 28) (.const (.int .i64 1)) (getL q10.1 0) (.int .i64 1)).bind fun v11 =>
some ([v11], q10.2)) (some ([undef], q10.2))).bind fun q12 =>
(guardV v2 true ((aindexS 2 (getL q9.1 0) (getL q12.1 0)).bind fun v13 =>
some ([v13], q12.2)) (some ([undef], q12.2))).bind fun q14 =>
(guardV v2 true ((aload true 2 (getL q14.1 0) (frzS q14.2)).bind fun v36 =>
some (v36, (frzS q14.2))) (some (undef, (frzS q14.2)))).bind fun r15 =>
((guardV v2 true ((callV Try.prog R (getL q3.1 0) [r8.1, r15.1] q14.2).bind fun r35 =>
some (r35.1, r35.2)) (some (undef, q14.2))).bind (ownR q14.2)).bind fun r16 =>
(guardV v2 true ((abin Try.prog .lss 3 (.tmp 32) (.const (.int .i64 0)) r16.1 (.int .i64 0)).bind fun v17 =>
some ([v17], r16.2)) (some ([undef], r16.2))).bind fun q18 =>
(apick v2 (getL q18.1 0) (.bool false)).bind fun v19 =>
condV v19
 ((abin Try.prog .sub 3 (.tmp 40) (.const (.int .i64 1)) (getL T 5) (.int .i64 1)).bind fun v20 =>
(abin Try.prog .sub 3 (.tmp 43) (.const (.int .i64 1)) (getL T 5) (.int .i64 1)).bind fun v21 =>
(aindexS 2 (getL T 0) v21).bind fun v22 =>
((aload true 2 v22 (frzS q18.2)).bind fun v34 =>
some (v34, (frzS q18.2))).bind fun r23 =>
(aindexS 2 (getL T 0) (getL T 5)).bind fun v24 =>
((aload true 2 v24 (frzS q18.2)).bind fun v33 =>
some (v33, (frzS q18.2))).bind fun r25 =>
(aindexS 2 (getL T 0) (getL T 5)).bind fun v26 =>
(((astore 2 v26 r23.1 q18.2).bind fun s32 =>
some (undef, s32)).bind (ownR q18.2)).bind fun r27 =>
(aindexS 2 (getL T 0) v20).bind fun v28 =>
(((astore 2 v28 r25.1 r27.2).bind fun s31 =>
some (undef, s31)).bind (ownR r27.2)).bind fun r29 =>
(abin Try.prog .sub 3 (.tmp 35) (.const (.int .i64 1)) (getL T 5) (.int .i64 1)).bind fun v30 =>
some (.normal, [(getL T 0), (getL T 1), (getL T 2), (getL T 3), (getL T 4), v30], r29.2))
 (some (.exit 2, [(getL T 0), (getL T 1), (getL T 2), (getL T 3), (getL T 4)], q18.2))

noncomputable def slices_insertionSortCmpFunc_api_Pair.b0 (R : Caller) (T : List Value) (s : St) : Res :=
(abin Try.prog .lss 3 (.tmp 12) (.tmp 13) (getL T 4) (getL T 2)).bind fun v1 =>
condV v1
 ((loopL (slices_insertionSortCmpFunc_api_Pair.b1 R) [(getL T 0), (getL T 1), (getL T 2), (getL T 3), (getL T 4), (getL T 4)] s).bind fun r38 =>
exV r38.1 [(2, (abin Try.prog .add 3 (.tmp 15) (.const (.int .i64 1)) (getL r38.2.1 4) (.int .i64 1)).bind fun v39 =>
some (.normal, [(getL r38.2.1 0), (getL r38.2.1 1), (getL r38.2.1 2), (getL r38.2.1 3), v39], r38.2.2))]
 (none))
 (some (.exit 0, [], s))

noncomputable def slices_insertionSortCmpFunc_api_Pair (R : Caller) (x0 x1 x2 x3 : Value) (s : St) : Option (Value × St) :=
(abin Try.prog .add 3 (.tmp 10) (.const (.int .i64 1)) x1 (.int .i64 1)).bind fun v0 =>
(loopL (slices_insertionSortCmpFunc_api_Pair.b0 R) [x0, x1, x2, x3, v0] s).bind fun r40 =>
exV r40.1 [(0, retV [] r40.2.2)]
 (none)

theorem slices_insertionSortCmpFunc_api_Pair_of {lib : Lib} (hl : lib 78 = none) {x0 x1 x2 x3 : Value} {s : St} {r : Value × St} (h : slices_insertionSortCmpFunc_api_Pair (run Try.prog lib hints) x0 x1 x2 x3 s = some r) : run Try.prog lib hints 78 [x0, x1, x2, x3] s = some r :=
  run_of hl Try.func78 (Eq.trans (by kernel_rfl) h)

theorem slices_insertionSortCmpFunc_api_Pair_ok : funcOk Try.prog 78 = true := by kernel_rfl
theorem slices_insertionSortCmpFunc_api_Pair_call {R : Caller} {xs : List Value} {s : St} : callV Try.prog R (.func (.func 78) #[] #[]) xs s = R 78 xs s := callV_eq slices_insertionSortCmpFunc_api_Pair_ok

/-! ### slices.symMergeCmpFunc[sumpter/api.Pair]: 79 -/

noncomputable def slices_symMergeCmpFunc_api_Pair.b0 (R : Caller) (T : List Value) (s : St) : Res :=
(abin Try.prog .lss 3 (.tmp 31) (.tmp 32) (getL T 3) (getL T 4)).bind fun v2 =>
condV v2
 ((abin Try.prog .add 3 (.tmp 34) (.tmp 35) (getL T 3) (getL T 4)).bind fun v3 =>
(convInt .u64 v3).bind fun v4 =>
(abin Try.prog .shr 109 (.tmp 37) (.const (.int .u64 1)) v4 (.int .u64 1)).bind fun v5 =>
(convInt .i64 v5).bind fun v6 =>
(aindexS 2 (getL T 0) v6).bind fun v7 =>
((aload true 2 v7 (frzS s)).bind fun v16 =>
some (v16, (frzS s))).bind fun r8 =>
(aindexS 2 (getL T 0) (getL T 1)).bind fun v9 =>
((aload true 2 v9 (frzS s)).bind fun v15 =>
some (v15, (frzS s))).bind fun r10 =>
(((callV Try.prog R (getL T 2) [r8.1, r10.1] s).bind fun r14 =>
some (r14.1, r14.2)).bind (ownR s)).bind fun r11 =>
(abin Try.prog .lss 3 (.tmp 49) (.const (.int .i64 0)) r11.1 (.int .i64 0)).bind fun v12 =>
condV v12
 ((abin Try.prog .add 3 (.tmp 51) (.const (.int .i64 1)) v6 (.int .i64 1)).bind fun v13 =>
some (.normal, [(getL T 0), (getL T 1), (getL T 2), v13, (getL T 4)], r11.2))
 (some (.normal, [(getL T 0), (getL T 1), (getL T 2), (getL T 3), v6], r11.2)))
 (some (.exit 0, [(getL T 0), (getL T 1), (getL T 3)], s))

noncomputable def slices_symMergeCmpFunc_api_Pair.b1 (R : Caller) (T : List Value) (s : St) : Res :=
(abin Try.prog .sub 3 (.tmp 56) (.const (.int .i64 1)) (getL T 1) (.int .i64 1)).bind fun v18 =>
(abin Try.prog .lss 3 (.tmp 55) (.tmp 57) (getL T 2) v18).bind fun v19 =>
condV v19
 ((abin Try.prog .add 3 (.tmp 64) (.const (.int .i64 1)) (getL T 2) (.int .i64 1)).bind fun v20 =>
(abin Try.prog .add 3 (.tmp 67) (.const (.int .i64 1)) (getL T 2) (.int .i64 1)).bind fun v21 =>
(aindexS 2 (getL T 0) v21).bind fun v22 =>
((aload true 2 v22 (frzS s)).bind fun v34 =>
some (v34, (frzS s))).bind fun r23 =>
(aindexS 2 (getL T 0) (getL T 2)).bind fun v24 =>
((aload true 2 v24 (frzS s)).bind fun v33 =>
some (v33, (frzS s))).bind fun r25 =>
(aindexS 2 (getL T 0) (getL T 2)).bind fun v26 =>
(((astore 2 v26 r23.1 s).bind fun s32 =>
some (undef, s32)).bind (ownR s)).bind fun r27 =>
(aindexS 2 (getL T 0) v20).bind fun v28 =>
(((astore 2 v28 r25.1 r27.2).bind fun s31 =>
some (undef, s31)).bind (ownR r27.2)).bind fun r29 =>
(abin Try.prog .add 3 (.tmp 59) (.const (.int .i64 1)) (getL T 2) (.int .i64 1)).bind fun v30 =>
some (.normal, [(getL T 0), (getL T 1), v30], r29.2))
 (some (.exit 2, [], s))

noncomputable def slices_symMergeCmpFunc_api_Pair.b2 (R : Caller) (T : List Value) (s : St) : Res :=
(abin Try.prog .lss 3 (.tmp 83) (.tmp 84) (getL T 3) (getL T 4)).bind fun v38 =>
condV v38
 ((abin Try.prog .add 3 (.tmp 86) (.tmp 87) (getL T 3) (getL T 4)).bind fun v39 =>
(convInt .u64 v39).bind fun v40 =>
(abin Try.prog .shr 109 (.tmp 89) (.const (.int .u64 1)) v40 (.int .u64 1)).bind fun v41 =>
(convInt .i64 v41).bind fun v42 =>
(aindexS 2 (getL T 0) (getL T 1)).bind fun v43 =>
((aload true 2 v43 (frzS s)).bind fun v53 =>
some (v53, (frzS s))).bind fun r44 =>
(aindexS 2 (getL T 0) v42).bind fun v45 =>
((aload true 2 v45 (frzS s)).bind fun v52 =>
some (v52, (frzS s))).bind fun r46 =>
(((callV Try.prog R (getL T 2) [r44.1, r46.1] s).bind fun r51 =>
some (r51.1, r51.2)).bind (ownR s)).bind fun r47 =>
(abin Try.prog .lss 3 (.tmp 101) (.const (.int .i64 0)) r47.1 (.int .i64 0)).bind fun v48 =>
(aun .not v48).bind fun v49 =>
condV v49
 ((abin Try.prog .add 3 (.tmp 104) (.const (.int .i64 1)) v42 (.int .i64 1)).bind fun v50 =>
some (.normal, [(getL T 0), (getL T 1), (getL T 2), v50, (getL T 4)], r47.2))
 (some (.normal, [(getL T 0), (getL T 1), (getL T 2), (getL T 3), v42], r47.2)))
 (some (.exit 4, [(getL T 0), (getL T 1), (getL T 3)], s))

noncomputable def slices_symMergeCmpFunc_api_Pair.b3 (R : Caller) (T : List Value) (s : St) : Res :=
(abin Try.prog .gtr 3 (.tmp 108) (.tmp 109) (getL T 2) (getL T 1)).bind fun v55 =>
condV v55
 ((abin Try.prog .sub 3 (.tmp 116) (.const (.int .i64 1)) (getL T 2) (.int .i64 1)).bind fun v56 =>
(abin Try.prog .sub 3 (.tmp 119) (.const (.int .i64 1)) (getL T 2) (.int .i64 1)).bind fun v57 =>
(aindexS 2 (getL T 0) v57).bind fun v58 =>
((aload true 2 v58 (frzS s)).bind fun v70 =>
some (v70, (frzS s))).bind fun r59 =>
(aindexS 2 (getL T 0) (getL T 2)).bind fun v60 =>
((aload true 2 v60 (frzS s)).bind fun v69 =>
some (v69, (frzS s))).bind fun r61 =>
(aindexS 2 (getL T 0) (getL T 2)).bind fun v62 =>
(((astore 2 v62 r59.1 s).bind fun s68 =>
some (undef, s68)).bind (ownR s)).bind fun r63 =>
(aindexS 2 (getL T 0) v56).bind fun v64 =>
(((astore 2 v64 r61.1 r63.2).bind fun s67 =>
some (undef, s67)).bind (ownR r63.2)).bind fun r65 =>
(abin Try.prog .sub 3 (.tmp 111) (.const (.int .i64 1)) (getL T 2) (.int .i64 1)).bind fun v66 =>
some (.normal, [(getL T 0), (getL T 1), v66], r65.2))
 (some (.exit 6, [], s))

noncomputable def slices_symMergeCmpFunc_api_Pair.b4 (R : Caller) (T : List Value) (s : St) : Res :=
(abin Try.prog .lss 3 (.tmp 149) (.tmp 150) (getL T 7) (getL T 8)).bind fun v81 =>
condV v81
 ((abin Try.prog .add 3 (.tmp 152) (.tmp 153) (getL T 7) (getL T 8)).bind fun v82 =>
(convInt .u64 v82).bind fun v83 =>
(abin Try.prog .shr 109 (.tmp 155) (.const (.int .u64 1)) v83 (.int .u64 1)).bind fun v84 =>
(convInt .i64 v84).bind fun v85 =>
(abin Try.prog .sub 3 (.tmp 160) (.tmp 161) (getL T 9) v85).bind fun v86 =>
(aindexS 2 (getL T 0) v86).bind fun v87 =>
((aload true 2 v87 (frzS s)).bind fun v97 =>
some (v97, (frzS s))).bind fun r88 =>
(aindexS 2 (getL T 0) v85).bind fun v89 =>
((aload true 2 v89 (frzS s)).bind fun v96 =>
some (v96, (frzS s))).bind fun r90 =>
(((callV Try.prog R (getL T 4) [r88.1, r90.1] s).bind fun r95 =>
some (r95.1, r95.2)).bind (ownR s)).bind fun r91 =>
(abin Try.prog .lss 3 (.tmp 169) (.const (.int .i64 0)) r91.1 (.int .i64 0)).bind fun v92 =>
(aun .not v92).bind fun v93 =>
condV v93
 ((abin Try.prog .add 3 (.tmp 172) (.const (.int .i64 1)) v85 (.int .i64 1)).bind fun v94 =>
some (.normal, [(getL T 0), (getL T 1), (getL T 2), (getL T 3), (getL T 4), (getL T 5), (getL T 6), v94, (getL T 8), (getL T 9)], r91.2))
 (some (.normal, [(getL T 0), (getL T 1), (getL T 2), (getL T 3), (getL T 4), (getL T 5), (getL T 6), (getL T 7), v85, (getL T 9)], r91.2)))
 (some (.exit 8, [(getL T 0), (getL T 1), (getL T 2), (getL T 3), (getL T 4), (getL T 5), (getL T 6), (getL T 7)], s))

noncomputable def slices_symMergeCmpFunc_api_Pair.j0 (R : Caller) (T : List Value) (s : St) : Option (Value × St) :=
(abin Try.prog .lss 3 (.tmp 206) (.tmp 207) (getL T 3) (getL T 4)).bind fun v112 =>
(guardV v112 true ((abin Try.prog .lss 3 (.tmp 210) (.tmp 211) (getL T 4) (getL T 1)).bind fun v113 =>
some ([v113], s)) (some ([undef], s))).bind fun q114 =>
(apick v112 (getL q114.1 0) (.bool false)).bind fun v115 =>
condV v115
 ((callV Try.prog R (.func (.func 79) #[] #[]) [(getL T 0), (getL T 3), (getL T 4), (getL T 1), (getL T 2)] q114.2).bind fun r116 =>
retV [] r116.2)
 (retV [] q114.2)

noncomputable def slices_symMergeCmpFunc_api_Pair.j1 (R : Caller) (T : List Value) (s : St) : Option (Value × St) :=
(abin Try.prog .lss 3 (.tmp 192) (.tmp 193) (getL T 1) (getL T 5)).bind fun v107 =>
(guardV v107 true ((abin Try.prog .lss 3 (.tmp 196) (.tmp 197) (getL T 5) (getL T 4)).bind fun v108 =>
some ([v108], s)) (some ([undef], s))).bind fun q109 =>
(apick v107 (getL q109.1 0) (.bool false)).bind fun v110 =>
condV v110
 ((callV Try.prog R (.func (.func 79) #[] #[]) [(getL T 0), (getL T 1), (getL T 5), (getL T 4), (getL T 3)] q109.2).bind fun r111 =>
joinK (slices_symMergeCmpFunc_api_Pair.j0 R) [(getL T 0), (getL T 2), (getL T 3), (getL T 4), (getL T 6)] r111.2)
 (joinK (slices_symMergeCmpFunc_api_Pair.j0 R) [(getL T 0), (getL T 2), (getL T 3), (getL T 4), (getL T 6)] q109.2)

noncomputable def slices_symMergeCmpFunc_api_Pair.j2 (R : Caller) (T : List Value) (s : St) : Option (Value × St) :=
(abin Try.prog .sub 3 (.tmp 147) (.const (.int .i64 1)) (getL T 6) (.int .i64 1)).bind fun v80 =>
(loopL (slices_symMergeCmpFunc_api_Pair.b4 R) [(getL T 0), (getL T 1), (getL T 2), (getL T 3), (getL T 4), (getL T 5), (getL T 6), (getL T 7), (getL T 8), v80] s).bind fun r98 =>
exV r98.1 [(8, (abin Try.prog .sub 3 (.tmp 175) (.tmp 176) (getL r98.2.1 6) (getL r98.2.1 7)).bind fun v99 =>
(abin Try.prog .lss 3 (.tmp 178) (.tmp 179) (getL r98.2.1 7) (getL r98.2.1 2)).bind fun v101 =>
(guardV v101 true ((abin Try.prog .lss 3 (.tmp 182) (.tmp 183) (getL r98.2.1 2) v99).bind fun v102 =>
some ([v102], r98.2.2)) (some ([undef], r98.2.2))).bind fun q103 =>
(apick v101 (getL q103.1 0) (.bool false)).bind fun v104 =>
condV v104
 ((callV Try.prog R (.func (.func 87) #[] #[]) [(getL r98.2.1 0), (getL r98.2.1 7), (getL r98.2.1 2), v99, (getL r98.2.1 4)] q103.2).bind fun r105 =>
joinK (slices_symMergeCmpFunc_api_Pair.j1 R) [(getL r98.2.1 0), (getL r98.2.1 1), (getL r98.2.1 3), (getL r98.2.1 4), (getL r98.2.1 5), (getL r98.2.1 7), v99] r105.2)
 (joinK (slices_symMergeCmpFunc_api_Pair.j1 R) [(getL r98.2.1 0), (getL r98.2.1 1), (getL r98.2.1 3), (getL r98.2.1 4), (getL r98.2.1 5), (getL r98.2.1 7), v99] q103.2))]
 (none)

noncomputable def slices_symMergeCmpFunc_api_Pair (R : Caller) (x0 x1 x2 x3 x4 : Value) (s : St) : Option (Value × St) :=
(abin Try.prog .sub 3 (.tmp 25) (.tmp 26) x2 x1).bind fun v0 =>
(abin Try.prog .eql 3 (.tmp 27) (.const (.int .i64 1)) v0 (.int .i64 1)).bind fun v1 =>
condV v1
 ((loopL (slices_symMergeCmpFunc_api_Pair.b0 R) [x0, x1, x4, x2, x3] s).bind fun r17 =>
exV r17.1 [(0, (loopL (slices_symMergeCmpFunc_api_Pair.b1 R) [(getL r17.2.1 0), (getL r17.2.1 2), (getL r17.2.1 1)] r17.2.2).bind fun r35 =>
exV r35.1 [(2, retV [] r35.2.2)]
 (none))]
 (none))
 ((abin Try.prog .sub 3 (.tmp 77) (.tmp 78) x3 x2).bind fun v36 =>
(abin Try.prog .eql 3 (.tmp 79) (.const (.int .i64 1)) v36 (.int .i64 1)).bind fun v37 =>
condV v37
 ((loopL (slices_symMergeCmpFunc_api_Pair.b2 R) [x0, x2, x4, x1, x2] s).bind fun r54 =>
exV r54.1 [(4, (loopL (slices_symMergeCmpFunc_api_Pair.b3 R) [(getL r54.2.1 0), (getL r54.2.1 2), (getL r54.2.1 1)] r54.2.2).bind fun r71 =>
exV r71.1 [(6, retV [] r71.2.2)]
 (none))]
 (none))
 ((abin Try.prog .add 3 (.tmp 129) (.tmp 130) x1 x3).bind fun v72 =>
(convInt .u64 v72).bind fun v73 =>
(abin Try.prog .shr 109 (.tmp 132) (.const (.int .u64 1)) v73 (.int .u64 1)).bind fun v74 =>
(convInt .i64 v74).bind fun v75 =>
(abin Try.prog .add 3 (.tmp 135) (.tmp 136) v75 x2).bind fun v76 =>
(abin Try.prog .gtr 3 (.tmp 138) (.tmp 139) x2 v75).bind fun v78 =>
condV v78
 ((abin Try.prog .sub 3 (.tmp 141) (.tmp 142) v76 x3).bind fun v79 =>
joinK (slices_symMergeCmpFunc_api_Pair.j2 R) [x0, x1, x2, x3, x4, v75, v76, v79, v75] s)
 (joinK (slices_symMergeCmpFunc_api_Pair.j2 R) [x0, x1, x2, x3, x4, v75, v76, x1, x2] s)))

theorem slices_symMergeCmpFunc_api_Pair_of {lib : Lib} (hl : lib 79 = none) {x0 x1 x2 x3 x4 : Value} {s : St} {r : Value × St} (h : slices_symMergeCmpFunc_api_Pair (run Try.prog lib hints) x0 x1 x2 x3 x4 s = some r) : run Try.prog lib hints 79 [x0, x1, x2, x3, x4] s = some r :=
  run_of hl Try.func79 (Eq.trans (by kernel_rfl) h)

theorem slices_symMergeCmpFunc_api_Pair_ok : funcOk Try.prog 79 = true := by kernel_rfl
theorem slices_symMergeCmpFunc_api_Pair_call {R : Caller} {xs : List Value} {s : St} : callV Try.prog R (.func (.func 79) #[] #[]) xs s = R 79 xs s := callV_eq slices_symMergeCmpFunc_api_Pair_ok

/-! ### sumpter/op.formOf: 80 -/

noncomputable def op_formOf (R : Caller) (x0 : Value) (s : St) : Option (Value × St) :=
(abin Try.prog .lss 3 (.tmp 4) (.const (.int .i64 1)) x0 (.int .i64 1)).bind fun v0 =>
(guardV v0 false ((abin Try.prog .gtr 3 (.tmp 7) (.const (.int .i64 5)) x0 (.int .i64 5)).bind fun v1 =>
some ([v1], s)) (some ([undef], s))).bind fun q2 =>
(apick v0 (.bool true) (getL q2.1 0)).bind fun v3 =>
condV v3
 (retV [(.agg #[(.bool false), (.bool false), (.bool false), (.bool false), (.bool false), .nilFunc]), (.bool false)] q2.2)
 ((callV Try.prog R (.func (.func 60) #[] #[]) [] q2.2).bind fun r4 =>
(aindexAgg true 6 6 r4.1 x0).bind fun v5 =>
(lstore 6 lptr v5 (.agg #[(.bool false), (.bool false), (.bool false), (.bool false), (.bool false), .nilFunc])).bind fun v6 =>
(lload true 6 lptr v6).bind fun v7 =>
retV [v7, (.bool true)] r4.2)

theorem op_formOf_of {lib : Lib} (hl : lib 80 = none) {x0 : Value} {s : St} {r : Value × St} (h : op_formOf (run Try.prog lib hints) x0 s = some r) : run Try.prog lib hints 80 [x0] s = some r :=
  run_of hl Try.func80 (Eq.trans (by kernel_rfl) h)

theorem op_formOf_ok : funcOk Try.prog 80 = true := by kernel_rfl
theorem op_formOf_call {R : Caller} {xs : List Value} {s : St} : callV Try.prog R (.func (.func 80) #[] #[]) xs s = R 80 xs s := callV_eq op_formOf_ok

/-! ### sumpter/op.of: 81 -/

noncomputable def op_of (R : Caller) (x0 : Value) (s : St) : Option (Value × St) :=
(lbox x0).bind fun v0 =>
(lload false 1 (.pointer (some ⟨0, 3, none⟩)) v0).bind fun v1 =>
(lload false 1 (.pointer (some ⟨0, 4, none⟩)) v0).bind fun v2 =>
(abuild Try.prog 33 [(0, v1), (1, v2)]).bind fun v3 =>
(lstore 2 lptr v3 (.agg #[(.string ⟨#[]⟩), (.string ⟨#[]⟩)])).bind fun v4 =>
(lload true 2 lptr v4).bind fun v5 =>
retV [v5] s

theorem op_of_of {lib : Lib} (hl : lib 81 = none) {x0 : Value} {s : St} {r : Value × St} (h : op_of (run Try.prog lib hints) x0 s = some r) : run Try.prog lib hints 81 [x0] s = some r :=
  run_of hl Try.func81 (Eq.trans (by kernel_rfl) h)

theorem op_of_ok : funcOk Try.prog 81 = true := by kernel_rfl
theorem op_of_call {R : Caller} {xs : List Value} {s : St} : callV Try.prog R (.func (.func 81) #[] #[]) xs s = R 81 xs s := callV_eq op_of_ok

/-! ### sumpter/op.at: 82 -/

noncomputable def op_at (R : Caller) (x0 x1 : Value) (s : St) : Option (Value × St) :=
(callV Try.prog R (.func (.func 88) #[] #[]) [x0, x1, (.func (.func 89) #[] #[])] s).bind fun r0 =>
(aextract 0 r0.1).bind fun v1 =>
(aextract 1 r0.1).bind fun v2 =>
retV [v1, v2] r0.2

theorem op_at_of {lib : Lib} (hl : lib 82 = none) {x0 x1 : Value} {s : St} {r : Value × St} (h : op_at (run Try.prog lib hints) x0 x1 s = some r) : run Try.prog lib hints 82 [x0, x1] s = some r :=
  run_of hl Try.func82 (Eq.trans (by kernel_rfl) h)

theorem op_at_ok : funcOk Try.prog 82 = true := by kernel_rfl
theorem op_at_call {R : Caller} {xs : List Value} {s : St} : callV Try.prog R (.func (.func 82) #[] #[]) xs s = R 82 xs s := callV_eq op_at_ok

/-! ### slices.Insert[[]sumpter/api.Pair,sumpter/api.Pair]: 83 -/

noncomputable def slices_Insert_api_Pair_api_Pair (R : Caller) (x0 x1 x2 : Value) (s : St) : Option (Value × St) :=
(asliceV 2 x0 (some x1) none none).bind fun v0 =>
(alenV (.slice 62) x2 s).bind fun v1 =>
(abin Try.prog .eql 3 (.tmp 15) (.const (.int .i64 0)) v1 (.int .i64 0)).bind fun v2 =>
condV v2
 (retV [x0] s)
 ((alenV (.slice 62) x0 s).bind fun v3 =>
(abin Try.prog .eql 3 (.tmp 20) (.tmp 21) x1 v3).bind fun v4 =>
condV v4
 ((aappend 2 32 x0 x2 s).bind fun r5 =>
retV [r5.1] r5.2)
 ((abin Try.prog .add 3 (.tmp 26) (.tmp 27) v3 v1).bind fun v6 =>
(acap x0).bind fun v7 =>
(abin Try.prog .gtr 3 (.tmp 28) (.tmp 30) v6 v7).bind fun v8 =>
condV v8
 ((asliceV 2 x0 none (some x1) none).bind fun v9 =>
(abin Try.prog .add 3 (.tmp 35) (.tmp 36) v3 v1).bind fun v10 =>
(abin Try.prog .sub 3 (.tmp 37) (.tmp 38) v10 x1).bind fun v11 =>
(aappendZ 2 32 [(.string ⟨#[]⟩), (.string ⟨#[]⟩)] v9 v11 s).bind fun r12 =>
(asliceV 2 r12.1 (some x1) none none).bind fun v13 =>
(acopy 2 v13 x2 r12.2).bind fun r14 =>
(abin Try.prog .add 3 (.tmp 47) (.tmp 48) x1 v1).bind fun v15 =>
(asliceV 2 r12.1 (some v15) none none).bind fun v16 =>
(asliceV 2 x0 (some x1) none none).bind fun v17 =>
(((acopy 2 v16 v17 r14.2).bind fun r19 =>
some (r19.1, r19.2)).bind (ownR r14.2)).bind fun r18 =>
retV [r12.1] r18.2)
 ((abin Try.prog .add 3 (.tmp 57) (.tmp 58) v3 v1).bind fun v20 =>
(asliceV 2 x0 none (some v20) none).bind fun v21 =>
(abin Try.prog .add 3 (.tmp 63) (.tmp 64) x1 v1).bind fun v22 =>
(asliceV 2 v21 (some v22) none none).bind fun v23 =>
(callV Try.prog R (.func (.func 90) #[] #[]) [x2, v23] s).bind fun r24 =>
(aun .not r24.1).bind fun v25 =>
condV v25
 ((abin Try.prog .add 3 (.tmp 70) (.tmp 71) x1 v1).bind fun v26 =>
(asliceV 2 v21 (some v26) none none).bind fun v27 =>
(asliceV 2 v21 (some x1) none none).bind fun v28 =>
(((acopy 2 v27 v28 r24.2).bind fun r32 =>
some (r32.1, r32.2)).bind (ownR r24.2)).bind fun r29 =>
(asliceV 2 v21 (some x1) none none).bind fun v30 =>
(acopy 2 v30 x2 r29.2).bind fun r31 =>
retV [v21] r31.2)
 ((asliceV 2 v21 (some v3) none none).bind fun v33 =>
(acopy 2 v33 x2 r24.2).bind fun r34 =>
(asliceV 2 v21 (some x1) none none).bind fun v35 =>
(callV Try.prog R (.func (.func 91) #[] #[]) [v35, v1] r34.2).bind fun r36 =>
retV [v21] r36.2))))

theorem slices_Insert_api_Pair_api_Pair_of {lib : Lib} (hl : lib 83 = none) {x0 x1 x2 : Value} {s : St} {r : Value × St} (h : slices_Insert_api_Pair_api_Pair (run Try.prog lib hints) x0 x1 x2 s = some r) : run Try.prog lib hints 83 [x0, x1, x2] s = some r :=
  run_of hl Try.func83 (Eq.trans (by kernel_rfl) h)

theorem slices_Insert_api_Pair_api_Pair_ok : funcOk Try.prog 83 = true := by kernel_rfl
theorem slices_Insert_api_Pair_api_Pair_call {R : Caller} {xs : List Value} {s : St} : callV Try.prog R (.func (.func 83) #[] #[]) xs s = R 83 xs s := callV_eq slices_Insert_api_Pair_api_Pair_ok

/-! ### slices.Delete[[]sumpter/api.Pair,sumpter/api.Pair]: 84 -/

noncomputable def slices_Delete_api_Pair_api_Pair (R : Caller) (x0 x1 x2 : Value) (s : St) : Option (Value × St) :=
(alenV (.slice 62) x0 s).bind fun v0 =>
(asliceV 2 x0 (some x1) (some x2) (some v0)).bind fun v1 =>
(abin Try.prog .eql 3 (.tmp 14) (.tmp 15) x1 x2).bind fun v2 =>
condV v2
 (retV [x0] s)
 ((alenV (.slice 62) x0 s).bind fun v3 =>
(asliceV 2 x0 none (some x1) none).bind fun v4 =>
(asliceV 2 x0 (some x2) none none).bind fun v5 =>
(((aappend 2 32 v4 v5 s).bind fun r10 =>
some (r10.1, r10.2)).bind (ownR s)).bind fun r6 =>
(alenV (.slice 62) r6.1 r6.2).bind fun v7 =>
(asliceV 2 r6.1 (some v7) (some v3) none).bind fun v8 =>
(aclear 2 [(.string ⟨#[]⟩), (.string ⟨#[]⟩)] v8 r6.2).bind fun s9 =>
retV [r6.1] s9)

theorem slices_Delete_api_Pair_api_Pair_of {lib : Lib} (hl : lib 84 = none) {x0 x1 x2 : Value} {s : St} {r : Value × St} (h : slices_Delete_api_Pair_api_Pair (run Try.prog lib hints) x0 x1 x2 s = some r) : run Try.prog lib hints 84 [x0, x1, x2] s = some r :=
  run_of hl Try.func84 (Eq.trans (by kernel_rfl) h)

theorem slices_Delete_api_Pair_api_Pair_ok : funcOk Try.prog 84 = true := by kernel_rfl
theorem slices_Delete_api_Pair_api_Pair_call {R : Caller} {xs : List Value} {s : St} : callV Try.prog R (.func (.func 84) #[] #[]) xs s = R 84 xs s := callV_eq slices_Delete_api_Pair_api_Pair_ok

/-! ### sumpter/op.ends: 85 -/

noncomputable def op_ends.j0 (R : Caller) (T : List Value) (s : St) : Option (Value × St) :=
retV [(getL T 0), (getL T 1)] s

noncomputable def op_ends (R : Caller) (x0 x1 : Value) (s : St) : Option (Value × St) :=
(lbox x1).bind fun v0 =>
(lload false 1 lptr v0).bind fun v1 =>
(callV Try.prog R (.func (.func 82) #[] #[]) [x0, v1] s).bind fun r2 =>
(aextract 0 r2.1).bind fun v3 =>
(aextract 1 r2.1).bind fun v4 =>
(alenV (.slice 62) x0 r2.2).bind fun v5 =>
(lload false 1 (.pointer (some ⟨0, 1, none⟩)) v0).bind fun v7 =>
(abin Try.prog .neq 9 (.tmp 19) (.const (.string ⟨#[]⟩)) v7 (.string ⟨#[]⟩)).bind fun v8 =>
condV v8
 ((lload false 1 (.pointer (some ⟨0, 1, none⟩)) v0).bind fun v9 =>
(callV Try.prog R (.func (.func 82) #[] #[]) [x0, v9] r2.2).bind fun r10 =>
(aextract 0 r10.1).bind fun v11 =>
(aextract 1 r10.1).bind fun v12 =>
joinK (op_ends.j0 R) [v3, v11] r10.2)
 (joinK (op_ends.j0 R) [v3, v5] r2.2)

theorem op_ends_of {lib : Lib} (hl : lib 85 = none) {x0 x1 : Value} {s : St} {r : Value × St} (h : op_ends (run Try.prog lib hints) x0 x1 s = some r) : run Try.prog lib hints 85 [x0, x1] s = some r :=
  run_of hl Try.func85 (Eq.trans (by kernel_rfl) h)

theorem op_ends_ok : funcOk Try.prog 85 = true := by kernel_rfl
theorem op_ends_call {R : Caller} {xs : List Value} {s : St} : callV Try.prog R (.func (.func 85) #[] #[]) xs s = R 85 xs s := callV_eq op_ends_ok

/-! ### slices.Reverse[[]sumpter/api.Owner,sumpter/api.Owner]: 86 -/

noncomputable def slices_Reverse_api_Owner_api_Owner.b0 (R : Caller) (T : List Value) (s : St) : Res :=
(abin Try.prog .lss 3 (.tmp 7) (.tmp 8) (getL T 1) (getL T 2)).bind fun v2 =>
condV v2
 ((aindexS 2 (getL T 0) (getL T 2)).bind fun v3 =>
((aload true 2 v3 (frzS s)).bind fun v16 =>
some (v16, (frzS s))).bind fun r4 =>
(aindexS 2 (getL T 0) (getL T 1)).bind fun v5 =>
((aload true 2 v5 (frzS s)).bind fun v15 =>
some (v15, (frzS s))).bind fun r6 =>
(aindexS 2 (getL T 0) (getL T 1)).bind fun v7 =>
(((astore 2 v7 r4.1 s).bind fun s14 =>
some (undef, s14)).bind (ownR s)).bind fun r8 =>
(aindexS 2 (getL T 0) (getL T 2)).bind fun v9 =>
(((astore 2 v9 r6.1 r8.2).bind fun s13 =>
some (undef, s13)).bind (ownR r8.2)).bind fun r10 =>
(abin Try.prog .add 3 (.tmp 10) (.const (.int .i64 1)) (getL T 1) (.int .i64 1)).bind fun v11 =>
(abin Try.prog .sub 3 (.tmp 12) (.const (.int .i64 1)) (getL T 2) (.int .i64 1)).bind fun v12 =>
some (.normal, [(getL T 0), v11, v12], r10.2))
 (some (.exit 0, [], s))

noncomputable def slices_Reverse_api_Owner_api_Owner (R : Caller) (x0 : Value) (s : St) : Option (Value × St) :=
(alenV (.slice 30) x0 s).bind fun v0 =>
(abin Try.prog .sub 3 (.tmp 5) (.const (.int .i64 1)) v0 (.int .i64 1)).bind fun v1 =>
(loopL (slices_Reverse_api_Owner_api_Owner.b0 R) [x0, (.int .i64 0), v1] s).bind fun r17 =>
exV r17.1 [(0, retV [] r17.2.2)]
 (none)

theorem slices_Reverse_api_Owner_api_Owner_of {lib : Lib} (hl : lib 86 = none) {x0 : Value} {s : St} {r : Value × St} (h : slices_Reverse_api_Owner_api_Owner (run Try.prog lib hints) x0 s = some r) : run Try.prog lib hints 86 [x0] s = some r :=
  run_of hl Try.func86 (Eq.trans (by kernel_rfl) h)

theorem slices_Reverse_api_Owner_api_Owner_ok : funcOk Try.prog 86 = true := by kernel_rfl
theorem slices_Reverse_api_Owner_api_Owner_call {R : Caller} {xs : List Value} {s : St} : callV Try.prog R (.func (.func 86) #[] #[]) xs s = R 86 xs s := callV_eq slices_Reverse_api_Owner_api_Owner_ok

/-! ### slices.rotateCmpFunc[sumpter/api.Pair]: 87 -/

noncomputable def slices_rotateCmpFunc_api_Pair.b0 (R : Caller) (T : List Value) (s : St) : Res :=
(abin Try.prog .neq 3 (.tmp 18) (.tmp 19) (getL T 3) (getL T 4)).bind fun v2 =>
condV v2
 ((abin Try.prog .gtr 3 (.tmp 21) (.tmp 22) (getL T 3) (getL T 4)).bind fun v3 =>
condV v3
 ((abin Try.prog .sub 3 (.tmp 25) (.tmp 26) (getL T 1) (getL T 3)).bind fun v4 =>
(callV Try.prog R (.func (.func 92) #[] #[]) [(getL T 0), v4, (getL T 1), (getL T 4), (getL T 2)] s).bind fun r5 =>
(abin Try.prog .sub 3 (.tmp 32) (.tmp 33) (getL T 3) (getL T 4)).bind fun v6 =>
some (.normal, [(getL T 0), (getL T 1), (getL T 2), v6, (getL T 4)], r5.2))
 ((abin Try.prog .sub 3 (.tmp 36) (.tmp 37) (getL T 1) (getL T 3)).bind fun v7 =>
(abin Try.prog .add 3 (.tmp 39) (.tmp 40) (getL T 1) (getL T 4)).bind fun v8 =>
(abin Try.prog .sub 3 (.tmp 41) (.tmp 42) v8 (getL T 3)).bind fun v9 =>
(callV Try.prog R (.func (.func 92) #[] #[]) [(getL T 0), v7, v9, (getL T 3), (getL T 2)] s).bind fun r10 =>
(abin Try.prog .sub 3 (.tmp 47) (.tmp 48) (getL T 4) (getL T 3)).bind fun v11 =>
some (.normal, [(getL T 0), (getL T 1), (getL T 2), (getL T 3), v11], r10.2)))
 (some (.exit 0, [(getL T 0), (getL T 1), (getL T 2), (getL T 3)], s))

noncomputable def slices_rotateCmpFunc_api_Pair (R : Caller) (x0 x1 x2 x3 x4 : Value) (s : St) : Option (Value × St) :=
(abin Try.prog .sub 3 (.tmp 12) (.tmp 13) x2 x1).bind fun v0 =>
(abin Try.prog .sub 3 (.tmp 15) (.tmp 16) x3 x2).bind fun v1 =>
(loopL (slices_rotateCmpFunc_api_Pair.b0 R) [x0, x2, x4, v0, v1] s).bind fun r12 =>
exV r12.1 [(0, (abin Try.prog .sub 3 (.tmp 51) (.tmp 52) (getL r12.2.1 1) (getL r12.2.1 3)).bind fun v13 =>
(callV Try.prog R (.func (.func 92) #[] #[]) [(getL r12.2.1 0), v13, (getL r12.2.1 1), (getL r12.2.1 3), (getL r12.2.1 2)] r12.2.2).bind fun r14 =>
retV [] r14.2)]
 (none)

theorem slices_rotateCmpFunc_api_Pair_of {lib : Lib} (hl : lib 87 = none) {x0 x1 x2 x3 x4 : Value} {s : St} {r : Value × St} (h : slices_rotateCmpFunc_api_Pair (run Try.prog lib hints) x0 x1 x2 x3 x4 s = some r) : run Try.prog lib hints 87 [x0, x1, x2, x3, x4] s = some r :=
  run_of hl Try.func87 (Eq.trans (by kernel_rfl) h)

theorem slices_rotateCmpFunc_api_Pair_ok : funcOk Try.prog 87 = true := by kernel_rfl
theorem slices_rotateCmpFunc_api_Pair_call {R : Caller} {xs : List Value} {s : St} : callV Try.prog R (.func (.func 87) #[] #[]) xs s = R 87 xs s := callV_eq slices_rotateCmpFunc_api_Pair_ok

/-! ### slices.BinarySearchFunc[[]sumpter/api.Pair,sumpter/api.Pair,string]: 88 -/

noncomputable def slices_BinarySearchFunc_api_Pair_api_Pair_string.b0 (R : Caller) (T : List Value) (s : St) : Res :=
(abin Try.prog .lss 3 (.tmp 15) (.tmp 16) (getL T 4) (getL T 5)).bind fun v1 =>
condV v1
 ((abin Try.prog .add 3 (.tmp 18) (.tmp 19) (getL T 4) (getL T 5)).bind fun v2 =>
(convInt .u64 v2).bind fun v3 =>
(abin Try.prog .shr 109 (.tmp 21) (.const (.int .u64 1)) v3 (.int .u64 1)).bind fun v4 =>
(convInt .i64 v4).bind fun v5 =>
(aindexS 2 (getL T 0) v5).bind fun v6 =>
(aload true 2 v6 s).bind fun v7 =>
(callV Try.prog R (getL T 2) [v7, (getL T 1)] s).bind fun r8 =>
(abin Try.prog .lss 3 (.tmp 30) (.const (.int .i64 0)) r8.1 (.int .i64 0)).bind fun v9 =>
condV v9
 ((abin Try.prog .add 3 (.tmp 32) (.const (.int .i64 1)) v5 (.int .i64 1)).bind fun v10 =>
some (.normal, [(getL T 0), (getL T 1), (getL T 2), (getL T 3), v10, (getL T 5)], r8.2))
 (some (.normal, [(getL T 0), (getL T 1), (getL T 2), (getL T 3), (getL T 4), v5], r8.2)))
 (some (.exit 0, [(getL T 0), (getL T 1), (getL T 2), (getL T 3), (getL T 4)], s))

noncomputable def slices_BinarySearchFunc_api_Pair_api_Pair_string (R : Caller) (x0 x1 x2 : Value) (s : St) : Option (Value × St) :=
(alenV (.slice 62) x0 s).bind fun v0 =>
(loopL (slices_BinarySearchFunc_api_Pair_api_Pair_string.b0 R) [x0, x1, x2, v0, (.int .i64 0), v0] s).bind fun r11 =>
exV r11.1 [(0, (abin Try.prog .lss 3 (.tmp 36) (.tmp 37) (getL r11.2.1 4) (getL r11.2.1 3)).bind fun v12 =>
(guardV v12 true ((aindexS 2 (getL r11.2.1 0) (getL r11.2.1 4)).bind fun v13 =>
(aload true 2 v13 r11.2.2).bind fun v14 =>
(callV Try.prog R (getL r11.2.1 2) [v14, (getL r11.2.1 1)] r11.2.2).bind fun r15 =>
(abin Try.prog .eql 3 (.tmp 46) (.const (.int .i64 0)) r15.1 (.int .i64 0)).bind fun v16 =>
some ([v16], r15.2)) (some ([undef], r11.2.2))).bind fun q17 =>
(apick v12 (getL q17.1 0) (.bool false)).bind fun v18 =>
retV [(getL r11.2.1 4), v18] q17.2)]
 (none)

theorem slices_BinarySearchFunc_api_Pair_api_Pair_string_of {lib : Lib} (hl : lib 88 = none) {x0 x1 x2 : Value} {s : St} {r : Value × St} (h : slices_BinarySearchFunc_api_Pair_api_Pair_string (run Try.prog lib hints) x0 x1 x2 s = some r) : run Try.prog lib hints 88 [x0, x1, x2] s = some r :=
  run_of hl Try.func88 (Eq.trans (by kernel_rfl) h)

theorem slices_BinarySearchFunc_api_Pair_api_Pair_string_ok : funcOk Try.prog 88 = true := by kernel_rfl
theorem slices_BinarySearchFunc_api_Pair_api_Pair_string_call {R : Caller} {xs : List Value} {s : St} : callV Try.prog R (.func (.func 88) #[] #[]) xs s = R 88 xs s := callV_eq slices_BinarySearchFunc_api_Pair_api_Pair_string_ok

/-! ### sumpter/op.at$1: 89 -/

noncomputable def op_at_1 (R : Caller) (x0 x1 : Value) (s : St) : Option (Value × St) :=
(lbox x0).bind fun v0 =>
(lload false 1 lptr v0).bind fun v1 =>
(callV Try.prog R (.func (.func 37) #[] #[]) [v1, x1] s).bind fun r2 =>
retV [r2.1] r2.2

theorem op_at_1_of {lib : Lib} (hl : lib 89 = none) {x0 x1 : Value} {s : St} {r : Value × St} (h : op_at_1 (run Try.prog lib hints) x0 x1 s = some r) : run Try.prog lib hints 89 [x0, x1] s = some r :=
  run_of hl Try.func89 (Eq.trans (by kernel_rfl) h)

theorem op_at_1_ok : funcOk Try.prog 89 = true := by kernel_rfl
theorem op_at_1_call {R : Caller} {xs : List Value} {s : St} : callV Try.prog R (.func (.func 89) #[] #[]) xs s = R 89 xs s := callV_eq op_at_1_ok

/-! ### slices.rotateRight[sumpter/api.Pair]: 91 -/

noncomputable def slices_rotateRight_api_Pair (R : Caller) (x0 x1 : Value) (s : St) : Option (Value × St) :=
(alenV (.slice 62) x0 s).bind fun v0 =>
(abin Try.prog .sub 3 (.tmp 6) (.tmp 7) v0 x1).bind fun v1 =>
(callV Try.prog R (.func (.func 93) #[] #[]) [x0, v1] s).bind fun r2 =>
retV [] r2.2

theorem slices_rotateRight_api_Pair_of {lib : Lib} (hl : lib 91 = none) {x0 x1 : Value} {s : St} {r : Value × St} (h : slices_rotateRight_api_Pair (run Try.prog lib hints) x0 x1 s = some r) : run Try.prog lib hints 91 [x0, x1] s = some r :=
  run_of hl Try.func91 (Eq.trans (by kernel_rfl) h)

theorem slices_rotateRight_api_Pair_ok : funcOk Try.prog 91 = true := by kernel_rfl
theorem slices_rotateRight_api_Pair_call {R : Caller} {xs : List Value} {s : St} : callV Try.prog R (.func (.func 91) #[] #[]) xs s = R 91 xs s := callV_eq slices_rotateRight_api_Pair_ok

/-! ### slices.swapRangeCmpFunc[sumpter/api.Pair]: 92 -/

noncomputable def slices_swapRangeCmpFunc_api_Pair.b0 (R : Caller) (T : List Value) (s : St) : Res :=
(abin Try.prog .lss 3 (.tmp 11) (.tmp 12) (getL T 4) (getL T 3)).bind fun v0 =>
condV v0
 ((abin Try.prog .add 3 (.tmp 17) (.tmp 18) (getL T 1) (getL T 4)).bind fun v1 =>
(abin Try.prog .add 3 (.tmp 21) (.tmp 22) (getL T 2) (getL T 4)).bind fun v2 =>
(abin Try.prog .add 3 (.tmp 25) (.tmp 26) (getL T 2) (getL T 4)).bind fun v3 =>
(aindexS 2 (getL T 0) v3).bind fun v4 =>
((aload true 2 v4 (frzS s)).bind fun v17 =>
some (v17, (frzS s))).bind fun r5 =>
(abin Try.prog .add 3 (.tmp 31) (.tmp 32) (getL T 1) (getL T 4)).bind fun v6 =>
(aindexS 2 (getL T 0) v6).bind fun v7 =>
((aload true 2 v7 (frzS s)).bind fun v16 =>
some (v16, (frzS s))).bind fun r8 =>
(aindexS 2 (getL T 0) v1).bind fun v9 =>
(((astore 2 v9 r5.1 s).bind fun s15 =>
some (undef, s15)).bind (ownR s)).bind fun r10 =>
(aindexS 2 (getL T 0) v2).bind fun v11 =>
(((astore 2 v11 r8.1 r10.2).bind fun s14 =>
some (undef, s14)).bind (ownR r10.2)).bind fun r12 =>
(abin Try.prog .add 3 (.tmp 14) (.const (.int .i64 1)) (getL T 4) (.int .i64 1)).bind fun v13 =>
some (.normal, [(getL T 0), (getL T 1), (getL T 2), (getL T 3), v13], r12.2))
 (some (.exit 0, [], s))

noncomputable def slices_swapRangeCmpFunc_api_Pair (R : Caller) (x0 x1 x2 x3 x4 : Value) (s : St) : Option (Value × St) :=
(loopL (slices_swapRangeCmpFunc_api_Pair.b0 R) [x0, x1, x2, x3, (.int .i64 0)] s).bind fun r18 =>
exV r18.1 [(0, retV [] r18.2.2)]
 (none)

theorem slices_swapRangeCmpFunc_api_Pair_of {lib : Lib} (hl : lib 92 = none) {x0 x1 x2 x3 x4 : Value} {s : St} {r : Value × St} (h : slices_swapRangeCmpFunc_api_Pair (run Try.prog lib hints) x0 x1 x2 x3 x4 s = some r) : run Try.prog lib hints 92 [x0, x1, x2, x3, x4] s = some r :=
  run_of hl Try.func92 (Eq.trans (by kernel_rfl) h)

theorem slices_swapRangeCmpFunc_api_Pair_ok : funcOk Try.prog 92 = true := by kernel_rfl
theorem slices_swapRangeCmpFunc_api_Pair_call {R : Caller} {xs : List Value} {s : St} : callV Try.prog R (.func (.func 92) #[] #[]) xs s = R 92 xs s := callV_eq slices_swapRangeCmpFunc_api_Pair_ok

/-! ### slices.rotateLeft[sumpter/api.Pair]: 93 -/

noncomputable def slices_rotateLeft_api_Pair (R : Caller) (x0 x1 : Value) (s : St) : Option (Value × St) :=
(asliceV 2 x0 none (some x1) none).bind fun v0 =>
(callV Try.prog R (.func (.func 94) #[] #[]) [v0] s).bind fun r1 =>
(asliceV 2 x0 (some x1) none none).bind fun v2 =>
(callV Try.prog R (.func (.func 94) #[] #[]) [v2] r1.2).bind fun r3 =>
(callV Try.prog R (.func (.func 94) #[] #[]) [x0] r3.2).bind fun r4 =>
retV [] r4.2

theorem slices_rotateLeft_api_Pair_of {lib : Lib} (hl : lib 93 = none) {x0 x1 : Value} {s : St} {r : Value × St} (h : slices_rotateLeft_api_Pair (run Try.prog lib hints) x0 x1 s = some r) : run Try.prog lib hints 93 [x0, x1] s = some r :=
  run_of hl Try.func93 (Eq.trans (by kernel_rfl) h)

theorem slices_rotateLeft_api_Pair_ok : funcOk Try.prog 93 = true := by kernel_rfl
theorem slices_rotateLeft_api_Pair_call {R : Caller} {xs : List Value} {s : St} : callV Try.prog R (.func (.func 93) #[] #[]) xs s = R 93 xs s := callV_eq slices_rotateLeft_api_Pair_ok

/-! ### slices.Reverse[[]sumpter/api.Pair,sumpter/api.Pair]: 94 -/

noncomputable def slices_Reverse_api_Pair_api_Pair.b0 (R : Caller) (T : List Value) (s : St) : Res :=
(abin Try.prog .lss 3 (.tmp 7) (.tmp 8) (getL T 1) (getL T 2)).bind fun v2 =>
condV v2
 ((aindexS 2 (getL T 0) (getL T 2)).bind fun v3 =>
((aload true 2 v3 (frzS s)).bind fun v16 =>
some (v16, (frzS s))).bind fun r4 =>
(aindexS 2 (getL T 0) (getL T 1)).bind fun v5 =>
((aload true 2 v5 (frzS s)).bind fun v15 =>
some (v15, (frzS s))).bind fun r6 =>
(aindexS 2 (getL T 0) (getL T 1)).bind fun v7 =>
(((astore 2 v7 r4.1 s).bind fun s14 =>
some (undef, s14)).bind (ownR s)).bind fun r8 =>
(aindexS 2 (getL T 0) (getL T 2)).bind fun v9 =>
(((astore 2 v9 r6.1 r8.2).bind fun s13 =>
some (undef, s13)).bind (ownR r8.2)).bind fun r10 =>
(abin Try.prog .add 3 (.tmp 10) (.const (.int .i64 1)) (getL T 1) (.int .i64 1)).bind fun v11 =>
(abin Try.prog .sub 3 (.tmp 12) (.const (.int .i64 1)) (getL T 2) (.int .i64 1)).bind fun v12 =>
some (.normal, [(getL T 0), v11, v12], r10.2))
 (some (.exit 0, [], s))

noncomputable def slices_Reverse_api_Pair_api_Pair (R : Caller) (x0 : Value) (s : St) : Option (Value × St) :=
(alenV (.slice 62) x0 s).bind fun v0 =>
(abin Try.prog .sub 3 (.tmp 5) (.const (.int .i64 1)) v0 (.int .i64 1)).bind fun v1 =>
(loopL (slices_Reverse_api_Pair_api_Pair.b0 R) [x0, (.int .i64 0), v1] s).bind fun r17 =>
exV r17.1 [(0, retV [] r17.2.2)]
 (none)

theorem slices_Reverse_api_Pair_api_Pair_of {lib : Lib} (hl : lib 94 = none) {x0 : Value} {s : St} {r : Value × St} (h : slices_Reverse_api_Pair_api_Pair (run Try.prog lib hints) x0 s = some r) : run Try.prog lib hints 94 [x0] s = some r :=
  run_of hl Try.func94 (Eq.trans (by kernel_rfl) h)

theorem slices_Reverse_api_Pair_api_Pair_ok : funcOk Try.prog 94 = true := by kernel_rfl
theorem slices_Reverse_api_Pair_api_Pair_call {R : Caller} {xs : List Value} {s : St} : callV Try.prog R (.func (.func 94) #[] #[]) xs s = R 94 xs s := callV_eq slices_Reverse_api_Pair_api_Pair_ok


end Go.Proofs.Ytmnmpackcjakdaa.Ab
