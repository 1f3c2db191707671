/- The program's functions, as the abstract machine runs them: printed. -/
import Derived.Test.YthnjkakmkmoceaaLib0
import Derived.Test.YthnjkakmkmoceaaBRange
namespace Go.Proofs.Ythnjkakmkmoceaa.Ab
open Go
set_option maxRecDepth 100000
set_option linter.unusedVariables false

def hints : Hints := fun f => hintL f [(2, []), (3, []), (4, []), (5, []), (6, [(11, 103)]), (7, []), (9, [(8, 31), (15, 31), (19, 31), (20, 31), (24, 31), (25, 31)]), (10, [(4, 37), (13, 37), (19, 37), (32, 37)]), (11, [(4, 37), (13, 37), (19, 37), (32, 37)]), (12, [(12, 115), (15, 116), (16, 117), (67, 115), (74, 116), (75, 116), (79, 116), (80, 116), (89, 116), (96, 117), (98, 117), (100, 116), (101, 116), (102, 116), (103, 116)]), (13, []), (14, [(4, 36), (9, 37), (17, 37)]), (15, [(4, 25), (5, 26), (14, 26), (23, 26)]), (16, []), (17, []), (18, [(5, 30), (13, 30), (18, 30), (23, 30), (27, 30)]), (19, [(7, 21), (14, 21), (18, 21)]), (20, []), (21, []), (23, []), (24, []), (25, [(2, 20), (5, 20), (10, 20)]), (26, [(2, 29), (5, 29), (8, 29), (10, 29), (15, 29), (19, 29), (24, 29)]), (27, [(1, 83), (3, 84), (6, 83), (14, 84), (18, 83), (22, 84), (26, 83), (30, 84), (39, 84), (43, 83), (48, 84), (51, 83), (57, 83), (62, 84), (71, 84), (74, 83), (78, 83)]), (28, [(1, 13), (3, 14), (6, 13), (11, 14)]), (29, [(1, 107), (5, 107), (9, 107), (14, 107), (18, 107), (22, 107), (35, 107), (39, 107), (48, 107), (54, 107), (58, 107), (64, 107), (68, 107), (75, 107), (80, 107), (86, 107), (88, 107), (94, 107), (98, 107), (102, 107)]), (30, [(1, 16), (3, 16), (7, 16), (12, 16)]), (31, []), (32, [(2, 30), (14, 30), (20, 30), (25, 30)]), (33, [(2, 33), (3, 34), (4, 35), (6, 36), (7, 33), (9, 34), (12, 33), (14, 34)]), (34, [(1, 8), (2, 9), (3, 8), (5, 8)]), (35, [(11, 49), (12, 50), (33, 49)]), (36, [(5, 19), (13, 19)]), (37, [(2, 30), (15, 30), (20, 30), (25, 30)]), (38, []), (39, []), (40, [(2, 10), (3, 11), (5, 10), (7, 11)]), (41, []), (42, []), (43, [(2, 24), (7, 24), (8, 24), (12, 24), (19, 24)]), (44, [(2, 30), (3, 31), (14, 30), (16, 31), (21, 30), (23, 31), (26, 31)]), (45, []), (46, []), (47, [(2, 14)]), (48, [(1, 8), (2, 9), (3, 8), (5, 8)]), (49, [(1, 28), (8, 28), (13, 28), (18, 28), (22, 28), (24, 28)]), (50, [(1, 25), (3, 25), (8, 25), (14, 25), (18, 25), (20, 25)]), (51, []), (52, [(4, 18)]), (53, []), (54, [(0, 7)]), (55, []), (56, []), (57, []), (58, []), (59, []), (60, [(0, 2)]), (61, [(3, 26), (5, 27), (10, 26)]), (62, [(3, 35), (5, 36), (10, 35), (19, 35), (21, 35), (29, 35)]), (63, [(3, 23), (5, 24), (10, 23)]), (64, [(3, 27), (5, 28), (20, 27)]), (65, [(3, 20), (5, 21)]), (66, []), (67, []), (68, []), (69, []), (70, []), (71, []), (72, []), (73, []), (74, []), (75, []), (76, []), (77, []), (78, []), (79, [(3, 30), (11, 30), (18, 30), (23, 30)]), (80, []), (81, []), (82, []), (83, []), (84, []), (85, []), (86, [(2, 9), (5, 9)]), (87, []), (89, []), (90, []), (91, []), (92, []), (94, [])]

/-! ### gosem.cut.init: 2 -/

noncomputable def gosem_cut_init (R : Caller) (s : St) : Option (Value × St) :=
(callV Try.prog R (.func (.func 1) #[] #[]) [] s).bind fun r0 =>
retV [] r0.2

theorem gosem_cut_init_of {lib : Lib} (hl : lib 2 = none) {s : St} {r : Value × St} (h : gosem_cut_init (run Try.prog lib hints)  s = some r) : run Try.prog lib hints 2 [] s = some r :=
  run_of hl Try.func2 (Eq.trans (by kernel_rfl) h)

theorem gosem_cut_init_ok : funcOk Try.prog 2 = true := by kernel_rfl
theorem gosem_cut_init_call {R : Caller} {xs : List Value} {s : St} : callV Try.prog R (.func (.func 2) #[] #[]) xs s = R 2 xs s := callV_eq gosem_cut_init_ok

/-! ### sumpter/sumpterlaw12.BufferFinds: 3 -/

noncomputable def law12_BufferFinds (R : Caller) (x0 x1 : Value) (s : St) : Option (Value × St) :=
(callV Try.prog R (.func (.func 7) #[] #[]) [] s).bind fun r0 =>
(callV Try.prog R (.func (.func 8) #[] #[]) [x0, x1] r0.2).bind fun r1 =>
(aextract 0 r1.1).bind fun v2 =>
(aextract 1 r1.1).bind fun v3 =>
(aextract 2 r1.1).bind fun v4 =>
(callV Try.prog R (.func (.func 9) #[] #[]) [x0, x1] r1.2).bind fun r5 =>
(aextract 0 r5.1).bind fun v6 =>
(aextract 1 r5.1).bind fun v7 =>
(aextract 2 r5.1).bind fun v8 =>
(guardV r0.1 true ((callV Try.prog R (.func (.func 10) #[] #[]) [x0] r5.2).bind fun r9 =>
(callV Try.prog R (.func (.func 11) #[] #[]) [x0] r9.2).bind fun r10 =>
(abin Try.prog .eql 26 (.tmp 30) (.tmp 32) r9.1 r10.1).bind fun v11 =>
some ([v11], r10.2)) (some ([undef], r5.2))).bind fun q12 =>
(apick r0.1 (getL q12.1 0) (.bool false)).bind fun v13 =>
(guardV v13 true ((abin Try.prog .eql 9 (.tmp 36) (.tmp 37) v2 v6).bind fun v14 =>
some ([v14], q12.2)) (some ([undef], q12.2))).bind fun q15 =>
(apick v13 (getL q15.1 0) (.bool false)).bind fun v16 =>
(guardV v16 true ((abin Try.prog .eql 4 (.tmp 41) (.tmp 42) v3 v7).bind fun v17 =>
some ([v17], q15.2)) (some ([undef], q15.2))).bind fun q18 =>
(apick v16 (getL q18.1 0) (.bool false)).bind fun v19 =>
(guardV v19 true ((abin Try.prog .eql 4 (.tmp 46) (.tmp 47) v4 v8).bind fun v20 =>
some ([v20], q18.2)) (some ([undef], q18.2))).bind fun q21 =>
(apick v19 (getL q21.1 0) (.bool false)).bind fun v22 =>
retV [v22] q21.2

theorem law12_BufferFinds_of {lib : Lib} (hl : lib 3 = none) {x0 x1 : Value} {s : St} {r : Value × St} (h : law12_BufferFinds (run Try.prog lib hints) x0 x1 s = some r) : run Try.prog lib hints 3 [x0, x1] s = some r :=
  run_of hl Try.func3 (Eq.trans (by kernel_rfl) h)

theorem law12_BufferFinds_ok : funcOk Try.prog 3 = true := by kernel_rfl
theorem law12_BufferFinds_call {R : Caller} {xs : List Value} {s : St} : callV Try.prog R (.func (.func 3) #[] #[]) xs s = R 3 xs s := callV_eq law12_BufferFinds_ok

/-! ### sumpter/sumpterlaw12.BufferWhole: 4 -/

noncomputable def law12_BufferWhole.b0 (R : Caller) (T : List Value) (s : St) : Res :=
(abin Try.prog .lss 3 (.tmp 39) (.tmp 38) (getL T 8) (getL T 7)).bind fun v12 =>
condV v12
 ((aindexS 1 (getL T 6) (getL T 8)).bind fun v13 =>
(aload false 1 v13 s).bind fun v14 =>
(callV Try.prog R (.func (.func 15) #[] #[]) [(getL T 1), (getL T 8)] s).bind fun r15 =>
(callV Try.prog R (.func (.func 14) #[] #[]) [(getL T 0), r15.1, (.int .i64 (-1))] r15.2).bind fun r16 =>
(callV Try.prog R (.func (.func 13) #[] #[]) [r16.1, v14] r16.2).bind fun r17 =>
(aextract 0 r17.1).bind fun v18 =>
(aextract 1 r17.1).bind fun v19 =>
(abin Try.prog .neq 26 (.tmp 54) (.const (.int .i64 0)) v19 (.int .i64 0)).bind fun v20 =>
condV v20
 (some (.ret, [(.bool false)], r17.2))
 ((aappend 2 32 (getL T 5) v18 r17.2).bind fun r21 =>
(abin Try.prog .add 3 (.tmp 39) (.const (.int .i64 1)) (getL T 8) (.int .i64 1)).bind fun v22 =>
some (.normal, [(getL T 0), (getL T 1), (getL T 2), (getL T 3), (getL T 4), r21.1, (getL T 6), (getL T 7), v22], r21.2)))
 (some (.exit 0, [(getL T 1), (getL T 2), (getL T 3), (getL T 4), (getL T 5)], s))

noncomputable def law12_BufferWhole (R : Caller) (x0 x1 x2 : Value) (s : St) : Option (Value × St) :=
(callV Try.prog R (.func (.func 7) #[] #[]) [] s).bind fun r0 =>
(callV Try.prog R (.func (.func 12) #[] #[]) [x1, x2] r0.2).bind fun r1 =>
(aextract 0 r1.1).bind fun v2 =>
(aextract 1 r1.1).bind fun v3 =>
(callV Try.prog R (.func (.func 13) #[] #[]) [x0, x1] r1.2).bind fun r4 =>
(aextract 0 r4.1).bind fun v5 =>
(aextract 1 r4.1).bind fun v6 =>
(abin Try.prog .neq 26 (.tmp 30) (.const (.int .i64 0)) v3 (.int .i64 0)).bind fun v7 =>
(guardV v7 false ((abin Try.prog .neq 26 (.tmp 33) (.const (.int .i64 0)) v6 (.int .i64 0)).bind fun v8 =>
some ([v8], r4.2)) (some ([undef], r4.2))).bind fun q9 =>
(apick v7 (.bool true) (getL q9.1 0)).bind fun v10 =>
condV v10
 (retV [r0.1] q9.2)
 ((alenV (.slice 22) v2 q9.2).bind fun v11 =>
(loopL (law12_BufferWhole.b0 R) [x0, x2, r0.1, v2, v5, (.slice none 0 0), v2, v11, (.int .i64 0)] q9.2).bind fun r23 =>
exV r23.1 [(0, (guardV (getL r23.2.1 1) true ((alenV (.slice 22) (getL r23.2.1 2) r23.2.2).bind fun v24 =>
(alenV (.slice 9) (getL r23.2.1 0) r23.2.2).bind fun v25 =>
(abin Try.prog .add 3 (.tmp 65) (.const (.int .i64 1)) v25 (.int .i64 1)).bind fun v26 =>
(abin Try.prog .eql 3 (.tmp 63) (.tmp 66) v24 v26).bind fun v27 =>
some ([v27], r23.2.2)) (some ([undef], r23.2.2))).bind fun q28 =>
(apick (getL r23.2.1 1) (getL q28.1 0) (.bool false)).bind fun v29 =>
(guardV v29 true ((callV Try.prog R (.func (.func 16) #[] #[]) [(getL r23.2.1 4), (getL r23.2.1 3)] q28.2).bind fun r30 =>
some ([r30.1], r30.2)) (some ([undef], q28.2))).bind fun q31 =>
(apick v29 (getL q31.1 0) (.bool false)).bind fun v32 =>
retV [v32] q31.2)]
 (retV [(getL r23.2.1 0)] r23.2.2))

theorem law12_BufferWhole_of {lib : Lib} (hl : lib 4 = none) {x0 x1 x2 : Value} {s : St} {r : Value × St} (h : law12_BufferWhole (run Try.prog lib hints) x0 x1 x2 s = some r) : run Try.prog lib hints 4 [x0, x1, x2] s = some r :=
  run_of hl Try.func4 (Eq.trans (by kernel_rfl) h)

theorem law12_BufferWhole_ok : funcOk Try.prog 4 = true := by kernel_rfl
theorem law12_BufferWhole_call {R : Caller} {xs : List Value} {s : St} : callV Try.prog R (.func (.func 4) #[] #[]) xs s = R 4 xs s := callV_eq law12_BufferWhole_ok

/-! ### sumpter/sumpterlaw12.BufferTells: 5 -/

noncomputable def law12_BufferTells.j0 (R : Caller) (T : List Value) (s : St) : Option (Value × St) :=
(callV Try.prog R (.func (.func 19) #[] #[]) [(getL T 2), (getL T 0)] s).bind fun r22 =>
(aextract 0 r22.1).bind fun v23 =>
(aextract 1 r22.1).bind fun v24 =>
(guardV (getL T 1) true ((abin Try.prog .eql 9 (.tmp 58) (.tmp 59) (getL T 3) v23).bind fun v25 =>
some ([v25], r22.2)) (some ([undef], r22.2))).bind fun q26 =>
(apick (getL T 1) (getL q26.1 0) (.bool false)).bind fun v27 =>
(guardV v27 true ((abin Try.prog .eql 4 (.tmp 63) (.tmp 64) (getL T 4) v24).bind fun v28 =>
some ([v28], q26.2)) (some ([undef], q26.2))).bind fun q29 =>
(apick v27 (getL q29.1 0) (.bool false)).bind fun v30 =>
retV [v30] q29.2

noncomputable def law12_BufferTells (R : Caller) (x0 x1 x2 : Value) (s : St) : Option (Value × St) :=
(callV Try.prog R (.func (.func 7) #[] #[]) [] s).bind fun r0 =>
(callV Try.prog R (.func (.func 13) #[] #[]) [x0, x1] r0.2).bind fun r1 =>
(aextract 0 r1.1).bind fun v2 =>
(aextract 1 r1.1).bind fun v3 =>
(abin Try.prog .neq 26 (.tmp 22) (.const (.int .i64 0)) v3 (.int .i64 0)).bind fun v4 =>
(guardV v4 false ((callV Try.prog R (.func (.func 17) #[] #[]) [x2] r1.2).bind fun r5 =>
(abin Try.prog .neq 26 (.tmp 26) (.const (.int .i64 0)) r5.1 (.int .i64 0)).bind fun v6 =>
some ([v6], r5.2)) (some ([undef], r1.2))).bind fun q7 =>
(apick v4 (.bool true) (getL q7.1 0)).bind fun v8 =>
(guardV v8 false ((callV Try.prog R (.func (.func 18) #[] #[]) [x0] q7.2).bind fun r9 =>
(abin Try.prog .neq 26 (.tmp 31) (.const (.int .i64 0)) r9.1 (.int .i64 0)).bind fun v10 =>
some ([v10], r9.2)) (some ([undef], q7.2))).bind fun q11 =>
(apick v8 (.bool true) (getL q11.1 0)).bind fun v12 =>
condV v12
 (retV [r0.1] q11.2)
 ((callV Try.prog R (.func (.func 8) #[] #[]) [x1, x2] q11.2).bind fun r13 =>
(aextract 0 r13.1).bind fun v14 =>
(aextract 1 r13.1).bind fun v15 =>
(aextract 2 r13.1).bind fun v16 =>
(aun .not v16).bind fun v18 =>
condV v18
 ((callV Try.prog R (.func (.func 19) #[] #[]) [x0, x2] r13.2).bind fun r19 =>
(aextract 0 r19.1).bind fun v20 =>
(aextract 1 r19.1).bind fun v21 =>
joinK (law12_BufferTells.j0 R) [x2, r0.1, v2, v20, v21] r19.2)
 (joinK (law12_BufferTells.j0 R) [x2, r0.1, v2, v14, v15] r13.2))

theorem law12_BufferTells_of {lib : Lib} (hl : lib 5 = none) {x0 x1 x2 : Value} {s : St} {r : Value × St} (h : law12_BufferTells (run Try.prog lib hints) x0 x1 x2 s = some r) : run Try.prog lib hints 5 [x0, x1, x2] s = some r :=
  run_of hl Try.func5 (Eq.trans (by kernel_rfl) h)

theorem law12_BufferTells_ok : funcOk Try.prog 5 = true := by kernel_rfl
theorem law12_BufferTells_call {R : Caller} {xs : List Value} {s : St} : callV Try.prog R (.func (.func 5) #[] #[]) xs s = R 5 xs s := callV_eq law12_BufferTells_ok

/-! ### sumpter/sumpterlaw12.BufferMerged: 6 -/

noncomputable def law12_BufferMerged.j0 (R : Caller) (T : List Value) (s : St) : Res :=
(abin Try.prog .add 3 (.tmp 27) (.const (.int .i64 1)) (getL T 8) (.int .i64 1)).bind fun v16 =>
some (.normal, [(getL T 0), (getL T 1), (getL T 2), (getL T 3), (getL T 4), (getL T 5), (getL T 6), (getL T 7), v16], s)

noncomputable def law12_BufferMerged.b0 (R : Caller) (T : List Value) (s : St) : Res :=
(abin Try.prog .lss 3 (.tmp 27) (.tmp 26) (getL T 8) (getL T 7)).bind fun v4 =>
condV v4
 ((aindexS 7 (getL T 6) (getL T 8)).bind fun v6 =>
(aload true 7 v6 s).bind fun v7 =>
(lstore 7 lptr v7 (.agg #[(.int .u64 0), (.int .i64 0), (.string ⟨#[]⟩), (.string ⟨#[]⟩), (.string ⟨#[]⟩), (.string ⟨#[]⟩), (.int .i64 0)])).bind fun v8 =>
(alenV (.slice 4) (getL T 2) s).bind fun v9 =>
(abin Try.prog .rem 3 (.tmp 33) (.tmp 35) (getL T 8) v9).bind fun v10 =>
(aindexS 1 (getL T 2) v10).bind fun v11 =>
(aload false 1 v11 s).bind fun v12 =>
condV v12
 ((lload true 7 lptr v8).bind fun v13 =>
(abuildSl 7 [(.int .u64 0), (.int .i64 0), (.string ⟨#[]⟩), (.string ⟨#[]⟩), (.string ⟨#[]⟩), (.string ⟨#[]⟩), (.int .i64 0)] 1 [(0, v13)] s).bind fun r14 =>
(aappend 7 88 (getL T 4) r14.1 r14.2).bind fun r15 =>
joinK (law12_BufferMerged.j0 R) [(getL T 0), (getL T 1), (getL T 2), (getL T 3), r15.1, (getL T 5), (getL T 6), (getL T 7), (getL T 8)] r15.2)
 ((lload true 7 lptr v8).bind fun v17 =>
(abuildSl 7 [(.int .u64 0), (.int .i64 0), (.string ⟨#[]⟩), (.string ⟨#[]⟩), (.string ⟨#[]⟩), (.string ⟨#[]⟩), (.int .i64 0)] 1 [(0, v17)] s).bind fun r18 =>
(aappend 7 88 (getL T 5) r18.1 r18.2).bind fun r19 =>
joinK (law12_BufferMerged.j0 R) [(getL T 0), (getL T 1), (getL T 2), (getL T 3), (getL T 4), r19.1, (getL T 6), (getL T 7), (getL T 8)] r19.2))
 (some (.exit 0, [(getL T 0), (getL T 1), (getL T 3), (getL T 4), (getL T 5)], s))

noncomputable def law12_BufferMerged (R : Caller) (x0 x1 x2 : Value) (s : St) : Option (Value × St) :=
(callV Try.prog R (.func (.func 7) #[] #[]) [] s).bind fun r0 =>
(alenV (.slice 4) x2 r0.2).bind fun v1 =>
(abin Try.prog .eql 3 (.tmp 22) (.const (.int .i64 0)) v1 (.int .i64 0)).bind fun v2 =>
condV v2
 (retV [r0.1] r0.2)
 ((alenV (.slice 52) x1 r0.2).bind fun v3 =>
(loopL (law12_BufferMerged.b0 R) [x0, x1, x2, r0.1, (.slice none 0 0), (.slice none 0 0), x1, v3, (.int .i64 0)] r0.2).bind fun r20 =>
exV r20.1 [(0, (callV Try.prog R (.func (.func 13) #[] #[]) [(getL r20.2.1 0), (getL r20.2.1 1)] r20.2.2).bind fun r21 =>
(aextract 0 r21.1).bind fun v22 =>
(aextract 1 r21.1).bind fun v23 =>
(callV Try.prog R (.func (.func 20) #[] #[]) [(getL r20.2.1 3), (getL r20.2.1 4)] r21.2).bind fun r24 =>
(aextract 0 r24.1).bind fun v25 =>
(aextract 1 r24.1).bind fun v26 =>
(abin Try.prog .neq 26 (.tmp 60) (.const (.int .i64 0)) v23 (.int .i64 0)).bind fun v27 =>
condV v27
 (retV [(getL r20.2.1 2)] r24.2)
 ((callV Try.prog R (.func (.func 13) #[] #[]) [(getL r20.2.1 0), v25] r24.2).bind fun r28 =>
(aextract 0 r28.1).bind fun v29 =>
(aextract 1 r28.1).bind fun v30 =>
(callV Try.prog R (.func (.func 20) #[] #[]) [(getL r20.2.1 4), (getL r20.2.1 3)] r28.2).bind fun r31 =>
(aextract 0 r31.1).bind fun v32 =>
(aextract 1 r31.1).bind fun v33 =>
(guardV (getL r20.2.1 2) true ((abin Try.prog .eql 26 (.tmp 77) (.const (.int .i64 0)) v26 (.int .i64 0)).bind fun v34 =>
some ([v34], r31.2)) (some ([undef], r31.2))).bind fun q35 =>
(apick (getL r20.2.1 2) (getL q35.1 0) (.bool false)).bind fun v36 =>
(guardV v36 true ((abin Try.prog .eql 26 (.tmp 81) (.const (.int .i64 0)) v30 (.int .i64 0)).bind fun v37 =>
some ([v37], q35.2)) (some ([undef], q35.2))).bind fun q38 =>
(apick v36 (getL q38.1 0) (.bool false)).bind fun v39 =>
(guardV v39 true ((abin Try.prog .eql 26 (.tmp 85) (.const (.int .i64 0)) v33 (.int .i64 0)).bind fun v40 =>
some ([v40], q38.2)) (some ([undef], q38.2))).bind fun q41 =>
(apick v39 (getL q41.1 0) (.bool false)).bind fun v42 =>
(guardV v42 true ((callV Try.prog R (.func (.func 16) #[] #[]) [v22, v29] q41.2).bind fun r43 =>
some ([r43.1], r43.2)) (some ([undef], q41.2))).bind fun q44 =>
(apick v42 (getL q44.1 0) (.bool false)).bind fun v45 =>
(guardV v45 true ((callV Try.prog R (.func (.func 21) #[] #[]) [v25, (getL r20.2.1 1)] q44.2).bind fun r46 =>
some ([r46.1], r46.2)) (some ([undef], q44.2))).bind fun q47 =>
(apick v45 (getL q47.1 0) (.bool false)).bind fun v48 =>
(guardV v48 true ((callV Try.prog R (.func (.func 21) #[] #[]) [v32, (getL r20.2.1 1)] q47.2).bind fun r49 =>
some ([r49.1], r49.2)) (some ([undef], q47.2))).bind fun q50 =>
(apick v48 (getL q50.1 0) (.bool false)).bind fun v51 =>
retV [v51] q50.2))]
 (none))

theorem law12_BufferMerged_of {lib : Lib} (hl : lib 6 = none) {x0 x1 x2 : Value} {s : St} {r : Value × St} (h : law12_BufferMerged (run Try.prog lib hints) x0 x1 x2 s = some r) : run Try.prog lib hints 6 [x0, x1, x2] s = some r :=
  run_of hl Try.func6 (Eq.trans (by kernel_rfl) h)

theorem law12_BufferMerged_ok : funcOk Try.prog 6 = true := by kernel_rfl
theorem law12_BufferMerged_call {R : Caller} {xs : List Value} {s : St} : callV Try.prog R (.func (.func 6) #[] #[]) xs s = R 6 xs s := callV_eq law12_BufferMerged_ok

/-! ### sumpter/sumpterlaw12.live: 7 -/

noncomputable def law12_live (R : Caller) (s : St) : Option (Value × St) :=
(callV Try.prog R (.func (.func 23) #[] #[]) [] s).bind fun r0 =>
(callV Try.prog R (.func (.func 22) #[] #[]) [r0.1] r0.2).bind fun r1 =>
(aextract 0 r1.1).bind fun v2 =>
(aextract 1 r1.1).bind fun v3 =>
(callV Try.prog R (.func (.func 23) #[] #[]) [] r1.2).bind fun r4 =>
(callV Try.prog R (.func (.func 8) #[] #[]) [r4.1, (.string ⟨#[97]⟩)] r4.2).bind fun r5 =>
(aextract 0 r5.1).bind fun v6 =>
(aextract 1 r5.1).bind fun v7 =>
(aextract 2 r5.1).bind fun v8 =>
(callV Try.prog R (.func (.func 23) #[] #[]) [] r5.2).bind fun r9 =>
(callV Try.prog R (.func (.func 8) #[] #[]) [r9.1, (.string ⟨#[98]⟩)] r9.2).bind fun r10 =>
(aextract 0 r10.1).bind fun v11 =>
(aextract 1 r10.1).bind fun v12 =>
(aextract 2 r10.1).bind fun v13 =>
(callV Try.prog R (.func (.func 23) #[] #[]) [] r10.2).bind fun r14 =>
(callV Try.prog R (.func (.func 8) #[] #[]) [r14.1, (.string ⟨#[100]⟩)] r14.2).bind fun r15 =>
(aextract 0 r15.1).bind fun v16 =>
(aextract 1 r15.1).bind fun v17 =>
(aextract 2 r15.1).bind fun v18 =>
(abuildSl 1 [(.string ⟨#[]⟩)] 1 [(0, (.string ⟨#[98]⟩))] r15.2).bind fun r19 =>
(callV Try.prog R (.func (.func 12) #[] #[]) [v2, r19.1] r19.2).bind fun r20 =>
(aextract 0 r20.1).bind fun v21 =>
(aextract 1 r20.1).bind fun v22 =>
(abin Try.prog .eql 26 (.tmp 43) (.const (.int .i64 0)) v3 (.int .i64 0)).bind fun v23 =>
(guardV v23 true ((alenV (.slice 52) v2 r20.2).bind fun v24 =>
(abin Try.prog .eql 3 (.tmp 47) (.const (.int .i64 2)) v24 (.int .i64 2)).bind fun v25 =>
some ([v25], r20.2)) (some ([undef], r20.2))).bind fun q26 =>
(apick v23 (getL q26.1 0) (.bool false)).bind fun v27 =>
(guardV v27 true ((aindexS 7 v2 (.int .i64 0)).bind fun v28 =>
(afieldAddr 0 v28).bind fun v29 =>
(aload false 1 v29 q26.2).bind fun v30 =>
(abin Try.prog .eql 48 (.tmp 54) (.const (.int .u64 2)) v30 (.int .u64 2)).bind fun v31 =>
some ([v31], q26.2)) (some ([undef], q26.2))).bind fun q32 =>
(apick v27 (getL q32.1 0) (.bool false)).bind fun v33 =>
(guardV v33 true ((aun .not v7).bind fun v34 =>
some ([v34], q32.2)) (some ([undef], q32.2))).bind fun q35 =>
(apick v33 (getL q35.1 0) (.bool false)).bind fun v36 =>
(guardV v36 true (some ([v8], q35.2)) (some ([undef], q35.2))).bind fun q37 =>
(apick v36 (getL q37.1 0) (.bool false)).bind fun v38 =>
(guardV v38 true ((abin Try.prog .eql 9 (.tmp 65) (.const (.string ⟨#[121]⟩)) v11 (.string ⟨#[121]⟩)).bind fun v39 =>
some ([v39], q37.2)) (some ([undef], q37.2))).bind fun q40 =>
(apick v38 (getL q40.1 0) (.bool false)).bind fun v41 =>
(guardV v41 true (some ([v12], q40.2)) (some ([undef], q40.2))).bind fun q42 =>
(apick v41 (getL q42.1 0) (.bool false)).bind fun v43 =>
(guardV v43 true (some ([v13], q42.2)) (some ([undef], q42.2))).bind fun q44 =>
(apick v43 (getL q44.1 0) (.bool false)).bind fun v45 =>
(guardV v45 true ((aun .not v18).bind fun v46 =>
some ([v46], q44.2)) (some ([undef], q44.2))).bind fun q47 =>
(apick v45 (getL q47.1 0) (.bool false)).bind fun v48 =>
(guardV v48 true ((abin Try.prog .eql 26 (.tmp 79) (.const (.int .i64 0)) v22 (.int .i64 0)).bind fun v49 =>
some ([v49], q47.2)) (some ([undef], q47.2))).bind fun q50 =>
(apick v48 (getL q50.1 0) (.bool false)).bind fun v51 =>
(guardV v51 true ((alenV (.slice 22) v21 q50.2).bind fun v52 =>
(abin Try.prog .eql 3 (.tmp 84) (.const (.int .i64 2)) v52 (.int .i64 2)).bind fun v53 =>
some ([v53], q50.2)) (some ([undef], q50.2))).bind fun q54 =>
(apick v51 (getL q54.1 0) (.bool false)).bind fun v55 =>
(guardV v55 true ((aindexS 1 v21 (.int .i64 0)).bind fun v56 =>
(aload false 1 v56 q54.2).bind fun v57 =>
(alenV (.slice 52) v57 q54.2).bind fun v58 =>
(abin Try.prog .eql 3 (.tmp 91) (.const (.int .i64 1)) v58 (.int .i64 1)).bind fun v59 =>
some ([v59], q54.2)) (some ([undef], q54.2))).bind fun q60 =>
(apick v55 (getL q60.1 0) (.bool false)).bind fun v61 =>
(guardV v61 true ((aindexS 1 v21 (.int .i64 1)).bind fun v62 =>
(aload false 1 v62 q60.2).bind fun v63 =>
(alenV (.slice 52) v63 q60.2).bind fun v64 =>
(abin Try.prog .eql 3 (.tmp 98) (.const (.int .i64 2)) v64 (.int .i64 2)).bind fun v65 =>
some ([v65], q60.2)) (some ([undef], q60.2))).bind fun q66 =>
(apick v61 (getL q66.1 0) (.bool false)).bind fun v67 =>
(guardV v67 true ((aindexS 1 v21 (.int .i64 0)).bind fun v68 =>
(aload false 1 v68 q66.2).bind fun v69 =>
(aindexS 7 v69 (.int .i64 0)).bind fun v70 =>
(afieldAddr 1 v70).bind fun v71 =>
(afieldAddr 4 v71).bind fun v72 =>
(aload false 1 v72 q66.2).bind fun v73 =>
(abin Try.prog .eql 9 (.tmp 108) (.const (.string ⟨#[98]⟩)) v73 (.string ⟨#[98]⟩)).bind fun v74 =>
some ([v74], q66.2)) (some ([undef], q66.2))).bind fun q75 =>
(apick v67 (getL q75.1 0) (.bool false)).bind fun v76 =>
(guardV v76 true ((aindexS 1 v21 (.int .i64 1)).bind fun v77 =>
(aload false 1 v77 q75.2).bind fun v78 =>
(aindexS 7 v78 (.int .i64 0)).bind fun v79 =>
(afieldAddr 1 v79).bind fun v80 =>
(afieldAddr 3 v80).bind fun v81 =>
(aload false 1 v81 q75.2).bind fun v82 =>
(abin Try.prog .eql 9 (.tmp 118) (.const (.string ⟨#[98]⟩)) v82 (.string ⟨#[98]⟩)).bind fun v83 =>
some ([v83], q75.2)) (some ([undef], q75.2))).bind fun q84 =>
(apick v76 (getL q84.1 0) (.bool false)).bind fun v85 =>
retV [v85] q84.2

theorem law12_live_of {lib : Lib} (hl : lib 7 = none) {s : St} {r : Value × St} (h : law12_live (run Try.prog lib hints)  s = some r) : run Try.prog lib hints 7 [] s = some r :=
  run_of hl Try.func7 (Eq.trans (by kernel_rfl) h)

theorem law12_live_ok : funcOk Try.prog 7 = true := by kernel_rfl
theorem law12_live_call {R : Caller} {xs : List Value} {s : St} : callV Try.prog R (.func (.func 7) #[] #[]) xs s = R 7 xs s := callV_eq law12_live_ok

/-! ### sumpter/buffer.Find: 8 -/

noncomputable def buffer_Find.A (R : Caller) (T : List Value) (s : St) : Res :=
(anew (cellsV (getL T 1)) s).bind fun r0 =>
(anew [(.string ⟨#[]⟩)] r0.2).bind fun r1 =>
(anew [(.bool false)] r1.2).bind fun r2 =>
(anew [(.bool false)] r2.2).bind fun r3 =>
some (.normal, [(getL T 0), r0.1, r1.1, r2.1, r3.1], r3.2)

theorem buffer_Find.A_eq (R : Caller) (T : List Value) (s : St) : codeB Try.prog R [] loopL 22 (sel [0] (bodyOf Try.f8)) ⟨121, [], 121⟩ (ofL [0, 1] 0 T noT) s (fun e T s => some (e, toL [0, 3, 4, 5, 6] T, s)) = buffer_Find.A R T s := by kernel_rfl

theorem buffer_Find.A_w : codeW 22 (sel [0] (bodyOf Try.f8)) = true := by kernel_rfl

noncomputable def buffer_Find.B (R : Caller) (T : List Value) (s : St) : Res :=
(callV Try.prog R (.func (.func 24) #[] #[]) [(getL T 0)] s).bind fun r0 =>
some (.normal, [(getL T 1), (getL T 2), (getL T 3), (getL T 4), r0.1], r0.2)

theorem buffer_Find.B_eq (R : Caller) (T : List Value) (s : St) : codeB Try.prog R [] loopL 22 (sel [1, 0, 0] (bodyOf Try.f8)) ⟨1144, [], 1144⟩ (ofL [0, 3, 4, 5, 6] 0 T noT) s (fun e T s => some (e, toL [3, 4, 5, 6, 10] T, s)) = buffer_Find.B R T s := by kernel_rfl

theorem buffer_Find.B_w : codeW 22 (sel [1, 0, 0] (bodyOf Try.f8)) = true := by kernel_rfl

noncomputable def buffer_Find.as (R : Caller) (T : List Value) (s : St) : Res :=
(anew [(.int .i64 0), (.string ⟨#[]⟩), (.string ⟨#[]⟩), (.string ⟨#[]⟩), (.string ⟨#[]⟩), (.int .i64 0)] s).bind fun r0 =>
(astore 6 r0.1 (getL T 4) r0.2).bind fun s1 =>
some (.normal, [(getL T 0), (getL T 1), (getL T 2), (getL T 3), r0.1], s1)

theorem buffer_Find.as_eq (R : Caller) (T : List Value) (s : St) : codeB Try.prog R [] loopL 22 (sel [1, 0, 1, 2, 3] (bodyOf Try.f8)) ⟨376, [], 376⟩ (ofL [3, 4, 5, 6, 12] 0 T noT) s (fun e T s => some (e, toL [3, 4, 5, 6, 8] T, s)) = buffer_Find.as R T s := by kernel_rfl

theorem buffer_Find.as_w : codeW 22 (sel [1, 0, 1, 2, 3] (bodyOf Try.f8)) = true := by kernel_rfl

noncomputable def buffer_Find.bd (R : Caller) (T : List Value) (s : St) : Res :=
(aload true 6 (getL T 4) s).bind fun v0 =>
(aload false 1 (getL T 0) s).bind fun v1 =>
(callV Try.prog R (.func (.func 25) #[] #[]) [v0, v1] s).bind fun r2 =>
(aun .not r2.1).bind fun v3 =>
condV v3
 (some (.normal, [], r2.2))
 ((afieldAddr 0 (getL T 4)).bind fun v4 =>
(aload false 1 v4 r2.2).bind fun v5 =>
(abin Try.prog .eql 3 (.tmp 18) (.const (.int .i64 2)) v5 (.int .i64 2)).bind fun v6 =>
condV v6
 ((afieldAddr 2 (getL T 4)).bind fun v7 =>
(aload false 1 v7 r2.2).bind fun v8 =>
(astore 1 (getL T 1) v8 r2.2).bind fun s9 =>
(astore 1 (getL T 2) (.bool true) s9).bind fun s10 =>
(astore 1 (getL T 3) (.bool true) s10).bind fun s11 =>
some (.ret, [], s11))
 ((astore 1 (getL T 1) (.string ⟨#[]⟩) r2.2).bind fun s12 =>
(astore 1 (getL T 2) (.bool false) s12).bind fun s13 =>
(astore 1 (getL T 3) (.bool true) s13).bind fun s14 =>
some (.ret, [], s14)))

theorem buffer_Find.bd_eq (R : Caller) (T : List Value) (s : St) : codeB Try.prog R [] loopL 22 (sel [1, 0, 1, 2, 4] (bodyOf Try.f8)) ⟨0, [], 0⟩ (ofL [3, 4, 5, 6, 8] 0 T noT) s (fun e T s => some (e, toL [] T, s)) = buffer_Find.bd R T s := by kernel_rfl

theorem buffer_Find.bd_w : codeW 22 (sel [1, 0, 1, 2, 4] (bodyOf Try.f8)) = true := by kernel_rfl

noncomputable def buffer_Find.C (R : Caller) (T : List Value) (s : St) : Res :=
(astore 1 (getL T 0) (.string ⟨#[]⟩) s).bind fun s0 =>
(astore 1 (getL T 1) (.bool false) s0).bind fun s1 =>
(astore 1 (getL T 2) (.bool false) s1).bind fun s2 =>
some (.ret, [(getL T 0), (getL T 1), (getL T 2)], s2)

theorem buffer_Find.C_eq (R : Caller) (T : List Value) (s : St) : codeB Try.prog R [] loopL 22 (sel [1, 1] (bodyOf Try.f8)) ⟨112, [], 112⟩ (ofL [4, 5, 6] 0 T noT) s (fun e T s => some (e, toL [4, 5, 6] T, s)) = buffer_Find.C R T s := by kernel_rfl

theorem buffer_Find.C_w : codeW 22 (sel [1, 1] (bodyOf Try.f8)) = true := by kernel_rfl

theorem buffer_Find_ok : funcOk Try.prog 8 = true := by kernel_rfl
theorem buffer_Find_call {R : Caller} {xs : List Value} {s : St} : callV Try.prog R (.func (.func 8) #[] #[]) xs s = R 8 xs s := callV_eq buffer_Find_ok

/-! ### sumpter/sumpterref12.Find: 9 -/

noncomputable def ref12_Find.j0 (R : Caller) (T : List Value) (s : St) : Res :=
(abin Try.prog .add 3 (.tmp 11) (.const (.int .i64 1)) (getL T 6) (.int .i64 1)).bind fun v11 =>
some (.normal, [(getL T 0), (getL T 1), (getL T 2), (getL T 3), (getL T 4), (getL T 5), v11], s)

noncomputable def ref12_Find.b0 (R : Caller) (T : List Value) (s : St) : Res :=
(abin Try.prog .lss 3 (.tmp 11) (.tmp 10) (getL T 6) (getL T 5)).bind fun v1 =>
condV v1
 ((aindexS 7 (getL T 4) (getL T 6)).bind fun v3 =>
(aload true 7 v3 s).bind fun v4 =>
(lstore 7 lptr v4 (.agg #[(.int .u64 0), (.int .i64 0), (.string ⟨#[]⟩), (.string ⟨#[]⟩), (.string ⟨#[]⟩), (.string ⟨#[]⟩), (.int .i64 0)])).bind fun v5 =>
(lload true 6 (.pointer (some ⟨0, 1, none⟩)) v5).bind fun v6 =>
(callV Try.prog R (.func (.func 26) #[] #[]) [v6, (getL T 0)] s).bind fun r7 =>
condV r7.1
 ((lload false 1 (.pointer (some ⟨0, 1, none⟩)) v5).bind fun v8 =>
(abin Try.prog .eql 3 (.tmp 21) (.const (.int .i64 2)) v8 (.int .i64 2)).bind fun v9 =>
condV v9
 ((lload false 1 (.pointer (some ⟨0, 3, none⟩)) v5).bind fun v10 =>
joinK (ref12_Find.j0 R) [(getL T 0), v10, v9, (.bool true), (getL T 4), (getL T 5), (getL T 6)] r7.2)
 (joinK (ref12_Find.j0 R) [(getL T 0), (.string ⟨#[]⟩), v9, (.bool true), (getL T 4), (getL T 5), (getL T 6)] r7.2))
 (joinK (ref12_Find.j0 R) [(getL T 0), (getL T 1), (getL T 2), (getL T 3), (getL T 4), (getL T 5), (getL T 6)] r7.2))
 (some (.exit 0, [(getL T 1), (getL T 2), (getL T 3)], s))

noncomputable def ref12_Find (R : Caller) (x0 x1 : Value) (s : St) : Option (Value × St) :=
(alenV (.slice 52) x0 s).bind fun v0 =>
(loopL (ref12_Find.b0 R) [x1, (.string ⟨#[]⟩), (.bool false), (.bool false), x0, v0, (.int .i64 0)] s).bind fun r12 =>
exV r12.1 [(0, retV [(getL r12.2.1 0), (getL r12.2.1 1), (getL r12.2.1 2)] r12.2.2)]
 (none)

theorem ref12_Find_of {lib : Lib} (hl : lib 9 = none) {x0 x1 : Value} {s : St} {r : Value × St} (h : ref12_Find (run Try.prog lib hints) x0 x1 s = some r) : run Try.prog lib hints 9 [x0, x1] s = some r :=
  run_of hl Try.func9 (Eq.trans (by kernel_rfl) h)

theorem ref12_Find_ok : funcOk Try.prog 9 = true := by kernel_rfl
theorem ref12_Find_call {R : Caller} {xs : List Value} {s : St} : callV Try.prog R (.func (.func 9) #[] #[]) xs s = R 9 xs s := callV_eq ref12_Find_ok

/-! ### sumpter/buffer.Check: 10 -/

noncomputable def buffer_Check.b0 (R : Caller) (T : List Value) (s : St) : Res :=
(abin Try.prog .lss 3 (.tmp 8) (.tmp 7) (getL T 3) (getL T 2)).bind fun v1 =>
condV v1
 ((aindexS 7 (getL T 1) (getL T 3)).bind fun v2 =>
(aload true 7 v2 s).bind fun v3 =>
(lstore 7 lptr v3 (.agg #[(.int .u64 0), (.int .i64 0), (.string ⟨#[]⟩), (.string ⟨#[]⟩), (.string ⟨#[]⟩), (.string ⟨#[]⟩), (.int .i64 0)])).bind fun v4 =>
(lload true 6 (.pointer (some ⟨0, 1, none⟩)) v4).bind fun v5 =>
(callV Try.prog R (.func (.func 27) #[] #[]) [v5] s).bind fun r6 =>
(abin Try.prog .neq 26 (.tmp 16) (.const (.int .i64 0)) r6.1 (.int .i64 0)).bind fun v7 =>
condV v7
 (some (.ret, [r6.1], r6.2))
 ((lload true 6 (.pointer (some ⟨0, 1, none⟩)) v4).bind fun v8 =>
(callV Try.prog R (.func (.func 28) #[] #[]) [v8] r6.2).bind fun r9 =>
(aun .not r9.1).bind fun v10 =>
condV v10
 (some (.ret, [(.int .i64 40)], r9.2))
 ((abin Try.prog .gtr 3 (.tmp 23) (.const (.int .i64 0)) (getL T 3) (.int .i64 0)).bind fun v11 =>
(guardV v11 true (some ([(getL T 0)], r9.2)) (some ([undef], r9.2))).bind fun q12 =>
(guardV v11 true (some ([(getL T 3)], q12.2)) (some ([undef], q12.2))).bind fun q13 =>
(guardV v11 true ((abin Try.prog .sub 3 (.tmp 27) (.const (.int .i64 1)) (getL q13.1 0) (.int .i64 1)).bind fun v14 =>
some ([v14], q13.2)) (some ([undef], q13.2))).bind fun q15 =>
(guardV v11 true ((aindexS 7 (getL q12.1 0) (getL q15.1 0)).bind fun v16 =>
some ([v16], q15.2)) (some ([undef], q15.2))).bind fun q17 =>
(guardV v11 true ((afieldAddr 0 (getL q17.1 0)).bind fun v18 =>
some ([v18], q17.2)) (some ([undef], q17.2))).bind fun q19 =>
((guardV v11 true ((aload false 1 (getL q19.1 0) q19.2).bind fun v28 =>
some (v28, q19.2)) (some (undef, q19.2))).bind (ownR q19.2)).bind fun r20 =>
(guardV v11 true (some ([lptr], r20.2)) (some ([undef], r20.2))).bind fun q21 =>
(guardV v11 true ((lload false 1 (getL q21.1 0) v4).bind fun v22 =>
some ([v22], q21.2)) (some ([undef], q21.2))).bind fun q23 =>
(guardV v11 true ((abin Try.prog .geq 48 (.tmp 31) (.tmp 33) r20.1 (getL q23.1 0)).bind fun v24 =>
some ([v24], q23.2)) (some ([undef], q23.2))).bind fun q25 =>
(apick v11 (getL q25.1 0) (.bool false)).bind fun v26 =>
condV v26
 (some (.ret, [(.int .i64 1)], q25.2))
 ((abin Try.prog .add 3 (.tmp 8) (.const (.int .i64 1)) (getL T 3) (.int .i64 1)).bind fun v27 =>
some (.normal, [(getL T 0), (getL T 1), (getL T 2), v27], q25.2)))))
 (some (.exit 0, [], s))

noncomputable def buffer_Check (R : Caller) (x0 : Value) (s : St) : Option (Value × St) :=
(alenV (.slice 52) x0 s).bind fun v0 =>
(loopL (buffer_Check.b0 R) [x0, x0, v0, (.int .i64 0)] s).bind fun r29 =>
exV r29.1 [(0, retV [(.int .i64 0)] r29.2.2)]
 (retV [(getL r29.2.1 0)] r29.2.2)

theorem buffer_Check_of {lib : Lib} (hl : lib 10 = none) {x0 : Value} {s : St} {r : Value × St} (h : buffer_Check (run Try.prog lib hints) x0 s = some r) : run Try.prog lib hints 10 [x0] s = some r :=
  run_of hl Try.func10 (Eq.trans (by kernel_rfl) h)

theorem buffer_Check_ok : funcOk Try.prog 10 = true := by kernel_rfl
theorem buffer_Check_call {R : Caller} {xs : List Value} {s : St} : callV Try.prog R (.func (.func 10) #[] #[]) xs s = R 10 xs s := callV_eq buffer_Check_ok

/-! ### sumpter/sumpterref12.Check: 11 -/

noncomputable def ref12_Check.b0 (R : Caller) (T : List Value) (s : St) : Res :=
(abin Try.prog .lss 3 (.tmp 8) (.tmp 7) (getL T 3) (getL T 2)).bind fun v1 =>
condV v1
 ((aindexS 7 (getL T 1) (getL T 3)).bind fun v2 =>
(aload true 7 v2 s).bind fun v3 =>
(lstore 7 lptr v3 (.agg #[(.int .u64 0), (.int .i64 0), (.string ⟨#[]⟩), (.string ⟨#[]⟩), (.string ⟨#[]⟩), (.string ⟨#[]⟩), (.int .i64 0)])).bind fun v4 =>
(lload true 6 (.pointer (some ⟨0, 1, none⟩)) v4).bind fun v5 =>
(callV Try.prog R (.func (.func 29) #[] #[]) [v5] s).bind fun r6 =>
(abin Try.prog .neq 26 (.tmp 16) (.const (.int .i64 0)) r6.1 (.int .i64 0)).bind fun v7 =>
condV v7
 (some (.ret, [r6.1], r6.2))
 ((lload true 6 (.pointer (some ⟨0, 1, none⟩)) v4).bind fun v8 =>
(callV Try.prog R (.func (.func 30) #[] #[]) [v8] r6.2).bind fun r9 =>
(aun .not r9.1).bind fun v10 =>
condV v10
 (some (.ret, [(.int .i64 40)], r9.2))
 ((abin Try.prog .gtr 3 (.tmp 23) (.const (.int .i64 0)) (getL T 3) (.int .i64 0)).bind fun v11 =>
(guardV v11 true (some ([(getL T 0)], r9.2)) (some ([undef], r9.2))).bind fun q12 =>
(guardV v11 true (some ([(getL T 3)], q12.2)) (some ([undef], q12.2))).bind fun q13 =>
(guardV v11 true ((abin Try.prog .sub 3 (.tmp 27) (.const (.int .i64 1)) (getL q13.1 0) (.int .i64 1)).bind fun v14 =>
some ([v14], q13.2)) (some ([undef], q13.2))).bind fun q15 =>
(guardV v11 true ((aindexS 7 (getL q12.1 0) (getL q15.1 0)).bind fun v16 =>
some ([v16], q15.2)) (some ([undef], q15.2))).bind fun q17 =>
(guardV v11 true ((afieldAddr 0 (getL q17.1 0)).bind fun v18 =>
some ([v18], q17.2)) (some ([undef], q17.2))).bind fun q19 =>
((guardV v11 true ((aload false 1 (getL q19.1 0) q19.2).bind fun v28 =>
some (v28, q19.2)) (some (undef, q19.2))).bind (ownR q19.2)).bind fun r20 =>
(guardV v11 true (some ([lptr], r20.2)) (some ([undef], r20.2))).bind fun q21 =>
(guardV v11 true ((lload false 1 (getL q21.1 0) v4).bind fun v22 =>
some ([v22], q21.2)) (some ([undef], q21.2))).bind fun q23 =>
(guardV v11 true ((abin Try.prog .geq 48 (.tmp 31) (.tmp 33) r20.1 (getL q23.1 0)).bind fun v24 =>
some ([v24], q23.2)) (some ([undef], q23.2))).bind fun q25 =>
(apick v11 (getL q25.1 0) (.bool false)).bind fun v26 =>
condV v26
 (some (.ret, [(.int .i64 1)], q25.2))
 ((abin Try.prog .add 3 (.tmp 8) (.const (.int .i64 1)) (getL T 3) (.int .i64 1)).bind fun v27 =>
some (.normal, [(getL T 0), (getL T 1), (getL T 2), v27], q25.2)))))
 (some (.exit 0, [], s))

noncomputable def ref12_Check (R : Caller) (x0 : Value) (s : St) : Option (Value × St) :=
(alenV (.slice 52) x0 s).bind fun v0 =>
(loopL (ref12_Check.b0 R) [x0, x0, v0, (.int .i64 0)] s).bind fun r29 =>
exV r29.1 [(0, retV [(.int .i64 0)] r29.2.2)]
 (retV [(getL r29.2.1 0)] r29.2.2)

theorem ref12_Check_of {lib : Lib} (hl : lib 11 = none) {x0 : Value} {s : St} {r : Value × St} (h : ref12_Check (run Try.prog lib hints) x0 s = some r) : run Try.prog lib hints 11 [x0] s = some r :=
  run_of hl Try.func11 (Eq.trans (by kernel_rfl) h)

theorem ref12_Check_ok : funcOk Try.prog 11 = true := by kernel_rfl
theorem ref12_Check_call {R : Caller} {xs : List Value} {s : St} : callV Try.prog R (.func (.func 11) #[] #[]) xs s = R 11 xs s := callV_eq ref12_Check_ok

/-! ### sumpter/buffer.Part: 12 -/

noncomputable def buffer_Part.b0 (R : Caller) (T : List Value) (s : St) : Res :=
(abin Try.prog .lss 3 (.tmp 25) (.tmp 24) (getL T 4) (getL T 3)).bind fun v3 =>
condV v3
 ((aindexS 1 (getL T 2) (getL T 4)).bind fun v4 =>
(aload false 1 v4 s).bind fun v5 =>
(callV Try.prog R (.func (.func 31) #[] #[]) [v5] s).bind fun r6 =>
(abin Try.prog .neq 26 (.tmp 31) (.const (.int .i64 0)) r6.1 (.int .i64 0)).bind fun v7 =>
(guardV v7 false ((abin Try.prog .gtr 3 (.tmp 34) (.const (.int .i64 0)) (getL T 4) (.int .i64 0)).bind fun v8 =>
some ([v8], r6.2)) (some ([undef], r6.2))).bind fun q9 =>
(guardV (getL q9.1 0) true ((abin Try.prog .sub 3 (.tmp 38) (.const (.int .i64 1)) (getL T 4) (.int .i64 1)).bind fun v10 =>
(aindexS 1 (getL T 1) v10).bind fun v11 =>
(aload false 1 v11 q9.2).bind fun v12 =>
(abin Try.prog .geq 9 (.tmp 41) (.tmp 42) v12 v5).bind fun v13 =>
some ([v13], q9.2)) (some ([undef], q9.2))).bind fun q14 =>
(guardV v7 false ((apick (getL q9.1 0) (getL q14.1 0) (.bool false)).bind fun v15 =>
some ([v15], q14.2)) (some ([undef], q14.2))).bind fun q16 =>
(apick v7 (.bool true) (getL q16.1 0)).bind fun v17 =>
condV v17
 (some (.ret, [(.slice none 0 0), (.int .i64 20)], q16.2))
 ((abin Try.prog .add 3 (.tmp 25) (.const (.int .i64 1)) (getL T 4) (.int .i64 1)).bind fun v18 =>
some (.normal, [(getL T 0), (getL T 1), (getL T 2), (getL T 3), v18], q16.2)))
 (some (.exit 0, [(getL T 0), (getL T 1)], s))

noncomputable def buffer_Part.j0 (R : Caller) (T : List Value) (s : St) : Res :=
(abin Try.prog .add 3 (.tmp 70) (.const (.int .i64 1)) (getL T 10) (.int .i64 1)).bind fun v47 =>
some (.normal, [(getL T 0), (getL T 1), (getL T 2), (getL T 3), (getL T 4), (getL T 5), (getL T 6), (getL T 7), (getL T 8), (getL T 9), v47, (getL T 11)], s)

noncomputable def buffer_Part.b2 (R : Caller) (T : List Value) (s : St) : Res :=
(abin Try.prog .lss 3 (.tmp 70) (.tmp 69) (getL T 10) (getL T 9)).bind fun v34 =>
condV v34
 ((aindexS 7 (getL T 8) (getL T 10)).bind fun v36 =>
(aload true 7 v36 s).bind fun v37 =>
(lstore 7 lptr v37 (.agg #[(.int .u64 0), (.int .i64 0), (.string ⟨#[]⟩), (.string ⟨#[]⟩), (.string ⟨#[]⟩), (.string ⟨#[]⟩), (.int .i64 0)])).bind fun v38 =>
(lload false 1 (.pointer (some ⟨0, 1, none⟩)) v38).bind fun v39 =>
(abin Try.prog .neq 3 (.tmp 76) (.const (.int .i64 5)) v39 (.int .i64 5)).bind fun v40 =>
condV v40
 ((lload true 2 (getL T 4) (getL T 11)).bind fun v41 =>
(lload false 1 (.pointer (some ⟨0, 2, none⟩)) v38).bind fun v42 =>
(callV Try.prog R (.func (.func 32) #[] #[]) [v41, v42] s).bind fun r43 =>
condV r43.1
 ((lload true 7 lptr v38).bind fun v44 =>
(abuildSl 7 [(.int .u64 0), (.int .i64 0), (.string ⟨#[]⟩), (.string ⟨#[]⟩), (.string ⟨#[]⟩), (.string ⟨#[]⟩), (.int .i64 0)] 1 [(0, v44)] r43.2).bind fun r45 =>
(aappend 7 88 (getL T 5) r45.1 r45.2).bind fun r46 =>
joinK (buffer_Part.j0 R) [(getL T 0), (getL T 1), (getL T 2), (getL T 3), (getL T 4), r46.1, (getL T 6), (getL T 7), (getL T 8), (getL T 9), (getL T 10), (getL T 11)] r46.2)
 (joinK (buffer_Part.j0 R) [(getL T 0), (getL T 1), (getL T 2), (getL T 3), (getL T 4), (getL T 5), (getL T 6), (getL T 7), (getL T 8), (getL T 9), (getL T 10), (getL T 11)] r43.2))
 ((lload true 2 (getL T 4) (getL T 11)).bind fun v48 =>
(lload true 6 (.pointer (some ⟨0, 1, none⟩)) v38).bind fun v49 =>
(((callV Try.prog R (.func (.func 34) #[] #[]) [v49] s).bind fun r63 =>
some (r63.1, r63.2)).bind (ownR s)).bind fun r50 =>
(((callV Try.prog R (.func (.func 33) #[] #[]) [v48, r50.1] r50.2).bind fun r62 =>
some (r62.1, r62.2)).bind (ownR r50.2)).bind fun r51 =>
(aextract 0 r51.1).bind fun v52 =>
(aextract 1 r51.1).bind fun v53 =>
(lstore 2 lptr v52 (.agg #[(.string ⟨#[]⟩), (.string ⟨#[]⟩)])).bind fun v54 =>
condV v53
 ((lload false 1 lptr v54).bind fun v55 =>
(lload false 1 (.pointer (some ⟨0, 1, none⟩)) v54).bind fun v56 =>
(lstore 1 (.pointer (some ⟨0, 4, none⟩)) v55 v38).bind fun v57 =>
(lstore 1 (.pointer (some ⟨0, 5, none⟩)) v56 v57).bind fun v58 =>
(lload true 7 lptr v58).bind fun v59 =>
(abuildSl 7 [(.int .u64 0), (.int .i64 0), (.string ⟨#[]⟩), (.string ⟨#[]⟩), (.string ⟨#[]⟩), (.string ⟨#[]⟩), (.int .i64 0)] 1 [(0, v59)] r51.2).bind fun r60 =>
(aappend 7 88 (getL T 5) r60.1 r60.2).bind fun r61 =>
joinK (buffer_Part.j0 R) [(getL T 0), (getL T 1), (getL T 2), (getL T 3), (getL T 4), r61.1, (getL T 6), (getL T 7), (getL T 8), (getL T 9), (getL T 10), (getL T 11)] r61.2)
 (joinK (buffer_Part.j0 R) [(getL T 0), (getL T 1), (getL T 2), (getL T 3), (getL T 4), (getL T 5), (getL T 6), (getL T 7), (getL T 8), (getL T 9), (getL T 10), (getL T 11)] r51.2)))
 (some (.exit 4, [(getL T 0), (getL T 1), (getL T 2), (getL T 3), (getL T 5), (getL T 6), (getL T 7)], s))

noncomputable def buffer_Part.j1 (R : Caller) (T : List Value) (s : St) : Res :=
(alenV (.slice 52) (getL T 0) s).bind fun v33 =>
(loopL (buffer_Part.b2 R) [(getL T 0), (getL T 1), (getL T 2), (getL T 3), (getL T 4), (.slice none 0 0), (getL T 5), (getL T 6), (getL T 0), v33, (.int .i64 0), (getL T 7)] s).bind fun r64 =>
exV r64.1 [(4, (abuildSl 1 [(.slice none 0 0)] 1 [(0, (getL r64.2.1 4))] r64.2.2).bind fun r65 =>
(aappend 1 24 (getL r64.2.1 2) r65.1 r65.2).bind fun r66 =>
(abin Try.prog .add 3 (.tmp 50) (.const (.int .i64 1)) (getL r64.2.1 6) (.int .i64 1)).bind fun v67 =>
some (.normal, [(getL r64.2.1 0), (getL r64.2.1 1), r66.1, (getL r64.2.1 3), (getL r64.2.1 5), v67], r66.2))]
 (none)

noncomputable def buffer_Part.b1 (R : Caller) (T : List Value) (s : St) : Res :=
(abin Try.prog .lss 3 (.tmp 50) (.tmp 49) (getL T 5) (getL T 4)).bind fun v22 =>
condV v22
 ((abuild Try.prog 38 [(0, (getL T 3))]).bind fun v23 =>
(lstore 2 lptr v23 (.agg #[(.string ⟨#[]⟩), (.string ⟨#[]⟩)])).bind fun v24 =>
(alenV (.slice 9) (getL T 1) s).bind fun v26 =>
(abin Try.prog .lss 3 (.tmp 55) (.tmp 57) (getL T 5) v26).bind fun v27 =>
condV v27
 ((aindexS 1 (getL T 1) (getL T 5)).bind fun v28 =>
((aload false 1 v28 (frzS s)).bind fun v69 =>
some (v69, (frzS s))).bind fun r29 =>
(aindexS 1 (getL T 1) (getL T 5)).bind fun v30 =>
((aload false 1 v30 (frzS s)).bind fun v68 =>
some (v68, (frzS s))).bind fun r31 =>
(lstore 1 (.pointer (some ⟨0, 1, none⟩)) r29.1 v24).bind fun v32 =>
joinK (buffer_Part.j1 R) [(getL T 0), (getL T 1), (getL T 2), r31.1, lptr, (getL T 4), (getL T 5), v32] s)
 (joinK (buffer_Part.j1 R) [(getL T 0), (getL T 1), (getL T 2), (getL T 3), lptr, (getL T 4), (getL T 5), v24] s))
 (some (.exit 2, [(getL T 2)], s))

noncomputable def buffer_Part (R : Caller) (x0 x1 : Value) (s : St) : Option (Value × St) :=
(callV Try.prog R (.func (.func 10) #[] #[]) [x0] s).bind fun r0 =>
(abin Try.prog .neq 26 (.tmp 20) (.const (.int .i64 0)) r0.1 (.int .i64 0)).bind fun v1 =>
condV v1
 (retV [(.slice none 0 0), r0.1] r0.2)
 ((alenV (.slice 9) x1 r0.2).bind fun v2 =>
(loopL (buffer_Part.b0 R) [x0, x1, x1, v2, (.int .i64 0)] r0.2).bind fun r19 =>
exV r19.1 [(0, (alenV (.slice 9) (getL r19.2.1 1) r19.2.2).bind fun v20 =>
(abin Try.prog .add 3 (.tmp 48) (.const (.int .i64 1)) v20 (.int .i64 1)).bind fun v21 =>
(loopL (buffer_Part.b1 R) [(getL r19.2.1 0), (getL r19.2.1 1), (.slice none 0 0), (.string ⟨#[]⟩), v21, (.int .i64 0)] r19.2.2).bind fun r70 =>
exV r70.1 [(2, retV [(getL r70.2.1 0), (.int .i64 0)] r70.2.2)]
 (none))]
 (retV [(getL r19.2.1 0), (getL r19.2.1 1)] r19.2.2))

theorem buffer_Part_of {lib : Lib} (hl : lib 12 = none) {x0 x1 : Value} {s : St} {r : Value × St} (h : buffer_Part (run Try.prog lib hints) x0 x1 s = some r) : run Try.prog lib hints 12 [x0, x1] s = some r :=
  run_of hl Try.func12 (Eq.trans (by kernel_rfl) h)

theorem buffer_Part_ok : funcOk Try.prog 12 = true := by kernel_rfl
theorem buffer_Part_call {R : Caller} {xs : List Value} {s : St} : callV Try.prog R (.func (.func 12) #[] #[]) xs s = R 12 xs s := callV_eq buffer_Part_ok

/-! ### sumpter/buffer.Apply: 13 -/

noncomputable def buffer_Apply (R : Caller) (x0 x1 : Value) (s : St) : Option (Value × St) :=
(callV Try.prog R (.func (.func 18) #[] #[]) [x0] s).bind fun r0 =>
(abin Try.prog .neq 26 (.tmp 12) (.const (.int .i64 0)) r0.1 (.int .i64 0)).bind fun v1 =>
condV v1
 (retV [(.slice none 0 0), r0.1] r0.2)
 ((callV Try.prog R (.func (.func 10) #[] #[]) [x1] r0.2).bind fun r2 =>
(abin Try.prog .neq 26 (.tmp 17) (.const (.int .i64 0)) r2.1 (.int .i64 0)).bind fun v3 =>
condV v3
 (retV [(.slice none 0 0), r2.1] r2.2)
 ((callV Try.prog R (.func (.func 36) #[] #[]) [x1] r2.2).bind fun r4 =>
(callV Try.prog R (.func (.func 35) #[] #[]) [x0, r4.1] r4.2).bind fun r5 =>
(aextract 0 r5.1).bind fun v6 =>
(aextract 1 r5.1).bind fun v7 =>
(aextract 2 r5.1).bind fun v8 =>
retV [v6, v8] r5.2))

theorem buffer_Apply_of {lib : Lib} (hl : lib 13 = none) {x0 x1 : Value} {s : St} {r : Value × St} (h : buffer_Apply (run Try.prog lib hints) x0 x1 s = some r) : run Try.prog lib hints 13 [x0, x1] s = some r :=
  run_of hl Try.func13 (Eq.trans (by kernel_rfl) h)

theorem buffer_Apply_ok : funcOk Try.prog 13 = true := by kernel_rfl
theorem buffer_Apply_call {R : Caller} {xs : List Value} {s : St} : callV Try.prog R (.func (.func 13) #[] #[]) xs s = R 13 xs s := callV_eq buffer_Apply_ok

/-! ### sumpter/sumpterref04.Within: 14 -/

noncomputable def ref04_Within.j0 (R : Caller) (T : List Value) (s : St) : Res :=
(abin Try.prog .add 3 (.tmp 12) (.const (.int .i64 1)) (getL T 5) (.int .i64 1)).bind fun v21 =>
some (.normal, [(getL T 0), (getL T 1), (getL T 2), (getL T 3), (getL T 4), v21, (getL T 6)], s)

noncomputable def ref04_Within.b0 (R : Caller) (T : List Value) (s : St) : Res :=
(abin Try.prog .lss 3 (.tmp 12) (.tmp 11) (getL T 5) (getL T 4)).bind fun v2 =>
condV v2
 ((aindexS 2 (getL T 3) (getL T 5)).bind fun v4 =>
(aload true 2 v4 s).bind fun v5 =>
(lstore 2 lptr v5 (.agg #[(.string ⟨#[]⟩), (.string ⟨#[]⟩)])).bind fun v6 =>
(lload true 2 (getL T 1) (getL T 6)).bind fun v7 =>
(lload false 1 lptr v6).bind fun v8 =>
(callV Try.prog R (.func (.func 37) #[] #[]) [v7, v8] s).bind fun r9 =>
(guardV r9.1 true ((abin Try.prog .lss 3 (.tmp 21) (.const (.int .i64 0)) (getL T 0) (.int .i64 0)).bind fun v10 =>
some ([v10], r9.2)) (some ([undef], r9.2))).bind fun q11 =>
(guardV (getL q11.1 0) false ((alenV (.slice 75) (getL T 2) q11.2).bind fun v12 =>
(abin Try.prog .lss 3 (.tmp 25) (.tmp 26) v12 (getL T 0)).bind fun v13 =>
some ([v13], q11.2)) (some ([undef], q11.2))).bind fun q14 =>
(guardV r9.1 true ((apick (getL q11.1 0) (.bool true) (getL q14.1 0)).bind fun v15 =>
some ([v15], q14.2)) (some ([undef], q14.2))).bind fun q16 =>
(apick r9.1 (getL q16.1 0) (.bool false)).bind fun v17 =>
condV v17
 ((lload true 2 lptr v6).bind fun v18 =>
(abuildSl 2 [(.string ⟨#[]⟩), (.string ⟨#[]⟩)] 1 [(0, v18)] q16.2).bind fun r19 =>
(aappend 2 32 (getL T 2) r19.1 r19.2).bind fun r20 =>
joinK (ref04_Within.j0 R) [(getL T 0), (getL T 1), r20.1, (getL T 3), (getL T 4), (getL T 5), (getL T 6)] r20.2)
 (joinK (ref04_Within.j0 R) [(getL T 0), (getL T 1), (getL T 2), (getL T 3), (getL T 4), (getL T 5), (getL T 6)] q16.2))
 (some (.exit 0, [(getL T 2)], s))

noncomputable def ref04_Within (R : Caller) (x0 x1 x2 : Value) (s : St) : Option (Value × St) :=
(lbox x1).bind fun v0 =>
(alenV (.slice 75) x0 s).bind fun v1 =>
(loopL (ref04_Within.b0 R) [x2, lptr, (.slice none 0 0), x0, v1, (.int .i64 0), v0] s).bind fun r22 =>
exV r22.1 [(0, retV [(getL r22.2.1 0)] r22.2.2)]
 (none)

theorem ref04_Within_of {lib : Lib} (hl : lib 14 = none) {x0 x1 x2 : Value} {s : St} {r : Value × St} (h : ref04_Within (run Try.prog lib hints) x0 x1 x2 s = some r) : run Try.prog lib hints 14 [x0, x1, x2] s = some r :=
  run_of hl Try.func14 (Eq.trans (by kernel_rfl) h)

theorem ref04_Within_ok : funcOk Try.prog 14 = true := by kernel_rfl
theorem ref04_Within_call {R : Caller} {xs : List Value} {s : St} : callV Try.prog R (.func (.func 14) #[] #[]) xs s = R 14 xs s := callV_eq ref04_Within_ok

/-! ### sumpter/sumpterref12.Range: 15 -/

noncomputable def ref12_Range.j0 (R : Caller) (T : List Value) (s : St) : Option (Value × St) :=
(lload true 2 (getL T 1) (getL T 3)).bind fun v13 =>
(lstore 2 (getL T 0) v13 (getL T 2)).bind fun v14 =>
(lload true 2 (getL T 0) v14).bind fun v15 =>
retV [v15] s

noncomputable def ref12_Range.j1 (R : Caller) (T : List Value) (s : St) : Option (Value × St) :=
(alenV (.slice 9) (getL T 0) s).bind fun v7 =>
(abin Try.prog .lss 3 (.tmp 15) (.tmp 17) (getL T 1) v7).bind fun v8 =>
condV v8
 ((aindexS 1 (getL T 0) (getL T 1)).bind fun v9 =>
(aload false 1 v9 s).bind fun v10 =>
(afieldAddr 1 (getL T 3)).bind fun v11 =>
(lstore 1 v11 v10 (getL T 5)).bind fun v12 =>
joinK (ref12_Range.j0 R) [(getL T 2), (getL T 3), (getL T 4), v12] s)
 (joinK (ref12_Range.j0 R) [(getL T 2), (getL T 3), (getL T 4), (getL T 5)] s)

noncomputable def ref12_Range (R : Caller) (x0 x1 : Value) (s : St) : Option (Value × St) :=
(abin Try.prog .gtr 3 (.tmp 7) (.const (.int .i64 0)) x1 (.int .i64 0)).bind fun v1 =>
condV v1
 ((abin Try.prog .sub 3 (.tmp 10) (.const (.int .i64 1)) x1 (.int .i64 1)).bind fun v2 =>
(aindexS 1 x0 v2).bind fun v3 =>
(aload false 1 v3 s).bind fun v4 =>
(lstore 1 lptr v4 (.agg #[(.string ⟨#[]⟩), (.string ⟨#[]⟩)])).bind fun v5 =>
joinK (ref12_Range.j1 R) [x0, x1, lptr, lptr, (.agg #[(.string ⟨#[]⟩), (.string ⟨#[]⟩)]), v5] s)
 (joinK (ref12_Range.j1 R) [x0, x1, lptr, lptr, (.agg #[(.string ⟨#[]⟩), (.string ⟨#[]⟩)]), (.agg #[(.string ⟨#[]⟩), (.string ⟨#[]⟩)])] s)

theorem ref12_Range_of {lib : Lib} (hl : lib 15 = none) {x0 x1 : Value} {s : St} {r : Value × St} (h : ref12_Range (run Try.prog lib hints) x0 x1 s = some r) : run Try.prog lib hints 15 [x0, x1] s = some r :=
  run_of hl Try.func15 (Eq.trans (by kernel_rfl) h)

theorem ref12_Range_ok : funcOk Try.prog 15 = true := by kernel_rfl
theorem ref12_Range_call {R : Caller} {xs : List Value} {s : St} : callV Try.prog R (.func (.func 15) #[] #[]) xs s = R 15 xs s := callV_eq ref12_Range_ok

/-! ### sumpter/sumpterref04.SameMap: 16 -/

noncomputable def ref04_SameMap.b0 (R : Caller) (T : List Value) (s : St) : Res :=
(abin Try.prog .lss 3 (.tmp 13) (.tmp 12) (getL T 3) (getL T 2)).bind fun v4 =>
condV v4
 ((aindexS 2 (getL T 0) (getL T 3)).bind fun v5 =>
((aload true 2 v5 (frzS s)).bind fun v12 =>
some (v12, (frzS s))).bind fun r6 =>
(aindexS 2 (getL T 1) (getL T 3)).bind fun v7 =>
((aload true 2 v7 (frzS s)).bind fun v11 =>
some (v11, (frzS s))).bind fun r8 =>
(abin Try.prog .neq 75 (.tmp 19) (.tmp 23) r6.1 r8.1).bind fun v9 =>
condV v9
 (some (.ret, [(.bool false)], s))
 ((abin Try.prog .add 3 (.tmp 13) (.const (.int .i64 1)) (getL T 3) (.int .i64 1)).bind fun v10 =>
some (.normal, [(getL T 0), (getL T 1), (getL T 2), v10], s)))
 (some (.exit 0, [], s))

noncomputable def ref04_SameMap (R : Caller) (x0 x1 : Value) (s : St) : Option (Value × St) :=
(alenV (.slice 75) x0 s).bind fun v0 =>
(alenV (.slice 75) x1 s).bind fun v1 =>
(abin Try.prog .neq 3 (.tmp 7) (.tmp 9) v0 v1).bind fun v2 =>
condV v2
 (retV [(.bool false)] s)
 ((alenV (.slice 75) x0 s).bind fun v3 =>
(loopL (ref04_SameMap.b0 R) [x0, x1, v3, (.int .i64 0)] s).bind fun r13 =>
exV r13.1 [(0, retV [(.bool true)] r13.2.2)]
 (retV [(getL r13.2.1 0)] r13.2.2))

theorem ref04_SameMap_of {lib : Lib} (hl : lib 16 = none) {x0 x1 : Value} {s : St} {r : Value × St} (h : ref04_SameMap (run Try.prog lib hints) x0 x1 s = some r) : run Try.prog lib hints 16 [x0, x1] s = some r :=
  run_of hl Try.func16 (Eq.trans (by kernel_rfl) h)

theorem ref04_SameMap_ok : funcOk Try.prog 16 = true := by kernel_rfl
theorem ref04_SameMap_call {R : Caller} {xs : List Value} {s : St} : callV Try.prog R (.func (.func 16) #[] #[]) xs s = R 16 xs s := callV_eq ref04_SameMap_ok

/-! ### sumpter/sumpterref02.CheckKey: 17 -/

noncomputable def ref02_CheckKey (R : Caller) (x0 : Value) (s : St) : Option (Value × St) :=
(alenV .string x0 s).bind fun v0 =>
(abin Try.prog .lss 3 (.tmp 4) (.const (.int .i64 1)) v0 (.int .i64 1)).bind fun v1 =>
(guardV v1 false ((alenV .string x0 s).bind fun v2 =>
(abin Try.prog .gtr 3 (.tmp 8) (.const (.int .i64 12)) v2 (.int .i64 12)).bind fun v3 =>
some ([v3], s)) (some ([undef], s))).bind fun q4 =>
(apick v1 (.bool true) (getL q4.1 0)).bind fun v5 =>
condV v5
 (retV [(.int .i64 20)] q4.2)
 (retV [(.int .i64 0)] q4.2)

theorem ref02_CheckKey_of {lib : Lib} (hl : lib 17 = none) {x0 : Value} {s : St} {r : Value × St} (h : ref02_CheckKey (run Try.prog lib hints) x0 s = some r) : run Try.prog lib hints 17 [x0] s = some r :=
  run_of hl Try.func17 (Eq.trans (by kernel_rfl) h)

theorem ref02_CheckKey_ok : funcOk Try.prog 17 = true := by kernel_rfl
theorem ref02_CheckKey_call {R : Caller} {xs : List Value} {s : St} : callV Try.prog R (.func (.func 17) #[] #[]) xs s = R 17 xs s := callV_eq ref02_CheckKey_ok

/-! ### sumpter/op.CheckMap: 18 -/

noncomputable def op_CheckMap.b0 (R : Caller) (T : List Value) (s : St) : Res :=
(abin Try.prog .lss 3 (.tmp 8) (.tmp 7) (getL T 3) (getL T 2)).bind fun v1 =>
condV v1
 ((aindexS 2 (getL T 1) (getL T 3)).bind fun v2 =>
(aload true 2 v2 s).bind fun v3 =>
(lstore 2 lptr v3 (.agg #[(.string ⟨#[]⟩), (.string ⟨#[]⟩)])).bind fun v4 =>
(lload false 1 lptr v4).bind fun v5 =>
(callV Try.prog R (.func (.func 31) #[] #[]) [v5] s).bind fun r6 =>
(abin Try.prog .neq 26 (.tmp 15) (.const (.int .i64 0)) r6.1 (.int .i64 0)).bind fun v7 =>
condV v7
 (some (.ret, [(.int .i64 20)], r6.2))
 ((lload false 1 (.pointer (some ⟨0, 1, none⟩)) v4).bind fun v8 =>
(alenV .string v8 r6.2).bind fun v9 =>
(abin Try.prog .gtr 3 (.tmp 20) (.const (.int .i64 16)) v9 (.int .i64 16)).bind fun v10 =>
condV v10
 (some (.ret, [(.int .i64 2)], r6.2))
 ((lload false 1 lptr v4).bind fun v11 =>
(abin Try.prog .leq 9 (.tmp 24) (.tmp 25) v11 (getL T 0)).bind fun v12 =>
condV v12
 (some (.ret, [(.int .i64 1)], r6.2))
 ((lload false 1 lptr v4).bind fun v13 =>
(abin Try.prog .add 3 (.tmp 8) (.const (.int .i64 1)) (getL T 3) (.int .i64 1)).bind fun v14 =>
some (.normal, [v13, (getL T 1), (getL T 2), v14], r6.2)))))
 (some (.exit 0, [], s))

noncomputable def op_CheckMap (R : Caller) (x0 : Value) (s : St) : Option (Value × St) :=
(alenV (.slice 75) x0 s).bind fun v0 =>
(loopL (op_CheckMap.b0 R) [(.string ⟨#[]⟩), x0, v0, (.int .i64 0)] s).bind fun r15 =>
exV r15.1 [(0, retV [(.int .i64 0)] r15.2.2)]
 (retV [(getL r15.2.1 0)] r15.2.2)

theorem op_CheckMap_of {lib : Lib} (hl : lib 18 = none) {x0 : Value} {s : St} {r : Value × St} (h : op_CheckMap (run Try.prog lib hints) x0 s = some r) : run Try.prog lib hints 18 [x0] s = some r :=
  run_of hl Try.func18 (Eq.trans (by kernel_rfl) h)

theorem op_CheckMap_ok : funcOk Try.prog 18 = true := by kernel_rfl
theorem op_CheckMap_call {R : Caller} {xs : List Value} {s : St} : callV Try.prog R (.func (.func 18) #[] #[]) xs s = R 18 xs s := callV_eq op_CheckMap_ok

/-! ### sumpter/sumpterref04.Find: 19 -/

noncomputable def ref04_Find.b0 (R : Caller) (T : List Value) (s : St) : Res :=
(abin Try.prog .lss 3 (.tmp 10) (.tmp 9) (getL T 3) (getL T 2)).bind fun v1 =>
condV v1
 ((aindexS 2 (getL T 1) (getL T 3)).bind fun v2 =>
(aload true 2 v2 s).bind fun v3 =>
(lstore 2 lptr v3 (.agg #[(.string ⟨#[]⟩), (.string ⟨#[]⟩)])).bind fun v4 =>
(lload false 1 lptr v4).bind fun v5 =>
(abin Try.prog .eql 9 (.tmp 15) (.tmp 16) v5 (getL T 0)).bind fun v6 =>
condV v6
 ((lload false 1 (.pointer (some ⟨0, 1, none⟩)) v4).bind fun v7 =>
some (.ret, [v7, (.bool true)], s))
 ((abin Try.prog .add 3 (.tmp 10) (.const (.int .i64 1)) (getL T 3) (.int .i64 1)).bind fun v8 =>
some (.normal, [(getL T 0), (getL T 1), (getL T 2), v8], s)))
 (some (.exit 0, [], s))

noncomputable def ref04_Find (R : Caller) (x0 x1 : Value) (s : St) : Option (Value × St) :=
(alenV (.slice 75) x0 s).bind fun v0 =>
(loopL (ref04_Find.b0 R) [x1, x0, v0, (.int .i64 0)] s).bind fun r9 =>
exV r9.1 [(0, retV [(.string ⟨#[]⟩), (.bool false)] r9.2.2)]
 (retV [(getL r9.2.1 0), (getL r9.2.1 1)] r9.2.2)

theorem ref04_Find_of {lib : Lib} (hl : lib 19 = none) {x0 x1 : Value} {s : St} {r : Value × St} (h : ref04_Find (run Try.prog lib hints) x0 x1 s = some r) : run Try.prog lib hints 19 [x0, x1] s = some r :=
  run_of hl Try.func19 (Eq.trans (by kernel_rfl) h)

theorem ref04_Find_ok : funcOk Try.prog 19 = true := by kernel_rfl
theorem ref04_Find_call {R : Caller} {xs : List Value} {s : St} : callV Try.prog R (.func (.func 19) #[] #[]) xs s = R 19 xs s := callV_eq ref04_Find_ok

/-! ### sumpter/buffer.Merge: 20 -/

noncomputable def buffer_Merge (R : Caller) (x0 x1 : Value) (s : St) : Option (Value × St) :=
(callV Try.prog R (.func (.func 10) #[] #[]) [x0] s).bind fun r0 =>
(abin Try.prog .neq 26 (.tmp 11) (.const (.int .i64 0)) r0.1 (.int .i64 0)).bind fun v1 =>
condV v1
 (retV [(.slice none 0 0), r0.1] r0.2)
 ((callV Try.prog R (.func (.func 10) #[] #[]) [x1] r0.2).bind fun r2 =>
(abin Try.prog .neq 26 (.tmp 16) (.const (.int .i64 0)) r2.1 (.int .i64 0)).bind fun v3 =>
condV v3
 (retV [(.slice none 0 0), r2.1] r2.2)
 ((abuildSl 1 [(.slice none 0 0)] 2 [(0, x0), (1, x1)] r2.2).bind fun r4 =>
(callV Try.prog R (.func (.func 38) #[] #[]) [r4.1] r4.2).bind fun r5 =>
(callV Try.prog R (.func (.func 39) #[] #[]) [r5.1, (.func (.func 40) #[] #[])] r5.2).bind fun r6 =>
(callV Try.prog R (.func (.func 10) #[] #[]) [r5.1] r6.2).bind fun r7 =>
(abin Try.prog .neq 26 (.tmp 26) (.const (.int .i64 0)) r7.1 (.int .i64 0)).bind fun v8 =>
condV v8
 (retV [(.slice none 0 0), (.int .i64 1)] r7.2)
 (retV [r5.1, (.int .i64 0)] r7.2)))

theorem buffer_Merge_of {lib : Lib} (hl : lib 20 = none) {x0 x1 : Value} {s : St} {r : Value × St} (h : buffer_Merge (run Try.prog lib hints) x0 x1 s = some r) : run Try.prog lib hints 20 [x0, x1] s = some r :=
  run_of hl Try.func20 (Eq.trans (by kernel_rfl) h)

theorem buffer_Merge_ok : funcOk Try.prog 20 = true := by kernel_rfl
theorem buffer_Merge_call {R : Caller} {xs : List Value} {s : St} : callV Try.prog R (.func (.func 20) #[] #[]) xs s = R 20 xs s := callV_eq buffer_Merge_ok

/-! ### sumpter/sumpterref12.Same: 21 -/

noncomputable def ref12_Same.b0 (R : Caller) (T : List Value) (s : St) : Res :=
(abin Try.prog .lss 3 (.tmp 13) (.tmp 12) (getL T 3) (getL T 2)).bind fun v4 =>
condV v4
 ((aindexS 7 (getL T 0) (getL T 3)).bind fun v5 =>
((aload true 7 v5 (frzS s)).bind fun v12 =>
some (v12, (frzS s))).bind fun r6 =>
(aindexS 7 (getL T 1) (getL T 3)).bind fun v7 =>
((aload true 7 v7 (frzS s)).bind fun v11 =>
some (v11, (frzS s))).bind fun r8 =>
(abin Try.prog .neq 52 (.tmp 19) (.tmp 23) r6.1 r8.1).bind fun v9 =>
condV v9
 (some (.ret, [(.bool false)], s))
 ((abin Try.prog .add 3 (.tmp 13) (.const (.int .i64 1)) (getL T 3) (.int .i64 1)).bind fun v10 =>
some (.normal, [(getL T 0), (getL T 1), (getL T 2), v10], s)))
 (some (.exit 0, [], s))

noncomputable def ref12_Same (R : Caller) (x0 x1 : Value) (s : St) : Option (Value × St) :=
(alenV (.slice 52) x0 s).bind fun v0 =>
(alenV (.slice 52) x1 s).bind fun v1 =>
(abin Try.prog .neq 3 (.tmp 7) (.tmp 9) v0 v1).bind fun v2 =>
condV v2
 (retV [(.bool false)] s)
 ((alenV (.slice 52) x0 s).bind fun v3 =>
(loopL (ref12_Same.b0 R) [x0, x1, v3, (.int .i64 0)] s).bind fun r13 =>
exV r13.1 [(0, retV [(.bool true)] r13.2.2)]
 (retV [(getL r13.2.1 0)] r13.2.2))

theorem ref12_Same_of {lib : Lib} (hl : lib 21 = none) {x0 x1 : Value} {s : St} {r : Value × St} (h : ref12_Same (run Try.prog lib hints) x0 x1 s = some r) : run Try.prog lib hints 21 [x0, x1] s = some r :=
  run_of hl Try.func21 (Eq.trans (by kernel_rfl) h)

theorem ref12_Same_ok : funcOk Try.prog 21 = true := by kernel_rfl
theorem ref12_Same_call {R : Caller} {xs : List Value} {s : St} : callV Try.prog R (.func (.func 21) #[] #[]) xs s = R 21 xs s := callV_eq ref12_Same_ok

/-! ### sumpter/buffer.Squeeze: 22 -/

noncomputable def buffer_Squeeze.A (R : Caller) (T : List Value) (s : St) : Res :=
(anew (cellsV (getL T 0)) s).bind fun r0 =>
some (.normal, [r0.1], r0.2)

theorem buffer_Squeeze.A_eq (R : Caller) (T : List Value) (s : St) : codeB Try.prog R [] loopL 33 (sel [0] (bodyOf Try.f22)) ⟨2, [], 2⟩ (ofL [0] 0 T noT) s (fun e T s => some (e, toL [1] T, s)) = buffer_Squeeze.A R T s := by kernel_rfl

theorem buffer_Squeeze.A_w : codeW 33 (sel [0] (bodyOf Try.f22)) = true := by kernel_rfl

noncomputable def buffer_Squeeze.B (R : Caller) (T : List Value) (s : St) : Res :=
(aload false 1 (getL T 0) s).bind fun v0 =>
(callV Try.prog R (.func (.func 10) #[] #[]) [v0] s).bind fun r1 =>
(abin Try.prog .neq 26 (.tmp 11) (.const (.int .i64 0)) r1.1 (.int .i64 0)).bind fun v2 =>
condV v2
 (some (.ret, [(getL T 0), (.slice none 0 0), r1.1], r1.2))
 (some (.normal, [(getL T 0), (getL T 1), (getL T 2)], r1.2))

theorem buffer_Squeeze.B_eq (R : Caller) (T : List Value) (s : St) : codeB Try.prog R [] loopL 33 (sel [1, 0] (bodyOf Try.f22)) ⟨14, [], 14⟩ (ofL [1, 2, 3] 0 T noT) s (fun e T s => some (e, toL [1, 2, 3] T, s)) = buffer_Squeeze.B R T s := by kernel_rfl

theorem buffer_Squeeze.B_w : codeW 33 (sel [1, 0] (bodyOf Try.f22)) = true := by kernel_rfl

noncomputable def buffer_Squeeze.C (R : Caller) (T : List Value) (s : St) : Res :=
(anew [(.slice none 0 0)] s).bind fun r0 =>
some (.normal, [(getL T 0), r0.1], r0.2)

theorem buffer_Squeeze.C_eq (R : Caller) (T : List Value) (s : St) : codeB Try.prog R [] loopL 33 (sel [1, 1, 0] (bodyOf Try.f22)) ⟨34, [], 34⟩ (ofL [1] 0 T noT) s (fun e T s => some (e, toL [1, 5] T, s)) = buffer_Squeeze.C R T s := by kernel_rfl

theorem buffer_Squeeze.C_w : codeW 33 (sel [1, 1, 0] (bodyOf Try.f22)) = true := by kernel_rfl

noncomputable def buffer_Squeeze.D (R : Caller) (T : List Value) (s : St) : Res :=
(aload false 1 (getL T 0) s).bind fun v0 =>
(callV Try.prog R (.func (.func 24) #[] #[]) [v0] s).bind fun r1 =>
some (.normal, [(getL T 0), (getL T 1), r1.1], r1.2)

theorem buffer_Squeeze.D_eq (R : Caller) (T : List Value) (s : St) : codeB Try.prog R [] loopL 33 (sel [1, 1, 1, 0, 0] (bodyOf Try.f22)) ⟨32802, [], 32802⟩ (ofL [1, 5] 0 T noT) s (fun e T s => some (e, toL [1, 5, 15] T, s)) = buffer_Squeeze.D R T s := by kernel_rfl

theorem buffer_Squeeze.D_w : codeW 33 (sel [1, 1, 1, 0, 0] (bodyOf Try.f22)) = true := by kernel_rfl

noncomputable def buffer_Squeeze.as (R : Caller) (T : List Value) (s : St) : Res :=
(anew [(.int .i64 0), (.string ⟨#[]⟩), (.string ⟨#[]⟩), (.string ⟨#[]⟩), (.string ⟨#[]⟩), (.int .i64 0)] s).bind fun r0 =>
(astore 6 r0.1 (getL T 3) r0.2).bind fun s1 =>
some (.normal, [(getL T 0), (getL T 1), (getL T 2), r0.1], s1)

theorem buffer_Squeeze.as_eq (R : Caller) (T : List Value) (s : St) : codeB Try.prog R [] loopL 33 (sel [1, 1, 1, 0, 1, 2, 3] (bodyOf Try.f22)) ⟨226, [], 226⟩ (ofL [1, 5, 16, 17] 0 T noT) s (fun e T s => some (e, toL [1, 5, 6, 7] T, s)) = buffer_Squeeze.as R T s := by kernel_rfl

theorem buffer_Squeeze.as_w : codeW 33 (sel [1, 1, 1, 0, 1, 2, 3] (bodyOf Try.f22)) = true := by kernel_rfl

noncomputable def buffer_Squeeze.bd (R : Caller) (T : List Value) (s : St) : Res :=
(aload false 1 (getL T 1) s).bind fun v0 =>
(amkFunc 43 [] [(getL T 3)]).bind fun v1 =>
(callV Try.prog R (.func (.func 42) #[] #[]) [v0, v1] s).bind fun r2 =>
(aun .not r2.1).bind fun v3 =>
condV v3
 (((aload false 1 (getL T 1) (frzS r2.2)).bind fun v16 =>
some (v16, (frzS r2.2))).bind fun r4 =>
((aload false 1 (getL T 0) (frzS r2.2)).bind fun v15 =>
some (v15, (frzS r2.2))).bind fun r5 =>
(aindexS 7 r5.1 (getL T 2)).bind fun v6 =>
((aload true 7 v6 (frzS r2.2)).bind fun v14 =>
some (v14, (frzS r2.2))).bind fun r7 =>
(((abuildSl 7 [(.int .u64 0), (.int .i64 0), (.string ⟨#[]⟩), (.string ⟨#[]⟩), (.string ⟨#[]⟩), (.string ⟨#[]⟩), (.int .i64 0)] 1 [(0, r7.1)] (frzS r2.2)).bind fun r13 =>
some (r13.1, r13.2)).map (quietR r2.2)).bind fun r8 =>
(((aappend 7 88 r4.1 r8.1 r8.2).bind fun r12 =>
some (r12.1, r12.2)).bind (ownR r8.2)).bind fun r9 =>
(((astore 1 (getL T 1) r9.1 r9.2).bind fun s11 =>
some (undef, s11)).bind (ownR r9.2)).bind fun r10 =>
some (.normal, [], r10.2))
 (some (.normal, [], r2.2))

theorem buffer_Squeeze.bd_eq (R : Caller) (T : List Value) (s : St) : codeB Try.prog R [] loopL 33 (sel [1, 1, 1, 0, 1, 2, 4] (bodyOf Try.f22)) ⟨0, [], 0⟩ (ofL [1, 5, 6, 7] 0 T noT) s (fun e T s => some (e, toL [] T, s)) = buffer_Squeeze.bd R T s := by kernel_rfl

theorem buffer_Squeeze.bd_w : codeW 33 (sel [1, 1, 1, 0, 1, 2, 4] (bodyOf Try.f22)) = true := by kernel_rfl

noncomputable def buffer_Squeeze.E (R : Caller) (T : List Value) (s : St) : Res :=
(aload false 1 (getL T 0) s).bind fun v0 =>
(callV Try.prog R (.func (.func 45) #[] #[]) [v0] s).bind fun r1 =>
(aload false 1 (getL T 0) r1.2).bind fun v2 =>
some (.ret, [v2, (.int .i64 0)], r1.2)

theorem buffer_Squeeze.E_eq (R : Caller) (T : List Value) (s : St) : codeB Try.prog R [] loopL 33 (sel [1, 1, 1, 1] (bodyOf Try.f22)) ⟨12, [], 12⟩ (ofL [5] 0 T noT) s (fun e T s => some (e, toL [2, 3] T, s)) = buffer_Squeeze.E R T s := by kernel_rfl

theorem buffer_Squeeze.E_w : codeW 33 (sel [1, 1, 1, 1] (bodyOf Try.f22)) = true := by kernel_rfl

theorem buffer_Squeeze_ok : funcOk Try.prog 22 = true := by kernel_rfl
theorem buffer_Squeeze_call {R : Caller} {xs : List Value} {s : St} : callV Try.prog R (.func (.func 22) #[] #[]) xs s = R 22 xs s := callV_eq buffer_Squeeze_ok

/-! ### sumpter/sumpterlaw12.few: 23 -/

noncomputable def law12_few (R : Caller) (s : St) : Option (Value × St) :=
(abuildSl 7 [(.int .u64 0), (.int .i64 0), (.string ⟨#[]⟩), (.string ⟨#[]⟩), (.string ⟨#[]⟩), (.string ⟨#[]⟩), (.int .i64 0)] 3 [(0, (.agg #[(.int .u64 1), (.int .i64 2), (.string ⟨#[97]⟩), (.string ⟨#[120]⟩), (.string ⟨#[]⟩), (.string ⟨#[]⟩), (.int .i64 0)])), (1, (.agg #[(.int .u64 2), (.int .i64 5), (.string ⟨#[]⟩), (.string ⟨#[]⟩), (.string ⟨#[97]⟩), (.string ⟨#[99]⟩), (.int .i64 0)])), (2, (.agg #[(.int .u64 3), (.int .i64 2), (.string ⟨#[98]⟩), (.string ⟨#[121]⟩), (.string ⟨#[]⟩), (.string ⟨#[]⟩), (.int .i64 0)]))] s).bind fun r0 =>
retV [r0.1] r0.2

theorem law12_few_of {lib : Lib} (hl : lib 23 = none) {s : St} {r : Value × St} (h : law12_few (run Try.prog lib hints)  s = some r) : run Try.prog lib hints 23 [] s = some r :=
  run_of hl Try.func23 (Eq.trans (by kernel_rfl) h)

theorem law12_few_ok : funcOk Try.prog 23 = true := by kernel_rfl
theorem law12_few_call {R : Caller} {xs : List Value} {s : St} : callV Try.prog R (.func (.func 23) #[] #[]) xs s = R 23 xs s := callV_eq law12_few_ok

/-! ### sumpter/buffer.behind: 24 -/

noncomputable def buffer_behind (R : Caller) (x0 : Value) (s : St) : Option (Value × St) :=
(anew (cellsV x0) s).bind fun r0 =>
(amkFunc 46 [] [r0.1]).bind fun v1 =>
retV [v1] r0.2

theorem buffer_behind_of {lib : Lib} (hl : lib 24 = none) {x0 : Value} {s : St} {r : Value × St} (h : buffer_behind (run Try.prog lib hints) x0 s = some r) : run Try.prog lib hints 24 [x0] s = some r :=
  run_of hl Try.func24 (Eq.trans (by kernel_rfl) h)

theorem buffer_behind_ok : funcOk Try.prog 24 = true := by kernel_rfl
theorem buffer_behind_call {R : Caller} {xs : List Value} {s : St} : callV Try.prog R (.func (.func 24) #[] #[]) xs s = R 24 xs s := callV_eq buffer_behind_ok

/-! ### sumpter/buffer.touches: 25 -/

noncomputable def buffer_touches.j0 (R : Caller) (T : List Value) (s : St) : Option (Value × St) :=
condV (getL T 3)
 ((afieldAddr 1 (getL T 1)).bind fun v4 =>
(lload false 1 v4 (getL T 4)).bind fun v5 =>
(abin Try.prog .eql 9 (.tmp 11) (.tmp 12) v5 (getL T 0)).bind fun v6 =>
retV [v6] s)
 ((abin Try.prog .eql 3 (.tmp 6) (.const (.int .i64 5)) (getL T 2) (.int .i64 5)).bind fun v7 =>
condV v7
 ((lload true 6 (getL T 1) (getL T 4)).bind fun v8 =>
(callV Try.prog R (.func (.func 34) #[] #[]) [v8] s).bind fun r9 =>
(callV Try.prog R (.func (.func 32) #[] #[]) [r9.1, (getL T 0)] r9.2).bind fun r10 =>
retV [r10.1] r10.2)
 (retV [(.bool false)] s))

noncomputable def buffer_touches (R : Caller) (x0 x1 : Value) (s : St) : Option (Value × St) :=
(lbox x0).bind fun v0 =>
(lload false 1 lptr v0).bind fun v1 =>
(abin Try.prog .eql 3 (.tmp 6) (.const (.int .i64 2)) v1 (.int .i64 2)).bind fun v3 =>
condV v3
 (joinK (buffer_touches.j0 R) [x1, lptr, v1, v3, v0] s)
 ((abin Try.prog .eql 3 (.tmp 6) (.const (.int .i64 3)) v1 (.int .i64 3)).bind fun v11 =>
joinK (buffer_touches.j0 R) [x1, lptr, v1, v11, v0] s)

theorem buffer_touches_of {lib : Lib} (hl : lib 25 = none) {x0 x1 : Value} {s : St} {r : Value × St} (h : buffer_touches (run Try.prog lib hints) x0 x1 s = some r) : run Try.prog lib hints 25 [x0, x1] s = some r :=
  run_of hl Try.func25 (Eq.trans (by kernel_rfl) h)

theorem buffer_touches_ok : funcOk Try.prog 25 = true := by kernel_rfl
theorem buffer_touches_call {R : Caller} {xs : List Value} {s : St} : callV Try.prog R (.func (.func 25) #[] #[]) xs s = R 25 xs s := callV_eq buffer_touches_ok

/-! ### sumpter/sumpterref12.Touches: 26 -/

noncomputable def ref12_Touches (R : Caller) (x0 x1 : Value) (s : St) : Option (Value × St) :=
(lbox x0).bind fun v0 =>
(lload false 1 lptr v0).bind fun v1 =>
(abin Try.prog .eql 3 (.tmp 6) (.const (.int .i64 5)) v1 (.int .i64 5)).bind fun v2 =>
condV v2
 ((lload false 1 (.pointer (some ⟨0, 3, none⟩)) v0).bind fun v3 =>
(lload false 1 (.pointer (some ⟨0, 4, none⟩)) v0).bind fun v4 =>
(abuild Try.prog 38 [(0, v3), (1, v4)]).bind fun v5 =>
(callV Try.prog R (.func (.func 37) #[] #[]) [v5, x1] s).bind fun r6 =>
retV [r6.1] r6.2)
 ((lload false 1 lptr v0).bind fun v7 =>
(abin Try.prog .eql 3 (.tmp 16) (.const (.int .i64 2)) v7 (.int .i64 2)).bind fun v8 =>
(guardV v8 false ((lload false 1 lptr v0).bind fun v9 =>
(abin Try.prog .eql 3 (.tmp 20) (.const (.int .i64 3)) v9 (.int .i64 3)).bind fun v10 =>
some ([v10], s)) (some ([undef], s))).bind fun q11 =>
(apick v8 (.bool true) (getL q11.1 0)).bind fun v12 =>
(guardV v12 true ((lload false 1 (.pointer (some ⟨0, 1, none⟩)) v0).bind fun v13 =>
(abin Try.prog .eql 9 (.tmp 25) (.tmp 26) v13 x1).bind fun v14 =>
some ([v14], q11.2)) (some ([undef], q11.2))).bind fun q15 =>
(apick v12 (getL q15.1 0) (.bool false)).bind fun v16 =>
retV [v16] q15.2)

theorem ref12_Touches_of {lib : Lib} (hl : lib 26 = none) {x0 x1 : Value} {s : St} {r : Value × St} (h : ref12_Touches (run Try.prog lib hints) x0 x1 s = some r) : run Try.prog lib hints 26 [x0, x1] s = some r :=
  run_of hl Try.func26 (Eq.trans (by kernel_rfl) h)

theorem ref12_Touches_ok : funcOk Try.prog 26 = true := by kernel_rfl
theorem ref12_Touches_call {R : Caller} {xs : List Value} {s : St} : callV Try.prog R (.func (.func 26) #[] #[]) xs s = R 26 xs s := callV_eq ref12_Touches_ok

/-! ### sumpter/op.CheckOp: 27 -/

noncomputable def op_CheckOp.j0 (R : Caller) (T : List Value) (s : St) : Option (Value × St) :=
condV (getL T 2)
 (retV [(.int .i64 40)] s)
 ((afieldAddr 0 (getL T 1)).bind fun v8 =>
(lload false 1 v8 (getL T 4)).bind fun v9 =>
(guardV v9 true ((afieldAddr 1 (getL T 0)).bind fun v10 =>
(lload false 1 v10 (getL T 3)).bind fun v11 =>
(callV Try.prog R (.func (.func 31) #[] #[]) [v11] s).bind fun r12 =>
(abin Try.prog .neq 26 (.tmp 53) (.const (.int .i64 0)) r12.1 (.int .i64 0)).bind fun v13 =>
some ([v13], r12.2)) (some ([undef], s))).bind fun q14 =>
(apick v9 (getL q14.1 0) (.bool false)).bind fun v15 =>
condV v15
 (retV [(.int .i64 20)] q14.2)
 ((afieldAddr 2 (getL T 0)).bind fun v16 =>
(lload false 1 v16 (getL T 3)).bind fun v17 =>
(alenV .string v17 q14.2).bind fun v18 =>
(abin Try.prog .gtr 3 (.tmp 59) (.const (.int .i64 16)) v18 (.int .i64 16)).bind fun v19 =>
condV v19
 (retV [(.int .i64 2)] q14.2)
 ((afieldAddr 2 (getL T 1)).bind fun v20 =>
(lload false 1 v20 (getL T 4)).bind fun v21 =>
(guardV v21 true ((lload true 6 (getL T 0) (getL T 3)).bind fun v22 =>
(callV Try.prog R (.func (.func 48) #[] #[]) [v22] q14.2).bind fun r23 =>
(callV Try.prog R (.func (.func 49) #[] #[]) [r23.1] r23.2).bind fun r24 =>
(abin Try.prog .neq 26 (.tmp 67) (.const (.int .i64 0)) r24.1 (.int .i64 0)).bind fun v25 =>
some ([v25], r24.2)) (some ([undef], q14.2))).bind fun q26 =>
(apick v21 (getL q26.1 0) (.bool false)).bind fun v27 =>
condV v27
 (retV [(.int .i64 21)] q26.2)
 ((afieldAddr 3 (getL T 1)).bind fun v28 =>
(lload false 1 v28 (getL T 4)).bind fun v29 =>
(guardV v29 true ((afieldAddr 5 (getL T 0)).bind fun v30 =>
(lload false 1 v30 (getL T 3)).bind fun v31 =>
(abin Try.prog .lss 3 (.tmp 75) (.const (.int .i64 1)) v31 (.int .i64 1)).bind fun v32 =>
some ([v32], q26.2)) (some ([undef], q26.2))).bind fun q33 =>
(guardV (getL q33.1 0) false ((afieldAddr 5 (getL T 0)).bind fun v34 =>
(lload false 1 v34 (getL T 3)).bind fun v35 =>
(abin Try.prog .gtr 3 (.tmp 79) (.const (.int .i64 4)) v35 (.int .i64 4)).bind fun v36 =>
some ([v36], q33.2)) (some ([undef], q33.2))).bind fun q37 =>
(guardV v29 true ((apick (getL q33.1 0) (.bool true) (getL q37.1 0)).bind fun v38 =>
some ([v38], q37.2)) (some ([undef], q37.2))).bind fun q39 =>
(apick v29 (getL q39.1 0) (.bool false)).bind fun v40 =>
condV v40
 (retV [(.int .i64 1)] q39.2)
 (retV [(.int .i64 0)] q39.2)))))

noncomputable def op_CheckOp (R : Caller) (x0 : Value) (s : St) : Option (Value × St) :=
(lbox x0).bind fun v0 =>
(lload false 1 lptr v0).bind fun v1 =>
(callV Try.prog R (.func (.func 47) #[] #[]) [v1] s).bind fun r2 =>
(aextract 0 r2.1).bind fun v3 =>
(aextract 1 r2.1).bind fun v4 =>
(lstore 6 lptr v3 (.agg #[(.bool false), (.bool false), (.bool false), (.bool false), (.bool false), .nilFunc])).bind fun v5 =>
(aun .not v4).bind fun v7 =>
condV v7
 (joinK (op_CheckOp.j0 R) [lptr, lptr, v7, v0, v5] r2.2)
 ((lload false 1 lptr v5).bind fun v41 =>
(aun .not v41).bind fun v42 =>
(guardV v42 true ((lload false 1 (.pointer (some ⟨0, 1, none⟩)) v0).bind fun v43 =>
(abin Try.prog .neq 9 (.tmp 19) (.const (.string ⟨#[]⟩)) v43 (.string ⟨#[]⟩)).bind fun v44 =>
some ([v44], r2.2)) (some ([undef], r2.2))).bind fun q45 =>
(apick v42 (getL q45.1 0) (.bool false)).bind fun v46 =>
condV v46
 (joinK (op_CheckOp.j0 R) [lptr, lptr, v46, v0, v5] q45.2)
 ((lload false 1 (.pointer (some ⟨0, 1, none⟩)) v5).bind fun v47 =>
(aun .not v47).bind fun v48 =>
(guardV v48 true ((lload false 1 (.pointer (some ⟨0, 2, none⟩)) v0).bind fun v49 =>
(abin Try.prog .neq 9 (.tmp 27) (.const (.string ⟨#[]⟩)) v49 (.string ⟨#[]⟩)).bind fun v50 =>
some ([v50], q45.2)) (some ([undef], q45.2))).bind fun q51 =>
(apick v48 (getL q51.1 0) (.bool false)).bind fun v52 =>
condV v52
 (joinK (op_CheckOp.j0 R) [lptr, lptr, v52, v0, v5] q51.2)
 ((lload false 1 (.pointer (some ⟨0, 2, none⟩)) v5).bind fun v53 =>
(aun .not v53).bind fun v54 =>
(guardV v54 true ((lload true 6 lptr v0).bind fun v55 =>
(callV Try.prog R (.func (.func 48) #[] #[]) [v55] q51.2).bind fun r56 =>
(abin Try.prog .neq 38 (.tmp 35) (.tmp 36) r56.1 (.agg #[(.string ⟨#[]⟩), (.string ⟨#[]⟩)])).bind fun v57 =>
some ([v57], r56.2)) (some ([undef], q51.2))).bind fun q58 =>
(apick v54 (getL q58.1 0) (.bool false)).bind fun v59 =>
condV v59
 (joinK (op_CheckOp.j0 R) [lptr, lptr, v59, v0, v5] q58.2)
 ((lload false 1 (.pointer (some ⟨0, 3, none⟩)) v5).bind fun v60 =>
(aun .not v60).bind fun v61 =>
(guardV v61 true ((lload false 1 (.pointer (some ⟨0, 5, none⟩)) v0).bind fun v62 =>
(abin Try.prog .neq 3 (.tmp 44) (.const (.int .i64 0)) v62 (.int .i64 0)).bind fun v63 =>
some ([v63], q58.2)) (some ([undef], q58.2))).bind fun q64 =>
(apick v61 (getL q64.1 0) (.bool false)).bind fun v65 =>
joinK (op_CheckOp.j0 R) [lptr, lptr, v65, v0, v5] q64.2))))

theorem op_CheckOp_of {lib : Lib} (hl : lib 27 = none) {x0 : Value} {s : St} {r : Value × St} (h : op_CheckOp (run Try.prog lib hints) x0 s = some r) : run Try.prog lib hints 27 [x0] s = some r :=
  run_of hl Try.func27 (Eq.trans (by kernel_rfl) h)

theorem op_CheckOp_ok : funcOk Try.prog 27 = true := by kernel_rfl
theorem op_CheckOp_call {R : Caller} {xs : List Value} {s : St} : callV Try.prog R (.func (.func 27) #[] #[]) xs s = R 27 xs s := callV_eq op_CheckOp_ok

/-! ### sumpter/op.Writes: 28 -/

noncomputable def op_Writes (R : Caller) (x0 : Value) (s : St) : Option (Value × St) :=
(lbox x0).bind fun v0 =>
(lload false 1 lptr v0).bind fun v1 =>
(callV Try.prog R (.func (.func 47) #[] #[]) [v1] s).bind fun r2 =>
(aextract 0 r2.1).bind fun v3 =>
(aextract 1 r2.1).bind fun v4 =>
(lstore 6 lptr v3 (.agg #[(.bool false), (.bool false), (.bool false), (.bool false), (.bool false), .nilFunc])).bind fun v5 =>
(lload false 1 (.pointer (some ⟨0, 4, none⟩)) v5).bind fun v6 =>
retV [v6] r2.2

theorem op_Writes_of {lib : Lib} (hl : lib 28 = none) {x0 : Value} {s : St} {r : Value × St} (h : op_Writes (run Try.prog lib hints) x0 s = some r) : run Try.prog lib hints 28 [x0] s = some r :=
  run_of hl Try.func28 (Eq.trans (by kernel_rfl) h)

theorem op_Writes_ok : funcOk Try.prog 28 = true := by kernel_rfl
theorem op_Writes_call {R : Caller} {xs : List Value} {s : St} : callV Try.prog R (.func (.func 28) #[] #[]) xs s = R 28 xs s := callV_eq op_Writes_ok

/-! ### sumpter/sumpterref04.CheckOp: 29 -/

noncomputable def ref04_CheckOp (R : Caller) (x0 : Value) (s : St) : Option (Value × St) :=
(lbox x0).bind fun v0 =>
(lload false 1 lptr v0).bind fun v1 =>
(abin Try.prog .eql 3 (.tmp 6) (.const (.int .i64 1)) v1 (.int .i64 1)).bind fun v2 =>
(guardV v2 false ((lload false 1 lptr v0).bind fun v3 =>
(abin Try.prog .eql 3 (.tmp 10) (.const (.int .i64 2)) v3 (.int .i64 2)).bind fun v4 =>
some ([v4], s)) (some ([undef], s))).bind fun q5 =>
(apick v2 (.bool true) (getL q5.1 0)).bind fun v6 =>
(guardV v6 false ((lload false 1 lptr v0).bind fun v7 =>
(abin Try.prog .eql 3 (.tmp 15) (.const (.int .i64 3)) v7 (.int .i64 3)).bind fun v8 =>
some ([v8], q5.2)) (some ([undef], q5.2))).bind fun q9 =>
(apick v6 (.bool true) (getL q9.1 0)).bind fun v10 =>
(lload false 1 lptr v0).bind fun v11 =>
(abin Try.prog .eql 3 (.tmp 19) (.const (.int .i64 4)) v11 (.int .i64 4)).bind fun v12 =>
(guardV v12 false ((lload false 1 lptr v0).bind fun v13 =>
(abin Try.prog .eql 3 (.tmp 23) (.const (.int .i64 5)) v13 (.int .i64 5)).bind fun v14 =>
some ([v14], q9.2)) (some ([undef], q9.2))).bind fun q15 =>
(apick v12 (.bool true) (getL q15.1 0)).bind fun v16 =>
(aun .not v10).bind fun v17 =>
(guardV v17 true ((aun .not v16).bind fun v18 =>
some ([v18], q15.2)) (some ([undef], q15.2))).bind fun q19 =>
(apick v17 (getL q19.1 0) (.bool false)).bind fun v20 =>
(guardV v20 false (some ([v10], q19.2)) (some ([undef], q19.2))).bind fun q21 =>
(guardV (getL q21.1 0) true ((lload false 1 (.pointer (some ⟨0, 3, none⟩)) v0).bind fun v22 =>
(abin Try.prog .neq 9 (.tmp 36) (.const (.string ⟨#[]⟩)) v22 (.string ⟨#[]⟩)).bind fun v23 =>
some ([v23], q21.2)) (some ([undef], q21.2))).bind fun q24 =>
(guardV (getL q24.1 0) false ((lload false 1 (.pointer (some ⟨0, 4, none⟩)) v0).bind fun v25 =>
(abin Try.prog .neq 9 (.tmp 40) (.const (.string ⟨#[]⟩)) v25 (.string ⟨#[]⟩)).bind fun v26 =>
some ([v26], q24.2)) (some ([undef], q24.2))).bind fun q27 =>
(guardV (getL q21.1 0) true ((apick (getL q24.1 0) (.bool true) (getL q27.1 0)).bind fun v28 =>
some ([v28], q27.2)) (some ([undef], q27.2))).bind fun q29 =>
(guardV v20 false ((apick (getL q21.1 0) (getL q29.1 0) (.bool false)).bind fun v30 =>
some ([v30], q29.2)) (some ([undef], q29.2))).bind fun q31 =>
(apick v20 (.bool true) (getL q31.1 0)).bind fun v32 =>
(guardV v32 false (some ([v16], q31.2)) (some ([undef], q31.2))).bind fun q33 =>
(guardV (getL q33.1 0) true ((lload false 1 (.pointer (some ⟨0, 1, none⟩)) v0).bind fun v34 =>
(abin Try.prog .neq 9 (.tmp 49) (.const (.string ⟨#[]⟩)) v34 (.string ⟨#[]⟩)).bind fun v35 =>
some ([v35], q33.2)) (some ([undef], q33.2))).bind fun q36 =>
(guardV v32 false ((apick (getL q33.1 0) (getL q36.1 0) (.bool false)).bind fun v37 =>
some ([v37], q36.2)) (some ([undef], q36.2))).bind fun q38 =>
(apick v32 (.bool true) (getL q38.1 0)).bind fun v39 =>
(guardV v39 false ((lload false 1 lptr v0).bind fun v40 =>
(abin Try.prog .neq 3 (.tmp 55) (.const (.int .i64 2)) v40 (.int .i64 2)).bind fun v41 =>
some ([v41], q38.2)) (some ([undef], q38.2))).bind fun q42 =>
(guardV (getL q42.1 0) true ((lload false 1 (.pointer (some ⟨0, 2, none⟩)) v0).bind fun v43 =>
(abin Try.prog .neq 9 (.tmp 59) (.const (.string ⟨#[]⟩)) v43 (.string ⟨#[]⟩)).bind fun v44 =>
some ([v44], q42.2)) (some ([undef], q42.2))).bind fun q45 =>
(guardV v39 false ((apick (getL q42.1 0) (getL q45.1 0) (.bool false)).bind fun v46 =>
some ([v46], q45.2)) (some ([undef], q45.2))).bind fun q47 =>
(apick v39 (.bool true) (getL q47.1 0)).bind fun v48 =>
(guardV v48 false ((lload false 1 lptr v0).bind fun v49 =>
(abin Try.prog .neq 3 (.tmp 65) (.const (.int .i64 4)) v49 (.int .i64 4)).bind fun v50 =>
some ([v50], q47.2)) (some ([undef], q47.2))).bind fun q51 =>
(guardV (getL q51.1 0) true ((lload false 1 (.pointer (some ⟨0, 5, none⟩)) v0).bind fun v52 =>
(abin Try.prog .neq 3 (.tmp 69) (.const (.int .i64 0)) v52 (.int .i64 0)).bind fun v53 =>
some ([v53], q51.2)) (some ([undef], q51.2))).bind fun q54 =>
(guardV v48 false ((apick (getL q51.1 0) (getL q54.1 0) (.bool false)).bind fun v55 =>
some ([v55], q54.2)) (some ([undef], q54.2))).bind fun q56 =>
(apick v48 (.bool true) (getL q56.1 0)).bind fun v57 =>
condV v57
 (retV [(.int .i64 40)] q56.2)
 ((guardV v10 true ((lload false 1 (.pointer (some ⟨0, 1, none⟩)) v0).bind fun v58 =>
(callV Try.prog R (.func (.func 17) #[] #[]) [v58] q56.2).bind fun r59 =>
(abin Try.prog .neq 26 (.tmp 77) (.const (.int .i64 0)) r59.1 (.int .i64 0)).bind fun v60 =>
some ([v60], r59.2)) (some ([undef], q56.2))).bind fun q61 =>
(apick v10 (getL q61.1 0) (.bool false)).bind fun v62 =>
condV v62
 (retV [(.int .i64 20)] q61.2)
 ((lload false 1 (.pointer (some ⟨0, 2, none⟩)) v0).bind fun v63 =>
(alenV .string v63 q61.2).bind fun v64 =>
(abin Try.prog .gtr 3 (.tmp 82) (.const (.int .i64 16)) v64 (.int .i64 16)).bind fun v65 =>
condV v65
 (retV [(.int .i64 2)] q61.2)
 ((guardV v16 true ((lload false 1 (.pointer (some ⟨0, 3, none⟩)) v0).bind fun v66 =>
(lload false 1 (.pointer (some ⟨0, 4, none⟩)) v0).bind fun v67 =>
(abuild Try.prog 38 [(0, v66), (1, v67)]).bind fun v68 =>
(callV Try.prog R (.func (.func 50) #[] #[]) [v68] q61.2).bind fun r69 =>
(abin Try.prog .neq 26 (.tmp 91) (.const (.int .i64 0)) r69.1 (.int .i64 0)).bind fun v70 =>
some ([v70], r69.2)) (some ([undef], q61.2))).bind fun q71 =>
(apick v16 (getL q71.1 0) (.bool false)).bind fun v72 =>
condV v72
 (retV [(.int .i64 21)] q71.2)
 ((lload false 1 lptr v0).bind fun v73 =>
(abin Try.prog .eql 3 (.tmp 95) (.const (.int .i64 4)) v73 (.int .i64 4)).bind fun v74 =>
(guardV v74 true ((lload false 1 (.pointer (some ⟨0, 5, none⟩)) v0).bind fun v75 =>
(abin Try.prog .lss 3 (.tmp 99) (.const (.int .i64 1)) v75 (.int .i64 1)).bind fun v76 =>
some ([v76], q71.2)) (some ([undef], q71.2))).bind fun q77 =>
(guardV (getL q77.1 0) false ((lload false 1 (.pointer (some ⟨0, 5, none⟩)) v0).bind fun v78 =>
(abin Try.prog .gtr 3 (.tmp 103) (.const (.int .i64 4)) v78 (.int .i64 4)).bind fun v79 =>
some ([v79], q77.2)) (some ([undef], q77.2))).bind fun q80 =>
(guardV v74 true ((apick (getL q77.1 0) (.bool true) (getL q80.1 0)).bind fun v81 =>
some ([v81], q80.2)) (some ([undef], q80.2))).bind fun q82 =>
(apick v74 (getL q82.1 0) (.bool false)).bind fun v83 =>
condV v83
 (retV [(.int .i64 1)] q82.2)
 (retV [(.int .i64 0)] q82.2)))))

theorem ref04_CheckOp_of {lib : Lib} (hl : lib 29 = none) {x0 : Value} {s : St} {r : Value × St} (h : ref04_CheckOp (run Try.prog lib hints) x0 s = some r) : run Try.prog lib hints 29 [x0] s = some r :=
  run_of hl Try.func29 (Eq.trans (by kernel_rfl) h)

theorem ref04_CheckOp_ok : funcOk Try.prog 29 = true := by kernel_rfl
theorem ref04_CheckOp_call {R : Caller} {xs : List Value} {s : St} : callV Try.prog R (.func (.func 29) #[] #[]) xs s = R 29 xs s := callV_eq ref04_CheckOp_ok

/-! ### sumpter/sumpterref04.Writes: 30 -/

noncomputable def ref04_Writes (R : Caller) (x0 : Value) (s : St) : Option (Value × St) :=
(lbox x0).bind fun v0 =>
(lload false 1 lptr v0).bind fun v1 =>
(abin Try.prog .eql 3 (.tmp 4) (.const (.int .i64 2)) v1 (.int .i64 2)).bind fun v2 =>
(guardV v2 false ((lload false 1 lptr v0).bind fun v3 =>
(abin Try.prog .eql 3 (.tmp 8) (.const (.int .i64 3)) v3 (.int .i64 3)).bind fun v4 =>
some ([v4], s)) (some ([undef], s))).bind fun q5 =>
(apick v2 (.bool true) (getL q5.1 0)).bind fun v6 =>
(guardV v6 false ((lload false 1 lptr v0).bind fun v7 =>
(abin Try.prog .eql 3 (.tmp 13) (.const (.int .i64 5)) v7 (.int .i64 5)).bind fun v8 =>
some ([v8], q5.2)) (some ([undef], q5.2))).bind fun q9 =>
(apick v6 (.bool true) (getL q9.1 0)).bind fun v10 =>
retV [v10] q9.2

theorem ref04_Writes_of {lib : Lib} (hl : lib 30 = none) {x0 : Value} {s : St} {r : Value × St} (h : ref04_Writes (run Try.prog lib hints) x0 s = some r) : run Try.prog lib hints 30 [x0] s = some r :=
  run_of hl Try.func30 (Eq.trans (by kernel_rfl) h)

theorem ref04_Writes_ok : funcOk Try.prog 30 = true := by kernel_rfl
theorem ref04_Writes_call {R : Caller} {xs : List Value} {s : St} : callV Try.prog R (.func (.func 30) #[] #[]) xs s = R 30 xs s := callV_eq ref04_Writes_ok

/-! ### sumpter/span.CheckKey: 31 -/

noncomputable def span_CheckKey (R : Caller) (x0 : Value) (s : St) : Option (Value × St) :=
(abin Try.prog .eql 9 (.tmp 3) (.const (.string ⟨#[]⟩)) x0 (.string ⟨#[]⟩)).bind fun v0 =>
(guardV v0 false ((alenV .string x0 s).bind fun v1 =>
(abin Try.prog .gtr 3 (.tmp 7) (.const (.int .i64 12)) v1 (.int .i64 12)).bind fun v2 =>
some ([v2], s)) (some ([undef], s))).bind fun q3 =>
(apick v0 (.bool true) (getL q3.1 0)).bind fun v4 =>
condV v4
 (retV [(.int .i64 20)] q3.2)
 (retV [(.int .i64 0)] q3.2)

theorem span_CheckKey_of {lib : Lib} (hl : lib 31 = none) {x0 : Value} {s : St} {r : Value × St} (h : span_CheckKey (run Try.prog lib hints) x0 s = some r) : run Try.prog lib hints 31 [x0] s = some r :=
  run_of hl Try.func31 (Eq.trans (by kernel_rfl) h)

theorem span_CheckKey_ok : funcOk Try.prog 31 = true := by kernel_rfl
theorem span_CheckKey_call {R : Caller} {xs : List Value} {s : St} : callV Try.prog R (.func (.func 31) #[] #[]) xs s = R 31 xs s := callV_eq span_CheckKey_ok

/-! ### sumpter/span.Has: 32 -/

noncomputable def span_Has (R : Caller) (x0 x1 : Value) (s : St) : Option (Value × St) :=
(lbox x0).bind fun v0 =>
(lload true 2 lptr v0).bind fun v1 =>
(callV Try.prog R (.func (.func 49) #[] #[]) [v1] s).bind fun r2 =>
(abin Try.prog .eql 26 (.tmp 6) (.const (.int .i64 0)) r2.1 (.int .i64 0)).bind fun v3 =>
(guardV v3 true ((callV Try.prog R (.func (.func 31) #[] #[]) [x1] r2.2).bind fun r4 =>
(abin Try.prog .eql 26 (.tmp 10) (.const (.int .i64 0)) r4.1 (.int .i64 0)).bind fun v5 =>
some ([v5], r4.2)) (some ([undef], r2.2))).bind fun q6 =>
(apick v3 (getL q6.1 0) (.bool false)).bind fun v7 =>
(guardV v7 true ((lload false 1 lptr v0).bind fun v8 =>
(abin Try.prog .leq 9 (.tmp 15) (.tmp 16) v8 x1).bind fun v9 =>
some ([v9], q6.2)) (some ([undef], q6.2))).bind fun q10 =>
(apick v7 (getL q10.1 0) (.bool false)).bind fun v11 =>
(guardV v11 true ((lload false 1 (.pointer (some ⟨0, 1, none⟩)) v0).bind fun v12 =>
(abin Try.prog .eql 9 (.tmp 21) (.const (.string ⟨#[]⟩)) v12 (.string ⟨#[]⟩)).bind fun v13 =>
some ([v13], q10.2)) (some ([undef], q10.2))).bind fun q14 =>
(guardV (getL q14.1 0) false ((lload false 1 (.pointer (some ⟨0, 1, none⟩)) v0).bind fun v15 =>
(abin Try.prog .lss 9 (.tmp 24) (.tmp 26) x1 v15).bind fun v16 =>
some ([v16], q14.2)) (some ([undef], q14.2))).bind fun q17 =>
(guardV v11 true ((apick (getL q14.1 0) (.bool true) (getL q17.1 0)).bind fun v18 =>
some ([v18], q17.2)) (some ([undef], q17.2))).bind fun q19 =>
(apick v11 (getL q19.1 0) (.bool false)).bind fun v20 =>
retV [v20] q19.2

theorem span_Has_of {lib : Lib} (hl : lib 32 = none) {x0 x1 : Value} {s : St} {r : Value × St} (h : span_Has (run Try.prog lib hints) x0 x1 s = some r) : run Try.prog lib hints 32 [x0, x1] s = some r :=
  run_of hl Try.func32 (Eq.trans (by kernel_rfl) h)

theorem span_Has_ok : funcOk Try.prog 32 = true := by kernel_rfl
theorem span_Has_call {R : Caller} {xs : List Value} {s : St} : callV Try.prog R (.func (.func 32) #[] #[]) xs s = R 32 xs s := callV_eq span_Has_ok

/-! ### sumpter/span.Meet: 33 -/

noncomputable def span_Meet (R : Caller) (x0 x1 : Value) (s : St) : Option (Value × St) :=
(lbox x0).bind fun v0 =>
(lbox x1).bind fun v1 =>
(lload false 1 lptr v0).bind fun v2 =>
(lload false 1 lptr v1).bind fun v3 =>
(amax2 v2 v3).bind fun v4 =>
(lload false 1 (.pointer (some ⟨0, 1, none⟩)) v0).bind fun v5 =>
(lload false 1 (.pointer (some ⟨0, 1, none⟩)) v1).bind fun v6 =>
(((callV Try.prog R (.func (.func 51) #[] #[]) [v5, v6] s).bind fun r26 =>
some (r26.1, r26.2)).bind (ownR s)).bind fun r7 =>
(abuild Try.prog 38 [(0, v4), (1, r7.1)]).bind fun v8 =>
(lstore 2 lptr v8 (.agg #[(.string ⟨#[]⟩), (.string ⟨#[]⟩)])).bind fun v9 =>
(lload true 2 lptr v0).bind fun v10 =>
(callV Try.prog R (.func (.func 49) #[] #[]) [v10] r7.2).bind fun r11 =>
(abin Try.prog .neq 26 (.tmp 19) (.const (.int .i64 0)) r11.1 (.int .i64 0)).bind fun v12 =>
(guardV v12 false ((lload true 2 lptr v1).bind fun v13 =>
(callV Try.prog R (.func (.func 49) #[] #[]) [v13] r11.2).bind fun r14 =>
(abin Try.prog .neq 26 (.tmp 23) (.const (.int .i64 0)) r14.1 (.int .i64 0)).bind fun v15 =>
some ([v15], r14.2)) (some ([undef], r11.2))).bind fun q16 =>
(apick v12 (.bool true) (getL q16.1 0)).bind fun v17 =>
(guardV v17 false ((lload true 2 lptr v9).bind fun v18 =>
(callV Try.prog R (.func (.func 49) #[] #[]) [v18] q16.2).bind fun r19 =>
(abin Try.prog .neq 26 (.tmp 28) (.const (.int .i64 0)) r19.1 (.int .i64 0)).bind fun v20 =>
some ([v20], r19.2)) (some ([undef], q16.2))).bind fun q21 =>
(apick v17 (.bool true) (getL q21.1 0)).bind fun v22 =>
condV v22
 (retV [(.agg #[(.string ⟨#[]⟩), (.string ⟨#[]⟩)]), (.bool false)] q21.2)
 ((lload true 2 lptr v9).bind fun v23 =>
(lstore 2 lptr v23 (.agg #[(.string ⟨#[]⟩), (.string ⟨#[]⟩)])).bind fun v24 =>
(lload true 2 lptr v24).bind fun v25 =>
retV [v25, (.bool true)] q21.2)

theorem span_Meet_of {lib : Lib} (hl : lib 33 = none) {x0 x1 : Value} {s : St} {r : Value × St} (h : span_Meet (run Try.prog lib hints) x0 x1 s = some r) : run Try.prog lib hints 33 [x0, x1] s = some r :=
  run_of hl Try.func33 (Eq.trans (by kernel_rfl) h)

theorem span_Meet_ok : funcOk Try.prog 33 = true := by kernel_rfl
theorem span_Meet_call {R : Caller} {xs : List Value} {s : St} : callV Try.prog R (.func (.func 33) #[] #[]) xs s = R 33 xs s := callV_eq span_Meet_ok

/-! ### sumpter/buffer.of: 34 -/

noncomputable def buffer_of (R : Caller) (x0 : Value) (s : St) : Option (Value × St) :=
(lbox x0).bind fun v0 =>
(lload false 1 (.pointer (some ⟨0, 3, none⟩)) v0).bind fun v1 =>
(lload false 1 (.pointer (some ⟨0, 4, none⟩)) v0).bind fun v2 =>
(abuild Try.prog 38 [(0, v1), (1, v2)]).bind fun v3 =>
(lstore 2 lptr v3 (.agg #[(.string ⟨#[]⟩), (.string ⟨#[]⟩)])).bind fun v4 =>
(lload true 2 lptr v4).bind fun v5 =>
retV [v5] s

theorem buffer_of_of {lib : Lib} (hl : lib 34 = none) {x0 : Value} {s : St} {r : Value × St} (h : buffer_of (run Try.prog lib hints) x0 s = some r) : run Try.prog lib hints 34 [x0] s = some r :=
  run_of hl Try.func34 (Eq.trans (by kernel_rfl) h)

theorem buffer_of_ok : funcOk Try.prog 34 = true := by kernel_rfl
theorem buffer_of_call {R : Caller} {xs : List Value} {s : St} : callV Try.prog R (.func (.func 34) #[] #[]) xs s = R 34 xs s := callV_eq buffer_of_ok

/-! ### sumpter/op.Apply: 35 -/

noncomputable def op_Apply.b0 (R : Caller) (T : List Value) (s : St) : Res :=
(abin Try.prog .lss 3 (.tmp 27) (.tmp 26) (getL T 4) (getL T 3)).bind fun v6 =>
condV v6
 ((aindexS 6 (getL T 2) (getL T 4)).bind fun v7 =>
(aload true 6 v7 s).bind fun v8 =>
(lstore 6 lptr v8 (.agg #[(.int .i64 0), (.string ⟨#[]⟩), (.string ⟨#[]⟩), (.string ⟨#[]⟩), (.string ⟨#[]⟩), (.int .i64 0)])).bind fun v9 =>
(((callV Try.prog R (.func (.func 54) #[] #[]) [] s).bind fun r24 =>
some (r24.1, r24.2)).bind (ownR s)).bind fun r10 =>
(lload false 1 lptr v9).bind fun v11 =>
(aindexAgg true 6 6 r10.1 v11).bind fun v12 =>
(afield false 5 1 v12).bind fun v13 =>
(lload true 6 lptr v9).bind fun v14 =>
(((callV Try.prog R v13 [(getL T 0), v14] r10.2).bind fun r23 =>
some (r23.1, r23.2)).bind (ownR r10.2)).bind fun r15 =>
(aextract 0 r15.1).bind fun v16 =>
(aextract 1 r15.1).bind fun v17 =>
(lstore 3 lptr v17 (.agg #[(.bool false), (.string ⟨#[]⟩), (.slice none 0 0)])).bind fun v18 =>
(lload true 3 lptr v18).bind fun v19 =>
(abuildSl 3 [(.bool false), (.string ⟨#[]⟩), (.slice none 0 0)] 1 [(0, v19)] r15.2).bind fun r20 =>
(aappend 3 48 (getL T 1) r20.1 r20.2).bind fun r21 =>
(abin Try.prog .add 3 (.tmp 27) (.const (.int .i64 1)) (getL T 4) (.int .i64 1)).bind fun v22 =>
some (.normal, [v16, r21.1, (getL T 2), (getL T 3), v22], r21.2))
 (some (.exit 0, [(getL T 0), (getL T 1)], s))

noncomputable def op_Apply (R : Caller) (x0 x1 : Value) (s : St) : Option (Value × St) :=
(callV Try.prog R (.func (.func 18) #[] #[]) [x0] s).bind fun r0 =>
(abin Try.prog .neq 26 (.tmp 15) (.const (.int .i64 0)) r0.1 (.int .i64 0)).bind fun v1 =>
condV v1
 (retV [(.slice none 0 0), (.slice none 0 0), r0.1] r0.2)
 ((callV Try.prog R (.func (.func 52) #[] #[]) [x1] r0.2).bind fun r2 =>
(abin Try.prog .neq 26 (.tmp 20) (.const (.int .i64 0)) r2.1 (.int .i64 0)).bind fun v3 =>
condV v3
 (retV [(.slice none 0 0), (.slice none 0 0), r2.1] r2.2)
 ((callV Try.prog R (.func (.func 53) #[] #[]) [x0] r2.2).bind fun r4 =>
(alenV (.slice 50) x1 r4.2).bind fun v5 =>
(loopL (op_Apply.b0 R) [r4.1, (.slice none 0 0), x1, v5, (.int .i64 0)] r4.2).bind fun r25 =>
exV r25.1 [(0, retV [(getL r25.2.1 0), (getL r25.2.1 1), (.int .i64 0)] r25.2.2)]
 (none)))

theorem op_Apply_of {lib : Lib} (hl : lib 35 = none) {x0 x1 : Value} {s : St} {r : Value × St} (h : op_Apply (run Try.prog lib hints) x0 x1 s = some r) : run Try.prog lib hints 35 [x0, x1] s = some r :=
  run_of hl Try.func35 (Eq.trans (by kernel_rfl) h)

theorem op_Apply_ok : funcOk Try.prog 35 = true := by kernel_rfl
theorem op_Apply_call {R : Caller} {xs : List Value} {s : St} : callV Try.prog R (.func (.func 35) #[] #[]) xs s = R 35 xs s := callV_eq op_Apply_ok

/-! ### sumpter/buffer.ops: 36 -/

noncomputable def buffer_ops.b0 (R : Caller) (T : List Value) (s : St) : Res :=
(abin Try.prog .lss 3 (.tmp 8) (.tmp 7) (getL T 3) (getL T 2)).bind fun v1 =>
condV v1
 ((aindexS 7 (getL T 1) (getL T 3)).bind fun v2 =>
(aload true 7 v2 s).bind fun v3 =>
(lstore 7 lptr v3 (.agg #[(.int .u64 0), (.int .i64 0), (.string ⟨#[]⟩), (.string ⟨#[]⟩), (.string ⟨#[]⟩), (.string ⟨#[]⟩), (.int .i64 0)])).bind fun v4 =>
(lload true 6 (.pointer (some ⟨0, 1, none⟩)) v4).bind fun v5 =>
(abuildSl 6 [(.int .i64 0), (.string ⟨#[]⟩), (.string ⟨#[]⟩), (.string ⟨#[]⟩), (.string ⟨#[]⟩), (.int .i64 0)] 1 [(0, v5)] s).bind fun r6 =>
(aappend 6 80 (getL T 0) r6.1 r6.2).bind fun r7 =>
(abin Try.prog .add 3 (.tmp 8) (.const (.int .i64 1)) (getL T 3) (.int .i64 1)).bind fun v8 =>
some (.normal, [r7.1, (getL T 1), (getL T 2), v8], r7.2))
 (some (.exit 0, [(getL T 0)], s))

noncomputable def buffer_ops (R : Caller) (x0 : Value) (s : St) : Option (Value × St) :=
(alenV (.slice 52) x0 s).bind fun v0 =>
(loopL (buffer_ops.b0 R) [(.slice none 0 0), x0, v0, (.int .i64 0)] s).bind fun r9 =>
exV r9.1 [(0, retV [(getL r9.2.1 0)] r9.2.2)]
 (none)

theorem buffer_ops_of {lib : Lib} (hl : lib 36 = none) {x0 : Value} {s : St} {r : Value × St} (h : buffer_ops (run Try.prog lib hints) x0 s = some r) : run Try.prog lib hints 36 [x0] s = some r :=
  run_of hl Try.func36 (Eq.trans (by kernel_rfl) h)

theorem buffer_ops_ok : funcOk Try.prog 36 = true := by kernel_rfl
theorem buffer_ops_call {R : Caller} {xs : List Value} {s : St} : callV Try.prog R (.func (.func 36) #[] #[]) xs s = R 36 xs s := callV_eq buffer_ops_ok

/-! ### sumpter/sumpterref02.Has: 37 -/

noncomputable def ref02_Has (R : Caller) (x0 x1 : Value) (s : St) : Option (Value × St) :=
(lbox x0).bind fun v0 =>
(lload true 2 lptr v0).bind fun v1 =>
(callV Try.prog R (.func (.func 50) #[] #[]) [v1] s).bind fun r2 =>
(abin Try.prog .eql 26 (.tmp 6) (.const (.int .i64 0)) r2.1 (.int .i64 0)).bind fun v3 =>
(guardV v3 true ((callV Try.prog R (.func (.func 17) #[] #[]) [x1] r2.2).bind fun r4 =>
(abin Try.prog .eql 26 (.tmp 10) (.const (.int .i64 0)) r4.1 (.int .i64 0)).bind fun v5 =>
some ([v5], r4.2)) (some ([undef], r2.2))).bind fun q6 =>
(apick v3 (getL q6.1 0) (.bool false)).bind fun v7 =>
(guardV v7 true ((lload false 1 lptr v0).bind fun v8 =>
(abin Try.prog .geq 9 (.tmp 14) (.tmp 16) x1 v8).bind fun v9 =>
some ([v9], q6.2)) (some ([undef], q6.2))).bind fun q10 =>
(apick v7 (getL q10.1 0) (.bool false)).bind fun v11 =>
(guardV v11 true ((lload false 1 (.pointer (some ⟨0, 1, none⟩)) v0).bind fun v12 =>
(abin Try.prog .eql 9 (.tmp 21) (.const (.string ⟨#[]⟩)) v12 (.string ⟨#[]⟩)).bind fun v13 =>
some ([v13], q10.2)) (some ([undef], q10.2))).bind fun q14 =>
(guardV (getL q14.1 0) false ((lload false 1 (.pointer (some ⟨0, 1, none⟩)) v0).bind fun v15 =>
(abin Try.prog .lss 9 (.tmp 24) (.tmp 26) x1 v15).bind fun v16 =>
some ([v16], q14.2)) (some ([undef], q14.2))).bind fun q17 =>
(guardV v11 true ((apick (getL q14.1 0) (.bool true) (getL q17.1 0)).bind fun v18 =>
some ([v18], q17.2)) (some ([undef], q17.2))).bind fun q19 =>
(apick v11 (getL q19.1 0) (.bool false)).bind fun v20 =>
retV [v20] q19.2

theorem ref02_Has_of {lib : Lib} (hl : lib 37 = none) {x0 x1 : Value} {s : St} {r : Value × St} (h : ref02_Has (run Try.prog lib hints) x0 x1 s = some r) : run Try.prog lib hints 37 [x0, x1] s = some r :=
  run_of hl Try.func37 (Eq.trans (by kernel_rfl) h)

theorem ref02_Has_ok : funcOk Try.prog 37 = true := by kernel_rfl
theorem ref02_Has_call {R : Caller} {xs : List Value} {s : St} : callV Try.prog R (.func (.func 37) #[] #[]) xs s = R 37 xs s := callV_eq ref02_Has_ok

/-! ### slices.Concat[[]sumpter/api.Entry,sumpter/api.Entry]: 38 -/

noncomputable def slices_Concat_api_Entry_api_Entry.j0 (R : Caller) (T : List Value) (s : St) : Res :=
(abin Try.prog .add 3 (.tmp 11) (.const (.int .i64 1)) (getL T 4) (.int .i64 1)).bind fun v9 =>
some (.normal, [(getL T 0), (getL T 1), (getL T 2), (getL T 3), v9], s)

noncomputable def slices_Concat_api_Entry_api_Entry.b0 (R : Caller) (T : List Value) (s : St) : Res :=
(abin Try.prog .lss 3 (.tmp 11) (.tmp 10) (getL T 4) (getL T 3)).bind fun v1 =>
condV v1
 ((aindexS 1 (getL T 2) (getL T 4)).bind fun v3 =>
(aload false 1 v3 s).bind fun v4 =>
(alenV (.slice 52) v4 s).bind fun v5 =>
(abin Try.prog .add 3 (.tmp 15) (.tmp 17) (getL T 1) v5).bind fun v6 =>
(abin Try.prog .lss 3 (.tmp 19) (.const (.int .i64 0)) v6 (.int .i64 0)).bind fun v7 =>
condV v7
 ((aiface 9 (.string ⟨#[108, 101, 110, 32, 111, 117, 116, 32, 111, 102, 32, 114, 97, 110, 103, 101]⟩)).bind fun v8 =>
none)
 (joinK (slices_Concat_api_Entry_api_Entry.j0 R) [(getL T 0), v6, (getL T 2), (getL T 3), (getL T 4)] s))
 (some (.exit 0, [(getL T 0), (getL T 1)], s))

noncomputable def slices_Concat_api_Entry_api_Entry.b1 (R : Caller) (T : List Value) (s : St) : Res :=
(abin Try.prog .lss 3 (.tmp 27) (.tmp 26) (getL T 3) (getL T 2)).bind fun v13 =>
condV v13
 ((aindexS 1 (getL T 1) (getL T 3)).bind fun v14 =>
(aload false 1 v14 s).bind fun v15 =>
(aappend 7 88 (getL T 0) v15 s).bind fun r16 =>
(abin Try.prog .add 3 (.tmp 27) (.const (.int .i64 1)) (getL T 3) (.int .i64 1)).bind fun v17 =>
some (.normal, [r16.1, (getL T 1), (getL T 2), v17], r16.2))
 (some (.exit 2, [(getL T 0)], s))

noncomputable def slices_Concat_api_Entry_api_Entry (R : Caller) (x0 : Value) (s : St) : Option (Value × St) :=
(alenV (.slice 22) x0 s).bind fun v0 =>
(loopL (slices_Concat_api_Entry_api_Entry.b0 R) [x0, (.int .i64 0), x0, v0, (.int .i64 0)] s).bind fun r10 =>
exV r10.1 [(0, (callV Try.prog R (.func (.func 55) #[] #[]) [(.slice none 0 0), (getL r10.2.1 1)] r10.2.2).bind fun r11 =>
(alenV (.slice 22) (getL r10.2.1 0) r11.2).bind fun v12 =>
(loopL (slices_Concat_api_Entry_api_Entry.b1 R) [r11.1, (getL r10.2.1 0), v12, (.int .i64 0)] r11.2).bind fun r18 =>
exV r18.1 [(2, retV [(getL r18.2.1 0)] r18.2.2)]
 (none))]
 (none)

theorem slices_Concat_api_Entry_api_Entry_of {lib : Lib} (hl : lib 38 = none) {x0 : Value} {s : St} {r : Value × St} (h : slices_Concat_api_Entry_api_Entry (run Try.prog lib hints) x0 s = some r) : run Try.prog lib hints 38 [x0] s = some r :=
  run_of hl Try.func38 (Eq.trans (by kernel_rfl) h)

theorem slices_Concat_api_Entry_api_Entry_ok : funcOk Try.prog 38 = true := by kernel_rfl
theorem slices_Concat_api_Entry_api_Entry_call {R : Caller} {xs : List Value} {s : St} : callV Try.prog R (.func (.func 38) #[] #[]) xs s = R 38 xs s := callV_eq slices_Concat_api_Entry_api_Entry_ok

/-! ### slices.SortFunc[[]sumpter/api.Entry,sumpter/api.Entry]: 39 -/

noncomputable def slices_SortFunc_api_Entry_api_Entry (R : Caller) (x0 x1 : Value) (s : St) : Option (Value × St) :=
(alenV (.slice 52) x0 s).bind fun v0 =>
(convInt .u64 v0).bind fun v1 =>
(callV Try.prog R (.func (.func 57) #[] #[]) [v1] s).bind fun r2 =>
(callV Try.prog R (.func (.func 56) #[] #[]) [x0, (.int .i64 0), v0, r2.1, x1] r2.2).bind fun r3 =>
retV [] r3.2

theorem slices_SortFunc_api_Entry_api_Entry_of {lib : Lib} (hl : lib 39 = none) {x0 x1 : Value} {s : St} {r : Value × St} (h : slices_SortFunc_api_Entry_api_Entry (run Try.prog lib hints) x0 x1 s = some r) : run Try.prog lib hints 39 [x0, x1] s = some r :=
  run_of hl Try.func39 (Eq.trans (by kernel_rfl) h)

theorem slices_SortFunc_api_Entry_api_Entry_ok : funcOk Try.prog 39 = true := by kernel_rfl
theorem slices_SortFunc_api_Entry_api_Entry_call {R : Caller} {xs : List Value} {s : St} : callV Try.prog R (.func (.func 39) #[] #[]) xs s = R 39 xs s := callV_eq slices_SortFunc_api_Entry_api_Entry_ok

/-! ### sumpter/buffer.Merge$1: 40 -/

noncomputable def buffer_Merge_1 (R : Caller) (x0 x1 : Value) (s : St) : Option (Value × St) :=
(lbox x0).bind fun v0 =>
(lbox x1).bind fun v1 =>
(lload false 1 lptr v0).bind fun v2 =>
(lload false 1 lptr v1).bind fun v3 =>
(callV Try.prog R (.func (.func 41) #[] #[]) [v2, v3] s).bind fun r4 =>
retV [r4.1] r4.2

theorem buffer_Merge_1_of {lib : Lib} (hl : lib 40 = none) {x0 x1 : Value} {s : St} {r : Value × St} (h : buffer_Merge_1 (run Try.prog lib hints) x0 x1 s = some r) : run Try.prog lib hints 40 [x0, x1] s = some r :=
  run_of hl Try.func40 (Eq.trans (by kernel_rfl) h)

theorem buffer_Merge_1_ok : funcOk Try.prog 40 = true := by kernel_rfl
theorem buffer_Merge_1_call {R : Caller} {xs : List Value} {s : St} : callV Try.prog R (.func (.func 40) #[] #[]) xs s = R 40 xs s := callV_eq buffer_Merge_1_ok

/-! ### cmp.Compare[uint64]: 41 -/

noncomputable def cmp_Compare_uint64 (R : Caller) (x0 x1 : Value) (s : St) : Option (Value × St) :=
(callV Try.prog R (.func (.func 58) #[] #[]) [x0] s).bind fun r0 =>
(callV Try.prog R (.func (.func 58) #[] #[]) [x1] r0.2).bind fun r1 =>
condV r0.1
 (condV r1.1
 (retV [(.int .i64 0)] r1.2)
 (retV [(.int .i64 (-1))] r1.2))
 (condV r1.1
 (retV [(.int .i64 1)] r1.2)
 ((abin Try.prog .lss 48 (.tmp 14) (.tmp 15) x0 x1).bind fun v2 =>
condV v2
 (retV [(.int .i64 (-1))] r1.2)
 ((abin Try.prog .gtr 48 (.tmp 17) (.tmp 18) x0 x1).bind fun v3 =>
condV v3
 (retV [(.int .i64 1)] r1.2)
 (retV [(.int .i64 0)] r1.2))))

theorem cmp_Compare_uint64_of {lib : Lib} (hl : lib 41 = none) {x0 x1 : Value} {s : St} {r : Value × St} (h : cmp_Compare_uint64 (run Try.prog lib hints) x0 x1 s = some r) : run Try.prog lib hints 41 [x0, x1] s = some r :=
  run_of hl Try.func41 (Eq.trans (by kernel_rfl) h)

theorem cmp_Compare_uint64_ok : funcOk Try.prog 41 = true := by kernel_rfl
theorem cmp_Compare_uint64_call {R : Caller} {xs : List Value} {s : St} : callV Try.prog R (.func (.func 41) #[] #[]) xs s = R 41 xs s := callV_eq cmp_Compare_uint64_ok

/-! ### slices.ContainsFunc[[]sumpter/api.Entry,sumpter/api.Entry]: 42 -/

noncomputable def slices_ContainsFunc_api_Entry_api_Entry (R : Caller) (x0 x1 : Value) (s : St) : Option (Value × St) :=
(callV Try.prog R (.func (.func 59) #[] #[]) [x0, x1] s).bind fun r0 =>
(abin Try.prog .geq 3 (.tmp 7) (.const (.int .i64 0)) r0.1 (.int .i64 0)).bind fun v1 =>
retV [v1] r0.2

theorem slices_ContainsFunc_api_Entry_api_Entry_of {lib : Lib} (hl : lib 42 = none) {x0 x1 : Value} {s : St} {r : Value × St} (h : slices_ContainsFunc_api_Entry_api_Entry (run Try.prog lib hints) x0 x1 s = some r) : run Try.prog lib hints 42 [x0, x1] s = some r :=
  run_of hl Try.func42 (Eq.trans (by kernel_rfl) h)

theorem slices_ContainsFunc_api_Entry_api_Entry_ok : funcOk Try.prog 42 = true := by kernel_rfl
theorem slices_ContainsFunc_api_Entry_api_Entry_call {R : Caller} {xs : List Value} {s : St} : callV Try.prog R (.func (.func 42) #[] #[]) xs s = R 42 xs s := callV_eq slices_ContainsFunc_api_Entry_api_Entry_ok

/-! ### sumpter/buffer.Squeeze$1: 43 -/

noncomputable def buffer_Squeeze_1 (R : Caller) (x0 x1 : Value) (s : St) : Option (Value × St) :=
(lbox x0).bind fun v0 =>
(afieldAddr 0 x1).bind fun v1 =>
(aload false 1 v1 s).bind fun v2 =>
(abin Try.prog .eql 3 (.tmp 5) (.const (.int .i64 5)) v2 (.int .i64 5)).bind fun v3 =>
condV v3
 ((lload false 1 (.pointer (some ⟨0, 1, none⟩)) v0).bind fun v4 =>
(abin Try.prog .eql 3 (.tmp 9) (.const (.int .i64 5)) v4 (.int .i64 5)).bind fun v5 =>
(guardV v5 true (some ([(.pointer (some ⟨0, 1, none⟩))], s)) (some ([undef], s))).bind fun q6 =>
(guardV v5 true ((lload true 6 (getL q6.1 0) v0).bind fun v7 =>
some ([v7], q6.2)) (some ([undef], q6.2))).bind fun q8 =>
((guardV v5 true ((callV Try.prog R (.func (.func 34) #[] #[]) [(getL q8.1 0)] (frzS q8.2)).bind fun r17 =>
some (r17.1, r17.2)) (some (undef, (frzS q8.2)))).map (quietR q8.2)).bind fun r9 =>
(guardV v5 true ((aload true 6 x1 (frzS r9.2)).bind fun v16 =>
some (v16, (frzS r9.2))) (some (undef, (frzS r9.2)))).bind fun r10 =>
((guardV v5 true ((callV Try.prog R (.func (.func 34) #[] #[]) [r10.1] r9.2).bind fun r15 =>
some (r15.1, r15.2)) (some (undef, r9.2))).bind (ownR r9.2)).bind fun r11 =>
((guardV v5 true ((callV Try.prog R (.func (.func 44) #[] #[]) [r9.1, r11.1] r11.2).bind fun r14 =>
some (r14.1, r14.2)) (some (undef, r11.2))).bind (ownR r11.2)).bind fun r12 =>
(apick v5 r12.1 (.bool false)).bind fun v13 =>
retV [v13] r12.2)
 ((lload true 6 (.pointer (some ⟨0, 1, none⟩)) v0).bind fun v18 =>
(afieldAddr 1 x1).bind fun v19 =>
(aload false 1 v19 s).bind fun v20 =>
(callV Try.prog R (.func (.func 25) #[] #[]) [v18, v20] s).bind fun r21 =>
retV [r21.1] r21.2)

theorem buffer_Squeeze_1_of {lib : Lib} (hl : lib 43 = none) {x0 x1 : Value} {s : St} {r : Value × St} (h : buffer_Squeeze_1 (run Try.prog lib hints) x0 x1 s = some r) : run Try.prog lib hints 43 [x0, x1] s = some r :=
  run_of hl Try.func43 (Eq.trans (by kernel_rfl) h)

theorem buffer_Squeeze_1_ok : funcOk Try.prog 43 = true := by kernel_rfl
theorem buffer_Squeeze_1_call {R : Caller} {xs : List Value} {s : St} : callV Try.prog R (.func (.func 43) #[] #[]) xs s = R 43 xs s := callV_eq buffer_Squeeze_1_ok

/-! ### sumpter/span.Covers: 44 -/

noncomputable def span_Covers (R : Caller) (x0 x1 : Value) (s : St) : Option (Value × St) :=
(lbox x0).bind fun v0 =>
(lbox x1).bind fun v1 =>
(lload true 2 lptr v0).bind fun v2 =>
(((callV Try.prog R (.func (.func 49) #[] #[]) [v2] s).bind fun r35 =>
some (r35.1, r35.2)).bind (ownR s)).bind fun r3 =>
(abin Try.prog .eql 26 (.tmp 6) (.const (.int .i64 0)) r3.1 (.int .i64 0)).bind fun v4 =>
(guardV v4 true ((lload true 2 lptr v1).bind fun v5 =>
some ([v5], r3.2)) (some ([undef], r3.2))).bind fun q6 =>
((guardV v4 true ((callV Try.prog R (.func (.func 49) #[] #[]) [(getL q6.1 0)] q6.2).bind fun r34 =>
some (r34.1, r34.2)) (some (undef, q6.2))).bind (ownR q6.2)).bind fun r7 =>
(guardV v4 true ((abin Try.prog .eql 26 (.tmp 10) (.const (.int .i64 0)) r7.1 (.int .i64 0)).bind fun v8 =>
some ([v8], r7.2)) (some ([undef], r7.2))).bind fun q9 =>
(apick v4 (getL q9.1 0) (.bool false)).bind fun v10 =>
(guardV v10 true (some ([lptr], q9.2)) (some ([undef], q9.2))).bind fun q11 =>
(guardV v10 true ((lload false 1 (getL q11.1 0) v0).bind fun v12 =>
some ([v12], q11.2)) (some ([undef], q11.2))).bind fun q13 =>
(guardV v10 true (some ([lptr], q13.2)) (some ([undef], q13.2))).bind fun q14 =>
(guardV v10 true ((lload false 1 (getL q14.1 0) v1).bind fun v15 =>
some ([v15], q14.2)) (some ([undef], q14.2))).bind fun q16 =>
(guardV v10 true ((abin Try.prog .leq 9 (.tmp 15) (.tmp 17) (getL q13.1 0) (getL q16.1 0)).bind fun v17 =>
some ([v17], q16.2)) (some ([undef], q16.2))).bind fun q18 =>
(apick v10 (getL q18.1 0) (.bool false)).bind fun v19 =>
(guardV v19 true (some ([(.pointer (some ⟨0, 1, none⟩))], q18.2)) (some ([undef], q18.2))).bind fun q20 =>
(guardV v19 true ((lload false 1 (getL q20.1 0) v0).bind fun v21 =>
some ([v21], q20.2)) (some ([undef], q20.2))).bind fun q22 =>
(guardV v19 true (some ([(.pointer (some ⟨0, 1, none⟩))], q22.2)) (some ([undef], q22.2))).bind fun q23 =>
(guardV v19 true ((lload false 1 (getL q23.1 0) v1).bind fun v24 =>
some ([v24], q23.2)) (some ([undef], q23.2))).bind fun q25 =>
((guardV v19 true ((callV Try.prog R (.func (.func 51) #[] #[]) [(getL q22.1 0), (getL q25.1 0)] q25.2).bind fun r33 =>
some (r33.1, r33.2)) (some (undef, q25.2))).bind (ownR q25.2)).bind fun r26 =>
(guardV v19 true (some ([(.pointer (some ⟨0, 1, none⟩))], r26.2)) (some ([undef], r26.2))).bind fun q27 =>
(guardV v19 true ((lload false 1 (getL q27.1 0) v1).bind fun v28 =>
some ([v28], q27.2)) (some ([undef], q27.2))).bind fun q29 =>
(guardV v19 true ((abin Try.prog .eql 9 (.tmp 25) (.tmp 27) r26.1 (getL q29.1 0)).bind fun v30 =>
some ([v30], q29.2)) (some ([undef], q29.2))).bind fun q31 =>
(apick v19 (getL q31.1 0) (.bool false)).bind fun v32 =>
retV [v32] q31.2

theorem span_Covers_of {lib : Lib} (hl : lib 44 = none) {x0 x1 : Value} {s : St} {r : Value × St} (h : span_Covers (run Try.prog lib hints) x0 x1 s = some r) : run Try.prog lib hints 44 [x0, x1] s = some r :=
  run_of hl Try.func44 (Eq.trans (by kernel_rfl) h)

theorem span_Covers_ok : funcOk Try.prog 44 = true := by kernel_rfl
theorem span_Covers_call {R : Caller} {xs : List Value} {s : St} : callV Try.prog R (.func (.func 44) #[] #[]) xs s = R 44 xs s := callV_eq span_Covers_ok

/-! ### slices.Reverse[[]sumpter/api.Entry,sumpter/api.Entry]: 45 -/

noncomputable def slices_Reverse_api_Entry_api_Entry.b0 (R : Caller) (T : List Value) (s : St) : Res :=
(abin Try.prog .lss 3 (.tmp 7) (.tmp 8) (getL T 1) (getL T 2)).bind fun v2 =>
condV v2
 ((aindexS 7 (getL T 0) (getL T 2)).bind fun v3 =>
((aload true 7 v3 (frzS s)).bind fun v16 =>
some (v16, (frzS s))).bind fun r4 =>
(aindexS 7 (getL T 0) (getL T 1)).bind fun v5 =>
((aload true 7 v5 (frzS s)).bind fun v15 =>
some (v15, (frzS s))).bind fun r6 =>
(aindexS 7 (getL T 0) (getL T 1)).bind fun v7 =>
(((astore 7 v7 r4.1 s).bind fun s14 =>
some (undef, s14)).bind (ownR s)).bind fun r8 =>
(aindexS 7 (getL T 0) (getL T 2)).bind fun v9 =>
(((astore 7 v9 r6.1 r8.2).bind fun s13 =>
some (undef, s13)).bind (ownR r8.2)).bind fun r10 =>
(abin Try.prog .add 3 (.tmp 10) (.const (.int .i64 1)) (getL T 1) (.int .i64 1)).bind fun v11 =>
(abin Try.prog .sub 3 (.tmp 12) (.const (.int .i64 1)) (getL T 2) (.int .i64 1)).bind fun v12 =>
some (.normal, [(getL T 0), v11, v12], r10.2))
 (some (.exit 0, [], s))

noncomputable def slices_Reverse_api_Entry_api_Entry (R : Caller) (x0 : Value) (s : St) : Option (Value × St) :=
(alenV (.slice 52) x0 s).bind fun v0 =>
(abin Try.prog .sub 3 (.tmp 5) (.const (.int .i64 1)) v0 (.int .i64 1)).bind fun v1 =>
(loopL (slices_Reverse_api_Entry_api_Entry.b0 R) [x0, (.int .i64 0), v1] s).bind fun r17 =>
exV r17.1 [(0, retV [] r17.2.2)]
 (none)

theorem slices_Reverse_api_Entry_api_Entry_of {lib : Lib} (hl : lib 45 = none) {x0 : Value} {s : St} {r : Value × St} (h : slices_Reverse_api_Entry_api_Entry (run Try.prog lib hints) x0 s = some r) : run Try.prog lib hints 45 [x0] s = some r :=
  run_of hl Try.func45 (Eq.trans (by kernel_rfl) h)

theorem slices_Reverse_api_Entry_api_Entry_ok : funcOk Try.prog 45 = true := by kernel_rfl
theorem slices_Reverse_api_Entry_api_Entry_call {R : Caller} {xs : List Value} {s : St} : callV Try.prog R (.func (.func 45) #[] #[]) xs s = R 45 xs s := callV_eq slices_Reverse_api_Entry_api_Entry_ok

/-! ### sumpter/buffer.behind$1: 46 -/

noncomputable def buffer_behind_1.b0 (R : Caller) (T : List Value) (s : St) : Res :=
(abin Try.prog .geq 3 (.tmp 7) (.const (.int .i64 0)) (getL T 2) (.int .i64 0)).bind fun v3 =>
condV v3
 ((aload false 1 (getL T 1) s).bind fun v4 =>
(aindexS 7 v4 (getL T 2)).bind fun v5 =>
(afieldAddr 1 v5).bind fun v6 =>
(aload true 6 v6 s).bind fun v7 =>
(callV Try.prog R (getL T 0) [(getL T 2), v7] s).bind fun r8 =>
(aun .not r8.1).bind fun v9 =>
condV v9
 (some (.ret, [], r8.2))
 ((abin Try.prog .sub 3 (.tmp 9) (.const (.int .i64 1)) (getL T 2) (.int .i64 1)).bind fun v10 =>
some (.normal, [(getL T 0), (getL T 1), v10], r8.2)))
 (some (.exit 0, [], s))

noncomputable def buffer_behind_1 (R : Caller) (x0 x1 : Value) (s : St) : Option (Value × St) :=
(aload false 1 x1 s).bind fun v0 =>
(alenV (.slice 52) v0 s).bind fun v1 =>
(abin Try.prog .sub 3 (.tmp 5) (.const (.int .i64 1)) v1 (.int .i64 1)).bind fun v2 =>
(loopL (buffer_behind_1.b0 R) [x0, x1, v2] s).bind fun r11 =>
exV r11.1 [(0, retV [] r11.2.2)]
 (retV [] r11.2.2)

theorem buffer_behind_1_of {lib : Lib} (hl : lib 46 = none) {x0 x1 : Value} {s : St} {r : Value × St} (h : buffer_behind_1 (run Try.prog lib hints) x0 x1 s = some r) : run Try.prog lib hints 46 [x0, x1] s = some r :=
  run_of hl Try.func46 (Eq.trans (by kernel_rfl) h)

theorem buffer_behind_1_ok : funcOk Try.prog 46 = true := by kernel_rfl
theorem buffer_behind_1_call {R : Caller} {xs : List Value} {s : St} : callV Try.prog R (.func (.func 46) #[] #[]) xs s = R 46 xs s := callV_eq buffer_behind_1_ok

/-! ### sumpter/op.formOf: 47 -/

noncomputable def op_formOf (R : Caller) (x0 : Value) (s : St) : Option (Value × St) :=
(abin Try.prog .lss 3 (.tmp 4) (.const (.int .i64 1)) x0 (.int .i64 1)).bind fun v0 =>
(guardV v0 false ((abin Try.prog .gtr 3 (.tmp 7) (.const (.int .i64 5)) x0 (.int .i64 5)).bind fun v1 =>
some ([v1], s)) (some ([undef], s))).bind fun q2 =>
(apick v0 (.bool true) (getL q2.1 0)).bind fun v3 =>
condV v3
 (retV [(.agg #[(.bool false), (.bool false), (.bool false), (.bool false), (.bool false), .nilFunc]), (.bool false)] q2.2)
 ((callV Try.prog R (.func (.func 54) #[] #[]) [] q2.2).bind fun r4 =>
(aindexAgg true 6 6 r4.1 x0).bind fun v5 =>
(lstore 6 lptr v5 (.agg #[(.bool false), (.bool false), (.bool false), (.bool false), (.bool false), .nilFunc])).bind fun v6 =>
(lload true 6 lptr v6).bind fun v7 =>
retV [v7, (.bool true)] r4.2)

theorem op_formOf_of {lib : Lib} (hl : lib 47 = none) {x0 : Value} {s : St} {r : Value × St} (h : op_formOf (run Try.prog lib hints) x0 s = some r) : run Try.prog lib hints 47 [x0] s = some r :=
  run_of hl Try.func47 (Eq.trans (by kernel_rfl) h)

theorem op_formOf_ok : funcOk Try.prog 47 = true := by kernel_rfl
theorem op_formOf_call {R : Caller} {xs : List Value} {s : St} : callV Try.prog R (.func (.func 47) #[] #[]) xs s = R 47 xs s := callV_eq op_formOf_ok

/-! ### sumpter/op.of: 48 -/

noncomputable def op_of (R : Caller) (x0 : Value) (s : St) : Option (Value × St) :=
(lbox x0).bind fun v0 =>
(lload false 1 (.pointer (some ⟨0, 3, none⟩)) v0).bind fun v1 =>
(lload false 1 (.pointer (some ⟨0, 4, none⟩)) v0).bind fun v2 =>
(abuild Try.prog 38 [(0, v1), (1, v2)]).bind fun v3 =>
(lstore 2 lptr v3 (.agg #[(.string ⟨#[]⟩), (.string ⟨#[]⟩)])).bind fun v4 =>
(lload true 2 lptr v4).bind fun v5 =>
retV [v5] s

theorem op_of_of {lib : Lib} (hl : lib 48 = none) {x0 : Value} {s : St} {r : Value × St} (h : op_of (run Try.prog lib hints) x0 s = some r) : run Try.prog lib hints 48 [x0] s = some r :=
  run_of hl Try.func48 (Eq.trans (by kernel_rfl) h)

theorem op_of_ok : funcOk Try.prog 48 = true := by kernel_rfl
theorem op_of_call {R : Caller} {xs : List Value} {s : St} : callV Try.prog R (.func (.func 48) #[] #[]) xs s = R 48 xs s := callV_eq op_of_ok

/-! ### sumpter/span.Check: 49 -/

noncomputable def span_Check.j0 (R : Caller) (T : List Value) (s : St) : Option (Value × St) :=
condV (getL T 0)
 (retV [(.int .i64 21)] s)
 (retV [(.int .i64 0)] s)

noncomputable def span_Check (R : Caller) (x0 : Value) (s : St) : Option (Value × St) :=
(lbox x0).bind fun v0 =>
(lload true 2 lptr v0).bind fun v1 =>
(((callV Try.prog R (.func (.func 60) #[] #[]) [] s).bind fun r20 =>
some (r20.1, r20.2)).bind (ownR s)).bind fun r2 =>
(abin Try.prog .eql 38 (.tmp 4) (.tmp 5) v1 r2.1).bind fun v3 =>
condV v3
 (retV [(.int .i64 0)] r2.2)
 ((lload false 1 lptr v0).bind fun v5 =>
(alenV .string v5 r2.2).bind fun v6 =>
(abin Try.prog .gtr 3 (.tmp 10) (.const (.int .i64 12)) v6 (.int .i64 12)).bind fun v7 =>
(guardV v7 false ((lload false 1 (.pointer (some ⟨0, 1, none⟩)) v0).bind fun v8 =>
(alenV .string v8 r2.2).bind fun v9 =>
(abin Try.prog .gtr 3 (.tmp 15) (.const (.int .i64 12)) v9 (.int .i64 12)).bind fun v10 =>
some ([v10], r2.2)) (some ([undef], r2.2))).bind fun q11 =>
(apick v7 (.bool true) (getL q11.1 0)).bind fun v12 =>
condV v12
 (joinK (span_Check.j0 R) [v12] q11.2)
 ((lload false 1 (.pointer (some ⟨0, 1, none⟩)) v0).bind fun v13 =>
(abin Try.prog .neq 9 (.tmp 19) (.const (.string ⟨#[]⟩)) v13 (.string ⟨#[]⟩)).bind fun v14 =>
(guardV v14 true ((lload false 1 lptr v0).bind fun v15 =>
(lload false 1 (.pointer (some ⟨0, 1, none⟩)) v0).bind fun v16 =>
(abin Try.prog .geq 9 (.tmp 23) (.tmp 25) v15 v16).bind fun v17 =>
some ([v17], q11.2)) (some ([undef], q11.2))).bind fun q18 =>
(apick v14 (getL q18.1 0) (.bool false)).bind fun v19 =>
joinK (span_Check.j0 R) [v19] q18.2))

theorem span_Check_of {lib : Lib} (hl : lib 49 = none) {x0 : Value} {s : St} {r : Value × St} (h : span_Check (run Try.prog lib hints) x0 s = some r) : run Try.prog lib hints 49 [x0] s = some r :=
  run_of hl Try.func49 (Eq.trans (by kernel_rfl) h)

theorem span_Check_ok : funcOk Try.prog 49 = true := by kernel_rfl
theorem span_Check_call {R : Caller} {xs : List Value} {s : St} : callV Try.prog R (.func (.func 49) #[] #[]) xs s = R 49 xs s := callV_eq span_Check_ok

/-! ### sumpter/sumpterref02.Check: 50 -/

noncomputable def ref02_Check (R : Caller) (x0 : Value) (s : St) : Option (Value × St) :=
(lbox x0).bind fun v0 =>
(lload false 1 lptr v0).bind fun v1 =>
(alenV .string v1 s).bind fun v2 =>
(abin Try.prog .gtr 3 (.tmp 5) (.const (.int .i64 12)) v2 (.int .i64 12)).bind fun v3 =>
(guardV v3 false ((lload false 1 (.pointer (some ⟨0, 1, none⟩)) v0).bind fun v4 =>
(alenV .string v4 s).bind fun v5 =>
(abin Try.prog .gtr 3 (.tmp 10) (.const (.int .i64 12)) v5 (.int .i64 12)).bind fun v6 =>
some ([v6], s)) (some ([undef], s))).bind fun q7 =>
(apick v3 (.bool true) (getL q7.1 0)).bind fun v8 =>
(guardV v8 false ((lload false 1 (.pointer (some ⟨0, 1, none⟩)) v0).bind fun v9 =>
(abin Try.prog .neq 9 (.tmp 15) (.const (.string ⟨#[]⟩)) v9 (.string ⟨#[]⟩)).bind fun v10 =>
some ([v10], q7.2)) (some ([undef], q7.2))).bind fun q11 =>
(guardV (getL q11.1 0) true ((lload false 1 lptr v0).bind fun v12 =>
(lload false 1 (.pointer (some ⟨0, 1, none⟩)) v0).bind fun v13 =>
(abin Try.prog .geq 9 (.tmp 19) (.tmp 21) v12 v13).bind fun v14 =>
some ([v14], q11.2)) (some ([undef], q11.2))).bind fun q15 =>
(guardV v8 false ((apick (getL q11.1 0) (getL q15.1 0) (.bool false)).bind fun v16 =>
some ([v16], q15.2)) (some ([undef], q15.2))).bind fun q17 =>
(apick v8 (.bool true) (getL q17.1 0)).bind fun v18 =>
condV v18
 (retV [(.int .i64 21)] q17.2)
 (retV [(.int .i64 0)] q17.2)

theorem ref02_Check_of {lib : Lib} (hl : lib 50 = none) {x0 : Value} {s : St} {r : Value × St} (h : ref02_Check (run Try.prog lib hints) x0 s = some r) : run Try.prog lib hints 50 [x0] s = some r :=
  run_of hl Try.func50 (Eq.trans (by kernel_rfl) h)

theorem ref02_Check_ok : funcOk Try.prog 50 = true := by kernel_rfl
theorem ref02_Check_call {R : Caller} {xs : List Value} {s : St} : callV Try.prog R (.func (.func 50) #[] #[]) xs s = R 50 xs s := callV_eq ref02_Check_ok

/-! ### sumpter/span.least: 51 -/

noncomputable def span_least (R : Caller) (x0 x1 : Value) (s : St) : Option (Value × St) :=
(abin Try.prog .eql 9 (.tmp 5) (.const (.string ⟨#[]⟩)) x0 (.string ⟨#[]⟩)).bind fun v0 =>
(guardV v0 false ((abin Try.prog .neq 9 (.tmp 8) (.const (.string ⟨#[]⟩)) x1 (.string ⟨#[]⟩)).bind fun v1 =>
some ([v1], s)) (some ([undef], s))).bind fun q2 =>
(guardV (getL q2.1 0) true ((abin Try.prog .lss 9 (.tmp 11) (.tmp 12) x1 x0).bind fun v3 =>
some ([v3], q2.2)) (some ([undef], q2.2))).bind fun q4 =>
(guardV v0 false ((apick (getL q2.1 0) (getL q4.1 0) (.bool false)).bind fun v5 =>
some ([v5], q4.2)) (some ([undef], q4.2))).bind fun q6 =>
(apick v0 (.bool true) (getL q6.1 0)).bind fun v7 =>
condV v7
 (retV [x1] q6.2)
 (retV [x0] q6.2)

theorem span_least_of {lib : Lib} (hl : lib 51 = none) {x0 x1 : Value} {s : St} {r : Value × St} (h : span_least (run Try.prog lib hints) x0 x1 s = some r) : run Try.prog lib hints 51 [x0, x1] s = some r :=
  run_of hl Try.func51 (Eq.trans (by kernel_rfl) h)

theorem span_least_ok : funcOk Try.prog 51 = true := by kernel_rfl
theorem span_least_call {R : Caller} {xs : List Value} {s : St} : callV Try.prog R (.func (.func 51) #[] #[]) xs s = R 51 xs s := callV_eq span_least_ok

/-! ### sumpter/op.all: 52 -/

noncomputable def op_all.b0 (R : Caller) (T : List Value) (s : St) : Res :=
(abin Try.prog .lss 3 (.tmp 8) (.tmp 7) (getL T 2) (getL T 1)).bind fun v1 =>
condV v1
 ((aindexS 6 (getL T 0) (getL T 2)).bind fun v2 =>
(aload true 6 v2 s).bind fun v3 =>
(lstore 6 lptr v3 (.agg #[(.int .i64 0), (.string ⟨#[]⟩), (.string ⟨#[]⟩), (.string ⟨#[]⟩), (.string ⟨#[]⟩), (.int .i64 0)])).bind fun v4 =>
(lload true 6 lptr v4).bind fun v5 =>
(callV Try.prog R (.func (.func 27) #[] #[]) [v5] s).bind fun r6 =>
(abin Try.prog .neq 26 (.tmp 14) (.const (.int .i64 0)) r6.1 (.int .i64 0)).bind fun v7 =>
condV v7
 (some (.ret, [r6.1], r6.2))
 ((abin Try.prog .add 3 (.tmp 8) (.const (.int .i64 1)) (getL T 2) (.int .i64 1)).bind fun v8 =>
some (.normal, [(getL T 0), (getL T 1), v8], r6.2)))
 (some (.exit 0, [], s))

noncomputable def op_all (R : Caller) (x0 : Value) (s : St) : Option (Value × St) :=
(alenV (.slice 50) x0 s).bind fun v0 =>
(loopL (op_all.b0 R) [x0, v0, (.int .i64 0)] s).bind fun r9 =>
exV r9.1 [(0, retV [(.int .i64 0)] r9.2.2)]
 (retV [(getL r9.2.1 0)] r9.2.2)

theorem op_all_of {lib : Lib} (hl : lib 52 = none) {x0 : Value} {s : St} {r : Value × St} (h : op_all (run Try.prog lib hints) x0 s = some r) : run Try.prog lib hints 52 [x0] s = some r :=
  run_of hl Try.func52 (Eq.trans (by kernel_rfl) h)

theorem op_all_ok : funcOk Try.prog 52 = true := by kernel_rfl
theorem op_all_call {R : Caller} {xs : List Value} {s : St} : callV Try.prog R (.func (.func 52) #[] #[]) xs s = R 52 xs s := callV_eq op_all_ok

/-! ### slices.Clone[[]sumpter/api.Pair,sumpter/api.Pair]: 53 -/

noncomputable def slices_Clone_api_Pair_api_Pair (R : Caller) (x0 : Value) (s : St) : Option (Value × St) :=
(abin Try.prog .eql 29 (.tmp 3) (.const (.slice none 0 0)) x0 (.slice none 0 0)).bind fun v0 =>
condV v0
 (retV [(.slice none 0 0)] s)
 ((abuildSl 2 [(.string ⟨#[]⟩), (.string ⟨#[]⟩)] 0 [] s).bind fun r1 =>
(aappend 2 32 r1.1 x0 r1.2).bind fun r2 =>
retV [r2.1] r2.2)

theorem slices_Clone_api_Pair_api_Pair_of {lib : Lib} (hl : lib 53 = none) {x0 : Value} {s : St} {r : Value × St} (h : slices_Clone_api_Pair_api_Pair (run Try.prog lib hints) x0 s = some r) : run Try.prog lib hints 53 [x0] s = some r :=
  run_of hl Try.func53 (Eq.trans (by kernel_rfl) h)

theorem slices_Clone_api_Pair_api_Pair_ok : funcOk Try.prog 53 = true := by kernel_rfl
theorem slices_Clone_api_Pair_api_Pair_call {R : Caller} {xs : List Value} {s : St} : callV Try.prog R (.func (.func 53) #[] #[]) xs s = R 53 xs s := callV_eq slices_Clone_api_Pair_api_Pair_ok

/-! ### sumpter/op.forms: 54 -/

noncomputable def op_forms (R : Caller) (s : St) : Option (Value × St) :=
(abuild Try.prog 87 [(0, (.bool true)), (5, (.func (.func 61) #[] #[]))]).bind fun v0 =>
(abuild Try.prog 87 [(0, (.bool true)), (1, (.bool true)), (4, (.bool true)), (5, (.func (.func 62) #[] #[]))]).bind fun v1 =>
(abuild Try.prog 87 [(0, (.bool true)), (4, (.bool true)), (5, (.func (.func 63) #[] #[]))]).bind fun v2 =>
(abuild Try.prog 87 [(2, (.bool true)), (3, (.bool true)), (5, (.func (.func 64) #[] #[]))]).bind fun v3 =>
(abuild Try.prog 87 [(2, (.bool true)), (4, (.bool true)), (5, (.func (.func 65) #[] #[]))]).bind fun v4 =>
(abuild Try.prog 97 [(1, v0), (2, v1), (3, v2), (4, v3), (5, v4)]).bind fun v5 =>
(lstore 36 lptr v5 (.agg #[(.bool false), (.bool false), (.bool false), (.bool false), (.bool false), .nilFunc, (.bool false), (.bool false), (.bool false), (.bool false), (.bool false), .nilFunc, (.bool false), (.bool false), (.bool false), (.bool false), (.bool false), .nilFunc, (.bool false), (.bool false), (.bool false), (.bool false), (.bool false), .nilFunc, (.bool false), (.bool false), (.bool false), (.bool false), (.bool false), .nilFunc, (.bool false), (.bool false), (.bool false), (.bool false), (.bool false), .nilFunc])).bind fun v6 =>
(lload true 36 lptr v6).bind fun v7 =>
retV [v7] s

theorem op_forms_of {lib : Lib} (hl : lib 54 = none) {s : St} {r : Value × St} (h : op_forms (run Try.prog lib hints)  s = some r) : run Try.prog lib hints 54 [] s = some r :=
  run_of hl Try.func54 (Eq.trans (by kernel_rfl) h)

theorem op_forms_ok : funcOk Try.prog 54 = true := by kernel_rfl
theorem op_forms_call {R : Caller} {xs : List Value} {s : St} : callV Try.prog R (.func (.func 54) #[] #[]) xs s = R 54 xs s := callV_eq op_forms_ok

/-! ### slices.Grow[[]sumpter/api.Entry,sumpter/api.Entry]: 55 -/

noncomputable def slices_Grow_api_Entry_api_Entry.j0 (R : Caller) (T : List Value) (s : St) : Option (Value × St) :=
retV [(getL T 0)] s

noncomputable def slices_Grow_api_Entry_api_Entry.j1 (R : Caller) (T : List Value) (s : St) : Option (Value × St) :=
(acap (getL T 0)).bind fun v4 =>
(alenV (.slice 52) (getL T 0) s).bind fun v5 =>
(abin Try.prog .sub 3 (.tmp 10) (.tmp 12) v4 v5).bind fun v6 =>
(abin Try.prog .sub 3 (.tmp 8) (.tmp 13) (getL T 1) v6).bind fun v7 =>
(abin Try.prog .gtr 3 (.tmp 15) (.const (.int .i64 0)) v7 (.int .i64 0)).bind fun v8 =>
condV v8
 ((acap (getL T 0)).bind fun v9 =>
(asliceV 7 (getL T 0) none (some v9) none).bind fun v10 =>
(aappendZ 7 88 [(.int .u64 0), (.int .i64 0), (.string ⟨#[]⟩), (.string ⟨#[]⟩), (.string ⟨#[]⟩), (.string ⟨#[]⟩), (.int .i64 0)] v10 v7 s).bind fun r11 =>
(alenV (.slice 52) (getL T 0) r11.2).bind fun v12 =>
(asliceV 7 r11.1 none (some v12) none).bind fun v13 =>
joinK (slices_Grow_api_Entry_api_Entry.j0 R) [v13] r11.2)
 (joinK (slices_Grow_api_Entry_api_Entry.j0 R) [(getL T 0)] s)

noncomputable def slices_Grow_api_Entry_api_Entry (R : Caller) (x0 x1 : Value) (s : St) : Option (Value × St) :=
(abin Try.prog .lss 3 (.tmp 5) (.const (.int .i64 0)) x1 (.int .i64 0)).bind fun v1 =>
condV v1
 ((aiface 9 (.string ⟨#[99, 97, 110, 110, 111, 116, 32, 98, 101, 32, 110, 101, 103, 97, 116, 105, 118, 101]⟩)).bind fun v2 =>
none)
 (joinK (slices_Grow_api_Entry_api_Entry.j1 R) [x0, x1] s)

theorem slices_Grow_api_Entry_api_Entry_of {lib : Lib} (hl : lib 55 = none) {x0 x1 : Value} {s : St} {r : Value × St} (h : slices_Grow_api_Entry_api_Entry (run Try.prog lib hints) x0 x1 s = some r) : run Try.prog lib hints 55 [x0, x1] s = some r :=
  run_of hl Try.func55 (Eq.trans (by kernel_rfl) h)

theorem slices_Grow_api_Entry_api_Entry_ok : funcOk Try.prog 55 = true := by kernel_rfl
theorem slices_Grow_api_Entry_api_Entry_call {R : Caller} {xs : List Value} {s : St} : callV Try.prog R (.func (.func 55) #[] #[]) xs s = R 55 xs s := callV_eq slices_Grow_api_Entry_api_Entry_ok

/-! ### slices.pdqsortCmpFunc[sumpter/api.Entry]: 56 -/

noncomputable def slices_pdqsortCmpFunc_api_Entry.j0 (R : Caller) (T : List Value) (s : St) : Res :=
(abin Try.prog .gtr 3 (.tmp 81) (.const (.int .i64 0)) (getL T 1) (.int .i64 0)).bind fun v25 =>
(guardV v25 true (some ([(getL T 4)], s)) (some ([undef], s))).bind fun q26 =>
(guardV v25 true (some ([(getL T 0)], q26.2)) (some ([undef], q26.2))).bind fun q27 =>
(guardV v25 true (some ([(getL T 1)], q27.2)) (some ([undef], q27.2))).bind fun q28 =>
(guardV v25 true ((abin Try.prog .sub 3 (.tmp 86) (.const (.int .i64 1)) (getL q28.1 0) (.int .i64 1)).bind fun v29 =>
some ([v29], q28.2)) (some ([undef], q28.2))).bind fun q30 =>
(guardV v25 true ((aindexS 7 (getL q27.1 0) (getL q30.1 0)).bind fun v31 =>
some ([v31], q30.2)) (some ([undef], q30.2))).bind fun q32 =>
(guardV v25 true ((aload true 7 (getL q32.1 0) (frzS q32.2)).bind fun v61 =>
some (v61, (frzS q32.2))) (some (undef, (frzS q32.2)))).bind fun r33 =>
(guardV v25 true (some ([(getL T 0)], q32.2)) (some ([undef], q32.2))).bind fun q34 =>
(guardV v25 true (some ([(getL T 8)], q34.2)) (some ([undef], q34.2))).bind fun q35 =>
(guardV v25 true ((aindexS 7 (getL q34.1 0) (getL q35.1 0)).bind fun v36 =>
some ([v36], q35.2)) (some ([undef], q35.2))).bind fun q37 =>
(guardV v25 true ((aload true 7 (getL q37.1 0) (frzS q37.2)).bind fun v60 =>
some (v60, (frzS q37.2))) (some (undef, (frzS q37.2)))).bind fun r38 =>
((guardV v25 true ((callV Try.prog R (getL q26.1 0) [r33.1, r38.1] q37.2).bind fun r59 =>
some (r59.1, r59.2)) (some (undef, q37.2))).bind (ownR q37.2)).bind fun r39 =>
(guardV v25 true ((abin Try.prog .lss 3 (.tmp 94) (.const (.int .i64 0)) r39.1 (.int .i64 0)).bind fun v40 =>
some ([v40], r39.2)) (some ([undef], r39.2))).bind fun q41 =>
(guardV v25 true ((aun .not (getL q41.1 0)).bind fun v42 =>
some ([v42], q41.2)) (some ([undef], q41.2))).bind fun q43 =>
(apick v25 (getL q43.1 0) (.bool false)).bind fun v44 =>
condV v44
 ((callV Try.prog R (.func (.func 72) #[] #[]) [(getL T 0), (getL T 1), (getL T 2), (getL T 8), (getL T 4)] q43.2).bind fun r45 =>
some (.normal, [(getL T 0), r45.1, (getL T 2), (getL T 3), (getL T 4), (getL T 5), (getL T 6)], r45.2))
 ((callV Try.prog R (.func (.func 73) #[] #[]) [(getL T 0), (getL T 1), (getL T 2), (getL T 8), (getL T 4)] q43.2).bind fun r46 =>
(aextract 0 r46.1).bind fun v47 =>
(aextract 1 r46.1).bind fun v48 =>
(abin Try.prog .sub 3 (.tmp 115) (.tmp 116) v47 (getL T 1)).bind fun v49 =>
(abin Try.prog .sub 3 (.tmp 118) (.tmp 119) (getL T 2) v47).bind fun v50 =>
(abin Try.prog .quo 3 (.tmp 121) (.const (.int .i64 8)) (getL T 7) (.int .i64 8)).bind fun v51 =>
(abin Try.prog .lss 3 (.tmp 123) (.tmp 124) v49 v50).bind fun v52 =>
condV v52
 ((abin Try.prog .geq 3 (.tmp 126) (.tmp 127) v49 v51).bind fun v53 =>
(callV Try.prog R (.func (.func 56) #[] #[]) [(getL T 0), (getL T 1), v47, (getL T 3), (getL T 4)] r46.2).bind fun r54 =>
(abin Try.prog .add 3 (.tmp 135) (.const (.int .i64 1)) v47 (.int .i64 1)).bind fun v55 =>
some (.normal, [(getL T 0), v55, (getL T 2), (getL T 3), (getL T 4), v53, v48], r54.2))
 ((abin Try.prog .geq 3 (.tmp 137) (.tmp 138) v50 v51).bind fun v56 =>
(abin Try.prog .add 3 (.tmp 141) (.const (.int .i64 1)) v47 (.int .i64 1)).bind fun v57 =>
(callV Try.prog R (.func (.func 56) #[] #[]) [(getL T 0), v57, (getL T 2), (getL T 3), (getL T 4)] r46.2).bind fun r58 =>
some (.normal, [(getL T 0), (getL T 1), v47, (getL T 3), (getL T 4), v56, v48], r58.2)))

noncomputable def slices_pdqsortCmpFunc_api_Entry.j1 (R : Caller) (T : List Value) (s : St) : Res :=
(guardV (getL T 5) true (some ([(getL T 6)], s)) (some ([undef], s))).bind fun q19 =>
(apick (getL T 5) (getL q19.1 0) (.bool false)).bind fun v20 =>
(guardV v20 true ((abin Try.prog .eql 107 (.tmp 73) (.const (.int .i64 1)) (getL T 9) (.int .i64 1)).bind fun v21 =>
some ([v21], q19.2)) (some ([undef], q19.2))).bind fun q22 =>
(apick v20 (getL q22.1 0) (.bool false)).bind fun v23 =>
condV v23
 ((callV Try.prog R (.func (.func 71) #[] #[]) [(getL T 0), (getL T 1), (getL T 2), (getL T 4)] q22.2).bind fun r24 =>
condV r24.1
 (some (.ret, [], r24.2))
 (joinK (slices_pdqsortCmpFunc_api_Entry.j0 R) [(getL T 0), (getL T 1), (getL T 2), (getL T 3), (getL T 4), (getL T 5), (getL T 6), (getL T 7), (getL T 8)] r24.2))
 (joinK (slices_pdqsortCmpFunc_api_Entry.j0 R) [(getL T 0), (getL T 1), (getL T 2), (getL T 3), (getL T 4), (getL T 5), (getL T 6), (getL T 7), (getL T 8)] q22.2)

noncomputable def slices_pdqsortCmpFunc_api_Entry.j2 (R : Caller) (T : List Value) (s : St) : Res :=
(callV Try.prog R (.func (.func 69) #[] #[]) [(getL T 0), (getL T 1), (getL T 2), (getL T 4)] s).bind fun r9 =>
(aextract 0 r9.1).bind fun v10 =>
(aextract 1 r9.1).bind fun v11 =>
(abin Try.prog .eql 107 (.tmp 55) (.const (.int .i64 2)) v11 (.int .i64 2)).bind fun v13 =>
condV v13
 ((callV Try.prog R (.func (.func 70) #[] #[]) [(getL T 0), (getL T 1), (getL T 2), (getL T 4)] r9.2).bind fun r14 =>
(abin Try.prog .sub 3 (.tmp 62) (.const (.int .i64 1)) (getL T 2) (.int .i64 1)).bind fun v15 =>
(abin Try.prog .sub 3 (.tmp 64) (.tmp 65) v10 (getL T 1)).bind fun v16 =>
(abin Try.prog .sub 3 (.tmp 63) (.tmp 66) v15 v16).bind fun v17 =>
joinK (slices_pdqsortCmpFunc_api_Entry.j1 R) [(getL T 0), (getL T 1), (getL T 2), (getL T 3), (getL T 4), (getL T 5), (getL T 6), (getL T 7), v17, (.int .i64 1)] r14.2)
 (joinK (slices_pdqsortCmpFunc_api_Entry.j1 R) [(getL T 0), (getL T 1), (getL T 2), (getL T 3), (getL T 4), (getL T 5), (getL T 6), (getL T 7), v10, v11] r9.2)

noncomputable def slices_pdqsortCmpFunc_api_Entry.b0 (R : Caller) (T : List Value) (s : St) : Res :=
(abin Try.prog .sub 3 (.tmp 21) (.tmp 22) (getL T 2) (getL T 1)).bind fun v0 =>
(abin Try.prog .leq 3 (.tmp 24) (.const (.int .i64 12)) v0 (.int .i64 12)).bind fun v1 =>
condV v1
 ((callV Try.prog R (.func (.func 66) #[] #[]) [(getL T 0), (getL T 1), (getL T 2), (getL T 4)] s).bind fun r2 =>
some (.ret, [], r2.2))
 ((abin Try.prog .eql 3 (.tmp 31) (.const (.int .i64 0)) (getL T 3) (.int .i64 0)).bind fun v3 =>
condV v3
 ((callV Try.prog R (.func (.func 67) #[] #[]) [(getL T 0), (getL T 1), (getL T 2), (getL T 4)] s).bind fun r4 =>
some (.ret, [], r4.2))
 ((aun .not (getL T 5)).bind fun v6 =>
condV v6
 ((callV Try.prog R (.func (.func 68) #[] #[]) [(getL T 0), (getL T 1), (getL T 2), (getL T 4)] s).bind fun r7 =>
(abin Try.prog .sub 3 (.tmp 45) (.const (.int .i64 1)) (getL T 3) (.int .i64 1)).bind fun v8 =>
joinK (slices_pdqsortCmpFunc_api_Entry.j2 R) [(getL T 0), (getL T 1), (getL T 2), v8, (getL T 4), (getL T 5), (getL T 6), v0] r7.2)
 (joinK (slices_pdqsortCmpFunc_api_Entry.j2 R) [(getL T 0), (getL T 1), (getL T 2), (getL T 3), (getL T 4), (getL T 5), (getL T 6), v0] s)))

noncomputable def slices_pdqsortCmpFunc_api_Entry (R : Caller) (x0 x1 x2 x3 x4 : Value) (s : St) : Option (Value × St) :=
(loopL (slices_pdqsortCmpFunc_api_Entry.b0 R) [x0, x1, x2, x3, x4, (.bool true), (.bool true)] s).bind fun r62 =>
exV r62.1 []
 (retV [] r62.2.2)

theorem slices_pdqsortCmpFunc_api_Entry_of {lib : Lib} (hl : lib 56 = none) {x0 x1 x2 x3 x4 : Value} {s : St} {r : Value × St} (h : slices_pdqsortCmpFunc_api_Entry (run Try.prog lib hints) x0 x1 x2 x3 x4 s = some r) : run Try.prog lib hints 56 [x0, x1, x2, x3, x4] s = some r :=
  run_of hl Try.func56 (Eq.trans (by kernel_rfl) h)

theorem slices_pdqsortCmpFunc_api_Entry_ok : funcOk Try.prog 56 = true := by kernel_rfl
theorem slices_pdqsortCmpFunc_api_Entry_call {R : Caller} {xs : List Value} {s : St} : callV Try.prog R (.func (.func 56) #[] #[]) xs s = R 56 xs s := callV_eq slices_pdqsortCmpFunc_api_Entry_ok

/-! ### math/bits.Len: 57 -/

noncomputable def math_bits_Len (R : Caller) (x0 : Value) (s : St) : Option (Value × St) :=
condV (.bool false)
 ((convInt .u32 x0).bind fun v0 =>
(callV Try.prog R (.func (.func 74) #[] #[]) [v0] s).bind fun r1 =>
retV [r1.1] r1.2)
 ((callV Try.prog R (.func (.func 75) #[] #[]) [x0] s).bind fun r2 =>
retV [r2.1] r2.2)

theorem math_bits_Len_of {lib : Lib} (hl : lib 57 = none) {x0 : Value} {s : St} {r : Value × St} (h : math_bits_Len (run Try.prog lib hints) x0 s = some r) : run Try.prog lib hints 57 [x0] s = some r :=
  run_of hl Try.func57 (Eq.trans (by kernel_rfl) h)

theorem math_bits_Len_ok : funcOk Try.prog 57 = true := by kernel_rfl
theorem math_bits_Len_call {R : Caller} {xs : List Value} {s : St} : callV Try.prog R (.func (.func 57) #[] #[]) xs s = R 57 xs s := callV_eq math_bits_Len_ok

/-! ### cmp.isNaN[uint64]: 58 -/

noncomputable def cmp_isNaN_uint64 (R : Caller) (x0 : Value) (s : St) : Option (Value × St) :=
(abin Try.prog .neq 48 (.tmp 3) (.tmp 4) x0 x0).bind fun v0 =>
retV [v0] s

theorem cmp_isNaN_uint64_of {lib : Lib} (hl : lib 58 = none) {x0 : Value} {s : St} {r : Value × St} (h : cmp_isNaN_uint64 (run Try.prog lib hints) x0 s = some r) : run Try.prog lib hints 58 [x0] s = some r :=
  run_of hl Try.func58 (Eq.trans (by kernel_rfl) h)

theorem cmp_isNaN_uint64_ok : funcOk Try.prog 58 = true := by kernel_rfl
theorem cmp_isNaN_uint64_call {R : Caller} {xs : List Value} {s : St} : callV Try.prog R (.func (.func 58) #[] #[]) xs s = R 58 xs s := callV_eq cmp_isNaN_uint64_ok

/-! ### slices.IndexFunc[[]sumpter/api.Entry,sumpter/api.Entry]: 59 -/

noncomputable def slices_IndexFunc_api_Entry_api_Entry.b0 (R : Caller) (T : List Value) (s : St) : Res :=
(abin Try.prog .lss 3 (.tmp 8) (.tmp 7) (getL T 3) (getL T 2)).bind fun v1 =>
condV v1
 ((aindexS 7 (getL T 0) (getL T 3)).bind fun v2 =>
(aload true 7 v2 s).bind fun v3 =>
(callV Try.prog R (getL T 1) [v3] s).bind fun r4 =>
condV r4.1
 (some (.ret, [(getL T 3)], r4.2))
 ((abin Try.prog .add 3 (.tmp 8) (.const (.int .i64 1)) (getL T 3) (.int .i64 1)).bind fun v5 =>
some (.normal, [(getL T 0), (getL T 1), (getL T 2), v5], r4.2)))
 (some (.exit 0, [], s))

noncomputable def slices_IndexFunc_api_Entry_api_Entry (R : Caller) (x0 x1 : Value) (s : St) : Option (Value × St) :=
(alenV (.slice 52) x0 s).bind fun v0 =>
(loopL (slices_IndexFunc_api_Entry_api_Entry.b0 R) [x0, x1, v0, (.int .i64 0)] s).bind fun r6 =>
exV r6.1 [(0, retV [(.int .i64 (-1))] r6.2.2)]
 (retV [(getL r6.2.1 0)] r6.2.2)

theorem slices_IndexFunc_api_Entry_api_Entry_of {lib : Lib} (hl : lib 59 = none) {x0 x1 : Value} {s : St} {r : Value × St} (h : slices_IndexFunc_api_Entry_api_Entry (run Try.prog lib hints) x0 x1 s = some r) : run Try.prog lib hints 59 [x0, x1] s = some r :=
  run_of hl Try.func59 (Eq.trans (by kernel_rfl) h)

theorem slices_IndexFunc_api_Entry_api_Entry_ok : funcOk Try.prog 59 = true := by kernel_rfl
theorem slices_IndexFunc_api_Entry_api_Entry_call {R : Caller} {xs : List Value} {s : St} : callV Try.prog R (.func (.func 59) #[] #[]) xs s = R 59 xs s := callV_eq slices_IndexFunc_api_Entry_api_Entry_ok

/-! ### sumpter/span.all: 60 -/

noncomputable def span_all (R : Caller) (s : St) : Option (Value × St) :=
retV [(.agg #[(.string ⟨#[]⟩), (.string ⟨#[]⟩)])] s

theorem span_all_of {lib : Lib} (hl : lib 60 = none) {s : St} {r : Value × St} (h : span_all (run Try.prog lib hints)  s = some r) : run Try.prog lib hints 60 [] s = some r :=
  run_of hl Try.func60 (Eq.trans (by kernel_rfl) h)

theorem span_all_ok : funcOk Try.prog 60 = true := by kernel_rfl
theorem span_all_call {R : Caller} {xs : List Value} {s : St} : callV Try.prog R (.func (.func 60) #[] #[]) xs s = R 60 xs s := callV_eq span_all_ok

/-! ### sumpter/op.get: 61 -/

noncomputable def op_get (R : Caller) (x0 x1 : Value) (s : St) : Option (Value × St) :=
(lbox x1).bind fun v0 =>
(lload false 1 (.pointer (some ⟨0, 1, none⟩)) v0).bind fun v1 =>
(callV Try.prog R (.func (.func 76) #[] #[]) [x0, v1] s).bind fun r2 =>
(aextract 0 r2.1).bind fun v3 =>
(aextract 1 r2.1).bind fun v4 =>
(aun .not v4).bind fun v5 =>
condV v5
 (retV [x0, (.agg #[(.bool false), (.string ⟨#[]⟩), (.slice none 0 0)])] r2.2)
 ((aindexS 2 x0 v3).bind fun v6 =>
(afieldAddr 1 v6).bind fun v7 =>
(((aload false 1 v7 r2.2).bind fun v12 =>
some (v12, r2.2)).bind (ownR r2.2)).bind fun r8 =>
(abuild Try.prog 95 [(0, (.bool true)), (1, r8.1)]).bind fun v9 =>
(lstore 3 lptr v9 (.agg #[(.bool false), (.string ⟨#[]⟩), (.slice none 0 0)])).bind fun v10 =>
(lload true 3 lptr v10).bind fun v11 =>
retV [x0, v11] r8.2)

theorem op_get_of {lib : Lib} (hl : lib 61 = none) {x0 x1 : Value} {s : St} {r : Value × St} (h : op_get (run Try.prog lib hints) x0 x1 s = some r) : run Try.prog lib hints 61 [x0, x1] s = some r :=
  run_of hl Try.func61 (Eq.trans (by kernel_rfl) h)

theorem op_get_ok : funcOk Try.prog 61 = true := by kernel_rfl
theorem op_get_call {R : Caller} {xs : List Value} {s : St} : callV Try.prog R (.func (.func 61) #[] #[]) xs s = R 61 xs s := callV_eq op_get_ok

/-! ### sumpter/op.put: 62 -/

noncomputable def op_put (R : Caller) (x0 x1 : Value) (s : St) : Option (Value × St) :=
(lbox x1).bind fun v0 =>
(lload false 1 (.pointer (some ⟨0, 1, none⟩)) v0).bind fun v1 =>
(callV Try.prog R (.func (.func 76) #[] #[]) [x0, v1] s).bind fun r2 =>
(aextract 0 r2.1).bind fun v3 =>
(aextract 1 r2.1).bind fun v4 =>
(aun .not v4).bind fun v5 =>
condV v5
 ((lload false 1 (.pointer (some ⟨0, 1, none⟩)) v0).bind fun v6 =>
(lload false 1 (.pointer (some ⟨0, 2, none⟩)) v0).bind fun v7 =>
(abuild Try.prog 75 [(0, v6), (1, v7)]).bind fun v8 =>
(abuildSl 2 [(.string ⟨#[]⟩), (.string ⟨#[]⟩)] 1 [(0, v8)] r2.2).bind fun r9 =>
(callV Try.prog R (.func (.func 77) #[] #[]) [x0, v3, r9.1] r9.2).bind fun r10 =>
retV [r10.1, (.agg #[(.bool false), (.string ⟨#[]⟩), (.slice none 0 0)])] r10.2)
 ((lload false 1 (.pointer (some ⟨0, 2, none⟩)) v0).bind fun v11 =>
(aindexS 2 x0 v3).bind fun v12 =>
(afieldAddr 1 v12).bind fun v13 =>
(astore 1 v13 v11 r2.2).bind fun s14 =>
retV [x0, (.agg #[(.bool false), (.string ⟨#[]⟩), (.slice none 0 0)])] s14)

theorem op_put_of {lib : Lib} (hl : lib 62 = none) {x0 x1 : Value} {s : St} {r : Value × St} (h : op_put (run Try.prog lib hints) x0 x1 s = some r) : run Try.prog lib hints 62 [x0, x1] s = some r :=
  run_of hl Try.func62 (Eq.trans (by kernel_rfl) h)

theorem op_put_ok : funcOk Try.prog 62 = true := by kernel_rfl
theorem op_put_call {R : Caller} {xs : List Value} {s : St} : callV Try.prog R (.func (.func 62) #[] #[]) xs s = R 62 xs s := callV_eq op_put_ok

/-! ### sumpter/op.del: 63 -/

noncomputable def op_del.j0 (R : Caller) (T : List Value) (s : St) : Option (Value × St) :=
(lstore 3 (getL T 1) (.agg #[(.bool false), (.string ⟨#[]⟩), (.slice none 0 0)]) (getL T 2)).bind fun v8 =>
(lload true 3 (getL T 1) v8).bind fun v9 =>
retV [(getL T 0), v9] s

noncomputable def op_del (R : Caller) (x0 x1 : Value) (s : St) : Option (Value × St) :=
(lbox x1).bind fun v0 =>
(lload false 1 (.pointer (some ⟨0, 1, none⟩)) v0).bind fun v2 =>
(callV Try.prog R (.func (.func 76) #[] #[]) [x0, v2] s).bind fun r3 =>
(aextract 0 r3.1).bind fun v4 =>
(aextract 1 r3.1).bind fun v5 =>
condV v5
 ((abin Try.prog .add 3 (.tmp 18) (.const (.int .i64 1)) v4 (.int .i64 1)).bind fun v6 =>
(callV Try.prog R (.func (.func 78) #[] #[]) [x0, v4, v6] r3.2).bind fun r7 =>
joinK (op_del.j0 R) [r7.1, lptr, (.agg #[(.bool false), (.string ⟨#[]⟩), (.slice none 0 0)])] r7.2)
 (joinK (op_del.j0 R) [x0, lptr, (.agg #[(.bool false), (.string ⟨#[]⟩), (.slice none 0 0)])] r3.2)

theorem op_del_of {lib : Lib} (hl : lib 63 = none) {x0 x1 : Value} {s : St} {r : Value × St} (h : op_del (run Try.prog lib hints) x0 x1 s = some r) : run Try.prog lib hints 63 [x0, x1] s = some r :=
  run_of hl Try.func63 (Eq.trans (by kernel_rfl) h)

theorem op_del_ok : funcOk Try.prog 63 = true := by kernel_rfl
theorem op_del_call {R : Caller} {xs : List Value} {s : St} : callV Try.prog R (.func (.func 63) #[] #[]) xs s = R 63 xs s := callV_eq op_del_ok

/-! ### sumpter/op.scan: 64 -/

noncomputable def op_scan (R : Caller) (x0 x1 : Value) (s : St) : Option (Value × St) :=
(lbox x1).bind fun v0 =>
(lload true 6 lptr v0).bind fun v1 =>
(callV Try.prog R (.func (.func 48) #[] #[]) [v1] s).bind fun r2 =>
(callV Try.prog R (.func (.func 79) #[] #[]) [x0, r2.1] r2.2).bind fun r3 =>
(aextract 0 r3.1).bind fun v4 =>
(aextract 1 r3.1).bind fun v5 =>
(lload false 1 (.pointer (some ⟨0, 5, none⟩)) v0).bind fun v6 =>
(abin Try.prog .add 3 (.tmp 19) (.tmp 21) v4 v6).bind fun v7 =>
(amin2 v5 v7).bind fun v8 =>
(asliceV 2 x0 (some v4) (some v8) none).bind fun v9 =>
(callV Try.prog R (.func (.func 53) #[] #[]) [v9] r3.2).bind fun r10 =>
(abuild Try.prog 95 [(2, r10.1)]).bind fun v11 =>
(lstore 3 lptr v11 (.agg #[(.bool false), (.string ⟨#[]⟩), (.slice none 0 0)])).bind fun v12 =>
(lload true 3 lptr v12).bind fun v13 =>
retV [x0, v13] r10.2

theorem op_scan_of {lib : Lib} (hl : lib 64 = none) {x0 x1 : Value} {s : St} {r : Value × St} (h : op_scan (run Try.prog lib hints) x0 x1 s = some r) : run Try.prog lib hints 64 [x0, x1] s = some r :=
  run_of hl Try.func64 (Eq.trans (by kernel_rfl) h)

theorem op_scan_ok : funcOk Try.prog 64 = true := by kernel_rfl
theorem op_scan_call {R : Caller} {xs : List Value} {s : St} : callV Try.prog R (.func (.func 64) #[] #[]) xs s = R 64 xs s := callV_eq op_scan_ok

/-! ### sumpter/op.clear: 65 -/

noncomputable def op_clear (R : Caller) (x0 x1 : Value) (s : St) : Option (Value × St) :=
(lbox x1).bind fun v0 =>
(lload true 6 lptr v0).bind fun v1 =>
(callV Try.prog R (.func (.func 48) #[] #[]) [v1] s).bind fun r2 =>
(callV Try.prog R (.func (.func 79) #[] #[]) [x0, r2.1] r2.2).bind fun r3 =>
(aextract 0 r3.1).bind fun v4 =>
(aextract 1 r3.1).bind fun v5 =>
(callV Try.prog R (.func (.func 78) #[] #[]) [x0, v4, v5] r3.2).bind fun r6 =>
retV [r6.1, (.agg #[(.bool false), (.string ⟨#[]⟩), (.slice none 0 0)])] r6.2

theorem op_clear_of {lib : Lib} (hl : lib 65 = none) {x0 x1 : Value} {s : St} {r : Value × St} (h : op_clear (run Try.prog lib hints) x0 x1 s = some r) : run Try.prog lib hints 65 [x0, x1] s = some r :=
  run_of hl Try.func65 (Eq.trans (by kernel_rfl) h)

theorem op_clear_ok : funcOk Try.prog 65 = true := by kernel_rfl
theorem op_clear_call {R : Caller} {xs : List Value} {s : St} : callV Try.prog R (.func (.func 65) #[] #[]) xs s = R 65 xs s := callV_eq op_clear_ok

/-! ### slices.insertionSortCmpFunc[sumpter/api.Entry]: 66 -/

noncomputable def slices_insertionSortCmpFunc_api_Entry.b1 (R : Caller) (T : List Value) (s : St) : Res :=
(abin Try.prog .gtr 3 (.tmp 18) (.tmp 19) (getL T 5) (getL T 1)).bind fun v2 =>
(guardV v2 true (some ([(getL T 3)], s)) (some ([undef], s))).bind fun q3 =>
(guardV v2 true (some ([(getL T 0)], q3.2)) (some ([undef], q3.2))).bind fun q4 =>
(guardV v2 true (some ([(getL T 5)], q4.2)) (some ([undef], q4.2))).bind fun q5 =>
(guardV v2 true ((aindexS 7 (getL q4.1 0) (getL q5.1 0)).bind fun v6 =>
some ([v6], q5.2)) (some ([undef], q5.2))).bind fun q7 =>
(guardV v2 true ((aload true 7 (getL q7.1 0) (frzS q7.2)).bind fun v37 =>
some (v37, (frzS q7.2))) (some (undef, (frzS q7.2)))).bind fun r8 =>
(guardV v2 true (some ([(getL T 0)], q7.2)) (some ([undef], q7.2))).bind fun q9 =>
(guardV v2 true (some ([(getL T 5)], q9.2)) (some ([undef], q9.2))).bind fun q10 =>
(guardV v2 true ((abin Try.prog .sub 3 (.tmp 28) (.const (.int .i64 1)) (getL q10.1 0) (.int .i64 1)).bind fun v11 =>
some ([v11], q10.2)) (some ([undef], q10.2))).bind fun q12 =>
(guardV v2 true ((aindexS 7 (getL q9.1 0) (getL q12.1 0)).bind fun v13 =>
some ([v13], q12.2)) (some ([undef], q12.2))).bind fun q14 =>
(guardV v2 true ((aload true 7 (getL q14.1 0) (frzS q14.2)).bind fun v36 =>
some (v36, (frzS q14.2))) (some (undef, (frzS q14.2)))).bind fun r15 =>
((guardV v2 true ((callV Try.prog R (getL q3.1 0) [r8.1, r15.1] q14.2).bind fun r35 =>
some (r35.1, r35.2)) (some (undef, q14.2))).bind (ownR q14.2)).bind fun r16 =>
(guardV v2 true ((abin Try.prog .lss 3 (.tmp 32) (.const (.int .i64 0)) r16.1 (.int .i64 0)).bind fun v17 =>
some ([v17], r16.2)) (some ([undef], r16.2))).bind fun q18 =>
(apick v2 (getL q18.1 0) (.bool false)).bind fun v19 =>
condV v19
 ((abin Try.prog .sub 3 (.tmp 40) (.const (.int .i64 1)) (getL T 5) (.int .i64 1)).bind fun v20 =>
(abin Try.prog .sub 3 (.tmp 43) (.const (.int .i64 1)) (getL T 5) (.int .i64 1)).bind fun v21 =>
(aindexS 7 (getL T 0) v21).bind fun v22 =>
((aload true 7 v22 (frzS q18.2)).bind fun v34 =>
some (v34, (frzS q18.2))).bind fun r23 =>
(aindexS 7 (getL T 0) (getL T 5)).bind fun v24 =>
((aload true 7 v24 (frzS q18.2)).bind fun v33 =>
some (v33, (frzS q18.2))).bind fun r25 =>
(aindexS 7 (getL T 0) (getL T 5)).bind fun v26 =>
(((astore 7 v26 r23.1 q18.2).bind fun s32 =>
some (undef, s32)).bind (ownR q18.2)).bind fun r27 =>
(aindexS 7 (getL T 0) v20).bind fun v28 =>
(((astore 7 v28 r25.1 r27.2).bind fun s31 =>
some (undef, s31)).bind (ownR r27.2)).bind fun r29 =>
(abin Try.prog .sub 3 (.tmp 35) (.const (.int .i64 1)) (getL T 5) (.int .i64 1)).bind fun v30 =>
some (.normal, [(getL T 0), (getL T 1), (getL T 2), (getL T 3), (getL T 4), v30], r29.2))
 (some (.exit 2, [(getL T 0), (getL T 1), (getL T 2), (getL T 3), (getL T 4)], q18.2))

noncomputable def slices_insertionSortCmpFunc_api_Entry.b0 (R : Caller) (T : List Value) (s : St) : Res :=
(abin Try.prog .lss 3 (.tmp 12) (.tmp 13) (getL T 4) (getL T 2)).bind fun v1 =>
condV v1
 ((loopL (slices_insertionSortCmpFunc_api_Entry.b1 R) [(getL T 0), (getL T 1), (getL T 2), (getL T 3), (getL T 4), (getL T 4)] s).bind fun r38 =>
exV r38.1 [(2, (abin Try.prog .add 3 (.tmp 15) (.const (.int .i64 1)) (getL r38.2.1 4) (.int .i64 1)).bind fun v39 =>
some (.normal, [(getL r38.2.1 0), (getL r38.2.1 1), (getL r38.2.1 2), (getL r38.2.1 3), v39], r38.2.2))]
 (none))
 (some (.exit 0, [], s))

noncomputable def slices_insertionSortCmpFunc_api_Entry (R : Caller) (x0 x1 x2 x3 : Value) (s : St) : Option (Value × St) :=
(abin Try.prog .add 3 (.tmp 10) (.const (.int .i64 1)) x1 (.int .i64 1)).bind fun v0 =>
(loopL (slices_insertionSortCmpFunc_api_Entry.b0 R) [x0, x1, x2, x3, v0] s).bind fun r40 =>
exV r40.1 [(0, retV [] r40.2.2)]
 (none)

theorem slices_insertionSortCmpFunc_api_Entry_of {lib : Lib} (hl : lib 66 = none) {x0 x1 x2 x3 : Value} {s : St} {r : Value × St} (h : slices_insertionSortCmpFunc_api_Entry (run Try.prog lib hints) x0 x1 x2 x3 s = some r) : run Try.prog lib hints 66 [x0, x1, x2, x3] s = some r :=
  run_of hl Try.func66 (Eq.trans (by kernel_rfl) h)

theorem slices_insertionSortCmpFunc_api_Entry_ok : funcOk Try.prog 66 = true := by kernel_rfl
theorem slices_insertionSortCmpFunc_api_Entry_call {R : Caller} {xs : List Value} {s : St} : callV Try.prog R (.func (.func 66) #[] #[]) xs s = R 66 xs s := callV_eq slices_insertionSortCmpFunc_api_Entry_ok

/-! ### slices.heapSortCmpFunc[sumpter/api.Entry]: 67 -/

noncomputable def slices_heapSortCmpFunc_api_Entry.b0 (R : Caller) (T : List Value) (s : St) : Res :=
(abin Try.prog .geq 3 (.tmp 20) (.const (.int .i64 0)) (getL T 5) (.int .i64 0)).bind fun v3 =>
condV v3
 ((callV Try.prog R (.func (.func 80) #[] #[]) [(getL T 0), (getL T 5), (getL T 4), (getL T 2), (getL T 1)] s).bind fun r4 =>
(abin Try.prog .sub 3 (.tmp 22) (.const (.int .i64 1)) (getL T 5) (.int .i64 1)).bind fun v5 =>
some (.normal, [(getL T 0), (getL T 1), (getL T 2), (getL T 3), (getL T 4), v5], r4.2))
 (some (.exit 0, [(getL T 0), (getL T 1), (getL T 2), (getL T 3), (getL T 4)], s))

noncomputable def slices_heapSortCmpFunc_api_Entry.b1 (R : Caller) (T : List Value) (s : St) : Res :=
(abin Try.prog .geq 3 (.tmp 32) (.const (.int .i64 0)) (getL T 4) (.int .i64 0)).bind fun v8 =>
condV v8
 ((abin Try.prog .add 3 (.tmp 39) (.tmp 40) (getL T 2) (getL T 4)).bind fun v9 =>
(abin Try.prog .add 3 (.tmp 43) (.tmp 44) (getL T 2) (getL T 4)).bind fun v10 =>
(aindexS 7 (getL T 0) v10).bind fun v11 =>
((aload true 7 v11 (frzS s)).bind fun v24 =>
some (v24, (frzS s))).bind fun r12 =>
(aindexS 7 (getL T 0) (getL T 2)).bind fun v13 =>
((aload true 7 v13 (frzS s)).bind fun v23 =>
some (v23, (frzS s))).bind fun r14 =>
(aindexS 7 (getL T 0) (getL T 2)).bind fun v15 =>
(((astore 7 v15 r12.1 s).bind fun s22 =>
some (undef, s22)).bind (ownR s)).bind fun r16 =>
(aindexS 7 (getL T 0) v9).bind fun v17 =>
(((astore 7 v17 r14.1 r16.2).bind fun s21 =>
some (undef, s21)).bind (ownR r16.2)).bind fun r18 =>
(callV Try.prog R (.func (.func 80) #[] #[]) [(getL T 0), (getL T 3), (getL T 4), (getL T 2), (getL T 1)] r18.2).bind fun r19 =>
(abin Try.prog .sub 3 (.tmp 34) (.const (.int .i64 1)) (getL T 4) (.int .i64 1)).bind fun v20 =>
some (.normal, [(getL T 0), (getL T 1), (getL T 2), (getL T 3), v20], r19.2))
 (some (.exit 2, [], s))

noncomputable def slices_heapSortCmpFunc_api_Entry (R : Caller) (x0 x1 x2 x3 : Value) (s : St) : Option (Value × St) :=
(abin Try.prog .sub 3 (.tmp 14) (.tmp 15) x2 x1).bind fun v0 =>
(abin Try.prog .sub 3 (.tmp 17) (.const (.int .i64 1)) v0 (.int .i64 1)).bind fun v1 =>
(abin Try.prog .quo 3 (.tmp 18) (.const (.int .i64 2)) v1 (.int .i64 2)).bind fun v2 =>
(loopL (slices_heapSortCmpFunc_api_Entry.b0 R) [x0, x3, x1, (.int .i64 0), v0, v2] s).bind fun r6 =>
exV r6.1 [(0, (abin Try.prog .sub 3 (.tmp 30) (.const (.int .i64 1)) (getL r6.2.1 4) (.int .i64 1)).bind fun v7 =>
(loopL (slices_heapSortCmpFunc_api_Entry.b1 R) [(getL r6.2.1 0), (getL r6.2.1 1), (getL r6.2.1 2), (getL r6.2.1 3), v7] r6.2.2).bind fun r25 =>
exV r25.1 [(2, retV [] r25.2.2)]
 (none))]
 (none)

theorem slices_heapSortCmpFunc_api_Entry_of {lib : Lib} (hl : lib 67 = none) {x0 x1 x2 x3 : Value} {s : St} {r : Value × St} (h : slices_heapSortCmpFunc_api_Entry (run Try.prog lib hints) x0 x1 x2 x3 s = some r) : run Try.prog lib hints 67 [x0, x1, x2, x3] s = some r :=
  run_of hl Try.func67 (Eq.trans (by kernel_rfl) h)

theorem slices_heapSortCmpFunc_api_Entry_ok : funcOk Try.prog 67 = true := by kernel_rfl
theorem slices_heapSortCmpFunc_api_Entry_call {R : Caller} {xs : List Value} {s : St} : callV Try.prog R (.func (.func 67) #[] #[]) xs s = R 67 xs s := callV_eq slices_heapSortCmpFunc_api_Entry_ok

/-! ### slices.breakPatternsCmpFunc[sumpter/api.Entry]: 68 -/

noncomputable def slices_breakPatternsCmpFunc_api_Entry.j0 (R : Caller) (T : List Value) (s : St) : Res :=
(abin Try.prog .add 3 (.tmp 52) (.tmp 53) (getL T 1) (getL T 6)).bind fun v22 =>
(abin Try.prog .add 3 (.tmp 56) (.tmp 57) (getL T 1) (getL T 6)).bind fun v23 =>
(aindexS 7 (getL T 0) v23).bind fun v24 =>
((aload true 7 v24 (frzS s)).bind fun v36 =>
some (v36, (frzS s))).bind fun r25 =>
(aindexS 7 (getL T 0) (getL T 5)).bind fun v26 =>
((aload true 7 v26 (frzS s)).bind fun v35 =>
some (v35, (frzS s))).bind fun r27 =>
(aindexS 7 (getL T 0) (getL T 5)).bind fun v28 =>
(((astore 7 v28 r25.1 s).bind fun s34 =>
some (undef, s34)).bind (ownR s)).bind fun r29 =>
(aindexS 7 (getL T 0) v22).bind fun v30 =>
(((astore 7 v30 r27.1 r29.2).bind fun s33 =>
some (undef, s33)).bind (ownR r29.2)).bind fun r31 =>
(abin Try.prog .add 3 (.tmp 36) (.const (.int .i64 1)) (getL T 5) (.int .i64 1)).bind fun v32 =>
some (.normal, [(getL T 0), (getL T 1), (getL T 2), (getL T 3), (getL T 4), v32], r31.2)

noncomputable def slices_breakPatternsCmpFunc_api_Entry.b0 (R : Caller) (T : List Value) (s : St) : Res :=
(abin Try.prog .quo 3 (.tmp 30) (.const (.int .i64 4)) (getL T 2) (.int .i64 4)).bind fun v10 =>
(abin Try.prog .mul 3 (.tmp 31) (.const (.int .i64 2)) v10 (.int .i64 2)).bind fun v11 =>
(abin Try.prog .add 3 (.tmp 29) (.tmp 32) (getL T 1) v11).bind fun v12 =>
(abin Try.prog .add 3 (.tmp 33) (.const (.int .i64 1)) v12 (.int .i64 1)).bind fun v13 =>
(abin Try.prog .leq 3 (.tmp 28) (.tmp 34) (getL T 5) v13).bind fun v14 =>
condV v14
 ((callV Try.prog R (.func (.func 82) #[] #[]) [(getL T 3)] s).bind fun r15 =>
(abin Try.prog .sub 102 (.tmp 39) (.const (.int .u64 1)) (getL T 4) (.int .u64 1)).bind fun v16 =>
(abin Try.prog .and 102 (.tmp 38) (.tmp 40) r15.1 v16).bind fun v17 =>
(convInt .i64 v17).bind fun v18 =>
(abin Try.prog .geq 3 (.tmp 43) (.tmp 44) v18 (getL T 2)).bind fun v20 =>
condV v20
 ((abin Try.prog .sub 3 (.tmp 46) (.tmp 47) v18 (getL T 2)).bind fun v21 =>
joinK (slices_breakPatternsCmpFunc_api_Entry.j0 R) [(getL T 0), (getL T 1), (getL T 2), (getL T 3), (getL T 4), (getL T 5), v21] r15.2)
 (joinK (slices_breakPatternsCmpFunc_api_Entry.j0 R) [(getL T 0), (getL T 1), (getL T 2), (getL T 3), (getL T 4), (getL T 5), v18] r15.2))
 (some (.exit 0, [], s))

noncomputable def slices_breakPatternsCmpFunc_api_Entry (R : Caller) (x0 x1 x2 x3 : Value) (s : St) : Option (Value × St) :=
(abin Try.prog .sub 3 (.tmp 13) (.tmp 14) x2 x1).bind fun v0 =>
(abin Try.prog .geq 3 (.tmp 16) (.const (.int .i64 8)) v0 (.int .i64 8)).bind fun v1 =>
condV v1
 ((convInt .u64 v0).bind fun v2 =>
(anew [(.int .u64 0)] s).bind fun r3 =>
(astore 1 r3.1 v2 r3.2).bind fun s4 =>
(callV Try.prog R (.func (.func 81) #[] #[]) [v0] s4).bind fun r5 =>
(abin Try.prog .quo 3 (.tmp 23) (.const (.int .i64 4)) v0 (.int .i64 4)).bind fun v6 =>
(abin Try.prog .mul 3 (.tmp 24) (.const (.int .i64 2)) v6 (.int .i64 2)).bind fun v7 =>
(abin Try.prog .add 3 (.tmp 22) (.tmp 25) x1 v7).bind fun v8 =>
(abin Try.prog .sub 3 (.tmp 26) (.const (.int .i64 1)) v8 (.int .i64 1)).bind fun v9 =>
(loopL (slices_breakPatternsCmpFunc_api_Entry.b0 R) [x0, x1, v0, r3.1, r5.1, v9] r5.2).bind fun r37 =>
exV r37.1 [(0, retV [] r37.2.2)]
 (none))
 (retV [] s)

theorem slices_breakPatternsCmpFunc_api_Entry_of {lib : Lib} (hl : lib 68 = none) {x0 x1 x2 x3 : Value} {s : St} {r : Value × St} (h : slices_breakPatternsCmpFunc_api_Entry (run Try.prog lib hints) x0 x1 x2 x3 s = some r) : run Try.prog lib hints 68 [x0, x1, x2, x3] s = some r :=
  run_of hl Try.func68 (Eq.trans (by kernel_rfl) h)

theorem slices_breakPatternsCmpFunc_api_Entry_ok : funcOk Try.prog 68 = true := by kernel_rfl
theorem slices_breakPatternsCmpFunc_api_Entry_call {R : Caller} {xs : List Value} {s : St} : callV Try.prog R (.func (.func 68) #[] #[]) xs s = R 68 xs s := callV_eq slices_breakPatternsCmpFunc_api_Entry_ok

/-! ### slices.choosePivotCmpFunc[sumpter/api.Entry]: 69 -/

noncomputable def slices_choosePivotCmpFunc_api_Entry.j0 (R : Caller) (T : List Value) (s : St) : Option (Value × St) :=
(aload false 1 (getL T 0) s).bind fun v19 =>
(abin Try.prog .eql 3 (.tmp 55) (.const (.int .i64 0)) v19 (.int .i64 0)).bind fun v20 =>
condV v20
 (retV [(getL T 1), (.int .i64 1)] s)
 ((abin Try.prog .eql 3 (.tmp 55) (.const (.int .i64 12)) v19 (.int .i64 12)).bind fun v21 =>
condV v21
 (retV [(getL T 1), (.int .i64 2)] s)
 (retV [(getL T 1), (.int .i64 0)] s))

noncomputable def slices_choosePivotCmpFunc_api_Entry.j1 (R : Caller) (T : List Value) (s : St) : Option (Value × St) :=
(callV Try.prog R (.func (.func 84) #[] #[]) [(getL T 0), (getL T 3), (getL T 4), (getL T 5), (getL T 2), (getL T 1)] s).bind fun r18 =>
joinK (slices_choosePivotCmpFunc_api_Entry.j0 R) [(getL T 2), r18.1] r18.2

noncomputable def slices_choosePivotCmpFunc_api_Entry (R : Caller) (x0 x1 x2 x3 : Value) (s : St) : Option (Value × St) :=
(abin Try.prog .sub 3 (.tmp 15) (.tmp 16) x2 x1).bind fun v0 =>
(anew [(.int .i64 0)] s).bind fun r1 =>
(abin Try.prog .quo 3 (.tmp 19) (.const (.int .i64 4)) v0 (.int .i64 4)).bind fun v2 =>
(abin Try.prog .mul 3 (.tmp 20) (.const (.int .i64 1)) v2 (.int .i64 1)).bind fun v3 =>
(abin Try.prog .add 3 (.tmp 18) (.tmp 21) x1 v3).bind fun v4 =>
(abin Try.prog .quo 3 (.tmp 24) (.const (.int .i64 4)) v0 (.int .i64 4)).bind fun v5 =>
(abin Try.prog .mul 3 (.tmp 25) (.const (.int .i64 2)) v5 (.int .i64 2)).bind fun v6 =>
(abin Try.prog .add 3 (.tmp 23) (.tmp 26) x1 v6).bind fun v7 =>
(abin Try.prog .quo 3 (.tmp 29) (.const (.int .i64 4)) v0 (.int .i64 4)).bind fun v8 =>
(abin Try.prog .mul 3 (.tmp 30) (.const (.int .i64 3)) v8 (.int .i64 3)).bind fun v9 =>
(abin Try.prog .add 3 (.tmp 28) (.tmp 31) x1 v9).bind fun v10 =>
(abin Try.prog .geq 3 (.tmp 33) (.const (.int .i64 8)) v0 (.int .i64 8)).bind fun v12 =>
condV v12
 ((abin Try.prog .geq 3 (.tmp 35) (.const (.int .i64 50)) v0 (.int .i64 50)).bind fun v14 =>
condV v14
 ((callV Try.prog R (.func (.func 83) #[] #[]) [x0, v4, r1.1, x3] r1.2).bind fun r15 =>
(callV Try.prog R (.func (.func 83) #[] #[]) [x0, v7, r1.1, x3] r15.2).bind fun r16 =>
(callV Try.prog R (.func (.func 83) #[] #[]) [x0, v10, r1.1, x3] r16.2).bind fun r17 =>
joinK (slices_choosePivotCmpFunc_api_Entry.j1 R) [x0, x3, r1.1, r15.1, r16.1, r17.1] r17.2)
 (joinK (slices_choosePivotCmpFunc_api_Entry.j1 R) [x0, x3, r1.1, v4, v7, v10] r1.2))
 (joinK (slices_choosePivotCmpFunc_api_Entry.j0 R) [r1.1, v7] r1.2)

theorem slices_choosePivotCmpFunc_api_Entry_of {lib : Lib} (hl : lib 69 = none) {x0 x1 x2 x3 : Value} {s : St} {r : Value × St} (h : slices_choosePivotCmpFunc_api_Entry (run Try.prog lib hints) x0 x1 x2 x3 s = some r) : run Try.prog lib hints 69 [x0, x1, x2, x3] s = some r :=
  run_of hl Try.func69 (Eq.trans (by kernel_rfl) h)

theorem slices_choosePivotCmpFunc_api_Entry_ok : funcOk Try.prog 69 = true := by kernel_rfl
theorem slices_choosePivotCmpFunc_api_Entry_call {R : Caller} {xs : List Value} {s : St} : callV Try.prog R (.func (.func 69) #[] #[]) xs s = R 69 xs s := callV_eq slices_choosePivotCmpFunc_api_Entry_ok

/-! ### slices.reverseRangeCmpFunc[sumpter/api.Entry]: 70 -/

noncomputable def slices_reverseRangeCmpFunc_api_Entry.b0 (R : Caller) (T : List Value) (s : St) : Res :=
(abin Try.prog .lss 3 (.tmp 13) (.tmp 14) (getL T 1) (getL T 2)).bind fun v1 =>
condV v1
 ((aindexS 7 (getL T 0) (getL T 2)).bind fun v2 =>
((aload true 7 v2 (frzS s)).bind fun v15 =>
some (v15, (frzS s))).bind fun r3 =>
(aindexS 7 (getL T 0) (getL T 1)).bind fun v4 =>
((aload true 7 v4 (frzS s)).bind fun v14 =>
some (v14, (frzS s))).bind fun r5 =>
(aindexS 7 (getL T 0) (getL T 1)).bind fun v6 =>
(((astore 7 v6 r3.1 s).bind fun s13 =>
some (undef, s13)).bind (ownR s)).bind fun r7 =>
(aindexS 7 (getL T 0) (getL T 2)).bind fun v8 =>
(((astore 7 v8 r5.1 r7.2).bind fun s12 =>
some (undef, s12)).bind (ownR r7.2)).bind fun r9 =>
(abin Try.prog .add 3 (.tmp 30) (.const (.int .i64 1)) (getL T 1) (.int .i64 1)).bind fun v10 =>
(abin Try.prog .sub 3 (.tmp 32) (.const (.int .i64 1)) (getL T 2) (.int .i64 1)).bind fun v11 =>
some (.normal, [(getL T 0), v10, v11], r9.2))
 (some (.exit 0, [], s))

noncomputable def slices_reverseRangeCmpFunc_api_Entry (R : Caller) (x0 x1 x2 x3 : Value) (s : St) : Option (Value × St) :=
(abin Try.prog .sub 3 (.tmp 11) (.const (.int .i64 1)) x2 (.int .i64 1)).bind fun v0 =>
(loopL (slices_reverseRangeCmpFunc_api_Entry.b0 R) [x0, x1, v0] s).bind fun r16 =>
exV r16.1 [(0, retV [] r16.2.2)]
 (none)

theorem slices_reverseRangeCmpFunc_api_Entry_of {lib : Lib} (hl : lib 70 = none) {x0 x1 x2 x3 : Value} {s : St} {r : Value × St} (h : slices_reverseRangeCmpFunc_api_Entry (run Try.prog lib hints) x0 x1 x2 x3 s = some r) : run Try.prog lib hints 70 [x0, x1, x2, x3] s = some r :=
  run_of hl Try.func70 (Eq.trans (by kernel_rfl) h)

theorem slices_reverseRangeCmpFunc_api_Entry_ok : funcOk Try.prog 70 = true := by kernel_rfl
theorem slices_reverseRangeCmpFunc_api_Entry_call {R : Caller} {xs : List Value} {s : St} : callV Try.prog R (.func (.func 70) #[] #[]) xs s = R 70 xs s := callV_eq slices_reverseRangeCmpFunc_api_Entry_ok

/-! ### slices.partialInsertionSortCmpFunc[sumpter/api.Entry]: 71 -/

noncomputable def slices_partialInsertionSortCmpFunc_api_Entry.b1 (R : Caller) (T : List Value) (s : St) : Res :=
(abin Try.prog .lss 3 (.tmp 19) (.tmp 20) (getL T 4) (getL T 2)).bind fun v3 =>
(guardV v3 true (some ([(getL T 3)], s)) (some ([undef], s))).bind fun q4 =>
(guardV v3 true (some ([(getL T 0)], q4.2)) (some ([undef], q4.2))).bind fun q5 =>
(guardV v3 true (some ([(getL T 4)], q5.2)) (some ([undef], q5.2))).bind fun q6 =>
(guardV v3 true ((aindexS 7 (getL q5.1 0) (getL q6.1 0)).bind fun v7 =>
some ([v7], q6.2)) (some ([undef], q6.2))).bind fun q8 =>
(guardV v3 true ((aload true 7 (getL q8.1 0) (frzS q8.2)).bind fun v26 =>
some (v26, (frzS q8.2))) (some (undef, (frzS q8.2)))).bind fun r9 =>
(guardV v3 true (some ([(getL T 0)], q8.2)) (some ([undef], q8.2))).bind fun q10 =>
(guardV v3 true (some ([(getL T 4)], q10.2)) (some ([undef], q10.2))).bind fun q11 =>
(guardV v3 true ((abin Try.prog .sub 3 (.tmp 29) (.const (.int .i64 1)) (getL q11.1 0) (.int .i64 1)).bind fun v12 =>
some ([v12], q11.2)) (some ([undef], q11.2))).bind fun q13 =>
(guardV v3 true ((aindexS 7 (getL q10.1 0) (getL q13.1 0)).bind fun v14 =>
some ([v14], q13.2)) (some ([undef], q13.2))).bind fun q15 =>
(guardV v3 true ((aload true 7 (getL q15.1 0) (frzS q15.2)).bind fun v25 =>
some (v25, (frzS q15.2))) (some (undef, (frzS q15.2)))).bind fun r16 =>
((guardV v3 true ((callV Try.prog R (getL q4.1 0) [r9.1, r16.1] q15.2).bind fun r24 =>
some (r24.1, r24.2)) (some (undef, q15.2))).bind (ownR q15.2)).bind fun r17 =>
(guardV v3 true ((abin Try.prog .lss 3 (.tmp 33) (.const (.int .i64 0)) r17.1 (.int .i64 0)).bind fun v18 =>
some ([v18], r17.2)) (some ([undef], r17.2))).bind fun q19 =>
(guardV v3 true ((aun .not (getL q19.1 0)).bind fun v20 =>
some ([v20], q19.2)) (some ([undef], q19.2))).bind fun q21 =>
(apick v3 (getL q21.1 0) (.bool false)).bind fun v22 =>
condV v22
 ((abin Try.prog .add 3 (.tmp 37) (.const (.int .i64 1)) (getL T 4) (.int .i64 1)).bind fun v23 =>
some (.normal, [(getL T 0), (getL T 1), (getL T 2), (getL T 3), v23, (getL T 5)], q21.2))
 (some (.exit 2, [(getL T 0), (getL T 1), (getL T 2), (getL T 3), (getL T 4), (getL T 5)], q21.2))

noncomputable def slices_partialInsertionSortCmpFunc_api_Entry.b2 (R : Caller) (T : List Value) (s : St) : Res :=
(abin Try.prog .geq 3 (.tmp 68) (.const (.int .i64 1)) (getL T 6) (.int .i64 1)).bind fun v45 =>
condV v45
 ((aindexS 7 (getL T 0) (getL T 6)).bind fun v46 =>
((aload true 7 v46 (frzS s)).bind fun v71 =>
some (v71, (frzS s))).bind fun r47 =>
(abin Try.prog .sub 3 (.tmp 78) (.const (.int .i64 1)) (getL T 6) (.int .i64 1)).bind fun v48 =>
(aindexS 7 (getL T 0) v48).bind fun v49 =>
((aload true 7 v49 (frzS s)).bind fun v70 =>
some (v70, (frzS s))).bind fun r50 =>
(((callV Try.prog R (getL T 3) [r47.1, r50.1] s).bind fun r69 =>
some (r69.1, r69.2)).bind (ownR s)).bind fun r51 =>
(abin Try.prog .lss 3 (.tmp 82) (.const (.int .i64 0)) r51.1 (.int .i64 0)).bind fun v52 =>
(aun .not v52).bind fun v53 =>
condV v53
 (some (.exit 4, [(getL T 0), (getL T 1), (getL T 2), (getL T 3), (getL T 4), (getL T 5)], r51.2))
 ((abin Try.prog .sub 3 (.tmp 88) (.const (.int .i64 1)) (getL T 6) (.int .i64 1)).bind fun v54 =>
(abin Try.prog .sub 3 (.tmp 91) (.const (.int .i64 1)) (getL T 6) (.int .i64 1)).bind fun v55 =>
(aindexS 7 (getL T 0) v55).bind fun v56 =>
((aload true 7 v56 (frzS r51.2)).bind fun v68 =>
some (v68, (frzS r51.2))).bind fun r57 =>
(aindexS 7 (getL T 0) (getL T 6)).bind fun v58 =>
((aload true 7 v58 (frzS r51.2)).bind fun v67 =>
some (v67, (frzS r51.2))).bind fun r59 =>
(aindexS 7 (getL T 0) (getL T 6)).bind fun v60 =>
(((astore 7 v60 r57.1 r51.2).bind fun s66 =>
some (undef, s66)).bind (ownR r51.2)).bind fun r61 =>
(aindexS 7 (getL T 0) v54).bind fun v62 =>
(((astore 7 v62 r59.1 r61.2).bind fun s65 =>
some (undef, s65)).bind (ownR r61.2)).bind fun r63 =>
(abin Try.prog .sub 3 (.tmp 70) (.const (.int .i64 1)) (getL T 6) (.int .i64 1)).bind fun v64 =>
some (.normal, [(getL T 0), (getL T 1), (getL T 2), (getL T 3), (getL T 4), (getL T 5), v64], r63.2)))
 (some (.exit 4, [(getL T 0), (getL T 1), (getL T 2), (getL T 3), (getL T 4), (getL T 5)], s))

noncomputable def slices_partialInsertionSortCmpFunc_api_Entry.b3 (R : Caller) (T : List Value) (s : St) : Res :=
(abin Try.prog .lss 3 (.tmp 107) (.tmp 108) (getL T 6) (getL T 2)).bind fun v76 =>
condV v76
 ((aindexS 7 (getL T 0) (getL T 6)).bind fun v77 =>
((aload true 7 v77 (frzS s)).bind fun v102 =>
some (v102, (frzS s))).bind fun r78 =>
(abin Try.prog .sub 3 (.tmp 118) (.const (.int .i64 1)) (getL T 6) (.int .i64 1)).bind fun v79 =>
(aindexS 7 (getL T 0) v79).bind fun v80 =>
((aload true 7 v80 (frzS s)).bind fun v101 =>
some (v101, (frzS s))).bind fun r81 =>
(((callV Try.prog R (getL T 3) [r78.1, r81.1] s).bind fun r100 =>
some (r100.1, r100.2)).bind (ownR s)).bind fun r82 =>
(abin Try.prog .lss 3 (.tmp 122) (.const (.int .i64 0)) r82.1 (.int .i64 0)).bind fun v83 =>
(aun .not v83).bind fun v84 =>
condV v84
 (some (.exit 6, [(getL T 0), (getL T 1), (getL T 2), (getL T 3), (getL T 4), (getL T 5)], r82.2))
 ((abin Try.prog .sub 3 (.tmp 128) (.const (.int .i64 1)) (getL T 6) (.int .i64 1)).bind fun v85 =>
(abin Try.prog .sub 3 (.tmp 131) (.const (.int .i64 1)) (getL T 6) (.int .i64 1)).bind fun v86 =>
(aindexS 7 (getL T 0) v86).bind fun v87 =>
((aload true 7 v87 (frzS r82.2)).bind fun v99 =>
some (v99, (frzS r82.2))).bind fun r88 =>
(aindexS 7 (getL T 0) (getL T 6)).bind fun v89 =>
((aload true 7 v89 (frzS r82.2)).bind fun v98 =>
some (v98, (frzS r82.2))).bind fun r90 =>
(aindexS 7 (getL T 0) (getL T 6)).bind fun v91 =>
(((astore 7 v91 r88.1 r82.2).bind fun s97 =>
some (undef, s97)).bind (ownR r82.2)).bind fun r92 =>
(aindexS 7 (getL T 0) v85).bind fun v93 =>
(((astore 7 v93 r90.1 r92.2).bind fun s96 =>
some (undef, s96)).bind (ownR r92.2)).bind fun r94 =>
(abin Try.prog .add 3 (.tmp 110) (.const (.int .i64 1)) (getL T 6) (.int .i64 1)).bind fun v95 =>
some (.normal, [(getL T 0), (getL T 1), (getL T 2), (getL T 3), (getL T 4), (getL T 5), v95], r94.2)))
 (some (.exit 6, [(getL T 0), (getL T 1), (getL T 2), (getL T 3), (getL T 4), (getL T 5)], s))

noncomputable def slices_partialInsertionSortCmpFunc_api_Entry.j0 (R : Caller) (T : List Value) (s : St) : Res :=
(abin Try.prog .add 3 (.tmp 17) (.const (.int .i64 1)) (getL T 5) (.int .i64 1)).bind fun v104 =>
some (.normal, [(getL T 0), (getL T 1), (getL T 2), (getL T 3), (getL T 4), v104], s)

noncomputable def slices_partialInsertionSortCmpFunc_api_Entry.j1 (R : Caller) (T : List Value) (s : St) : Res :=
(abin Try.prog .sub 3 (.tmp 101) (.tmp 102) (getL T 2) (getL T 4)).bind fun v73 =>
(abin Try.prog .geq 3 (.tmp 103) (.const (.int .i64 2)) v73 (.int .i64 2)).bind fun v74 =>
condV v74
 ((abin Try.prog .add 3 (.tmp 105) (.const (.int .i64 1)) (getL T 4) (.int .i64 1)).bind fun v75 =>
(loopL (slices_partialInsertionSortCmpFunc_api_Entry.b3 R) [(getL T 0), (getL T 1), (getL T 2), (getL T 3), (getL T 4), (getL T 5), v75] s).bind fun r103 =>
exV r103.1 [(6, joinK (slices_partialInsertionSortCmpFunc_api_Entry.j0 R) [(getL r103.2.1 0), (getL r103.2.1 1), (getL r103.2.1 2), (getL r103.2.1 3), (getL r103.2.1 4), (getL r103.2.1 5)] r103.2.2)]
 (none))
 (joinK (slices_partialInsertionSortCmpFunc_api_Entry.j0 R) [(getL T 0), (getL T 1), (getL T 2), (getL T 3), (getL T 4), (getL T 5)] s)

noncomputable def slices_partialInsertionSortCmpFunc_api_Entry.b0 (R : Caller) (T : List Value) (s : St) : Res :=
(abin Try.prog .lss 3 (.tmp 15) (.const (.int .i64 5)) (getL T 5) (.int .i64 5)).bind fun v1 =>
condV v1
 ((loopL (slices_partialInsertionSortCmpFunc_api_Entry.b1 R) [(getL T 0), (getL T 1), (getL T 2), (getL T 3), (getL T 4), (getL T 5)] s).bind fun r27 =>
exV r27.1 [(2, (abin Try.prog .eql 3 (.tmp 39) (.tmp 40) (getL r27.2.1 4) (getL r27.2.1 2)).bind fun v28 =>
condV v28
 (some (.ret, [(.bool true)], r27.2.2))
 ((abin Try.prog .sub 3 (.tmp 42) (.tmp 43) (getL r27.2.1 2) (getL r27.2.1 1)).bind fun v29 =>
(abin Try.prog .lss 3 (.tmp 44) (.const (.int .i64 50)) v29 (.int .i64 50)).bind fun v30 =>
condV v30
 (some (.ret, [(.bool false)], r27.2.2))
 ((abin Try.prog .sub 3 (.tmp 49) (.const (.int .i64 1)) (getL r27.2.1 4) (.int .i64 1)).bind fun v31 =>
(abin Try.prog .sub 3 (.tmp 52) (.const (.int .i64 1)) (getL r27.2.1 4) (.int .i64 1)).bind fun v32 =>
(aindexS 7 (getL r27.2.1 0) v32).bind fun v33 =>
((aload true 7 v33 (frzS r27.2.2)).bind fun v108 =>
some (v108, (frzS r27.2.2))).bind fun r34 =>
(aindexS 7 (getL r27.2.1 0) (getL r27.2.1 4)).bind fun v35 =>
((aload true 7 v35 (frzS r27.2.2)).bind fun v107 =>
some (v107, (frzS r27.2.2))).bind fun r36 =>
(aindexS 7 (getL r27.2.1 0) (getL r27.2.1 4)).bind fun v37 =>
(((astore 7 v37 r34.1 r27.2.2).bind fun s106 =>
some (undef, s106)).bind (ownR r27.2.2)).bind fun r38 =>
(aindexS 7 (getL r27.2.1 0) v31).bind fun v39 =>
(((astore 7 v39 r36.1 r38.2).bind fun s105 =>
some (undef, s105)).bind (ownR r38.2)).bind fun r40 =>
(abin Try.prog .sub 3 (.tmp 62) (.tmp 63) (getL r27.2.1 4) (getL r27.2.1 1)).bind fun v42 =>
(abin Try.prog .geq 3 (.tmp 64) (.const (.int .i64 2)) v42 (.int .i64 2)).bind fun v43 =>
condV v43
 ((abin Try.prog .sub 3 (.tmp 66) (.const (.int .i64 1)) (getL r27.2.1 4) (.int .i64 1)).bind fun v44 =>
(loopL (slices_partialInsertionSortCmpFunc_api_Entry.b2 R) [(getL r27.2.1 0), (getL r27.2.1 1), (getL r27.2.1 2), (getL r27.2.1 3), (getL r27.2.1 4), (getL r27.2.1 5), v44] r40.2).bind fun r72 =>
exV r72.1 [(4, joinK (slices_partialInsertionSortCmpFunc_api_Entry.j1 R) [(getL r72.2.1 0), (getL r72.2.1 1), (getL r72.2.1 2), (getL r72.2.1 3), (getL r72.2.1 4), (getL r72.2.1 5)] r72.2.2)]
 (none))
 (joinK (slices_partialInsertionSortCmpFunc_api_Entry.j1 R) [(getL r27.2.1 0), (getL r27.2.1 1), (getL r27.2.1 2), (getL r27.2.1 3), (getL r27.2.1 4), (getL r27.2.1 5)] r40.2))))]
 (none))
 (some (.exit 0, [], s))

noncomputable def slices_partialInsertionSortCmpFunc_api_Entry (R : Caller) (x0 x1 x2 x3 : Value) (s : St) : Option (Value × St) :=
(abin Try.prog .add 3 (.tmp 13) (.const (.int .i64 1)) x1 (.int .i64 1)).bind fun v0 =>
(loopL (slices_partialInsertionSortCmpFunc_api_Entry.b0 R) [x0, x1, x2, x3, v0, (.int .i64 0)] s).bind fun r109 =>
exV r109.1 [(0, retV [(.bool false)] r109.2.2)]
 (retV [(getL r109.2.1 0)] r109.2.2)

theorem slices_partialInsertionSortCmpFunc_api_Entry_of {lib : Lib} (hl : lib 71 = none) {x0 x1 x2 x3 : Value} {s : St} {r : Value × St} (h : slices_partialInsertionSortCmpFunc_api_Entry (run Try.prog lib hints) x0 x1 x2 x3 s = some r) : run Try.prog lib hints 71 [x0, x1, x2, x3] s = some r :=
  run_of hl Try.func71 (Eq.trans (by kernel_rfl) h)

theorem slices_partialInsertionSortCmpFunc_api_Entry_ok : funcOk Try.prog 71 = true := by kernel_rfl
theorem slices_partialInsertionSortCmpFunc_api_Entry_call {R : Caller} {xs : List Value} {s : St} : callV Try.prog R (.func (.func 71) #[] #[]) xs s = R 71 xs s := callV_eq slices_partialInsertionSortCmpFunc_api_Entry_ok

/-! ### slices.partitionEqualCmpFunc[sumpter/api.Entry]: 72 -/

noncomputable def slices_partitionEqualCmpFunc_api_Entry.b1 (R : Caller) (T : List Value) (s : St) : Res :=
(abin Try.prog .leq 3 (.tmp 31) (.tmp 32) (getL T 3) (getL T 4)).bind fun v10 =>
(guardV v10 true (some ([(getL T 2)], s)) (some ([undef], s))).bind fun q11 =>
(guardV v10 true (some ([(getL T 0)], q11.2)) (some ([undef], q11.2))).bind fun q12 =>
(guardV v10 true (some ([(getL T 1)], q12.2)) (some ([undef], q12.2))).bind fun q13 =>
(guardV v10 true ((aindexS 7 (getL q12.1 0) (getL q13.1 0)).bind fun v14 =>
some ([v14], q13.2)) (some ([undef], q13.2))).bind fun q15 =>
(guardV v10 true ((aload true 7 (getL q15.1 0) (frzS q15.2)).bind fun v31 =>
some (v31, (frzS q15.2))) (some (undef, (frzS q15.2)))).bind fun r16 =>
(guardV v10 true (some ([(getL T 0)], q15.2)) (some ([undef], q15.2))).bind fun q17 =>
(guardV v10 true (some ([(getL T 3)], q17.2)) (some ([undef], q17.2))).bind fun q18 =>
(guardV v10 true ((aindexS 7 (getL q17.1 0) (getL q18.1 0)).bind fun v19 =>
some ([v19], q18.2)) (some ([undef], q18.2))).bind fun q20 =>
(guardV v10 true ((aload true 7 (getL q20.1 0) (frzS q20.2)).bind fun v30 =>
some (v30, (frzS q20.2))) (some (undef, (frzS q20.2)))).bind fun r21 =>
((guardV v10 true ((callV Try.prog R (getL q11.1 0) [r16.1, r21.1] q20.2).bind fun r29 =>
some (r29.1, r29.2)) (some (undef, q20.2))).bind (ownR q20.2)).bind fun r22 =>
(guardV v10 true ((abin Try.prog .lss 3 (.tmp 44) (.const (.int .i64 0)) r22.1 (.int .i64 0)).bind fun v23 =>
some ([v23], r22.2)) (some ([undef], r22.2))).bind fun q24 =>
(guardV v10 true ((aun .not (getL q24.1 0)).bind fun v25 =>
some ([v25], q24.2)) (some ([undef], q24.2))).bind fun q26 =>
(apick v10 (getL q26.1 0) (.bool false)).bind fun v27 =>
condV v27
 ((abin Try.prog .add 3 (.tmp 48) (.const (.int .i64 1)) (getL T 3) (.int .i64 1)).bind fun v28 =>
some (.normal, [(getL T 0), (getL T 1), (getL T 2), v28, (getL T 4)], q26.2))
 (some (.exit 2, [(getL T 0), (getL T 1), (getL T 2), (getL T 3), (getL T 4)], q26.2))

noncomputable def slices_partitionEqualCmpFunc_api_Entry.b2 (R : Caller) (T : List Value) (s : St) : Res :=
(abin Try.prog .leq 3 (.tmp 50) (.tmp 51) (getL T 3) (getL T 4)).bind fun v33 =>
(guardV v33 true (some ([(getL T 2)], s)) (some ([undef], s))).bind fun q34 =>
(guardV v33 true (some ([(getL T 0)], q34.2)) (some ([undef], q34.2))).bind fun q35 =>
(guardV v33 true (some ([(getL T 1)], q35.2)) (some ([undef], q35.2))).bind fun q36 =>
(guardV v33 true ((aindexS 7 (getL q35.1 0) (getL q36.1 0)).bind fun v37 =>
some ([v37], q36.2)) (some ([undef], q36.2))).bind fun q38 =>
(guardV v33 true ((aload true 7 (getL q38.1 0) (frzS q38.2)).bind fun v52 =>
some (v52, (frzS q38.2))) (some (undef, (frzS q38.2)))).bind fun r39 =>
(guardV v33 true (some ([(getL T 0)], q38.2)) (some ([undef], q38.2))).bind fun q40 =>
(guardV v33 true (some ([(getL T 4)], q40.2)) (some ([undef], q40.2))).bind fun q41 =>
(guardV v33 true ((aindexS 7 (getL q40.1 0) (getL q41.1 0)).bind fun v42 =>
some ([v42], q41.2)) (some ([undef], q41.2))).bind fun q43 =>
(guardV v33 true ((aload true 7 (getL q43.1 0) (frzS q43.2)).bind fun v51 =>
some (v51, (frzS q43.2))) (some (undef, (frzS q43.2)))).bind fun r44 =>
((guardV v33 true ((callV Try.prog R (getL q34.1 0) [r39.1, r44.1] q43.2).bind fun r50 =>
some (r50.1, r50.2)) (some (undef, q43.2))).bind (ownR q43.2)).bind fun r45 =>
(guardV v33 true ((abin Try.prog .lss 3 (.tmp 63) (.const (.int .i64 0)) r45.1 (.int .i64 0)).bind fun v46 =>
some ([v46], r45.2)) (some ([undef], r45.2))).bind fun q47 =>
(apick v33 (getL q47.1 0) (.bool false)).bind fun v48 =>
condV v48
 ((abin Try.prog .sub 3 (.tmp 66) (.const (.int .i64 1)) (getL T 4) (.int .i64 1)).bind fun v49 =>
some (.normal, [(getL T 0), (getL T 1), (getL T 2), (getL T 3), v49], q47.2))
 (some (.exit 4, [(getL T 0), (getL T 1), (getL T 2), (getL T 3), (getL T 4)], q47.2))

noncomputable def slices_partitionEqualCmpFunc_api_Entry.b0 (R : Caller) (T : List Value) (s : St) : Res :=
(loopL (slices_partitionEqualCmpFunc_api_Entry.b1 R) [(getL T 0), (getL T 1), (getL T 2), (getL T 3), (getL T 4)] s).bind fun r32 =>
exV r32.1 [(2, (loopL (slices_partitionEqualCmpFunc_api_Entry.b2 R) [(getL r32.2.1 0), (getL r32.2.1 1), (getL r32.2.1 2), (getL r32.2.1 3), (getL r32.2.1 4)] r32.2.2).bind fun r53 =>
exV r53.1 [(4, (abin Try.prog .gtr 3 (.tmp 68) (.tmp 69) (getL r53.2.1 3) (getL r53.2.1 4)).bind fun v54 =>
condV v54
 (some (.exit 0, [(getL r53.2.1 3)], r53.2.2))
 ((aindexS 7 (getL r53.2.1 0) (getL r53.2.1 4)).bind fun v55 =>
((aload true 7 v55 (frzS r53.2.2)).bind fun v68 =>
some (v68, (frzS r53.2.2))).bind fun r56 =>
(aindexS 7 (getL r53.2.1 0) (getL r53.2.1 3)).bind fun v57 =>
((aload true 7 v57 (frzS r53.2.2)).bind fun v67 =>
some (v67, (frzS r53.2.2))).bind fun r58 =>
(aindexS 7 (getL r53.2.1 0) (getL r53.2.1 3)).bind fun v59 =>
(((astore 7 v59 r56.1 r53.2.2).bind fun s66 =>
some (undef, s66)).bind (ownR r53.2.2)).bind fun r60 =>
(aindexS 7 (getL r53.2.1 0) (getL r53.2.1 4)).bind fun v61 =>
(((astore 7 v61 r58.1 r60.2).bind fun s65 =>
some (undef, s65)).bind (ownR r60.2)).bind fun r62 =>
(abin Try.prog .add 3 (.tmp 85) (.const (.int .i64 1)) (getL r53.2.1 3) (.int .i64 1)).bind fun v63 =>
(abin Try.prog .sub 3 (.tmp 87) (.const (.int .i64 1)) (getL r53.2.1 4) (.int .i64 1)).bind fun v64 =>
some (.normal, [(getL r53.2.1 0), (getL r53.2.1 1), (getL r53.2.1 2), v63, v64], r62.2)))]
 (none))]
 (none)

noncomputable def slices_partitionEqualCmpFunc_api_Entry (R : Caller) (x0 x1 x2 x3 x4 : Value) (s : St) : Option (Value × St) :=
(aindexS 7 x0 x3).bind fun v0 =>
((aload true 7 v0 (frzS s)).bind fun v73 =>
some (v73, (frzS s))).bind fun r1 =>
(aindexS 7 x0 x1).bind fun v2 =>
((aload true 7 v2 (frzS s)).bind fun v72 =>
some (v72, (frzS s))).bind fun r3 =>
(aindexS 7 x0 x1).bind fun v4 =>
(((astore 7 v4 r1.1 s).bind fun s71 =>
some (undef, s71)).bind (ownR s)).bind fun r5 =>
(aindexS 7 x0 x3).bind fun v6 =>
(((astore 7 v6 r3.1 r5.2).bind fun s70 =>
some (undef, s70)).bind (ownR r5.2)).bind fun r7 =>
(abin Try.prog .add 3 (.tmp 27) (.const (.int .i64 1)) x1 (.int .i64 1)).bind fun v8 =>
(abin Try.prog .sub 3 (.tmp 29) (.const (.int .i64 1)) x2 (.int .i64 1)).bind fun v9 =>
(loopL (slices_partitionEqualCmpFunc_api_Entry.b0 R) [x0, x1, x4, v8, v9] r7.2).bind fun r69 =>
exV r69.1 [(0, retV [(getL r69.2.1 0)] r69.2.2)]
 (none)

theorem slices_partitionEqualCmpFunc_api_Entry_of {lib : Lib} (hl : lib 72 = none) {x0 x1 x2 x3 x4 : Value} {s : St} {r : Value × St} (h : slices_partitionEqualCmpFunc_api_Entry (run Try.prog lib hints) x0 x1 x2 x3 x4 s = some r) : run Try.prog lib hints 72 [x0, x1, x2, x3, x4] s = some r :=
  run_of hl Try.func72 (Eq.trans (by kernel_rfl) h)

theorem slices_partitionEqualCmpFunc_api_Entry_ok : funcOk Try.prog 72 = true := by kernel_rfl
theorem slices_partitionEqualCmpFunc_api_Entry_call {R : Caller} {xs : List Value} {s : St} : callV Try.prog R (.func (.func 72) #[] #[]) xs s = R 72 xs s := callV_eq slices_partitionEqualCmpFunc_api_Entry_ok

/-! ### slices.partitionCmpFunc[sumpter/api.Entry]: 73 -/

noncomputable def slices_partitionCmpFunc_api_Entry.b0 (R : Caller) (T : List Value) (s : St) : Res :=
(abin Try.prog .leq 3 (.tmp 32) (.tmp 33) (getL T 3) (getL T 4)).bind fun v10 =>
(guardV v10 true (some ([(getL T 2)], s)) (some ([undef], s))).bind fun q11 =>
(guardV v10 true (some ([(getL T 0)], q11.2)) (some ([undef], q11.2))).bind fun q12 =>
(guardV v10 true (some ([(getL T 3)], q12.2)) (some ([undef], q12.2))).bind fun q13 =>
(guardV v10 true ((aindexS 7 (getL q12.1 0) (getL q13.1 0)).bind fun v14 =>
some ([v14], q13.2)) (some ([undef], q13.2))).bind fun q15 =>
(guardV v10 true ((aload true 7 (getL q15.1 0) (frzS q15.2)).bind fun v29 =>
some (v29, (frzS q15.2))) (some (undef, (frzS q15.2)))).bind fun r16 =>
(guardV v10 true (some ([(getL T 0)], q15.2)) (some ([undef], q15.2))).bind fun q17 =>
(guardV v10 true (some ([(getL T 1)], q17.2)) (some ([undef], q17.2))).bind fun q18 =>
(guardV v10 true ((aindexS 7 (getL q17.1 0) (getL q18.1 0)).bind fun v19 =>
some ([v19], q18.2)) (some ([undef], q18.2))).bind fun q20 =>
(guardV v10 true ((aload true 7 (getL q20.1 0) (frzS q20.2)).bind fun v28 =>
some (v28, (frzS q20.2))) (some (undef, (frzS q20.2)))).bind fun r21 =>
((guardV v10 true ((callV Try.prog R (getL q11.1 0) [r16.1, r21.1] q20.2).bind fun r27 =>
some (r27.1, r27.2)) (some (undef, q20.2))).bind (ownR q20.2)).bind fun r22 =>
(guardV v10 true ((abin Try.prog .lss 3 (.tmp 45) (.const (.int .i64 0)) r22.1 (.int .i64 0)).bind fun v23 =>
some ([v23], r22.2)) (some ([undef], r22.2))).bind fun q24 =>
(apick v10 (getL q24.1 0) (.bool false)).bind fun v25 =>
condV v25
 ((abin Try.prog .add 3 (.tmp 48) (.const (.int .i64 1)) (getL T 3) (.int .i64 1)).bind fun v26 =>
some (.normal, [(getL T 0), (getL T 1), (getL T 2), v26, (getL T 4)], q24.2))
 (some (.exit 0, [(getL T 0), (getL T 1), (getL T 2), (getL T 3), (getL T 4)], q24.2))

noncomputable def slices_partitionCmpFunc_api_Entry.b1 (R : Caller) (T : List Value) (s : St) : Res :=
(abin Try.prog .leq 3 (.tmp 50) (.tmp 51) (getL T 3) (getL T 4)).bind fun v31 =>
(guardV v31 true (some ([(getL T 2)], s)) (some ([undef], s))).bind fun q32 =>
(guardV v31 true (some ([(getL T 0)], q32.2)) (some ([undef], q32.2))).bind fun q33 =>
(guardV v31 true (some ([(getL T 4)], q33.2)) (some ([undef], q33.2))).bind fun q34 =>
(guardV v31 true ((aindexS 7 (getL q33.1 0) (getL q34.1 0)).bind fun v35 =>
some ([v35], q34.2)) (some ([undef], q34.2))).bind fun q36 =>
(guardV v31 true ((aload true 7 (getL q36.1 0) (frzS q36.2)).bind fun v52 =>
some (v52, (frzS q36.2))) (some (undef, (frzS q36.2)))).bind fun r37 =>
(guardV v31 true (some ([(getL T 0)], q36.2)) (some ([undef], q36.2))).bind fun q38 =>
(guardV v31 true (some ([(getL T 1)], q38.2)) (some ([undef], q38.2))).bind fun q39 =>
(guardV v31 true ((aindexS 7 (getL q38.1 0) (getL q39.1 0)).bind fun v40 =>
some ([v40], q39.2)) (some ([undef], q39.2))).bind fun q41 =>
(guardV v31 true ((aload true 7 (getL q41.1 0) (frzS q41.2)).bind fun v51 =>
some (v51, (frzS q41.2))) (some (undef, (frzS q41.2)))).bind fun r42 =>
((guardV v31 true ((callV Try.prog R (getL q32.1 0) [r37.1, r42.1] q41.2).bind fun r50 =>
some (r50.1, r50.2)) (some (undef, q41.2))).bind (ownR q41.2)).bind fun r43 =>
(guardV v31 true ((abin Try.prog .lss 3 (.tmp 63) (.const (.int .i64 0)) r43.1 (.int .i64 0)).bind fun v44 =>
some ([v44], r43.2)) (some ([undef], r43.2))).bind fun q45 =>
(guardV v31 true ((aun .not (getL q45.1 0)).bind fun v46 =>
some ([v46], q45.2)) (some ([undef], q45.2))).bind fun q47 =>
(apick v31 (getL q47.1 0) (.bool false)).bind fun v48 =>
condV v48
 ((abin Try.prog .sub 3 (.tmp 67) (.const (.int .i64 1)) (getL T 4) (.int .i64 1)).bind fun v49 =>
some (.normal, [(getL T 0), (getL T 1), (getL T 2), (getL T 3), v49], q47.2))
 (some (.exit 2, [(getL T 0), (getL T 1), (getL T 2), (getL T 3), (getL T 4)], q47.2))

noncomputable def slices_partitionCmpFunc_api_Entry.b3 (R : Caller) (T : List Value) (s : St) : Res :=
(abin Try.prog .leq 3 (.tmp 105) (.tmp 106) (getL T 3) (getL T 4)).bind fun v77 =>
(guardV v77 true (some ([(getL T 2)], s)) (some ([undef], s))).bind fun q78 =>
(guardV v77 true (some ([(getL T 0)], q78.2)) (some ([undef], q78.2))).bind fun q79 =>
(guardV v77 true (some ([(getL T 3)], q79.2)) (some ([undef], q79.2))).bind fun q80 =>
(guardV v77 true ((aindexS 7 (getL q79.1 0) (getL q80.1 0)).bind fun v81 =>
some ([v81], q80.2)) (some ([undef], q80.2))).bind fun q82 =>
(guardV v77 true ((aload true 7 (getL q82.1 0) (frzS q82.2)).bind fun v96 =>
some (v96, (frzS q82.2))) (some (undef, (frzS q82.2)))).bind fun r83 =>
(guardV v77 true (some ([(getL T 0)], q82.2)) (some ([undef], q82.2))).bind fun q84 =>
(guardV v77 true (some ([(getL T 1)], q84.2)) (some ([undef], q84.2))).bind fun q85 =>
(guardV v77 true ((aindexS 7 (getL q84.1 0) (getL q85.1 0)).bind fun v86 =>
some ([v86], q85.2)) (some ([undef], q85.2))).bind fun q87 =>
(guardV v77 true ((aload true 7 (getL q87.1 0) (frzS q87.2)).bind fun v95 =>
some (v95, (frzS q87.2))) (some (undef, (frzS q87.2)))).bind fun r88 =>
((guardV v77 true ((callV Try.prog R (getL q78.1 0) [r83.1, r88.1] q87.2).bind fun r94 =>
some (r94.1, r94.2)) (some (undef, q87.2))).bind (ownR q87.2)).bind fun r89 =>
(guardV v77 true ((abin Try.prog .lss 3 (.tmp 118) (.const (.int .i64 0)) r89.1 (.int .i64 0)).bind fun v90 =>
some ([v90], r89.2)) (some ([undef], r89.2))).bind fun q91 =>
(apick v77 (getL q91.1 0) (.bool false)).bind fun v92 =>
condV v92
 ((abin Try.prog .add 3 (.tmp 121) (.const (.int .i64 1)) (getL T 3) (.int .i64 1)).bind fun v93 =>
some (.normal, [(getL T 0), (getL T 1), (getL T 2), v93, (getL T 4)], q91.2))
 (some (.exit 6, [(getL T 0), (getL T 1), (getL T 2), (getL T 3), (getL T 4)], q91.2))

noncomputable def slices_partitionCmpFunc_api_Entry.b4 (R : Caller) (T : List Value) (s : St) : Res :=
(abin Try.prog .leq 3 (.tmp 123) (.tmp 124) (getL T 3) (getL T 4)).bind fun v98 =>
(guardV v98 true (some ([(getL T 2)], s)) (some ([undef], s))).bind fun q99 =>
(guardV v98 true (some ([(getL T 0)], q99.2)) (some ([undef], q99.2))).bind fun q100 =>
(guardV v98 true (some ([(getL T 4)], q100.2)) (some ([undef], q100.2))).bind fun q101 =>
(guardV v98 true ((aindexS 7 (getL q100.1 0) (getL q101.1 0)).bind fun v102 =>
some ([v102], q101.2)) (some ([undef], q101.2))).bind fun q103 =>
(guardV v98 true ((aload true 7 (getL q103.1 0) (frzS q103.2)).bind fun v119 =>
some (v119, (frzS q103.2))) (some (undef, (frzS q103.2)))).bind fun r104 =>
(guardV v98 true (some ([(getL T 0)], q103.2)) (some ([undef], q103.2))).bind fun q105 =>
(guardV v98 true (some ([(getL T 1)], q105.2)) (some ([undef], q105.2))).bind fun q106 =>
(guardV v98 true ((aindexS 7 (getL q105.1 0) (getL q106.1 0)).bind fun v107 =>
some ([v107], q106.2)) (some ([undef], q106.2))).bind fun q108 =>
(guardV v98 true ((aload true 7 (getL q108.1 0) (frzS q108.2)).bind fun v118 =>
some (v118, (frzS q108.2))) (some (undef, (frzS q108.2)))).bind fun r109 =>
((guardV v98 true ((callV Try.prog R (getL q99.1 0) [r104.1, r109.1] q108.2).bind fun r117 =>
some (r117.1, r117.2)) (some (undef, q108.2))).bind (ownR q108.2)).bind fun r110 =>
(guardV v98 true ((abin Try.prog .lss 3 (.tmp 136) (.const (.int .i64 0)) r110.1 (.int .i64 0)).bind fun v111 =>
some ([v111], r110.2)) (some ([undef], r110.2))).bind fun q112 =>
(guardV v98 true ((aun .not (getL q112.1 0)).bind fun v113 =>
some ([v113], q112.2)) (some ([undef], q112.2))).bind fun q114 =>
(apick v98 (getL q114.1 0) (.bool false)).bind fun v115 =>
condV v115
 ((abin Try.prog .sub 3 (.tmp 140) (.const (.int .i64 1)) (getL T 4) (.int .i64 1)).bind fun v116 =>
some (.normal, [(getL T 0), (getL T 1), (getL T 2), (getL T 3), v116], q114.2))
 (some (.exit 8, [(getL T 0), (getL T 1), (getL T 2), (getL T 3), (getL T 4)], q114.2))

noncomputable def slices_partitionCmpFunc_api_Entry.b2 (R : Caller) (T : List Value) (s : St) : Res :=
(loopL (slices_partitionCmpFunc_api_Entry.b3 R) [(getL T 0), (getL T 1), (getL T 2), (getL T 3), (getL T 4)] s).bind fun r97 =>
exV r97.1 [(6, (loopL (slices_partitionCmpFunc_api_Entry.b4 R) [(getL r97.2.1 0), (getL r97.2.1 1), (getL r97.2.1 2), (getL r97.2.1 3), (getL r97.2.1 4)] r97.2.2).bind fun r120 =>
exV r120.1 [(8, (abin Try.prog .gtr 3 (.tmp 142) (.tmp 143) (getL r120.2.1 3) (getL r120.2.1 4)).bind fun v121 =>
condV v121
 (some (.exit 4, [(getL r120.2.1 0), (getL r120.2.1 1), (getL r120.2.1 4)], r120.2.2))
 ((aindexS 7 (getL r120.2.1 0) (getL r120.2.1 4)).bind fun v122 =>
((aload true 7 v122 (frzS r120.2.2)).bind fun v135 =>
some (v135, (frzS r120.2.2))).bind fun r123 =>
(aindexS 7 (getL r120.2.1 0) (getL r120.2.1 3)).bind fun v124 =>
((aload true 7 v124 (frzS r120.2.2)).bind fun v134 =>
some (v134, (frzS r120.2.2))).bind fun r125 =>
(aindexS 7 (getL r120.2.1 0) (getL r120.2.1 3)).bind fun v126 =>
(((astore 7 v126 r123.1 r120.2.2).bind fun s133 =>
some (undef, s133)).bind (ownR r120.2.2)).bind fun r127 =>
(aindexS 7 (getL r120.2.1 0) (getL r120.2.1 4)).bind fun v128 =>
(((astore 7 v128 r125.1 r127.2).bind fun s132 =>
some (undef, s132)).bind (ownR r127.2)).bind fun r129 =>
(abin Try.prog .add 3 (.tmp 159) (.const (.int .i64 1)) (getL r120.2.1 3) (.int .i64 1)).bind fun v130 =>
(abin Try.prog .sub 3 (.tmp 161) (.const (.int .i64 1)) (getL r120.2.1 4) (.int .i64 1)).bind fun v131 =>
some (.normal, [(getL r120.2.1 0), (getL r120.2.1 1), (getL r120.2.1 2), v130, v131], r129.2)))]
 (none))]
 (none)

noncomputable def slices_partitionCmpFunc_api_Entry (R : Caller) (x0 x1 x2 x3 x4 : Value) (s : St) : Option (Value × St) :=
(aindexS 7 x0 x3).bind fun v0 =>
((aload true 7 v0 (frzS s)).bind fun v156 =>
some (v156, (frzS s))).bind fun r1 =>
(aindexS 7 x0 x1).bind fun v2 =>
((aload true 7 v2 (frzS s)).bind fun v155 =>
some (v155, (frzS s))).bind fun r3 =>
(aindexS 7 x0 x1).bind fun v4 =>
(((astore 7 v4 r1.1 s).bind fun s154 =>
some (undef, s154)).bind (ownR s)).bind fun r5 =>
(aindexS 7 x0 x3).bind fun v6 =>
(((astore 7 v6 r3.1 r5.2).bind fun s153 =>
some (undef, s153)).bind (ownR r5.2)).bind fun r7 =>
(abin Try.prog .add 3 (.tmp 28) (.const (.int .i64 1)) x1 (.int .i64 1)).bind fun v8 =>
(abin Try.prog .sub 3 (.tmp 30) (.const (.int .i64 1)) x2 (.int .i64 1)).bind fun v9 =>
(loopL (slices_partitionCmpFunc_api_Entry.b0 R) [x0, x1, x4, v8, v9] r7.2).bind fun r30 =>
exV r30.1 [(0, (loopL (slices_partitionCmpFunc_api_Entry.b1 R) [(getL r30.2.1 0), (getL r30.2.1 1), (getL r30.2.1 2), (getL r30.2.1 3), (getL r30.2.1 4)] r30.2.2).bind fun r53 =>
exV r53.1 [(2, (abin Try.prog .gtr 3 (.tmp 69) (.tmp 70) (getL r53.2.1 3) (getL r53.2.1 4)).bind fun v54 =>
condV v54
 ((aindexS 7 (getL r53.2.1 0) (getL r53.2.1 1)).bind fun v55 =>
((aload true 7 v55 (frzS r53.2.2)).bind fun v66 =>
some (v66, (frzS r53.2.2))).bind fun r56 =>
(aindexS 7 (getL r53.2.1 0) (getL r53.2.1 4)).bind fun v57 =>
((aload true 7 v57 (frzS r53.2.2)).bind fun v65 =>
some (v65, (frzS r53.2.2))).bind fun r58 =>
(aindexS 7 (getL r53.2.1 0) (getL r53.2.1 4)).bind fun v59 =>
(((astore 7 v59 r56.1 r53.2.2).bind fun s64 =>
some (undef, s64)).bind (ownR r53.2.2)).bind fun r60 =>
(aindexS 7 (getL r53.2.1 0) (getL r53.2.1 1)).bind fun v61 =>
(((astore 7 v61 r58.1 r60.2).bind fun s63 =>
some (undef, s63)).bind (ownR r60.2)).bind fun r62 =>
retV [(getL r53.2.1 4), (.bool true)] r62.2)
 ((aindexS 7 (getL r53.2.1 0) (getL r53.2.1 4)).bind fun v67 =>
((aload true 7 v67 (frzS r53.2.2)).bind fun v152 =>
some (v152, (frzS r53.2.2))).bind fun r68 =>
(aindexS 7 (getL r53.2.1 0) (getL r53.2.1 3)).bind fun v69 =>
((aload true 7 v69 (frzS r53.2.2)).bind fun v151 =>
some (v151, (frzS r53.2.2))).bind fun r70 =>
(aindexS 7 (getL r53.2.1 0) (getL r53.2.1 3)).bind fun v71 =>
(((astore 7 v71 r68.1 r53.2.2).bind fun s150 =>
some (undef, s150)).bind (ownR r53.2.2)).bind fun r72 =>
(aindexS 7 (getL r53.2.1 0) (getL r53.2.1 4)).bind fun v73 =>
(((astore 7 v73 r70.1 r72.2).bind fun s149 =>
some (undef, s149)).bind (ownR r72.2)).bind fun r74 =>
(abin Try.prog .add 3 (.tmp 101) (.const (.int .i64 1)) (getL r53.2.1 3) (.int .i64 1)).bind fun v75 =>
(abin Try.prog .sub 3 (.tmp 103) (.const (.int .i64 1)) (getL r53.2.1 4) (.int .i64 1)).bind fun v76 =>
(loopL (slices_partitionCmpFunc_api_Entry.b2 R) [(getL r53.2.1 0), (getL r53.2.1 1), (getL r53.2.1 2), v75, v76] r74.2).bind fun r136 =>
exV r136.1 [(4, (aindexS 7 (getL r136.2.1 0) (getL r136.2.1 1)).bind fun v137 =>
((aload true 7 v137 (frzS r136.2.2)).bind fun v148 =>
some (v148, (frzS r136.2.2))).bind fun r138 =>
(aindexS 7 (getL r136.2.1 0) (getL r136.2.1 2)).bind fun v139 =>
((aload true 7 v139 (frzS r136.2.2)).bind fun v147 =>
some (v147, (frzS r136.2.2))).bind fun r140 =>
(aindexS 7 (getL r136.2.1 0) (getL r136.2.1 2)).bind fun v141 =>
(((astore 7 v141 r138.1 r136.2.2).bind fun s146 =>
some (undef, s146)).bind (ownR r136.2.2)).bind fun r142 =>
(aindexS 7 (getL r136.2.1 0) (getL r136.2.1 1)).bind fun v143 =>
(((astore 7 v143 r140.1 r142.2).bind fun s145 =>
some (undef, s145)).bind (ownR r142.2)).bind fun r144 =>
retV [(getL r136.2.1 2), (.bool false)] r144.2)]
 (none)))]
 (none))]
 (none)

theorem slices_partitionCmpFunc_api_Entry_of {lib : Lib} (hl : lib 73 = none) {x0 x1 x2 x3 x4 : Value} {s : St} {r : Value × St} (h : slices_partitionCmpFunc_api_Entry (run Try.prog lib hints) x0 x1 x2 x3 x4 s = some r) : run Try.prog lib hints 73 [x0, x1, x2, x3, x4] s = some r :=
  run_of hl Try.func73 (Eq.trans (by kernel_rfl) h)

theorem slices_partitionCmpFunc_api_Entry_ok : funcOk Try.prog 73 = true := by kernel_rfl
theorem slices_partitionCmpFunc_api_Entry_call {R : Caller} {xs : List Value} {s : St} : callV Try.prog R (.func (.func 73) #[] #[]) xs s = R 73 xs s := callV_eq slices_partitionCmpFunc_api_Entry_ok

/-! ### math/bits.Len32: 74 -/

noncomputable def math_bits_Len32.j0 (R : Caller) (T : List Value) (s : St) : Option (Value × St) :=
(convInt .u8 (getL T 0)).bind fun v7 =>
(aindexStr (.string ⟨#[0, 1, 2, 2, 3, 3, 3, 3, 4, 4, 4, 4, 4, 4, 4, 4, 5, 5, 5, 5, 5, 5, 5, 5, 5, 5, 5, 5, 5, 5, 5, 5, 6, 6, 6, 6, 6, 6, 6, 6, 6, 6, 6, 6, 6, 6, 6, 6, 6, 6, 6, 6, 6, 6, 6, 6, 6, 6, 6, 6, 6, 6, 6, 6, 7, 7, 7, 7, 7, 7, 7, 7, 7, 7, 7, 7, 7, 7, 7, 7, 7, 7, 7, 7, 7, 7, 7, 7, 7, 7, 7, 7, 7, 7, 7, 7, 7, 7, 7, 7, 7, 7, 7, 7, 7, 7, 7, 7, 7, 7, 7, 7, 7, 7, 7, 7, 7, 7, 7, 7, 7, 7, 7, 7, 7, 7, 7, 7, 8, 8, 8, 8, 8, 8, 8, 8, 8, 8, 8, 8, 8, 8, 8, 8, 8, 8, 8, 8, 8, 8, 8, 8, 8, 8, 8, 8, 8, 8, 8, 8, 8, 8, 8, 8, 8, 8, 8, 8, 8, 8, 8, 8, 8, 8, 8, 8, 8, 8, 8, 8, 8, 8, 8, 8, 8, 8, 8, 8, 8, 8, 8, 8, 8, 8, 8, 8, 8, 8, 8, 8, 8, 8, 8, 8, 8, 8, 8, 8, 8, 8, 8, 8, 8, 8, 8, 8, 8, 8, 8, 8, 8, 8, 8, 8, 8, 8, 8, 8, 8, 8, 8, 8, 8, 8, 8, 8, 8, 8, 8, 8, 8, 8, 8, 8, 8, 8, 8, 8, 8, 8, 8, 8, 8, 8, 8, 8]⟩) v7).bind fun v8 =>
(convInt .i64 v8).bind fun v9 =>
(abin Try.prog .add 3 (.tmp 13) (.tmp 17) (getL T 1) v9).bind fun v10 =>
retV [v10] s

noncomputable def math_bits_Len32.j1 (R : Caller) (T : List Value) (s : St) : Option (Value × St) :=
(abin Try.prog .geq 115 (.tmp 7) (.const (.int .u32 256)) (getL T 0) (.int .u32 256)).bind fun v4 =>
condV v4
 ((abin Try.prog .shr 115 (.tmp 9) (.const (.int .u64 8)) (getL T 0) (.int .u64 8)).bind fun v5 =>
(abin Try.prog .add 3 (.tmp 11) (.const (.int .i64 8)) (getL T 1) (.int .i64 8)).bind fun v6 =>
joinK (math_bits_Len32.j0 R) [v5, v6] s)
 (joinK (math_bits_Len32.j0 R) [(getL T 0), (getL T 1)] s)

noncomputable def math_bits_Len32 (R : Caller) (x0 : Value) (s : St) : Option (Value × St) :=
(abin Try.prog .geq 115 (.tmp 3) (.const (.int .u32 65536)) x0 (.int .u32 65536)).bind fun v1 =>
condV v1
 ((abin Try.prog .shr 115 (.tmp 5) (.const (.int .u64 16)) x0 (.int .u64 16)).bind fun v2 =>
joinK (math_bits_Len32.j1 R) [v2, (.int .i64 16)] s)
 (joinK (math_bits_Len32.j1 R) [x0, (.int .i64 0)] s)

theorem math_bits_Len32_of {lib : Lib} (hl : lib 74 = none) {x0 : Value} {s : St} {r : Value × St} (h : math_bits_Len32 (run Try.prog lib hints) x0 s = some r) : run Try.prog lib hints 74 [x0] s = some r :=
  run_of hl Try.func74 (Eq.trans (by kernel_rfl) h)

theorem math_bits_Len32_ok : funcOk Try.prog 74 = true := by kernel_rfl
theorem math_bits_Len32_call {R : Caller} {xs : List Value} {s : St} : callV Try.prog R (.func (.func 74) #[] #[]) xs s = R 74 xs s := callV_eq math_bits_Len32_ok

/-! ### math/bits.Len64: 75 -/

noncomputable def math_bits_Len64.j0 (R : Caller) (T : List Value) (s : St) : Option (Value × St) :=
(convInt .u8 (getL T 0)).bind fun v11 =>
(aindexStr (.string ⟨#[0, 1, 2, 2, 3, 3, 3, 3, 4, 4, 4, 4, 4, 4, 4, 4, 5, 5, 5, 5, 5, 5, 5, 5, 5, 5, 5, 5, 5, 5, 5, 5, 6, 6, 6, 6, 6, 6, 6, 6, 6, 6, 6, 6, 6, 6, 6, 6, 6, 6, 6, 6, 6, 6, 6, 6, 6, 6, 6, 6, 6, 6, 6, 6, 7, 7, 7, 7, 7, 7, 7, 7, 7, 7, 7, 7, 7, 7, 7, 7, 7, 7, 7, 7, 7, 7, 7, 7, 7, 7, 7, 7, 7, 7, 7, 7, 7, 7, 7, 7, 7, 7, 7, 7, 7, 7, 7, 7, 7, 7, 7, 7, 7, 7, 7, 7, 7, 7, 7, 7, 7, 7, 7, 7, 7, 7, 7, 7, 8, 8, 8, 8, 8, 8, 8, 8, 8, 8, 8, 8, 8, 8, 8, 8, 8, 8, 8, 8, 8, 8, 8, 8, 8, 8, 8, 8, 8, 8, 8, 8, 8, 8, 8, 8, 8, 8, 8, 8, 8, 8, 8, 8, 8, 8, 8, 8, 8, 8, 8, 8, 8, 8, 8, 8, 8, 8, 8, 8, 8, 8, 8, 8, 8, 8, 8, 8, 8, 8, 8, 8, 8, 8, 8, 8, 8, 8, 8, 8, 8, 8, 8, 8, 8, 8, 8, 8, 8, 8, 8, 8, 8, 8, 8, 8, 8, 8, 8, 8, 8, 8, 8, 8, 8, 8, 8, 8, 8, 8, 8, 8, 8, 8, 8, 8, 8, 8, 8, 8, 8, 8, 8, 8, 8, 8, 8, 8]⟩) v11).bind fun v12 =>
(convInt .i64 v12).bind fun v13 =>
(abin Try.prog .add 3 (.tmp 19) (.tmp 23) (getL T 1) v13).bind fun v14 =>
retV [v14] s

noncomputable def math_bits_Len64.j1 (R : Caller) (T : List Value) (s : St) : Option (Value × St) :=
(abin Try.prog .geq 48 (.tmp 13) (.const (.int .u64 256)) (getL T 0) (.int .u64 256)).bind fun v8 =>
condV v8
 ((abin Try.prog .shr 48 (.tmp 15) (.const (.int .u64 8)) (getL T 0) (.int .u64 8)).bind fun v9 =>
(abin Try.prog .add 3 (.tmp 17) (.const (.int .i64 8)) (getL T 1) (.int .i64 8)).bind fun v10 =>
joinK (math_bits_Len64.j0 R) [v9, v10] s)
 (joinK (math_bits_Len64.j0 R) [(getL T 0), (getL T 1)] s)

noncomputable def math_bits_Len64.j2 (R : Caller) (T : List Value) (s : St) : Option (Value × St) :=
(abin Try.prog .geq 48 (.tmp 7) (.const (.int .u64 65536)) (getL T 0) (.int .u64 65536)).bind fun v4 =>
condV v4
 ((abin Try.prog .shr 48 (.tmp 9) (.const (.int .u64 16)) (getL T 0) (.int .u64 16)).bind fun v5 =>
(abin Try.prog .add 3 (.tmp 11) (.const (.int .i64 16)) (getL T 1) (.int .i64 16)).bind fun v6 =>
joinK (math_bits_Len64.j1 R) [v5, v6] s)
 (joinK (math_bits_Len64.j1 R) [(getL T 0), (getL T 1)] s)

noncomputable def math_bits_Len64 (R : Caller) (x0 : Value) (s : St) : Option (Value × St) :=
(abin Try.prog .geq 48 (.tmp 3) (.const (.int .u64 4294967296)) x0 (.int .u64 4294967296)).bind fun v1 =>
condV v1
 ((abin Try.prog .shr 48 (.tmp 5) (.const (.int .u64 32)) x0 (.int .u64 32)).bind fun v2 =>
joinK (math_bits_Len64.j2 R) [v2, (.int .i64 32)] s)
 (joinK (math_bits_Len64.j2 R) [x0, (.int .i64 0)] s)

theorem math_bits_Len64_of {lib : Lib} (hl : lib 75 = none) {x0 : Value} {s : St} {r : Value × St} (h : math_bits_Len64 (run Try.prog lib hints) x0 s = some r) : run Try.prog lib hints 75 [x0] s = some r :=
  run_of hl Try.func75 (Eq.trans (by kernel_rfl) h)

theorem math_bits_Len64_ok : funcOk Try.prog 75 = true := by kernel_rfl
theorem math_bits_Len64_call {R : Caller} {xs : List Value} {s : St} : callV Try.prog R (.func (.func 75) #[] #[]) xs s = R 75 xs s := callV_eq math_bits_Len64_ok

/-! ### sumpter/op.at: 76 -/

noncomputable def op_at (R : Caller) (x0 x1 : Value) (s : St) : Option (Value × St) :=
(callV Try.prog R (.func (.func 85) #[] #[]) [x0, x1, (.func (.func 86) #[] #[])] s).bind fun r0 =>
(aextract 0 r0.1).bind fun v1 =>
(aextract 1 r0.1).bind fun v2 =>
retV [v1, v2] r0.2

theorem op_at_of {lib : Lib} (hl : lib 76 = none) {x0 x1 : Value} {s : St} {r : Value × St} (h : op_at (run Try.prog lib hints) x0 x1 s = some r) : run Try.prog lib hints 76 [x0, x1] s = some r :=
  run_of hl Try.func76 (Eq.trans (by kernel_rfl) h)

theorem op_at_ok : funcOk Try.prog 76 = true := by kernel_rfl
theorem op_at_call {R : Caller} {xs : List Value} {s : St} : callV Try.prog R (.func (.func 76) #[] #[]) xs s = R 76 xs s := callV_eq op_at_ok

/-! ### slices.Insert[[]sumpter/api.Pair,sumpter/api.Pair]: 77 -/

noncomputable def slices_Insert_api_Pair_api_Pair (R : Caller) (x0 x1 x2 : Value) (s : St) : Option (Value × St) :=
(asliceV 2 x0 (some x1) none none).bind fun v0 =>
(alenV (.slice 75) x2 s).bind fun v1 =>
(abin Try.prog .eql 3 (.tmp 15) (.const (.int .i64 0)) v1 (.int .i64 0)).bind fun v2 =>
condV v2
 (retV [x0] s)
 ((alenV (.slice 75) x0 s).bind fun v3 =>
(abin Try.prog .eql 3 (.tmp 20) (.tmp 21) x1 v3).bind fun v4 =>
condV v4
 ((aappend 2 32 x0 x2 s).bind fun r5 =>
retV [r5.1] r5.2)
 ((abin Try.prog .add 3 (.tmp 26) (.tmp 27) v3 v1).bind fun v6 =>
(acap x0).bind fun v7 =>
(abin Try.prog .gtr 3 (.tmp 28) (.tmp 30) v6 v7).bind fun v8 =>
condV v8
 ((asliceV 2 x0 none (some x1) none).bind fun v9 =>
(abin Try.prog .add 3 (.tmp 35) (.tmp 36) v3 v1).bind fun v10 =>
(abin Try.prog .sub 3 (.tmp 37) (.tmp 38) v10 x1).bind fun v11 =>
(aappendZ 2 32 [(.string ⟨#[]⟩), (.string ⟨#[]⟩)] v9 v11 s).bind fun r12 =>
(asliceV 2 r12.1 (some x1) none none).bind fun v13 =>
(acopy 2 v13 x2 r12.2).bind fun r14 =>
(abin Try.prog .add 3 (.tmp 47) (.tmp 48) x1 v1).bind fun v15 =>
(asliceV 2 r12.1 (some v15) none none).bind fun v16 =>
(asliceV 2 x0 (some x1) none none).bind fun v17 =>
(((acopy 2 v16 v17 r14.2).bind fun r19 =>
some (r19.1, r19.2)).bind (ownR r14.2)).bind fun r18 =>
retV [r12.1] r18.2)
 ((abin Try.prog .add 3 (.tmp 57) (.tmp 58) v3 v1).bind fun v20 =>
(asliceV 2 x0 none (some v20) none).bind fun v21 =>
(abin Try.prog .add 3 (.tmp 63) (.tmp 64) x1 v1).bind fun v22 =>
(asliceV 2 v21 (some v22) none none).bind fun v23 =>
(callV Try.prog R (.func (.func 88) #[] #[]) [x2, v23] s).bind fun r24 =>
(aun .not r24.1).bind fun v25 =>
condV v25
 ((abin Try.prog .add 3 (.tmp 70) (.tmp 71) x1 v1).bind fun v26 =>
(asliceV 2 v21 (some v26) none none).bind fun v27 =>
(asliceV 2 v21 (some x1) none none).bind fun v28 =>
(((acopy 2 v27 v28 r24.2).bind fun r32 =>
some (r32.1, r32.2)).bind (ownR r24.2)).bind fun r29 =>
(asliceV 2 v21 (some x1) none none).bind fun v30 =>
(acopy 2 v30 x2 r29.2).bind fun r31 =>
retV [v21] r31.2)
 ((asliceV 2 v21 (some v3) none none).bind fun v33 =>
(acopy 2 v33 x2 r24.2).bind fun r34 =>
(asliceV 2 v21 (some x1) none none).bind fun v35 =>
(callV Try.prog R (.func (.func 89) #[] #[]) [v35, v1] r34.2).bind fun r36 =>
retV [v21] r36.2))))

theorem slices_Insert_api_Pair_api_Pair_of {lib : Lib} (hl : lib 77 = none) {x0 x1 x2 : Value} {s : St} {r : Value × St} (h : slices_Insert_api_Pair_api_Pair (run Try.prog lib hints) x0 x1 x2 s = some r) : run Try.prog lib hints 77 [x0, x1, x2] s = some r :=
  run_of hl Try.func77 (Eq.trans (by kernel_rfl) h)

theorem slices_Insert_api_Pair_api_Pair_ok : funcOk Try.prog 77 = true := by kernel_rfl
theorem slices_Insert_api_Pair_api_Pair_call {R : Caller} {xs : List Value} {s : St} : callV Try.prog R (.func (.func 77) #[] #[]) xs s = R 77 xs s := callV_eq slices_Insert_api_Pair_api_Pair_ok

/-! ### slices.Delete[[]sumpter/api.Pair,sumpter/api.Pair]: 78 -/

noncomputable def slices_Delete_api_Pair_api_Pair (R : Caller) (x0 x1 x2 : Value) (s : St) : Option (Value × St) :=
(alenV (.slice 75) x0 s).bind fun v0 =>
(asliceV 2 x0 (some x1) (some x2) (some v0)).bind fun v1 =>
(abin Try.prog .eql 3 (.tmp 14) (.tmp 15) x1 x2).bind fun v2 =>
condV v2
 (retV [x0] s)
 ((alenV (.slice 75) x0 s).bind fun v3 =>
(asliceV 2 x0 none (some x1) none).bind fun v4 =>
(asliceV 2 x0 (some x2) none none).bind fun v5 =>
(((aappend 2 32 v4 v5 s).bind fun r10 =>
some (r10.1, r10.2)).bind (ownR s)).bind fun r6 =>
(alenV (.slice 75) r6.1 r6.2).bind fun v7 =>
(asliceV 2 r6.1 (some v7) (some v3) none).bind fun v8 =>
(aclear 2 [(.string ⟨#[]⟩), (.string ⟨#[]⟩)] v8 r6.2).bind fun s9 =>
retV [r6.1] s9)

theorem slices_Delete_api_Pair_api_Pair_of {lib : Lib} (hl : lib 78 = none) {x0 x1 x2 : Value} {s : St} {r : Value × St} (h : slices_Delete_api_Pair_api_Pair (run Try.prog lib hints) x0 x1 x2 s = some r) : run Try.prog lib hints 78 [x0, x1, x2] s = some r :=
  run_of hl Try.func78 (Eq.trans (by kernel_rfl) h)

theorem slices_Delete_api_Pair_api_Pair_ok : funcOk Try.prog 78 = true := by kernel_rfl
theorem slices_Delete_api_Pair_api_Pair_call {R : Caller} {xs : List Value} {s : St} : callV Try.prog R (.func (.func 78) #[] #[]) xs s = R 78 xs s := callV_eq slices_Delete_api_Pair_api_Pair_ok

/-! ### sumpter/op.ends: 79 -/

noncomputable def op_ends.j0 (R : Caller) (T : List Value) (s : St) : Option (Value × St) :=
retV [(getL T 0), (getL T 1)] s

noncomputable def op_ends (R : Caller) (x0 x1 : Value) (s : St) : Option (Value × St) :=
(lbox x1).bind fun v0 =>
(lload false 1 lptr v0).bind fun v1 =>
(callV Try.prog R (.func (.func 76) #[] #[]) [x0, v1] s).bind fun r2 =>
(aextract 0 r2.1).bind fun v3 =>
(aextract 1 r2.1).bind fun v4 =>
(alenV (.slice 75) x0 r2.2).bind fun v5 =>
(lload false 1 (.pointer (some ⟨0, 1, none⟩)) v0).bind fun v7 =>
(abin Try.prog .neq 9 (.tmp 19) (.const (.string ⟨#[]⟩)) v7 (.string ⟨#[]⟩)).bind fun v8 =>
condV v8
 ((lload false 1 (.pointer (some ⟨0, 1, none⟩)) v0).bind fun v9 =>
(callV Try.prog R (.func (.func 76) #[] #[]) [x0, v9] r2.2).bind fun r10 =>
(aextract 0 r10.1).bind fun v11 =>
(aextract 1 r10.1).bind fun v12 =>
joinK (op_ends.j0 R) [v3, v11] r10.2)
 (joinK (op_ends.j0 R) [v3, v5] r2.2)

theorem op_ends_of {lib : Lib} (hl : lib 79 = none) {x0 x1 : Value} {s : St} {r : Value × St} (h : op_ends (run Try.prog lib hints) x0 x1 s = some r) : run Try.prog lib hints 79 [x0, x1] s = some r :=
  run_of hl Try.func79 (Eq.trans (by kernel_rfl) h)

theorem op_ends_ok : funcOk Try.prog 79 = true := by kernel_rfl
theorem op_ends_call {R : Caller} {xs : List Value} {s : St} : callV Try.prog R (.func (.func 79) #[] #[]) xs s = R 79 xs s := callV_eq op_ends_ok

/-! ### slices.siftDownCmpFunc[sumpter/api.Entry]: 80 -/

noncomputable def slices_siftDownCmpFunc_api_Entry.j0 (R : Caller) (T : List Value) (s : St) : Res :=
(abin Try.prog .add 3 (.tmp 45) (.tmp 46) (getL T 2) (getL T 4)).bind fun v30 =>
(aindexS 7 (getL T 0) v30).bind fun v31 =>
((aload true 7 v31 (frzS s)).bind fun v57 =>
some (v57, (frzS s))).bind fun r32 =>
(abin Try.prog .add 3 (.tmp 51) (.tmp 52) (getL T 2) (getL T 5)).bind fun v33 =>
(aindexS 7 (getL T 0) v33).bind fun v34 =>
((aload true 7 v34 (frzS s)).bind fun v56 =>
some (v56, (frzS s))).bind fun r35 =>
(((callV Try.prog R (getL T 3) [r32.1, r35.1] s).bind fun r55 =>
some (r55.1, r55.2)).bind (ownR s)).bind fun r36 =>
(abin Try.prog .lss 3 (.tmp 56) (.const (.int .i64 0)) r36.1 (.int .i64 0)).bind fun v37 =>
(aun .not v37).bind fun v38 =>
condV v38
 (some (.ret, [], r36.2))
 ((abin Try.prog .add 3 (.tmp 60) (.tmp 61) (getL T 2) (getL T 4)).bind fun v39 =>
(abin Try.prog .add 3 (.tmp 64) (.tmp 65) (getL T 2) (getL T 5)).bind fun v40 =>
(abin Try.prog .add 3 (.tmp 68) (.tmp 69) (getL T 2) (getL T 5)).bind fun v41 =>
(aindexS 7 (getL T 0) v41).bind fun v42 =>
((aload true 7 v42 (frzS r36.2)).bind fun v54 =>
some (v54, (frzS r36.2))).bind fun r43 =>
(abin Try.prog .add 3 (.tmp 74) (.tmp 75) (getL T 2) (getL T 4)).bind fun v44 =>
(aindexS 7 (getL T 0) v44).bind fun v45 =>
((aload true 7 v45 (frzS r36.2)).bind fun v53 =>
some (v53, (frzS r36.2))).bind fun r46 =>
(aindexS 7 (getL T 0) v39).bind fun v47 =>
(((astore 7 v47 r43.1 r36.2).bind fun s52 =>
some (undef, s52)).bind (ownR r36.2)).bind fun r48 =>
(aindexS 7 (getL T 0) v40).bind fun v49 =>
(((astore 7 v49 r46.1 r48.2).bind fun s51 =>
some (undef, s51)).bind (ownR r48.2)).bind fun r50 =>
some (.normal, [(getL T 0), (getL T 1), (getL T 2), (getL T 3), (getL T 5)], r50.2))

noncomputable def slices_siftDownCmpFunc_api_Entry.b0 (R : Caller) (T : List Value) (s : St) : Res :=
(abin Try.prog .mul 3 (.const (.int .i64 2)) (.tmp 13) (.int .i64 2) (getL T 4)).bind fun v0 =>
(abin Try.prog .add 3 (.tmp 14) (.const (.int .i64 1)) v0 (.int .i64 1)).bind fun v1 =>
(abin Try.prog .geq 3 (.tmp 16) (.tmp 17) v1 (getL T 1)).bind fun v2 =>
condV v2
 (some (.exit 0, [], s))
 ((abin Try.prog .add 3 (.tmp 19) (.const (.int .i64 1)) v1 (.int .i64 1)).bind fun v4 =>
(abin Try.prog .lss 3 (.tmp 20) (.tmp 21) v4 (getL T 1)).bind fun v5 =>
(guardV v5 true (some ([(getL T 3)], s)) (some ([undef], s))).bind fun q6 =>
(guardV v5 true (some ([(getL T 0)], q6.2)) (some ([undef], q6.2))).bind fun q7 =>
(guardV v5 true (some ([(getL T 2)], q7.2)) (some ([undef], q7.2))).bind fun q8 =>
(guardV v5 true (some ([v1], q8.2)) (some ([undef], q8.2))).bind fun q9 =>
(guardV v5 true ((abin Try.prog .add 3 (.tmp 26) (.tmp 27) (getL q8.1 0) (getL q9.1 0)).bind fun v10 =>
some ([v10], q9.2)) (some ([undef], q9.2))).bind fun q11 =>
(guardV v5 true ((aindexS 7 (getL q7.1 0) (getL q11.1 0)).bind fun v12 =>
some ([v12], q11.2)) (some ([undef], q11.2))).bind fun q13 =>
(guardV v5 true ((aload true 7 (getL q13.1 0) (frzS q13.2)).bind fun v60 =>
some (v60, (frzS q13.2))) (some (undef, (frzS q13.2)))).bind fun r14 =>
(guardV v5 true (some ([(getL T 0)], q13.2)) (some ([undef], q13.2))).bind fun q15 =>
(guardV v5 true (some ([(getL T 2)], q15.2)) (some ([undef], q15.2))).bind fun q16 =>
(guardV v5 true (some ([v1], q16.2)) (some ([undef], q16.2))).bind fun q17 =>
(guardV v5 true ((abin Try.prog .add 3 (.tmp 32) (.tmp 33) (getL q16.1 0) (getL q17.1 0)).bind fun v18 =>
some ([v18], q17.2)) (some ([undef], q17.2))).bind fun q19 =>
(guardV v5 true ((abin Try.prog .add 3 (.tmp 34) (.const (.int .i64 1)) (getL q19.1 0) (.int .i64 1)).bind fun v20 =>
some ([v20], q19.2)) (some ([undef], q19.2))).bind fun q21 =>
(guardV v5 true ((aindexS 7 (getL q15.1 0) (getL q21.1 0)).bind fun v22 =>
some ([v22], q21.2)) (some ([undef], q21.2))).bind fun q23 =>
(guardV v5 true ((aload true 7 (getL q23.1 0) (frzS q23.2)).bind fun v59 =>
some (v59, (frzS q23.2))) (some (undef, (frzS q23.2)))).bind fun r24 =>
((guardV v5 true ((callV Try.prog R (getL q6.1 0) [r14.1, r24.1] q23.2).bind fun r58 =>
some (r58.1, r58.2)) (some (undef, q23.2))).bind (ownR q23.2)).bind fun r25 =>
(guardV v5 true ((abin Try.prog .lss 3 (.tmp 38) (.const (.int .i64 0)) r25.1 (.int .i64 0)).bind fun v26 =>
some ([v26], r25.2)) (some ([undef], r25.2))).bind fun q27 =>
(apick v5 (getL q27.1 0) (.bool false)).bind fun v28 =>
condV v28
 ((abin Try.prog .add 3 (.tmp 41) (.const (.int .i64 1)) v1 (.int .i64 1)).bind fun v29 =>
joinK (slices_siftDownCmpFunc_api_Entry.j0 R) [(getL T 0), (getL T 1), (getL T 2), (getL T 3), (getL T 4), v29] q27.2)
 (joinK (slices_siftDownCmpFunc_api_Entry.j0 R) [(getL T 0), (getL T 1), (getL T 2), (getL T 3), (getL T 4), v1] q27.2))

noncomputable def slices_siftDownCmpFunc_api_Entry (R : Caller) (x0 x1 x2 x3 x4 : Value) (s : St) : Option (Value × St) :=
(loopL (slices_siftDownCmpFunc_api_Entry.b0 R) [x0, x2, x3, x4, x1] s).bind fun r61 =>
exV r61.1 [(0, retV [] r61.2.2)]
 (retV [] r61.2.2)

theorem slices_siftDownCmpFunc_api_Entry_of {lib : Lib} (hl : lib 80 = none) {x0 x1 x2 x3 x4 : Value} {s : St} {r : Value × St} (h : slices_siftDownCmpFunc_api_Entry (run Try.prog lib hints) x0 x1 x2 x3 x4 s = some r) : run Try.prog lib hints 80 [x0, x1, x2, x3, x4] s = some r :=
  run_of hl Try.func80 (Eq.trans (by kernel_rfl) h)

theorem slices_siftDownCmpFunc_api_Entry_ok : funcOk Try.prog 80 = true := by kernel_rfl
theorem slices_siftDownCmpFunc_api_Entry_call {R : Caller} {xs : List Value} {s : St} : callV Try.prog R (.func (.func 80) #[] #[]) xs s = R 80 xs s := callV_eq slices_siftDownCmpFunc_api_Entry_ok

/-! ### slices.nextPowerOfTwo: 81 -/

noncomputable def slices_nextPowerOfTwo (R : Caller) (x0 : Value) (s : St) : Option (Value × St) :=
(convInt .u64 x0).bind fun v0 =>
(callV Try.prog R (.func (.func 57) #[] #[]) [v0] s).bind fun r1 =>
(abin Try.prog .shl 102 (.const (.int .u64 1)) (.tmp 5) (.int .u64 1) r1.1).bind fun v2 =>
retV [v2] r1.2

theorem slices_nextPowerOfTwo_of {lib : Lib} (hl : lib 81 = none) {x0 : Value} {s : St} {r : Value × St} (h : slices_nextPowerOfTwo (run Try.prog lib hints) x0 s = some r) : run Try.prog lib hints 81 [x0] s = some r :=
  run_of hl Try.func81 (Eq.trans (by kernel_rfl) h)

theorem slices_nextPowerOfTwo_ok : funcOk Try.prog 81 = true := by kernel_rfl
theorem slices_nextPowerOfTwo_call {R : Caller} {xs : List Value} {s : St} : callV Try.prog R (.func (.func 81) #[] #[]) xs s = R 81 xs s := callV_eq slices_nextPowerOfTwo_ok

/-! ### (*slices.xorshift).Next: 82 -/

noncomputable def slices_xorshift_Next (R : Caller) (x0 : Value) (s : St) : Option (Value × St) :=
(anilCheck x0).bind fun v0 =>
((aload false 1 v0 (frzS s)).bind fun v34 =>
some (v34, (frzS s))).bind fun r1 =>
(anilCheck x0).bind fun v2 =>
((aload false 1 v2 (frzS s)).bind fun v33 =>
some (v33, (frzS s))).bind fun r3 =>
(abin Try.prog .shl 122 (.tmp 8) (.const (.int .u64 13)) r3.1 (.int .u64 13)).bind fun v4 =>
(abin Try.prog .xor 122 (.tmp 5) (.tmp 9) r1.1 v4).bind fun v5 =>
(anilCheck x0).bind fun v6 =>
(((astore 1 v6 v5 s).bind fun s32 =>
some (undef, s32)).bind (ownR s)).bind fun r7 =>
(anilCheck x0).bind fun v8 =>
((aload false 1 v8 (frzS r7.2)).bind fun v31 =>
some (v31, (frzS r7.2))).bind fun r9 =>
(anilCheck x0).bind fun v10 =>
((aload false 1 v10 (frzS r7.2)).bind fun v30 =>
some (v30, (frzS r7.2))).bind fun r11 =>
(abin Try.prog .shr 122 (.tmp 17) (.const (.int .u64 7)) r11.1 (.int .u64 7)).bind fun v12 =>
(abin Try.prog .xor 122 (.tmp 14) (.tmp 18) r9.1 v12).bind fun v13 =>
(anilCheck x0).bind fun v14 =>
(((astore 1 v14 v13 r7.2).bind fun s29 =>
some (undef, s29)).bind (ownR r7.2)).bind fun r15 =>
(anilCheck x0).bind fun v16 =>
((aload false 1 v16 (frzS r15.2)).bind fun v28 =>
some (v28, (frzS r15.2))).bind fun r17 =>
(anilCheck x0).bind fun v18 =>
((aload false 1 v18 (frzS r15.2)).bind fun v27 =>
some (v27, (frzS r15.2))).bind fun r19 =>
(abin Try.prog .shl 122 (.tmp 26) (.const (.int .u64 17)) r19.1 (.int .u64 17)).bind fun v20 =>
(abin Try.prog .xor 122 (.tmp 23) (.tmp 27) r17.1 v20).bind fun v21 =>
(anilCheck x0).bind fun v22 =>
(((astore 1 v22 v21 r15.2).bind fun s26 =>
some (undef, s26)).bind (ownR r15.2)).bind fun r23 =>
(anilCheck x0).bind fun v24 =>
(aload false 1 v24 r23.2).bind fun v25 =>
retV [v25] r23.2

theorem slices_xorshift_Next_of {lib : Lib} (hl : lib 82 = none) {x0 : Value} {s : St} {r : Value × St} (h : slices_xorshift_Next (run Try.prog lib hints) x0 s = some r) : run Try.prog lib hints 82 [x0] s = some r :=
  run_of hl Try.func82 (Eq.trans (by kernel_rfl) h)

theorem slices_xorshift_Next_ok : funcOk Try.prog 82 = true := by kernel_rfl
theorem slices_xorshift_Next_call {R : Caller} {xs : List Value} {s : St} : callV Try.prog R (.func (.func 82) #[] #[]) xs s = R 82 xs s := callV_eq slices_xorshift_Next_ok

/-! ### slices.medianAdjacentCmpFunc[sumpter/api.Entry]: 83 -/

noncomputable def slices_medianAdjacentCmpFunc_api_Entry (R : Caller) (x0 x1 x2 x3 : Value) (s : St) : Option (Value × St) :=
(abin Try.prog .sub 3 (.tmp 10) (.const (.int .i64 1)) x1 (.int .i64 1)).bind fun v0 =>
(abin Try.prog .add 3 (.tmp 13) (.const (.int .i64 1)) x1 (.int .i64 1)).bind fun v1 =>
(callV Try.prog R (.func (.func 84) #[] #[]) [x0, v0, x1, v1, x2, x3] s).bind fun r2 =>
retV [r2.1] r2.2

theorem slices_medianAdjacentCmpFunc_api_Entry_of {lib : Lib} (hl : lib 83 = none) {x0 x1 x2 x3 : Value} {s : St} {r : Value × St} (h : slices_medianAdjacentCmpFunc_api_Entry (run Try.prog lib hints) x0 x1 x2 x3 s = some r) : run Try.prog lib hints 83 [x0, x1, x2, x3] s = some r :=
  run_of hl Try.func83 (Eq.trans (by kernel_rfl) h)

theorem slices_medianAdjacentCmpFunc_api_Entry_ok : funcOk Try.prog 83 = true := by kernel_rfl
theorem slices_medianAdjacentCmpFunc_api_Entry_call {R : Caller} {xs : List Value} {s : St} : callV Try.prog R (.func (.func 83) #[] #[]) xs s = R 83 xs s := callV_eq slices_medianAdjacentCmpFunc_api_Entry_ok

/-! ### slices.medianCmpFunc[sumpter/api.Entry]: 84 -/

noncomputable def slices_medianCmpFunc_api_Entry (R : Caller) (x0 x1 x2 x3 x4 x5 : Value) (s : St) : Option (Value × St) :=
(callV Try.prog R (.func (.func 90) #[] #[]) [x0, x1, x2, x4, x5] s).bind fun r0 =>
(aextract 0 r0.1).bind fun v1 =>
(aextract 1 r0.1).bind fun v2 =>
(callV Try.prog R (.func (.func 90) #[] #[]) [x0, v2, x3, x4, x5] r0.2).bind fun r3 =>
(aextract 0 r3.1).bind fun v4 =>
(aextract 1 r3.1).bind fun v5 =>
(callV Try.prog R (.func (.func 90) #[] #[]) [x0, v1, v4, x4, x5] r3.2).bind fun r6 =>
(aextract 0 r6.1).bind fun v7 =>
(aextract 1 r6.1).bind fun v8 =>
retV [v8] r6.2

theorem slices_medianCmpFunc_api_Entry_of {lib : Lib} (hl : lib 84 = none) {x0 x1 x2 x3 x4 x5 : Value} {s : St} {r : Value × St} (h : slices_medianCmpFunc_api_Entry (run Try.prog lib hints) x0 x1 x2 x3 x4 x5 s = some r) : run Try.prog lib hints 84 [x0, x1, x2, x3, x4, x5] s = some r :=
  run_of hl Try.func84 (Eq.trans (by kernel_rfl) h)

theorem slices_medianCmpFunc_api_Entry_ok : funcOk Try.prog 84 = true := by kernel_rfl
theorem slices_medianCmpFunc_api_Entry_call {R : Caller} {xs : List Value} {s : St} : callV Try.prog R (.func (.func 84) #[] #[]) xs s = R 84 xs s := callV_eq slices_medianCmpFunc_api_Entry_ok

/-! ### slices.BinarySearchFunc[[]sumpter/api.Pair,sumpter/api.Pair,string]: 85 -/

noncomputable def slices_BinarySearchFunc_api_Pair_api_Pair_string.b0 (R : Caller) (T : List Value) (s : St) : Res :=
(abin Try.prog .lss 3 (.tmp 15) (.tmp 16) (getL T 4) (getL T 5)).bind fun v1 =>
condV v1
 ((abin Try.prog .add 3 (.tmp 18) (.tmp 19) (getL T 4) (getL T 5)).bind fun v2 =>
(convInt .u64 v2).bind fun v3 =>
(abin Try.prog .shr 102 (.tmp 21) (.const (.int .u64 1)) v3 (.int .u64 1)).bind fun v4 =>
(convInt .i64 v4).bind fun v5 =>
(aindexS 2 (getL T 0) v5).bind fun v6 =>
(aload true 2 v6 s).bind fun v7 =>
(callV Try.prog R (getL T 2) [v7, (getL T 1)] s).bind fun r8 =>
(abin Try.prog .lss 3 (.tmp 30) (.const (.int .i64 0)) r8.1 (.int .i64 0)).bind fun v9 =>
condV v9
 ((abin Try.prog .add 3 (.tmp 32) (.const (.int .i64 1)) v5 (.int .i64 1)).bind fun v10 =>
some (.normal, [(getL T 0), (getL T 1), (getL T 2), (getL T 3), v10, (getL T 5)], r8.2))
 (some (.normal, [(getL T 0), (getL T 1), (getL T 2), (getL T 3), (getL T 4), v5], r8.2)))
 (some (.exit 0, [(getL T 0), (getL T 1), (getL T 2), (getL T 3), (getL T 4)], s))

noncomputable def slices_BinarySearchFunc_api_Pair_api_Pair_string (R : Caller) (x0 x1 x2 : Value) (s : St) : Option (Value × St) :=
(alenV (.slice 75) x0 s).bind fun v0 =>
(loopL (slices_BinarySearchFunc_api_Pair_api_Pair_string.b0 R) [x0, x1, x2, v0, (.int .i64 0), v0] s).bind fun r11 =>
exV r11.1 [(0, (abin Try.prog .lss 3 (.tmp 36) (.tmp 37) (getL r11.2.1 4) (getL r11.2.1 3)).bind fun v12 =>
(guardV v12 true ((aindexS 2 (getL r11.2.1 0) (getL r11.2.1 4)).bind fun v13 =>
(aload true 2 v13 r11.2.2).bind fun v14 =>
(callV Try.prog R (getL r11.2.1 2) [v14, (getL r11.2.1 1)] r11.2.2).bind fun r15 =>
(abin Try.prog .eql 3 (.tmp 46) (.const (.int .i64 0)) r15.1 (.int .i64 0)).bind fun v16 =>
some ([v16], r15.2)) (some ([undef], r11.2.2))).bind fun q17 =>
(apick v12 (getL q17.1 0) (.bool false)).bind fun v18 =>
retV [(getL r11.2.1 4), v18] q17.2)]
 (none)

theorem slices_BinarySearchFunc_api_Pair_api_Pair_string_of {lib : Lib} (hl : lib 85 = none) {x0 x1 x2 : Value} {s : St} {r : Value × St} (h : slices_BinarySearchFunc_api_Pair_api_Pair_string (run Try.prog lib hints) x0 x1 x2 s = some r) : run Try.prog lib hints 85 [x0, x1, x2] s = some r :=
  run_of hl Try.func85 (Eq.trans (by kernel_rfl) h)

theorem slices_BinarySearchFunc_api_Pair_api_Pair_string_ok : funcOk Try.prog 85 = true := by kernel_rfl
theorem slices_BinarySearchFunc_api_Pair_api_Pair_string_call {R : Caller} {xs : List Value} {s : St} : callV Try.prog R (.func (.func 85) #[] #[]) xs s = R 85 xs s := callV_eq slices_BinarySearchFunc_api_Pair_api_Pair_string_ok

/-! ### sumpter/op.at$1: 86 -/

noncomputable def op_at_1 (R : Caller) (x0 x1 : Value) (s : St) : Option (Value × St) :=
(lbox x0).bind fun v0 =>
(lload false 1 lptr v0).bind fun v1 =>
(callV Try.prog R (.func (.func 87) #[] #[]) [v1, x1] s).bind fun r2 =>
retV [r2.1] r2.2

theorem op_at_1_of {lib : Lib} (hl : lib 86 = none) {x0 x1 : Value} {s : St} {r : Value × St} (h : op_at_1 (run Try.prog lib hints) x0 x1 s = some r) : run Try.prog lib hints 86 [x0, x1] s = some r :=
  run_of hl Try.func86 (Eq.trans (by kernel_rfl) h)

theorem op_at_1_ok : funcOk Try.prog 86 = true := by kernel_rfl
theorem op_at_1_call {R : Caller} {xs : List Value} {s : St} : callV Try.prog R (.func (.func 86) #[] #[]) xs s = R 86 xs s := callV_eq op_at_1_ok

/-! ### strings.Compare: 87 -/

noncomputable def strings_Compare (R : Caller) (x0 x1 : Value) (s : St) : Option (Value × St) :=
(callV Try.prog R (.func (.func 91) #[] #[]) [x0, x1] s).bind fun r0 =>
retV [r0.1] r0.2

theorem strings_Compare_of {lib : Lib} (hl : lib 87 = none) {x0 x1 : Value} {s : St} {r : Value × St} (h : strings_Compare (run Try.prog lib hints) x0 x1 s = some r) : run Try.prog lib hints 87 [x0, x1] s = some r :=
  run_of hl Try.func87 (Eq.trans (by kernel_rfl) h)

theorem strings_Compare_ok : funcOk Try.prog 87 = true := by kernel_rfl
theorem strings_Compare_call {R : Caller} {xs : List Value} {s : St} : callV Try.prog R (.func (.func 87) #[] #[]) xs s = R 87 xs s := callV_eq strings_Compare_ok

/-! ### slices.rotateRight[sumpter/api.Pair]: 89 -/

noncomputable def slices_rotateRight_api_Pair (R : Caller) (x0 x1 : Value) (s : St) : Option (Value × St) :=
(alenV (.slice 75) x0 s).bind fun v0 =>
(abin Try.prog .sub 3 (.tmp 6) (.tmp 7) v0 x1).bind fun v1 =>
(callV Try.prog R (.func (.func 92) #[] #[]) [x0, v1] s).bind fun r2 =>
retV [] r2.2

theorem slices_rotateRight_api_Pair_of {lib : Lib} (hl : lib 89 = none) {x0 x1 : Value} {s : St} {r : Value × St} (h : slices_rotateRight_api_Pair (run Try.prog lib hints) x0 x1 s = some r) : run Try.prog lib hints 89 [x0, x1] s = some r :=
  run_of hl Try.func89 (Eq.trans (by kernel_rfl) h)

theorem slices_rotateRight_api_Pair_ok : funcOk Try.prog 89 = true := by kernel_rfl
theorem slices_rotateRight_api_Pair_call {R : Caller} {xs : List Value} {s : St} : callV Try.prog R (.func (.func 89) #[] #[]) xs s = R 89 xs s := callV_eq slices_rotateRight_api_Pair_ok

/-! ### slices.order2CmpFunc[sumpter/api.Entry]: 90 -/

noncomputable def slices_order2CmpFunc_api_Entry (R : Caller) (x0 x1 x2 x3 x4 : Value) (s : St) : Option (Value × St) :=
(aindexS 7 x0 x2).bind fun v0 =>
((aload true 7 v0 (frzS s)).bind fun v13 =>
some (v13, (frzS s))).bind fun r1 =>
(aindexS 7 x0 x1).bind fun v2 =>
((aload true 7 v2 (frzS s)).bind fun v12 =>
some (v12, (frzS s))).bind fun r3 =>
(((callV Try.prog R x4 [r1.1, r3.1] s).bind fun r11 =>
some (r11.1, r11.2)).bind (ownR s)).bind fun r4 =>
(abin Try.prog .lss 3 (.tmp 21) (.const (.int .i64 0)) r4.1 (.int .i64 0)).bind fun v5 =>
condV v5
 ((anilCheck x3).bind fun v6 =>
(aload false 1 v6 r4.2).bind fun v7 =>
(abin Try.prog .add 3 (.tmp 25) (.const (.int .i64 1)) v7 (.int .i64 1)).bind fun v8 =>
(anilCheck x3).bind fun v9 =>
(astore 1 v9 v8 r4.2).bind fun s10 =>
retV [x2, x1] s10)
 (retV [x1, x2] r4.2)

theorem slices_order2CmpFunc_api_Entry_of {lib : Lib} (hl : lib 90 = none) {x0 x1 x2 x3 x4 : Value} {s : St} {r : Value × St} (h : slices_order2CmpFunc_api_Entry (run Try.prog lib hints) x0 x1 x2 x3 x4 s = some r) : run Try.prog lib hints 90 [x0, x1, x2, x3, x4] s = some r :=
  run_of hl Try.func90 (Eq.trans (by kernel_rfl) h)

theorem slices_order2CmpFunc_api_Entry_ok : funcOk Try.prog 90 = true := by kernel_rfl
theorem slices_order2CmpFunc_api_Entry_call {R : Caller} {xs : List Value} {s : St} : callV Try.prog R (.func (.func 90) #[] #[]) xs s = R 90 xs s := callV_eq slices_order2CmpFunc_api_Entry_ok

/-! ### internal/bytealg.CompareString: 91 -/

noncomputable def internal_bytealg_CompareString (R : Caller) (x0 x1 : Value) (s : St) : Option (Value × St) :=
(callV Try.prog R (.func (.func 93) #[] #[]) [x0, x1] s).bind fun r0 =>
retV [r0.1] r0.2

theorem internal_bytealg_CompareString_of {lib : Lib} (hl : lib 91 = none) {x0 x1 : Value} {s : St} {r : Value × St} (h : internal_bytealg_CompareString (run Try.prog lib hints) x0 x1 s = some r) : run Try.prog lib hints 91 [x0, x1] s = some r :=
  run_of hl Try.func91 (Eq.trans (by kernel_rfl) h)

theorem internal_bytealg_CompareString_ok : funcOk Try.prog 91 = true := by kernel_rfl
theorem internal_bytealg_CompareString_call {R : Caller} {xs : List Value} {s : St} : callV Try.prog R (.func (.func 91) #[] #[]) xs s = R 91 xs s := callV_eq internal_bytealg_CompareString_ok

/-! ### slices.rotateLeft[sumpter/api.Pair]: 92 -/

noncomputable def slices_rotateLeft_api_Pair (R : Caller) (x0 x1 : Value) (s : St) : Option (Value × St) :=
(asliceV 2 x0 none (some x1) none).bind fun v0 =>
(callV Try.prog R (.func (.func 94) #[] #[]) [v0] s).bind fun r1 =>
(asliceV 2 x0 (some x1) none none).bind fun v2 =>
(callV Try.prog R (.func (.func 94) #[] #[]) [v2] r1.2).bind fun r3 =>
(callV Try.prog R (.func (.func 94) #[] #[]) [x0] r3.2).bind fun r4 =>
retV [] r4.2

theorem slices_rotateLeft_api_Pair_of {lib : Lib} (hl : lib 92 = none) {x0 x1 : Value} {s : St} {r : Value × St} (h : slices_rotateLeft_api_Pair (run Try.prog lib hints) x0 x1 s = some r) : run Try.prog lib hints 92 [x0, x1] s = some r :=
  run_of hl Try.func92 (Eq.trans (by kernel_rfl) h)

theorem slices_rotateLeft_api_Pair_ok : funcOk Try.prog 92 = true := by kernel_rfl
theorem slices_rotateLeft_api_Pair_call {R : Caller} {xs : List Value} {s : St} : callV Try.prog R (.func (.func 92) #[] #[]) xs s = R 92 xs s := callV_eq slices_rotateLeft_api_Pair_ok

/-! ### slices.Reverse[[]sumpter/api.Pair,sumpter/api.Pair]: 94 -/

noncomputable def slices_Reverse_api_Pair_api_Pair.b0 (R : Caller) (T : List Value) (s : St) : Res :=
(abin Try.prog .lss 3 (.tmp 7) (.tmp 8) (getL T 1) (getL T 2)).bind fun v2 =>
condV v2
 ((aindexS 2 (getL T 0) (getL T 2)).bind fun v3 =>
((aload true 2 v3 (frzS s)).bind fun v16 =>
some (v16, (frzS s))).bind fun r4 =>
(aindexS 2 (getL T 0) (getL T 1)).bind fun v5 =>
((aload true 2 v5 (frzS s)).bind fun v15 =>
some (v15, (frzS s))).bind fun r6 =>
(aindexS 2 (getL T 0) (getL T 1)).bind fun v7 =>
(((astore 2 v7 r4.1 s).bind fun s14 =>
some (undef, s14)).bind (ownR s)).bind fun r8 =>
(aindexS 2 (getL T 0) (getL T 2)).bind fun v9 =>
(((astore 2 v9 r6.1 r8.2).bind fun s13 =>
some (undef, s13)).bind (ownR r8.2)).bind fun r10 =>
(abin Try.prog .add 3 (.tmp 10) (.const (.int .i64 1)) (getL T 1) (.int .i64 1)).bind fun v11 =>
(abin Try.prog .sub 3 (.tmp 12) (.const (.int .i64 1)) (getL T 2) (.int .i64 1)).bind fun v12 =>
some (.normal, [(getL T 0), v11, v12], r10.2))
 (some (.exit 0, [], s))

noncomputable def slices_Reverse_api_Pair_api_Pair (R : Caller) (x0 : Value) (s : St) : Option (Value × St) :=
(alenV (.slice 75) x0 s).bind fun v0 =>
(abin Try.prog .sub 3 (.tmp 5) (.const (.int .i64 1)) v0 (.int .i64 1)).bind fun v1 =>
(loopL (slices_Reverse_api_Pair_api_Pair.b0 R) [x0, (.int .i64 0), v1] s).bind fun r17 =>
exV r17.1 [(0, retV [] r17.2.2)]
 (none)

theorem slices_Reverse_api_Pair_api_Pair_of {lib : Lib} (hl : lib 94 = none) {x0 : Value} {s : St} {r : Value × St} (h : slices_Reverse_api_Pair_api_Pair (run Try.prog lib hints) x0 s = some r) : run Try.prog lib hints 94 [x0] s = some r :=
  run_of hl Try.func94 (Eq.trans (by kernel_rfl) h)

theorem slices_Reverse_api_Pair_api_Pair_ok : funcOk Try.prog 94 = true := by kernel_rfl
theorem slices_Reverse_api_Pair_api_Pair_call {R : Caller} {xs : List Value} {s : St} : callV Try.prog R (.func (.func 94) #[] #[]) xs s = R 94 xs s := callV_eq slices_Reverse_api_Pair_api_Pair_ok


end Go.Proofs.Ythnjkakmkmoceaa.Ab
