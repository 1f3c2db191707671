/- The program's functions, as the abstract machine runs them: printed. -/
import Derived.Test.YtodedkebnmfodaaLib0
namespace Go.Proofs.Ytodedkebnmfodaa.Ab
open Go
set_option maxRecDepth 100000
set_option linter.unusedVariables false

def hints : Hints := fun f => hintL f [(2, []), (3, []), (4, []), (5, []), (6, []), (7, []), (8, []), (9, []), (10, []), (11, []), (12, []), (13, []), (14, []), (15, []), (16, []), (17, [(3, 26), (20, 26)]), (18, []), (19, []), (20, []), (21, []), (22, []), (23, []), (24, []), (25, [(2, 17), (3, 18), (14, 18)]), (26, [(2, 15)]), (27, [(0, 24), (1, 25), (21, 25)])]

/-! ### gosem.cut.init: 2 -/

noncomputable def gosem_cut_init (R : Caller) (s : St) : Option (Value × St) :=
(callV Try.prog R (.func (.func 1) #[] #[]) [] s).bind fun r0 =>
retV [] r0.2

theorem gosem_cut_init_of {lib : Lib} (hl : lib 2 = none) {s : St} {r : Value × St} (h : gosem_cut_init (run Try.prog lib hints)  s = some r) : run Try.prog lib hints 2 [] s = some r :=
  run_of hl Try.func2 (Eq.trans (by kernel_rfl) h)

theorem gosem_cut_init_ok : funcOk Try.prog 2 = true := by kernel_rfl
theorem gosem_cut_init_call {R : Caller} {xs : List Value} {s : St} : callV Try.prog R (.func (.func 2) #[] #[]) xs s = R 2 xs s := callV_eq gosem_cut_init_ok

/-! ### sumpter/sumpterlaw01.OctetNumbers: 3 -/

noncomputable def law01_OctetNumbers (R : Caller) (x0 x1 : Value) (s : St) : Option (Value × St) :=
(callV Try.prog R (.func (.func 12) #[] #[]) [] s).bind fun r0 =>
(callV Try.prog R (.func (.func 13) #[] #[]) [x1] r0.2).bind fun r1 =>
(aextract 0 r1.1).bind fun v2 =>
(aextract 1 r1.1).bind fun v3 =>
(aextract 2 r1.1).bind fun v4 =>
(callV Try.prog R (.func (.func 14) #[] #[]) [x1] r1.2).bind fun r5 =>
(aextract 0 r5.1).bind fun v6 =>
(aextract 1 r5.1).bind fun v7 =>
(aextract 2 r5.1).bind fun v8 =>
(guardV r0.1 true (some ([x0], r5.2)) (some ([undef], r5.2))).bind fun q9 =>
((guardV r0.1 true ((callV Try.prog R (.func (.func 15) #[] #[]) [(getL q9.1 0)] q9.2).bind fun r36 =>
some (r36.1, r36.2)) (some (undef, q9.2))).bind (ownR q9.2)).bind fun r10 =>
(guardV r0.1 true ((abytesToStr r10.1 (frzS r10.2)).bind fun v35 =>
some (v35, (frzS r10.2))) (some (undef, (frzS r10.2)))).bind fun r11 =>
(guardV r0.1 true (some ([x0], r10.2)) (some ([undef], r10.2))).bind fun q12 =>
((guardV r0.1 true ((callV Try.prog R (.func (.func 16) #[] #[]) [(getL q12.1 0)] (frzS q12.2)).bind fun r34 =>
some (r34.1, r34.2)) (some (undef, (frzS q12.2)))).map (quietR q12.2)).bind fun r13 =>
(guardV r0.1 true ((abytesToStr r13.1 (frzS r13.2)).bind fun v33 =>
some (v33, (frzS r13.2))) (some (undef, (frzS r13.2)))).bind fun r14 =>
(guardV r0.1 true ((abin Try.prog .eql 9 (.tmp 29) (.tmp 32) r11.1 r14.1).bind fun v15 =>
some ([v15], r13.2)) (some ([undef], r13.2))).bind fun q16 =>
(apick r0.1 (getL q16.1 0) (.bool false)).bind fun v17 =>
(guardV v17 true (some ([v2], q16.2)) (some ([undef], q16.2))).bind fun q18 =>
(guardV v17 true (some ([v6], q18.2)) (some ([undef], q18.2))).bind fun q19 =>
(guardV v17 true ((abin Try.prog .eql 22 (.tmp 36) (.tmp 37) (getL q18.1 0) (getL q19.1 0)).bind fun v20 =>
some ([v20], q19.2)) (some ([undef], q19.2))).bind fun q21 =>
(apick v17 (getL q21.1 0) (.bool false)).bind fun v22 =>
(guardV v22 true (some ([v3], q21.2)) (some ([undef], q21.2))).bind fun q23 =>
(guardV v22 true (some ([v7], q23.2)) (some ([undef], q23.2))).bind fun q24 =>
(guardV v22 true ((abin Try.prog .eql 3 (.tmp 41) (.tmp 42) (getL q23.1 0) (getL q24.1 0)).bind fun v25 =>
some ([v25], q24.2)) (some ([undef], q24.2))).bind fun q26 =>
(apick v22 (getL q26.1 0) (.bool false)).bind fun v27 =>
(guardV v27 true (some ([v4], q26.2)) (some ([undef], q26.2))).bind fun q28 =>
(guardV v27 true (some ([v8], q28.2)) (some ([undef], q28.2))).bind fun q29 =>
(guardV v27 true ((abin Try.prog .eql 25 (.tmp 46) (.tmp 47) (getL q28.1 0) (getL q29.1 0)).bind fun v30 =>
some ([v30], q29.2)) (some ([undef], q29.2))).bind fun q31 =>
(apick v27 (getL q31.1 0) (.bool false)).bind fun v32 =>
retV [v32] q31.2

theorem law01_OctetNumbers_of {lib : Lib} (hl : lib 3 = none) {x0 x1 : Value} {s : St} {r : Value × St} (h : law01_OctetNumbers (run Try.prog lib hints) x0 x1 s = some r) : run Try.prog lib hints 3 [x0, x1] s = some r :=
  run_of hl Try.func3 (Eq.trans (by kernel_rfl) h)

theorem law01_OctetNumbers_ok : funcOk Try.prog 3 = true := by kernel_rfl
theorem law01_OctetNumbers_call {R : Caller} {xs : List Value} {s : St} : callV Try.prog R (.func (.func 3) #[] #[]) xs s = R 3 xs s := callV_eq law01_OctetNumbers_ok

/-! ### sumpter/sumpterlaw01.OctetSums: 4 -/

noncomputable def law01_OctetSums (R : Caller) (x0 : Value) (s : St) : Option (Value × St) :=
(callV Try.prog R (.func (.func 12) #[] #[]) [] s).bind fun r0 =>
(guardV r0.1 true ((callV Try.prog R (.func (.func 17) #[] #[]) [x0] r0.2).bind fun r1 =>
(callV Try.prog R (.func (.func 18) #[] #[]) [x0] r1.2).bind fun r2 =>
(abin Try.prog .eql 30 (.tmp 8) (.tmp 10) r1.1 r2.1).bind fun v3 =>
some ([v3], r2.2)) (some ([undef], r0.2))).bind fun q4 =>
(apick r0.1 (getL q4.1 0) (.bool false)).bind fun v5 =>
retV [v5] q4.2

theorem law01_OctetSums_of {lib : Lib} (hl : lib 4 = none) {x0 : Value} {s : St} {r : Value × St} (h : law01_OctetSums (run Try.prog lib hints) x0 s = some r) : run Try.prog lib hints 4 [x0] s = some r :=
  run_of hl Try.func4 (Eq.trans (by kernel_rfl) h)

theorem law01_OctetSums_ok : funcOk Try.prog 4 = true := by kernel_rfl
theorem law01_OctetSums_call {R : Caller} {xs : List Value} {s : St} : callV Try.prog R (.func (.func 4) #[] #[]) xs s = R 4 xs s := callV_eq law01_OctetSums_ok

/-! ### sumpter/sumpterlaw01.OctetBursts: 5 -/

noncomputable def law01_OctetBursts.j33 (R : Caller) (T : List Value) (s : St) : Res :=
(abin Try.prog .add 3 (.tmp 42) (.const (.int .i64 1)) (getL T 7) (.int .i64 1)).bind fun v32 =>
some (.normal, [(getL T 0), (getL T 1), (getL T 2), (getL T 3), (getL T 4), (getL T 5), (getL T 6), v32], s)

noncomputable def law01_OctetBursts.b12 (R : Caller) (T : List Value) (s : St) : Res :=
(abin Try.prog .lss 3 (.tmp 33) (.const (.int .i64 32)) (getL T 7) (.int .i64 32)).bind fun v13 =>
(guardV v13 true ((abin Try.prog .add 3 (.tmp 36) (.tmp 37) (getL T 1) (getL T 7)).bind fun v14 =>
(abin Try.prog .lss 3 (.tmp 38) (.tmp 39) v14 (getL T 4)).bind fun v15 =>
some ([v15], s)) (some ([undef], s))).bind fun q16 =>
(apick v13 (getL q16.1 0) (.bool false)).bind fun v17 =>
condV v17
 ((abin Try.prog .shr 30 (.tmp 44) (.tmp 45) (getL T 2) (getL T 7)).bind fun v19 =>
(abin Try.prog .and 30 (.tmp 46) (.const (.int .u32 1)) v19 (.int .u32 1)).bind fun v20 =>
(abin Try.prog .eql 30 (.tmp 47) (.const (.int .u32 1)) v20 (.int .u32 1)).bind fun v21 =>
condV v21
 ((abin Try.prog .add 3 (.tmp 50) (.tmp 51) (getL T 1) (getL T 7)).bind fun v22 =>
(abin Try.prog .quo 3 (.tmp 52) (.const (.int .i64 8)) v22 (.int .i64 8)).bind fun v23 =>
(aindexS 1 (getL T 5) v23).bind fun v24 =>
(((aload false 1 v24 q16.2).bind fun v35 =>
some (v35, q16.2)).bind (ownR q16.2)).bind fun r25 =>
(abin Try.prog .add 3 (.tmp 56) (.tmp 57) (getL T 1) (getL T 7)).bind fun v26 =>
(abin Try.prog .rem 3 (.tmp 58) (.const (.int .i64 8)) v26 (.int .i64 8)).bind fun v27 =>
(abin Try.prog .shl 5 (.const (.int .u8 1)) (.tmp 59) (.int .u8 1) v27).bind fun v28 =>
(abin Try.prog .xor 5 (.tmp 55) (.tmp 60) r25.1 v28).bind fun v29 =>
(aindexS 1 (getL T 5) v23).bind fun v30 =>
(((astore 1 v30 v29 r25.2).bind fun s34 =>
some (undef, s34)).bind (ownR r25.2)).bind fun r31 =>
joinK (law01_OctetBursts.j33 R) [(getL T 0), (getL T 1), (getL T 2), (getL T 3), (getL T 4), (getL T 5), (.bool true), (getL T 7)] r31.2)
 (joinK (law01_OctetBursts.j33 R) [(getL T 0), (getL T 1), (getL T 2), (getL T 3), (getL T 4), (getL T 5), (getL T 6), (getL T 7)] q16.2))
 (some (.exit 0, [(getL T 0), (getL T 3), (getL T 5), (getL T 6)], q16.2))

noncomputable def law01_OctetBursts (R : Caller) (x0 x1 x2 : Value) (s : St) : Option (Value × St) :=
(callV Try.prog R (.func (.func 12) #[] #[]) [] s).bind fun r0 =>
(alenV (.slice 5) x0 r0.2).bind fun v1 =>
(abin Try.prog .mul 3 (.const (.int .i64 8)) (.tmp 14) (.int .i64 8) v1).bind fun v2 =>
(abin Try.prog .eql 3 (.tmp 16) (.const (.int .i64 0)) v2 (.int .i64 0)).bind fun v3 =>
(guardV v3 false ((alenV (.slice 5) x0 r0.2).bind fun v4 =>
(abin Try.prog .gtr 3 (.tmp 20) (.const (.int .i64 100000)) v4 (.int .i64 100000)).bind fun v5 =>
some ([v5], r0.2)) (some ([undef], r0.2))).bind fun q6 =>
(apick v3 (.bool true) (getL q6.1 0)).bind fun v7 =>
condV v7
 (retV [r0.1] q6.2)
 ((abin Try.prog .rem 3 (.tmp 24) (.tmp 25) x1 v2).bind fun v8 =>
(abin Try.prog .add 3 (.tmp 26) (.tmp 27) v8 v2).bind fun v9 =>
(abin Try.prog .rem 3 (.tmp 28) (.tmp 29) v9 v2).bind fun v10 =>
(aappend 1 1 (.slice none 0 0) x0 q6.2).bind fun r11 =>
(loopL (law01_OctetBursts.b12 R) [x0, v10, x2, r0.1, v2, r11.1, (.bool false), (.int .i64 0)] r11.2).bind fun r36 =>
exV r36.1 [(0, (guardV (getL r36.2.1 1) true ((callV Try.prog R (.func (.func 17) #[] #[]) [(getL r36.2.1 0)] r36.2.2).bind fun r37 =>
(callV Try.prog R (.func (.func 17) #[] #[]) [(getL r36.2.1 2)] r37.2).bind fun r38 =>
(abin Try.prog .neq 30 (.tmp 66) (.tmp 68) r37.1 r38.1).bind fun v39 =>
(abin Try.prog .eql 4 (.tmp 69) (.tmp 70) v39 (getL r36.2.1 3)).bind fun v40 =>
some ([v40], r38.2)) (some ([undef], r36.2.2))).bind fun q41 =>
(apick (getL r36.2.1 1) (getL q41.1 0) (.bool false)).bind fun v42 =>
retV [v42] q41.2)]
 (none))

theorem law01_OctetBursts_of {lib : Lib} (hl : lib 5 = none) {x0 x1 x2 : Value} {s : St} {r : Value × St} (h : law01_OctetBursts (run Try.prog lib hints) x0 x1 x2 s = some r) : run Try.prog lib hints 5 [x0, x1, x2] s = some r :=
  run_of hl Try.func5 (Eq.trans (by kernel_rfl) h)

theorem law01_OctetBursts_ok : funcOk Try.prog 5 = true := by kernel_rfl
theorem law01_OctetBursts_call {R : Caller} {xs : List Value} {s : St} : callV Try.prog R (.func (.func 5) #[] #[]) xs s = R 5 xs s := callV_eq law01_OctetBursts_ok

/-! ### sumpter/sumpterlaw01.OctetOrder: 6 -/

noncomputable def law01_OctetOrder (R : Caller) (x0 x1 : Value) (s : St) : Option (Value × St) :=
(callV Try.prog R (.func (.func 12) #[] #[]) [] s).bind fun r0 =>
(callV Try.prog R (.func (.func 15) #[] #[]) [x0] r0.2).bind fun r1 =>
(callV Try.prog R (.func (.func 15) #[] #[]) [x1] r1.2).bind fun r2 =>
(alenV (.slice 5) r1.1 r2.2).bind fun v3 =>
(abin Try.prog .lss 3 (.tmp 14) (.const (.int .i64 1)) v3 (.int .i64 1)).bind fun v4 =>
(guardV v4 false ((alenV (.slice 5) r1.1 r2.2).bind fun v5 =>
(abin Try.prog .gtr 3 (.tmp 18) (.const (.int .i64 10)) v5 (.int .i64 10)).bind fun v6 =>
some ([v6], r2.2)) (some ([undef], r2.2))).bind fun q7 =>
(apick v4 (.bool true) (getL q7.1 0)).bind fun v8 =>
condV v8
 (retV [(.bool false)] q7.2)
 ((guardV r0.1 true ((abin Try.prog .gtr 22 (.tmp 23) (.tmp 24) x0 x1).bind fun v9 =>
some ([v9], q7.2)) (some ([undef], q7.2))).bind fun q10 =>
(guardV (getL q10.1 0) false ((alenV (.slice 5) r1.1 q10.2).bind fun v11 =>
(alenV (.slice 5) r2.1 q10.2).bind fun v12 =>
(abin Try.prog .leq 3 (.tmp 28) (.tmp 30) v11 v12).bind fun v13 =>
some ([v13], q10.2)) (some ([undef], q10.2))).bind fun q14 =>
(guardV r0.1 true ((apick (getL q10.1 0) (.bool true) (getL q14.1 0)).bind fun v15 =>
some ([v15], q14.2)) (some ([undef], q14.2))).bind fun q16 =>
(apick r0.1 (getL q16.1 0) (.bool false)).bind fun v17 =>
(guardV v17 true ((abin Try.prog .eql 22 (.tmp 35) (.tmp 36) x0 x1).bind fun v18 =>
(abytesToStr r1.1 q16.2).bind fun v19 =>
(abytesToStr r2.1 q16.2).bind fun v20 =>
(abin Try.prog .eql 9 (.tmp 39) (.tmp 41) v19 v20).bind fun v21 =>
(abin Try.prog .eql 4 (.tmp 37) (.tmp 42) v18 v21).bind fun v22 =>
some ([v22], q16.2)) (some ([undef], q16.2))).bind fun q23 =>
(apick v17 (getL q23.1 0) (.bool false)).bind fun v24 =>
retV [v24] q23.2)

theorem law01_OctetOrder_of {lib : Lib} (hl : lib 6 = none) {x0 x1 : Value} {s : St} {r : Value × St} (h : law01_OctetOrder (run Try.prog lib hints) x0 x1 s = some r) : run Try.prog lib hints 6 [x0, x1] s = some r :=
  run_of hl Try.func6 (Eq.trans (by kernel_rfl) h)

theorem law01_OctetOrder_ok : funcOk Try.prog 6 = true := by kernel_rfl
theorem law01_OctetOrder_call {R : Caller} {xs : List Value} {s : St} : callV Try.prog R (.func (.func 6) #[] #[]) xs s = R 6 xs s := callV_eq law01_OctetOrder_ok

/-! ### sumpter/sumpterlaw01.OctetParts: 7 -/

noncomputable def law01_OctetParts (R : Caller) (x0 x1 x2 : Value) (s : St) : Option (Value × St) :=
(callV Try.prog R (.func (.func 12) #[] #[]) [] s).bind fun r0 =>
(alenV (.slice 5) x0 r0.2).bind fun v1 =>
(abin Try.prog .eql 3 (.tmp 11) (.const (.int .i64 0)) v1 (.int .i64 0)).bind fun v2 =>
(guardV v2 false ((alenV (.slice 5) x0 r0.2).bind fun v3 =>
(abin Try.prog .gtr 3 (.tmp 15) (.const (.int .i64 100000)) v3 (.int .i64 100000)).bind fun v4 =>
some ([v4], r0.2)) (some ([undef], r0.2))).bind fun q5 =>
(apick v2 (.bool true) (getL q5.1 0)).bind fun v6 =>
(guardV v6 false ((abin Try.prog .eql 5 (.tmp 19) (.const (.int .u8 0)) x2 (.int .u8 0)).bind fun v7 =>
some ([v7], q5.2)) (some ([undef], q5.2))).bind fun q8 =>
(apick v6 (.bool true) (getL q8.1 0)).bind fun v9 =>
condV v9
 (retV [r0.1] q8.2)
 ((aappend 1 1 (.slice none 0 0) x0 q8.2).bind fun r10 =>
(alenV (.slice 5) x0 r10.2).bind fun v11 =>
(abin Try.prog .rem 3 (.tmp 26) (.tmp 28) x1 v11).bind fun v12 =>
(alenV (.slice 5) x0 r10.2).bind fun v13 =>
(abin Try.prog .add 3 (.tmp 29) (.tmp 31) v12 v13).bind fun v14 =>
(alenV (.slice 5) x0 r10.2).bind fun v15 =>
(abin Try.prog .rem 3 (.tmp 32) (.tmp 34) v14 v15).bind fun v16 =>
(aindexS 1 r10.1 v16).bind fun v17 =>
(aload false 1 v17 r10.2).bind fun v18 =>
(abin Try.prog .xor 5 (.tmp 37) (.tmp 38) v18 x2).bind fun v19 =>
(aindexS 1 r10.1 v16).bind fun v20 =>
(astore 1 v20 v19 r10.2).bind fun s21 =>
(guardV r0.1 true ((callV Try.prog R (.func (.func 17) #[] #[]) [x0] s21).bind fun r22 =>
(callV Try.prog R (.func (.func 17) #[] #[]) [r10.1] r22.2).bind fun r23 =>
(abin Try.prog .neq 30 (.tmp 44) (.tmp 46) r22.1 r23.1).bind fun v24 =>
some ([v24], r23.2)) (some ([undef], s21))).bind fun q25 =>
(apick r0.1 (getL q25.1 0) (.bool false)).bind fun v26 =>
retV [v26] q25.2)

theorem law01_OctetParts_of {lib : Lib} (hl : lib 7 = none) {x0 x1 x2 : Value} {s : St} {r : Value × St} (h : law01_OctetParts (run Try.prog lib hints) x0 x1 x2 s = some r) : run Try.prog lib hints 7 [x0, x1, x2] s = some r :=
  run_of hl Try.func7 (Eq.trans (by kernel_rfl) h)

theorem law01_OctetParts_ok : funcOk Try.prog 7 = true := by kernel_rfl
theorem law01_OctetParts_call {R : Caller} {xs : List Value} {s : St} : callV Try.prog R (.func (.func 7) #[] #[]) xs s = R 7 xs s := callV_eq law01_OctetParts_ok

/-! ### sumpter/sumpterlaw01.OctetTexts: 8 -/

noncomputable def law01_OctetTexts.b11 (R : Caller) (T : List Value) (s : St) : Res :=
(abin Try.prog .lss 3 (.tmp 35) (.tmp 34) (getL T 10) (getL T 9)).bind fun v12 =>
condV v12
 ((aindexS 1 (getL T 2) (getL T 10)).bind fun v13 =>
(aload false 1 v13 s).bind fun v14 =>
(abin Try.prog .add 5 (.tmp 41) (.const (.int .u8 1)) v14 (.int .u8 1)).bind fun v15 =>
(aindexS 1 (getL T 2) (getL T 10)).bind fun v16 =>
(astore 1 v16 v15 s).bind fun s17 =>
(abin Try.prog .add 3 (.tmp 35) (.const (.int .i64 1)) (getL T 10) (.int .i64 1)).bind fun v18 =>
some (.normal, [(getL T 0), (getL T 1), (getL T 2), (getL T 3), (getL T 4), (getL T 5), (getL T 6), (getL T 7), (getL T 8), (getL T 9), v18], s17))
 (some (.exit 0, [(getL T 0), (getL T 1), (getL T 3), (getL T 4), (getL T 5), (getL T 6), (getL T 7), (getL T 8)], s))

noncomputable def law01_OctetTexts (R : Caller) (x0 x1 x2 : Value) (s : St) : Option (Value × St) :=
(callV Try.prog R (.func (.func 12) #[] #[]) [] s).bind fun r0 =>
(aappend 1 1 (.slice none 0 0) x1 r0.2).bind fun r1 =>
(callV Try.prog R (.func (.func 19) #[] #[]) [r1.1, x2] r1.2).bind fun r2 =>
(aextract 0 r2.1).bind fun v3 =>
(aextract 1 r2.1).bind fun v4 =>
(aextract 2 r2.1).bind fun v5 =>
(callV Try.prog R (.func (.func 20) #[] #[]) [x1, x2] r2.2).bind fun r6 =>
(aextract 0 r6.1).bind fun v7 =>
(aextract 1 r6.1).bind fun v8 =>
(aextract 2 r6.1).bind fun v9 =>
(alenV (.slice 5) r1.1 r6.2).bind fun v10 =>
(loopL (law01_OctetTexts.b11 R) [x0, r0.1, r1.1, v3, v4, v5, v7, v8, v9, v10, (.int .i64 0)] r6.2).bind fun r19 =>
exV r19.1 [(0, (guardV (getL r19.2.1 1) true (some ([(getL r19.2.1 0)], r19.2.2)) (some ([undef], r19.2.2))).bind fun q20 =>
((guardV (getL r19.2.1 1) true ((alenV .string (getL q20.1 0) q20.2).bind fun v55 =>
some (v55, q20.2)) (some (undef, q20.2))).bind (ownR q20.2)).bind fun r21 =>
(guardV (getL r19.2.1 1) true ((abin Try.prog .gtr 3 (.tmp 48) (.const (.int .i64 100000)) r21.1 (.int .i64 100000)).bind fun v22 =>
some ([v22], r21.2)) (some ([undef], r21.2))).bind fun q23 =>
(guardV (getL r19.2.1 1) true (some ([(getL q23.1 0)], q23.2)) (some ([undef], q23.2))).bind fun q24 =>
(guardV (getL q24.1 0) false (some ([(getL r19.2.1 0)], q24.2)) (some ([undef], q24.2))).bind fun q25 =>
((guardV (getL q24.1 0) false ((callV Try.prog R (.func (.func 21) #[] #[]) [(getL q25.1 0)] q25.2).bind fun r54 =>
some (r54.1, r54.2)) (some (undef, q25.2))).bind (ownR q25.2)).bind fun r26 =>
(guardV (getL q24.1 0) false ((abytesToStr r26.1 (frzS r26.2)).bind fun v53 =>
some (v53, (frzS r26.2))) (some (undef, (frzS r26.2)))).bind fun r27 =>
(guardV (getL q24.1 0) false (some ([(getL r19.2.1 0)], r26.2)) (some ([undef], r26.2))).bind fun q28 =>
((guardV (getL q24.1 0) false ((callV Try.prog R (.func (.func 22) #[] #[]) [(getL q28.1 0)] (frzS q28.2)).bind fun r52 =>
some (r52.1, r52.2)) (some (undef, (frzS q28.2)))).map (quietR q28.2)).bind fun r29 =>
(guardV (getL q24.1 0) false ((abytesToStr r29.1 (frzS r29.2)).bind fun v51 =>
some (v51, (frzS r29.2))) (some (undef, (frzS r29.2)))).bind fun r30 =>
(guardV (getL q24.1 0) false ((abin Try.prog .eql 9 (.tmp 53) (.tmp 56) r27.1 r30.1).bind fun v31 =>
some ([v31], r29.2)) (some ([undef], r29.2))).bind fun q32 =>
(guardV (getL r19.2.1 1) true ((apick (getL q24.1 0) (.bool true) (getL q32.1 0)).bind fun v33 =>
some ([v33], q32.2)) (some ([undef], q32.2))).bind fun q34 =>
(apick (getL r19.2.1 1) (getL q34.1 0) (.bool false)).bind fun v35 =>
(guardV v35 true (some ([(getL r19.2.1 2)], q34.2)) (some ([undef], q34.2))).bind fun q36 =>
(guardV v35 true (some ([(getL r19.2.1 5)], q36.2)) (some ([undef], q36.2))).bind fun q37 =>
(guardV v35 true ((abin Try.prog .eql 9 (.tmp 61) (.tmp 62) (getL q36.1 0) (getL q37.1 0)).bind fun v38 =>
some ([v38], q37.2)) (some ([undef], q37.2))).bind fun q39 =>
(apick v35 (getL q39.1 0) (.bool false)).bind fun v40 =>
(guardV v40 true (some ([(getL r19.2.1 3)], q39.2)) (some ([undef], q39.2))).bind fun q41 =>
(guardV v40 true (some ([(getL r19.2.1 6)], q41.2)) (some ([undef], q41.2))).bind fun q42 =>
(guardV v40 true ((abin Try.prog .eql 3 (.tmp 66) (.tmp 67) (getL q41.1 0) (getL q42.1 0)).bind fun v43 =>
some ([v43], q42.2)) (some ([undef], q42.2))).bind fun q44 =>
(apick v40 (getL q44.1 0) (.bool false)).bind fun v45 =>
(guardV v45 true (some ([(getL r19.2.1 4)], q44.2)) (some ([undef], q44.2))).bind fun q46 =>
(guardV v45 true (some ([(getL r19.2.1 7)], q46.2)) (some ([undef], q46.2))).bind fun q47 =>
(guardV v45 true ((abin Try.prog .eql 25 (.tmp 71) (.tmp 72) (getL q46.1 0) (getL q47.1 0)).bind fun v48 =>
some ([v48], q47.2)) (some ([undef], q47.2))).bind fun q49 =>
(apick v45 (getL q49.1 0) (.bool false)).bind fun v50 =>
retV [v50] q49.2)]
 (none)

theorem law01_OctetTexts_of {lib : Lib} (hl : lib 8 = none) {x0 x1 x2 : Value} {s : St} {r : Value × St} (h : law01_OctetTexts (run Try.prog lib hints) x0 x1 x2 s = some r) : run Try.prog lib hints 8 [x0, x1, x2] s = some r :=
  run_of hl Try.func8 (Eq.trans (by kernel_rfl) h)

theorem law01_OctetTexts_ok : funcOk Try.prog 8 = true := by kernel_rfl
theorem law01_OctetTexts_call {R : Caller} {xs : List Value} {s : St} : callV Try.prog R (.func (.func 8) #[] #[]) xs s = R 8 xs s := callV_eq law01_OctetTexts_ok

/-! ### sumpter/sumpterlaw01.OctetBack: 9 -/

noncomputable def law01_OctetBack (R : Caller) (x0 x1 x2 : Value) (s : St) : Option (Value × St) :=
(callV Try.prog R (.func (.func 12) #[] #[]) [] s).bind fun r0 =>
(alenV .string x1 r0.2).bind fun v1 =>
(abin Try.prog .gtr 3 (.tmp 22) (.const (.int .i64 100000)) v1 (.int .i64 100000)).bind fun v2 =>
condV v2
 (retV [r0.1] r0.2)
 ((callV Try.prog R (.func (.func 15) #[] #[]) [x0] r0.2).bind fun r3 =>
(aappend 1 1 r3.1 x2 r3.2).bind fun r4 =>
(callV Try.prog R (.func (.func 13) #[] #[]) [r4.1] r4.2).bind fun r5 =>
(aextract 0 r5.1).bind fun v6 =>
(aextract 1 r5.1).bind fun v7 =>
(aextract 2 r5.1).bind fun v8 =>
(callV Try.prog R (.func (.func 21) #[] #[]) [x1] r5.2).bind fun r9 =>
(aappend 1 1 r9.1 x2 r9.2).bind fun r10 =>
(alenV .string x1 r10.2).bind fun v11 =>
(callV Try.prog R (.func (.func 19) #[] #[]) [r10.1, v11] r10.2).bind fun r12 =>
(aextract 0 r12.1).bind fun v13 =>
(aextract 1 r12.1).bind fun v14 =>
(aextract 2 r12.1).bind fun v15 =>
(abin Try.prog .neq 25 (.tmp 45) (.const (.int .i64 0)) v8 (.int .i64 0)).bind fun v16 =>
(guardV v16 false ((abin Try.prog .neq 22 (.tmp 48) (.tmp 49) v6 x0).bind fun v17 =>
some ([v17], r12.2)) (some ([undef], r12.2))).bind fun q18 =>
(apick v16 (.bool true) (getL q18.1 0)).bind fun v19 =>
(guardV v19 false ((callV Try.prog R (.func (.func 15) #[] #[]) [x0] q18.2).bind fun r20 =>
(alenV (.slice 5) r20.1 r20.2).bind fun v21 =>
(abin Try.prog .neq 3 (.tmp 53) (.tmp 56) v7 v21).bind fun v22 =>
some ([v22], r20.2)) (some ([undef], q18.2))).bind fun q23 =>
(apick v19 (.bool true) (getL q23.1 0)).bind fun v24 =>
(guardV v24 false ((abin Try.prog .neq 25 (.tmp 60) (.const (.int .i64 0)) v15 (.int .i64 0)).bind fun v25 =>
some ([v25], q23.2)) (some ([undef], q23.2))).bind fun q26 =>
(apick v24 (.bool true) (getL q26.1 0)).bind fun v27 =>
(guardV v27 false ((abin Try.prog .neq 9 (.tmp 64) (.tmp 65) v13 x1).bind fun v28 =>
some ([v28], q26.2)) (some ([undef], q26.2))).bind fun q29 =>
(apick v27 (.bool true) (getL q29.1 0)).bind fun v30 =>
(guardV v30 false ((callV Try.prog R (.func (.func 21) #[] #[]) [x1] q29.2).bind fun r31 =>
(alenV (.slice 5) r31.1 r31.2).bind fun v32 =>
(abin Try.prog .neq 3 (.tmp 69) (.tmp 72) v14 v32).bind fun v33 =>
some ([v33], r31.2)) (some ([undef], q29.2))).bind fun q34 =>
(apick v30 (.bool true) (getL q34.1 0)).bind fun v35 =>
condV v35
 (retV [(.bool false)] q34.2)
 ((callV Try.prog R (.func (.func 21) #[] #[]) [x1] q34.2).bind fun r36 =>
(alenV .string x1 r36.2).bind fun v37 =>
(abin Try.prog .sub 3 (.tmp 79) (.const (.int .i64 1)) v37 (.int .i64 1)).bind fun v38 =>
(callV Try.prog R (.func (.func 19) #[] #[]) [r36.1, v38] r36.2).bind fun r39 =>
(aextract 0 r39.1).bind fun v40 =>
(aextract 1 r39.1).bind fun v41 =>
(aextract 2 r39.1).bind fun v42 =>
(callV Try.prog R (.func (.func 13) #[] #[]) [x2] r39.2).bind fun r43 =>
(aextract 0 r43.1).bind fun v44 =>
(aextract 1 r43.1).bind fun v45 =>
(aextract 2 r43.1).bind fun v46 =>
(guardV r0.1 true (some ([v42], r43.2)) (some ([undef], r43.2))).bind fun q47 =>
(guardV r0.1 true ((abin Try.prog .eql 25 (.tmp 93) (.const (.int .i64 2)) (getL q47.1 0) (.int .i64 2)).bind fun v48 =>
some ([v48], q47.2)) (some ([undef], q47.2))).bind fun q49 =>
(apick r0.1 (getL q49.1 0) (.bool false)).bind fun v50 =>
(guardV v50 true (some ([v46], q49.2)) (some ([undef], q49.2))).bind fun q51 =>
(guardV v50 true ((abin Try.prog .neq 25 (.tmp 97) (.const (.int .i64 0)) (getL q51.1 0) (.int .i64 0)).bind fun v52 =>
some ([v52], q51.2)) (some ([undef], q51.2))).bind fun q53 =>
(guardV v50 true (some ([(getL q53.1 0)], q53.2)) (some ([undef], q53.2))).bind fun q54 =>
(guardV (getL q54.1 0) false (some ([v44], q54.2)) (some ([undef], q54.2))).bind fun q55 =>
((guardV (getL q54.1 0) false ((callV Try.prog R (.func (.func 15) #[] #[]) [(getL q55.1 0)] (frzS q55.2)).bind fun r70 =>
some (r70.1, r70.2)) (some (undef, (frzS q55.2)))).map (quietR q55.2)).bind fun r56 =>
(guardV (getL q54.1 0) false ((abytesToStr r56.1 (frzS r56.2)).bind fun v69 =>
some (v69, (frzS r56.2))) (some (undef, (frzS r56.2)))).bind fun r57 =>
(guardV (getL q54.1 0) false (some ([x2], r56.2)) (some ([undef], r56.2))).bind fun q58 =>
(guardV (getL q54.1 0) false (some ([v45], q58.2)) (some ([undef], q58.2))).bind fun q59 =>
(guardV (getL q54.1 0) false ((asliceV 1 (getL q58.1 0) none (some (getL q59.1 0)) none).bind fun v60 =>
some ([v60], q59.2)) (some ([undef], q59.2))).bind fun q61 =>
(guardV (getL q54.1 0) false ((abytesToStr (getL q61.1 0) (frzS q61.2)).bind fun v68 =>
some (v68, (frzS q61.2))) (some (undef, (frzS q61.2)))).bind fun r62 =>
(guardV (getL q54.1 0) false ((abin Try.prog .eql 9 (.tmp 102) (.tmp 106) r57.1 r62.1).bind fun v63 =>
some ([v63], q61.2)) (some ([undef], q61.2))).bind fun q64 =>
(guardV v50 true ((apick (getL q54.1 0) (.bool true) (getL q64.1 0)).bind fun v65 =>
some ([v65], q64.2)) (some ([undef], q64.2))).bind fun q66 =>
(apick v50 (getL q66.1 0) (.bool false)).bind fun v67 =>
retV [v67] q66.2))

theorem law01_OctetBack_of {lib : Lib} (hl : lib 9 = none) {x0 x1 x2 : Value} {s : St} {r : Value × St} (h : law01_OctetBack (run Try.prog lib hints) x0 x1 x2 s = some r) : run Try.prog lib hints 9 [x0, x1, x2] s = some r :=
  run_of hl Try.func9 (Eq.trans (by kernel_rfl) h)

theorem law01_OctetBack_ok : funcOk Try.prog 9 = true := by kernel_rfl
theorem law01_OctetBack_call {R : Caller} {xs : List Value} {s : St} : callV Try.prog R (.func (.func 9) #[] #[]) xs s = R 9 xs s := callV_eq law01_OctetBack_ok

/-! ### sumpter/sumpterlaw01.OctetFixed: 10 -/

noncomputable def law01_OctetFixed (R : Caller) (x0 x1 : Value) (s : St) : Option (Value × St) :=
(callV Try.prog R (.func (.func 12) #[] #[]) [] s).bind fun r0 =>
(callV Try.prog R (.func (.func 23) #[] #[]) [x1] r0.2).bind fun r1 =>
(aextract 0 r1.1).bind fun v2 =>
(aextract 1 r1.1).bind fun v3 =>
(callV Try.prog R (.func (.func 24) #[] #[]) [x1] r1.2).bind fun r4 =>
(aextract 0 r4.1).bind fun v5 =>
(aextract 1 r4.1).bind fun v6 =>
(guardV r0.1 true ((callV Try.prog R (.func (.func 25) #[] #[]) [x0] r4.2).bind fun r7 =>
(callV Try.prog R (.func (.func 26) #[] #[]) [x0] r7.2).bind fun r8 =>
(abin Try.prog .eql 43 (.tmp 24) (.tmp 26) r7.1 r8.1).bind fun v9 =>
some ([v9], r8.2)) (some ([undef], r4.2))).bind fun q10 =>
(apick r0.1 (getL q10.1 0) (.bool false)).bind fun v11 =>
(guardV v11 true ((abin Try.prog .eql 30 (.tmp 30) (.tmp 31) v2 v5).bind fun v12 =>
some ([v12], q10.2)) (some ([undef], q10.2))).bind fun q13 =>
(apick v11 (getL q13.1 0) (.bool false)).bind fun v14 =>
(guardV v14 true ((abin Try.prog .eql 25 (.tmp 35) (.tmp 36) v3 v6).bind fun v15 =>
some ([v15], q13.2)) (some ([undef], q13.2))).bind fun q16 =>
(apick v14 (getL q16.1 0) (.bool false)).bind fun v17 =>
retV [v17] q16.2

theorem law01_OctetFixed_of {lib : Lib} (hl : lib 10 = none) {x0 x1 : Value} {s : St} {r : Value × St} (h : law01_OctetFixed (run Try.prog lib hints) x0 x1 s = some r) : run Try.prog lib hints 10 [x0, x1] s = some r :=
  run_of hl Try.func10 (Eq.trans (by kernel_rfl) h)

theorem law01_OctetFixed_ok : funcOk Try.prog 10 = true := by kernel_rfl
theorem law01_OctetFixed_call {R : Caller} {xs : List Value} {s : St} : callV Try.prog R (.func (.func 10) #[] #[]) xs s = R 10 xs s := callV_eq law01_OctetFixed_ok

/-! ### sumpter/sumpterlaw01.OctetCuts: 11 -/

noncomputable def law01_OctetCuts (R : Caller) (x0 x1 : Value) (s : St) : Option (Value × St) :=
(callV Try.prog R (.func (.func 12) #[] #[]) [] s).bind fun r0 =>
(alenV .string x1 r0.2).bind fun v1 =>
(abin Try.prog .gtr 3 (.tmp 19) (.const (.int .i64 10000)) v1 (.int .i64 10000)).bind fun v2 =>
condV v2
 (retV [r0.1] r0.2)
 ((callV Try.prog R (.func (.func 15) #[] #[]) [x0] r0.2).bind fun r3 =>
(callV Try.prog R (.func (.func 21) #[] #[]) [x1] r3.2).bind fun r4 =>
(convInt .u32 x0).bind fun v5 =>
(callV Try.prog R (.func (.func 25) #[] #[]) [v5] r4.2).bind fun r6 =>
(anew [(.int .u8 0), (.int .u8 0), (.int .u8 0), (.int .u8 0)] r6.2).bind fun r7 =>
(astore 4 r7.1 r6.1 r7.2).bind fun s8 =>
(alenV (.slice 5) r3.1 s8).bind fun v9 =>
(abin Try.prog .eql 3 (.tmp 30) (.const (.int .i64 0)) v9 (.int .i64 0)).bind fun v10 =>
(guardV v10 false ((alenV (.slice 5) r4.1 s8).bind fun v11 =>
(abin Try.prog .eql 3 (.tmp 34) (.const (.int .i64 0)) v11 (.int .i64 0)).bind fun v12 =>
some ([v12], s8)) (some ([undef], s8))).bind fun q13 =>
(apick v10 (.bool true) (getL q13.1 0)).bind fun v14 =>
condV v14
 (retV [(.bool false)] q13.2)
 ((alenV (.slice 5) r3.1 q13.2).bind fun v15 =>
(abin Try.prog .sub 3 (.tmp 40) (.const (.int .i64 1)) v15 (.int .i64 1)).bind fun v16 =>
(asliceV 1 r3.1 none (some v16) none).bind fun v17 =>
(callV Try.prog R (.func (.func 13) #[] #[]) [v17] q13.2).bind fun r18 =>
(aextract 0 r18.1).bind fun v19 =>
(aextract 1 r18.1).bind fun v20 =>
(aextract 2 r18.1).bind fun v21 =>
(alenV (.slice 5) r4.1 r18.2).bind fun v22 =>
(abin Try.prog .sub 3 (.tmp 50) (.const (.int .i64 1)) v22 (.int .i64 1)).bind fun v23 =>
(asliceV 1 r4.1 none (some v23) none).bind fun v24 =>
(alenV .string x1 r18.2).bind fun v25 =>
(callV Try.prog R (.func (.func 19) #[] #[]) [v24, v25] r18.2).bind fun r26 =>
(aextract 0 r26.1).bind fun v27 =>
(aextract 1 r26.1).bind fun v28 =>
(aextract 2 r26.1).bind fun v29 =>
(asliceArr 4 1 r7.1 none (some (.int .i64 3)) none r26.2).bind fun v30 =>
(callV Try.prog R (.func (.func 23) #[] #[]) [v30] r26.2).bind fun r31 =>
(aextract 0 r31.1).bind fun v32 =>
(aextract 1 r31.1).bind fun v33 =>
(guardV r0.1 true ((abin Try.prog .eql 25 (.tmp 66) (.const (.int .i64 10)) v21 (.int .i64 10)).bind fun v34 =>
some ([v34], r31.2)) (some ([undef], r31.2))).bind fun q35 =>
(apick r0.1 (getL q35.1 0) (.bool false)).bind fun v36 =>
(guardV v36 true ((abin Try.prog .eql 25 (.tmp 70) (.const (.int .i64 10)) v29 (.int .i64 10)).bind fun v37 =>
some ([v37], q35.2)) (some ([undef], q35.2))).bind fun q38 =>
(apick v36 (getL q38.1 0) (.bool false)).bind fun v39 =>
(guardV v39 true ((abin Try.prog .eql 25 (.tmp 74) (.const (.int .i64 10)) v33 (.int .i64 10)).bind fun v40 =>
some ([v40], q38.2)) (some ([undef], q38.2))).bind fun q41 =>
(apick v39 (getL q41.1 0) (.bool false)).bind fun v42 =>
retV [v42] q41.2))

theorem law01_OctetCuts_of {lib : Lib} (hl : lib 11 = none) {x0 x1 : Value} {s : St} {r : Value × St} (h : law01_OctetCuts (run Try.prog lib hints) x0 x1 s = some r) : run Try.prog lib hints 11 [x0, x1] s = some r :=
  run_of hl Try.func11 (Eq.trans (by kernel_rfl) h)

theorem law01_OctetCuts_ok : funcOk Try.prog 11 = true := by kernel_rfl
theorem law01_OctetCuts_call {R : Caller} {xs : List Value} {s : St} : callV Try.prog R (.func (.func 11) #[] #[]) xs s = R 11 xs s := callV_eq law01_OctetCuts_ok

/-! ### sumpter/sumpterlaw01.live: 12 -/

noncomputable def law01_live (R : Caller) (s : St) : Option (Value × St) :=
(abuildSl 1 [(.int .u8 0)] 3 [(0, (.int .u8 172)), (1, (.int .u8 2)), (2, (.int .u8 7))] s).bind fun r0 =>
(callV Try.prog R (.func (.func 13) #[] #[]) [r0.1] r0.2).bind fun r1 =>
(aextract 0 r1.1).bind fun v2 =>
(aextract 1 r1.1).bind fun v3 =>
(aextract 2 r1.1).bind fun v4 =>
(abuildSl 1 [(.int .u8 0)] 1 [(0, (.int .u8 128))] r1.2).bind fun r5 =>
(callV Try.prog R (.func (.func 13) #[] #[]) [r5.1] r5.2).bind fun r6 =>
(aextract 0 r6.1).bind fun v7 =>
(aextract 1 r6.1).bind fun v8 =>
(aextract 2 r6.1).bind fun v9 =>
(abuildSl 1 [(.int .u8 0)] 2 [(0, (.int .u8 128)), (1, (.int .u8 0))] r6.2).bind fun r10 =>
(callV Try.prog R (.func (.func 13) #[] #[]) [r10.1] r10.2).bind fun r11 =>
(aextract 0 r11.1).bind fun v12 =>
(aextract 1 r11.1).bind fun v13 =>
(aextract 2 r11.1).bind fun v14 =>
(abuildSl 1 [(.int .u8 0)] 4 [(0, (.int .u8 2)), (1, (.int .u8 97)), (2, (.int .u8 98)), (3, (.int .u8 9))] r11.2).bind fun r15 =>
(callV Try.prog R (.func (.func 19) #[] #[]) [r15.1, (.int .i64 5)] r15.2).bind fun r16 =>
(aextract 0 r16.1).bind fun v17 =>
(aextract 1 r16.1).bind fun v18 =>
(aextract 2 r16.1).bind fun v19 =>
(callV Try.prog R (.func (.func 15) #[] #[]) [(.int .u64 300)] r16.2).bind fun r20 =>
(abytesToStr r20.1 r20.2).bind fun v21 =>
(abin Try.prog .eql 9 (.tmp 38) (.const (.string ⟨#[172, 2]⟩)) v21 (.string ⟨#[172, 2]⟩)).bind fun v22 =>
(guardV v22 true ((abin Try.prog .eql 22 (.tmp 41) (.const (.int .u64 300)) v2 (.int .u64 300)).bind fun v23 =>
some ([v23], r20.2)) (some ([undef], r20.2))).bind fun q24 =>
(apick v22 (getL q24.1 0) (.bool false)).bind fun v25 =>
(guardV v25 true ((abin Try.prog .eql 3 (.tmp 45) (.const (.int .i64 2)) v3 (.int .i64 2)).bind fun v26 =>
some ([v26], q24.2)) (some ([undef], q24.2))).bind fun q27 =>
(apick v25 (getL q27.1 0) (.bool false)).bind fun v28 =>
(guardV v28 true ((abin Try.prog .eql 25 (.tmp 49) (.const (.int .i64 0)) v4 (.int .i64 0)).bind fun v29 =>
some ([v29], q27.2)) (some ([undef], q27.2))).bind fun q30 =>
(apick v28 (getL q30.1 0) (.bool false)).bind fun v31 =>
(guardV v31 true ((abin Try.prog .eql 25 (.tmp 53) (.const (.int .i64 10)) v9 (.int .i64 10)).bind fun v32 =>
some ([v32], q30.2)) (some ([undef], q30.2))).bind fun q33 =>
(apick v31 (getL q33.1 0) (.bool false)).bind fun v34 =>
(guardV v34 true ((abin Try.prog .eql 25 (.tmp 57) (.const (.int .i64 11)) v14 (.int .i64 11)).bind fun v35 =>
some ([v35], q33.2)) (some ([undef], q33.2))).bind fun q36 =>
(apick v34 (getL q36.1 0) (.bool false)).bind fun v37 =>
(guardV v37 true ((abin Try.prog .eql 9 (.tmp 61) (.const (.string ⟨#[97, 98]⟩)) v17 (.string ⟨#[97, 98]⟩)).bind fun v38 =>
some ([v38], q36.2)) (some ([undef], q36.2))).bind fun q39 =>
(apick v37 (getL q39.1 0) (.bool false)).bind fun v40 =>
(guardV v40 true ((abin Try.prog .eql 3 (.tmp 65) (.const (.int .i64 3)) v18 (.int .i64 3)).bind fun v41 =>
some ([v41], q39.2)) (some ([undef], q39.2))).bind fun q42 =>
(apick v40 (getL q42.1 0) (.bool false)).bind fun v43 =>
(guardV v43 true ((abin Try.prog .eql 25 (.tmp 69) (.const (.int .i64 0)) v19 (.int .i64 0)).bind fun v44 =>
some ([v44], q42.2)) (some ([undef], q42.2))).bind fun q45 =>
(apick v43 (getL q45.1 0) (.bool false)).bind fun v46 =>
(guardV v46 true ((abuildSl 1 [(.int .u8 0)] 9 [(0, (.int .u8 49)), (1, (.int .u8 50)), (2, (.int .u8 51)), (3, (.int .u8 52)), (4, (.int .u8 53)), (5, (.int .u8 54)), (6, (.int .u8 55)), (7, (.int .u8 56)), (8, (.int .u8 57))] q45.2).bind fun r47 =>
(convSl r47.1 r47.2).bind fun v48 =>
(callV Try.prog R (.func (.func 17) #[] #[]) [v48] r47.2).bind fun r49 =>
(abin Try.prog .eql 30 (.tmp 75) (.const (.int .u32 3421780262)) r49.1 (.int .u32 3421780262)).bind fun v50 =>
some ([v50], r49.2)) (some ([undef], q45.2))).bind fun q51 =>
(apick v46 (getL q51.1 0) (.bool false)).bind fun v52 =>
retV [v52] q51.2

theorem law01_live_of {lib : Lib} (hl : lib 12 = none) {s : St} {r : Value × St} (h : law01_live (run Try.prog lib hints)  s = some r) : run Try.prog lib hints 12 [] s = some r :=
  run_of hl Try.func12 (Eq.trans (by kernel_rfl) h)

theorem law01_live_ok : funcOk Try.prog 12 = true := by kernel_rfl
theorem law01_live_call {R : Caller} {xs : List Value} {s : St} : callV Try.prog R (.func (.func 12) #[] #[]) xs s = R 12 xs s := callV_eq law01_live_ok

/-! ### sumpter/octet.ReadNum: 13 -/

noncomputable def octet_ReadNum.b1 (R : Caller) (T : List Value) (s : St) : Res :=
(abin Try.prog .lss 3 (.tmp 10) (.tmp 9) (getL T 3) (getL T 2)).bind fun v2 =>
condV v2
 ((aindexS 1 (getL T 1) (getL T 3)).bind fun v3 =>
(aload false 1 v3 s).bind fun v4 =>
(abin Try.prog .eql 3 (.tmp 15) (.const (.int .i64 9)) (getL T 3) (.int .i64 9)).bind fun v5 =>
(guardV v5 true ((abin Try.prog .gtr 5 (.tmp 18) (.const (.int .u8 1)) v4 (.int .u8 1)).bind fun v6 =>
some ([v6], s)) (some ([undef], s))).bind fun q7 =>
(apick v5 (getL q7.1 0) (.bool false)).bind fun v8 =>
condV v8
 (some (.ret, [(.int .u64 0), (.int .i64 0), (.int .i64 11)], q7.2))
 ((abin Try.prog .and 5 (.tmp 22) (.const (.int .u8 127)) v4 (.int .u8 127)).bind fun v9 =>
(convInt .u64 v9).bind fun v10 =>
(abin Try.prog .mul 3 (.const (.int .i64 7)) (.tmp 25) (.int .i64 7) (getL T 3)).bind fun v11 =>
(abin Try.prog .shl 22 (.tmp 24) (.tmp 26) v10 v11).bind fun v12 =>
(abin Try.prog .or 22 (.tmp 21) (.tmp 27) (getL T 0) v12).bind fun v13 =>
(abin Try.prog .lss 5 (.tmp 29) (.const (.int .u8 128)) v4 (.int .u8 128)).bind fun v14 =>
condV v14
 ((abin Try.prog .eql 5 (.tmp 31) (.const (.int .u8 0)) v4 (.int .u8 0)).bind fun v15 =>
(guardV v15 true ((abin Try.prog .gtr 3 (.tmp 34) (.const (.int .i64 0)) (getL T 3) (.int .i64 0)).bind fun v16 =>
some ([v16], q7.2)) (some ([undef], q7.2))).bind fun q17 =>
(apick v15 (getL q17.1 0) (.bool false)).bind fun v18 =>
condV v18
 (some (.ret, [(.int .u64 0), (.int .i64 0), (.int .i64 11)], q17.2))
 ((abin Try.prog .add 3 (.tmp 38) (.const (.int .i64 1)) (getL T 3) (.int .i64 1)).bind fun v19 =>
some (.ret, [v13, v19, (.int .i64 0)], q17.2)))
 ((abin Try.prog .add 3 (.tmp 10) (.const (.int .i64 1)) (getL T 3) (.int .i64 1)).bind fun v20 =>
some (.normal, [v13, (getL T 1), (getL T 2), v20], q7.2))))
 (some (.exit 0, [], s))

noncomputable def octet_ReadNum (R : Caller) (x0 : Value) (s : St) : Option (Value × St) :=
(alenV (.slice 5) x0 s).bind fun v0 =>
(loopL (octet_ReadNum.b1 R) [(.int .u64 0), x0, v0, (.int .i64 0)] s).bind fun r21 =>
exV r21.1 [(0, retV [(.int .u64 0), (.int .i64 0), (.int .i64 10)] r21.2.2)]
 (retV [(getL r21.2.1 0), (getL r21.2.1 1), (getL r21.2.1 2)] r21.2.2)

theorem octet_ReadNum_of {lib : Lib} (hl : lib 13 = none) {x0 : Value} {s : St} {r : Value × St} (h : octet_ReadNum (run Try.prog lib hints) x0 s = some r) : run Try.prog lib hints 13 [x0] s = some r :=
  run_of hl Try.func13 (Eq.trans (by kernel_rfl) h)

theorem octet_ReadNum_ok : funcOk Try.prog 13 = true := by kernel_rfl
theorem octet_ReadNum_call {R : Caller} {xs : List Value} {s : St} : callV Try.prog R (.func (.func 13) #[] #[]) xs s = R 13 xs s := callV_eq octet_ReadNum_ok

/-! ### sumpter/sumpterref01.ReadNum: 14 -/

noncomputable def ref01_ReadNum.b10 (R : Caller) (T : List Value) (s : St) : Res :=
(abin Try.prog .geq 3 (.tmp 24) (.const (.int .i64 0)) (getL T 3) (.int .i64 0)).bind fun v11 =>
condV v11
 ((abin Try.prog .mul 22 (.tmp 28) (.const (.int .u64 128)) (getL T 2) (.int .u64 128)).bind fun v12 =>
(aindexS 1 (getL T 0) (getL T 3)).bind fun v13 =>
(aload false 1 v13 s).bind fun v14 =>
(abin Try.prog .rem 5 (.tmp 33) (.const (.int .u8 128)) v14 (.int .u8 128)).bind fun v15 =>
(convInt .u64 v15).bind fun v16 =>
(abin Try.prog .add 22 (.tmp 29) (.tmp 35) v12 v16).bind fun v17 =>
(abin Try.prog .sub 3 (.tmp 26) (.const (.int .i64 1)) (getL T 3) (.int .i64 1)).bind fun v18 =>
some (.normal, [(getL T 0), (getL T 1), v17, v18], s))
 (some (.exit 2, [(getL T 0), (getL T 1), (getL T 2)], s))

noncomputable def ref01_ReadNum.b0 (R : Caller) (T : List Value) (s : St) : Res :=
(alenV (.slice 5) (getL T 0) s).bind fun v1 =>
(abin Try.prog .lss 3 (.tmp 8) (.tmp 10) (getL T 1) v1).bind fun v2 =>
(guardV v2 true ((abin Try.prog .lss 3 (.tmp 13) (.const (.int .i64 10)) (getL T 1) (.int .i64 10)).bind fun v3 =>
some ([v3], s)) (some ([undef], s))).bind fun q4 =>
(apick v2 (getL q4.1 0) (.bool false)).bind fun v5 =>
condV v5
 ((aindexS 1 (getL T 0) (getL T 1)).bind fun v6 =>
(aload false 1 v6 q4.2).bind fun v7 =>
(abin Try.prog .geq 5 (.tmp 21) (.const (.int .u8 128)) v7 (.int .u8 128)).bind fun v8 =>
condV v8
 ((abin Try.prog .add 3 (.tmp 16) (.const (.int .i64 1)) (getL T 1) (.int .i64 1)).bind fun v9 =>
some (.normal, [(getL T 0), v9], q4.2))
 ((loopL (ref01_ReadNum.b10 R) [(getL T 0), (getL T 1), (.int .u64 0), (getL T 1)] q4.2).bind fun r19 =>
exV r19.1 [(2, (((callV Try.prog R (.func (.func 16) #[] #[]) [(getL r19.2.1 2)] (frzS r19.2.2)).bind fun r29 =>
some (r29.1, r29.2)).map (quietR r19.2.2)).bind fun r20 =>
((abytesToStr r20.1 (frzS r20.2)).bind fun v28 =>
some (v28, (frzS r20.2))).bind fun r21 =>
(abin Try.prog .add 3 (.tmp 41) (.const (.int .i64 1)) (getL r19.2.1 1) (.int .i64 1)).bind fun v22 =>
(asliceV 1 (getL r19.2.1 0) none (some v22) none).bind fun v23 =>
((abytesToStr v23 (frzS r20.2)).bind fun v27 =>
some (v27, (frzS r20.2))).bind fun r24 =>
(abin Try.prog .neq 9 (.tmp 39) (.tmp 44) r21.1 r24.1).bind fun v25 =>
condV v25
 (some (.ret, [(.int .u64 0), (.int .i64 0), (.int .i64 11)], r20.2))
 ((abin Try.prog .add 3 (.tmp 47) (.const (.int .i64 1)) (getL r19.2.1 1) (.int .i64 1)).bind fun v26 =>
some (.ret, [(getL r19.2.1 2), v26, (.int .i64 0)], r20.2)))]
 (none)))
 (some (.exit 0, [(getL T 0)], q4.2))

noncomputable def ref01_ReadNum (R : Caller) (x0 : Value) (s : St) : Option (Value × St) :=
(loopL (ref01_ReadNum.b0 R) [x0, (.int .i64 0)] s).bind fun r30 =>
exV r30.1 [(0, (alenV (.slice 5) (getL r30.2.1 0) r30.2.2).bind fun v31 =>
(abin Try.prog .geq 3 (.tmp 50) (.const (.int .i64 10)) v31 (.int .i64 10)).bind fun v32 =>
condV v32
 (retV [(.int .u64 0), (.int .i64 0), (.int .i64 11)] r30.2.2)
 (retV [(.int .u64 0), (.int .i64 0), (.int .i64 10)] r30.2.2))]
 (retV [(getL r30.2.1 0), (getL r30.2.1 1), (getL r30.2.1 2)] r30.2.2)

theorem ref01_ReadNum_of {lib : Lib} (hl : lib 14 = none) {x0 : Value} {s : St} {r : Value × St} (h : ref01_ReadNum (run Try.prog lib hints) x0 s = some r) : run Try.prog lib hints 14 [x0] s = some r :=
  run_of hl Try.func14 (Eq.trans (by kernel_rfl) h)

theorem ref01_ReadNum_ok : funcOk Try.prog 14 = true := by kernel_rfl
theorem ref01_ReadNum_call {R : Caller} {xs : List Value} {s : St} : callV Try.prog R (.func (.func 14) #[] #[]) xs s = R 14 xs s := callV_eq ref01_ReadNum_ok

/-! ### sumpter/octet.Num: 15 -/

noncomputable def octet_Num.b0 (R : Caller) (T : List Value) (s : St) : Res :=
(abin Try.prog .geq 22 (.tmp 4) (.const (.int .u64 128)) (getL T 0) (.int .u64 128)).bind fun v1 =>
condV v1
 ((convInt .u8 (getL T 0)).bind fun v2 =>
(abin Try.prog .or 5 (.tmp 8) (.const (.int .u8 128)) v2 (.int .u8 128)).bind fun v3 =>
(abuildSl 1 [(.int .u8 0)] 1 [(0, v3)] s).bind fun r4 =>
(aappend 1 1 (getL T 1) r4.1 r4.2).bind fun r5 =>
(abin Try.prog .shr 22 (.tmp 12) (.const (.int .u64 7)) (getL T 0) (.int .u64 7)).bind fun v6 =>
some (.normal, [v6, r5.1], r5.2))
 (some (.exit 0, [(getL T 0), (getL T 1)], s))

noncomputable def octet_Num (R : Caller) (x0 : Value) (s : St) : Option (Value × St) :=
(loopL (octet_Num.b0 R) [x0, (.slice none 0 0)] s).bind fun r7 =>
exV r7.1 [(0, (convInt .u8 (getL r7.2.1 0)).bind fun v8 =>
(abuildSl 1 [(.int .u8 0)] 1 [(0, v8)] r7.2.2).bind fun r9 =>
(aappend 1 1 (getL r7.2.1 1) r9.1 r9.2).bind fun r10 =>
retV [r10.1] r10.2)]
 (none)

theorem octet_Num_of {lib : Lib} (hl : lib 15 = none) {x0 : Value} {s : St} {r : Value × St} (h : octet_Num (run Try.prog lib hints) x0 s = some r) : run Try.prog lib hints 15 [x0] s = some r :=
  run_of hl Try.func15 (Eq.trans (by kernel_rfl) h)

theorem octet_Num_ok : funcOk Try.prog 15 = true := by kernel_rfl
theorem octet_Num_call {R : Caller} {xs : List Value} {s : St} : callV Try.prog R (.func (.func 15) #[] #[]) xs s = R 15 xs s := callV_eq octet_Num_ok

/-! ### sumpter/sumpterref01.Num: 16 -/

noncomputable def ref01_Num (R : Caller) (x0 : Value) (s : St) : Option (Value × St) :=
(abin Try.prog .lss 22 (.tmp 3) (.const (.int .u64 128)) x0 (.int .u64 128)).bind fun v0 =>
condV v0
 ((convInt .u8 x0).bind fun v1 =>
(abuildSl 1 [(.int .u8 0)] 1 [(0, v1)] s).bind fun r2 =>
retV [r2.1] r2.2)
 ((abin Try.prog .rem 22 (.tmp 8) (.const (.int .u64 128)) x0 (.int .u64 128)).bind fun v3 =>
(convInt .u8 v3).bind fun v4 =>
(abin Try.prog .add 5 (.tmp 10) (.const (.int .u8 128)) v4 (.int .u8 128)).bind fun v5 =>
(abuildSl 1 [(.int .u8 0)] 1 [(0, v5)] s).bind fun r6 =>
(abin Try.prog .quo 22 (.tmp 13) (.const (.int .u64 128)) x0 (.int .u64 128)).bind fun v7 =>
(callV Try.prog R (.func (.func 16) #[] #[]) [v7] r6.2).bind fun r8 =>
(aappend 1 1 r6.1 r8.1 r8.2).bind fun r9 =>
retV [r9.1] r9.2)

theorem ref01_Num_of {lib : Lib} (hl : lib 16 = none) {x0 : Value} {s : St} {r : Value × St} (h : ref01_Num (run Try.prog lib hints) x0 s = some r) : run Try.prog lib hints 16 [x0] s = some r :=
  run_of hl Try.func16 (Eq.trans (by kernel_rfl) h)

theorem ref01_Num_ok : funcOk Try.prog 16 = true := by kernel_rfl
theorem ref01_Num_call {R : Caller} {xs : List Value} {s : St} : callV Try.prog R (.func (.func 16) #[] #[]) xs s = R 16 xs s := callV_eq ref01_Num_ok

/-! ### sumpter/octet.Sum: 17 -/

noncomputable def octet_Sum.b4 (R : Caller) (T : List Value) (s : St) : Res :=
(abin Try.prog .lss 3 (.tmp 10) (.tmp 9) (getL T 4) (getL T 3)).bind fun v5 =>
condV v5
 ((aindexS 1 (getL T 2) (getL T 4)).bind fun v6 =>
(aload false 1 v6 s).bind fun v7 =>
(abin Try.prog .shr 30 (.tmp 14) (.const (.int .u64 8)) (getL T 1) (.int .u64 8)).bind fun v8 =>
(convInt .u8 (getL T 1)).bind fun v9 =>
(abin Try.prog .xor 5 (.tmp 17) (.tmp 18) v9 v7).bind fun v10 =>
(aindexA 256 1 (getL T 0) v10).bind fun v11 =>
(lload false 1 v11 (getL T 5)).bind fun v12 =>
(abin Try.prog .xor 30 (.tmp 15) (.tmp 21) v8 v12).bind fun v13 =>
(abin Try.prog .add 3 (.tmp 10) (.const (.int .i64 1)) (getL T 4) (.int .i64 1)).bind fun v14 =>
some (.normal, [(getL T 0), v13, (getL T 2), (getL T 3), v14, (getL T 5)], s))
 (some (.exit 0, [(getL T 1)], s))

noncomputable def octet_Sum (R : Caller) (x0 : Value) (s : St) : Option (Value × St) :=
(callV Try.prog R (.func (.func 27) #[] #[]) [] s).bind fun r0 =>
(lbox (.agg (List.replicate 256 (.int .u32 0)).toArray)).bind fun c1 =>
(lstore 256 lptr r0.1 c1).bind fun c2 =>
(alenV (.slice 5) x0 r0.2).bind fun v3 =>
(loopL (octet_Sum.b4 R) [lptr, (.int .u32 4294967295), x0, v3, (.int .i64 0), c2] r0.2).bind fun r15 =>
exV r15.1 [(0, (aun .xor (getL r15.2.1 0)).bind fun v16 =>
retV [v16] r15.2.2)]
 (none)

theorem octet_Sum_of {lib : Lib} (hl : lib 17 = none) {x0 : Value} {s : St} {r : Value × St} (h : octet_Sum (run Try.prog lib hints) x0 s = some r) : run Try.prog lib hints 17 [x0] s = some r :=
  run_of hl Try.func17 (Eq.trans (by kernel_rfl) h)

theorem octet_Sum_ok : funcOk Try.prog 17 = true := by kernel_rfl
theorem octet_Sum_call {R : Caller} {xs : List Value} {s : St} : callV Try.prog R (.func (.func 17) #[] #[]) xs s = R 17 xs s := callV_eq octet_Sum_ok

/-! ### sumpter/sumpterref01.Sum: 18 -/

noncomputable def ref01_Sum.j15 (R : Caller) (T : List Value) (s : St) : Res :=
(abin Try.prog .add 3 (.tmp 19) (.const (.int .i64 1)) (getL T 1) (.int .i64 1)).bind fun v14 =>
some (.normal, [(getL T 0), v14, (getL T 2), (getL T 3), (getL T 4)], s)

noncomputable def ref01_Sum.b7 (R : Caller) (T : List Value) (s : St) : Res :=
(abin Try.prog .lss 3 (.tmp 17) (.const (.int .i64 8)) (getL T 1) (.int .i64 8)).bind fun v8 =>
condV v8
 ((abin Try.prog .rem 30 (.tmp 21) (.const (.int .u32 2)) (getL T 0) (.int .u32 2)).bind fun v10 =>
(abin Try.prog .eql 30 (.tmp 22) (.const (.int .u32 1)) v10 (.int .u32 1)).bind fun v11 =>
condV v11
 ((abin Try.prog .shr 30 (.tmp 24) (.const (.int .u64 1)) (getL T 0) (.int .u64 1)).bind fun v12 =>
(abin Try.prog .xor 30 (.tmp 25) (.const (.int .u32 3988292384)) v12 (.int .u32 3988292384)).bind fun v13 =>
joinK (ref01_Sum.j15 R) [v13, (getL T 1), (getL T 2), (getL T 3), (getL T 4)] s)
 ((abin Try.prog .shr 30 (.tmp 27) (.const (.int .u64 1)) (getL T 0) (.int .u64 1)).bind fun v16 =>
joinK (ref01_Sum.j15 R) [v16, (getL T 1), (getL T 2), (getL T 3), (getL T 4)] s))
 (some (.exit 2, [(getL T 0), (getL T 2), (getL T 3), (getL T 4)], s))

noncomputable def ref01_Sum.b1 (R : Caller) (T : List Value) (s : St) : Res :=
(abin Try.prog .lss 3 (.tmp 9) (.tmp 8) (getL T 3) (getL T 2)).bind fun v2 =>
condV v2
 ((aindexS 1 (getL T 1) (getL T 3)).bind fun v3 =>
(aload false 1 v3 s).bind fun v4 =>
(convInt .u32 v4).bind fun v5 =>
(abin Try.prog .xor 30 (.tmp 13) (.tmp 15) (getL T 0) v5).bind fun v6 =>
(loopL (ref01_Sum.b7 R) [v6, (.int .i64 0), (getL T 1), (getL T 2), (getL T 3)] s).bind fun r17 =>
exV r17.1 [(2, (abin Try.prog .add 3 (.tmp 9) (.const (.int .i64 1)) (getL r17.2.1 3) (.int .i64 1)).bind fun v18 =>
some (.normal, [(getL r17.2.1 0), (getL r17.2.1 1), (getL r17.2.1 2), v18], r17.2.2))]
 (none))
 (some (.exit 0, [(getL T 0)], s))

noncomputable def ref01_Sum (R : Caller) (x0 : Value) (s : St) : Option (Value × St) :=
(alenV (.slice 5) x0 s).bind fun v0 =>
(loopL (ref01_Sum.b1 R) [(.int .u32 4294967295), x0, v0, (.int .i64 0)] s).bind fun r19 =>
exV r19.1 [(0, (abin Try.prog .xor 30 (.tmp 30) (.const (.int .u32 4294967295)) (getL r19.2.1 0) (.int .u32 4294967295)).bind fun v20 =>
retV [v20] r19.2.2)]
 (none)

theorem ref01_Sum_of {lib : Lib} (hl : lib 18 = none) {x0 : Value} {s : St} {r : Value × St} (h : ref01_Sum (run Try.prog lib hints) x0 s = some r) : run Try.prog lib hints 18 [x0] s = some r :=
  run_of hl Try.func18 (Eq.trans (by kernel_rfl) h)

theorem ref01_Sum_ok : funcOk Try.prog 18 = true := by kernel_rfl
theorem ref01_Sum_call {R : Caller} {xs : List Value} {s : St} : callV Try.prog R (.func (.func 18) #[] #[]) xs s = R 18 xs s := callV_eq ref01_Sum_ok

/-! ### sumpter/octet.ReadText: 19 -/

noncomputable def octet_ReadText (R : Caller) (x0 x1 : Value) (s : St) : Option (Value × St) :=
(callV Try.prog R (.func (.func 13) #[] #[]) [x0] s).bind fun r0 =>
(aextract 0 r0.1).bind fun v1 =>
(aextract 1 r0.1).bind fun v2 =>
(aextract 2 r0.1).bind fun v3 =>
(abin Try.prog .neq 25 (.tmp 17) (.const (.int .i64 0)) v3 (.int .i64 0)).bind fun v4 =>
condV v4
 (retV [(.string ⟨#[]⟩), (.int .i64 0), v3] r0.2)
 ((abin Try.prog .lss 3 (.tmp 21) (.const (.int .i64 0)) x1 (.int .i64 0)).bind fun v5 =>
(guardV v5 false ((convInt .u64 x1).bind fun v6 =>
(abin Try.prog .gtr 22 (.tmp 24) (.tmp 26) v1 v6).bind fun v7 =>
some ([v7], r0.2)) (some ([undef], r0.2))).bind fun q8 =>
(apick v5 (.bool true) (getL q8.1 0)).bind fun v9 =>
condV v9
 (retV [(.string ⟨#[]⟩), (.int .i64 0), (.int .i64 2)] q8.2)
 ((alenV (.slice 5) x0 q8.2).bind fun v10 =>
(abin Try.prog .sub 3 (.tmp 32) (.tmp 33) v10 v2).bind fun v11 =>
(convInt .u64 v11).bind fun v12 =>
(abin Try.prog .gtr 22 (.tmp 30) (.tmp 35) v1 v12).bind fun v13 =>
condV v13
 (retV [(.string ⟨#[]⟩), (.int .i64 0), (.int .i64 10)] q8.2)
 ((convInt .i64 v1).bind fun v14 =>
(abin Try.prog .add 3 (.tmp 39) (.tmp 41) v2 v14).bind fun v15 =>
(asliceV 1 x0 (some v2) (some v15) none).bind fun v16 =>
(abytesToStr v16 q8.2).bind fun v17 =>
(convInt .i64 v1).bind fun v18 =>
(abin Try.prog .add 3 (.tmp 45) (.tmp 47) v2 v18).bind fun v19 =>
retV [v17, v19, (.int .i64 0)] q8.2)))

theorem octet_ReadText_of {lib : Lib} (hl : lib 19 = none) {x0 x1 : Value} {s : St} {r : Value × St} (h : octet_ReadText (run Try.prog lib hints) x0 x1 s = some r) : run Try.prog lib hints 19 [x0, x1] s = some r :=
  run_of hl Try.func19 (Eq.trans (by kernel_rfl) h)

theorem octet_ReadText_ok : funcOk Try.prog 19 = true := by kernel_rfl
theorem octet_ReadText_call {R : Caller} {xs : List Value} {s : St} : callV Try.prog R (.func (.func 19) #[] #[]) xs s = R 19 xs s := callV_eq octet_ReadText_ok

/-! ### sumpter/sumpterref01.ReadText: 20 -/

noncomputable def ref01_ReadText (R : Caller) (x0 x1 : Value) (s : St) : Option (Value × St) :=
(callV Try.prog R (.func (.func 14) #[] #[]) [x0] s).bind fun r0 =>
(aextract 0 r0.1).bind fun v1 =>
(aextract 1 r0.1).bind fun v2 =>
(aextract 2 r0.1).bind fun v3 =>
(abin Try.prog .neq 25 (.tmp 16) (.const (.int .i64 0)) v3 (.int .i64 0)).bind fun v4 =>
condV v4
 (retV [(.string ⟨#[]⟩), (.int .i64 0), v3] r0.2)
 ((abin Try.prog .lss 3 (.tmp 19) (.const (.int .i64 0)) x1 (.int .i64 0)).bind fun v5 =>
(guardV v5 false ((convInt .u64 x1).bind fun v6 =>
(abin Try.prog .gtr 22 (.tmp 22) (.tmp 24) v1 v6).bind fun v7 =>
some ([v7], r0.2)) (some ([undef], r0.2))).bind fun q8 =>
(apick v5 (.bool true) (getL q8.1 0)).bind fun v9 =>
condV v9
 (retV [(.string ⟨#[]⟩), (.int .i64 0), (.int .i64 2)] q8.2)
 ((alenV (.slice 5) x0 q8.2).bind fun v10 =>
(abin Try.prog .sub 3 (.tmp 29) (.tmp 30) v10 v2).bind fun v11 =>
(convInt .u64 v11).bind fun v12 =>
(abin Try.prog .gtr 22 (.tmp 27) (.tmp 32) v1 v12).bind fun v13 =>
condV v13
 (retV [(.string ⟨#[]⟩), (.int .i64 0), (.int .i64 10)] q8.2)
 ((convInt .i64 v1).bind fun v14 =>
(abin Try.prog .add 3 (.tmp 36) (.tmp 38) v2 v14).bind fun v15 =>
(asliceV 1 x0 (some v2) (some v15) none).bind fun v16 =>
(abytesToStr v16 q8.2).bind fun v17 =>
(convInt .i64 v1).bind fun v18 =>
(abin Try.prog .add 3 (.tmp 42) (.tmp 44) v2 v18).bind fun v19 =>
retV [v17, v19, (.int .i64 0)] q8.2)))

theorem ref01_ReadText_of {lib : Lib} (hl : lib 20 = none) {x0 x1 : Value} {s : St} {r : Value × St} (h : ref01_ReadText (run Try.prog lib hints) x0 x1 s = some r) : run Try.prog lib hints 20 [x0, x1] s = some r :=
  run_of hl Try.func20 (Eq.trans (by kernel_rfl) h)

theorem ref01_ReadText_ok : funcOk Try.prog 20 = true := by kernel_rfl
theorem ref01_ReadText_call {R : Caller} {xs : List Value} {s : St} : callV Try.prog R (.func (.func 20) #[] #[]) xs s = R 20 xs s := callV_eq ref01_ReadText_ok

/-! ### sumpter/octet.Text: 21 -/

noncomputable def octet_Text (R : Caller) (x0 : Value) (s : St) : Option (Value × St) :=
(alenV .string x0 s).bind fun v0 =>
(convInt .u64 v0).bind fun v1 =>
(callV Try.prog R (.func (.func 15) #[] #[]) [v1] s).bind fun r2 =>
(aappend 1 1 r2.1 x0 r2.2).bind fun r3 =>
retV [r3.1] r3.2

theorem octet_Text_of {lib : Lib} (hl : lib 21 = none) {x0 : Value} {s : St} {r : Value × St} (h : octet_Text (run Try.prog lib hints) x0 s = some r) : run Try.prog lib hints 21 [x0] s = some r :=
  run_of hl Try.func21 (Eq.trans (by kernel_rfl) h)

theorem octet_Text_ok : funcOk Try.prog 21 = true := by kernel_rfl
theorem octet_Text_call {R : Caller} {xs : List Value} {s : St} : callV Try.prog R (.func (.func 21) #[] #[]) xs s = R 21 xs s := callV_eq octet_Text_ok

/-! ### sumpter/sumpterref01.Text: 22 -/

noncomputable def ref01_Text (R : Caller) (x0 : Value) (s : St) : Option (Value × St) :=
(alenV .string x0 s).bind fun v0 =>
(convInt .u64 v0).bind fun v1 =>
(callV Try.prog R (.func (.func 16) #[] #[]) [v1] s).bind fun r2 =>
(aappend 1 1 r2.1 x0 r2.2).bind fun r3 =>
retV [r3.1] r3.2

theorem ref01_Text_of {lib : Lib} (hl : lib 22 = none) {x0 : Value} {s : St} {r : Value × St} (h : ref01_Text (run Try.prog lib hints) x0 s = some r) : run Try.prog lib hints 22 [x0] s = some r :=
  run_of hl Try.func22 (Eq.trans (by kernel_rfl) h)

theorem ref01_Text_ok : funcOk Try.prog 22 = true := by kernel_rfl
theorem ref01_Text_call {R : Caller} {xs : List Value} {s : St} : callV Try.prog R (.func (.func 22) #[] #[]) xs s = R 22 xs s := callV_eq ref01_Text_ok

/-! ### sumpter/octet.ReadFixed: 23 -/

noncomputable def octet_ReadFixed.b4 (R : Caller) (T : List Value) (s : St) : Res :=
(abin Try.prog .lss 3 (.tmp 13) (.tmp 12) (getL T 3) (getL T 2)).bind fun v5 =>
condV v5
 ((aindexS 1 (getL T 1) (getL T 3)).bind fun v6 =>
(aload false 1 v6 s).bind fun v7 =>
(convInt .u32 v7).bind fun v8 =>
(abin Try.prog .mul 3 (.const (.int .i64 8)) (.tmp 21) (.int .i64 8) (getL T 3)).bind fun v9 =>
(abin Try.prog .shl 30 (.tmp 20) (.tmp 22) v8 v9).bind fun v10 =>
(abin Try.prog .or 30 (.tmp 18) (.tmp 23) (getL T 0) v10).bind fun v11 =>
(abin Try.prog .add 3 (.tmp 13) (.const (.int .i64 1)) (getL T 3) (.int .i64 1)).bind fun v12 =>
some (.normal, [v11, (getL T 1), (getL T 2), v12], s))
 (some (.exit 0, [(getL T 0)], s))

noncomputable def octet_ReadFixed (R : Caller) (x0 : Value) (s : St) : Option (Value × St) :=
(alenV (.slice 5) x0 s).bind fun v0 =>
(abin Try.prog .lss 3 (.tmp 8) (.const (.int .i64 4)) v0 (.int .i64 4)).bind fun v1 =>
condV v1
 (retV [(.int .u32 0), (.int .i64 10)] s)
 ((asliceV 1 x0 none (some (.int .i64 4)) none).bind fun v2 =>
(alenV (.slice 5) v2 s).bind fun v3 =>
(loopL (octet_ReadFixed.b4 R) [(.int .u32 0), v2, v3, (.int .i64 0)] s).bind fun r13 =>
exV r13.1 [(0, retV [(getL r13.2.1 0), (.int .i64 0)] r13.2.2)]
 (none))

theorem octet_ReadFixed_of {lib : Lib} (hl : lib 23 = none) {x0 : Value} {s : St} {r : Value × St} (h : octet_ReadFixed (run Try.prog lib hints) x0 s = some r) : run Try.prog lib hints 23 [x0] s = some r :=
  run_of hl Try.func23 (Eq.trans (by kernel_rfl) h)

theorem octet_ReadFixed_ok : funcOk Try.prog 23 = true := by kernel_rfl
theorem octet_ReadFixed_call {R : Caller} {xs : List Value} {s : St} : callV Try.prog R (.func (.func 23) #[] #[]) xs s = R 23 xs s := callV_eq octet_ReadFixed_ok

/-! ### sumpter/sumpterref01.ReadFixed: 24 -/

noncomputable def ref01_ReadFixed (R : Caller) (x0 : Value) (s : St) : Option (Value × St) :=
(alenV (.slice 5) x0 s).bind fun v0 =>
(abin Try.prog .lss 3 (.tmp 5) (.const (.int .i64 4)) v0 (.int .i64 4)).bind fun v1 =>
condV v1
 (retV [(.int .u32 0), (.int .i64 10)] s)
 ((aindexS 1 x0 (.int .i64 0)).bind fun v2 =>
((aload false 1 v2 (frzS s)).bind fun v23 =>
some (v23, (frzS s))).bind fun r3 =>
(convInt .u32 r3.1).bind fun v4 =>
(aindexS 1 x0 (.int .i64 1)).bind fun v5 =>
((aload false 1 v5 (frzS s)).bind fun v22 =>
some (v22, (frzS s))).bind fun r6 =>
(convInt .u32 r6.1).bind fun v7 =>
(abin Try.prog .shl 30 (.tmp 14) (.const (.int .u64 8)) v7 (.int .u64 8)).bind fun v8 =>
(abin Try.prog .or 30 (.tmp 10) (.tmp 15) v4 v8).bind fun v9 =>
(aindexS 1 x0 (.int .i64 2)).bind fun v10 =>
((aload false 1 v10 (frzS s)).bind fun v21 =>
some (v21, (frzS s))).bind fun r11 =>
(convInt .u32 r11.1).bind fun v12 =>
(abin Try.prog .shl 30 (.tmp 20) (.const (.int .u64 16)) v12 (.int .u64 16)).bind fun v13 =>
(abin Try.prog .or 30 (.tmp 16) (.tmp 21) v9 v13).bind fun v14 =>
(aindexS 1 x0 (.int .i64 3)).bind fun v15 =>
((aload false 1 v15 (frzS s)).bind fun v20 =>
some (v20, (frzS s))).bind fun r16 =>
(convInt .u32 r16.1).bind fun v17 =>
(abin Try.prog .shl 30 (.tmp 26) (.const (.int .u64 24)) v17 (.int .u64 24)).bind fun v18 =>
(abin Try.prog .or 30 (.tmp 22) (.tmp 27) v14 v18).bind fun v19 =>
retV [v19, (.int .i64 0)] s)

theorem ref01_ReadFixed_of {lib : Lib} (hl : lib 24 = none) {x0 : Value} {s : St} {r : Value × St} (h : ref01_ReadFixed (run Try.prog lib hints) x0 s = some r) : run Try.prog lib hints 24 [x0] s = some r :=
  run_of hl Try.func24 (Eq.trans (by kernel_rfl) h)

theorem ref01_ReadFixed_ok : funcOk Try.prog 24 = true := by kernel_rfl
theorem ref01_ReadFixed_call {R : Caller} {xs : List Value} {s : St} : callV Try.prog R (.func (.func 24) #[] #[]) xs s = R 24 xs s := callV_eq ref01_ReadFixed_ok

/-! ### sumpter/octet.Fixed: 25 -/

noncomputable def octet_Fixed.b2 (R : Caller) (T : List Value) (s : St) : Res :=
(abin Try.prog .lss 3 (.tmp 5) (.const (.int .i64 4)) (getL T 3) (.int .i64 4)).bind fun v3 =>
condV v3
 ((abin Try.prog .mul 3 (.const (.int .i64 8)) (.tmp 10) (.int .i64 8) (getL T 3)).bind fun v4 =>
(abin Try.prog .shr 30 (.tmp 9) (.tmp 11) (getL T 0) v4).bind fun v5 =>
(convInt .u8 v5).bind fun v6 =>
(aindexA 4 1 (getL T 2) (getL T 3)).bind fun v7 =>
(lstore 1 v7 v6 (getL T 5)).bind fun c8 =>
(abin Try.prog .add 3 (.tmp 5) (.const (.int .i64 1)) (getL T 3) (.int .i64 1)).bind fun v9 =>
some (.normal, [(getL T 0), (getL T 1), (getL T 2), v9, (getL T 4), c8], s))
 (some (.exit 0, [(getL T 1), (getL T 2), (getL T 4), (getL T 5)], s))

noncomputable def octet_Fixed (R : Caller) (x0 : Value) (s : St) : Option (Value × St) :=
(lbox (.agg #[(.int .u8 0), (.int .u8 0), (.int .u8 0), (.int .u8 0)])).bind fun c0 =>
(lbox (.agg #[(.int .u8 0), (.int .u8 0), (.int .u8 0), (.int .u8 0)])).bind fun c1 =>
(loopL (octet_Fixed.b2 R) [x0, lptr, lptr, (.int .i64 0), c0, c1] s).bind fun r10 =>
exV r10.1 [(0, (lload true 4 (getL r10.2.1 1) (getL r10.2.1 3)).bind fun v11 =>
(lstore 4 (getL r10.2.1 0) v11 (getL r10.2.1 2)).bind fun c12 =>
(lload true 4 (getL r10.2.1 0) c12).bind fun v13 =>
retV [v13] r10.2.2)]
 (none)

theorem octet_Fixed_of {lib : Lib} (hl : lib 25 = none) {x0 : Value} {s : St} {r : Value × St} (h : octet_Fixed (run Try.prog lib hints) x0 s = some r) : run Try.prog lib hints 25 [x0] s = some r :=
  run_of hl Try.func25 (Eq.trans (by kernel_rfl) h)

theorem octet_Fixed_ok : funcOk Try.prog 25 = true := by kernel_rfl
theorem octet_Fixed_call {R : Caller} {xs : List Value} {s : St} : callV Try.prog R (.func (.func 25) #[] #[]) xs s = R 25 xs s := callV_eq octet_Fixed_ok

/-! ### sumpter/sumpterref01.Fixed: 26 -/

noncomputable def ref01_Fixed (R : Caller) (x0 : Value) (s : St) : Option (Value × St) :=
(lbox (.agg #[(.int .u8 0), (.int .u8 0), (.int .u8 0), (.int .u8 0)])).bind fun c0 =>
(convInt .u8 x0).bind fun v1 =>
(abin Try.prog .shr 30 (.tmp 5) (.const (.int .u64 8)) x0 (.int .u64 8)).bind fun v2 =>
(convInt .u8 v2).bind fun v3 =>
(abin Try.prog .shr 30 (.tmp 8) (.const (.int .u64 16)) x0 (.int .u64 16)).bind fun v4 =>
(convInt .u8 v4).bind fun v5 =>
(abin Try.prog .shr 30 (.tmp 11) (.const (.int .u64 24)) x0 (.int .u64 24)).bind fun v6 =>
(convInt .u8 v6).bind fun v7 =>
(abuild Try.prog 43 [(0, v1), (1, v3), (2, v5), (3, v7)]).bind fun v8 =>
(lstore 4 lptr v8 c0).bind fun c9 =>
(lload true 4 lptr c9).bind fun v10 =>
retV [v10] s

theorem ref01_Fixed_of {lib : Lib} (hl : lib 26 = none) {x0 : Value} {s : St} {r : Value × St} (h : ref01_Fixed (run Try.prog lib hints) x0 s = some r) : run Try.prog lib hints 26 [x0] s = some r :=
  run_of hl Try.func26 (Eq.trans (by kernel_rfl) h)

theorem ref01_Fixed_ok : funcOk Try.prog 26 = true := by kernel_rfl
theorem ref01_Fixed_call {R : Caller} {xs : List Value} {s : St} : callV Try.prog R (.func (.func 26) #[] #[]) xs s = R 26 xs s := callV_eq ref01_Fixed_ok

/-! ### sumpter/octet.steps: 27 -/

noncomputable def octet_steps.b5 (R : Caller) (T : List Value) (s : St) : Res :=
(abin Try.prog .lss 3 (.tmp 9) (.const (.int .i64 8)) (getL T 5) (.int .i64 8)).bind fun v6 =>
condV v6
 ((abin Try.prog .shr 30 (.tmp 11) (.const (.int .u64 1)) (getL T 3) (.int .u64 1)).bind fun v7 =>
(abin Try.prog .and 30 (.tmp 13) (.const (.int .u32 1)) (getL T 3) (.int .u32 1)).bind fun v8 =>
(aun .neg v8).bind fun v9 =>
(abin Try.prog .and 30 (.const (.int .u32 3988292384)) (.tmp 15) (.int .u32 3988292384) v9).bind fun v10 =>
(abin Try.prog .xor 30 (.tmp 12) (.tmp 16) v7 v10).bind fun v11 =>
(abin Try.prog .add 3 (.tmp 9) (.const (.int .i64 1)) (getL T 5) (.int .i64 1)).bind fun v12 =>
some (.normal, [(getL T 0), (getL T 1), (getL T 2), v11, (getL T 4), v12, (getL T 6), (getL T 7)], s))
 (some (.exit 2, [(getL T 0), (getL T 1), (getL T 2), (getL T 3), (getL T 4), (getL T 6), (getL T 7)], s))

noncomputable def octet_steps.b2 (R : Caller) (T : List Value) (s : St) : Res :=
(abin Try.prog .lss 3 (.tmp 4) (.const (.int .i64 256)) (getL T 2) (.int .i64 256)).bind fun v3 =>
condV v3
 ((convInt .u32 (getL T 2)).bind fun v4 =>
(loopL (octet_steps.b5 R) [(getL T 0), (getL T 1), (getL T 2), v4, (getL T 2), (.int .i64 0), (getL T 3), (getL T 4)] s).bind fun r13 =>
exV r13.1 [(2, (aindexA 256 1 (getL r13.2.1 1) (getL r13.2.1 2)).bind fun v14 =>
(lstore 1 v14 (getL r13.2.1 3) (getL r13.2.1 6)).bind fun c15 =>
(abin Try.prog .add 3 (.tmp 4) (.const (.int .i64 1)) (getL r13.2.1 4) (.int .i64 1)).bind fun v16 =>
some (.normal, [(getL r13.2.1 0), (getL r13.2.1 1), v16, (getL r13.2.1 5), c15], r13.2.2))]
 (none))
 (some (.exit 0, [(getL T 0), (getL T 1), (getL T 3), (getL T 4)], s))

noncomputable def octet_steps (R : Caller) (s : St) : Option (Value × St) :=
(lbox (.agg (List.replicate 256 (.int .u32 0)).toArray)).bind fun c0 =>
(lbox (.agg (List.replicate 256 (.int .u32 0)).toArray)).bind fun c1 =>
(loopL (octet_steps.b2 R) [lptr, lptr, (.int .i64 0), c0, c1] s).bind fun r17 =>
exV r17.1 [(0, (lload true 256 (getL r17.2.1 1) (getL r17.2.1 3)).bind fun v18 =>
(lstore 256 (getL r17.2.1 0) v18 (getL r17.2.1 2)).bind fun c19 =>
(lload true 256 (getL r17.2.1 0) c19).bind fun v20 =>
retV [v20] r17.2.2)]
 (none)

theorem octet_steps_of {lib : Lib} (hl : lib 27 = none) {s : St} {r : Value × St} (h : octet_steps (run Try.prog lib hints)  s = some r) : run Try.prog lib hints 27 [] s = some r :=
  run_of hl Try.func27 (Eq.trans (by kernel_rfl) h)

theorem octet_steps_ok : funcOk Try.prog 27 = true := by kernel_rfl
theorem octet_steps_call {R : Caller} {xs : List Value} {s : St} : callV Try.prog R (.func (.func 27) #[] #[]) xs s = R 27 xs s := callV_eq octet_steps_ok


end Go.Proofs.Ytodedkebnmfodaa.Ab
