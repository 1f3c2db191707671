/- The program's functions, as the abstract machine runs them: printed. -/
import Derived.Test.YtcahddipgocpfaaLib0
namespace Go.Proofs.Ytcahddipgocpfaa.Ab
open Go
set_option maxRecDepth 100000
set_option linter.unusedVariables false

def hints : Hints := fun f => hintL f [(2, []), (3, [(2, 31)]), (4, [(2, 67), (6, 68), (8, 69), (10, 70), (11, 71), (13, 72), (14, 73)]), (5, [(6, 44)]), (6, [(3, 59), (4, 60), (5, 61), (8, 62), (10, 63), (12, 64), (14, 65)]), (7, [(6, 56), (24, 56), (34, 56), (39, 56), (46, 56), (50, 56)]), (8, [(2, 43), (3, 44), (6, 45), (8, 46)]), (9, [(4, 107), (5, 108), (10, 109), (12, 110), (15, 111), (16, 112)]), (10, [(4, 64), (5, 65), (6, 66), (10, 67)]), (11, [(1, 78), (3, 79), (5, 80), (7, 81), (8, 82), (10, 83), (11, 84)]), (12, []), (13, []), (14, [(1, 28), (8, 28), (13, 28), (18, 28), (22, 28), (24, 28)]), (15, [(1, 25), (3, 25), (8, 25), (14, 25), (18, 25), (20, 25)]), (16, [(2, 30), (14, 30), (20, 30), (25, 30)]), (17, [(2, 30), (15, 30), (20, 30), (25, 30)]), (18, [(2, 53)]), (19, [(2, 48)]), (20, [(2, 43), (4, 44), (5, 45), (24, 43), (35, 43), (40, 43)]), (21, [(2, 48), (4, 49), (5, 50), (24, 48), (28, 48), (33, 48), (40, 48), (45, 48)]), (22, [(2, 33), (3, 34), (4, 35), (6, 36), (7, 33), (9, 34), (12, 33), (14, 34)]), (23, [(2, 44), (3, 45), (4, 46), (6, 47), (16, 44), (18, 45), (21, 44), (24, 45), (26, 44), (29, 45), (31, 47), (32, 47), (36, 47), (38, 47)]), (24, [(2, 30), (3, 31), (14, 30), (16, 31), (21, 30), (23, 31), (26, 31)]), (25, [(2, 28), (3, 29), (14, 28), (16, 29), (21, 28), (23, 29)]), (26, [(0, 2)]), (27, []), (28, [])]

/-! ### gosem.cut.init: 2 -/

noncomputable def gosem_cut_init (R : Caller) (s : St) : Option (Value × St) :=
(callV Try.prog R (.func (.func 1) #[] #[]) [] s).bind fun r0 =>
retV [] r0.2

theorem gosem_cut_init_of {lib : Lib} (hl : lib 2 = none) {s : St} {r : Value × St} (h : gosem_cut_init (run Try.prog lib hints)  s = some r) : run Try.prog lib hints 2 [] s = some r :=
  run_of hl Try.func2 (Eq.trans (by kernel_rfl) h)

theorem gosem_cut_init_ok : funcOk Try.prog 2 = true := by kernel_rfl
theorem gosem_cut_init_call {R : Caller} {xs : List Value} {s : St} : callV Try.prog R (.func (.func 2) #[] #[]) xs s = R 2 xs s := callV_eq gosem_cut_init_ok

/-! ### sumpter/sumpterlaw02.SpanChecks: 3 -/

noncomputable def law02_SpanChecks (R : Caller) (x0 x1 : Value) (s : St) : Option (Value × St) :=
(lbox x0).bind fun v0 =>
(callV Try.prog R (.func (.func 11) #[] #[]) [] s).bind fun r1 =>
(guardV r1.1 true (some ([x1], r1.2)) (some ([undef], r1.2))).bind fun q2 =>
((guardV r1.1 true ((callV Try.prog R (.func (.func 12) #[] #[]) [(getL q2.1 0)] q2.2).bind fun r34 =>
some (r34.1, r34.2)) (some (undef, q2.2))).bind (ownR q2.2)).bind fun r3 =>
(guardV r1.1 true (some ([x1], r3.2)) (some ([undef], r3.2))).bind fun q4 =>
((guardV r1.1 true ((callV Try.prog R (.func (.func 13) #[] #[]) [(getL q4.1 0)] q4.2).bind fun r33 =>
some (r33.1, r33.2)) (some (undef, q4.2))).bind (ownR q4.2)).bind fun r5 =>
(guardV r1.1 true ((abin Try.prog .eql 25 (.tmp 10) (.tmp 12) r3.1 r5.1).bind fun v6 =>
some ([v6], r5.2)) (some ([undef], r5.2))).bind fun q7 =>
(apick r1.1 (getL q7.1 0) (.bool false)).bind fun v8 =>
(guardV v8 true ((lload true 2 lptr v0).bind fun v9 =>
some ([v9], q7.2)) (some ([undef], q7.2))).bind fun q10 =>
((guardV v8 true ((callV Try.prog R (.func (.func 14) #[] #[]) [(getL q10.1 0)] q10.2).bind fun r32 =>
some (r32.1, r32.2)) (some (undef, q10.2))).bind (ownR q10.2)).bind fun r11 =>
(guardV v8 true ((lload true 2 lptr v0).bind fun v12 =>
some ([v12], r11.2)) (some ([undef], r11.2))).bind fun q13 =>
((guardV v8 true ((callV Try.prog R (.func (.func 15) #[] #[]) [(getL q13.1 0)] q13.2).bind fun r31 =>
some (r31.1, r31.2)) (some (undef, q13.2))).bind (ownR q13.2)).bind fun r14 =>
(guardV v8 true ((abin Try.prog .eql 25 (.tmp 17) (.tmp 19) r11.1 r14.1).bind fun v15 =>
some ([v15], r14.2)) (some ([undef], r14.2))).bind fun q16 =>
(apick v8 (getL q16.1 0) (.bool false)).bind fun v17 =>
(guardV v17 true ((lload true 2 lptr v0).bind fun v18 =>
some ([v18], q16.2)) (some ([undef], q16.2))).bind fun q19 =>
(guardV v17 true (some ([x1], q19.2)) (some ([undef], q19.2))).bind fun q20 =>
((guardV v17 true ((callV Try.prog R (.func (.func 16) #[] #[]) [(getL q19.1 0), (getL q20.1 0)] q20.2).bind fun r30 =>
some (r30.1, r30.2)) (some (undef, q20.2))).bind (ownR q20.2)).bind fun r21 =>
(guardV v17 true ((lload true 2 lptr v0).bind fun v22 =>
some ([v22], r21.2)) (some ([undef], r21.2))).bind fun q23 =>
(guardV v17 true (some ([x1], q23.2)) (some ([undef], q23.2))).bind fun q24 =>
((guardV v17 true ((callV Try.prog R (.func (.func 17) #[] #[]) [(getL q23.1 0), (getL q24.1 0)] q24.2).bind fun r29 =>
some (r29.1, r29.2)) (some (undef, q24.2))).bind (ownR q24.2)).bind fun r25 =>
(guardV v17 true ((abin Try.prog .eql 4 (.tmp 25) (.tmp 28) r21.1 r25.1).bind fun v26 =>
some ([v26], r25.2)) (some ([undef], r25.2))).bind fun q27 =>
(apick v17 (getL q27.1 0) (.bool false)).bind fun v28 =>
retV [v28] q27.2

theorem law02_SpanChecks_of {lib : Lib} (hl : lib 3 = none) {x0 x1 : Value} {s : St} {r : Value × St} (h : law02_SpanChecks (run Try.prog lib hints) x0 x1 s = some r) : run Try.prog lib hints 3 [x0, x1] s = some r :=
  run_of hl Try.func3 (Eq.trans (by kernel_rfl) h)

theorem law02_SpanChecks_ok : funcOk Try.prog 3 = true := by kernel_rfl
theorem law02_SpanChecks_call {R : Caller} {xs : List Value} {s : St} : callV Try.prog R (.func (.func 3) #[] #[]) xs s = R 3 xs s := callV_eq law02_SpanChecks_ok

/-! ### sumpter/sumpterlaw02.SpanCuts: 4 -/

noncomputable def law02_SpanCuts (R : Caller) (x0 x1 : Value) (s : St) : Option (Value × St) :=
(lbox x0).bind fun v0 =>
(callV Try.prog R (.func (.func 11) #[] #[]) [] s).bind fun r1 =>
(callV Try.prog R (.func (.func 18) #[] #[]) [x1] r1.2).bind fun r2 =>
(aextract 0 r2.1).bind fun v3 =>
(aextract 1 r2.1).bind fun v4 =>
(lstore 2 lptr v3 (.agg #[(.string ⟨#[]⟩), (.string ⟨#[]⟩)])).bind fun v5 =>
(callV Try.prog R (.func (.func 19) #[] #[]) [x1] r2.2).bind fun r6 =>
(aextract 0 r6.1).bind fun v7 =>
(aextract 1 r6.1).bind fun v8 =>
(lstore 2 lptr v7 (.agg #[(.string ⟨#[]⟩), (.string ⟨#[]⟩)])).bind fun v9 =>
(lload true 2 lptr v0).bind fun v10 =>
(callV Try.prog R (.func (.func 20) #[] #[]) [v10, x1] r6.2).bind fun r11 =>
(aextract 0 r11.1).bind fun v12 =>
(aextract 1 r11.1).bind fun v13 =>
(aextract 2 r11.1).bind fun v14 =>
(lstore 2 lptr v12 (.agg #[(.string ⟨#[]⟩), (.string ⟨#[]⟩)])).bind fun v15 =>
(lstore 2 lptr v13 (.agg #[(.string ⟨#[]⟩), (.string ⟨#[]⟩)])).bind fun v16 =>
(lload true 2 lptr v0).bind fun v17 =>
(callV Try.prog R (.func (.func 21) #[] #[]) [v17, x1] r11.2).bind fun r18 =>
(aextract 0 r18.1).bind fun v19 =>
(aextract 1 r18.1).bind fun v20 =>
(aextract 2 r18.1).bind fun v21 =>
(lstore 2 lptr v19 (.agg #[(.string ⟨#[]⟩), (.string ⟨#[]⟩)])).bind fun v22 =>
(lstore 2 lptr v20 (.agg #[(.string ⟨#[]⟩), (.string ⟨#[]⟩)])).bind fun v23 =>
(guardV r1.1 true ((lload true 2 lptr v5).bind fun v24 =>
(lload true 2 lptr v9).bind fun v25 =>
(abin Try.prog .eql 23 (.tmp 43) (.tmp 44) v24 v25).bind fun v26 =>
some ([v26], r18.2)) (some ([undef], r18.2))).bind fun q27 =>
(apick r1.1 (getL q27.1 0) (.bool false)).bind fun v28 =>
(guardV v28 true ((abin Try.prog .eql 25 (.tmp 48) (.tmp 49) v4 v8).bind fun v29 =>
some ([v29], q27.2)) (some ([undef], q27.2))).bind fun q30 =>
(apick v28 (getL q30.1 0) (.bool false)).bind fun v31 =>
(guardV v31 true ((lload true 2 lptr v15).bind fun v32 =>
(lload true 2 lptr v22).bind fun v33 =>
(abin Try.prog .eql 23 (.tmp 53) (.tmp 54) v32 v33).bind fun v34 =>
some ([v34], q30.2)) (some ([undef], q30.2))).bind fun q35 =>
(apick v31 (getL q35.1 0) (.bool false)).bind fun v36 =>
(guardV v36 true ((lload true 2 lptr v16).bind fun v37 =>
(lload true 2 lptr v23).bind fun v38 =>
(abin Try.prog .eql 23 (.tmp 58) (.tmp 59) v37 v38).bind fun v39 =>
some ([v39], q35.2)) (some ([undef], q35.2))).bind fun q40 =>
(apick v36 (getL q40.1 0) (.bool false)).bind fun v41 =>
(guardV v41 true ((abin Try.prog .eql 25 (.tmp 63) (.tmp 64) v14 v21).bind fun v42 =>
some ([v42], q40.2)) (some ([undef], q40.2))).bind fun q43 =>
(apick v41 (getL q43.1 0) (.bool false)).bind fun v44 =>
retV [v44] q43.2

theorem law02_SpanCuts_of {lib : Lib} (hl : lib 4 = none) {x0 x1 : Value} {s : St} {r : Value × St} (h : law02_SpanCuts (run Try.prog lib hints) x0 x1 s = some r) : run Try.prog lib hints 4 [x0, x1] s = some r :=
  run_of hl Try.func4 (Eq.trans (by kernel_rfl) h)

theorem law02_SpanCuts_ok : funcOk Try.prog 4 = true := by kernel_rfl
theorem law02_SpanCuts_call {R : Caller} {xs : List Value} {s : St} : callV Try.prog R (.func (.func 4) #[] #[]) xs s = R 4 xs s := callV_eq law02_SpanCuts_ok

/-! ### sumpter/sumpterlaw02.SpanPoints: 5 -/

noncomputable def law02_SpanPoints (R : Caller) (x0 x1 : Value) (s : St) : Option (Value × St) :=
(callV Try.prog R (.func (.func 11) #[] #[]) [] s).bind fun r0 =>
(callV Try.prog R (.func (.func 18) #[] #[]) [x0] r0.2).bind fun r1 =>
(aextract 0 r1.1).bind fun v2 =>
(aextract 1 r1.1).bind fun v3 =>
(lstore 2 lptr v2 (.agg #[(.string ⟨#[]⟩), (.string ⟨#[]⟩)])).bind fun v4 =>
(abin Try.prog .neq 25 (.tmp 14) (.const (.int .i64 0)) v3 (.int .i64 0)).bind fun v5 =>
condV v5
 ((guardV r0.1 true ((callV Try.prog R (.func (.func 12) #[] #[]) [x0] r1.2).bind fun r6 =>
(abin Try.prog .neq 25 (.tmp 19) (.const (.int .i64 0)) r6.1 (.int .i64 0)).bind fun v7 =>
some ([v7], r6.2)) (some ([undef], r1.2))).bind fun q8 =>
(apick r0.1 (getL q8.1 0) (.bool false)).bind fun v9 =>
retV [v9] q8.2)
 ((guardV r0.1 true ((lload true 2 lptr v4).bind fun v10 =>
(callV Try.prog R (.func (.func 14) #[] #[]) [v10] r1.2).bind fun r11 =>
(abin Try.prog .eql 25 (.tmp 25) (.const (.int .i64 0)) r11.1 (.int .i64 0)).bind fun v12 =>
some ([v12], r11.2)) (some ([undef], r1.2))).bind fun q13 =>
(apick r0.1 (getL q13.1 0) (.bool false)).bind fun v14 =>
(guardV v14 true ((lload true 2 lptr v4).bind fun v15 =>
(callV Try.prog R (.func (.func 16) #[] #[]) [v15, x0] q13.2).bind fun r16 =>
some ([r16.1], r16.2)) (some ([undef], q13.2))).bind fun q17 =>
(apick v14 (getL q17.1 0) (.bool false)).bind fun v18 =>
(guardV v18 true ((abin Try.prog .eql 9 (.tmp 34) (.tmp 35) x1 x0).bind fun v19 =>
some ([v19], q17.2)) (some ([undef], q17.2))).bind fun q20 =>
(guardV (getL q20.1 0) false ((lload true 2 lptr v4).bind fun v21 =>
(callV Try.prog R (.func (.func 16) #[] #[]) [v21, x1] q20.2).bind fun r22 =>
(aun .not r22.1).bind fun v23 =>
some ([v23], r22.2)) (some ([undef], q20.2))).bind fun q24 =>
(guardV v18 true ((apick (getL q20.1 0) (.bool true) (getL q24.1 0)).bind fun v25 =>
some ([v25], q24.2)) (some ([undef], q24.2))).bind fun q26 =>
(apick v18 (getL q26.1 0) (.bool false)).bind fun v27 =>
retV [v27] q26.2)

theorem law02_SpanPoints_of {lib : Lib} (hl : lib 5 = none) {x0 x1 : Value} {s : St} {r : Value × St} (h : law02_SpanPoints (run Try.prog lib hints) x0 x1 s = some r) : run Try.prog lib hints 5 [x0, x1] s = some r :=
  run_of hl Try.func5 (Eq.trans (by kernel_rfl) h)

theorem law02_SpanPoints_ok : funcOk Try.prog 5 = true := by kernel_rfl
theorem law02_SpanPoints_call {R : Caller} {xs : List Value} {s : St} : callV Try.prog R (.func (.func 5) #[] #[]) xs s = R 5 xs s := callV_eq law02_SpanPoints_ok

/-! ### sumpter/sumpterlaw02.SpanParts: 6 -/

noncomputable def law02_SpanParts (R : Caller) (x0 x1 x2 : Value) (s : St) : Option (Value × St) :=
(lbox x0).bind fun v0 =>
(lbox x1).bind fun v1 =>
(lbox x2).bind fun v2 =>
(callV Try.prog R (.func (.func 11) #[] #[]) [] s).bind fun r3 =>
(lload true 2 lptr v0).bind fun v4 =>
(lload true 2 lptr v1).bind fun v5 =>
(callV Try.prog R (.func (.func 22) #[] #[]) [v4, v5] r3.2).bind fun r6 =>
(aextract 0 r6.1).bind fun v7 =>
(aextract 1 r6.1).bind fun v8 =>
(lstore 2 lptr v7 (.agg #[(.string ⟨#[]⟩), (.string ⟨#[]⟩)])).bind fun v9 =>
(lload true 2 lptr v1).bind fun v10 =>
(lload true 2 lptr v2).bind fun v11 =>
(callV Try.prog R (.func (.func 22) #[] #[]) [v10, v11] r6.2).bind fun r12 =>
(aextract 0 r12.1).bind fun v13 =>
(aextract 1 r12.1).bind fun v14 =>
(lstore 2 lptr v13 (.agg #[(.string ⟨#[]⟩), (.string ⟨#[]⟩)])).bind fun v15 =>
(aun .not v8).bind fun v16 =>
(guardV v16 false ((aun .not v14).bind fun v17 =>
some ([v17], r12.2)) (some ([undef], r12.2))).bind fun q18 =>
(apick v16 (.bool true) (getL q18.1 0)).bind fun v19 =>
condV v19
 (retV [r3.1] q18.2)
 ((lload true 2 lptr v9).bind fun v20 =>
(lload true 2 lptr v2).bind fun v21 =>
(callV Try.prog R (.func (.func 22) #[] #[]) [v20, v21] q18.2).bind fun r22 =>
(aextract 0 r22.1).bind fun v23 =>
(aextract 1 r22.1).bind fun v24 =>
(lstore 2 lptr v23 (.agg #[(.string ⟨#[]⟩), (.string ⟨#[]⟩)])).bind fun v25 =>
(lload true 2 lptr v0).bind fun v26 =>
(lload true 2 lptr v15).bind fun v27 =>
(callV Try.prog R (.func (.func 22) #[] #[]) [v26, v27] r22.2).bind fun r28 =>
(aextract 0 r28.1).bind fun v29 =>
(aextract 1 r28.1).bind fun v30 =>
(lstore 2 lptr v29 (.agg #[(.string ⟨#[]⟩), (.string ⟨#[]⟩)])).bind fun v31 =>
(guardV r3.1 true ((lload true 2 lptr v25).bind fun v32 =>
(lload true 2 lptr v31).bind fun v33 =>
(abin Try.prog .eql 23 (.tmp 50) (.tmp 51) v32 v33).bind fun v34 =>
some ([v34], r28.2)) (some ([undef], r28.2))).bind fun q35 =>
(apick r3.1 (getL q35.1 0) (.bool false)).bind fun v36 =>
(guardV v36 true ((abin Try.prog .eql 4 (.tmp 55) (.tmp 56) v24 v30).bind fun v37 =>
some ([v37], q35.2)) (some ([undef], q35.2))).bind fun q38 =>
(apick v36 (getL q38.1 0) (.bool false)).bind fun v39 =>
retV [v39] q38.2)

theorem law02_SpanParts_of {lib : Lib} (hl : lib 6 = none) {x0 x1 x2 : Value} {s : St} {r : Value × St} (h : law02_SpanParts (run Try.prog lib hints) x0 x1 x2 s = some r) : run Try.prog lib hints 6 [x0, x1, x2] s = some r :=
  run_of hl Try.func6 (Eq.trans (by kernel_rfl) h)

theorem law02_SpanParts_ok : funcOk Try.prog 6 = true := by kernel_rfl
theorem law02_SpanParts_call {R : Caller} {xs : List Value} {s : St} : callV Try.prog R (.func (.func 6) #[] #[]) xs s = R 6 xs s := callV_eq law02_SpanParts_ok

/-! ### sumpter/sumpterlaw02.SpanNext: 7 -/

noncomputable def law02_SpanNext (R : Caller) (x0 x1 : Value) (s : St) : Option (Value × St) :=
(callV Try.prog R (.func (.func 11) #[] #[]) [] s).bind fun r0 =>
(callV Try.prog R (.func (.func 18) #[] #[]) [x0] r0.2).bind fun r1 =>
(aextract 0 r1.1).bind fun v2 =>
(aextract 1 r1.1).bind fun v3 =>
(lstore 2 lptr v2 (.agg #[(.string ⟨#[]⟩), (.string ⟨#[]⟩)])).bind fun v4 =>
(abin Try.prog .neq 25 (.tmp 14) (.const (.int .i64 0)) v3 (.int .i64 0)).bind fun v5 =>
(guardV v5 false ((callV Try.prog R (.func (.func 12) #[] #[]) [x1] r1.2).bind fun r6 =>
(abin Try.prog .neq 25 (.tmp 18) (.const (.int .i64 0)) r6.1 (.int .i64 0)).bind fun v7 =>
some ([v7], r6.2)) (some ([undef], r1.2))).bind fun q8 =>
(apick v5 (.bool true) (getL q8.1 0)).bind fun v9 =>
condV v9
 (retV [r0.1] q8.2)
 ((guardV r0.1 true ((lload false 1 lptr v4).bind fun v10 =>
(abin Try.prog .eql 9 (.tmp 25) (.tmp 26) v10 x0).bind fun v11 =>
some ([v11], q8.2)) (some ([undef], q8.2))).bind fun q12 =>
(apick r0.1 (getL q12.1 0) (.bool false)).bind fun v13 =>
(guardV v13 true ((abin Try.prog .leq 9 (.tmp 30) (.tmp 31) x1 x0).bind fun v14 =>
some ([v14], q12.2)) (some ([undef], q12.2))).bind fun q15 =>
(guardV (getL q15.1 0) false ((lload false 1 (.pointer (some ⟨0, 1, none⟩)) v4).bind fun v16 =>
(abin Try.prog .neq 9 (.tmp 35) (.const (.string ⟨#[]⟩)) v16 (.string ⟨#[]⟩)).bind fun v17 =>
some ([v17], q15.2)) (some ([undef], q15.2))).bind fun q18 =>
(guardV (getL q18.1 0) true ((lload false 1 (.pointer (some ⟨0, 1, none⟩)) v4).bind fun v19 =>
(abin Try.prog .geq 9 (.tmp 38) (.tmp 40) x1 v19).bind fun v20 =>
some ([v20], q18.2)) (some ([undef], q18.2))).bind fun q21 =>
(guardV (getL q15.1 0) false ((apick (getL q18.1 0) (getL q21.1 0) (.bool false)).bind fun v22 =>
some ([v22], q21.2)) (some ([undef], q21.2))).bind fun q23 =>
(guardV v13 true ((apick (getL q15.1 0) (.bool true) (getL q23.1 0)).bind fun v24 =>
some ([v24], q23.2)) (some ([undef], q23.2))).bind fun q25 =>
(apick v13 (getL q25.1 0) (.bool false)).bind fun v26 =>
(guardV v26 true ((lload false 1 (.pointer (some ⟨0, 1, none⟩)) v4).bind fun v27 =>
(abin Try.prog .eql 9 (.tmp 47) (.const (.string ⟨#[]⟩)) v27 (.string ⟨#[]⟩)).bind fun v28 =>
some ([v28], q25.2)) (some ([undef], q25.2))).bind fun q29 =>
(guardV (getL q29.1 0) false ((lload false 1 (.pointer (some ⟨0, 1, none⟩)) v4).bind fun v30 =>
(abin Try.prog .gtr 9 (.tmp 51) (.tmp 52) v30 x0).bind fun v31 =>
some ([v31], q29.2)) (some ([undef], q29.2))).bind fun q32 =>
(guardV v26 true ((apick (getL q29.1 0) (.bool true) (getL q32.1 0)).bind fun v33 =>
some ([v33], q32.2)) (some ([undef], q32.2))).bind fun q34 =>
(apick v26 (getL q34.1 0) (.bool false)).bind fun v35 =>
retV [v35] q34.2)

theorem law02_SpanNext_of {lib : Lib} (hl : lib 7 = none) {x0 x1 : Value} {s : St} {r : Value × St} (h : law02_SpanNext (run Try.prog lib hints) x0 x1 s = some r) : run Try.prog lib hints 7 [x0, x1] s = some r :=
  run_of hl Try.func7 (Eq.trans (by kernel_rfl) h)

theorem law02_SpanNext_ok : funcOk Try.prog 7 = true := by kernel_rfl
theorem law02_SpanNext_call {R : Caller} {xs : List Value} {s : St} : callV Try.prog R (.func (.func 7) #[] #[]) xs s = R 7 xs s := callV_eq law02_SpanNext_ok

/-! ### sumpter/sumpterlaw02.SpanMeets: 8 -/

noncomputable def law02_SpanMeets (R : Caller) (x0 x1 : Value) (s : St) : Option (Value × St) :=
(lbox x0).bind fun v0 =>
(lbox x1).bind fun v1 =>
(callV Try.prog R (.func (.func 11) #[] #[]) [] s).bind fun r2 =>
(lload true 2 lptr v0).bind fun v3 =>
(lload true 2 lptr v1).bind fun v4 =>
(callV Try.prog R (.func (.func 22) #[] #[]) [v3, v4] r2.2).bind fun r5 =>
(aextract 0 r5.1).bind fun v6 =>
(aextract 1 r5.1).bind fun v7 =>
(lstore 2 lptr v6 (.agg #[(.string ⟨#[]⟩), (.string ⟨#[]⟩)])).bind fun v8 =>
(lload true 2 lptr v0).bind fun v9 =>
(lload true 2 lptr v1).bind fun v10 =>
(callV Try.prog R (.func (.func 23) #[] #[]) [v9, v10] r5.2).bind fun r11 =>
(aextract 0 r11.1).bind fun v12 =>
(aextract 1 r11.1).bind fun v13 =>
(lstore 2 lptr v12 (.agg #[(.string ⟨#[]⟩), (.string ⟨#[]⟩)])).bind fun v14 =>
(guardV r2.1 true ((lload true 2 lptr v8).bind fun v15 =>
some ([v15], r11.2)) (some ([undef], r11.2))).bind fun q16 =>
(guardV r2.1 true ((lload true 2 lptr v14).bind fun v17 =>
some ([v17], q16.2)) (some ([undef], q16.2))).bind fun q18 =>
(guardV r2.1 true ((abin Try.prog .eql 23 (.tmp 25) (.tmp 26) (getL q16.1 0) (getL q18.1 0)).bind fun v19 =>
some ([v19], q18.2)) (some ([undef], q18.2))).bind fun q20 =>
(apick r2.1 (getL q20.1 0) (.bool false)).bind fun v21 =>
(guardV v21 true (some ([v7], q20.2)) (some ([undef], q20.2))).bind fun q22 =>
(guardV v21 true (some ([v13], q22.2)) (some ([undef], q22.2))).bind fun q23 =>
(guardV v21 true ((abin Try.prog .eql 4 (.tmp 30) (.tmp 31) (getL q22.1 0) (getL q23.1 0)).bind fun v24 =>
some ([v24], q23.2)) (some ([undef], q23.2))).bind fun q25 =>
(apick v21 (getL q25.1 0) (.bool false)).bind fun v26 =>
(guardV v26 true ((lload true 2 lptr v0).bind fun v27 =>
some ([v27], q25.2)) (some ([undef], q25.2))).bind fun q28 =>
(guardV v26 true ((lload true 2 lptr v1).bind fun v29 =>
some ([v29], q28.2)) (some ([undef], q28.2))).bind fun q30 =>
((guardV v26 true ((callV Try.prog R (.func (.func 24) #[] #[]) [(getL q28.1 0), (getL q30.1 0)] q30.2).bind fun r41 =>
some (r41.1, r41.2)) (some (undef, q30.2))).bind (ownR q30.2)).bind fun r31 =>
(guardV v26 true ((lload true 2 lptr v0).bind fun v32 =>
some ([v32], r31.2)) (some ([undef], r31.2))).bind fun q33 =>
(guardV v26 true ((lload true 2 lptr v1).bind fun v34 =>
some ([v34], q33.2)) (some ([undef], q33.2))).bind fun q35 =>
((guardV v26 true ((callV Try.prog R (.func (.func 25) #[] #[]) [(getL q33.1 0), (getL q35.1 0)] q35.2).bind fun r40 =>
some (r40.1, r40.2)) (some (undef, q35.2))).bind (ownR q35.2)).bind fun r36 =>
(guardV v26 true ((abin Try.prog .eql 4 (.tmp 37) (.tmp 40) r31.1 r36.1).bind fun v37 =>
some ([v37], r36.2)) (some ([undef], r36.2))).bind fun q38 =>
(apick v26 (getL q38.1 0) (.bool false)).bind fun v39 =>
retV [v39] q38.2

theorem law02_SpanMeets_of {lib : Lib} (hl : lib 8 = none) {x0 x1 : Value} {s : St} {r : Value × St} (h : law02_SpanMeets (run Try.prog lib hints) x0 x1 s = some r) : run Try.prog lib hints 8 [x0, x1] s = some r :=
  run_of hl Try.func8 (Eq.trans (by kernel_rfl) h)

theorem law02_SpanMeets_ok : funcOk Try.prog 8 = true := by kernel_rfl
theorem law02_SpanMeets_call {R : Caller} {xs : List Value} {s : St} : callV Try.prog R (.func (.func 8) #[] #[]) xs s = R 8 xs s := callV_eq law02_SpanMeets_ok

/-! ### sumpter/sumpterlaw02.SpanBoth: 9 -/

noncomputable def law02_SpanBoth (R : Caller) (x0 x1 x2 x3 : Value) (s : St) : Option (Value × St) :=
(lbox x0).bind fun v0 =>
(lbox x1).bind fun v1 =>
(callV Try.prog R (.func (.func 11) #[] #[]) [] s).bind fun r2 =>
(lload true 2 lptr v0).bind fun v3 =>
(lload true 2 lptr v1).bind fun v4 =>
(callV Try.prog R (.func (.func 22) #[] #[]) [v3, v4] r2.2).bind fun r5 =>
(aextract 0 r5.1).bind fun v6 =>
(aextract 1 r5.1).bind fun v7 =>
(lstore 2 lptr v6 (.agg #[(.string ⟨#[]⟩), (.string ⟨#[]⟩)])).bind fun v8 =>
(lload true 2 lptr v1).bind fun v9 =>
(lload true 2 lptr v0).bind fun v10 =>
(callV Try.prog R (.func (.func 22) #[] #[]) [v9, v10] r5.2).bind fun r11 =>
(aextract 0 r11.1).bind fun v12 =>
(aextract 1 r11.1).bind fun v13 =>
(lstore 2 lptr v12 (.agg #[(.string ⟨#[]⟩), (.string ⟨#[]⟩)])).bind fun v14 =>
(lload true 2 lptr v0).bind fun v15 =>
(callV Try.prog R (.func (.func 16) #[] #[]) [v15, x2] r11.2).bind fun r16 =>
(guardV r16.1 true ((lload true 2 lptr v1).bind fun v17 =>
(callV Try.prog R (.func (.func 16) #[] #[]) [v17, x2] r16.2).bind fun r18 =>
some ([r18.1], r18.2)) (some ([undef], r16.2))).bind fun q19 =>
(apick r16.1 (getL q19.1 0) (.bool false)).bind fun v20 =>
(lload true 2 lptr v8).bind fun v21 =>
(lload true 2 lptr v14).bind fun v22 =>
(abin Try.prog .neq 23 (.tmp 39) (.tmp 40) v21 v22).bind fun v23 =>
(guardV v23 false ((abin Try.prog .neq 4 (.tmp 43) (.tmp 44) v7 v13).bind fun v24 =>
some ([v24], q19.2)) (some ([undef], q19.2))).bind fun q25 =>
(apick v23 (.bool true) (getL q25.1 0)).bind fun v26 =>
(guardV v26 false (some ([v20, v7], q25.2)) (some ([undef, undef], q25.2))).bind fun q27 =>
(guardV (getL q27.1 1) true ((lload true 2 lptr v8).bind fun v28 =>
(callV Try.prog R (.func (.func 16) #[] #[]) [v28, x2] q27.2).bind fun r29 =>
some ([r29.1], r29.2)) (some ([undef], q27.2))).bind fun q30 =>
(guardV v26 false ((apick (getL q27.1 1) (getL q30.1 0) (.bool false)).bind fun v31 =>
(abin Try.prog .neq 4 (.tmp 48) (.tmp 54) (getL q27.1 0) v31).bind fun v32 =>
some ([v32], q30.2)) (some ([undef], q30.2))).bind fun q33 =>
(apick v26 (.bool true) (getL q33.1 0)).bind fun v34 =>
(guardV v34 false ((lload true 2 lptr v0).bind fun v35 =>
(lload true 2 lptr v1).bind fun v36 =>
(callV Try.prog R (.func (.func 24) #[] #[]) [v35, v36] q33.2).bind fun r37 =>
some ([r37.1], r37.2)) (some ([undef], q33.2))).bind fun q38 =>
(guardV (getL q38.1 0) true ((aun .not v7).bind fun v39 =>
some ([v39], q38.2)) (some ([undef], q38.2))).bind fun q40 =>
(guardV (getL q40.1 0) false ((lload true 2 lptr v8).bind fun v41 =>
(lload true 2 lptr v1).bind fun v42 =>
(abin Try.prog .neq 23 (.tmp 65) (.tmp 66) v41 v42).bind fun v43 =>
some ([v43], q40.2)) (some ([undef], q40.2))).bind fun q44 =>
(guardV (getL q38.1 0) true ((apick (getL q40.1 0) (.bool true) (getL q44.1 0)).bind fun v45 =>
some ([v45], q44.2)) (some ([undef], q44.2))).bind fun q46 =>
(guardV v34 false ((apick (getL q38.1 0) (getL q46.1 0) (.bool false)).bind fun v47 =>
some ([v47], q46.2)) (some ([undef], q46.2))).bind fun q48 =>
(apick v34 (.bool true) (getL q48.1 0)).bind fun v49 =>
condV v49
 (retV [(.bool false)] q48.2)
 ((lload true 2 lptr v0).bind fun v50 =>
(callV Try.prog R (.func (.func 20) #[] #[]) [v50, x3] q48.2).bind fun r51 =>
(aextract 0 r51.1).bind fun v52 =>
(aextract 1 r51.1).bind fun v53 =>
(aextract 2 r51.1).bind fun v54 =>
(lstore 2 lptr v52 (.agg #[(.string ⟨#[]⟩), (.string ⟨#[]⟩)])).bind fun v55 =>
(lstore 2 lptr v53 (.agg #[(.string ⟨#[]⟩), (.string ⟨#[]⟩)])).bind fun v56 =>
(abin Try.prog .neq 25 (.tmp 78) (.const (.int .i64 0)) v54 (.int .i64 0)).bind fun v57 =>
condV v57
 (retV [r2.1] r51.2)
 ((guardV r2.1 true ((lload true 2 lptr v0).bind fun v58 =>
some ([v58], r51.2)) (some ([undef], r51.2))).bind fun q59 =>
(guardV r2.1 true (some ([x2], q59.2)) (some ([undef], q59.2))).bind fun q60 =>
((guardV r2.1 true ((callV Try.prog R (.func (.func 16) #[] #[]) [(getL q59.1 0), (getL q60.1 0)] q60.2).bind fun r95 =>
some (r95.1, r95.2)) (some (undef, q60.2))).bind (ownR q60.2)).bind fun r61 =>
(guardV r2.1 true ((lload true 2 lptr v55).bind fun v62 =>
some ([v62], r61.2)) (some ([undef], r61.2))).bind fun q63 =>
(guardV r2.1 true (some ([x2], q63.2)) (some ([undef], q63.2))).bind fun q64 =>
((guardV r2.1 true ((callV Try.prog R (.func (.func 16) #[] #[]) [(getL q63.1 0), (getL q64.1 0)] q64.2).bind fun r94 =>
some (r94.1, r94.2)) (some (undef, q64.2))).bind (ownR q64.2)).bind fun r65 =>
(guardV r2.1 true ((lload true 2 lptr v56).bind fun v66 =>
some ([v66], r65.2)) (some ([undef], r65.2))).bind fun q67 =>
(guardV r2.1 true (some ([x2], q67.2)) (some ([undef], q67.2))).bind fun q68 =>
((guardV r2.1 true ((callV Try.prog R (.func (.func 16) #[] #[]) [(getL q67.1 0), (getL q68.1 0)] q68.2).bind fun r93 =>
some (r93.1, r93.2)) (some (undef, q68.2))).bind (ownR q68.2)).bind fun r69 =>
(guardV r2.1 true ((abin Try.prog .neq 4 (.tmp 88) (.tmp 91) r65.1 r69.1).bind fun v70 =>
some ([v70], r69.2)) (some ([undef], r69.2))).bind fun q71 =>
(guardV r2.1 true ((abin Try.prog .eql 4 (.tmp 85) (.tmp 92) r61.1 (getL q71.1 0)).bind fun v72 =>
some ([v72], q71.2)) (some ([undef], q71.2))).bind fun q73 =>
(apick r2.1 (getL q73.1 0) (.bool false)).bind fun v74 =>
(guardV v74 true ((lload true 2 lptr v55).bind fun v75 =>
some ([v75], q73.2)) (some ([undef], q73.2))).bind fun q76 =>
(guardV v74 true (some ([x2], q76.2)) (some ([undef], q76.2))).bind fun q77 =>
((guardV v74 true ((callV Try.prog R (.func (.func 16) #[] #[]) [(getL q76.1 0), (getL q77.1 0)] q77.2).bind fun r92 =>
some (r92.1, r92.2)) (some (undef, q77.2))).bind (ownR q77.2)).bind fun r78 =>
(guardV v74 true ((aun .not r78.1).bind fun v79 =>
some ([v79], r78.2)) (some ([undef], r78.2))).bind fun q80 =>
(guardV v74 true (some ([(getL q80.1 0)], q80.2)) (some ([undef], q80.2))).bind fun q81 =>
(guardV (getL q81.1 0) false ((lload true 2 lptr v56).bind fun v82 =>
some ([v82], q81.2)) (some ([undef], q81.2))).bind fun q83 =>
(guardV (getL q81.1 0) false (some ([x2], q83.2)) (some ([undef], q83.2))).bind fun q84 =>
((guardV (getL q81.1 0) false ((callV Try.prog R (.func (.func 16) #[] #[]) [(getL q83.1 0), (getL q84.1 0)] q84.2).bind fun r91 =>
some (r91.1, r91.2)) (some (undef, q84.2))).bind (ownR q84.2)).bind fun r85 =>
(guardV (getL q81.1 0) false ((aun .not r85.1).bind fun v86 =>
some ([v86], r85.2)) (some ([undef], r85.2))).bind fun q87 =>
(guardV v74 true ((apick (getL q81.1 0) (.bool true) (getL q87.1 0)).bind fun v88 =>
some ([v88], q87.2)) (some ([undef], q87.2))).bind fun q89 =>
(apick v74 (getL q89.1 0) (.bool false)).bind fun v90 =>
retV [v90] q89.2))

theorem law02_SpanBoth_of {lib : Lib} (hl : lib 9 = none) {x0 x1 x2 x3 : Value} {s : St} {r : Value × St} (h : law02_SpanBoth (run Try.prog lib hints) x0 x1 x2 x3 s = some r) : run Try.prog lib hints 9 [x0, x1, x2, x3] s = some r :=
  run_of hl Try.func9 (Eq.trans (by kernel_rfl) h)

theorem law02_SpanBoth_ok : funcOk Try.prog 9 = true := by kernel_rfl
theorem law02_SpanBoth_call {R : Caller} {xs : List Value} {s : St} : callV Try.prog R (.func (.func 9) #[] #[]) xs s = R 9 xs s := callV_eq law02_SpanBoth_ok

/-! ### sumpter/sumpterlaw02.SpanWhole: 10 -/

noncomputable def law02_SpanWhole (R : Caller) (x0 x1 x2 x3 : Value) (s : St) : Option (Value × St) :=
(lbox x0).bind fun v0 =>
(lbox x1).bind fun v1 =>
(lbox x2).bind fun v2 =>
(callV Try.prog R (.func (.func 11) #[] #[]) [] s).bind fun r3 =>
(lload true 2 lptr v0).bind fun v4 =>
(((callV Try.prog R (.func (.func 24) #[] #[]) [(.agg #[(.string ⟨#[]⟩), (.string ⟨#[]⟩)]), v4] r3.2).bind fun r61 =>
some (r61.1, r61.2)).bind (ownR r3.2)).bind fun r5 =>
(lload true 2 lptr v0).bind fun v6 =>
(((callV Try.prog R (.func (.func 14) #[] #[]) [v6] r5.2).bind fun r60 =>
some (r60.1, r60.2)).bind (ownR r5.2)).bind fun r7 =>
(abin Try.prog .eql 25 (.tmp 17) (.const (.int .i64 0)) r7.1 (.int .i64 0)).bind fun v8 =>
(abin Try.prog .neq 4 (.tmp 15) (.tmp 18) r5.1 v8).bind fun v9 =>
(guardV v9 false (some ([(.agg #[(.string ⟨#[]⟩), (.string ⟨#[]⟩)])], r7.2)) (some ([undef], r7.2))).bind fun q10 =>
(guardV v9 false (some ([x3], q10.2)) (some ([undef], q10.2))).bind fun q11 =>
((guardV v9 false ((callV Try.prog R (.func (.func 16) #[] #[]) [(getL q10.1 0), (getL q11.1 0)] q11.2).bind fun r59 =>
some (r59.1, r59.2)) (some (undef, q11.2))).bind (ownR q11.2)).bind fun r12 =>
(guardV v9 false (some ([x3], r12.2)) (some ([undef], r12.2))).bind fun q13 =>
((guardV v9 false ((callV Try.prog R (.func (.func 12) #[] #[]) [(getL q13.1 0)] q13.2).bind fun r58 =>
some (r58.1, r58.2)) (some (undef, q13.2))).bind (ownR q13.2)).bind fun r14 =>
(guardV v9 false ((abin Try.prog .eql 25 (.tmp 25) (.const (.int .i64 0)) r14.1 (.int .i64 0)).bind fun v15 =>
some ([v15], r14.2)) (some ([undef], r14.2))).bind fun q16 =>
(guardV v9 false ((abin Try.prog .neq 4 (.tmp 23) (.tmp 26) r12.1 (getL q16.1 0)).bind fun v17 =>
some ([v17], q16.2)) (some ([undef], q16.2))).bind fun q18 =>
(apick v9 (.bool true) (getL q18.1 0)).bind fun v19 =>
condV v19
 (retV [(.bool false)] q18.2)
 ((guardV r3.1 true ((lload true 2 lptr v0).bind fun v20 =>
(lload true 2 lptr v1).bind fun v21 =>
(callV Try.prog R (.func (.func 24) #[] #[]) [v20, v21] q18.2).bind fun r22 =>
(aun .not r22.1).bind fun v23 =>
some ([v23], r22.2)) (some ([undef], q18.2))).bind fun q24 =>
(guardV (getL q24.1 0) false ((lload true 2 lptr v1).bind fun v25 =>
(lload true 2 lptr v2).bind fun v26 =>
(callV Try.prog R (.func (.func 24) #[] #[]) [v25, v26] q24.2).bind fun r27 =>
(aun .not r27.1).bind fun v28 =>
some ([v28], r27.2)) (some ([undef], q24.2))).bind fun q29 =>
(guardV r3.1 true ((apick (getL q24.1 0) (.bool true) (getL q29.1 0)).bind fun v30 =>
some ([v30], q29.2)) (some ([undef], q29.2))).bind fun q31 =>
(guardV (getL q31.1 0) false ((lload true 2 lptr v0).bind fun v32 =>
(lload true 2 lptr v2).bind fun v33 =>
(callV Try.prog R (.func (.func 24) #[] #[]) [v32, v33] q31.2).bind fun r34 =>
some ([r34.1], r34.2)) (some ([undef], q31.2))).bind fun q35 =>
(guardV r3.1 true ((apick (getL q31.1 0) (.bool true) (getL q35.1 0)).bind fun v36 =>
some ([v36], q35.2)) (some ([undef], q35.2))).bind fun q37 =>
(apick r3.1 (getL q37.1 0) (.bool false)).bind fun v38 =>
(guardV v38 true ((lload true 2 lptr v0).bind fun v39 =>
(lload true 2 lptr v1).bind fun v40 =>
(callV Try.prog R (.func (.func 24) #[] #[]) [v39, v40] q37.2).bind fun r41 =>
(aun .not r41.1).bind fun v42 =>
some ([v42], r41.2)) (some ([undef], q37.2))).bind fun q43 =>
(guardV (getL q43.1 0) false ((lload true 2 lptr v1).bind fun v44 =>
(lload true 2 lptr v0).bind fun v45 =>
(callV Try.prog R (.func (.func 24) #[] #[]) [v44, v45] q43.2).bind fun r46 =>
(aun .not r46.1).bind fun v47 =>
some ([v47], r46.2)) (some ([undef], q43.2))).bind fun q48 =>
(guardV v38 true ((apick (getL q43.1 0) (.bool true) (getL q48.1 0)).bind fun v49 =>
some ([v49], q48.2)) (some ([undef], q48.2))).bind fun q50 =>
(guardV (getL q50.1 0) false ((lload true 2 lptr v0).bind fun v51 =>
(lload true 2 lptr v1).bind fun v52 =>
(abin Try.prog .eql 23 (.tmp 59) (.tmp 60) v51 v52).bind fun v53 =>
some ([v53], q50.2)) (some ([undef], q50.2))).bind fun q54 =>
(guardV v38 true ((apick (getL q50.1 0) (.bool true) (getL q54.1 0)).bind fun v55 =>
some ([v55], q54.2)) (some ([undef], q54.2))).bind fun q56 =>
(apick v38 (getL q56.1 0) (.bool false)).bind fun v57 =>
retV [v57] q56.2)

theorem law02_SpanWhole_of {lib : Lib} (hl : lib 10 = none) {x0 x1 x2 x3 : Value} {s : St} {r : Value × St} (h : law02_SpanWhole (run Try.prog lib hints) x0 x1 x2 x3 s = some r) : run Try.prog lib hints 10 [x0, x1, x2, x3] s = some r :=
  run_of hl Try.func10 (Eq.trans (by kernel_rfl) h)

theorem law02_SpanWhole_ok : funcOk Try.prog 10 = true := by kernel_rfl
theorem law02_SpanWhole_call {R : Caller} {xs : List Value} {s : St} : callV Try.prog R (.func (.func 10) #[] #[]) xs s = R 10 xs s := callV_eq law02_SpanWhole_ok

/-! ### sumpter/sumpterlaw02.live: 11 -/

noncomputable def law02_live (R : Caller) (s : St) : Option (Value × St) :=
(callV Try.prog R (.func (.func 18) #[] #[]) [(.string ⟨#[97]⟩)] s).bind fun r0 =>
(aextract 0 r0.1).bind fun v1 =>
(aextract 1 r0.1).bind fun v2 =>
(lstore 2 lptr v1 (.agg #[(.string ⟨#[]⟩), (.string ⟨#[]⟩)])).bind fun v3 =>
(callV Try.prog R (.func (.func 22) #[] #[]) [(.agg #[(.string ⟨#[97]⟩), (.string ⟨#[109]⟩)]), (.agg #[(.string ⟨#[103]⟩), (.string ⟨#[]⟩)])] r0.2).bind fun r4 =>
(aextract 0 r4.1).bind fun v5 =>
(aextract 1 r4.1).bind fun v6 =>
(lstore 2 lptr v5 (.agg #[(.string ⟨#[]⟩), (.string ⟨#[]⟩)])).bind fun v7 =>
(callV Try.prog R (.func (.func 22) #[] #[]) [(.agg #[(.string ⟨#[97]⟩), (.string ⟨#[103]⟩)]), (.agg #[(.string ⟨#[103]⟩), (.string ⟨#[]⟩)])] r4.2).bind fun r8 =>
(aextract 0 r8.1).bind fun v9 =>
(aextract 1 r8.1).bind fun v10 =>
(lstore 2 lptr v9 (.agg #[(.string ⟨#[]⟩), (.string ⟨#[]⟩)])).bind fun v11 =>
(callV Try.prog R (.func (.func 20) #[] #[]) [(.agg #[(.string ⟨#[]⟩), (.string ⟨#[109]⟩)]), (.string ⟨#[103]⟩)] r8.2).bind fun r12 =>
(aextract 0 r12.1).bind fun v13 =>
(aextract 1 r12.1).bind fun v14 =>
(aextract 2 r12.1).bind fun v15 =>
(lstore 2 lptr v13 (.agg #[(.string ⟨#[]⟩), (.string ⟨#[]⟩)])).bind fun v16 =>
(lstore 2 lptr v14 (.agg #[(.string ⟨#[]⟩), (.string ⟨#[]⟩)])).bind fun v17 =>
(callV Try.prog R (.func (.func 20) #[] #[]) [(.agg #[(.string ⟨#[]⟩), (.string ⟨#[109]⟩)]), (.string ⟨#[109]⟩)] r12.2).bind fun r18 =>
(aextract 0 r18.1).bind fun v19 =>
(aextract 1 r18.1).bind fun v20 =>
(aextract 2 r18.1).bind fun v21 =>
(lstore 2 lptr v19 (.agg #[(.string ⟨#[]⟩), (.string ⟨#[]⟩)])).bind fun v22 =>
(lstore 2 lptr v20 (.agg #[(.string ⟨#[]⟩), (.string ⟨#[]⟩)])).bind fun v23 =>
(lload true 2 lptr v3).bind fun v24 =>
(abin Try.prog .eql 23 (.tmp 41) (.tmp 42) v24 (.agg #[(.string ⟨#[97]⟩), (.string ⟨#[97, 0]⟩)])).bind fun v25 =>
(guardV v25 true ((abin Try.prog .eql 25 (.tmp 45) (.const (.int .i64 0)) v2 (.int .i64 0)).bind fun v26 =>
some ([v26], r18.2)) (some ([undef], r18.2))).bind fun q27 =>
(apick v25 (getL q27.1 0) (.bool false)).bind fun v28 =>
(guardV v28 true ((lload true 2 lptr v7).bind fun v29 =>
(abin Try.prog .eql 23 (.tmp 49) (.tmp 50) v29 (.agg #[(.string ⟨#[103]⟩), (.string ⟨#[109]⟩)])).bind fun v30 =>
some ([v30], q27.2)) (some ([undef], q27.2))).bind fun q31 =>
(apick v28 (getL q31.1 0) (.bool false)).bind fun v32 =>
(guardV v32 true (some ([v6], q31.2)) (some ([undef], q31.2))).bind fun q33 =>
(apick v32 (getL q33.1 0) (.bool false)).bind fun v34 =>
(guardV v34 true ((aun .not v10).bind fun v35 =>
some ([v35], q33.2)) (some ([undef], q33.2))).bind fun q36 =>
(apick v34 (getL q36.1 0) (.bool false)).bind fun v37 =>
(guardV v37 true ((lload true 2 lptr v16).bind fun v38 =>
(abin Try.prog .eql 23 (.tmp 61) (.tmp 62) v38 (.agg #[(.string ⟨#[]⟩), (.string ⟨#[103]⟩)])).bind fun v39 =>
some ([v39], q36.2)) (some ([undef], q36.2))).bind fun q40 =>
(apick v37 (getL q40.1 0) (.bool false)).bind fun v41 =>
(guardV v41 true ((lload true 2 lptr v17).bind fun v42 =>
(abin Try.prog .eql 23 (.tmp 66) (.tmp 67) v42 (.agg #[(.string ⟨#[103]⟩), (.string ⟨#[109]⟩)])).bind fun v43 =>
some ([v43], q40.2)) (some ([undef], q40.2))).bind fun q44 =>
(apick v41 (getL q44.1 0) (.bool false)).bind fun v45 =>
(guardV v45 true ((abin Try.prog .eql 25 (.tmp 71) (.const (.int .i64 0)) v15 (.int .i64 0)).bind fun v46 =>
some ([v46], q44.2)) (some ([undef], q44.2))).bind fun q47 =>
(apick v45 (getL q47.1 0) (.bool false)).bind fun v48 =>
(guardV v48 true ((abin Try.prog .eql 25 (.tmp 75) (.const (.int .i64 21)) v21 (.int .i64 21)).bind fun v49 =>
some ([v49], q47.2)) (some ([undef], q47.2))).bind fun q50 =>
(apick v48 (getL q50.1 0) (.bool false)).bind fun v51 =>
retV [v51] q50.2

theorem law02_live_of {lib : Lib} (hl : lib 11 = none) {s : St} {r : Value × St} (h : law02_live (run Try.prog lib hints)  s = some r) : run Try.prog lib hints 11 [] s = some r :=
  run_of hl Try.func11 (Eq.trans (by kernel_rfl) h)

theorem law02_live_ok : funcOk Try.prog 11 = true := by kernel_rfl
theorem law02_live_call {R : Caller} {xs : List Value} {s : St} : callV Try.prog R (.func (.func 11) #[] #[]) xs s = R 11 xs s := callV_eq law02_live_ok

/-! ### sumpter/span.CheckKey: 12 -/

noncomputable def span_CheckKey (R : Caller) (x0 : Value) (s : St) : Option (Value × St) :=
(abin Try.prog .eql 9 (.tmp 3) (.const (.string ⟨#[]⟩)) x0 (.string ⟨#[]⟩)).bind fun v0 =>
(guardV v0 false ((alenV .string x0 s).bind fun v1 =>
(abin Try.prog .gtr 3 (.tmp 7) (.const (.int .i64 12)) v1 (.int .i64 12)).bind fun v2 =>
some ([v2], s)) (some ([undef], s))).bind fun q3 =>
(apick v0 (.bool true) (getL q3.1 0)).bind fun v4 =>
condV v4
 (retV [(.int .i64 20)] q3.2)
 (retV [(.int .i64 0)] q3.2)

theorem span_CheckKey_of {lib : Lib} (hl : lib 12 = none) {x0 : Value} {s : St} {r : Value × St} (h : span_CheckKey (run Try.prog lib hints) x0 s = some r) : run Try.prog lib hints 12 [x0] s = some r :=
  run_of hl Try.func12 (Eq.trans (by kernel_rfl) h)

theorem span_CheckKey_ok : funcOk Try.prog 12 = true := by kernel_rfl
theorem span_CheckKey_call {R : Caller} {xs : List Value} {s : St} : callV Try.prog R (.func (.func 12) #[] #[]) xs s = R 12 xs s := callV_eq span_CheckKey_ok

/-! ### sumpter/sumpterref02.CheckKey: 13 -/

noncomputable def ref02_CheckKey (R : Caller) (x0 : Value) (s : St) : Option (Value × St) :=
(alenV .string x0 s).bind fun v0 =>
(abin Try.prog .lss 3 (.tmp 4) (.const (.int .i64 1)) v0 (.int .i64 1)).bind fun v1 =>
(guardV v1 false ((alenV .string x0 s).bind fun v2 =>
(abin Try.prog .gtr 3 (.tmp 8) (.const (.int .i64 12)) v2 (.int .i64 12)).bind fun v3 =>
some ([v3], s)) (some ([undef], s))).bind fun q4 =>
(apick v1 (.bool true) (getL q4.1 0)).bind fun v5 =>
condV v5
 (retV [(.int .i64 20)] q4.2)
 (retV [(.int .i64 0)] q4.2)

theorem ref02_CheckKey_of {lib : Lib} (hl : lib 13 = none) {x0 : Value} {s : St} {r : Value × St} (h : ref02_CheckKey (run Try.prog lib hints) x0 s = some r) : run Try.prog lib hints 13 [x0] s = some r :=
  run_of hl Try.func13 (Eq.trans (by kernel_rfl) h)

theorem ref02_CheckKey_ok : funcOk Try.prog 13 = true := by kernel_rfl
theorem ref02_CheckKey_call {R : Caller} {xs : List Value} {s : St} : callV Try.prog R (.func (.func 13) #[] #[]) xs s = R 13 xs s := callV_eq ref02_CheckKey_ok

/-! ### sumpter/span.Check: 14 -/

noncomputable def span_Check.j0 (R : Caller) (T : List Value) (s : St) : Option (Value × St) :=
condV (getL T 0)
 (retV [(.int .i64 21)] s)
 (retV [(.int .i64 0)] s)

noncomputable def span_Check (R : Caller) (x0 : Value) (s : St) : Option (Value × St) :=
(lbox x0).bind fun v0 =>
(lload true 2 lptr v0).bind fun v1 =>
(((callV Try.prog R (.func (.func 26) #[] #[]) [] s).bind fun r20 =>
some (r20.1, r20.2)).bind (ownR s)).bind fun r2 =>
(abin Try.prog .eql 23 (.tmp 4) (.tmp 5) v1 r2.1).bind fun v3 =>
condV v3
 (retV [(.int .i64 0)] r2.2)
 ((lload false 1 lptr v0).bind fun v5 =>
(alenV .string v5 r2.2).bind fun v6 =>
(abin Try.prog .gtr 3 (.tmp 10) (.const (.int .i64 12)) v6 (.int .i64 12)).bind fun v7 =>
(guardV v7 false ((lload false 1 (.pointer (some ⟨0, 1, none⟩)) v0).bind fun v8 =>
(alenV .string v8 r2.2).bind fun v9 =>
(abin Try.prog .gtr 3 (.tmp 15) (.const (.int .i64 12)) v9 (.int .i64 12)).bind fun v10 =>
some ([v10], r2.2)) (some ([undef], r2.2))).bind fun q11 =>
(apick v7 (.bool true) (getL q11.1 0)).bind fun v12 =>
condV v12
 (joinK (span_Check.j0 R) [v12] q11.2)
 ((lload false 1 (.pointer (some ⟨0, 1, none⟩)) v0).bind fun v13 =>
(abin Try.prog .neq 9 (.tmp 19) (.const (.string ⟨#[]⟩)) v13 (.string ⟨#[]⟩)).bind fun v14 =>
(guardV v14 true ((lload false 1 lptr v0).bind fun v15 =>
(lload false 1 (.pointer (some ⟨0, 1, none⟩)) v0).bind fun v16 =>
(abin Try.prog .geq 9 (.tmp 23) (.tmp 25) v15 v16).bind fun v17 =>
some ([v17], q11.2)) (some ([undef], q11.2))).bind fun q18 =>
(apick v14 (getL q18.1 0) (.bool false)).bind fun v19 =>
joinK (span_Check.j0 R) [v19] q18.2))

theorem span_Check_of {lib : Lib} (hl : lib 14 = none) {x0 : Value} {s : St} {r : Value × St} (h : span_Check (run Try.prog lib hints) x0 s = some r) : run Try.prog lib hints 14 [x0] s = some r :=
  run_of hl Try.func14 (Eq.trans (by kernel_rfl) h)

theorem span_Check_ok : funcOk Try.prog 14 = true := by kernel_rfl
theorem span_Check_call {R : Caller} {xs : List Value} {s : St} : callV Try.prog R (.func (.func 14) #[] #[]) xs s = R 14 xs s := callV_eq span_Check_ok

/-! ### sumpter/sumpterref02.Check: 15 -/

noncomputable def ref02_Check (R : Caller) (x0 : Value) (s : St) : Option (Value × St) :=
(lbox x0).bind fun v0 =>
(lload false 1 lptr v0).bind fun v1 =>
(alenV .string v1 s).bind fun v2 =>
(abin Try.prog .gtr 3 (.tmp 5) (.const (.int .i64 12)) v2 (.int .i64 12)).bind fun v3 =>
(guardV v3 false ((lload false 1 (.pointer (some ⟨0, 1, none⟩)) v0).bind fun v4 =>
(alenV .string v4 s).bind fun v5 =>
(abin Try.prog .gtr 3 (.tmp 10) (.const (.int .i64 12)) v5 (.int .i64 12)).bind fun v6 =>
some ([v6], s)) (some ([undef], s))).bind fun q7 =>
(apick v3 (.bool true) (getL q7.1 0)).bind fun v8 =>
(guardV v8 false ((lload false 1 (.pointer (some ⟨0, 1, none⟩)) v0).bind fun v9 =>
(abin Try.prog .neq 9 (.tmp 15) (.const (.string ⟨#[]⟩)) v9 (.string ⟨#[]⟩)).bind fun v10 =>
some ([v10], q7.2)) (some ([undef], q7.2))).bind fun q11 =>
(guardV (getL q11.1 0) true ((lload false 1 lptr v0).bind fun v12 =>
(lload false 1 (.pointer (some ⟨0, 1, none⟩)) v0).bind fun v13 =>
(abin Try.prog .geq 9 (.tmp 19) (.tmp 21) v12 v13).bind fun v14 =>
some ([v14], q11.2)) (some ([undef], q11.2))).bind fun q15 =>
(guardV v8 false ((apick (getL q11.1 0) (getL q15.1 0) (.bool false)).bind fun v16 =>
some ([v16], q15.2)) (some ([undef], q15.2))).bind fun q17 =>
(apick v8 (.bool true) (getL q17.1 0)).bind fun v18 =>
condV v18
 (retV [(.int .i64 21)] q17.2)
 (retV [(.int .i64 0)] q17.2)

theorem ref02_Check_of {lib : Lib} (hl : lib 15 = none) {x0 : Value} {s : St} {r : Value × St} (h : ref02_Check (run Try.prog lib hints) x0 s = some r) : run Try.prog lib hints 15 [x0] s = some r :=
  run_of hl Try.func15 (Eq.trans (by kernel_rfl) h)

theorem ref02_Check_ok : funcOk Try.prog 15 = true := by kernel_rfl
theorem ref02_Check_call {R : Caller} {xs : List Value} {s : St} : callV Try.prog R (.func (.func 15) #[] #[]) xs s = R 15 xs s := callV_eq ref02_Check_ok

/-! ### sumpter/span.Has: 16 -/

noncomputable def span_Has (R : Caller) (x0 x1 : Value) (s : St) : Option (Value × St) :=
(lbox x0).bind fun v0 =>
(lload true 2 lptr v0).bind fun v1 =>
(callV Try.prog R (.func (.func 14) #[] #[]) [v1] s).bind fun r2 =>
(abin Try.prog .eql 25 (.tmp 6) (.const (.int .i64 0)) r2.1 (.int .i64 0)).bind fun v3 =>
(guardV v3 true ((callV Try.prog R (.func (.func 12) #[] #[]) [x1] r2.2).bind fun r4 =>
(abin Try.prog .eql 25 (.tmp 10) (.const (.int .i64 0)) r4.1 (.int .i64 0)).bind fun v5 =>
some ([v5], r4.2)) (some ([undef], r2.2))).bind fun q6 =>
(apick v3 (getL q6.1 0) (.bool false)).bind fun v7 =>
(guardV v7 true ((lload false 1 lptr v0).bind fun v8 =>
(abin Try.prog .leq 9 (.tmp 15) (.tmp 16) v8 x1).bind fun v9 =>
some ([v9], q6.2)) (some ([undef], q6.2))).bind fun q10 =>
(apick v7 (getL q10.1 0) (.bool false)).bind fun v11 =>
(guardV v11 true ((lload false 1 (.pointer (some ⟨0, 1, none⟩)) v0).bind fun v12 =>
(abin Try.prog .eql 9 (.tmp 21) (.const (.string ⟨#[]⟩)) v12 (.string ⟨#[]⟩)).bind fun v13 =>
some ([v13], q10.2)) (some ([undef], q10.2))).bind fun q14 =>
(guardV (getL q14.1 0) false ((lload false 1 (.pointer (some ⟨0, 1, none⟩)) v0).bind fun v15 =>
(abin Try.prog .lss 9 (.tmp 24) (.tmp 26) x1 v15).bind fun v16 =>
some ([v16], q14.2)) (some ([undef], q14.2))).bind fun q17 =>
(guardV v11 true ((apick (getL q14.1 0) (.bool true) (getL q17.1 0)).bind fun v18 =>
some ([v18], q17.2)) (some ([undef], q17.2))).bind fun q19 =>
(apick v11 (getL q19.1 0) (.bool false)).bind fun v20 =>
retV [v20] q19.2

theorem span_Has_of {lib : Lib} (hl : lib 16 = none) {x0 x1 : Value} {s : St} {r : Value × St} (h : span_Has (run Try.prog lib hints) x0 x1 s = some r) : run Try.prog lib hints 16 [x0, x1] s = some r :=
  run_of hl Try.func16 (Eq.trans (by kernel_rfl) h)

theorem span_Has_ok : funcOk Try.prog 16 = true := by kernel_rfl
theorem span_Has_call {R : Caller} {xs : List Value} {s : St} : callV Try.prog R (.func (.func 16) #[] #[]) xs s = R 16 xs s := callV_eq span_Has_ok

/-! ### sumpter/sumpterref02.Has: 17 -/

noncomputable def ref02_Has (R : Caller) (x0 x1 : Value) (s : St) : Option (Value × St) :=
(lbox x0).bind fun v0 =>
(lload true 2 lptr v0).bind fun v1 =>
(callV Try.prog R (.func (.func 15) #[] #[]) [v1] s).bind fun r2 =>
(abin Try.prog .eql 25 (.tmp 6) (.const (.int .i64 0)) r2.1 (.int .i64 0)).bind fun v3 =>
(guardV v3 true ((callV Try.prog R (.func (.func 13) #[] #[]) [x1] r2.2).bind fun r4 =>
(abin Try.prog .eql 25 (.tmp 10) (.const (.int .i64 0)) r4.1 (.int .i64 0)).bind fun v5 =>
some ([v5], r4.2)) (some ([undef], r2.2))).bind fun q6 =>
(apick v3 (getL q6.1 0) (.bool false)).bind fun v7 =>
(guardV v7 true ((lload false 1 lptr v0).bind fun v8 =>
(abin Try.prog .geq 9 (.tmp 14) (.tmp 16) x1 v8).bind fun v9 =>
some ([v9], q6.2)) (some ([undef], q6.2))).bind fun q10 =>
(apick v7 (getL q10.1 0) (.bool false)).bind fun v11 =>
(guardV v11 true ((lload false 1 (.pointer (some ⟨0, 1, none⟩)) v0).bind fun v12 =>
(abin Try.prog .eql 9 (.tmp 21) (.const (.string ⟨#[]⟩)) v12 (.string ⟨#[]⟩)).bind fun v13 =>
some ([v13], q10.2)) (some ([undef], q10.2))).bind fun q14 =>
(guardV (getL q14.1 0) false ((lload false 1 (.pointer (some ⟨0, 1, none⟩)) v0).bind fun v15 =>
(abin Try.prog .lss 9 (.tmp 24) (.tmp 26) x1 v15).bind fun v16 =>
some ([v16], q14.2)) (some ([undef], q14.2))).bind fun q17 =>
(guardV v11 true ((apick (getL q14.1 0) (.bool true) (getL q17.1 0)).bind fun v18 =>
some ([v18], q17.2)) (some ([undef], q17.2))).bind fun q19 =>
(apick v11 (getL q19.1 0) (.bool false)).bind fun v20 =>
retV [v20] q19.2

theorem ref02_Has_of {lib : Lib} (hl : lib 17 = none) {x0 x1 : Value} {s : St} {r : Value × St} (h : ref02_Has (run Try.prog lib hints) x0 x1 s = some r) : run Try.prog lib hints 17 [x0, x1] s = some r :=
  run_of hl Try.func17 (Eq.trans (by kernel_rfl) h)

theorem ref02_Has_ok : funcOk Try.prog 17 = true := by kernel_rfl
theorem ref02_Has_call {R : Caller} {xs : List Value} {s : St} : callV Try.prog R (.func (.func 17) #[] #[]) xs s = R 17 xs s := callV_eq ref02_Has_ok

/-! ### sumpter/span.Point: 18 -/

noncomputable def span_Point.b0 (R : Caller) (T : List Value) (s : St) : Res :=
(alenV (.slice 5) (getL T 2) s).bind fun v9 =>
(abin Try.prog .gtr 3 (.tmp 22) (.const (.int .i64 0)) v9 (.int .i64 0)).bind fun v10 =>
(guardV v10 true ((alenV (.slice 5) (getL T 2) s).bind fun v11 =>
(abin Try.prog .sub 3 (.tmp 27) (.const (.int .i64 1)) v11 (.int .i64 1)).bind fun v12 =>
(aindexS 1 (getL T 2) v12).bind fun v13 =>
(aload false 1 v13 s).bind fun v14 =>
(abin Try.prog .eql 5 (.tmp 30) (.const (.int .u8 255)) v14 (.int .u8 255)).bind fun v15 =>
some ([v15], s)) (some ([undef], s))).bind fun q16 =>
(apick v10 (getL q16.1 0) (.bool false)).bind fun v17 =>
condV v17
 ((alenV (.slice 5) (getL T 2) q16.2).bind fun v18 =>
(abin Try.prog .sub 3 (.tmp 35) (.const (.int .i64 1)) v18 (.int .i64 1)).bind fun v19 =>
(asliceV 1 (getL T 2) none (some v19) none).bind fun v20 =>
some (.normal, [(getL T 0), (getL T 1), v20, (getL T 3)], q16.2))
 (some (.exit 0, [(getL T 0), (getL T 1), (getL T 2), (getL T 3)], q16.2))

noncomputable def span_Point.j0 (R : Caller) (T : List Value) (s : St) : Option (Value × St) :=
(abytesToStr (getL T 2) s).bind fun v32 =>
(abuild Try.prog 23 [(0, (getL T 0)), (1, v32)]).bind fun v33 =>
(lstore 2 (getL T 1) v33 (getL T 3)).bind fun v34 =>
(lload true 2 (getL T 1) v34).bind fun v35 =>
retV [v35, (.int .i64 0)] s

noncomputable def span_Point (R : Caller) (x0 : Value) (s : St) : Option (Value × St) :=
(callV Try.prog R (.func (.func 12) #[] #[]) [x0] s).bind fun r0 =>
(abin Try.prog .neq 25 (.tmp 8) (.const (.int .i64 0)) r0.1 (.int .i64 0)).bind fun v1 =>
condV v1
 (retV [(.agg #[(.string ⟨#[]⟩), (.string ⟨#[]⟩)]), r0.1] r0.2)
 ((alenV .string x0 r0.2).bind fun v2 =>
(abin Try.prog .lss 3 (.tmp 13) (.const (.int .i64 12)) v2 (.int .i64 12)).bind fun v3 =>
condV v3
 ((abin Try.prog .add 9 (.tmp 16) (.const (.string ⟨#[0]⟩)) x0 (.string ⟨#[0]⟩)).bind fun v4 =>
(abuild Try.prog 23 [(0, x0), (1, v4)]).bind fun v5 =>
(lstore 2 lptr v5 (.agg #[(.string ⟨#[]⟩), (.string ⟨#[]⟩)])).bind fun v6 =>
(lload true 2 lptr v6).bind fun v7 =>
retV [v7, (.int .i64 0)] r0.2)
 ((convBytes x0 r0.2).bind fun r8 =>
(loopL (span_Point.b0 R) [x0, lptr, r8.1, (.agg #[(.string ⟨#[]⟩), (.string ⟨#[]⟩)])] r8.2).bind fun r21 =>
exV r21.1 [(0, (alenV (.slice 5) (getL r21.2.1 2) r21.2.2).bind fun v23 =>
(abin Try.prog .gtr 3 (.tmp 39) (.const (.int .i64 0)) v23 (.int .i64 0)).bind fun v24 =>
condV v24
 ((alenV (.slice 5) (getL r21.2.1 2) r21.2.2).bind fun v25 =>
(abin Try.prog .sub 3 (.tmp 43) (.const (.int .i64 1)) v25 (.int .i64 1)).bind fun v26 =>
(aindexS 1 (getL r21.2.1 2) v26).bind fun v27 =>
(aload false 1 v27 r21.2.2).bind fun v28 =>
(abin Try.prog .add 5 (.tmp 46) (.const (.int .u8 1)) v28 (.int .u8 1)).bind fun v29 =>
(aindexS 1 (getL r21.2.1 2) v26).bind fun v30 =>
(astore 1 v30 v29 r21.2.2).bind fun s31 =>
joinK (span_Point.j0 R) [(getL r21.2.1 0), (getL r21.2.1 1), (getL r21.2.1 2), (getL r21.2.1 3)] s31)
 (joinK (span_Point.j0 R) [(getL r21.2.1 0), (getL r21.2.1 1), (getL r21.2.1 2), (getL r21.2.1 3)] r21.2.2))]
 (none)))

theorem span_Point_of {lib : Lib} (hl : lib 18 = none) {x0 : Value} {s : St} {r : Value × St} (h : span_Point (run Try.prog lib hints) x0 s = some r) : run Try.prog lib hints 18 [x0] s = some r :=
  run_of hl Try.func18 (Eq.trans (by kernel_rfl) h)

theorem span_Point_ok : funcOk Try.prog 18 = true := by kernel_rfl
theorem span_Point_call {R : Caller} {xs : List Value} {s : St} : callV Try.prog R (.func (.func 18) #[] #[]) xs s = R 18 xs s := callV_eq span_Point_ok

/-! ### sumpter/sumpterref02.Point: 19 -/

noncomputable def ref02_Point.b0 (R : Caller) (T : List Value) (s : St) : Res :=
(abin Try.prog .gtr 3 (.tmp 19) (.const (.int .i64 0)) (getL T 2) (.int .i64 0)).bind fun v8 =>
(guardV v8 true ((abin Try.prog .sub 3 (.tmp 23) (.const (.int .i64 1)) (getL T 2) (.int .i64 1)).bind fun v9 =>
(aindexStr (getL T 0) v9).bind fun v10 =>
(abin Try.prog .eql 5 (.tmp 25) (.const (.int .u8 255)) v10 (.int .u8 255)).bind fun v11 =>
some ([v11], s)) (some ([undef], s))).bind fun q12 =>
(apick v8 (getL q12.1 0) (.bool false)).bind fun v13 =>
condV v13
 ((abin Try.prog .sub 3 (.tmp 28) (.const (.int .i64 1)) (getL T 2) (.int .i64 1)).bind fun v14 =>
some (.normal, [(getL T 0), (getL T 1), v14, (getL T 3)], q12.2))
 (some (.exit 0, [(getL T 0), (getL T 1), (getL T 2), (getL T 3)], q12.2))

noncomputable def ref02_Point (R : Caller) (x0 : Value) (s : St) : Option (Value × St) :=
(callV Try.prog R (.func (.func 13) #[] #[]) [x0] s).bind fun r0 =>
(abin Try.prog .neq 25 (.tmp 8) (.const (.int .i64 0)) r0.1 (.int .i64 0)).bind fun v1 =>
condV v1
 (retV [(.agg #[(.string ⟨#[]⟩), (.string ⟨#[]⟩)]), r0.1] r0.2)
 ((alenV .string x0 r0.2).bind fun v2 =>
(abin Try.prog .lss 3 (.tmp 13) (.const (.int .i64 12)) v2 (.int .i64 12)).bind fun v3 =>
condV v3
 ((abin Try.prog .add 9 (.tmp 16) (.const (.string ⟨#[0]⟩)) x0 (.string ⟨#[0]⟩)).bind fun v4 =>
(abuild Try.prog 23 [(0, x0), (1, v4)]).bind fun v5 =>
(lstore 2 lptr v5 (.agg #[(.string ⟨#[]⟩), (.string ⟨#[]⟩)])).bind fun v6 =>
(lload true 2 lptr v6).bind fun v7 =>
retV [v7, (.int .i64 0)] r0.2)
 ((loopL (ref02_Point.b0 R) [x0, lptr, (.int .i64 12), (.agg #[(.string ⟨#[]⟩), (.string ⟨#[]⟩)])] r0.2).bind fun r15 =>
exV r15.1 [(0, (abin Try.prog .eql 3 (.tmp 30) (.const (.int .i64 0)) (getL r15.2.1 2) (.int .i64 0)).bind fun v16 =>
condV v16
 ((abuild Try.prog 23 [(0, (getL r15.2.1 0))]).bind fun v17 =>
(lstore 2 (getL r15.2.1 1) v17 (getL r15.2.1 3)).bind fun v18 =>
(lload true 2 (getL r15.2.1 1) v18).bind fun v19 =>
retV [v19, (.int .i64 0)] r15.2.2)
 ((abin Try.prog .sub 3 (.tmp 36) (.const (.int .i64 1)) (getL r15.2.1 2) (.int .i64 1)).bind fun v20 =>
(asliceStrV (getL r15.2.1 0) none (some v20) none).bind fun v21 =>
(abin Try.prog .sub 3 (.tmp 40) (.const (.int .i64 1)) (getL r15.2.1 2) (.int .i64 1)).bind fun v22 =>
(aindexStr (getL r15.2.1 0) v22).bind fun v23 =>
(abin Try.prog .add 5 (.tmp 42) (.const (.int .u8 1)) v23 (.int .u8 1)).bind fun v24 =>
(((abuildSl 1 [(.int .u8 0)] 1 [(0, v24)] r15.2.2).bind fun r32 =>
some (r32.1, r32.2)).bind (ownR r15.2.2)).bind fun r25 =>
(((abytesToStr r25.1 r25.2).bind fun v31 =>
some (v31, r25.2)).bind (ownR r25.2)).bind fun r26 =>
(abin Try.prog .add 9 (.tmp 38) (.tmp 45) v21 r26.1).bind fun v27 =>
(abuild Try.prog 23 [(0, (getL r15.2.1 0)), (1, v27)]).bind fun v28 =>
(lstore 2 (getL r15.2.1 1) v28 (getL r15.2.1 3)).bind fun v29 =>
(lload true 2 (getL r15.2.1 1) v29).bind fun v30 =>
retV [v30, (.int .i64 0)] r26.2))]
 (none)))

theorem ref02_Point_of {lib : Lib} (hl : lib 19 = none) {x0 : Value} {s : St} {r : Value × St} (h : ref02_Point (run Try.prog lib hints) x0 s = some r) : run Try.prog lib hints 19 [x0] s = some r :=
  run_of hl Try.func19 (Eq.trans (by kernel_rfl) h)

theorem ref02_Point_ok : funcOk Try.prog 19 = true := by kernel_rfl
theorem ref02_Point_call {R : Caller} {xs : List Value} {s : St} : callV Try.prog R (.func (.func 19) #[] #[]) xs s = R 19 xs s := callV_eq ref02_Point_ok

/-! ### sumpter/span.Cut: 20 -/

noncomputable def span_Cut (R : Caller) (x0 x1 : Value) (s : St) : Option (Value × St) :=
(lbox x0).bind fun v0 =>
(lload true 2 lptr v0).bind fun v1 =>
(callV Try.prog R (.func (.func 14) #[] #[]) [v1] s).bind fun r2 =>
(abin Try.prog .neq 25 (.tmp 11) (.const (.int .i64 0)) r2.1 (.int .i64 0)).bind fun v3 =>
condV v3
 (retV [(.agg #[(.string ⟨#[]⟩), (.string ⟨#[]⟩)]), (.agg #[(.string ⟨#[]⟩), (.string ⟨#[]⟩)]), r2.1] r2.2)
 ((callV Try.prog R (.func (.func 12) #[] #[]) [x1] r2.2).bind fun r4 =>
(abin Try.prog .neq 25 (.tmp 18) (.const (.int .i64 0)) r4.1 (.int .i64 0)).bind fun v5 =>
condV v5
 (retV [(.agg #[(.string ⟨#[]⟩), (.string ⟨#[]⟩)]), (.agg #[(.string ⟨#[]⟩), (.string ⟨#[]⟩)]), r4.1] r4.2)
 ((lload false 1 lptr v0).bind fun v6 =>
(abin Try.prog .eql 9 (.tmp 23) (.tmp 25) x1 v6).bind fun v7 =>
(guardV v7 false ((lload true 2 lptr v0).bind fun v8 =>
(callV Try.prog R (.func (.func 16) #[] #[]) [v8, x1] r4.2).bind fun r9 =>
(aun .not r9.1).bind fun v10 =>
some ([v10], r9.2)) (some ([undef], r4.2))).bind fun q11 =>
(apick v7 (.bool true) (getL q11.1 0)).bind fun v12 =>
condV v12
 (retV [(.agg #[(.string ⟨#[]⟩), (.string ⟨#[]⟩)]), (.agg #[(.string ⟨#[]⟩), (.string ⟨#[]⟩)]), (.int .i64 21)] q11.2)
 ((lload false 1 lptr v0).bind fun v13 =>
(abuild Try.prog 23 [(0, v13), (1, x1)]).bind fun v14 =>
(lload false 1 (.pointer (some ⟨0, 1, none⟩)) v0).bind fun v15 =>
(abuild Try.prog 23 [(0, x1), (1, v15)]).bind fun v16 =>
(lstore 2 lptr v14 (.agg #[(.string ⟨#[]⟩), (.string ⟨#[]⟩)])).bind fun v17 =>
(lstore 2 lptr v16 (.agg #[(.string ⟨#[]⟩), (.string ⟨#[]⟩)])).bind fun v18 =>
(lload true 2 lptr v17).bind fun v19 =>
(lload true 2 lptr v18).bind fun v20 =>
retV [v19, v20, (.int .i64 0)] q11.2)))

theorem span_Cut_of {lib : Lib} (hl : lib 20 = none) {x0 x1 : Value} {s : St} {r : Value × St} (h : span_Cut (run Try.prog lib hints) x0 x1 s = some r) : run Try.prog lib hints 20 [x0, x1] s = some r :=
  run_of hl Try.func20 (Eq.trans (by kernel_rfl) h)

theorem span_Cut_ok : funcOk Try.prog 20 = true := by kernel_rfl
theorem span_Cut_call {R : Caller} {xs : List Value} {s : St} : callV Try.prog R (.func (.func 20) #[] #[]) xs s = R 20 xs s := callV_eq span_Cut_ok

/-! ### sumpter/sumpterref02.Cut: 21 -/

noncomputable def ref02_Cut (R : Caller) (x0 x1 : Value) (s : St) : Option (Value × St) :=
(lbox x0).bind fun v0 =>
(lload true 2 lptr v0).bind fun v1 =>
(callV Try.prog R (.func (.func 15) #[] #[]) [v1] s).bind fun r2 =>
(abin Try.prog .neq 25 (.tmp 11) (.const (.int .i64 0)) r2.1 (.int .i64 0)).bind fun v3 =>
condV v3
 (retV [(.agg #[(.string ⟨#[]⟩), (.string ⟨#[]⟩)]), (.agg #[(.string ⟨#[]⟩), (.string ⟨#[]⟩)]), r2.1] r2.2)
 ((callV Try.prog R (.func (.func 13) #[] #[]) [x1] r2.2).bind fun r4 =>
(abin Try.prog .neq 25 (.tmp 18) (.const (.int .i64 0)) r4.1 (.int .i64 0)).bind fun v5 =>
condV v5
 (retV [(.agg #[(.string ⟨#[]⟩), (.string ⟨#[]⟩)]), (.agg #[(.string ⟨#[]⟩), (.string ⟨#[]⟩)]), r4.1] r4.2)
 ((lload false 1 lptr v0).bind fun v6 =>
(abin Try.prog .leq 9 (.tmp 23) (.tmp 25) x1 v6).bind fun v7 =>
(guardV v7 false ((lload false 1 (.pointer (some ⟨0, 1, none⟩)) v0).bind fun v8 =>
(abin Try.prog .neq 9 (.tmp 29) (.const (.string ⟨#[]⟩)) v8 (.string ⟨#[]⟩)).bind fun v9 =>
some ([v9], r4.2)) (some ([undef], r4.2))).bind fun q10 =>
(guardV (getL q10.1 0) true ((lload false 1 (.pointer (some ⟨0, 1, none⟩)) v0).bind fun v11 =>
(abin Try.prog .geq 9 (.tmp 32) (.tmp 34) x1 v11).bind fun v12 =>
some ([v12], q10.2)) (some ([undef], q10.2))).bind fun q13 =>
(guardV v7 false ((apick (getL q10.1 0) (getL q13.1 0) (.bool false)).bind fun v14 =>
some ([v14], q13.2)) (some ([undef], q13.2))).bind fun q15 =>
(apick v7 (.bool true) (getL q15.1 0)).bind fun v16 =>
condV v16
 (retV [(.agg #[(.string ⟨#[]⟩), (.string ⟨#[]⟩)]), (.agg #[(.string ⟨#[]⟩), (.string ⟨#[]⟩)]), (.int .i64 21)] q15.2)
 ((lload false 1 lptr v0).bind fun v17 =>
(abuild Try.prog 23 [(0, v17), (1, x1)]).bind fun v18 =>
(lload false 1 (.pointer (some ⟨0, 1, none⟩)) v0).bind fun v19 =>
(abuild Try.prog 23 [(0, x1), (1, v19)]).bind fun v20 =>
(lstore 2 lptr v18 (.agg #[(.string ⟨#[]⟩), (.string ⟨#[]⟩)])).bind fun v21 =>
(lstore 2 lptr v20 (.agg #[(.string ⟨#[]⟩), (.string ⟨#[]⟩)])).bind fun v22 =>
(lload true 2 lptr v21).bind fun v23 =>
(lload true 2 lptr v22).bind fun v24 =>
retV [v23, v24, (.int .i64 0)] q15.2)))

theorem ref02_Cut_of {lib : Lib} (hl : lib 21 = none) {x0 x1 : Value} {s : St} {r : Value × St} (h : ref02_Cut (run Try.prog lib hints) x0 x1 s = some r) : run Try.prog lib hints 21 [x0, x1] s = some r :=
  run_of hl Try.func21 (Eq.trans (by kernel_rfl) h)

theorem ref02_Cut_ok : funcOk Try.prog 21 = true := by kernel_rfl
theorem ref02_Cut_call {R : Caller} {xs : List Value} {s : St} : callV Try.prog R (.func (.func 21) #[] #[]) xs s = R 21 xs s := callV_eq ref02_Cut_ok

/-! ### sumpter/span.Meet: 22 -/

noncomputable def span_Meet (R : Caller) (x0 x1 : Value) (s : St) : Option (Value × St) :=
(lbox x0).bind fun v0 =>
(lbox x1).bind fun v1 =>
(lload false 1 lptr v0).bind fun v2 =>
(lload false 1 lptr v1).bind fun v3 =>
(amax2 v2 v3).bind fun v4 =>
(lload false 1 (.pointer (some ⟨0, 1, none⟩)) v0).bind fun v5 =>
(lload false 1 (.pointer (some ⟨0, 1, none⟩)) v1).bind fun v6 =>
(((callV Try.prog R (.func (.func 27) #[] #[]) [v5, v6] s).bind fun r26 =>
some (r26.1, r26.2)).bind (ownR s)).bind fun r7 =>
(abuild Try.prog 23 [(0, v4), (1, r7.1)]).bind fun v8 =>
(lstore 2 lptr v8 (.agg #[(.string ⟨#[]⟩), (.string ⟨#[]⟩)])).bind fun v9 =>
(lload true 2 lptr v0).bind fun v10 =>
(callV Try.prog R (.func (.func 14) #[] #[]) [v10] r7.2).bind fun r11 =>
(abin Try.prog .neq 25 (.tmp 19) (.const (.int .i64 0)) r11.1 (.int .i64 0)).bind fun v12 =>
(guardV v12 false ((lload true 2 lptr v1).bind fun v13 =>
(callV Try.prog R (.func (.func 14) #[] #[]) [v13] r11.2).bind fun r14 =>
(abin Try.prog .neq 25 (.tmp 23) (.const (.int .i64 0)) r14.1 (.int .i64 0)).bind fun v15 =>
some ([v15], r14.2)) (some ([undef], r11.2))).bind fun q16 =>
(apick v12 (.bool true) (getL q16.1 0)).bind fun v17 =>
(guardV v17 false ((lload true 2 lptr v9).bind fun v18 =>
(callV Try.prog R (.func (.func 14) #[] #[]) [v18] q16.2).bind fun r19 =>
(abin Try.prog .neq 25 (.tmp 28) (.const (.int .i64 0)) r19.1 (.int .i64 0)).bind fun v20 =>
some ([v20], r19.2)) (some ([undef], q16.2))).bind fun q21 =>
(apick v17 (.bool true) (getL q21.1 0)).bind fun v22 =>
condV v22
 (retV [(.agg #[(.string ⟨#[]⟩), (.string ⟨#[]⟩)]), (.bool false)] q21.2)
 ((lload true 2 lptr v9).bind fun v23 =>
(lstore 2 lptr v23 (.agg #[(.string ⟨#[]⟩), (.string ⟨#[]⟩)])).bind fun v24 =>
(lload true 2 lptr v24).bind fun v25 =>
retV [v25, (.bool true)] q21.2)

theorem span_Meet_of {lib : Lib} (hl : lib 22 = none) {x0 x1 : Value} {s : St} {r : Value × St} (h : span_Meet (run Try.prog lib hints) x0 x1 s = some r) : run Try.prog lib hints 22 [x0, x1] s = some r :=
  run_of hl Try.func22 (Eq.trans (by kernel_rfl) h)

theorem span_Meet_ok : funcOk Try.prog 22 = true := by kernel_rfl
theorem span_Meet_call {R : Caller} {xs : List Value} {s : St} : callV Try.prog R (.func (.func 22) #[] #[]) xs s = R 22 xs s := callV_eq span_Meet_ok

/-! ### sumpter/sumpterref02.Meet: 23 -/

noncomputable def ref02_Meet.j0 (R : Caller) (T : List Value) (s : St) : Option (Value × St) :=
(afieldAddr 1 (getL T 1)).bind fun v22 =>
(lload false 1 v22 (getL T 3)).bind fun v23 =>
(abin Try.prog .neq 9 (.tmp 33) (.const (.string ⟨#[]⟩)) v23 (.string ⟨#[]⟩)).bind fun v24 =>
(guardV v24 true ((afieldAddr 0 (getL T 1)).bind fun v25 =>
(lload false 1 v25 (getL T 3)).bind fun v26 =>
(afieldAddr 1 (getL T 1)).bind fun v27 =>
(lload false 1 v27 (getL T 3)).bind fun v28 =>
(abin Try.prog .geq 9 (.tmp 37) (.tmp 39) v26 v28).bind fun v29 =>
some ([v29], s)) (some ([undef], s))).bind fun q30 =>
(apick v24 (getL q30.1 0) (.bool false)).bind fun v31 =>
condV v31
 ((lstore 2 (getL T 0) (.agg #[(.string ⟨#[]⟩), (.string ⟨#[]⟩)]) (getL T 2)).bind fun v32 =>
(lload true 2 (getL T 0) v32).bind fun v33 =>
retV [v33, (.bool false)] q30.2)
 ((lload true 2 (getL T 1) (getL T 3)).bind fun v34 =>
(lstore 2 (getL T 0) v34 (getL T 2)).bind fun v35 =>
(lload true 2 (getL T 0) v35).bind fun v36 =>
retV [v36, (.bool true)] q30.2)

noncomputable def ref02_Meet (R : Caller) (x0 x1 : Value) (s : St) : Option (Value × St) :=
(lbox x0).bind fun v0 =>
(lbox x1).bind fun v1 =>
(lload true 2 lptr v0).bind fun v2 =>
(callV Try.prog R (.func (.func 15) #[] #[]) [v2] s).bind fun r3 =>
(abin Try.prog .neq 25 (.tmp 8) (.const (.int .i64 0)) r3.1 (.int .i64 0)).bind fun v4 =>
(guardV v4 false ((lload true 2 lptr v1).bind fun v5 =>
(callV Try.prog R (.func (.func 15) #[] #[]) [v5] r3.2).bind fun r6 =>
(abin Try.prog .neq 25 (.tmp 12) (.const (.int .i64 0)) r6.1 (.int .i64 0)).bind fun v7 =>
some ([v7], r6.2)) (some ([undef], r3.2))).bind fun q8 =>
(apick v4 (.bool true) (getL q8.1 0)).bind fun v9 =>
condV v9
 (retV [(.agg #[(.string ⟨#[]⟩), (.string ⟨#[]⟩)]), (.bool false)] q8.2)
 ((lload false 1 lptr v0).bind fun v10 =>
(lload false 1 lptr v1).bind fun v11 =>
(amax2 v10 v11).bind fun v12 =>
(lload false 1 (.pointer (some ⟨0, 1, none⟩)) v0).bind fun v13 =>
(abuild Try.prog 23 [(0, v12), (1, v13)]).bind fun v14 =>
(lstore 2 lptr v14 (.agg #[(.string ⟨#[]⟩), (.string ⟨#[]⟩)])).bind fun v15 =>
(lload false 1 (.pointer (some ⟨0, 1, none⟩)) v1).bind fun v17 =>
(lload false 1 (.pointer (some ⟨0, 1, none⟩)) v0).bind fun v18 =>
(callV Try.prog R (.func (.func 28) #[] #[]) [v17, v18] q8.2).bind fun r19 =>
condV r19.1
 ((lload false 1 (.pointer (some ⟨0, 1, none⟩)) v1).bind fun v20 =>
(lstore 1 (.pointer (some ⟨0, 1, none⟩)) v20 v15).bind fun v21 =>
joinK (ref02_Meet.j0 R) [lptr, lptr, (.agg #[(.string ⟨#[]⟩), (.string ⟨#[]⟩)]), v21] r19.2)
 (joinK (ref02_Meet.j0 R) [lptr, lptr, (.agg #[(.string ⟨#[]⟩), (.string ⟨#[]⟩)]), v15] r19.2))

theorem ref02_Meet_of {lib : Lib} (hl : lib 23 = none) {x0 x1 : Value} {s : St} {r : Value × St} (h : ref02_Meet (run Try.prog lib hints) x0 x1 s = some r) : run Try.prog lib hints 23 [x0, x1] s = some r :=
  run_of hl Try.func23 (Eq.trans (by kernel_rfl) h)

theorem ref02_Meet_ok : funcOk Try.prog 23 = true := by kernel_rfl
theorem ref02_Meet_call {R : Caller} {xs : List Value} {s : St} : callV Try.prog R (.func (.func 23) #[] #[]) xs s = R 23 xs s := callV_eq ref02_Meet_ok

/-! ### sumpter/span.Covers: 24 -/

noncomputable def span_Covers (R : Caller) (x0 x1 : Value) (s : St) : Option (Value × St) :=
(lbox x0).bind fun v0 =>
(lbox x1).bind fun v1 =>
(lload true 2 lptr v0).bind fun v2 =>
(((callV Try.prog R (.func (.func 14) #[] #[]) [v2] s).bind fun r35 =>
some (r35.1, r35.2)).bind (ownR s)).bind fun r3 =>
(abin Try.prog .eql 25 (.tmp 6) (.const (.int .i64 0)) r3.1 (.int .i64 0)).bind fun v4 =>
(guardV v4 true ((lload true 2 lptr v1).bind fun v5 =>
some ([v5], r3.2)) (some ([undef], r3.2))).bind fun q6 =>
((guardV v4 true ((callV Try.prog R (.func (.func 14) #[] #[]) [(getL q6.1 0)] q6.2).bind fun r34 =>
some (r34.1, r34.2)) (some (undef, q6.2))).bind (ownR q6.2)).bind fun r7 =>
(guardV v4 true ((abin Try.prog .eql 25 (.tmp 10) (.const (.int .i64 0)) r7.1 (.int .i64 0)).bind fun v8 =>
some ([v8], r7.2)) (some ([undef], r7.2))).bind fun q9 =>
(apick v4 (getL q9.1 0) (.bool false)).bind fun v10 =>
(guardV v10 true (some ([lptr], q9.2)) (some ([undef], q9.2))).bind fun q11 =>
(guardV v10 true ((lload false 1 (getL q11.1 0) v0).bind fun v12 =>
some ([v12], q11.2)) (some ([undef], q11.2))).bind fun q13 =>
(guardV v10 true (some ([lptr], q13.2)) (some ([undef], q13.2))).bind fun q14 =>
(guardV v10 true ((lload false 1 (getL q14.1 0) v1).bind fun v15 =>
some ([v15], q14.2)) (some ([undef], q14.2))).bind fun q16 =>
(guardV v10 true ((abin Try.prog .leq 9 (.tmp 15) (.tmp 17) (getL q13.1 0) (getL q16.1 0)).bind fun v17 =>
some ([v17], q16.2)) (some ([undef], q16.2))).bind fun q18 =>
(apick v10 (getL q18.1 0) (.bool false)).bind fun v19 =>
(guardV v19 true (some ([(.pointer (some ⟨0, 1, none⟩))], q18.2)) (some ([undef], q18.2))).bind fun q20 =>
(guardV v19 true ((lload false 1 (getL q20.1 0) v0).bind fun v21 =>
some ([v21], q20.2)) (some ([undef], q20.2))).bind fun q22 =>
(guardV v19 true (some ([(.pointer (some ⟨0, 1, none⟩))], q22.2)) (some ([undef], q22.2))).bind fun q23 =>
(guardV v19 true ((lload false 1 (getL q23.1 0) v1).bind fun v24 =>
some ([v24], q23.2)) (some ([undef], q23.2))).bind fun q25 =>
((guardV v19 true ((callV Try.prog R (.func (.func 27) #[] #[]) [(getL q22.1 0), (getL q25.1 0)] q25.2).bind fun r33 =>
some (r33.1, r33.2)) (some (undef, q25.2))).bind (ownR q25.2)).bind fun r26 =>
(guardV v19 true (some ([(.pointer (some ⟨0, 1, none⟩))], r26.2)) (some ([undef], r26.2))).bind fun q27 =>
(guardV v19 true ((lload false 1 (getL q27.1 0) v1).bind fun v28 =>
some ([v28], q27.2)) (some ([undef], q27.2))).bind fun q29 =>
(guardV v19 true ((abin Try.prog .eql 9 (.tmp 25) (.tmp 27) r26.1 (getL q29.1 0)).bind fun v30 =>
some ([v30], q29.2)) (some ([undef], q29.2))).bind fun q31 =>
(apick v19 (getL q31.1 0) (.bool false)).bind fun v32 =>
retV [v32] q31.2

theorem span_Covers_of {lib : Lib} (hl : lib 24 = none) {x0 x1 : Value} {s : St} {r : Value × St} (h : span_Covers (run Try.prog lib hints) x0 x1 s = some r) : run Try.prog lib hints 24 [x0, x1] s = some r :=
  run_of hl Try.func24 (Eq.trans (by kernel_rfl) h)

theorem span_Covers_ok : funcOk Try.prog 24 = true := by kernel_rfl
theorem span_Covers_call {R : Caller} {xs : List Value} {s : St} : callV Try.prog R (.func (.func 24) #[] #[]) xs s = R 24 xs s := callV_eq span_Covers_ok

/-! ### sumpter/sumpterref02.Covers: 25 -/

noncomputable def ref02_Covers (R : Caller) (x0 x1 : Value) (s : St) : Option (Value × St) :=
(lbox x0).bind fun v0 =>
(lbox x1).bind fun v1 =>
(lload true 2 lptr v0).bind fun v2 =>
(callV Try.prog R (.func (.func 15) #[] #[]) [v2] s).bind fun r3 =>
(abin Try.prog .eql 25 (.tmp 6) (.const (.int .i64 0)) r3.1 (.int .i64 0)).bind fun v4 =>
(guardV v4 true ((lload true 2 lptr v1).bind fun v5 =>
(callV Try.prog R (.func (.func 15) #[] #[]) [v5] r3.2).bind fun r6 =>
(abin Try.prog .eql 25 (.tmp 10) (.const (.int .i64 0)) r6.1 (.int .i64 0)).bind fun v7 =>
some ([v7], r6.2)) (some ([undef], r3.2))).bind fun q8 =>
(apick v4 (getL q8.1 0) (.bool false)).bind fun v9 =>
(guardV v9 true ((lload false 1 lptr v0).bind fun v10 =>
(lload false 1 lptr v1).bind fun v11 =>
(abin Try.prog .leq 9 (.tmp 15) (.tmp 17) v10 v11).bind fun v12 =>
some ([v12], q8.2)) (some ([undef], q8.2))).bind fun q13 =>
(apick v9 (getL q13.1 0) (.bool false)).bind fun v14 =>
(guardV v14 true ((lload false 1 (.pointer (some ⟨0, 1, none⟩)) v0).bind fun v15 =>
(lload false 1 (.pointer (some ⟨0, 1, none⟩)) v1).bind fun v16 =>
(callV Try.prog R (.func (.func 28) #[] #[]) [v15, v16] q13.2).bind fun r17 =>
(aun .not r17.1).bind fun v18 =>
some ([v18], r17.2)) (some ([undef], q13.2))).bind fun q19 =>
(apick v14 (getL q19.1 0) (.bool false)).bind fun v20 =>
retV [v20] q19.2

theorem ref02_Covers_of {lib : Lib} (hl : lib 25 = none) {x0 x1 : Value} {s : St} {r : Value × St} (h : ref02_Covers (run Try.prog lib hints) x0 x1 s = some r) : run Try.prog lib hints 25 [x0, x1] s = some r :=
  run_of hl Try.func25 (Eq.trans (by kernel_rfl) h)

theorem ref02_Covers_ok : funcOk Try.prog 25 = true := by kernel_rfl
theorem ref02_Covers_call {R : Caller} {xs : List Value} {s : St} : callV Try.prog R (.func (.func 25) #[] #[]) xs s = R 25 xs s := callV_eq ref02_Covers_ok

/-! ### sumpter/span.all: 26 -/

noncomputable def span_all (R : Caller) (s : St) : Option (Value × St) :=
retV [(.agg #[(.string ⟨#[]⟩), (.string ⟨#[]⟩)])] s

theorem span_all_of {lib : Lib} (hl : lib 26 = none) {s : St} {r : Value × St} (h : span_all (run Try.prog lib hints)  s = some r) : run Try.prog lib hints 26 [] s = some r :=
  run_of hl Try.func26 (Eq.trans (by kernel_rfl) h)

theorem span_all_ok : funcOk Try.prog 26 = true := by kernel_rfl
theorem span_all_call {R : Caller} {xs : List Value} {s : St} : callV Try.prog R (.func (.func 26) #[] #[]) xs s = R 26 xs s := callV_eq span_all_ok

/-! ### sumpter/span.least: 27 -/

noncomputable def span_least (R : Caller) (x0 x1 : Value) (s : St) : Option (Value × St) :=
(abin Try.prog .eql 9 (.tmp 5) (.const (.string ⟨#[]⟩)) x0 (.string ⟨#[]⟩)).bind fun v0 =>
(guardV v0 false ((abin Try.prog .neq 9 (.tmp 8) (.const (.string ⟨#[]⟩)) x1 (.string ⟨#[]⟩)).bind fun v1 =>
some ([v1], s)) (some ([undef], s))).bind fun q2 =>
(guardV (getL q2.1 0) true ((abin Try.prog .lss 9 (.tmp 11) (.tmp 12) x1 x0).bind fun v3 =>
some ([v3], q2.2)) (some ([undef], q2.2))).bind fun q4 =>
(guardV v0 false ((apick (getL q2.1 0) (getL q4.1 0) (.bool false)).bind fun v5 =>
some ([v5], q4.2)) (some ([undef], q4.2))).bind fun q6 =>
(apick v0 (.bool true) (getL q6.1 0)).bind fun v7 =>
condV v7
 (retV [x1] q6.2)
 (retV [x0] q6.2)

theorem span_least_of {lib : Lib} (hl : lib 27 = none) {x0 x1 : Value} {s : St} {r : Value × St} (h : span_least (run Try.prog lib hints) x0 x1 s = some r) : run Try.prog lib hints 27 [x0, x1] s = some r :=
  run_of hl Try.func27 (Eq.trans (by kernel_rfl) h)

theorem span_least_ok : funcOk Try.prog 27 = true := by kernel_rfl
theorem span_least_call {R : Caller} {xs : List Value} {s : St} : callV Try.prog R (.func (.func 27) #[] #[]) xs s = R 27 xs s := callV_eq span_least_ok

/-! ### sumpter/sumpterref02.below: 28 -/

noncomputable def ref02_below (R : Caller) (x0 x1 : Value) (s : St) : Option (Value × St) :=
(abin Try.prog .neq 9 (.tmp 5) (.const (.string ⟨#[]⟩)) x0 (.string ⟨#[]⟩)).bind fun v0 =>
(guardV v0 true ((abin Try.prog .eql 9 (.tmp 8) (.const (.string ⟨#[]⟩)) x1 (.string ⟨#[]⟩)).bind fun v1 =>
some ([v1], s)) (some ([undef], s))).bind fun q2 =>
(guardV (getL q2.1 0) false ((abin Try.prog .lss 9 (.tmp 11) (.tmp 12) x0 x1).bind fun v3 =>
some ([v3], q2.2)) (some ([undef], q2.2))).bind fun q4 =>
(guardV v0 true ((apick (getL q2.1 0) (.bool true) (getL q4.1 0)).bind fun v5 =>
some ([v5], q4.2)) (some ([undef], q4.2))).bind fun q6 =>
(apick v0 (getL q6.1 0) (.bool false)).bind fun v7 =>
retV [v7] q6.2

theorem ref02_below_of {lib : Lib} (hl : lib 28 = none) {x0 x1 : Value} {s : St} {r : Value × St} (h : ref02_below (run Try.prog lib hints) x0 x1 s = some r) : run Try.prog lib hints 28 [x0, x1] s = some r :=
  run_of hl Try.func28 (Eq.trans (by kernel_rfl) h)

theorem ref02_below_ok : funcOk Try.prog 28 = true := by kernel_rfl
theorem ref02_below_call {R : Caller} {xs : List Value} {s : St} : callV Try.prog R (.func (.func 28) #[] #[]) xs s = R 28 xs s := callV_eq ref02_below_ok


end Go.Proofs.Ytcahddipgocpfaa.Ab
