/- Texts of this proof, packed: Sh, SpAll, StrCmp, BIns, OpCmp, OpVal, BList. -/
import Derived.Test.YtccindbiodofmaaPk3
import Derived.Lib.Strings
import Derived.Lib.Bytealg
import Derived.Lib.Overlaps
import Derived.Lib.AppendZerosOnto
import Derived.Deep.DeepAppendWide
import Derived.Shelf.Spec.SlicesInsert
set_option linter.unusedVariables false
set_option linter.unusedSimpArgs false
set_option linter.unusedSectionVars false
/- The program's functions, as the abstract machine runs them: printed. -/
namespace Go.Proofs.Ytccindbiodofmaa.Ab
open Go
set_option maxRecDepth 100000

def hints : Hints := fun f => hintL f [(2, []), (3, []), (4, []), (5, [(6, 87), (9, 88), (26, 87), (42, 88), (44, 87), (49, 88), (51, 87)]), (6, [(10, 107), (45, 107)]), (7, [(8, 182), (9, 183), (13, 184), (19, 185), (21, 186), (22, 187), (68, 182), (72, 183), (83, 184), (87, 184), (89, 182), (94, 184), (96, 182), (100, 184), (102, 184), (106, 184), (108, 183), (113, 184), (115, 183), (119, 184), (145, 185), (147, 186)]), (8, [(1, 98), (16, 98)]), (9, []), (10, []), (11, []), (12, []), (13, []), (14, []), (15, [(7, 35), (8, 36)]), (16, [(2, 44), (3, 45), (4, 46), (6, 47), (16, 44), (18, 45), (21, 44), (24, 45), (26, 44), (29, 45), (31, 47), (32, 47), (36, 47), (38, 47)]), (17, [(6, 12)]), (18, []), (19, []), (20, [(5, 124), (26, 124), (30, 124), (34, 124), (40, 124), (55, 124), (59, 124), (72, 124), (79, 124), (87, 124), (91, 124), (98, 124), (102, 124), (108, 124), (120, 124)]), (21, [(7, 41), (19, 41)]), (22, [(4, 18)]), (23, [(1, 24), (2, 25), (11, 24), (14, 24), (19, 24), (21, 24)]), (24, [(1, 16), (3, 16), (7, 16), (12, 16)]), (25, [(1, 25), (3, 25), (8, 25), (14, 25), (18, 25), (20, 25)]), (26, []), (27, []), (28, [(3, 146), (6, 147), (20, 146), (22, 146), (53, 146), (59, 146), (67, 146), (73, 146), (84, 146), (88, 146), (95, 146), (122, 146), (127, 146), (132, 146), (136, 146)]), (29, []), (30, []), (31, [(11, 46), (13, 47)]), (32, [(1, 107), (5, 107), (9, 107), (14, 107), (18, 107), (22, 107), (35, 107), (39, 107), (48, 107), (54, 107), (58, 107), (64, 107), (68, 107), (75, 107), (80, 107), (86, 107), (88, 107), (94, 107), (98, 107), (102, 107)]), (33, [(2, 48)]), (34, [(1, 40), (4, 40), (8, 40), (12, 40), (18, 40), (27, 40), (31, 40)]), (35, [(11, 49), (12, 50), (33, 49)]), (36, []), (37, [(4, 34), (12, 34), (16, 34), (29, 34)]), (38, [(3, 66), (5, 67), (6, 68), (9, 69), (11, 66), (13, 66), (16, 66), (22, 66), (34, 66), (36, 66), (44, 66), (58, 66)]), (39, []), (40, []), (41, [(5, 30), (13, 30), (18, 30), (23, 30), (27, 30)]), (42, [(4, 18)]), (43, []), (44, [(0, 7)]), (45, [(8, 32), (9, 33)]), (46, [(2, 24), (3, 25), (5, 24), (7, 25), (11, 24), (13, 25), (18, 24), (20, 25)]), (47, []), (48, [(7, 21), (14, 21), (18, 21)]), (49, [(3, 45), (8, 46), (18, 46), (20, 45), (28, 46), (30, 45)]), (50, [(3, 25), (7, 26), (15, 26)]), (51, [(4, 36), (9, 37), (17, 37)]), (52, []), (53, [(1, 83), (3, 84), (6, 83), (14, 84), (18, 83), (22, 84), (26, 83), (30, 84), (39, 84), (43, 83), (48, 84), (51, 83), (57, 83), (62, 84), (71, 84), (74, 83), (78, 83)]), (54, [(3, 26), (5, 27), (10, 26)]), (55, [(3, 35), (5, 36), (10, 35), (19, 35), (21, 35), (29, 35)]), (56, [(3, 23), (5, 24), (10, 23)]), (57, [(3, 27), (5, 28), (20, 27)]), (58, [(3, 20), (5, 21)]), (59, [(2, 30), (15, 30), (20, 30), (25, 30)]), (60, [(2, 14)]), (61, [(1, 8), (2, 9), (3, 8), (5, 8)]), (62, [(1, 28), (8, 28), (13, 28), (18, 28), (22, 28), (24, 28)]), (63, []), (64, []), (65, []), (66, [(3, 30), (11, 30), (18, 30), (23, 30)]), (67, [(0, 2)]), (68, []), (69, [(2, 9), (5, 9)]), (70, []), (72, []), (73, []), (74, []), (76, [])]

/-! ### sumpter/sumpterlaw23.JudgeTells: 3 -/

noncomputable def law23_JudgeTells.b1 (R : Caller) (T : List Value) (s : St) : Res :=
(abin Try.prog .lss 3 (.tmp 61) (.tmp 60) (getL T 5) (getL T 4)).bind fun v28 =>
condV v28
 ((aindexS 2 (getL T 2) (getL T 5)).bind fun v29 =>
(afieldAddr 0 v29).bind fun v30 =>
(astore 1 v30 (.string ⟨#[122, 122]⟩) s).bind fun s31 =>
(abin Try.prog .add 3 (.tmp 61) (.const (.int .i64 1)) (getL T 5) (.int .i64 1)).bind fun v32 =>
some (.normal, [(getL T 0), (getL T 1), (getL T 2), (getL T 3), (getL T 4), v32], s31))
 (some (.exit 2, [(getL T 0), (getL T 1), (getL T 3)], s))

noncomputable def law23_JudgeTells.b0 (R : Caller) (T : List Value) (s : St) : Res :=
(abin Try.prog .lss 3 (.tmp 18) (.const (.int .i64 2)) (getL T 2) (.int .i64 2)).bind fun v3 =>
condV v3
 ((callV Try.prog R (.func (.func 9) #[] #[]) [(getL T 0)] s).bind fun r4 =>
(aextract 0 r4.1).bind fun v5 =>
(aextract 1 r4.1).bind fun v6 =>
(callV Try.prog R (.func (.func 10) #[] #[]) [(getL T 0)] r4.2).bind fun r7 =>
(aextract 0 r7.1).bind fun v8 =>
(aextract 1 r7.1).bind fun v9 =>
(callV Try.prog R (.func (.func 11) #[] #[]) [(getL T 0)] r7.2).bind fun r10 =>
(aextract 0 r10.1).bind fun v11 =>
(aextract 1 r10.1).bind fun v12 =>
(callV Try.prog R (.func (.func 12) #[] #[]) [(getL T 0)] r10.2).bind fun r13 =>
(aextract 0 r13.1).bind fun v14 =>
(aextract 1 r13.1).bind fun v15 =>
(abin Try.prog .neq 3 (.tmp 40) (.tmp 41) v5 v8).bind fun v16 =>
(guardV v16 false ((abin Try.prog .neq 24 (.tmp 44) (.tmp 45) v6 v9).bind fun v17 =>
some ([v17], r13.2)) (some ([undef], r13.2))).bind fun q18 =>
(apick v16 (.bool true) (getL q18.1 0)).bind fun v19 =>
(guardV v19 false ((abin Try.prog .neq 24 (.tmp 49) (.tmp 50) v12 v15).bind fun v20 =>
some ([v20], q18.2)) (some ([undef], q18.2))).bind fun q21 =>
(apick v19 (.bool true) (getL q21.1 0)).bind fun v22 =>
(guardV v22 false ((callV Try.prog R (.func (.func 13) #[] #[]) [v11, v14] q21.2).bind fun r23 =>
(aun .not r23.1).bind fun v24 =>
some ([v24], r23.2)) (some ([undef], q21.2))).bind fun q25 =>
(apick v22 (.bool true) (getL q25.1 0)).bind fun v26 =>
condV v26
 (some (.ret, [(.bool false)], q25.2))
 ((alenV (.slice 32) v11 q25.2).bind fun v27 =>
(loopL (law23_JudgeTells.b1 R) [(getL T 0), (getL T 1), v11, (getL T 2), v27, (.int .i64 0)] q25.2).bind fun r33 =>
exV r33.1 [(2, (abin Try.prog .add 3 (.tmp 18) (.const (.int .i64 1)) (getL r33.2.1 2) (.int .i64 1)).bind fun v34 =>
some (.normal, [(getL r33.2.1 0), (getL r33.2.1 1), v34], r33.2.2))]
 (none)))
 (some (.exit 0, [(getL T 1)], s))

noncomputable def law23_JudgeTells (R : Caller) (x0 : Value) (s : St) : Option (Value × St) :=
(callV Try.prog R (.func (.func 8) #[] #[]) [] s).bind fun r0 =>
(alenV (.slice 39) x0 r0.2).bind fun v1 =>
(abin Try.prog .gtr 3 (.tmp 15) (.const (.int .i64 100)) v1 (.int .i64 100)).bind fun v2 =>
condV v2
 (retV [r0.1] r0.2)
 ((loopL (law23_JudgeTells.b0 R) [x0, r0.1, (.int .i64 0)] r0.2).bind fun r35 =>
exV r35.1 [(0, retV [(getL r35.2.1 0)] r35.2.2)]
 (retV [(getL r35.2.1 0)] r35.2.2))

theorem law23_JudgeTells_of {lib : Lib} (hl : lib 3 = none) {x0 : Value} {s : St} {r : Value × St} (h : law23_JudgeTells (run Try.prog lib hints) x0 s = some r) : run Try.prog lib hints 3 [x0] s = some r :=
  run_of hl Try.func3 (Eq.trans (by kernel_rfl) h)

theorem law23_JudgeTells_ok : funcOk Try.prog 3 = true := by kernel_rfl
/-! ### sumpter/sumpterlaw23.JudgeBegins: 4 -/

/-! ### sumpter/sumpterlaw23.JudgeForgets: 5 -/

noncomputable def law23_JudgeForgets.b1 (R : Caller) (T : List Value) (s : St) : Res :=
(abin Try.prog .lss 3 (.tmp 31) (.tmp 30) (getL T 11) (getL T 10)).bind fun v12 =>
condV v12
 ((aindexS 6 (getL T 9) (getL T 11)).bind fun v13 =>
(aload true 6 v13 s).bind fun v14 =>
(lstore 6 lptr v14 (.agg #[(.int .i64 0), (.int .i64 0), (.int .u64 0), (.int .i64 0), (.slice none 0 0), (.slice none 0 0)])).bind fun v15 =>
(guardV (getL T 5) false ((abin Try.prog .neq 3 (.tmp 38) (.tmp 39) (getL T 11) (getL T 3)).bind fun v16 =>
some ([v16], s)) (some ([undef], s))).bind fun q17 =>
(guardV (getL q17.1 0) true ((lload false 1 (.pointer (some ⟨0, 1, none⟩)) v15).bind fun v18 =>
(afieldAddr 1 (getL T 4)).bind fun v19 =>
(lload false 1 v19 (getL T 12)).bind fun v20 =>
(abin Try.prog .eql 3 (.tmp 43) (.tmp 45) v18 v20).bind fun v21 =>
some ([v21], q17.2)) (some ([undef], q17.2))).bind fun q22 =>
(guardV (getL T 5) false ((apick (getL q17.1 0) (getL q22.1 0) (.bool false)).bind fun v23 =>
some ([v23], q22.2)) (some ([undef], q22.2))).bind fun q24 =>
(guardV (getL q24.1 0) true ((lload false 1 (.pointer (some ⟨0, 2, none⟩)) v15).bind fun v25 =>
(afieldAddr 2 (getL T 4)).bind fun v26 =>
(lload false 1 v26 (getL T 12)).bind fun v27 =>
(abin Try.prog .eql 35 (.tmp 50) (.tmp 52) v25 v27).bind fun v28 =>
some ([v28], q24.2)) (some ([undef], q24.2))).bind fun q29 =>
(guardV (getL T 5) false ((apick (getL q24.1 0) (getL q29.1 0) (.bool false)).bind fun v30 =>
some ([v30], q29.2)) (some ([undef], q29.2))).bind fun q31 =>
(apick (getL T 5) (.bool true) (getL q31.1 0)).bind fun v32 =>
(abin Try.prog .add 3 (.tmp 31) (.const (.int .i64 1)) (getL T 11) (.int .i64 1)).bind fun v33 =>
some (.normal, [(getL T 0), (getL T 1), (getL T 2), (getL T 3), (getL T 4), v32, (getL T 6), (getL T 7), (getL T 8), (getL T 9), (getL T 10), v33, (getL T 12)], q31.2))
 (some (.exit 2, [(getL T 0), (getL T 1), (getL T 2), (getL T 4), (getL T 5), (getL T 6), (getL T 7), (getL T 8), (getL T 12)], s))

noncomputable def law23_JudgeForgets.j0 (R : Caller) (T : List Value) (s : St) : Res :=
(abin Try.prog .add 3 (.tmp 21) (.const (.int .i64 1)) (getL T 5) (.int .i64 1)).bind fun v38 =>
some (.normal, [(getL T 0), (getL T 1), (getL T 2), (getL T 3), (getL T 4), v38], s)

noncomputable def law23_JudgeForgets.b0 (R : Caller) (T : List Value) (s : St) : Res :=
(abin Try.prog .lss 3 (.tmp 21) (.tmp 20) (getL T 5) (getL T 4)).bind fun v4 =>
condV v4
 ((aindexS 6 (getL T 3) (getL T 5)).bind fun v6 =>
(aload true 6 v6 s).bind fun v7 =>
(lstore 6 lptr v7 (.agg #[(.int .i64 0), (.int .i64 0), (.int .u64 0), (.int .i64 0), (.slice none 0 0), (.slice none 0 0)])).bind fun v8 =>
(lload false 1 lptr v8).bind fun v9 =>
(abin Try.prog .neq 3 (.tmp 27) (.const (.int .i64 1)) v9 (.int .i64 1)).bind fun v10 =>
(alenV (.slice 39) (getL T 0) s).bind fun v11 =>
(loopL (law23_JudgeForgets.b1 R) [(getL T 0), (getL T 1), (getL T 2), (getL T 5), lptr, v10, (getL T 3), (getL T 4), (getL T 5), (getL T 0), v11, (.int .i64 0), v8] s).bind fun r34 =>
exV r34.1 [(2, condV (getL r34.2.1 4)
 ((lload true 6 (getL r34.2.1 3) (getL r34.2.1 8)).bind fun v35 =>
(abuildSl 6 [(.int .i64 0), (.int .i64 0), (.int .u64 0), (.int .i64 0), (.slice none 0 0), (.slice none 0 0)] 1 [(0, v35)] r34.2.2).bind fun r36 =>
(aappend 6 80 (getL r34.2.1 2) r36.1 r36.2).bind fun r37 =>
joinK (law23_JudgeForgets.j0 R) [(getL r34.2.1 0), (getL r34.2.1 1), r37.1, (getL r34.2.1 5), (getL r34.2.1 6), (getL r34.2.1 7)] r37.2)
 (joinK (law23_JudgeForgets.j0 R) [(getL r34.2.1 0), (getL r34.2.1 1), (getL r34.2.1 2), (getL r34.2.1 5), (getL r34.2.1 6), (getL r34.2.1 7)] r34.2.2))]
 (none))
 (some (.exit 0, [(getL T 0), (getL T 1), (getL T 2)], s))

noncomputable def law23_JudgeForgets (R : Caller) (x0 : Value) (s : St) : Option (Value × St) :=
(callV Try.prog R (.func (.func 8) #[] #[]) [] s).bind fun r0 =>
(alenV (.slice 39) x0 r0.2).bind fun v1 =>
(abin Try.prog .gtr 3 (.tmp 16) (.const (.int .i64 100)) v1 (.int .i64 100)).bind fun v2 =>
condV v2
 (retV [r0.1] r0.2)
 ((alenV (.slice 39) x0 r0.2).bind fun v3 =>
(loopL (law23_JudgeForgets.b0 R) [x0, r0.1, (.slice none 0 0), x0, v3, (.int .i64 0)] r0.2).bind fun r39 =>
exV r39.1 [(0, (callV Try.prog R (.func (.func 11) #[] #[]) [(getL r39.2.1 0)] r39.2.2).bind fun r40 =>
(aextract 0 r40.1).bind fun v41 =>
(aextract 1 r40.1).bind fun v42 =>
(callV Try.prog R (.func (.func 11) #[] #[]) [(getL r39.2.1 2)] r40.2).bind fun r43 =>
(aextract 0 r43.1).bind fun v44 =>
(aextract 1 r43.1).bind fun v45 =>
(guardV (getL r39.2.1 1) true ((abin Try.prog .neq 24 (.tmp 75) (.const (.int .i64 0)) v42 (.int .i64 0)).bind fun v46 =>
some ([v46], r43.2)) (some ([undef], r43.2))).bind fun q47 =>
(guardV (getL q47.1 0) false ((abin Try.prog .eql 24 (.tmp 78) (.const (.int .i64 0)) v45 (.int .i64 0)).bind fun v48 =>
some ([v48], q47.2)) (some ([undef], q47.2))).bind fun q49 =>
(guardV (getL q49.1 0) true ((callV Try.prog R (.func (.func 13) #[] #[]) [v41, v44] q49.2).bind fun r50 =>
some ([r50.1], r50.2)) (some ([undef], q49.2))).bind fun q51 =>
(guardV (getL q47.1 0) false ((apick (getL q49.1 0) (getL q51.1 0) (.bool false)).bind fun v52 =>
some ([v52], q51.2)) (some ([undef], q51.2))).bind fun q53 =>
(guardV (getL r39.2.1 1) true ((apick (getL q47.1 0) (.bool true) (getL q53.1 0)).bind fun v54 =>
some ([v54], q53.2)) (some ([undef], q53.2))).bind fun q55 =>
(apick (getL r39.2.1 1) (getL q55.1 0) (.bool false)).bind fun v56 =>
retV [v56] q55.2)]
 (none))

/-! ### sumpter/sumpterlaw23.JudgeMore: 6 -/

noncomputable def law23_JudgeMore.b0 (R : Caller) (T : List Value) (s : St) : Res :=
(abin Try.prog .lss 3 (.tmp 40) (.tmp 39) (getL T 6) (getL T 5)).bind fun v14 =>
condV v14
 ((aindexS 6 (getL T 4) (getL T 6)).bind fun v15 =>
(aload true 6 v15 s).bind fun v16 =>
(lstore 6 lptr v16 (.agg #[(.int .i64 0), (.int .i64 0), (.int .u64 0), (.int .i64 0), (.slice none 0 0), (.slice none 0 0)])).bind fun v17 =>
(lload false 1 (.pointer (some ⟨0, 2, none⟩)) v17).bind fun v18 =>
(amax2 (getL T 3) v18).bind fun v19 =>
(abin Try.prog .add 3 (.tmp 40) (.const (.int .i64 1)) (getL T 6) (.int .i64 1)).bind fun v20 =>
some (.normal, [(getL T 0), (getL T 1), (getL T 2), v19, (getL T 4), (getL T 5), v20], s))
 (some (.exit 0, [(getL T 0), (getL T 1), (getL T 2), (getL T 3)], s))

noncomputable def law23_JudgeMore (R : Caller) (x0 x1 : Value) (s : St) : Option (Value × St) :=
(callV Try.prog R (.func (.func 8) #[] #[]) [] s).bind fun r0 =>
(callV Try.prog R (.func (.func 9) #[] #[]) [x0] r0.2).bind fun r1 =>
(aextract 0 r1.1).bind fun v2 =>
(aextract 1 r1.1).bind fun v3 =>
(abin Try.prog .neq 24 (.tmp 25) (.const (.int .i64 0)) v3 (.int .i64 0)).bind fun v4 =>
(guardV v4 false ((alenV (.slice 39) x0 r1.2).bind fun v5 =>
(abin Try.prog .gtr 3 (.tmp 29) (.const (.int .i64 100)) v5 (.int .i64 100)).bind fun v6 =>
some ([v6], r1.2)) (some ([undef], r1.2))).bind fun q7 =>
(apick v4 (.bool true) (getL q7.1 0)).bind fun v8 =>
(guardV v8 false ((callV Try.prog R (.func (.func 14) #[] #[]) [x1] q7.2).bind fun r9 =>
(abin Try.prog .neq 24 (.tmp 34) (.const (.int .i64 0)) r9.1 (.int .i64 0)).bind fun v10 =>
some ([v10], r9.2)) (some ([undef], q7.2))).bind fun q11 =>
(apick v8 (.bool true) (getL q11.1 0)).bind fun v12 =>
condV v12
 (retV [r0.1] q11.2)
 ((alenV (.slice 39) x0 q11.2).bind fun v13 =>
(loopL (law23_JudgeMore.b0 R) [x0, x1, r0.1, (.int .u64 0), x0, v13, (.int .i64 0)] q11.2).bind fun r21 =>
exV r21.1 [(0, (abin Try.prog .eql 35 (.tmp 49) (.const (.int .u64 18446744073709551615)) (getL r21.2.1 3) (.int .u64 18446744073709551615)).bind fun v22 =>
condV v22
 (retV [(getL r21.2.1 2)] r21.2.2)
 ((aappend 6 80 (.slice none 0 0) (getL r21.2.1 0) r21.2.2).bind fun r23 =>
(abin Try.prog .add 35 (.tmp 54) (.const (.int .u64 1)) (getL r21.2.1 3) (.int .u64 1)).bind fun v24 =>
(abuild Try.prog 39 [(0, (.int .i64 1)), (1, (.int .i64 1)), (2, v24), (4, (getL r21.2.1 1))]).bind fun v25 =>
(abuildSl 6 [(.int .i64 0), (.int .i64 0), (.int .u64 0), (.int .i64 0), (.slice none 0 0), (.slice none 0 0)] 1 [(0, v25)] r23.2).bind fun r26 =>
(aappend 6 80 r23.1 r26.1 r26.2).bind fun r27 =>
(callV Try.prog R (.func (.func 9) #[] #[]) [r27.1] r27.2).bind fun r28 =>
(aextract 0 r28.1).bind fun v29 =>
(aextract 1 r28.1).bind fun v30 =>
(aappend 6 80 (.slice none 0 0) r27.1 r28.2).bind fun r31 =>
(abin Try.prog .add 35 (.tmp 67) (.const (.int .u64 1)) (getL r21.2.1 3) (.int .u64 1)).bind fun v32 =>
(abuild Try.prog 39 [(0, (.int .i64 3)), (1, (.int .i64 1)), (2, v32), (3, (.int .i64 2))]).bind fun v33 =>
(abuildSl 6 [(.int .i64 0), (.int .i64 0), (.int .u64 0), (.int .i64 0), (.slice none 0 0), (.slice none 0 0)] 1 [(0, v33)] r31.2).bind fun r34 =>
(aappend 6 80 r31.1 r34.1 r34.2).bind fun r35 =>
(callV Try.prog R (.func (.func 9) #[] #[]) [r35.1] r35.2).bind fun r36 =>
(aextract 0 r36.1).bind fun v37 =>
(aextract 1 r36.1).bind fun v38 =>
(alenV (.slice 39) r35.1 r36.2).bind fun v39 =>
(abin Try.prog .sub 3 (.tmp 79) (.const (.int .i64 1)) v39 (.int .i64 1)).bind fun v40 =>
(aindexS 6 r35.1 v40).bind fun v41 =>
(afieldAddr 3 v41).bind fun v42 =>
(astore 1 v42 (.int .i64 1) r36.2).bind fun s43 =>
(callV Try.prog R (.func (.func 9) #[] #[]) [r35.1] s43).bind fun r44 =>
(aextract 0 r44.1).bind fun v45 =>
(aextract 1 r44.1).bind fun v46 =>
(guardV (getL r21.2.1 2) true ((abin Try.prog .eql 24 (.tmp 90) (.const (.int .i64 0)) v30 (.int .i64 0)).bind fun v47 =>
some ([v47], r44.2)) (some ([undef], r44.2))).bind fun q48 =>
(apick (getL r21.2.1 2) (getL q48.1 0) (.bool false)).bind fun v49 =>
(guardV v49 true ((abin Try.prog .eql 24 (.tmp 94) (.const (.int .i64 0)) v38 (.int .i64 0)).bind fun v50 =>
some ([v50], q48.2)) (some ([undef], q48.2))).bind fun q51 =>
(apick v49 (getL q51.1 0) (.bool false)).bind fun v52 =>
(guardV v52 true ((abin Try.prog .eql 24 (.tmp 98) (.const (.int .i64 4)) v46 (.int .i64 4)).bind fun v53 =>
some ([v53], q51.2)) (some ([undef], q51.2))).bind fun q54 =>
(apick v52 (getL q54.1 0) (.bool false)).bind fun v55 =>
(guardV v55 true ((alenV (.slice 39) r27.1 q54.2).bind fun v56 =>
(abin Try.prog .eql 3 (.tmp 102) (.tmp 104) v45 v56).bind fun v57 =>
some ([v57], q54.2)) (some ([undef], q54.2))).bind fun q58 =>
(apick v55 (getL q58.1 0) (.bool false)).bind fun v59 =>
retV [v59] q58.2))]
 (none))

/-! ### sumpter/sumpterlaw23.live: 8 -/

theorem law23_live_ok : funcOk Try.prog 8 = true := by kernel_rfl
theorem law23_live_call {R : Caller} {xs : List Value} {s : St} : callV Try.prog R (.func (.func 8) #[] #[]) xs s = R 8 xs s := callV_eq law23_live_ok

/-! ### sumpter/judge.Judge: 9 -/

noncomputable def judge_Judge (R : Caller) (x0 : Value) (s : St) : Option (Value × St) :=
(callV Try.prog R (.func (.func 18) #[] #[]) [] s).bind fun r0 =>
(callV Try.prog R (.func (.func 19) #[] #[]) [r0.1, x0] r0.2).bind fun r1 =>
(aextract 0 r1.1).bind fun v2 =>
(aextract 1 r1.1).bind fun v3 =>
retV [v2, v3] r1.2

theorem judge_Judge_of {lib : Lib} (hl : lib 9 = none) {x0 : Value} {s : St} {r : Value × St} (h : judge_Judge (run Try.prog lib hints) x0 s = some r) : run Try.prog lib hints 9 [x0] s = some r :=
  run_of hl Try.func9 (Eq.trans (by kernel_rfl) h)

theorem judge_Judge_ok : funcOk Try.prog 9 = true := by kernel_rfl
theorem judge_Judge_call {R : Caller} {xs : List Value} {s : St} : callV Try.prog R (.func (.func 9) #[] #[]) xs s = R 9 xs s := callV_eq judge_Judge_ok

/-! ### sumpter/sumpterref23.Judge: 10 -/

noncomputable def ref23_Judge.b0 (R : Caller) (T : List Value) (s : St) : Res :=
(abin Try.prog .lss 3 (.tmp 8) (.tmp 7) (getL T 2) (getL T 1)).bind fun v1 =>
condV v1
 ((callV Try.prog R (.func (.func 20) #[] #[]) [(getL T 0), (getL T 2)] s).bind fun r2 =>
(abin Try.prog .neq 24 (.tmp 14) (.const (.int .i64 0)) r2.1 (.int .i64 0)).bind fun v3 =>
condV v3
 (some (.ret, [(getL T 2), r2.1], r2.2))
 ((abin Try.prog .add 3 (.tmp 8) (.const (.int .i64 1)) (getL T 2) (.int .i64 1)).bind fun v4 =>
some (.normal, [(getL T 0), (getL T 1), v4], r2.2)))
 (some (.exit 0, [], s))

noncomputable def ref23_Judge (R : Caller) (x0 : Value) (s : St) : Option (Value × St) :=
(alenV (.slice 39) x0 s).bind fun v0 =>
(loopL (ref23_Judge.b0 R) [x0, v0, (.int .i64 0)] s).bind fun r5 =>
exV r5.1 [(0, retV [(.int .i64 (-1)), (.int .i64 0)] r5.2.2)]
 (retV [(getL r5.2.1 0), (getL r5.2.1 1)] r5.2.2)

theorem ref23_Judge_of {lib : Lib} (hl : lib 10 = none) {x0 : Value} {s : St} {r : Value × St} (h : ref23_Judge (run Try.prog lib hints) x0 s = some r) : run Try.prog lib hints 10 [x0] s = some r :=
  run_of hl Try.func10 (Eq.trans (by kernel_rfl) h)

theorem ref23_Judge_ok : funcOk Try.prog 10 = true := by kernel_rfl
theorem ref23_Judge_call {R : Caller} {xs : List Value} {s : St} : callV Try.prog R (.func (.func 10) #[] #[]) xs s = R 10 xs s := callV_eq ref23_Judge_ok

/-! ### sumpter/judge.Replay: 11 -/

noncomputable def judge_Replay (R : Caller) (x0 : Value) (s : St) : Option (Value × St) :=
(callV Try.prog R (.func (.func 18) #[] #[]) [] s).bind fun r0 =>
(callV Try.prog R (.func (.func 19) #[] #[]) [r0.1, x0] r0.2).bind fun r1 =>
(aextract 0 r1.1).bind fun v2 =>
(aextract 1 r1.1).bind fun v3 =>
(abin Try.prog .neq 24 (.tmp 14) (.const (.int .i64 0)) v3 (.int .i64 0)).bind fun v4 =>
condV v4
 (retV [(.slice none 0 0), v3] r1.2)
 ((anilCheck r0.1).bind fun v5 =>
(afieldAddr 3 v5).bind fun v6 =>
(aload false 1 v6 r1.2).bind fun v7 =>
retV [v7, (.int .i64 0)] r1.2)

theorem judge_Replay_of {lib : Lib} (hl : lib 11 = none) {x0 : Value} {s : St} {r : Value × St} (h : judge_Replay (run Try.prog lib hints) x0 s = some r) : run Try.prog lib hints 11 [x0] s = some r :=
  run_of hl Try.func11 (Eq.trans (by kernel_rfl) h)

theorem judge_Replay_ok : funcOk Try.prog 11 = true := by kernel_rfl
theorem judge_Replay_call {R : Caller} {xs : List Value} {s : St} : callV Try.prog R (.func (.func 11) #[] #[]) xs s = R 11 xs s := callV_eq judge_Replay_ok

/-! ### sumpter/sumpterref23.Replay: 12 -/

noncomputable def ref23_Replay (R : Caller) (x0 : Value) (s : St) : Option (Value × St) :=
(callV Try.prog R (.func (.func 10) #[] #[]) [x0] s).bind fun r0 =>
(aextract 0 r0.1).bind fun v1 =>
(aextract 1 r0.1).bind fun v2 =>
(abin Try.prog .neq 24 (.tmp 13) (.const (.int .i64 0)) v2 (.int .i64 0)).bind fun v3 =>
condV v3
 (retV [(.slice none 0 0), v2] r0.2)
 ((callV Try.prog R (.func (.func 21) #[] #[]) [x0] r0.2).bind fun r4 =>
(aextract 0 r4.1).bind fun v5 =>
(aextract 1 r4.1).bind fun v6 =>
retV [v5, (.int .i64 0)] r4.2)

theorem ref23_Replay_of {lib : Lib} (hl : lib 12 = none) {x0 : Value} {s : St} {r : Value × St} (h : ref23_Replay (run Try.prog lib hints) x0 s = some r) : run Try.prog lib hints 12 [x0] s = some r :=
  run_of hl Try.func12 (Eq.trans (by kernel_rfl) h)

theorem ref23_Replay_ok : funcOk Try.prog 12 = true := by kernel_rfl
theorem ref23_Replay_call {R : Caller} {xs : List Value} {s : St} : callV Try.prog R (.func (.func 12) #[] #[]) xs s = R 12 xs s := callV_eq ref23_Replay_ok

/-! ### sumpter/sumpterref04.SameMap: 13 -/

noncomputable def ref04_SameMap.b0 (R : Caller) (T : List Value) (s : St) : Res :=
(abin Try.prog .lss 3 (.tmp 13) (.tmp 12) (getL T 3) (getL T 2)).bind fun v4 =>
condV v4
 ((aindexS 2 (getL T 0) (getL T 3)).bind fun v5 =>
((aload true 2 v5 (frzS s)).bind fun v12 =>
some (v12, (frzS s))).bind fun r6 =>
(aindexS 2 (getL T 1) (getL T 3)).bind fun v7 =>
((aload true 2 v7 (frzS s)).bind fun v11 =>
some (v11, (frzS s))).bind fun r8 =>
(abin Try.prog .neq 32 (.tmp 19) (.tmp 23) r6.1 r8.1).bind fun v9 =>
condV v9
 (some (.ret, [(.bool false)], s))
 ((abin Try.prog .add 3 (.tmp 13) (.const (.int .i64 1)) (getL T 3) (.int .i64 1)).bind fun v10 =>
some (.normal, [(getL T 0), (getL T 1), (getL T 2), v10], s)))
 (some (.exit 0, [], s))

noncomputable def ref04_SameMap (R : Caller) (x0 x1 : Value) (s : St) : Option (Value × St) :=
(alenV (.slice 32) x0 s).bind fun v0 =>
(alenV (.slice 32) x1 s).bind fun v1 =>
(abin Try.prog .neq 3 (.tmp 7) (.tmp 9) v0 v1).bind fun v2 =>
condV v2
 (retV [(.bool false)] s)
 ((alenV (.slice 32) x0 s).bind fun v3 =>
(loopL (ref04_SameMap.b0 R) [x0, x1, v3, (.int .i64 0)] s).bind fun r13 =>
exV r13.1 [(0, retV [(.bool true)] r13.2.2)]
 (retV [(getL r13.2.1 0)] r13.2.2))

theorem ref04_SameMap_of {lib : Lib} (hl : lib 13 = none) {x0 x1 : Value} {s : St} {r : Value × St} (h : ref04_SameMap (run Try.prog lib hints) x0 x1 s = some r) : run Try.prog lib hints 13 [x0, x1] s = some r :=
  run_of hl Try.func13 (Eq.trans (by kernel_rfl) h)

theorem ref04_SameMap_ok : funcOk Try.prog 13 = true := by kernel_rfl
theorem ref04_SameMap_call {R : Caller} {xs : List Value} {s : St} : callV Try.prog R (.func (.func 13) #[] #[]) xs s = R 13 xs s := callV_eq ref04_SameMap_ok

/-! ### sumpter/sumpterref04.Check: 14 -/

noncomputable def ref04_Check (R : Caller) (x0 : Value) (s : St) : Option (Value × St) :=
(alenV (.slice 53) x0 s).bind fun v0 =>
(abin Try.prog .lss 3 (.tmp 4) (.const (.int .i64 1)) v0 (.int .i64 1)).bind fun v1 =>
(guardV v1 false ((alenV (.slice 53) x0 s).bind fun v2 =>
(abin Try.prog .gtr 3 (.tmp 8) (.const (.int .i64 4)) v2 (.int .i64 4)).bind fun v3 =>
some ([v3], s)) (some ([undef], s))).bind fun q4 =>
(apick v1 (.bool true) (getL q4.1 0)).bind fun v5 =>
condV v5
 (retV [(.int .i64 3)] q4.2)
 ((callV Try.prog R (.func (.func 22) #[] #[]) [x0] q4.2).bind fun r6 =>
retV [r6.1] r6.2)

theorem ref04_Check_of {lib : Lib} (hl : lib 14 = none) {x0 : Value} {s : St} {r : Value × St} (h : ref04_Check (run Try.prog lib hints) x0 s = some r) : run Try.prog lib hints 14 [x0] s = some r :=
  run_of hl Try.func14 (Eq.trans (by kernel_rfl) h)

theorem ref04_Check_ok : funcOk Try.prog 14 = true := by kernel_rfl
theorem ref04_Check_call {R : Caller} {xs : List Value} {s : St} : callV Try.prog R (.func (.func 14) #[] #[]) xs s = R 14 xs s := callV_eq ref04_Check_ok

/-! ### sumpter/sumpterref04.Locks: 15 -/

noncomputable def ref04_Locks.b0 (R : Caller) (T : List Value) (s : St) : Res :=
(abin Try.prog .lss 3 (.tmp 17) (.tmp 16) (getL T 3) (getL T 2)).bind fun v3 =>
condV v3
 ((aindexS 6 (getL T 1) (getL T 3)).bind fun v4 =>
(aload true 6 v4 s).bind fun v5 =>
(lstore 6 lptr v5 (.agg #[(.int .i64 0), (.string ⟨#[]⟩), (.string ⟨#[]⟩), (.string ⟨#[]⟩), (.string ⟨#[]⟩), (.int .i64 0)])).bind fun v6 =>
(lload true 6 lptr v6).bind fun v7 =>
(callV Try.prog R (.func (.func 23) #[] #[]) [v7] s).bind fun r8 =>
(aextract 0 r8.1).bind fun v9 =>
(aextract 1 r8.1).bind fun v10 =>
(lstore 2 lptr v9 (.agg #[(.string ⟨#[]⟩), (.string ⟨#[]⟩)])).bind fun v11 =>
(lload true 2 lptr v11).bind fun v12 =>
(lload true 6 lptr v6).bind fun v13 =>
(((callV Try.prog R (.func (.func 24) #[] #[]) [v13] r8.2).bind fun r21 =>
some (r21.1, r21.2)).bind (ownR r8.2)).bind fun r14 =>
(abuild Try.prog 48 [(0, v12), (1, r14.1)]).bind fun v15 =>
(((abuildSl 3 [(.string ⟨#[]⟩), (.string ⟨#[]⟩), (.bool false)] 1 [(0, v15)] r14.2).bind fun r20 =>
some (r20.1, r20.2)).bind (ownR r14.2)).bind fun r16 =>
(((aappend 3 40 (getL T 0) r16.1 r16.2).bind fun r19 =>
some (r19.1, r19.2)).bind (ownR r16.2)).bind fun r17 =>
(abin Try.prog .add 3 (.tmp 17) (.const (.int .i64 1)) (getL T 3) (.int .i64 1)).bind fun v18 =>
some (.normal, [r17.1, (getL T 1), (getL T 2), v18], r17.2))
 (some (.exit 0, [(getL T 0)], s))

noncomputable def ref04_Locks (R : Caller) (x0 : Value) (s : St) : Option (Value × St) :=
(callV Try.prog R (.func (.func 22) #[] #[]) [x0] s).bind fun r0 =>
(abin Try.prog .neq 24 (.tmp 12) (.const (.int .i64 0)) r0.1 (.int .i64 0)).bind fun v1 =>
condV v1
 (retV [(.slice none 0 0), r0.1] r0.2)
 ((alenV (.slice 53) x0 r0.2).bind fun v2 =>
(loopL (ref04_Locks.b0 R) [(.slice none 0 0), x0, v2, (.int .i64 0)] r0.2).bind fun r22 =>
exV r22.1 [(0, retV [(getL r22.2.1 0), (.int .i64 0)] r22.2.2)]
 (none))

/-! ### sumpter/sumpterref02.Meet: 16 -/

noncomputable def ref02_Meet.j0 (R : Caller) (T : List Value) (s : St) : Option (Value × St) :=
(afieldAddr 1 (getL T 1)).bind fun v22 =>
(lload false 1 v22 (getL T 3)).bind fun v23 =>
(abin Try.prog .neq 9 (.tmp 33) (.const (.string ⟨#[]⟩)) v23 (.string ⟨#[]⟩)).bind fun v24 =>
(guardV v24 true ((afieldAddr 0 (getL T 1)).bind fun v25 =>
(lload false 1 v25 (getL T 3)).bind fun v26 =>
(afieldAddr 1 (getL T 1)).bind fun v27 =>
(lload false 1 v27 (getL T 3)).bind fun v28 =>
(abin Try.prog .geq 9 (.tmp 37) (.tmp 39) v26 v28).bind fun v29 =>
some ([v29], s)) (some ([undef], s))).bind fun q30 =>
(apick v24 (getL q30.1 0) (.bool false)).bind fun v31 =>
condV v31
 ((lstore 2 (getL T 0) (.agg #[(.string ⟨#[]⟩), (.string ⟨#[]⟩)]) (getL T 2)).bind fun v32 =>
(lload true 2 (getL T 0) v32).bind fun v33 =>
retV [v33, (.bool false)] q30.2)
 ((lload true 2 (getL T 1) (getL T 3)).bind fun v34 =>
(lstore 2 (getL T 0) v34 (getL T 2)).bind fun v35 =>
(lload true 2 (getL T 0) v35).bind fun v36 =>
retV [v36, (.bool true)] q30.2)

noncomputable def ref02_Meet (R : Caller) (x0 x1 : Value) (s : St) : Option (Value × St) :=
(lbox x0).bind fun v0 =>
(lbox x1).bind fun v1 =>
(lload true 2 lptr v0).bind fun v2 =>
(callV Try.prog R (.func (.func 25) #[] #[]) [v2] s).bind fun r3 =>
(abin Try.prog .neq 24 (.tmp 8) (.const (.int .i64 0)) r3.1 (.int .i64 0)).bind fun v4 =>
(guardV v4 false ((lload true 2 lptr v1).bind fun v5 =>
(callV Try.prog R (.func (.func 25) #[] #[]) [v5] r3.2).bind fun r6 =>
(abin Try.prog .neq 24 (.tmp 12) (.const (.int .i64 0)) r6.1 (.int .i64 0)).bind fun v7 =>
some ([v7], r6.2)) (some ([undef], r3.2))).bind fun q8 =>
(apick v4 (.bool true) (getL q8.1 0)).bind fun v9 =>
condV v9
 (retV [(.agg #[(.string ⟨#[]⟩), (.string ⟨#[]⟩)]), (.bool false)] q8.2)
 ((lload false 1 lptr v0).bind fun v10 =>
(lload false 1 lptr v1).bind fun v11 =>
(amax2 v10 v11).bind fun v12 =>
(lload false 1 (.pointer (some ⟨0, 1, none⟩)) v0).bind fun v13 =>
(abuild Try.prog 46 [(0, v12), (1, v13)]).bind fun v14 =>
(lstore 2 lptr v14 (.agg #[(.string ⟨#[]⟩), (.string ⟨#[]⟩)])).bind fun v15 =>
(lload false 1 (.pointer (some ⟨0, 1, none⟩)) v1).bind fun v17 =>
(lload false 1 (.pointer (some ⟨0, 1, none⟩)) v0).bind fun v18 =>
(callV Try.prog R (.func (.func 26) #[] #[]) [v17, v18] q8.2).bind fun r19 =>
condV r19.1
 ((lload false 1 (.pointer (some ⟨0, 1, none⟩)) v1).bind fun v20 =>
(lstore 1 (.pointer (some ⟨0, 1, none⟩)) v20 v15).bind fun v21 =>
joinK (ref02_Meet.j0 R) [lptr, lptr, (.agg #[(.string ⟨#[]⟩), (.string ⟨#[]⟩)]), v21] r19.2)
 (joinK (ref02_Meet.j0 R) [lptr, lptr, (.agg #[(.string ⟨#[]⟩), (.string ⟨#[]⟩)]), v15] r19.2))

/-! ### sumpter/judge.none: 18 -/

noncomputable def judge_none (R : Caller) (s : St) : Option (Value × St) :=
(amakeMap none s).bind fun r0 =>
(amakeMap none r0.2).bind fun r1 =>
(amakeMap none r1.2).bind fun r2 =>
(abuild Try.prog 61 [(0, r0.1), (1, r1.1), (2, r2.1)]).bind fun v3 =>
(anew (cellsV v3) r2.2).bind fun r4 =>
retV [r4.1] r4.2

theorem judge_none_of {lib : Lib} (hl : lib 18 = none) {s : St} {r : Value × St} (h : judge_none (run Try.prog lib hints)  s = some r) : run Try.prog lib hints 18 [] s = some r :=
  run_of hl Try.func18 (Eq.trans (by kernel_rfl) h)

theorem judge_none_ok : funcOk Try.prog 18 = true := by kernel_rfl
theorem judge_none_call {R : Caller} {xs : List Value} {s : St} : callV Try.prog R (.func (.func 18) #[] #[]) xs s = R 18 xs s := callV_eq judge_none_ok

/-! ### (*sumpter/judge.known).judge: 19 -/

noncomputable def judge_known_judge.b0 (R : Caller) (T : List Value) (s : St) : Res :=
(abin Try.prog .lss 3 (.tmp 12) (.tmp 11) (getL T 3) (getL T 2)).bind fun v2 =>
condV v2
 ((aindexS 6 (getL T 1) (getL T 3)).bind fun v3 =>
(aload true 6 v3 s).bind fun v4 =>
(callV Try.prog R (.func (.func 28) #[] #[]) [(getL T 0), v4] s).bind fun r5 =>
(abin Try.prog .neq 24 (.tmp 21) (.const (.int .i64 0)) r5.1 (.int .i64 0)).bind fun v6 =>
condV v6
 (some (.ret, [(getL T 3), r5.1], r5.2))
 ((abin Try.prog .add 3 (.tmp 12) (.const (.int .i64 1)) (getL T 3) (.int .i64 1)).bind fun v7 =>
some (.normal, [(getL T 0), (getL T 1), (getL T 2), v7], r5.2)))
 (some (.exit 0, [], s))

noncomputable def judge_known_judge (R : Caller) (x0 x1 : Value) (s : St) : Option (Value × St) :=
(callV Try.prog R (.func (.func 27) #[] #[]) [x0] s).bind fun r0 =>
(alenV (.slice 39) x1 r0.2).bind fun v1 =>
(loopL (judge_known_judge.b0 R) [x0, x1, v1, (.int .i64 0)] r0.2).bind fun r8 =>
exV r8.1 [(0, retV [(.int .i64 (-1)), (.int .i64 0)] r8.2.2)]
 (retV [(getL r8.2.1 0), (getL r8.2.1 1)] r8.2.2)

theorem judge_known_judge_of {lib : Lib} (hl : lib 19 = none) {x0 x1 : Value} {s : St} {r : Value × St} (h : judge_known_judge (run Try.prog lib hints) x0 x1 s = some r) : run Try.prog lib hints 19 [x0, x1] s = some r :=
  run_of hl Try.func19 (Eq.trans (by kernel_rfl) h)

theorem judge_known_judge_ok : funcOk Try.prog 19 = true := by kernel_rfl
theorem judge_known_judge_call {R : Caller} {xs : List Value} {s : St} : callV Try.prog R (.func (.func 19) #[] #[]) xs s = R 19 xs s := callV_eq judge_known_judge_ok

/-! ### sumpter/sumpterref23.wrong: 20 -/

noncomputable def ref23_wrong.j0 (R : Caller) (T : List Value) (s : St) : Option (Value × St) :=
retV [(.int .i64 0)] s

noncomputable def ref23_wrong.j1 (R : Caller) (T : List Value) (s : St) : Option (Value × St) :=
(aun .not (getL T 5)).bind fun v22 =>
condV v22
 (retV [(.int .i64 1)] s)
 (condV (getL T 6)
 (retV [(.int .i64 6)] s)
 ((afieldAddr 0 (getL T 1)).bind fun v23 =>
(lload false 1 v23 (getL T 7)).bind fun v24 =>
(abin Try.prog .eql 3 (.tmp 73) (.const (.int .i64 1)) v24 (.int .i64 1)).bind fun v25 =>
condV v25
 (retV [(.int .i64 0)] s)
 ((abin Try.prog .lss 3 (.tmp 76) (.const (.int .i64 0)) (getL T 2) (.int .i64 0)).bind fun v26 =>
condV v26
 (retV [(.int .i64 5)] s)
 ((afieldAddr 0 (getL T 1)).bind fun v27 =>
(lload false 1 v27 (getL T 7)).bind fun v28 =>
(abin Try.prog .eql 3 (.tmp 80) (.const (.int .i64 2)) v28 (.int .i64 2)).bind fun v29 =>
(guardV v29 true ((abin Try.prog .geq 3 (.tmp 83) (.const (.int .i64 0)) (getL T 4) (.int .i64 0)).bind fun v30 =>
some ([v30], s)) (some ([undef], s))).bind fun q31 =>
(apick v29 (getL q31.1 0) (.bool false)).bind fun v32 =>
condV v32
 (retV [(.int .i64 4)] q31.2)
 ((afieldAddr 0 (getL T 1)).bind fun v33 =>
(lload false 1 v33 (getL T 7)).bind fun v34 =>
(abin Try.prog .eql 3 (.tmp 88) (.const (.int .i64 2)) v34 (.int .i64 2)).bind fun v35 =>
condV v35
 (retV [(.int .i64 0)] q31.2)
 ((afieldAddr 3 (getL T 1)).bind fun v36 =>
(lload false 1 v36 (getL T 7)).bind fun v37 =>
(abin Try.prog .eql 3 (.tmp 92) (.const (.int .i64 1)) v37 (.int .i64 1)).bind fun v38 =>
(abin Try.prog .geq 3 (.tmp 94) (.const (.int .i64 0)) (getL T 3) (.int .i64 0)).bind fun v39 =>
(abin Try.prog .neq 4 (.tmp 93) (.tmp 95) v38 v39).bind fun v40 =>
condV v40
 (retV [(.int .i64 4)] q31.2)
 ((afieldAddr 3 (getL T 1)).bind fun v41 =>
(lload false 1 v41 (getL T 7)).bind fun v42 =>
(abin Try.prog .eql 3 (.tmp 99) (.const (.int .i64 2)) v42 (.int .i64 2)).bind fun v43 =>
(guardV v43 true ((afieldAddr 5 (getL T 1)).bind fun v44 =>
(lload false 1 v44 (getL T 7)).bind fun v45 =>
(alenV (.slice 82) v45 q31.2).bind fun v46 =>
(abin Try.prog .gtr 3 (.tmp 104) (.const (.int .i64 0)) v46 (.int .i64 0)).bind fun v47 =>
some ([v47], q31.2)) (some ([undef], q31.2))).bind fun q48 =>
(apick v43 (getL q48.1 0) (.bool false)).bind fun v49 =>
condV v49
 (retV [(.int .i64 11)] q48.2)
 ((afieldAddr 3 (getL T 1)).bind fun v50 =>
(lload false 1 v50 (getL T 7)).bind fun v51 =>
(abin Try.prog .eql 3 (.tmp 109) (.const (.int .i64 1)) v51 (.int .i64 1)).bind fun v52 =>
condV v52
 ((abin Try.prog .add 3 (.tmp 113) (.const (.int .i64 1)) (getL T 3) (.int .i64 1)).bind fun v53 =>
(asliceV 6 (getL T 0) none (some v53) none).bind fun v54 =>
(callV Try.prog R (.func (.func 21) #[] #[]) [v54] q48.2).bind fun r55 =>
(aextract 0 r55.1).bind fun v56 =>
(aextract 1 r55.1).bind fun v57 =>
(afieldAddr 5 (getL T 1)).bind fun v58 =>
(lload false 1 v58 (getL T 7)).bind fun v59 =>
(callV Try.prog R (.func (.func 30) #[] #[]) [v57, v59] r55.2).bind fun r60 =>
(aun .not r60.1).bind fun v61 =>
condV v61
 (retV [(.int .i64 11)] r60.2)
 (joinK (ref23_wrong.j0 R) [] r60.2))
 (joinK (ref23_wrong.j0 R) [] q48.2)))))))))

noncomputable def ref23_wrong (R : Caller) (x0 x1 : Value) (s : St) : Option (Value × St) :=
(aindexS 6 x0 x1).bind fun v0 =>
(aload true 6 v0 s).bind fun v1 =>
(lstore 6 lptr v1 (.agg #[(.int .i64 0), (.int .i64 0), (.int .u64 0), (.int .i64 0), (.slice none 0 0), (.slice none 0 0)])).bind fun v2 =>
(callV Try.prog R (.func (.func 29) #[] #[]) [x0, x1, (.int .i64 1)] s).bind fun r3 =>
(callV Try.prog R (.func (.func 29) #[] #[]) [x0, x1, (.int .i64 2)] r3.2).bind fun r4 =>
(callV Try.prog R (.func (.func 29) #[] #[]) [x0, x1, (.int .i64 3)] r4.2).bind fun r5 =>
(lload false 1 (.pointer (some ⟨0, 1, none⟩)) v2).bind fun v6 =>
(abin Try.prog .geq 3 (.tmp 27) (.const (.int .i64 1)) v6 (.int .i64 1)).bind fun v7 =>
(guardV v7 true ((lload false 1 (.pointer (some ⟨0, 1, none⟩)) v2).bind fun v8 =>
(abin Try.prog .leq 3 (.tmp 31) (.const (.int .i64 4)) v8 (.int .i64 4)).bind fun v9 =>
some ([v9], r5.2)) (some ([undef], r5.2))).bind fun q10 =>
(apick v7 (getL q10.1 0) (.bool false)).bind fun v11 =>
(lload false 1 lptr v2).bind fun v13 =>
(abin Try.prog .eql 3 (.tmp 35) (.const (.int .i64 1)) v13 (.int .i64 1)).bind fun v14 =>
condV v14
 ((guardV v11 true ((lload false 1 (.pointer (some ⟨0, 4, none⟩)) v2).bind fun v15 =>
(callV Try.prog R (.func (.func 14) #[] #[]) [v15] q10.2).bind fun r16 =>
(abin Try.prog .eql 24 (.tmp 42) (.const (.int .i64 0)) r16.1 (.int .i64 0)).bind fun v17 =>
some ([v17], r16.2)) (some ([undef], q10.2))).bind fun q18 =>
(apick v11 (getL q18.1 0) (.bool false)).bind fun v19 =>
(abin Try.prog .geq 3 (.tmp 45) (.const (.int .i64 0)) r3.1 (.int .i64 0)).bind fun v20 =>
joinK (ref23_wrong.j1 R) [x0, lptr, r3.1, r4.1, r5.1, v19, v20, v2] q18.2)
 ((abin Try.prog .eql 3 (.tmp 35) (.const (.int .i64 2)) v13 (.int .i64 2)).bind fun v62 =>
condV v62
 ((abin Try.prog .geq 3 (.tmp 49) (.const (.int .i64 0)) r4.1 (.int .i64 0)).bind fun v63 =>
joinK (ref23_wrong.j1 R) [x0, lptr, r3.1, r4.1, r5.1, v11, v63, v2] q10.2)
 ((abin Try.prog .eql 3 (.tmp 35) (.const (.int .i64 3)) v13 (.int .i64 3)).bind fun v64 =>
condV v64
 ((guardV v11 true ((lload false 1 (.pointer (some ⟨0, 3, none⟩)) v2).bind fun v65 =>
(abin Try.prog .eql 3 (.tmp 56) (.const (.int .i64 1)) v65 (.int .i64 1)).bind fun v66 =>
some ([v66], q10.2)) (some ([undef], q10.2))).bind fun q67 =>
(guardV (getL q67.1 0) false ((lload false 1 (.pointer (some ⟨0, 3, none⟩)) v2).bind fun v68 =>
(abin Try.prog .eql 3 (.tmp 60) (.const (.int .i64 2)) v68 (.int .i64 2)).bind fun v69 =>
some ([v69], q67.2)) (some ([undef], q67.2))).bind fun q70 =>
(guardV v11 true ((apick (getL q67.1 0) (.bool true) (getL q70.1 0)).bind fun v71 =>
some ([v71], q70.2)) (some ([undef], q70.2))).bind fun q72 =>
(apick v11 (getL q72.1 0) (.bool false)).bind fun v73 =>
(abin Try.prog .geq 3 (.tmp 64) (.const (.int .i64 0)) r5.1 (.int .i64 0)).bind fun v74 =>
joinK (ref23_wrong.j1 R) [x0, lptr, r3.1, r4.1, r5.1, v73, v74, v2] q72.2)
 (joinK (ref23_wrong.j1 R) [x0, lptr, r3.1, r4.1, r5.1, (.bool false), (.bool false), v2] q10.2)))

theorem ref23_wrong_of {lib : Lib} (hl : lib 20 = none) {x0 x1 : Value} {s : St} {r : Value × St} (h : ref23_wrong (run Try.prog lib hints) x0 x1 s = some r) : run Try.prog lib hints 20 [x0, x1] s = some r :=
  run_of hl Try.func20 (Eq.trans (by kernel_rfl) h)

theorem ref23_wrong_ok : funcOk Try.prog 20 = true := by kernel_rfl
theorem ref23_wrong_call {R : Caller} {xs : List Value} {s : St} : callV Try.prog R (.func (.func 20) #[] #[]) xs s = R 20 xs s := callV_eq ref23_wrong_ok

/-! ### sumpter/sumpterref23.replay: 21 -/

noncomputable def ref23_replay.j0 (R : Caller) (T : List Value) (s : St) : Res :=
(abin Try.prog .add 3 (.tmp 14) (.const (.int .i64 1)) (getL T 5) (.int .i64 1)).bind fun v8 =>
some (.normal, [(getL T 0), (getL T 1), (getL T 2), (getL T 3), (getL T 4), v8], s)

noncomputable def ref23_replay.b0 (R : Caller) (T : List Value) (s : St) : Res :=
(abin Try.prog .lss 3 (.tmp 14) (.tmp 13) (getL T 5) (getL T 4)).bind fun v1 =>
condV v1
 ((aindexS 6 (getL T 3) (getL T 5)).bind fun v3 =>
(aload true 6 v3 s).bind fun v4 =>
(lstore 6 lptr v4 (.agg #[(.int .i64 0), (.int .i64 0), (.int .u64 0), (.int .i64 0), (.slice none 0 0), (.slice none 0 0)])).bind fun v5 =>
(lload false 1 lptr v5).bind fun v6 =>
(abin Try.prog .neq 3 (.tmp 20) (.const (.int .i64 2)) v6 (.int .i64 2)).bind fun v7 =>
condV v7
 (joinK (ref23_replay.j0 R) [(getL T 0), (getL T 1), (getL T 2), (getL T 3), (getL T 4), (getL T 5)] s)
 ((callV Try.prog R (.func (.func 29) #[] #[]) [(getL T 0), (getL T 5), (.int .i64 1)] s).bind fun r9 =>
(aindexS 6 (getL T 0) r9.1).bind fun v10 =>
(afieldAddr 4 v10).bind fun v11 =>
(aload false 1 v11 r9.2).bind fun v12 =>
(callV Try.prog R (.func (.func 31) #[] #[]) [(getL T 1), v12] r9.2).bind fun r13 =>
(aextract 0 r13.1).bind fun v14 =>
(aextract 1 r13.1).bind fun v15 =>
(aextract 2 r13.1).bind fun v16 =>
joinK (ref23_replay.j0 R) [(getL T 0), v14, v15, (getL T 3), (getL T 4), (getL T 5)] r13.2))
 (some (.exit 0, [(getL T 1), (getL T 2)], s))

noncomputable def ref23_replay (R : Caller) (x0 : Value) (s : St) : Option (Value × St) :=
(alenV (.slice 39) x0 s).bind fun v0 =>
(loopL (ref23_replay.b0 R) [x0, (.slice none 0 0), (.slice none 0 0), x0, v0, (.int .i64 0)] s).bind fun r17 =>
exV r17.1 [(0, retV [(getL r17.2.1 0), (getL r17.2.1 1)] r17.2.2)]
 (none)

theorem ref23_replay_of {lib : Lib} (hl : lib 21 = none) {x0 : Value} {s : St} {r : Value × St} (h : ref23_replay (run Try.prog lib hints) x0 s = some r) : run Try.prog lib hints 21 [x0] s = some r :=
  run_of hl Try.func21 (Eq.trans (by kernel_rfl) h)

theorem ref23_replay_ok : funcOk Try.prog 21 = true := by kernel_rfl
theorem ref23_replay_call {R : Caller} {xs : List Value} {s : St} : callV Try.prog R (.func (.func 21) #[] #[]) xs s = R 21 xs s := callV_eq ref23_replay_ok

/-! ### sumpter/sumpterref04.All: 22 -/

noncomputable def ref04_All.b0 (R : Caller) (T : List Value) (s : St) : Res :=
(abin Try.prog .lss 3 (.tmp 8) (.tmp 7) (getL T 2) (getL T 1)).bind fun v1 =>
condV v1
 ((aindexS 6 (getL T 0) (getL T 2)).bind fun v2 =>
(aload true 6 v2 s).bind fun v3 =>
(lstore 6 lptr v3 (.agg #[(.int .i64 0), (.string ⟨#[]⟩), (.string ⟨#[]⟩), (.string ⟨#[]⟩), (.string ⟨#[]⟩), (.int .i64 0)])).bind fun v4 =>
(lload true 6 lptr v4).bind fun v5 =>
(callV Try.prog R (.func (.func 32) #[] #[]) [v5] s).bind fun r6 =>
(abin Try.prog .neq 24 (.tmp 14) (.const (.int .i64 0)) r6.1 (.int .i64 0)).bind fun v7 =>
condV v7
 (some (.ret, [r6.1], r6.2))
 ((abin Try.prog .add 3 (.tmp 8) (.const (.int .i64 1)) (getL T 2) (.int .i64 1)).bind fun v8 =>
some (.normal, [(getL T 0), (getL T 1), v8], r6.2)))
 (some (.exit 0, [], s))

noncomputable def ref04_All (R : Caller) (x0 : Value) (s : St) : Option (Value × St) :=
(alenV (.slice 53) x0 s).bind fun v0 =>
(loopL (ref04_All.b0 R) [x0, v0, (.int .i64 0)] s).bind fun r9 =>
exV r9.1 [(0, retV [(.int .i64 0)] r9.2.2)]
 (retV [(getL r9.2.1 0)] r9.2.2)

theorem ref04_All_of {lib : Lib} (hl : lib 22 = none) {x0 : Value} {s : St} {r : Value × St} (h : ref04_All (run Try.prog lib hints) x0 s = some r) : run Try.prog lib hints 22 [x0] s = some r :=
  run_of hl Try.func22 (Eq.trans (by kernel_rfl) h)

theorem ref04_All_ok : funcOk Try.prog 22 = true := by kernel_rfl
theorem ref04_All_call {R : Caller} {xs : List Value} {s : St} : callV Try.prog R (.func (.func 22) #[] #[]) xs s = R 22 xs s := callV_eq ref04_All_ok

/-! ### sumpter/sumpterref04.Span: 23 -/

noncomputable def ref04_Span (R : Caller) (x0 : Value) (s : St) : Option (Value × St) :=
(lbox x0).bind fun v0 =>
(lload true 6 lptr v0).bind fun v1 =>
(callV Try.prog R (.func (.func 32) #[] #[]) [v1] s).bind fun r2 =>
(abin Try.prog .neq 24 (.tmp 7) (.const (.int .i64 0)) r2.1 (.int .i64 0)).bind fun v3 =>
condV v3
 (retV [(.agg #[(.string ⟨#[]⟩), (.string ⟨#[]⟩)]), r2.1] r2.2)
 ((lload false 1 (.pointer (some ⟨0, 1, none⟩)) v0).bind fun v4 =>
(abin Try.prog .neq 9 (.tmp 12) (.const (.string ⟨#[]⟩)) v4 (.string ⟨#[]⟩)).bind fun v5 =>
condV v5
 ((lload false 1 (.pointer (some ⟨0, 1, none⟩)) v0).bind fun v6 =>
(callV Try.prog R (.func (.func 33) #[] #[]) [v6] r2.2).bind fun r7 =>
(aextract 0 r7.1).bind fun v8 =>
(aextract 1 r7.1).bind fun v9 =>
(lstore 2 lptr v8 (.agg #[(.string ⟨#[]⟩), (.string ⟨#[]⟩)])).bind fun v10 =>
(lload true 2 lptr v10).bind fun v11 =>
retV [v11, v9] r7.2)
 ((lload false 1 (.pointer (some ⟨0, 3, none⟩)) v0).bind fun v12 =>
(lload false 1 (.pointer (some ⟨0, 4, none⟩)) v0).bind fun v13 =>
(abuild Try.prog 46 [(0, v12), (1, v13)]).bind fun v14 =>
(lstore 2 lptr v14 (.agg #[(.string ⟨#[]⟩), (.string ⟨#[]⟩)])).bind fun v15 =>
(lload true 2 lptr v15).bind fun v16 =>
retV [v16, (.int .i64 0)] r2.2))

theorem ref04_Span_of {lib : Lib} (hl : lib 23 = none) {x0 : Value} {s : St} {r : Value × St} (h : ref04_Span (run Try.prog lib hints) x0 s = some r) : run Try.prog lib hints 23 [x0] s = some r :=
  run_of hl Try.func23 (Eq.trans (by kernel_rfl) h)

theorem ref04_Span_ok : funcOk Try.prog 23 = true := by kernel_rfl
/-! ### sumpter/sumpterref04.Writes: 24 -/

noncomputable def ref04_Writes (R : Caller) (x0 : Value) (s : St) : Option (Value × St) :=
(lbox x0).bind fun v0 =>
(lload false 1 lptr v0).bind fun v1 =>
(abin Try.prog .eql 3 (.tmp 4) (.const (.int .i64 2)) v1 (.int .i64 2)).bind fun v2 =>
(guardV v2 false ((lload false 1 lptr v0).bind fun v3 =>
(abin Try.prog .eql 3 (.tmp 8) (.const (.int .i64 3)) v3 (.int .i64 3)).bind fun v4 =>
some ([v4], s)) (some ([undef], s))).bind fun q5 =>
(apick v2 (.bool true) (getL q5.1 0)).bind fun v6 =>
(guardV v6 false ((lload false 1 lptr v0).bind fun v7 =>
(abin Try.prog .eql 3 (.tmp 13) (.const (.int .i64 5)) v7 (.int .i64 5)).bind fun v8 =>
some ([v8], q5.2)) (some ([undef], q5.2))).bind fun q9 =>
(apick v6 (.bool true) (getL q9.1 0)).bind fun v10 =>
retV [v10] q9.2

theorem ref04_Writes_of {lib : Lib} (hl : lib 24 = none) {x0 : Value} {s : St} {r : Value × St} (h : ref04_Writes (run Try.prog lib hints) x0 s = some r) : run Try.prog lib hints 24 [x0] s = some r :=
  run_of hl Try.func24 (Eq.trans (by kernel_rfl) h)

theorem ref04_Writes_ok : funcOk Try.prog 24 = true := by kernel_rfl
/-! ### sumpter/sumpterref02.Check: 25 -/

noncomputable def ref02_Check (R : Caller) (x0 : Value) (s : St) : Option (Value × St) :=
(lbox x0).bind fun v0 =>
(lload false 1 lptr v0).bind fun v1 =>
(alenV .string v1 s).bind fun v2 =>
(abin Try.prog .gtr 3 (.tmp 5) (.const (.int .i64 12)) v2 (.int .i64 12)).bind fun v3 =>
(guardV v3 false ((lload false 1 (.pointer (some ⟨0, 1, none⟩)) v0).bind fun v4 =>
(alenV .string v4 s).bind fun v5 =>
(abin Try.prog .gtr 3 (.tmp 10) (.const (.int .i64 12)) v5 (.int .i64 12)).bind fun v6 =>
some ([v6], s)) (some ([undef], s))).bind fun q7 =>
(apick v3 (.bool true) (getL q7.1 0)).bind fun v8 =>
(guardV v8 false ((lload false 1 (.pointer (some ⟨0, 1, none⟩)) v0).bind fun v9 =>
(abin Try.prog .neq 9 (.tmp 15) (.const (.string ⟨#[]⟩)) v9 (.string ⟨#[]⟩)).bind fun v10 =>
some ([v10], q7.2)) (some ([undef], q7.2))).bind fun q11 =>
(guardV (getL q11.1 0) true ((lload false 1 lptr v0).bind fun v12 =>
(lload false 1 (.pointer (some ⟨0, 1, none⟩)) v0).bind fun v13 =>
(abin Try.prog .geq 9 (.tmp 19) (.tmp 21) v12 v13).bind fun v14 =>
some ([v14], q11.2)) (some ([undef], q11.2))).bind fun q15 =>
(guardV v8 false ((apick (getL q11.1 0) (getL q15.1 0) (.bool false)).bind fun v16 =>
some ([v16], q15.2)) (some ([undef], q15.2))).bind fun q17 =>
(apick v8 (.bool true) (getL q17.1 0)).bind fun v18 =>
condV v18
 (retV [(.int .i64 21)] q17.2)
 (retV [(.int .i64 0)] q17.2)

theorem ref02_Check_of {lib : Lib} (hl : lib 25 = none) {x0 : Value} {s : St} {r : Value × St} (h : ref02_Check (run Try.prog lib hints) x0 s = some r) : run Try.prog lib hints 25 [x0] s = some r :=
  run_of hl Try.func25 (Eq.trans (by kernel_rfl) h)

theorem ref02_Check_ok : funcOk Try.prog 25 = true := by kernel_rfl
theorem ref02_Check_call {R : Caller} {xs : List Value} {s : St} : callV Try.prog R (.func (.func 25) #[] #[]) xs s = R 25 xs s := callV_eq ref02_Check_ok

/-! ### sumpter/sumpterref02.below: 26 -/

/-! ### (*sumpter/judge.known).begin: 27 -/

noncomputable def judge_known_begin (R : Caller) (x0 : Value) (s : St) : Option (Value × St) :=
(anilCheck x0).bind fun v0 =>
(afieldAddr 0 v0).bind fun v1 =>
(aload false 1 v1 s).bind fun v2 =>
(aclearM v2 s).bind fun s3 =>
(anilCheck x0).bind fun v4 =>
(afieldAddr 1 v4).bind fun v5 =>
(aload false 1 v5 s3).bind fun v6 =>
(aclearM v6 s3).bind fun s7 =>
(anilCheck x0).bind fun v8 =>
(afieldAddr 2 v8).bind fun v9 =>
(aload false 1 v9 s7).bind fun v10 =>
(aclearM v10 s7).bind fun s11 =>
(anilCheck x0).bind fun v12 =>
(afieldAddr 3 v12).bind fun v13 =>
(astore 1 v13 (.slice none 0 0) s11).bind fun s14 =>
retV [] s14

theorem judge_known_begin_of {lib : Lib} (hl : lib 27 = none) {x0 : Value} {s : St} {r : Value × St} (h : judge_known_begin (run Try.prog lib hints) x0 s = some r) : run Try.prog lib hints 27 [x0] s = some r :=
  run_of hl Try.func27 (Eq.trans (by kernel_rfl) h)

theorem judge_known_begin_ok : funcOk Try.prog 27 = true := by kernel_rfl
theorem judge_known_begin_call {R : Caller} {xs : List Value} {s : St} : callV Try.prog R (.func (.func 27) #[] #[]) xs s = R 27 xs s := callV_eq judge_known_begin_ok

/-! ### (*sumpter/judge.known).see: 28 -/

noncomputable def judge_known_see.j0 (R : Caller) (T : List Value) (s : St) : Option (Value × St) :=
condV (getL T 2)
 (retV [(.int .i64 11)] s)
 ((anilCheck (getL T 0)).bind fun v87 =>
(afieldAddr 2 v87).bind fun v88 =>
(((aload false 1 v88 s).bind fun v93 =>
some (v93, s)).bind (ownR s)).bind fun r89 =>
(lload true 2 (getL T 1) (getL T 3)).bind fun v90 =>
(((amapUpdate Try.prog 77 r89.1 v90 (.bool true) r89.2).bind fun s92 =>
some (undef, s92)).bind (ownR r89.2)).bind fun r91 =>
retV [(.int .i64 0)] r91.2)

noncomputable def judge_known_see.j1 (R : Caller) (T : List Value) (s : St) : Option (Value × St) :=
condV (getL T 5)
 (retV [(.int .i64 4)] s)
 ((afieldAddr 0 (getL T 1)).bind fun v53 =>
(lload false 1 v53 (getL T 6)).bind fun v54 =>
(abin Try.prog .eql 3 (.tmp 96) (.const (.int .i64 2)) v54 (.int .i64 2)).bind fun v55 =>
condV v55
 ((anilCheck (getL T 0)).bind fun v56 =>
(afieldAddr 3 v56).bind fun v57 =>
(aload false 1 v57 s).bind fun v58 =>
(callV Try.prog R (.func (.func 35) #[] #[]) [v58, (getL T 3)] s).bind fun r59 =>
(aextract 0 r59.1).bind fun v60 =>
(aextract 1 r59.1).bind fun v61 =>
(aextract 2 r59.1).bind fun v62 =>
(anilCheck (getL T 0)).bind fun v63 =>
(afieldAddr 1 v63).bind fun v64 =>
(((aload false 1 v64 r59.2).bind fun v76 =>
some (v76, r59.2)).bind (ownR r59.2)).bind fun r65 =>
(lload true 2 (getL T 2) (getL T 7)).bind fun v66 =>
(anilCheck (getL T 0)).bind fun v67 =>
(afieldAddr 3 v67).bind fun v68 =>
(((astore 1 v68 v60 r65.2).bind fun s75 =>
some (undef, s75)).bind (ownR r65.2)).bind fun r69 =>
(((amapEntry Try.prog 77 (.slice none 0 0) r65.1 v66 r69.2).bind fun r74 =>
some (r74.1, r74.2)).bind (ownR r69.2)).bind fun r70 =>
(aextract 1 r70.1).bind fun v71 =>
(((aentryStore r65.1 v71 v61 r70.2).bind fun s73 =>
some (undef, s73)).bind (ownR r70.2)).bind fun r72 =>
retV [v62] r72.2)
 ((afieldAddr 3 (getL T 1)).bind fun v78 =>
(lload false 1 v78 (getL T 6)).bind fun v79 =>
(abin Try.prog .eql 3 (.tmp 123) (.const (.int .i64 1)) v79 (.int .i64 1)).bind fun v80 =>
(guardV v80 true ((afieldAddr 5 (getL T 1)).bind fun v81 =>
(lload false 1 v81 (getL T 6)).bind fun v82 =>
(callV Try.prog R (.func (.func 36) #[] #[]) [(getL T 4), v82] s).bind fun r83 =>
(aun .not r83.1).bind fun v84 =>
some ([v84], r83.2)) (some ([undef], s))).bind fun q85 =>
(apick v80 (getL q85.1 0) (.bool false)).bind fun v86 =>
condV v86
 (joinK (judge_known_see.j0 R) [(getL T 0), (getL T 2), v86, (getL T 7)] q85.2)
 ((afieldAddr 3 (getL T 1)).bind fun v94 =>
(lload false 1 v94 (getL T 6)).bind fun v95 =>
(abin Try.prog .eql 3 (.tmp 133) (.const (.int .i64 2)) v95 (.int .i64 2)).bind fun v96 =>
(guardV v96 true ((afieldAddr 5 (getL T 1)).bind fun v97 =>
(lload false 1 v97 (getL T 6)).bind fun v98 =>
(alenV (.slice 82) v98 q85.2).bind fun v99 =>
(abin Try.prog .gtr 3 (.tmp 138) (.const (.int .i64 0)) v99 (.int .i64 0)).bind fun v100 =>
some ([v100], q85.2)) (some ([undef], q85.2))).bind fun q101 =>
(apick v96 (getL q101.1 0) (.bool false)).bind fun v102 =>
joinK (judge_known_see.j0 R) [(getL T 0), (getL T 2), v102, (getL T 7)] q101.2)))

noncomputable def judge_known_see (R : Caller) (x0 x1 : Value) (s : St) : Option (Value × St) :=
(lbox x1).bind fun v0 =>
(lload true 6 lptr v0).bind fun v1 =>
(callV Try.prog R (.func (.func 34) #[] #[]) [v1] s).bind fun r2 =>
(abin Try.prog .neq 24 (.tmp 17) (.const (.int .i64 0)) r2.1 (.int .i64 0)).bind fun v3 =>
condV v3
 (retV [r2.1] r2.2)
 ((lload false 1 (.pointer (some ⟨0, 1, none⟩)) v0).bind fun v4 =>
(lload false 1 (.pointer (some ⟨0, 2, none⟩)) v0).bind fun v5 =>
(abuild Try.prog 77 [(0, v4), (1, v5)]).bind fun v6 =>
(lstore 2 lptr v6 (.agg #[(.int .i64 0), (.int .u64 0)])).bind fun v7 =>
(anilCheck x0).bind fun v8 =>
(afieldAddr 0 v8).bind fun v9 =>
(((aload false 1 v9 r2.2).bind fun v117 =>
some (v117, r2.2)).bind (ownR r2.2)).bind fun r10 =>
(lload true 2 lptr v7).bind fun v11 =>
(((alookup Try.prog 77 (.slice none 0 0) r10.1 v11 true r10.2).bind fun v116 =>
some (v116, r10.2)).bind (ownR r10.2)).bind fun r12 =>
(aextract 0 r12.1).bind fun v13 =>
(aextract 1 r12.1).bind fun v14 =>
(anilCheck x0).bind fun v15 =>
(afieldAddr 1 v15).bind fun v16 =>
(((aload false 1 v16 r12.2).bind fun v115 =>
some (v115, r12.2)).bind (ownR r12.2)).bind fun r17 =>
(lload true 2 lptr v7).bind fun v18 =>
(((alookup Try.prog 77 (.slice none 0 0) r17.1 v18 true r17.2).bind fun v114 =>
some (v114, r17.2)).bind (ownR r17.2)).bind fun r19 =>
(aextract 0 r19.1).bind fun v20 =>
(aextract 1 r19.1).bind fun v21 =>
(anilCheck x0).bind fun v22 =>
(afieldAddr 2 v22).bind fun v23 =>
(((aload false 1 v23 r19.2).bind fun v113 =>
some (v113, r19.2)).bind (ownR r19.2)).bind fun r24 =>
(lload true 2 lptr v7).bind fun v25 =>
(((alookup Try.prog 77 (.bool false) r24.1 v25 false r24.2).bind fun v112 =>
some (v112, r24.2)).bind (ownR r24.2)).bind fun r26 =>
(lload false 1 lptr v0).bind fun v27 =>
(litF .i64 (.bool false) [(1, v14), (2, v21), (3, r26.1)] v27).bind fun v28 =>
condV v28
 (retV [(.int .i64 6)] r26.2)
 ((lload false 1 lptr v0).bind fun v29 =>
(abin Try.prog .eql 3 (.tmp 60) (.const (.int .i64 1)) v29 (.int .i64 1)).bind fun v30 =>
condV v30
 ((anilCheck x0).bind fun v31 =>
(afieldAddr 0 v31).bind fun v32 =>
(((aload false 1 v32 r26.2).bind fun v38 =>
some (v38, r26.2)).bind (ownR r26.2)).bind fun r33 =>
(lload true 2 lptr v7).bind fun v34 =>
(lload false 1 (.pointer (some ⟨0, 4, none⟩)) v0).bind fun v35 =>
(((amapUpdate Try.prog 77 r33.1 v34 v35 r33.2).bind fun s37 =>
some (undef, s37)).bind (ownR r33.2)).bind fun r36 =>
retV [(.int .i64 0)] r36.2)
 ((aun .not v14).bind fun v39 =>
condV v39
 (retV [(.int .i64 5)] r26.2)
 ((lload false 1 lptr v0).bind fun v41 =>
(abin Try.prog .eql 3 (.tmp 74) (.const (.int .i64 2)) v41 (.int .i64 2)).bind fun v42 =>
(guardV v42 true (some ([x0], r26.2)) (some ([undef], r26.2))).bind fun q43 =>
(guardV v42 true ((anilCheck (getL q43.1 0)).bind fun v44 =>
some ([v44], q43.2)) (some ([undef], q43.2))).bind fun q45 =>
(guardV v42 true ((afieldAddr 2 (getL q45.1 0)).bind fun v46 =>
some ([v46], q45.2)) (some ([undef], q45.2))).bind fun q47 =>
((guardV v42 true ((aload false 1 (getL q47.1 0) q47.2).bind fun v111 =>
some (v111, q47.2)) (some (undef, q47.2))).bind (ownR q47.2)).bind fun r48 =>
(guardV v42 true ((lload true 2 lptr v7).bind fun v49 =>
some ([v49], r48.2)) (some ([undef], r48.2))).bind fun q50 =>
((guardV v42 true ((alookup Try.prog 77 (.bool false) r48.1 (getL q50.1 0) false q50.2).bind fun v110 =>
some (v110, q50.2)) (some (undef, q50.2))).bind (ownR q50.2)).bind fun r51 =>
(apick v42 r51.1 (.bool false)).bind fun v52 =>
condV v52
 (joinK (judge_known_see.j1 R) [x0, lptr, lptr, v13, v20, v52, v0, v7] r51.2)
 ((lload false 1 lptr v0).bind fun v103 =>
(abin Try.prog .eql 3 (.tmp 85) (.const (.int .i64 3)) v103 (.int .i64 3)).bind fun v104 =>
(guardV v104 true ((lload false 1 (.pointer (some ⟨0, 3, none⟩)) v0).bind fun v105 =>
(abin Try.prog .eql 3 (.tmp 89) (.const (.int .i64 1)) v105 (.int .i64 1)).bind fun v106 =>
(abin Try.prog .neq 4 (.tmp 90) (.tmp 91) v106 v21).bind fun v107 =>
some ([v107], r51.2)) (some ([undef], r51.2))).bind fun q108 =>
(apick v104 (getL q108.1 0) (.bool false)).bind fun v109 =>
joinK (judge_known_see.j1 R) [x0, lptr, lptr, v13, v20, v109, v0, v7] q108.2)))))

theorem judge_known_see_of {lib : Lib} (hl : lib 28 = none) {x0 x1 : Value} {s : St} {r : Value × St} (h : judge_known_see (run Try.prog lib hints) x0 x1 s = some r) : run Try.prog lib hints 28 [x0, x1] s = some r :=
  run_of hl Try.func28 (Eq.trans (by kernel_rfl) h)

theorem judge_known_see_ok : funcOk Try.prog 28 = true := by kernel_rfl
theorem judge_known_see_call {R : Caller} {xs : List Value} {s : St} : callV Try.prog R (.func (.func 28) #[] #[]) xs s = R 28 xs s := callV_eq judge_known_see_ok

/-! ### sumpter/sumpterref23.before: 29 -/

noncomputable def ref23_before.b0 (R : Caller) (T : List Value) (s : St) : Res :=
(abin Try.prog .lss 3 (.tmp 8) (.tmp 9) (getL T 3) (getL T 1)).bind fun v0 =>
condV v0
 ((aindexS 6 (getL T 0) (getL T 3)).bind fun v1 =>
(afieldAddr 0 v1).bind fun v2 =>
(((aload false 1 v2 s).bind fun v44 =>
some (v44, s)).bind (ownR s)).bind fun r3 =>
(abin Try.prog .eql 3 (.tmp 17) (.tmp 18) r3.1 (getL T 2)).bind fun v4 =>
(guardV v4 true (some ([(getL T 0)], r3.2)) (some ([undef], r3.2))).bind fun q5 =>
(guardV v4 true (some ([(getL T 3)], q5.2)) (some ([undef], q5.2))).bind fun q6 =>
(guardV v4 true ((aindexS 6 (getL q5.1 0) (getL q6.1 0)).bind fun v7 =>
some ([v7], q6.2)) (some ([undef], q6.2))).bind fun q8 =>
(guardV v4 true ((afieldAddr 1 (getL q8.1 0)).bind fun v9 =>
some ([v9], q8.2)) (some ([undef], q8.2))).bind fun q10 =>
(guardV v4 true ((aload false 1 (getL q10.1 0) (frzS q10.2)).bind fun v43 =>
some (v43, (frzS q10.2))) (some (undef, (frzS q10.2)))).bind fun r11 =>
(guardV v4 true (some ([(getL T 0)], q10.2)) (some ([undef], q10.2))).bind fun q12 =>
(guardV v4 true (some ([(getL T 1)], q12.2)) (some ([undef], q12.2))).bind fun q13 =>
(guardV v4 true ((aindexS 6 (getL q12.1 0) (getL q13.1 0)).bind fun v14 =>
some ([v14], q13.2)) (some ([undef], q13.2))).bind fun q15 =>
(guardV v4 true ((afieldAddr 1 (getL q15.1 0)).bind fun v16 =>
some ([v16], q15.2)) (some ([undef], q15.2))).bind fun q17 =>
(guardV v4 true ((aload false 1 (getL q17.1 0) (frzS q17.2)).bind fun v42 =>
some (v42, (frzS q17.2))) (some (undef, (frzS q17.2)))).bind fun r18 =>
(guardV v4 true ((abin Try.prog .eql 3 (.tmp 25) (.tmp 30) r11.1 r18.1).bind fun v19 =>
some ([v19], q17.2)) (some ([undef], q17.2))).bind fun q20 =>
(apick v4 (getL q20.1 0) (.bool false)).bind fun v21 =>
(guardV v21 true (some ([(getL T 0)], q20.2)) (some ([undef], q20.2))).bind fun q22 =>
(guardV v21 true (some ([(getL T 3)], q22.2)) (some ([undef], q22.2))).bind fun q23 =>
(guardV v21 true ((aindexS 6 (getL q22.1 0) (getL q23.1 0)).bind fun v24 =>
some ([v24], q23.2)) (some ([undef], q23.2))).bind fun q25 =>
(guardV v21 true ((afieldAddr 2 (getL q25.1 0)).bind fun v26 =>
some ([v26], q25.2)) (some ([undef], q25.2))).bind fun q27 =>
(guardV v21 true ((aload false 1 (getL q27.1 0) (frzS q27.2)).bind fun v41 =>
some (v41, (frzS q27.2))) (some (undef, (frzS q27.2)))).bind fun r28 =>
(guardV v21 true (some ([(getL T 0)], q27.2)) (some ([undef], q27.2))).bind fun q29 =>
(guardV v21 true (some ([(getL T 1)], q29.2)) (some ([undef], q29.2))).bind fun q30 =>
(guardV v21 true ((aindexS 6 (getL q29.1 0) (getL q30.1 0)).bind fun v31 =>
some ([v31], q30.2)) (some ([undef], q30.2))).bind fun q32 =>
(guardV v21 true ((afieldAddr 2 (getL q32.1 0)).bind fun v33 =>
some ([v33], q32.2)) (some ([undef], q32.2))).bind fun q34 =>
(guardV v21 true ((aload false 1 (getL q34.1 0) (frzS q34.2)).bind fun v40 =>
some (v40, (frzS q34.2))) (some (undef, (frzS q34.2)))).bind fun r35 =>
(guardV v21 true ((abin Try.prog .eql 35 (.tmp 38) (.tmp 43) r28.1 r35.1).bind fun v36 =>
some ([v36], q34.2)) (some ([undef], q34.2))).bind fun q37 =>
(apick v21 (getL q37.1 0) (.bool false)).bind fun v38 =>
condV v38
 (some (.ret, [(getL T 3)], q37.2))
 ((abin Try.prog .add 3 (.tmp 11) (.const (.int .i64 1)) (getL T 3) (.int .i64 1)).bind fun v39 =>
some (.normal, [(getL T 0), (getL T 1), (getL T 2), v39], q37.2)))
 (some (.exit 0, [], s))

noncomputable def ref23_before (R : Caller) (x0 x1 x2 : Value) (s : St) : Option (Value × St) :=
(loopL (ref23_before.b0 R) [x0, x1, x2, (.int .i64 0)] s).bind fun r45 =>
exV r45.1 [(0, retV [(.int .i64 (-1))] r45.2.2)]
 (retV [(getL r45.2.1 0)] r45.2.2)

theorem ref23_before_of {lib : Lib} (hl : lib 29 = none) {x0 x1 x2 : Value} {s : St} {r : Value × St} (h : ref23_before (run Try.prog lib hints) x0 x1 x2 s = some r) : run Try.prog lib hints 29 [x0, x1, x2] s = some r :=
  run_of hl Try.func29 (Eq.trans (by kernel_rfl) h)

theorem ref23_before_ok : funcOk Try.prog 29 = true := by kernel_rfl
theorem ref23_before_call {R : Caller} {xs : List Value} {s : St} : callV Try.prog R (.func (.func 29) #[] #[]) xs s = R 29 xs s := callV_eq ref23_before_ok

/-! ### sumpter/sumpterref04.SameResults: 30 -/

noncomputable def ref04_SameResults.b0 (R : Caller) (T : List Value) (s : St) : Res :=
(abin Try.prog .lss 3 (.tmp 13) (.tmp 12) (getL T 3) (getL T 2)).bind fun v4 =>
condV v4
 ((aindexS 3 (getL T 0) (getL T 3)).bind fun v5 =>
(afieldAddr 0 v5).bind fun v6 =>
((aload false 1 v6 (frzS s)).bind fun v54 =>
some (v54, (frzS s))).bind fun r7 =>
(aindexS 3 (getL T 1) (getL T 3)).bind fun v8 =>
(afieldAddr 0 v8).bind fun v9 =>
((aload false 1 v9 (frzS s)).bind fun v53 =>
some (v53, (frzS s))).bind fun r10 =>
(abin Try.prog .neq 4 (.tmp 20) (.tmp 25) r7.1 r10.1).bind fun v11 =>
(guardV v11 false (some ([(getL T 0)], s)) (some ([undef], s))).bind fun q12 =>
(guardV v11 false (some ([(getL T 3)], q12.2)) (some ([undef], q12.2))).bind fun q13 =>
(guardV v11 false ((aindexS 3 (getL q12.1 0) (getL q13.1 0)).bind fun v14 =>
some ([v14], q13.2)) (some ([undef], q13.2))).bind fun q15 =>
(guardV v11 false ((afieldAddr 1 (getL q15.1 0)).bind fun v16 =>
some ([v16], q15.2)) (some ([undef], q15.2))).bind fun q17 =>
(guardV v11 false ((aload false 1 (getL q17.1 0) (frzS q17.2)).bind fun v52 =>
some (v52, (frzS q17.2))) (some (undef, (frzS q17.2)))).bind fun r18 =>
(guardV v11 false (some ([(getL T 1)], q17.2)) (some ([undef], q17.2))).bind fun q19 =>
(guardV v11 false (some ([(getL T 3)], q19.2)) (some ([undef], q19.2))).bind fun q20 =>
(guardV v11 false ((aindexS 3 (getL q19.1 0) (getL q20.1 0)).bind fun v21 =>
some ([v21], q20.2)) (some ([undef], q20.2))).bind fun q22 =>
(guardV v11 false ((afieldAddr 1 (getL q22.1 0)).bind fun v23 =>
some ([v23], q22.2)) (some ([undef], q22.2))).bind fun q24 =>
(guardV v11 false ((aload false 1 (getL q24.1 0) (frzS q24.2)).bind fun v51 =>
some (v51, (frzS q24.2))) (some (undef, (frzS q24.2)))).bind fun r25 =>
(guardV v11 false ((abin Try.prog .neq 9 (.tmp 32) (.tmp 37) r18.1 r25.1).bind fun v26 =>
some ([v26], q24.2)) (some ([undef], q24.2))).bind fun q27 =>
(apick v11 (.bool true) (getL q27.1 0)).bind fun v28 =>
(guardV v28 false (some ([(getL T 0)], q27.2)) (some ([undef], q27.2))).bind fun q29 =>
(guardV v28 false (some ([(getL T 3)], q29.2)) (some ([undef], q29.2))).bind fun q30 =>
(guardV v28 false ((aindexS 3 (getL q29.1 0) (getL q30.1 0)).bind fun v31 =>
some ([v31], q30.2)) (some ([undef], q30.2))).bind fun q32 =>
(guardV v28 false ((afieldAddr 2 (getL q32.1 0)).bind fun v33 =>
some ([v33], q32.2)) (some ([undef], q32.2))).bind fun q34 =>
(guardV v28 false ((aload false 1 (getL q34.1 0) (frzS q34.2)).bind fun v50 =>
some (v50, (frzS q34.2))) (some (undef, (frzS q34.2)))).bind fun r35 =>
(guardV v28 false (some ([(getL T 1)], q34.2)) (some ([undef], q34.2))).bind fun q36 =>
(guardV v28 false (some ([(getL T 3)], q36.2)) (some ([undef], q36.2))).bind fun q37 =>
(guardV v28 false ((aindexS 3 (getL q36.1 0) (getL q37.1 0)).bind fun v38 =>
some ([v38], q37.2)) (some ([undef], q37.2))).bind fun q39 =>
(guardV v28 false ((afieldAddr 2 (getL q39.1 0)).bind fun v40 =>
some ([v40], q39.2)) (some ([undef], q39.2))).bind fun q41 =>
(guardV v28 false ((aload false 1 (getL q41.1 0) (frzS q41.2)).bind fun v49 =>
some (v49, (frzS q41.2))) (some (undef, (frzS q41.2)))).bind fun r42 =>
((guardV v28 false ((callV Try.prog R (.func (.func 13) #[] #[]) [r35.1, r42.1] q41.2).bind fun r48 =>
some (r48.1, r48.2)) (some (undef, q41.2))).bind (ownR q41.2)).bind fun r43 =>
(guardV v28 false ((aun .not r43.1).bind fun v44 =>
some ([v44], r43.2)) (some ([undef], r43.2))).bind fun q45 =>
(apick v28 (.bool true) (getL q45.1 0)).bind fun v46 =>
condV v46
 (some (.ret, [(.bool false)], q45.2))
 ((abin Try.prog .add 3 (.tmp 13) (.const (.int .i64 1)) (getL T 3) (.int .i64 1)).bind fun v47 =>
some (.normal, [(getL T 0), (getL T 1), (getL T 2), v47], q45.2)))
 (some (.exit 0, [], s))

noncomputable def ref04_SameResults (R : Caller) (x0 x1 : Value) (s : St) : Option (Value × St) :=
(alenV (.slice 82) x0 s).bind fun v0 =>
(alenV (.slice 82) x1 s).bind fun v1 =>
(abin Try.prog .neq 3 (.tmp 7) (.tmp 9) v0 v1).bind fun v2 =>
condV v2
 (retV [(.bool false)] s)
 ((alenV (.slice 82) x0 s).bind fun v3 =>
(loopL (ref04_SameResults.b0 R) [x0, x1, v3, (.int .i64 0)] s).bind fun r55 =>
exV r55.1 [(0, retV [(.bool true)] r55.2.2)]
 (retV [(getL r55.2.1 0)] r55.2.2))

theorem ref04_SameResults_of {lib : Lib} (hl : lib 30 = none) {x0 x1 : Value} {s : St} {r : Value × St} (h : ref04_SameResults (run Try.prog lib hints) x0 x1 s = some r) : run Try.prog lib hints 30 [x0, x1] s = some r :=
  run_of hl Try.func30 (Eq.trans (by kernel_rfl) h)

theorem ref04_SameResults_ok : funcOk Try.prog 30 = true := by kernel_rfl
theorem ref04_SameResults_call {R : Caller} {xs : List Value} {s : St} : callV Try.prog R (.func (.func 30) #[] #[]) xs s = R 30 xs s := callV_eq ref04_SameResults_ok

/-! ### sumpter/sumpterref04.Apply: 31 -/

noncomputable def ref04_Apply.b0 (R : Caller) (T : List Value) (s : St) : Res :=
(abin Try.prog .lss 3 (.tmp 28) (.tmp 27) (getL T 4) (getL T 3)).bind fun v6 =>
condV v6
 ((aindexS 6 (getL T 2) (getL T 4)).bind fun v7 =>
(aload true 6 v7 s).bind fun v8 =>
(lstore 6 lptr v8 (.agg #[(.int .i64 0), (.string ⟨#[]⟩), (.string ⟨#[]⟩), (.string ⟨#[]⟩), (.string ⟨#[]⟩), (.int .i64 0)])).bind fun v9 =>
(lload true 6 lptr v9).bind fun v10 =>
(callV Try.prog R (.func (.func 38) #[] #[]) [(getL T 0), v10] s).bind fun r11 =>
(aextract 0 r11.1).bind fun v12 =>
(aextract 1 r11.1).bind fun v13 =>
(lstore 3 lptr v13 (.agg #[(.bool false), (.string ⟨#[]⟩), (.slice none 0 0)])).bind fun v14 =>
(lload true 3 lptr v14).bind fun v15 =>
(abuildSl 3 [(.bool false), (.string ⟨#[]⟩), (.slice none 0 0)] 1 [(0, v15)] r11.2).bind fun r16 =>
(aappend 3 48 (getL T 1) r16.1 r16.2).bind fun r17 =>
(abin Try.prog .add 3 (.tmp 28) (.const (.int .i64 1)) (getL T 4) (.int .i64 1)).bind fun v18 =>
some (.normal, [v12, r17.1, (getL T 2), (getL T 3), v18], r17.2))
 (some (.exit 0, [(getL T 0), (getL T 1)], s))

noncomputable def ref04_Apply (R : Caller) (x0 x1 : Value) (s : St) : Option (Value × St) :=
(callV Try.prog R (.func (.func 37) #[] #[]) [x0] s).bind fun r0 =>
(abin Try.prog .neq 24 (.tmp 16) (.const (.int .i64 0)) r0.1 (.int .i64 0)).bind fun v1 =>
condV v1
 (retV [(.slice none 0 0), (.slice none 0 0), r0.1] r0.2)
 ((callV Try.prog R (.func (.func 22) #[] #[]) [x1] r0.2).bind fun r2 =>
(abin Try.prog .neq 24 (.tmp 21) (.const (.int .i64 0)) r2.1 (.int .i64 0)).bind fun v3 =>
condV v3
 (retV [(.slice none 0 0), (.slice none 0 0), r2.1] r2.2)
 ((aappend 2 32 (.slice none 0 0) x0 r2.2).bind fun r4 =>
(alenV (.slice 53) x1 r4.2).bind fun v5 =>
(loopL (ref04_Apply.b0 R) [r4.1, (.slice none 0 0), x1, v5, (.int .i64 0)] r4.2).bind fun r19 =>
exV r19.1 [(0, retV [(getL r19.2.1 0), (getL r19.2.1 1), (.int .i64 0)] r19.2.2)]
 (none)))

theorem ref04_Apply_of {lib : Lib} (hl : lib 31 = none) {x0 x1 : Value} {s : St} {r : Value × St} (h : ref04_Apply (run Try.prog lib hints) x0 x1 s = some r) : run Try.prog lib hints 31 [x0, x1] s = some r :=
  run_of hl Try.func31 (Eq.trans (by kernel_rfl) h)

theorem ref04_Apply_ok : funcOk Try.prog 31 = true := by kernel_rfl
theorem ref04_Apply_call {R : Caller} {xs : List Value} {s : St} : callV Try.prog R (.func (.func 31) #[] #[]) xs s = R 31 xs s := callV_eq ref04_Apply_ok

/-! ### sumpter/sumpterref04.CheckOp: 32 -/

noncomputable def ref04_CheckOp (R : Caller) (x0 : Value) (s : St) : Option (Value × St) :=
(lbox x0).bind fun v0 =>
(lload false 1 lptr v0).bind fun v1 =>
(abin Try.prog .eql 3 (.tmp 6) (.const (.int .i64 1)) v1 (.int .i64 1)).bind fun v2 =>
(guardV v2 false ((lload false 1 lptr v0).bind fun v3 =>
(abin Try.prog .eql 3 (.tmp 10) (.const (.int .i64 2)) v3 (.int .i64 2)).bind fun v4 =>
some ([v4], s)) (some ([undef], s))).bind fun q5 =>
(apick v2 (.bool true) (getL q5.1 0)).bind fun v6 =>
(guardV v6 false ((lload false 1 lptr v0).bind fun v7 =>
(abin Try.prog .eql 3 (.tmp 15) (.const (.int .i64 3)) v7 (.int .i64 3)).bind fun v8 =>
some ([v8], q5.2)) (some ([undef], q5.2))).bind fun q9 =>
(apick v6 (.bool true) (getL q9.1 0)).bind fun v10 =>
(lload false 1 lptr v0).bind fun v11 =>
(abin Try.prog .eql 3 (.tmp 19) (.const (.int .i64 4)) v11 (.int .i64 4)).bind fun v12 =>
(guardV v12 false ((lload false 1 lptr v0).bind fun v13 =>
(abin Try.prog .eql 3 (.tmp 23) (.const (.int .i64 5)) v13 (.int .i64 5)).bind fun v14 =>
some ([v14], q9.2)) (some ([undef], q9.2))).bind fun q15 =>
(apick v12 (.bool true) (getL q15.1 0)).bind fun v16 =>
(aun .not v10).bind fun v17 =>
(guardV v17 true ((aun .not v16).bind fun v18 =>
some ([v18], q15.2)) (some ([undef], q15.2))).bind fun q19 =>
(apick v17 (getL q19.1 0) (.bool false)).bind fun v20 =>
(guardV v20 false (some ([v10], q19.2)) (some ([undef], q19.2))).bind fun q21 =>
(guardV (getL q21.1 0) true ((lload false 1 (.pointer (some ⟨0, 3, none⟩)) v0).bind fun v22 =>
(abin Try.prog .neq 9 (.tmp 36) (.const (.string ⟨#[]⟩)) v22 (.string ⟨#[]⟩)).bind fun v23 =>
some ([v23], q21.2)) (some ([undef], q21.2))).bind fun q24 =>
(guardV (getL q24.1 0) false ((lload false 1 (.pointer (some ⟨0, 4, none⟩)) v0).bind fun v25 =>
(abin Try.prog .neq 9 (.tmp 40) (.const (.string ⟨#[]⟩)) v25 (.string ⟨#[]⟩)).bind fun v26 =>
some ([v26], q24.2)) (some ([undef], q24.2))).bind fun q27 =>
(guardV (getL q21.1 0) true ((apick (getL q24.1 0) (.bool true) (getL q27.1 0)).bind fun v28 =>
some ([v28], q27.2)) (some ([undef], q27.2))).bind fun q29 =>
(guardV v20 false ((apick (getL q21.1 0) (getL q29.1 0) (.bool false)).bind fun v30 =>
some ([v30], q29.2)) (some ([undef], q29.2))).bind fun q31 =>
(apick v20 (.bool true) (getL q31.1 0)).bind fun v32 =>
(guardV v32 false (some ([v16], q31.2)) (some ([undef], q31.2))).bind fun q33 =>
(guardV (getL q33.1 0) true ((lload false 1 (.pointer (some ⟨0, 1, none⟩)) v0).bind fun v34 =>
(abin Try.prog .neq 9 (.tmp 49) (.const (.string ⟨#[]⟩)) v34 (.string ⟨#[]⟩)).bind fun v35 =>
some ([v35], q33.2)) (some ([undef], q33.2))).bind fun q36 =>
(guardV v32 false ((apick (getL q33.1 0) (getL q36.1 0) (.bool false)).bind fun v37 =>
some ([v37], q36.2)) (some ([undef], q36.2))).bind fun q38 =>
(apick v32 (.bool true) (getL q38.1 0)).bind fun v39 =>
(guardV v39 false ((lload false 1 lptr v0).bind fun v40 =>
(abin Try.prog .neq 3 (.tmp 55) (.const (.int .i64 2)) v40 (.int .i64 2)).bind fun v41 =>
some ([v41], q38.2)) (some ([undef], q38.2))).bind fun q42 =>
(guardV (getL q42.1 0) true ((lload false 1 (.pointer (some ⟨0, 2, none⟩)) v0).bind fun v43 =>
(abin Try.prog .neq 9 (.tmp 59) (.const (.string ⟨#[]⟩)) v43 (.string ⟨#[]⟩)).bind fun v44 =>
some ([v44], q42.2)) (some ([undef], q42.2))).bind fun q45 =>
(guardV v39 false ((apick (getL q42.1 0) (getL q45.1 0) (.bool false)).bind fun v46 =>
some ([v46], q45.2)) (some ([undef], q45.2))).bind fun q47 =>
(apick v39 (.bool true) (getL q47.1 0)).bind fun v48 =>
(guardV v48 false ((lload false 1 lptr v0).bind fun v49 =>
(abin Try.prog .neq 3 (.tmp 65) (.const (.int .i64 4)) v49 (.int .i64 4)).bind fun v50 =>
some ([v50], q47.2)) (some ([undef], q47.2))).bind fun q51 =>
(guardV (getL q51.1 0) true ((lload false 1 (.pointer (some ⟨0, 5, none⟩)) v0).bind fun v52 =>
(abin Try.prog .neq 3 (.tmp 69) (.const (.int .i64 0)) v52 (.int .i64 0)).bind fun v53 =>
some ([v53], q51.2)) (some ([undef], q51.2))).bind fun q54 =>
(guardV v48 false ((apick (getL q51.1 0) (getL q54.1 0) (.bool false)).bind fun v55 =>
some ([v55], q54.2)) (some ([undef], q54.2))).bind fun q56 =>
(apick v48 (.bool true) (getL q56.1 0)).bind fun v57 =>
condV v57
 (retV [(.int .i64 40)] q56.2)
 ((guardV v10 true ((lload false 1 (.pointer (some ⟨0, 1, none⟩)) v0).bind fun v58 =>
(callV Try.prog R (.func (.func 39) #[] #[]) [v58] q56.2).bind fun r59 =>
(abin Try.prog .neq 24 (.tmp 77) (.const (.int .i64 0)) r59.1 (.int .i64 0)).bind fun v60 =>
some ([v60], r59.2)) (some ([undef], q56.2))).bind fun q61 =>
(apick v10 (getL q61.1 0) (.bool false)).bind fun v62 =>
condV v62
 (retV [(.int .i64 20)] q61.2)
 ((lload false 1 (.pointer (some ⟨0, 2, none⟩)) v0).bind fun v63 =>
(alenV .string v63 q61.2).bind fun v64 =>
(abin Try.prog .gtr 3 (.tmp 82) (.const (.int .i64 16)) v64 (.int .i64 16)).bind fun v65 =>
condV v65
 (retV [(.int .i64 2)] q61.2)
 ((guardV v16 true ((lload false 1 (.pointer (some ⟨0, 3, none⟩)) v0).bind fun v66 =>
(lload false 1 (.pointer (some ⟨0, 4, none⟩)) v0).bind fun v67 =>
(abuild Try.prog 46 [(0, v66), (1, v67)]).bind fun v68 =>
(callV Try.prog R (.func (.func 25) #[] #[]) [v68] q61.2).bind fun r69 =>
(abin Try.prog .neq 24 (.tmp 91) (.const (.int .i64 0)) r69.1 (.int .i64 0)).bind fun v70 =>
some ([v70], r69.2)) (some ([undef], q61.2))).bind fun q71 =>
(apick v16 (getL q71.1 0) (.bool false)).bind fun v72 =>
condV v72
 (retV [(.int .i64 21)] q71.2)
 ((lload false 1 lptr v0).bind fun v73 =>
(abin Try.prog .eql 3 (.tmp 95) (.const (.int .i64 4)) v73 (.int .i64 4)).bind fun v74 =>
(guardV v74 true ((lload false 1 (.pointer (some ⟨0, 5, none⟩)) v0).bind fun v75 =>
(abin Try.prog .lss 3 (.tmp 99) (.const (.int .i64 1)) v75 (.int .i64 1)).bind fun v76 =>
some ([v76], q71.2)) (some ([undef], q71.2))).bind fun q77 =>
(guardV (getL q77.1 0) false ((lload false 1 (.pointer (some ⟨0, 5, none⟩)) v0).bind fun v78 =>
(abin Try.prog .gtr 3 (.tmp 103) (.const (.int .i64 4)) v78 (.int .i64 4)).bind fun v79 =>
some ([v79], q77.2)) (some ([undef], q77.2))).bind fun q80 =>
(guardV v74 true ((apick (getL q77.1 0) (.bool true) (getL q80.1 0)).bind fun v81 =>
some ([v81], q80.2)) (some ([undef], q80.2))).bind fun q82 =>
(apick v74 (getL q82.1 0) (.bool false)).bind fun v83 =>
condV v83
 (retV [(.int .i64 1)] q82.2)
 (retV [(.int .i64 0)] q82.2)))))

theorem ref04_CheckOp_of {lib : Lib} (hl : lib 32 = none) {x0 : Value} {s : St} {r : Value × St} (h : ref04_CheckOp (run Try.prog lib hints) x0 s = some r) : run Try.prog lib hints 32 [x0] s = some r :=
  run_of hl Try.func32 (Eq.trans (by kernel_rfl) h)

theorem ref04_CheckOp_ok : funcOk Try.prog 32 = true := by kernel_rfl
theorem ref04_CheckOp_call {R : Caller} {xs : List Value} {s : St} : callV Try.prog R (.func (.func 32) #[] #[]) xs s = R 32 xs s := callV_eq ref04_CheckOp_ok

/-! ### sumpter/sumpterref02.Point: 33 -/

noncomputable def ref02_Point.b0 (R : Caller) (T : List Value) (s : St) : Res :=
(abin Try.prog .gtr 3 (.tmp 19) (.const (.int .i64 0)) (getL T 2) (.int .i64 0)).bind fun v8 =>
(guardV v8 true ((abin Try.prog .sub 3 (.tmp 23) (.const (.int .i64 1)) (getL T 2) (.int .i64 1)).bind fun v9 =>
(aindexStr (getL T 0) v9).bind fun v10 =>
(abin Try.prog .eql 5 (.tmp 25) (.const (.int .u8 255)) v10 (.int .u8 255)).bind fun v11 =>
some ([v11], s)) (some ([undef], s))).bind fun q12 =>
(apick v8 (getL q12.1 0) (.bool false)).bind fun v13 =>
condV v13
 ((abin Try.prog .sub 3 (.tmp 28) (.const (.int .i64 1)) (getL T 2) (.int .i64 1)).bind fun v14 =>
some (.normal, [(getL T 0), (getL T 1), v14, (getL T 3)], q12.2))
 (some (.exit 0, [(getL T 0), (getL T 1), (getL T 2), (getL T 3)], q12.2))

noncomputable def ref02_Point (R : Caller) (x0 : Value) (s : St) : Option (Value × St) :=
(callV Try.prog R (.func (.func 39) #[] #[]) [x0] s).bind fun r0 =>
(abin Try.prog .neq 24 (.tmp 8) (.const (.int .i64 0)) r0.1 (.int .i64 0)).bind fun v1 =>
condV v1
 (retV [(.agg #[(.string ⟨#[]⟩), (.string ⟨#[]⟩)]), r0.1] r0.2)
 ((alenV .string x0 r0.2).bind fun v2 =>
(abin Try.prog .lss 3 (.tmp 13) (.const (.int .i64 12)) v2 (.int .i64 12)).bind fun v3 =>
condV v3
 ((abin Try.prog .add 9 (.tmp 16) (.const (.string ⟨#[0]⟩)) x0 (.string ⟨#[0]⟩)).bind fun v4 =>
(abuild Try.prog 46 [(0, x0), (1, v4)]).bind fun v5 =>
(lstore 2 lptr v5 (.agg #[(.string ⟨#[]⟩), (.string ⟨#[]⟩)])).bind fun v6 =>
(lload true 2 lptr v6).bind fun v7 =>
retV [v7, (.int .i64 0)] r0.2)
 ((loopL (ref02_Point.b0 R) [x0, lptr, (.int .i64 12), (.agg #[(.string ⟨#[]⟩), (.string ⟨#[]⟩)])] r0.2).bind fun r15 =>
exV r15.1 [(0, (abin Try.prog .eql 3 (.tmp 30) (.const (.int .i64 0)) (getL r15.2.1 2) (.int .i64 0)).bind fun v16 =>
condV v16
 ((abuild Try.prog 46 [(0, (getL r15.2.1 0))]).bind fun v17 =>
(lstore 2 (getL r15.2.1 1) v17 (getL r15.2.1 3)).bind fun v18 =>
(lload true 2 (getL r15.2.1 1) v18).bind fun v19 =>
retV [v19, (.int .i64 0)] r15.2.2)
 ((abin Try.prog .sub 3 (.tmp 36) (.const (.int .i64 1)) (getL r15.2.1 2) (.int .i64 1)).bind fun v20 =>
(asliceStrV (getL r15.2.1 0) none (some v20) none).bind fun v21 =>
(abin Try.prog .sub 3 (.tmp 40) (.const (.int .i64 1)) (getL r15.2.1 2) (.int .i64 1)).bind fun v22 =>
(aindexStr (getL r15.2.1 0) v22).bind fun v23 =>
(abin Try.prog .add 5 (.tmp 42) (.const (.int .u8 1)) v23 (.int .u8 1)).bind fun v24 =>
(((abuildSl 1 [(.int .u8 0)] 1 [(0, v24)] r15.2.2).bind fun r32 =>
some (r32.1, r32.2)).bind (ownR r15.2.2)).bind fun r25 =>
(((abytesToStr r25.1 r25.2).bind fun v31 =>
some (v31, r25.2)).bind (ownR r25.2)).bind fun r26 =>
(abin Try.prog .add 9 (.tmp 38) (.tmp 45) v21 r26.1).bind fun v27 =>
(abuild Try.prog 46 [(0, (getL r15.2.1 0)), (1, v27)]).bind fun v28 =>
(lstore 2 (getL r15.2.1 1) v28 (getL r15.2.1 3)).bind fun v29 =>
(lload true 2 (getL r15.2.1 1) v29).bind fun v30 =>
retV [v30, (.int .i64 0)] r26.2))]
 (none)))

theorem ref02_Point_of {lib : Lib} (hl : lib 33 = none) {x0 : Value} {s : St} {r : Value × St} (h : ref02_Point (run Try.prog lib hints) x0 s = some r) : run Try.prog lib hints 33 [x0] s = some r :=
  run_of hl Try.func33 (Eq.trans (by kernel_rfl) h)

theorem ref02_Point_ok : funcOk Try.prog 33 = true := by kernel_rfl
theorem ref02_Point_call {R : Caller} {xs : List Value} {s : St} : callV Try.prog R (.func (.func 33) #[] #[]) xs s = R 33 xs s := callV_eq ref02_Point_ok

/-! ### sumpter/judge.check: 34 -/

noncomputable def judge_check.j0 (R : Caller) (T : List Value) (s : St) : Option (Value × St) :=
(aun .not (getL T 0)).bind fun v15 =>
condV v15
 (retV [(.int .i64 1)] s)
 (retV [(.int .i64 0)] s)

noncomputable def judge_check (R : Caller) (x0 : Value) (s : St) : Option (Value × St) :=
(lbox x0).bind fun v0 =>
(lload false 1 (.pointer (some ⟨0, 1, none⟩)) v0).bind fun v1 =>
(abin Try.prog .geq 3 (.tmp 5) (.const (.int .i64 1)) v1 (.int .i64 1)).bind fun v2 =>
(guardV v2 true ((lload false 1 (.pointer (some ⟨0, 1, none⟩)) v0).bind fun v3 =>
(abin Try.prog .leq 3 (.tmp 9) (.const (.int .i64 4)) v3 (.int .i64 4)).bind fun v4 =>
some ([v4], s)) (some ([undef], s))).bind fun q5 =>
(apick v2 (getL q5.1 0) (.bool false)).bind fun v6 =>
(lload false 1 lptr v0).bind fun v8 =>
(abin Try.prog .eql 3 (.tmp 13) (.const (.int .i64 1)) v8 (.int .i64 1)).bind fun v9 =>
condV v9
 ((guardV v6 true ((lload false 1 (.pointer (some ⟨0, 4, none⟩)) v0).bind fun v10 =>
(callV Try.prog R (.func (.func 40) #[] #[]) [v10] q5.2).bind fun r11 =>
(abin Try.prog .eql 24 (.tmp 20) (.const (.int .i64 0)) r11.1 (.int .i64 0)).bind fun v12 =>
some ([v12], r11.2)) (some ([undef], q5.2))).bind fun q13 =>
(apick v6 (getL q13.1 0) (.bool false)).bind fun v14 =>
joinK (judge_check.j0 R) [v14] q13.2)
 ((abin Try.prog .eql 3 (.tmp 13) (.const (.int .i64 3)) v8 (.int .i64 3)).bind fun v16 =>
condV v16
 ((guardV v6 true ((lload false 1 (.pointer (some ⟨0, 3, none⟩)) v0).bind fun v17 =>
(abin Try.prog .eql 3 (.tmp 28) (.const (.int .i64 1)) v17 (.int .i64 1)).bind fun v18 =>
some ([v18], q5.2)) (some ([undef], q5.2))).bind fun q19 =>
(guardV (getL q19.1 0) false ((lload false 1 (.pointer (some ⟨0, 3, none⟩)) v0).bind fun v20 =>
(abin Try.prog .eql 3 (.tmp 32) (.const (.int .i64 2)) v20 (.int .i64 2)).bind fun v21 =>
some ([v21], q19.2)) (some ([undef], q19.2))).bind fun q22 =>
(guardV v6 true ((apick (getL q19.1 0) (.bool true) (getL q22.1 0)).bind fun v23 =>
some ([v23], q22.2)) (some ([undef], q22.2))).bind fun q24 =>
(apick v6 (getL q24.1 0) (.bool false)).bind fun v25 =>
joinK (judge_check.j0 R) [v25] q24.2)
 ((abin Try.prog .eql 3 (.tmp 13) (.const (.int .i64 2)) v8 (.int .i64 2)).bind fun v26 =>
condV v26
 (joinK (judge_check.j0 R) [v6] q5.2)
 (joinK (judge_check.j0 R) [(.bool false)] q5.2)))

theorem judge_check_of {lib : Lib} (hl : lib 34 = none) {x0 : Value} {s : St} {r : Value × St} (h : judge_check (run Try.prog lib hints) x0 s = some r) : run Try.prog lib hints 34 [x0] s = some r :=
  run_of hl Try.func34 (Eq.trans (by kernel_rfl) h)

theorem judge_check_ok : funcOk Try.prog 34 = true := by kernel_rfl
theorem judge_check_call {R : Caller} {xs : List Value} {s : St} : callV Try.prog R (.func (.func 34) #[] #[]) xs s = R 34 xs s := callV_eq judge_check_ok

/-! ### sumpter/op.Apply: 35 -/

noncomputable def op_Apply.b0 (R : Caller) (T : List Value) (s : St) : Res :=
(abin Try.prog .lss 3 (.tmp 27) (.tmp 26) (getL T 4) (getL T 3)).bind fun v6 =>
condV v6
 ((aindexS 6 (getL T 2) (getL T 4)).bind fun v7 =>
(aload true 6 v7 s).bind fun v8 =>
(lstore 6 lptr v8 (.agg #[(.int .i64 0), (.string ⟨#[]⟩), (.string ⟨#[]⟩), (.string ⟨#[]⟩), (.string ⟨#[]⟩), (.int .i64 0)])).bind fun v9 =>
(((callV Try.prog R (.func (.func 44) #[] #[]) [] s).bind fun r24 =>
some (r24.1, r24.2)).bind (ownR s)).bind fun r10 =>
(lload false 1 lptr v9).bind fun v11 =>
(aindexAgg true 6 6 r10.1 v11).bind fun v12 =>
(afield false 5 1 v12).bind fun v13 =>
(lload true 6 lptr v9).bind fun v14 =>
(((callV Try.prog R v13 [(getL T 0), v14] r10.2).bind fun r23 =>
some (r23.1, r23.2)).bind (ownR r10.2)).bind fun r15 =>
(aextract 0 r15.1).bind fun v16 =>
(aextract 1 r15.1).bind fun v17 =>
(lstore 3 lptr v17 (.agg #[(.bool false), (.string ⟨#[]⟩), (.slice none 0 0)])).bind fun v18 =>
(lload true 3 lptr v18).bind fun v19 =>
(abuildSl 3 [(.bool false), (.string ⟨#[]⟩), (.slice none 0 0)] 1 [(0, v19)] r15.2).bind fun r20 =>
(aappend 3 48 (getL T 1) r20.1 r20.2).bind fun r21 =>
(abin Try.prog .add 3 (.tmp 27) (.const (.int .i64 1)) (getL T 4) (.int .i64 1)).bind fun v22 =>
some (.normal, [v16, r21.1, (getL T 2), (getL T 3), v22], r21.2))
 (some (.exit 0, [(getL T 0), (getL T 1)], s))

noncomputable def op_Apply (R : Caller) (x0 x1 : Value) (s : St) : Option (Value × St) :=
(callV Try.prog R (.func (.func 41) #[] #[]) [x0] s).bind fun r0 =>
(abin Try.prog .neq 24 (.tmp 15) (.const (.int .i64 0)) r0.1 (.int .i64 0)).bind fun v1 =>
condV v1
 (retV [(.slice none 0 0), (.slice none 0 0), r0.1] r0.2)
 ((callV Try.prog R (.func (.func 42) #[] #[]) [x1] r0.2).bind fun r2 =>
(abin Try.prog .neq 24 (.tmp 20) (.const (.int .i64 0)) r2.1 (.int .i64 0)).bind fun v3 =>
condV v3
 (retV [(.slice none 0 0), (.slice none 0 0), r2.1] r2.2)
 ((callV Try.prog R (.func (.func 43) #[] #[]) [x0] r2.2).bind fun r4 =>
(alenV (.slice 53) x1 r4.2).bind fun v5 =>
(loopL (op_Apply.b0 R) [r4.1, (.slice none 0 0), x1, v5, (.int .i64 0)] r4.2).bind fun r25 =>
exV r25.1 [(0, retV [(getL r25.2.1 0), (getL r25.2.1 1), (.int .i64 0)] r25.2.2)]
 (none)))

theorem op_Apply_of {lib : Lib} (hl : lib 35 = none) {x0 x1 : Value} {s : St} {r : Value × St} (h : op_Apply (run Try.prog lib hints) x0 x1 s = some r) : run Try.prog lib hints 35 [x0, x1] s = some r :=
  run_of hl Try.func35 (Eq.trans (by kernel_rfl) h)

theorem op_Apply_ok : funcOk Try.prog 35 = true := by kernel_rfl
theorem op_Apply_call {R : Caller} {xs : List Value} {s : St} : callV Try.prog R (.func (.func 35) #[] #[]) xs s = R 35 xs s := callV_eq op_Apply_ok

/-! ### sumpter/judge.same: 36 -/

noncomputable def judge_same (R : Caller) (x0 x1 : Value) (s : St) : Option (Value × St) :=
(callV Try.prog R (.func (.func 45) #[] #[]) [x0, x1, (.func (.func 46) #[] #[])] s).bind fun r0 =>
retV [r0.1] r0.2

theorem judge_same_of {lib : Lib} (hl : lib 36 = none) {x0 x1 : Value} {s : St} {r : Value × St} (h : judge_same (run Try.prog lib hints) x0 x1 s = some r) : run Try.prog lib hints 36 [x0, x1] s = some r :=
  run_of hl Try.func36 (Eq.trans (by kernel_rfl) h)

theorem judge_same_ok : funcOk Try.prog 36 = true := by kernel_rfl
theorem judge_same_call {R : Caller} {xs : List Value} {s : St} : callV Try.prog R (.func (.func 36) #[] #[]) xs s = R 36 xs s := callV_eq judge_same_ok

/-! ### sumpter/sumpterref04.CheckMap: 37 -/

noncomputable def ref04_CheckMap.b0 (R : Caller) (T : List Value) (s : St) : Res :=
(abin Try.prog .lss 3 (.tmp 7) (.tmp 6) (getL T 3) (getL T 2)).bind fun v1 =>
condV v1
 ((aindexS 2 (getL T 1) (getL T 3)).bind fun v2 =>
(aload true 2 v2 s).bind fun v3 =>
(lstore 2 lptr v3 (.agg #[(.string ⟨#[]⟩), (.string ⟨#[]⟩)])).bind fun v4 =>
(lload false 1 lptr v4).bind fun v5 =>
(callV Try.prog R (.func (.func 39) #[] #[]) [v5] s).bind fun r6 =>
(abin Try.prog .neq 24 (.tmp 14) (.const (.int .i64 0)) r6.1 (.int .i64 0)).bind fun v7 =>
condV v7
 (some (.ret, [(.int .i64 20)], r6.2))
 ((lload false 1 (.pointer (some ⟨0, 1, none⟩)) v4).bind fun v8 =>
(alenV .string v8 r6.2).bind fun v9 =>
(abin Try.prog .gtr 3 (.tmp 18) (.const (.int .i64 16)) v9 (.int .i64 16)).bind fun v10 =>
condV v10
 (some (.ret, [(.int .i64 2)], r6.2))
 ((abin Try.prog .gtr 3 (.tmp 20) (.const (.int .i64 0)) (getL T 3) (.int .i64 0)).bind fun v11 =>
(guardV v11 true (some ([(getL T 0)], r6.2)) (some ([undef], r6.2))).bind fun q12 =>
(guardV v11 true (some ([(getL T 3)], q12.2)) (some ([undef], q12.2))).bind fun q13 =>
(guardV v11 true ((abin Try.prog .sub 3 (.tmp 24) (.const (.int .i64 1)) (getL q13.1 0) (.int .i64 1)).bind fun v14 =>
some ([v14], q13.2)) (some ([undef], q13.2))).bind fun q15 =>
(guardV v11 true ((aindexS 2 (getL q12.1 0) (getL q15.1 0)).bind fun v16 =>
some ([v16], q15.2)) (some ([undef], q15.2))).bind fun q17 =>
(guardV v11 true ((afieldAddr 0 (getL q17.1 0)).bind fun v18 =>
some ([v18], q17.2)) (some ([undef], q17.2))).bind fun q19 =>
((guardV v11 true ((aload false 1 (getL q19.1 0) q19.2).bind fun v28 =>
some (v28, q19.2)) (some (undef, q19.2))).bind (ownR q19.2)).bind fun r20 =>
(guardV v11 true (some ([lptr], r20.2)) (some ([undef], r20.2))).bind fun q21 =>
(guardV v11 true ((lload false 1 (getL q21.1 0) v4).bind fun v22 =>
some ([v22], q21.2)) (some ([undef], q21.2))).bind fun q23 =>
(guardV v11 true ((abin Try.prog .geq 9 (.tmp 28) (.tmp 30) r20.1 (getL q23.1 0)).bind fun v24 =>
some ([v24], q23.2)) (some ([undef], q23.2))).bind fun q25 =>
(apick v11 (getL q25.1 0) (.bool false)).bind fun v26 =>
condV v26
 (some (.ret, [(.int .i64 1)], q25.2))
 ((abin Try.prog .add 3 (.tmp 7) (.const (.int .i64 1)) (getL T 3) (.int .i64 1)).bind fun v27 =>
some (.normal, [(getL T 0), (getL T 1), (getL T 2), v27], q25.2)))))
 (some (.exit 0, [], s))

noncomputable def ref04_CheckMap (R : Caller) (x0 : Value) (s : St) : Option (Value × St) :=
(alenV (.slice 32) x0 s).bind fun v0 =>
(loopL (ref04_CheckMap.b0 R) [x0, x0, v0, (.int .i64 0)] s).bind fun r29 =>
exV r29.1 [(0, retV [(.int .i64 0)] r29.2.2)]
 (retV [(getL r29.2.1 0)] r29.2.2)

theorem ref04_CheckMap_of {lib : Lib} (hl : lib 37 = none) {x0 : Value} {s : St} {r : Value × St} (h : ref04_CheckMap (run Try.prog lib hints) x0 s = some r) : run Try.prog lib hints 37 [x0] s = some r :=
  run_of hl Try.func37 (Eq.trans (by kernel_rfl) h)

theorem ref04_CheckMap_ok : funcOk Try.prog 37 = true := by kernel_rfl
theorem ref04_CheckMap_call {R : Caller} {xs : List Value} {s : St} : callV Try.prog R (.func (.func 37) #[] #[]) xs s = R 37 xs s := callV_eq ref04_CheckMap_ok

/-! ### sumpter/sumpterref04.Do: 38 -/

noncomputable def ref04_Do (R : Caller) (x0 x1 : Value) (s : St) : Option (Value × St) :=
(lbox x1).bind fun v0 =>
(lload false 1 (.pointer (some ⟨0, 3, none⟩)) v0).bind fun v1 =>
(lload false 1 (.pointer (some ⟨0, 4, none⟩)) v0).bind fun v2 =>
(abuild Try.prog 46 [(0, v1), (1, v2)]).bind fun v3 =>
(lstore 2 lptr v3 (.agg #[(.string ⟨#[]⟩), (.string ⟨#[]⟩)])).bind fun v4 =>
(lload false 1 lptr v0).bind fun v5 =>
(abin Try.prog .eql 3 (.tmp 17) (.const (.int .i64 1)) v5 (.int .i64 1)).bind fun v6 =>
condV v6
 ((lload false 1 (.pointer (some ⟨0, 1, none⟩)) v0).bind fun v7 =>
(callV Try.prog R (.func (.func 48) #[] #[]) [x0, v7] s).bind fun r8 =>
(aextract 0 r8.1).bind fun v9 =>
(aextract 1 r8.1).bind fun v10 =>
(abuild Try.prog 82 [(0, v10), (1, v9)]).bind fun v11 =>
(lstore 3 lptr v11 (.agg #[(.bool false), (.string ⟨#[]⟩), (.slice none 0 0)])).bind fun v12 =>
(lload true 3 lptr v12).bind fun v13 =>
retV [x0, v13] r8.2)
 ((abin Try.prog .eql 3 (.tmp 17) (.const (.int .i64 2)) v5 (.int .i64 2)).bind fun v14 =>
condV v14
 ((lload false 1 (.pointer (some ⟨0, 1, none⟩)) v0).bind fun v15 =>
(lload false 1 (.pointer (some ⟨0, 2, none⟩)) v0).bind fun v16 =>
(abuild Try.prog 32 [(0, v15), (1, v16)]).bind fun v17 =>
(callV Try.prog R (.func (.func 49) #[] #[]) [x0, v17] s).bind fun r18 =>
retV [r18.1, (.agg #[(.bool false), (.string ⟨#[]⟩), (.slice none 0 0)])] r18.2)
 ((abin Try.prog .eql 3 (.tmp 17) (.const (.int .i64 3)) v5 (.int .i64 3)).bind fun v19 =>
condV v19
 ((lload false 1 (.pointer (some ⟨0, 1, none⟩)) v0).bind fun v20 =>
(callV Try.prog R (.func (.func 33) #[] #[]) [v20] s).bind fun r21 =>
(aextract 0 r21.1).bind fun v22 =>
(aextract 1 r21.1).bind fun v23 =>
(lstore 2 lptr v22 (.agg #[(.string ⟨#[]⟩), (.string ⟨#[]⟩)])).bind fun v24 =>
(lload true 2 lptr v24).bind fun v25 =>
(callV Try.prog R (.func (.func 50) #[] #[]) [x0, v25] r21.2).bind fun r26 =>
retV [r26.1, (.agg #[(.bool false), (.string ⟨#[]⟩), (.slice none 0 0)])] r26.2)
 ((abin Try.prog .eql 3 (.tmp 17) (.const (.int .i64 4)) v5 (.int .i64 4)).bind fun v27 =>
condV v27
 ((lload true 2 lptr v4).bind fun v28 =>
(lload false 1 (.pointer (some ⟨0, 5, none⟩)) v0).bind fun v29 =>
(callV Try.prog R (.func (.func 51) #[] #[]) [x0, v28, v29] s).bind fun r30 =>
(abuild Try.prog 82 [(2, r30.1)]).bind fun v31 =>
(lstore 3 lptr v31 (.agg #[(.bool false), (.string ⟨#[]⟩), (.slice none 0 0)])).bind fun v32 =>
(lload true 3 lptr v32).bind fun v33 =>
retV [x0, v33] r30.2)
 ((lload true 2 lptr v4).bind fun v34 =>
(callV Try.prog R (.func (.func 50) #[] #[]) [x0, v34] s).bind fun r35 =>
retV [r35.1, (.agg #[(.bool false), (.string ⟨#[]⟩), (.slice none 0 0)])] r35.2))))

theorem ref04_Do_of {lib : Lib} (hl : lib 38 = none) {x0 x1 : Value} {s : St} {r : Value × St} (h : ref04_Do (run Try.prog lib hints) x0 x1 s = some r) : run Try.prog lib hints 38 [x0, x1] s = some r :=
  run_of hl Try.func38 (Eq.trans (by kernel_rfl) h)

theorem ref04_Do_ok : funcOk Try.prog 38 = true := by kernel_rfl
theorem ref04_Do_call {R : Caller} {xs : List Value} {s : St} : callV Try.prog R (.func (.func 38) #[] #[]) xs s = R 38 xs s := callV_eq ref04_Do_ok

/-! ### sumpter/sumpterref02.CheckKey: 39 -/

noncomputable def ref02_CheckKey (R : Caller) (x0 : Value) (s : St) : Option (Value × St) :=
(alenV .string x0 s).bind fun v0 =>
(abin Try.prog .lss 3 (.tmp 4) (.const (.int .i64 1)) v0 (.int .i64 1)).bind fun v1 =>
(guardV v1 false ((alenV .string x0 s).bind fun v2 =>
(abin Try.prog .gtr 3 (.tmp 8) (.const (.int .i64 12)) v2 (.int .i64 12)).bind fun v3 =>
some ([v3], s)) (some ([undef], s))).bind fun q4 =>
(apick v1 (.bool true) (getL q4.1 0)).bind fun v5 =>
condV v5
 (retV [(.int .i64 20)] q4.2)
 (retV [(.int .i64 0)] q4.2)

theorem ref02_CheckKey_of {lib : Lib} (hl : lib 39 = none) {x0 : Value} {s : St} {r : Value × St} (h : ref02_CheckKey (run Try.prog lib hints) x0 s = some r) : run Try.prog lib hints 39 [x0] s = some r :=
  run_of hl Try.func39 (Eq.trans (by kernel_rfl) h)

theorem ref02_CheckKey_ok : funcOk Try.prog 39 = true := by kernel_rfl
theorem ref02_CheckKey_call {R : Caller} {xs : List Value} {s : St} : callV Try.prog R (.func (.func 39) #[] #[]) xs s = R 39 xs s := callV_eq ref02_CheckKey_ok

/-! ### sumpter/op.Check: 40 -/

noncomputable def op_Check (R : Caller) (x0 : Value) (s : St) : Option (Value × St) :=
(alenV (.slice 53) x0 s).bind fun v0 =>
(abin Try.prog .eql 3 (.tmp 4) (.const (.int .i64 0)) v0 (.int .i64 0)).bind fun v1 =>
(guardV v1 false ((alenV (.slice 53) x0 s).bind fun v2 =>
(abin Try.prog .gtr 3 (.tmp 8) (.const (.int .i64 4)) v2 (.int .i64 4)).bind fun v3 =>
some ([v3], s)) (some ([undef], s))).bind fun q4 =>
(apick v1 (.bool true) (getL q4.1 0)).bind fun v5 =>
condV v5
 (retV [(.int .i64 3)] q4.2)
 ((callV Try.prog R (.func (.func 42) #[] #[]) [x0] q4.2).bind fun r6 =>
retV [r6.1] r6.2)

theorem op_Check_of {lib : Lib} (hl : lib 40 = none) {x0 : Value} {s : St} {r : Value × St} (h : op_Check (run Try.prog lib hints) x0 s = some r) : run Try.prog lib hints 40 [x0] s = some r :=
  run_of hl Try.func40 (Eq.trans (by kernel_rfl) h)

theorem op_Check_ok : funcOk Try.prog 40 = true := by kernel_rfl
theorem op_Check_call {R : Caller} {xs : List Value} {s : St} : callV Try.prog R (.func (.func 40) #[] #[]) xs s = R 40 xs s := callV_eq op_Check_ok

/-! ### sumpter/op.CheckMap: 41 -/

noncomputable def op_CheckMap.b0 (R : Caller) (T : List Value) (s : St) : Res :=
(abin Try.prog .lss 3 (.tmp 8) (.tmp 7) (getL T 3) (getL T 2)).bind fun v1 =>
condV v1
 ((aindexS 2 (getL T 1) (getL T 3)).bind fun v2 =>
(aload true 2 v2 s).bind fun v3 =>
(lstore 2 lptr v3 (.agg #[(.string ⟨#[]⟩), (.string ⟨#[]⟩)])).bind fun v4 =>
(lload false 1 lptr v4).bind fun v5 =>
(callV Try.prog R (.func (.func 52) #[] #[]) [v5] s).bind fun r6 =>
(abin Try.prog .neq 24 (.tmp 15) (.const (.int .i64 0)) r6.1 (.int .i64 0)).bind fun v7 =>
condV v7
 (some (.ret, [(.int .i64 20)], r6.2))
 ((lload false 1 (.pointer (some ⟨0, 1, none⟩)) v4).bind fun v8 =>
(alenV .string v8 r6.2).bind fun v9 =>
(abin Try.prog .gtr 3 (.tmp 20) (.const (.int .i64 16)) v9 (.int .i64 16)).bind fun v10 =>
condV v10
 (some (.ret, [(.int .i64 2)], r6.2))
 ((lload false 1 lptr v4).bind fun v11 =>
(abin Try.prog .leq 9 (.tmp 24) (.tmp 25) v11 (getL T 0)).bind fun v12 =>
condV v12
 (some (.ret, [(.int .i64 1)], r6.2))
 ((lload false 1 lptr v4).bind fun v13 =>
(abin Try.prog .add 3 (.tmp 8) (.const (.int .i64 1)) (getL T 3) (.int .i64 1)).bind fun v14 =>
some (.normal, [v13, (getL T 1), (getL T 2), v14], r6.2)))))
 (some (.exit 0, [], s))

noncomputable def op_CheckMap (R : Caller) (x0 : Value) (s : St) : Option (Value × St) :=
(alenV (.slice 32) x0 s).bind fun v0 =>
(loopL (op_CheckMap.b0 R) [(.string ⟨#[]⟩), x0, v0, (.int .i64 0)] s).bind fun r15 =>
exV r15.1 [(0, retV [(.int .i64 0)] r15.2.2)]
 (retV [(getL r15.2.1 0)] r15.2.2)

theorem op_CheckMap_of {lib : Lib} (hl : lib 41 = none) {x0 : Value} {s : St} {r : Value × St} (h : op_CheckMap (run Try.prog lib hints) x0 s = some r) : run Try.prog lib hints 41 [x0] s = some r :=
  run_of hl Try.func41 (Eq.trans (by kernel_rfl) h)

theorem op_CheckMap_ok : funcOk Try.prog 41 = true := by kernel_rfl
theorem op_CheckMap_call {R : Caller} {xs : List Value} {s : St} : callV Try.prog R (.func (.func 41) #[] #[]) xs s = R 41 xs s := callV_eq op_CheckMap_ok

/-! ### sumpter/op.all: 42 -/

noncomputable def op_all.b0 (R : Caller) (T : List Value) (s : St) : Res :=
(abin Try.prog .lss 3 (.tmp 8) (.tmp 7) (getL T 2) (getL T 1)).bind fun v1 =>
condV v1
 ((aindexS 6 (getL T 0) (getL T 2)).bind fun v2 =>
(aload true 6 v2 s).bind fun v3 =>
(lstore 6 lptr v3 (.agg #[(.int .i64 0), (.string ⟨#[]⟩), (.string ⟨#[]⟩), (.string ⟨#[]⟩), (.string ⟨#[]⟩), (.int .i64 0)])).bind fun v4 =>
(lload true 6 lptr v4).bind fun v5 =>
(callV Try.prog R (.func (.func 53) #[] #[]) [v5] s).bind fun r6 =>
(abin Try.prog .neq 24 (.tmp 14) (.const (.int .i64 0)) r6.1 (.int .i64 0)).bind fun v7 =>
condV v7
 (some (.ret, [r6.1], r6.2))
 ((abin Try.prog .add 3 (.tmp 8) (.const (.int .i64 1)) (getL T 2) (.int .i64 1)).bind fun v8 =>
some (.normal, [(getL T 0), (getL T 1), v8], r6.2)))
 (some (.exit 0, [], s))

noncomputable def op_all (R : Caller) (x0 : Value) (s : St) : Option (Value × St) :=
(alenV (.slice 53) x0 s).bind fun v0 =>
(loopL (op_all.b0 R) [x0, v0, (.int .i64 0)] s).bind fun r9 =>
exV r9.1 [(0, retV [(.int .i64 0)] r9.2.2)]
 (retV [(getL r9.2.1 0)] r9.2.2)

theorem op_all_of {lib : Lib} (hl : lib 42 = none) {x0 : Value} {s : St} {r : Value × St} (h : op_all (run Try.prog lib hints) x0 s = some r) : run Try.prog lib hints 42 [x0] s = some r :=
  run_of hl Try.func42 (Eq.trans (by kernel_rfl) h)

theorem op_all_ok : funcOk Try.prog 42 = true := by kernel_rfl
theorem op_all_call {R : Caller} {xs : List Value} {s : St} : callV Try.prog R (.func (.func 42) #[] #[]) xs s = R 42 xs s := callV_eq op_all_ok

/-! ### slices.Clone[[]sumpter/api.Pair,sumpter/api.Pair]: 43 -/

noncomputable def slices_Clone_api_Pair_api_Pair (R : Caller) (x0 : Value) (s : St) : Option (Value × St) :=
(abin Try.prog .eql 27 (.tmp 3) (.const (.slice none 0 0)) x0 (.slice none 0 0)).bind fun v0 =>
condV v0
 (retV [(.slice none 0 0)] s)
 ((abuildSl 2 [(.string ⟨#[]⟩), (.string ⟨#[]⟩)] 0 [] s).bind fun r1 =>
(aappend 2 32 r1.1 x0 r1.2).bind fun r2 =>
retV [r2.1] r2.2)

theorem slices_Clone_api_Pair_api_Pair_of {lib : Lib} (hl : lib 43 = none) {x0 : Value} {s : St} {r : Value × St} (h : slices_Clone_api_Pair_api_Pair (run Try.prog lib hints) x0 s = some r) : run Try.prog lib hints 43 [x0] s = some r :=
  run_of hl Try.func43 (Eq.trans (by kernel_rfl) h)

theorem slices_Clone_api_Pair_api_Pair_ok : funcOk Try.prog 43 = true := by kernel_rfl
theorem slices_Clone_api_Pair_api_Pair_call {R : Caller} {xs : List Value} {s : St} : callV Try.prog R (.func (.func 43) #[] #[]) xs s = R 43 xs s := callV_eq slices_Clone_api_Pair_api_Pair_ok

/-! ### sumpter/op.forms: 44 -/

noncomputable def op_forms (R : Caller) (s : St) : Option (Value × St) :=
(abuild Try.prog 90 [(0, (.bool true)), (5, (.func (.func 54) #[] #[]))]).bind fun v0 =>
(abuild Try.prog 90 [(0, (.bool true)), (1, (.bool true)), (4, (.bool true)), (5, (.func (.func 55) #[] #[]))]).bind fun v1 =>
(abuild Try.prog 90 [(0, (.bool true)), (4, (.bool true)), (5, (.func (.func 56) #[] #[]))]).bind fun v2 =>
(abuild Try.prog 90 [(2, (.bool true)), (3, (.bool true)), (5, (.func (.func 57) #[] #[]))]).bind fun v3 =>
(abuild Try.prog 90 [(2, (.bool true)), (4, (.bool true)), (5, (.func (.func 58) #[] #[]))]).bind fun v4 =>
(abuild Try.prog 91 [(1, v0), (2, v1), (3, v2), (4, v3), (5, v4)]).bind fun v5 =>
(lstore 36 lptr v5 (.agg #[(.bool false), (.bool false), (.bool false), (.bool false), (.bool false), .nilFunc, (.bool false), (.bool false), (.bool false), (.bool false), (.bool false), .nilFunc, (.bool false), (.bool false), (.bool false), (.bool false), (.bool false), .nilFunc, (.bool false), (.bool false), (.bool false), (.bool false), (.bool false), .nilFunc, (.bool false), (.bool false), (.bool false), (.bool false), (.bool false), .nilFunc, (.bool false), (.bool false), (.bool false), (.bool false), (.bool false), .nilFunc])).bind fun v6 =>
(lload true 36 lptr v6).bind fun v7 =>
retV [v7] s

theorem op_forms_of {lib : Lib} (hl : lib 44 = none) {s : St} {r : Value × St} (h : op_forms (run Try.prog lib hints)  s = some r) : run Try.prog lib hints 44 [] s = some r :=
  run_of hl Try.func44 (Eq.trans (by kernel_rfl) h)

theorem op_forms_ok : funcOk Try.prog 44 = true := by kernel_rfl
theorem op_forms_call {R : Caller} {xs : List Value} {s : St} : callV Try.prog R (.func (.func 44) #[] #[]) xs s = R 44 xs s := callV_eq op_forms_ok

/-! ### slices.EqualFunc[[]sumpter/api.Result,[]sumpter/api.Result,sumpter/api.Result,sumpter/api.Result]: 45 -/

noncomputable def slices_EqualFunc_api_Result_api_Result_api_Result_api_Result.b0 (R : Caller) (T : List Value) (s : St) : Res :=
(abin Try.prog .lss 3 (.tmp 17) (.tmp 16) (getL T 4) (getL T 3)).bind fun v4 =>
condV v4
 ((aindexS 3 (getL T 2) (getL T 4)).bind fun v5 =>
(aload true 3 v5 s).bind fun v6 =>
(lstore 3 lptr v6 (.agg #[(.bool false), (.string ⟨#[]⟩), (.slice none 0 0)])).bind fun v7 =>
(aindexS 3 (getL T 0) (getL T 4)).bind fun v8 =>
(aload true 3 v8 s).bind fun v9 =>
(lstore 3 lptr v9 (.agg #[(.bool false), (.string ⟨#[]⟩), (.slice none 0 0)])).bind fun v10 =>
(lload true 3 lptr v7).bind fun v11 =>
(lload true 3 lptr v10).bind fun v12 =>
(callV Try.prog R (getL T 1) [v11, v12] s).bind fun r13 =>
(aun .not r13.1).bind fun v14 =>
condV v14
 (some (.ret, [(.bool false)], r13.2))
 ((abin Try.prog .add 3 (.tmp 17) (.const (.int .i64 1)) (getL T 4) (.int .i64 1)).bind fun v15 =>
some (.normal, [(getL T 0), (getL T 1), (getL T 2), (getL T 3), v15], r13.2)))
 (some (.exit 0, [], s))

noncomputable def slices_EqualFunc_api_Result_api_Result_api_Result_api_Result (R : Caller) (x0 x1 x2 : Value) (s : St) : Option (Value × St) :=
(alenV (.slice 82) x0 s).bind fun v0 =>
(alenV (.slice 82) x1 s).bind fun v1 =>
(abin Try.prog .neq 3 (.tmp 11) (.tmp 13) v0 v1).bind fun v2 =>
condV v2
 (retV [(.bool false)] s)
 ((alenV (.slice 82) x0 s).bind fun v3 =>
(loopL (slices_EqualFunc_api_Result_api_Result_api_Result_api_Result.b0 R) [x1, x2, x0, v3, (.int .i64 0)] s).bind fun r16 =>
exV r16.1 [(0, retV [(.bool true)] r16.2.2)]
 (retV [(getL r16.2.1 0)] r16.2.2))

theorem slices_EqualFunc_api_Result_api_Result_api_Result_api_Result_of {lib : Lib} (hl : lib 45 = none) {x0 x1 x2 : Value} {s : St} {r : Value × St} (h : slices_EqualFunc_api_Result_api_Result_api_Result_api_Result (run Try.prog lib hints) x0 x1 x2 s = some r) : run Try.prog lib hints 45 [x0, x1, x2] s = some r :=
  run_of hl Try.func45 (Eq.trans (by kernel_rfl) h)

theorem slices_EqualFunc_api_Result_api_Result_api_Result_api_Result_ok : funcOk Try.prog 45 = true := by kernel_rfl
theorem slices_EqualFunc_api_Result_api_Result_api_Result_api_Result_call {R : Caller} {xs : List Value} {s : St} : callV Try.prog R (.func (.func 45) #[] #[]) xs s = R 45 xs s := callV_eq slices_EqualFunc_api_Result_api_Result_api_Result_api_Result_ok

/-! ### sumpter/judge.same$1: 46 -/

noncomputable def judge_same_1 (R : Caller) (x0 x1 : Value) (s : St) : Option (Value × St) :=
(lbox x0).bind fun v0 =>
(lbox x1).bind fun v1 =>
(lload false 1 lptr v0).bind fun v2 =>
(lload false 1 lptr v1).bind fun v3 =>
(abin Try.prog .eql 4 (.tmp 6) (.tmp 8) v2 v3).bind fun v4 =>
(guardV v4 true ((lload false 1 (.pointer (some ⟨0, 1, none⟩)) v0).bind fun v5 =>
(lload false 1 (.pointer (some ⟨0, 1, none⟩)) v1).bind fun v6 =>
(abin Try.prog .eql 9 (.tmp 12) (.tmp 14) v5 v6).bind fun v7 =>
some ([v7], s)) (some ([undef], s))).bind fun q8 =>
(apick v4 (getL q8.1 0) (.bool false)).bind fun v9 =>
(guardV v9 true ((lload false 1 (.pointer (some ⟨0, 2, none⟩)) v0).bind fun v10 =>
(lload false 1 (.pointer (some ⟨0, 2, none⟩)) v1).bind fun v11 =>
(callV Try.prog R (.func (.func 47) #[] #[]) [v10, v11] q8.2).bind fun r12 =>
some ([r12.1], r12.2)) (some ([undef], q8.2))).bind fun q13 =>
(apick v9 (getL q13.1 0) (.bool false)).bind fun v14 =>
retV [v14] q13.2

theorem judge_same_1_of {lib : Lib} (hl : lib 46 = none) {x0 x1 : Value} {s : St} {r : Value × St} (h : judge_same_1 (run Try.prog lib hints) x0 x1 s = some r) : run Try.prog lib hints 46 [x0, x1] s = some r :=
  run_of hl Try.func46 (Eq.trans (by kernel_rfl) h)

theorem judge_same_1_ok : funcOk Try.prog 46 = true := by kernel_rfl
theorem judge_same_1_call {R : Caller} {xs : List Value} {s : St} : callV Try.prog R (.func (.func 46) #[] #[]) xs s = R 46 xs s := callV_eq judge_same_1_ok

/-! ### slices.Equal[[]sumpter/api.Pair,sumpter/api.Pair]: 47 -/

noncomputable def slices_Equal_api_Pair_api_Pair.b0 (R : Caller) (T : List Value) (s : St) : Res :=
(abin Try.prog .lss 3 (.tmp 13) (.tmp 12) (getL T 3) (getL T 2)).bind fun v4 =>
condV v4
 ((aindexS 2 (getL T 0) (getL T 3)).bind fun v5 =>
((aload true 2 v5 (frzS s)).bind fun v12 =>
some (v12, (frzS s))).bind fun r6 =>
(aindexS 2 (getL T 1) (getL T 3)).bind fun v7 =>
((aload true 2 v7 (frzS s)).bind fun v11 =>
some (v11, (frzS s))).bind fun r8 =>
(abin Try.prog .neq 32 (.tmp 19) (.tmp 23) r6.1 r8.1).bind fun v9 =>
condV v9
 (some (.ret, [(.bool false)], s))
 ((abin Try.prog .add 3 (.tmp 13) (.const (.int .i64 1)) (getL T 3) (.int .i64 1)).bind fun v10 =>
some (.normal, [(getL T 0), (getL T 1), (getL T 2), v10], s)))
 (some (.exit 0, [], s))

noncomputable def slices_Equal_api_Pair_api_Pair (R : Caller) (x0 x1 : Value) (s : St) : Option (Value × St) :=
(alenV (.slice 32) x0 s).bind fun v0 =>
(alenV (.slice 32) x1 s).bind fun v1 =>
(abin Try.prog .neq 3 (.tmp 7) (.tmp 9) v0 v1).bind fun v2 =>
condV v2
 (retV [(.bool false)] s)
 ((alenV (.slice 32) x0 s).bind fun v3 =>
(loopL (slices_Equal_api_Pair_api_Pair.b0 R) [x0, x1, v3, (.int .i64 0)] s).bind fun r13 =>
exV r13.1 [(0, retV [(.bool true)] r13.2.2)]
 (retV [(getL r13.2.1 0)] r13.2.2))

theorem slices_Equal_api_Pair_api_Pair_of {lib : Lib} (hl : lib 47 = none) {x0 x1 : Value} {s : St} {r : Value × St} (h : slices_Equal_api_Pair_api_Pair (run Try.prog lib hints) x0 x1 s = some r) : run Try.prog lib hints 47 [x0, x1] s = some r :=
  run_of hl Try.func47 (Eq.trans (by kernel_rfl) h)

theorem slices_Equal_api_Pair_api_Pair_ok : funcOk Try.prog 47 = true := by kernel_rfl
theorem slices_Equal_api_Pair_api_Pair_call {R : Caller} {xs : List Value} {s : St} : callV Try.prog R (.func (.func 47) #[] #[]) xs s = R 47 xs s := callV_eq slices_Equal_api_Pair_api_Pair_ok

/-! ### sumpter/sumpterref04.Find: 48 -/

noncomputable def ref04_Find.b0 (R : Caller) (T : List Value) (s : St) : Res :=
(abin Try.prog .lss 3 (.tmp 10) (.tmp 9) (getL T 3) (getL T 2)).bind fun v1 =>
condV v1
 ((aindexS 2 (getL T 1) (getL T 3)).bind fun v2 =>
(aload true 2 v2 s).bind fun v3 =>
(lstore 2 lptr v3 (.agg #[(.string ⟨#[]⟩), (.string ⟨#[]⟩)])).bind fun v4 =>
(lload false 1 lptr v4).bind fun v5 =>
(abin Try.prog .eql 9 (.tmp 15) (.tmp 16) v5 (getL T 0)).bind fun v6 =>
condV v6
 ((lload false 1 (.pointer (some ⟨0, 1, none⟩)) v4).bind fun v7 =>
some (.ret, [v7, (.bool true)], s))
 ((abin Try.prog .add 3 (.tmp 10) (.const (.int .i64 1)) (getL T 3) (.int .i64 1)).bind fun v8 =>
some (.normal, [(getL T 0), (getL T 1), (getL T 2), v8], s)))
 (some (.exit 0, [], s))

noncomputable def ref04_Find (R : Caller) (x0 x1 : Value) (s : St) : Option (Value × St) :=
(alenV (.slice 32) x0 s).bind fun v0 =>
(loopL (ref04_Find.b0 R) [x1, x0, v0, (.int .i64 0)] s).bind fun r9 =>
exV r9.1 [(0, retV [(.string ⟨#[]⟩), (.bool false)] r9.2.2)]
 (retV [(getL r9.2.1 0), (getL r9.2.1 1)] r9.2.2)

theorem ref04_Find_of {lib : Lib} (hl : lib 48 = none) {x0 x1 : Value} {s : St} {r : Value × St} (h : ref04_Find (run Try.prog lib hints) x0 x1 s = some r) : run Try.prog lib hints 48 [x0, x1] s = some r :=
  run_of hl Try.func48 (Eq.trans (by kernel_rfl) h)

theorem ref04_Find_ok : funcOk Try.prog 48 = true := by kernel_rfl
theorem ref04_Find_call {R : Caller} {xs : List Value} {s : St} : callV Try.prog R (.func (.func 48) #[] #[]) xs s = R 48 xs s := callV_eq ref04_Find_ok

/-! ### sumpter/sumpterref04.put: 49 -/

noncomputable def ref04_put.j0 (R : Caller) (T : List Value) (s : St) : Res :=
(abin Try.prog .add 3 (.tmp 11) (.const (.int .i64 1)) (getL T 5) (.int .i64 1)).bind fun v26 =>
some (.normal, [(getL T 0), (getL T 1), (getL T 2), (getL T 3), (getL T 4), v26, (getL T 6)], s)

noncomputable def ref04_put.j1 (R : Caller) (T : List Value) (s : St) : Res :=
(afieldAddr 0 (getL T 3)).bind fun v18 =>
(lload false 1 v18 (getL T 8)).bind fun v19 =>
(afieldAddr 0 (getL T 0)).bind fun v20 =>
(lload false 1 v20 (getL T 7)).bind fun v21 =>
(abin Try.prog .neq 9 (.tmp 29) (.tmp 31) v19 v21).bind fun v22 =>
condV v22
 ((lload true 2 (getL T 3) (getL T 8)).bind fun v23 =>
(abuildSl 2 [(.string ⟨#[]⟩), (.string ⟨#[]⟩)] 1 [(0, v23)] s).bind fun r24 =>
(aappend 2 32 (getL T 1) r24.1 r24.2).bind fun r25 =>
joinK (ref04_put.j0 R) [(getL T 0), r25.1, (getL T 2), (getL T 4), (getL T 5), (getL T 6), (getL T 7)] r25.2)
 (joinK (ref04_put.j0 R) [(getL T 0), (getL T 1), (getL T 2), (getL T 4), (getL T 5), (getL T 6), (getL T 7)] s)

noncomputable def ref04_put.b0 (R : Caller) (T : List Value) (s : St) : Res :=
(abin Try.prog .lss 3 (.tmp 11) (.tmp 10) (getL T 5) (getL T 4)).bind fun v2 =>
condV v2
 ((aindexS 2 (getL T 3) (getL T 5)).bind fun v4 =>
(aload true 2 v4 s).bind fun v5 =>
(lstore 2 lptr v5 (.agg #[(.string ⟨#[]⟩), (.string ⟨#[]⟩)])).bind fun v6 =>
(aun .not (getL T 2)).bind fun v8 =>
(guardV v8 true ((lload false 1 lptr v6).bind fun v9 =>
(afieldAddr 0 (getL T 0)).bind fun v10 =>
(lload false 1 v10 (getL T 6)).bind fun v11 =>
(abin Try.prog .geq 9 (.tmp 19) (.tmp 21) v9 v11).bind fun v12 =>
some ([v12], s)) (some ([undef], s))).bind fun q13 =>
(apick v8 (getL q13.1 0) (.bool false)).bind fun v14 =>
condV v14
 ((lload true 2 (getL T 0) (getL T 6)).bind fun v15 =>
(abuildSl 2 [(.string ⟨#[]⟩), (.string ⟨#[]⟩)] 1 [(0, v15)] q13.2).bind fun r16 =>
(aappend 2 32 (getL T 1) r16.1 r16.2).bind fun r17 =>
joinK (ref04_put.j1 R) [(getL T 0), r17.1, (.bool true), lptr, (getL T 3), (getL T 4), (getL T 5), (getL T 6), v6] r17.2)
 (joinK (ref04_put.j1 R) [(getL T 0), (getL T 1), (getL T 2), lptr, (getL T 3), (getL T 4), (getL T 5), (getL T 6), v6] q13.2))
 (some (.exit 0, [(getL T 0), (getL T 1), (getL T 2), (getL T 6)], s))

noncomputable def ref04_put.j2 (R : Caller) (T : List Value) (s : St) : Option (Value × St) :=
retV [(getL T 0)] s

noncomputable def ref04_put (R : Caller) (x0 x1 : Value) (s : St) : Option (Value × St) :=
(lbox x1).bind fun v0 =>
(alenV (.slice 32) x0 s).bind fun v1 =>
(loopL (ref04_put.b0 R) [lptr, (.slice none 0 0), (.bool false), x0, v1, (.int .i64 0), v0] s).bind fun r27 =>
exV r27.1 [(0, (aun .not (getL r27.2.1 2)).bind fun v29 =>
condV v29
 ((lload true 2 (getL r27.2.1 0) (getL r27.2.1 3)).bind fun v30 =>
(abuildSl 2 [(.string ⟨#[]⟩), (.string ⟨#[]⟩)] 1 [(0, v30)] r27.2.2).bind fun r31 =>
(aappend 2 32 (getL r27.2.1 1) r31.1 r31.2).bind fun r32 =>
joinK (ref04_put.j2 R) [r32.1] r32.2)
 (joinK (ref04_put.j2 R) [(getL r27.2.1 1)] r27.2.2))]
 (none)

theorem ref04_put_of {lib : Lib} (hl : lib 49 = none) {x0 x1 : Value} {s : St} {r : Value × St} (h : ref04_put (run Try.prog lib hints) x0 x1 s = some r) : run Try.prog lib hints 49 [x0, x1] s = some r :=
  run_of hl Try.func49 (Eq.trans (by kernel_rfl) h)

theorem ref04_put_ok : funcOk Try.prog 49 = true := by kernel_rfl
theorem ref04_put_call {R : Caller} {xs : List Value} {s : St} : callV Try.prog R (.func (.func 49) #[] #[]) xs s = R 49 xs s := callV_eq ref04_put_ok

/-! ### sumpter/sumpterref04.without: 50 -/

noncomputable def ref04_without.j0 (R : Caller) (T : List Value) (s : St) : Res :=
(abin Try.prog .add 3 (.tmp 10) (.const (.int .i64 1)) (getL T 4) (.int .i64 1)).bind fun v14 =>
some (.normal, [(getL T 0), (getL T 1), (getL T 2), (getL T 3), v14, (getL T 5)], s)

noncomputable def ref04_without.b0 (R : Caller) (T : List Value) (s : St) : Res :=
(abin Try.prog .lss 3 (.tmp 10) (.tmp 9) (getL T 4) (getL T 3)).bind fun v2 =>
condV v2
 ((aindexS 2 (getL T 2) (getL T 4)).bind fun v4 =>
(aload true 2 v4 s).bind fun v5 =>
(lstore 2 lptr v5 (.agg #[(.string ⟨#[]⟩), (.string ⟨#[]⟩)])).bind fun v6 =>
(lload true 2 (getL T 0) (getL T 5)).bind fun v7 =>
(lload false 1 lptr v6).bind fun v8 =>
(callV Try.prog R (.func (.func 59) #[] #[]) [v7, v8] s).bind fun r9 =>
(aun .not r9.1).bind fun v10 =>
condV v10
 ((lload true 2 lptr v6).bind fun v11 =>
(abuildSl 2 [(.string ⟨#[]⟩), (.string ⟨#[]⟩)] 1 [(0, v11)] r9.2).bind fun r12 =>
(aappend 2 32 (getL T 1) r12.1 r12.2).bind fun r13 =>
joinK (ref04_without.j0 R) [(getL T 0), r13.1, (getL T 2), (getL T 3), (getL T 4), (getL T 5)] r13.2)
 (joinK (ref04_without.j0 R) [(getL T 0), (getL T 1), (getL T 2), (getL T 3), (getL T 4), (getL T 5)] r9.2))
 (some (.exit 0, [(getL T 1)], s))

noncomputable def ref04_without (R : Caller) (x0 x1 : Value) (s : St) : Option (Value × St) :=
(lbox x1).bind fun v0 =>
(alenV (.slice 32) x0 s).bind fun v1 =>
(loopL (ref04_without.b0 R) [lptr, (.slice none 0 0), x0, v1, (.int .i64 0), v0] s).bind fun r15 =>
exV r15.1 [(0, retV [(getL r15.2.1 0)] r15.2.2)]
 (none)

theorem ref04_without_of {lib : Lib} (hl : lib 50 = none) {x0 x1 : Value} {s : St} {r : Value × St} (h : ref04_without (run Try.prog lib hints) x0 x1 s = some r) : run Try.prog lib hints 50 [x0, x1] s = some r :=
  run_of hl Try.func50 (Eq.trans (by kernel_rfl) h)

theorem ref04_without_ok : funcOk Try.prog 50 = true := by kernel_rfl
theorem ref04_without_call {R : Caller} {xs : List Value} {s : St} : callV Try.prog R (.func (.func 50) #[] #[]) xs s = R 50 xs s := callV_eq ref04_without_ok

/-! ### sumpter/sumpterref04.Within: 51 -/

noncomputable def ref04_Within.j0 (R : Caller) (T : List Value) (s : St) : Res :=
(abin Try.prog .add 3 (.tmp 12) (.const (.int .i64 1)) (getL T 5) (.int .i64 1)).bind fun v21 =>
some (.normal, [(getL T 0), (getL T 1), (getL T 2), (getL T 3), (getL T 4), v21, (getL T 6)], s)

noncomputable def ref04_Within.b0 (R : Caller) (T : List Value) (s : St) : Res :=
(abin Try.prog .lss 3 (.tmp 12) (.tmp 11) (getL T 5) (getL T 4)).bind fun v2 =>
condV v2
 ((aindexS 2 (getL T 3) (getL T 5)).bind fun v4 =>
(aload true 2 v4 s).bind fun v5 =>
(lstore 2 lptr v5 (.agg #[(.string ⟨#[]⟩), (.string ⟨#[]⟩)])).bind fun v6 =>
(lload true 2 (getL T 1) (getL T 6)).bind fun v7 =>
(lload false 1 lptr v6).bind fun v8 =>
(callV Try.prog R (.func (.func 59) #[] #[]) [v7, v8] s).bind fun r9 =>
(guardV r9.1 true ((abin Try.prog .lss 3 (.tmp 21) (.const (.int .i64 0)) (getL T 0) (.int .i64 0)).bind fun v10 =>
some ([v10], r9.2)) (some ([undef], r9.2))).bind fun q11 =>
(guardV (getL q11.1 0) false ((alenV (.slice 32) (getL T 2) q11.2).bind fun v12 =>
(abin Try.prog .lss 3 (.tmp 25) (.tmp 26) v12 (getL T 0)).bind fun v13 =>
some ([v13], q11.2)) (some ([undef], q11.2))).bind fun q14 =>
(guardV r9.1 true ((apick (getL q11.1 0) (.bool true) (getL q14.1 0)).bind fun v15 =>
some ([v15], q14.2)) (some ([undef], q14.2))).bind fun q16 =>
(apick r9.1 (getL q16.1 0) (.bool false)).bind fun v17 =>
condV v17
 ((lload true 2 lptr v6).bind fun v18 =>
(abuildSl 2 [(.string ⟨#[]⟩), (.string ⟨#[]⟩)] 1 [(0, v18)] q16.2).bind fun r19 =>
(aappend 2 32 (getL T 2) r19.1 r19.2).bind fun r20 =>
joinK (ref04_Within.j0 R) [(getL T 0), (getL T 1), r20.1, (getL T 3), (getL T 4), (getL T 5), (getL T 6)] r20.2)
 (joinK (ref04_Within.j0 R) [(getL T 0), (getL T 1), (getL T 2), (getL T 3), (getL T 4), (getL T 5), (getL T 6)] q16.2))
 (some (.exit 0, [(getL T 2)], s))

noncomputable def ref04_Within (R : Caller) (x0 x1 x2 : Value) (s : St) : Option (Value × St) :=
(lbox x1).bind fun v0 =>
(alenV (.slice 32) x0 s).bind fun v1 =>
(loopL (ref04_Within.b0 R) [x2, lptr, (.slice none 0 0), x0, v1, (.int .i64 0), v0] s).bind fun r22 =>
exV r22.1 [(0, retV [(getL r22.2.1 0)] r22.2.2)]
 (none)

theorem ref04_Within_of {lib : Lib} (hl : lib 51 = none) {x0 x1 x2 : Value} {s : St} {r : Value × St} (h : ref04_Within (run Try.prog lib hints) x0 x1 x2 s = some r) : run Try.prog lib hints 51 [x0, x1, x2] s = some r :=
  run_of hl Try.func51 (Eq.trans (by kernel_rfl) h)

theorem ref04_Within_ok : funcOk Try.prog 51 = true := by kernel_rfl
theorem ref04_Within_call {R : Caller} {xs : List Value} {s : St} : callV Try.prog R (.func (.func 51) #[] #[]) xs s = R 51 xs s := callV_eq ref04_Within_ok

/-! ### sumpter/span.CheckKey: 52 -/

noncomputable def span_CheckKey (R : Caller) (x0 : Value) (s : St) : Option (Value × St) :=
(abin Try.prog .eql 9 (.tmp 3) (.const (.string ⟨#[]⟩)) x0 (.string ⟨#[]⟩)).bind fun v0 =>
(guardV v0 false ((alenV .string x0 s).bind fun v1 =>
(abin Try.prog .gtr 3 (.tmp 7) (.const (.int .i64 12)) v1 (.int .i64 12)).bind fun v2 =>
some ([v2], s)) (some ([undef], s))).bind fun q3 =>
(apick v0 (.bool true) (getL q3.1 0)).bind fun v4 =>
condV v4
 (retV [(.int .i64 20)] q3.2)
 (retV [(.int .i64 0)] q3.2)

theorem span_CheckKey_of {lib : Lib} (hl : lib 52 = none) {x0 : Value} {s : St} {r : Value × St} (h : span_CheckKey (run Try.prog lib hints) x0 s = some r) : run Try.prog lib hints 52 [x0] s = some r :=
  run_of hl Try.func52 (Eq.trans (by kernel_rfl) h)

theorem span_CheckKey_ok : funcOk Try.prog 52 = true := by kernel_rfl
theorem span_CheckKey_call {R : Caller} {xs : List Value} {s : St} : callV Try.prog R (.func (.func 52) #[] #[]) xs s = R 52 xs s := callV_eq span_CheckKey_ok

/-! ### sumpter/op.CheckOp: 53 -/

noncomputable def op_CheckOp.j0 (R : Caller) (T : List Value) (s : St) : Option (Value × St) :=
condV (getL T 2)
 (retV [(.int .i64 40)] s)
 ((afieldAddr 0 (getL T 1)).bind fun v8 =>
(lload false 1 v8 (getL T 4)).bind fun v9 =>
(guardV v9 true ((afieldAddr 1 (getL T 0)).bind fun v10 =>
(lload false 1 v10 (getL T 3)).bind fun v11 =>
(callV Try.prog R (.func (.func 52) #[] #[]) [v11] s).bind fun r12 =>
(abin Try.prog .neq 24 (.tmp 53) (.const (.int .i64 0)) r12.1 (.int .i64 0)).bind fun v13 =>
some ([v13], r12.2)) (some ([undef], s))).bind fun q14 =>
(apick v9 (getL q14.1 0) (.bool false)).bind fun v15 =>
condV v15
 (retV [(.int .i64 20)] q14.2)
 ((afieldAddr 2 (getL T 0)).bind fun v16 =>
(lload false 1 v16 (getL T 3)).bind fun v17 =>
(alenV .string v17 q14.2).bind fun v18 =>
(abin Try.prog .gtr 3 (.tmp 59) (.const (.int .i64 16)) v18 (.int .i64 16)).bind fun v19 =>
condV v19
 (retV [(.int .i64 2)] q14.2)
 ((afieldAddr 2 (getL T 1)).bind fun v20 =>
(lload false 1 v20 (getL T 4)).bind fun v21 =>
(guardV v21 true ((lload true 6 (getL T 0) (getL T 3)).bind fun v22 =>
(callV Try.prog R (.func (.func 61) #[] #[]) [v22] q14.2).bind fun r23 =>
(callV Try.prog R (.func (.func 62) #[] #[]) [r23.1] r23.2).bind fun r24 =>
(abin Try.prog .neq 24 (.tmp 67) (.const (.int .i64 0)) r24.1 (.int .i64 0)).bind fun v25 =>
some ([v25], r24.2)) (some ([undef], q14.2))).bind fun q26 =>
(apick v21 (getL q26.1 0) (.bool false)).bind fun v27 =>
condV v27
 (retV [(.int .i64 21)] q26.2)
 ((afieldAddr 3 (getL T 1)).bind fun v28 =>
(lload false 1 v28 (getL T 4)).bind fun v29 =>
(guardV v29 true ((afieldAddr 5 (getL T 0)).bind fun v30 =>
(lload false 1 v30 (getL T 3)).bind fun v31 =>
(abin Try.prog .lss 3 (.tmp 75) (.const (.int .i64 1)) v31 (.int .i64 1)).bind fun v32 =>
some ([v32], q26.2)) (some ([undef], q26.2))).bind fun q33 =>
(guardV (getL q33.1 0) false ((afieldAddr 5 (getL T 0)).bind fun v34 =>
(lload false 1 v34 (getL T 3)).bind fun v35 =>
(abin Try.prog .gtr 3 (.tmp 79) (.const (.int .i64 4)) v35 (.int .i64 4)).bind fun v36 =>
some ([v36], q33.2)) (some ([undef], q33.2))).bind fun q37 =>
(guardV v29 true ((apick (getL q33.1 0) (.bool true) (getL q37.1 0)).bind fun v38 =>
some ([v38], q37.2)) (some ([undef], q37.2))).bind fun q39 =>
(apick v29 (getL q39.1 0) (.bool false)).bind fun v40 =>
condV v40
 (retV [(.int .i64 1)] q39.2)
 (retV [(.int .i64 0)] q39.2)))))

noncomputable def op_CheckOp (R : Caller) (x0 : Value) (s : St) : Option (Value × St) :=
(lbox x0).bind fun v0 =>
(lload false 1 lptr v0).bind fun v1 =>
(callV Try.prog R (.func (.func 60) #[] #[]) [v1] s).bind fun r2 =>
(aextract 0 r2.1).bind fun v3 =>
(aextract 1 r2.1).bind fun v4 =>
(lstore 6 lptr v3 (.agg #[(.bool false), (.bool false), (.bool false), (.bool false), (.bool false), .nilFunc])).bind fun v5 =>
(aun .not v4).bind fun v7 =>
condV v7
 (joinK (op_CheckOp.j0 R) [lptr, lptr, v7, v0, v5] r2.2)
 ((lload false 1 lptr v5).bind fun v41 =>
(aun .not v41).bind fun v42 =>
(guardV v42 true ((lload false 1 (.pointer (some ⟨0, 1, none⟩)) v0).bind fun v43 =>
(abin Try.prog .neq 9 (.tmp 19) (.const (.string ⟨#[]⟩)) v43 (.string ⟨#[]⟩)).bind fun v44 =>
some ([v44], r2.2)) (some ([undef], r2.2))).bind fun q45 =>
(apick v42 (getL q45.1 0) (.bool false)).bind fun v46 =>
condV v46
 (joinK (op_CheckOp.j0 R) [lptr, lptr, v46, v0, v5] q45.2)
 ((lload false 1 (.pointer (some ⟨0, 1, none⟩)) v5).bind fun v47 =>
(aun .not v47).bind fun v48 =>
(guardV v48 true ((lload false 1 (.pointer (some ⟨0, 2, none⟩)) v0).bind fun v49 =>
(abin Try.prog .neq 9 (.tmp 27) (.const (.string ⟨#[]⟩)) v49 (.string ⟨#[]⟩)).bind fun v50 =>
some ([v50], q45.2)) (some ([undef], q45.2))).bind fun q51 =>
(apick v48 (getL q51.1 0) (.bool false)).bind fun v52 =>
condV v52
 (joinK (op_CheckOp.j0 R) [lptr, lptr, v52, v0, v5] q51.2)
 ((lload false 1 (.pointer (some ⟨0, 2, none⟩)) v5).bind fun v53 =>
(aun .not v53).bind fun v54 =>
(guardV v54 true ((lload true 6 lptr v0).bind fun v55 =>
(callV Try.prog R (.func (.func 61) #[] #[]) [v55] q51.2).bind fun r56 =>
(abin Try.prog .neq 46 (.tmp 35) (.tmp 36) r56.1 (.agg #[(.string ⟨#[]⟩), (.string ⟨#[]⟩)])).bind fun v57 =>
some ([v57], r56.2)) (some ([undef], q51.2))).bind fun q58 =>
(apick v54 (getL q58.1 0) (.bool false)).bind fun v59 =>
condV v59
 (joinK (op_CheckOp.j0 R) [lptr, lptr, v59, v0, v5] q58.2)
 ((lload false 1 (.pointer (some ⟨0, 3, none⟩)) v5).bind fun v60 =>
(aun .not v60).bind fun v61 =>
(guardV v61 true ((lload false 1 (.pointer (some ⟨0, 5, none⟩)) v0).bind fun v62 =>
(abin Try.prog .neq 3 (.tmp 44) (.const (.int .i64 0)) v62 (.int .i64 0)).bind fun v63 =>
some ([v63], q58.2)) (some ([undef], q58.2))).bind fun q64 =>
(apick v61 (getL q64.1 0) (.bool false)).bind fun v65 =>
joinK (op_CheckOp.j0 R) [lptr, lptr, v65, v0, v5] q64.2))))

theorem op_CheckOp_of {lib : Lib} (hl : lib 53 = none) {x0 : Value} {s : St} {r : Value × St} (h : op_CheckOp (run Try.prog lib hints) x0 s = some r) : run Try.prog lib hints 53 [x0] s = some r :=
  run_of hl Try.func53 (Eq.trans (by kernel_rfl) h)

theorem op_CheckOp_ok : funcOk Try.prog 53 = true := by kernel_rfl
theorem op_CheckOp_call {R : Caller} {xs : List Value} {s : St} : callV Try.prog R (.func (.func 53) #[] #[]) xs s = R 53 xs s := callV_eq op_CheckOp_ok

/-! ### sumpter/op.get: 54 -/

noncomputable def op_get (R : Caller) (x0 x1 : Value) (s : St) : Option (Value × St) :=
(lbox x1).bind fun v0 =>
(lload false 1 (.pointer (some ⟨0, 1, none⟩)) v0).bind fun v1 =>
(callV Try.prog R (.func (.func 63) #[] #[]) [x0, v1] s).bind fun r2 =>
(aextract 0 r2.1).bind fun v3 =>
(aextract 1 r2.1).bind fun v4 =>
(aun .not v4).bind fun v5 =>
condV v5
 (retV [x0, (.agg #[(.bool false), (.string ⟨#[]⟩), (.slice none 0 0)])] r2.2)
 ((aindexS 2 x0 v3).bind fun v6 =>
(afieldAddr 1 v6).bind fun v7 =>
(((aload false 1 v7 r2.2).bind fun v12 =>
some (v12, r2.2)).bind (ownR r2.2)).bind fun r8 =>
(abuild Try.prog 82 [(0, (.bool true)), (1, r8.1)]).bind fun v9 =>
(lstore 3 lptr v9 (.agg #[(.bool false), (.string ⟨#[]⟩), (.slice none 0 0)])).bind fun v10 =>
(lload true 3 lptr v10).bind fun v11 =>
retV [x0, v11] r8.2)

theorem op_get_of {lib : Lib} (hl : lib 54 = none) {x0 x1 : Value} {s : St} {r : Value × St} (h : op_get (run Try.prog lib hints) x0 x1 s = some r) : run Try.prog lib hints 54 [x0, x1] s = some r :=
  run_of hl Try.func54 (Eq.trans (by kernel_rfl) h)

theorem op_get_ok : funcOk Try.prog 54 = true := by kernel_rfl
theorem op_get_call {R : Caller} {xs : List Value} {s : St} : callV Try.prog R (.func (.func 54) #[] #[]) xs s = R 54 xs s := callV_eq op_get_ok

/-! ### sumpter/op.put: 55 -/

noncomputable def op_put (R : Caller) (x0 x1 : Value) (s : St) : Option (Value × St) :=
(lbox x1).bind fun v0 =>
(lload false 1 (.pointer (some ⟨0, 1, none⟩)) v0).bind fun v1 =>
(callV Try.prog R (.func (.func 63) #[] #[]) [x0, v1] s).bind fun r2 =>
(aextract 0 r2.1).bind fun v3 =>
(aextract 1 r2.1).bind fun v4 =>
(aun .not v4).bind fun v5 =>
condV v5
 ((lload false 1 (.pointer (some ⟨0, 1, none⟩)) v0).bind fun v6 =>
(lload false 1 (.pointer (some ⟨0, 2, none⟩)) v0).bind fun v7 =>
(abuild Try.prog 32 [(0, v6), (1, v7)]).bind fun v8 =>
(abuildSl 2 [(.string ⟨#[]⟩), (.string ⟨#[]⟩)] 1 [(0, v8)] r2.2).bind fun r9 =>
(callV Try.prog R (.func (.func 64) #[] #[]) [x0, v3, r9.1] r9.2).bind fun r10 =>
retV [r10.1, (.agg #[(.bool false), (.string ⟨#[]⟩), (.slice none 0 0)])] r10.2)
 ((lload false 1 (.pointer (some ⟨0, 2, none⟩)) v0).bind fun v11 =>
(aindexS 2 x0 v3).bind fun v12 =>
(afieldAddr 1 v12).bind fun v13 =>
(astore 1 v13 v11 r2.2).bind fun s14 =>
retV [x0, (.agg #[(.bool false), (.string ⟨#[]⟩), (.slice none 0 0)])] s14)

theorem op_put_of {lib : Lib} (hl : lib 55 = none) {x0 x1 : Value} {s : St} {r : Value × St} (h : op_put (run Try.prog lib hints) x0 x1 s = some r) : run Try.prog lib hints 55 [x0, x1] s = some r :=
  run_of hl Try.func55 (Eq.trans (by kernel_rfl) h)

theorem op_put_ok : funcOk Try.prog 55 = true := by kernel_rfl
theorem op_put_call {R : Caller} {xs : List Value} {s : St} : callV Try.prog R (.func (.func 55) #[] #[]) xs s = R 55 xs s := callV_eq op_put_ok

/-! ### sumpter/op.del: 56 -/

noncomputable def op_del.j0 (R : Caller) (T : List Value) (s : St) : Option (Value × St) :=
(lstore 3 (getL T 1) (.agg #[(.bool false), (.string ⟨#[]⟩), (.slice none 0 0)]) (getL T 2)).bind fun v8 =>
(lload true 3 (getL T 1) v8).bind fun v9 =>
retV [(getL T 0), v9] s

noncomputable def op_del (R : Caller) (x0 x1 : Value) (s : St) : Option (Value × St) :=
(lbox x1).bind fun v0 =>
(lload false 1 (.pointer (some ⟨0, 1, none⟩)) v0).bind fun v2 =>
(callV Try.prog R (.func (.func 63) #[] #[]) [x0, v2] s).bind fun r3 =>
(aextract 0 r3.1).bind fun v4 =>
(aextract 1 r3.1).bind fun v5 =>
condV v5
 ((abin Try.prog .add 3 (.tmp 18) (.const (.int .i64 1)) v4 (.int .i64 1)).bind fun v6 =>
(callV Try.prog R (.func (.func 65) #[] #[]) [x0, v4, v6] r3.2).bind fun r7 =>
joinK (op_del.j0 R) [r7.1, lptr, (.agg #[(.bool false), (.string ⟨#[]⟩), (.slice none 0 0)])] r7.2)
 (joinK (op_del.j0 R) [x0, lptr, (.agg #[(.bool false), (.string ⟨#[]⟩), (.slice none 0 0)])] r3.2)

theorem op_del_of {lib : Lib} (hl : lib 56 = none) {x0 x1 : Value} {s : St} {r : Value × St} (h : op_del (run Try.prog lib hints) x0 x1 s = some r) : run Try.prog lib hints 56 [x0, x1] s = some r :=
  run_of hl Try.func56 (Eq.trans (by kernel_rfl) h)

theorem op_del_ok : funcOk Try.prog 56 = true := by kernel_rfl
theorem op_del_call {R : Caller} {xs : List Value} {s : St} : callV Try.prog R (.func (.func 56) #[] #[]) xs s = R 56 xs s := callV_eq op_del_ok

/-! ### sumpter/op.scan: 57 -/

noncomputable def op_scan (R : Caller) (x0 x1 : Value) (s : St) : Option (Value × St) :=
(lbox x1).bind fun v0 =>
(lload true 6 lptr v0).bind fun v1 =>
(callV Try.prog R (.func (.func 61) #[] #[]) [v1] s).bind fun r2 =>
(callV Try.prog R (.func (.func 66) #[] #[]) [x0, r2.1] r2.2).bind fun r3 =>
(aextract 0 r3.1).bind fun v4 =>
(aextract 1 r3.1).bind fun v5 =>
(lload false 1 (.pointer (some ⟨0, 5, none⟩)) v0).bind fun v6 =>
(abin Try.prog .add 3 (.tmp 19) (.tmp 21) v4 v6).bind fun v7 =>
(amin2 v5 v7).bind fun v8 =>
(asliceV 2 x0 (some v4) (some v8) none).bind fun v9 =>
(callV Try.prog R (.func (.func 43) #[] #[]) [v9] r3.2).bind fun r10 =>
(abuild Try.prog 82 [(2, r10.1)]).bind fun v11 =>
(lstore 3 lptr v11 (.agg #[(.bool false), (.string ⟨#[]⟩), (.slice none 0 0)])).bind fun v12 =>
(lload true 3 lptr v12).bind fun v13 =>
retV [x0, v13] r10.2

theorem op_scan_of {lib : Lib} (hl : lib 57 = none) {x0 x1 : Value} {s : St} {r : Value × St} (h : op_scan (run Try.prog lib hints) x0 x1 s = some r) : run Try.prog lib hints 57 [x0, x1] s = some r :=
  run_of hl Try.func57 (Eq.trans (by kernel_rfl) h)

theorem op_scan_ok : funcOk Try.prog 57 = true := by kernel_rfl
theorem op_scan_call {R : Caller} {xs : List Value} {s : St} : callV Try.prog R (.func (.func 57) #[] #[]) xs s = R 57 xs s := callV_eq op_scan_ok

/-! ### sumpter/op.clear: 58 -/

noncomputable def op_clear (R : Caller) (x0 x1 : Value) (s : St) : Option (Value × St) :=
(lbox x1).bind fun v0 =>
(lload true 6 lptr v0).bind fun v1 =>
(callV Try.prog R (.func (.func 61) #[] #[]) [v1] s).bind fun r2 =>
(callV Try.prog R (.func (.func 66) #[] #[]) [x0, r2.1] r2.2).bind fun r3 =>
(aextract 0 r3.1).bind fun v4 =>
(aextract 1 r3.1).bind fun v5 =>
(callV Try.prog R (.func (.func 65) #[] #[]) [x0, v4, v5] r3.2).bind fun r6 =>
retV [r6.1, (.agg #[(.bool false), (.string ⟨#[]⟩), (.slice none 0 0)])] r6.2

theorem op_clear_of {lib : Lib} (hl : lib 58 = none) {x0 x1 : Value} {s : St} {r : Value × St} (h : op_clear (run Try.prog lib hints) x0 x1 s = some r) : run Try.prog lib hints 58 [x0, x1] s = some r :=
  run_of hl Try.func58 (Eq.trans (by kernel_rfl) h)

theorem op_clear_ok : funcOk Try.prog 58 = true := by kernel_rfl
theorem op_clear_call {R : Caller} {xs : List Value} {s : St} : callV Try.prog R (.func (.func 58) #[] #[]) xs s = R 58 xs s := callV_eq op_clear_ok

/-! ### sumpter/sumpterref02.Has: 59 -/

noncomputable def ref02_Has (R : Caller) (x0 x1 : Value) (s : St) : Option (Value × St) :=
(lbox x0).bind fun v0 =>
(lload true 2 lptr v0).bind fun v1 =>
(callV Try.prog R (.func (.func 25) #[] #[]) [v1] s).bind fun r2 =>
(abin Try.prog .eql 24 (.tmp 6) (.const (.int .i64 0)) r2.1 (.int .i64 0)).bind fun v3 =>
(guardV v3 true ((callV Try.prog R (.func (.func 39) #[] #[]) [x1] r2.2).bind fun r4 =>
(abin Try.prog .eql 24 (.tmp 10) (.const (.int .i64 0)) r4.1 (.int .i64 0)).bind fun v5 =>
some ([v5], r4.2)) (some ([undef], r2.2))).bind fun q6 =>
(apick v3 (getL q6.1 0) (.bool false)).bind fun v7 =>
(guardV v7 true ((lload false 1 lptr v0).bind fun v8 =>
(abin Try.prog .geq 9 (.tmp 14) (.tmp 16) x1 v8).bind fun v9 =>
some ([v9], q6.2)) (some ([undef], q6.2))).bind fun q10 =>
(apick v7 (getL q10.1 0) (.bool false)).bind fun v11 =>
(guardV v11 true ((lload false 1 (.pointer (some ⟨0, 1, none⟩)) v0).bind fun v12 =>
(abin Try.prog .eql 9 (.tmp 21) (.const (.string ⟨#[]⟩)) v12 (.string ⟨#[]⟩)).bind fun v13 =>
some ([v13], q10.2)) (some ([undef], q10.2))).bind fun q14 =>
(guardV (getL q14.1 0) false ((lload false 1 (.pointer (some ⟨0, 1, none⟩)) v0).bind fun v15 =>
(abin Try.prog .lss 9 (.tmp 24) (.tmp 26) x1 v15).bind fun v16 =>
some ([v16], q14.2)) (some ([undef], q14.2))).bind fun q17 =>
(guardV v11 true ((apick (getL q14.1 0) (.bool true) (getL q17.1 0)).bind fun v18 =>
some ([v18], q17.2)) (some ([undef], q17.2))).bind fun q19 =>
(apick v11 (getL q19.1 0) (.bool false)).bind fun v20 =>
retV [v20] q19.2

theorem ref02_Has_of {lib : Lib} (hl : lib 59 = none) {x0 x1 : Value} {s : St} {r : Value × St} (h : ref02_Has (run Try.prog lib hints) x0 x1 s = some r) : run Try.prog lib hints 59 [x0, x1] s = some r :=
  run_of hl Try.func59 (Eq.trans (by kernel_rfl) h)

theorem ref02_Has_ok : funcOk Try.prog 59 = true := by kernel_rfl
theorem ref02_Has_call {R : Caller} {xs : List Value} {s : St} : callV Try.prog R (.func (.func 59) #[] #[]) xs s = R 59 xs s := callV_eq ref02_Has_ok

/-! ### sumpter/op.formOf: 60 -/

noncomputable def op_formOf (R : Caller) (x0 : Value) (s : St) : Option (Value × St) :=
(abin Try.prog .lss 3 (.tmp 4) (.const (.int .i64 1)) x0 (.int .i64 1)).bind fun v0 =>
(guardV v0 false ((abin Try.prog .gtr 3 (.tmp 7) (.const (.int .i64 5)) x0 (.int .i64 5)).bind fun v1 =>
some ([v1], s)) (some ([undef], s))).bind fun q2 =>
(apick v0 (.bool true) (getL q2.1 0)).bind fun v3 =>
condV v3
 (retV [(.agg #[(.bool false), (.bool false), (.bool false), (.bool false), (.bool false), .nilFunc]), (.bool false)] q2.2)
 ((callV Try.prog R (.func (.func 44) #[] #[]) [] q2.2).bind fun r4 =>
(aindexAgg true 6 6 r4.1 x0).bind fun v5 =>
(lstore 6 lptr v5 (.agg #[(.bool false), (.bool false), (.bool false), (.bool false), (.bool false), .nilFunc])).bind fun v6 =>
(lload true 6 lptr v6).bind fun v7 =>
retV [v7, (.bool true)] r4.2)

theorem op_formOf_of {lib : Lib} (hl : lib 60 = none) {x0 : Value} {s : St} {r : Value × St} (h : op_formOf (run Try.prog lib hints) x0 s = some r) : run Try.prog lib hints 60 [x0] s = some r :=
  run_of hl Try.func60 (Eq.trans (by kernel_rfl) h)

theorem op_formOf_ok : funcOk Try.prog 60 = true := by kernel_rfl
theorem op_formOf_call {R : Caller} {xs : List Value} {s : St} : callV Try.prog R (.func (.func 60) #[] #[]) xs s = R 60 xs s := callV_eq op_formOf_ok

/-! ### sumpter/op.of: 61 -/

noncomputable def op_of (R : Caller) (x0 : Value) (s : St) : Option (Value × St) :=
(lbox x0).bind fun v0 =>
(lload false 1 (.pointer (some ⟨0, 3, none⟩)) v0).bind fun v1 =>
(lload false 1 (.pointer (some ⟨0, 4, none⟩)) v0).bind fun v2 =>
(abuild Try.prog 46 [(0, v1), (1, v2)]).bind fun v3 =>
(lstore 2 lptr v3 (.agg #[(.string ⟨#[]⟩), (.string ⟨#[]⟩)])).bind fun v4 =>
(lload true 2 lptr v4).bind fun v5 =>
retV [v5] s

theorem op_of_of {lib : Lib} (hl : lib 61 = none) {x0 : Value} {s : St} {r : Value × St} (h : op_of (run Try.prog lib hints) x0 s = some r) : run Try.prog lib hints 61 [x0] s = some r :=
  run_of hl Try.func61 (Eq.trans (by kernel_rfl) h)

theorem op_of_ok : funcOk Try.prog 61 = true := by kernel_rfl
theorem op_of_call {R : Caller} {xs : List Value} {s : St} : callV Try.prog R (.func (.func 61) #[] #[]) xs s = R 61 xs s := callV_eq op_of_ok

/-! ### sumpter/span.Check: 62 -/

noncomputable def span_Check.j0 (R : Caller) (T : List Value) (s : St) : Option (Value × St) :=
condV (getL T 0)
 (retV [(.int .i64 21)] s)
 (retV [(.int .i64 0)] s)

noncomputable def span_Check (R : Caller) (x0 : Value) (s : St) : Option (Value × St) :=
(lbox x0).bind fun v0 =>
(lload true 2 lptr v0).bind fun v1 =>
(((callV Try.prog R (.func (.func 67) #[] #[]) [] s).bind fun r20 =>
some (r20.1, r20.2)).bind (ownR s)).bind fun r2 =>
(abin Try.prog .eql 46 (.tmp 4) (.tmp 5) v1 r2.1).bind fun v3 =>
condV v3
 (retV [(.int .i64 0)] r2.2)
 ((lload false 1 lptr v0).bind fun v5 =>
(alenV .string v5 r2.2).bind fun v6 =>
(abin Try.prog .gtr 3 (.tmp 10) (.const (.int .i64 12)) v6 (.int .i64 12)).bind fun v7 =>
(guardV v7 false ((lload false 1 (.pointer (some ⟨0, 1, none⟩)) v0).bind fun v8 =>
(alenV .string v8 r2.2).bind fun v9 =>
(abin Try.prog .gtr 3 (.tmp 15) (.const (.int .i64 12)) v9 (.int .i64 12)).bind fun v10 =>
some ([v10], r2.2)) (some ([undef], r2.2))).bind fun q11 =>
(apick v7 (.bool true) (getL q11.1 0)).bind fun v12 =>
condV v12
 (joinK (span_Check.j0 R) [v12] q11.2)
 ((lload false 1 (.pointer (some ⟨0, 1, none⟩)) v0).bind fun v13 =>
(abin Try.prog .neq 9 (.tmp 19) (.const (.string ⟨#[]⟩)) v13 (.string ⟨#[]⟩)).bind fun v14 =>
(guardV v14 true ((lload false 1 lptr v0).bind fun v15 =>
(lload false 1 (.pointer (some ⟨0, 1, none⟩)) v0).bind fun v16 =>
(abin Try.prog .geq 9 (.tmp 23) (.tmp 25) v15 v16).bind fun v17 =>
some ([v17], q11.2)) (some ([undef], q11.2))).bind fun q18 =>
(apick v14 (getL q18.1 0) (.bool false)).bind fun v19 =>
joinK (span_Check.j0 R) [v19] q18.2))

theorem span_Check_of {lib : Lib} (hl : lib 62 = none) {x0 : Value} {s : St} {r : Value × St} (h : span_Check (run Try.prog lib hints) x0 s = some r) : run Try.prog lib hints 62 [x0] s = some r :=
  run_of hl Try.func62 (Eq.trans (by kernel_rfl) h)

theorem span_Check_ok : funcOk Try.prog 62 = true := by kernel_rfl
theorem span_Check_call {R : Caller} {xs : List Value} {s : St} : callV Try.prog R (.func (.func 62) #[] #[]) xs s = R 62 xs s := callV_eq span_Check_ok

/-! ### sumpter/op.at: 63 -/

noncomputable def op_at (R : Caller) (x0 x1 : Value) (s : St) : Option (Value × St) :=
(callV Try.prog R (.func (.func 68) #[] #[]) [x0, x1, (.func (.func 69) #[] #[])] s).bind fun r0 =>
(aextract 0 r0.1).bind fun v1 =>
(aextract 1 r0.1).bind fun v2 =>
retV [v1, v2] r0.2

theorem op_at_of {lib : Lib} (hl : lib 63 = none) {x0 x1 : Value} {s : St} {r : Value × St} (h : op_at (run Try.prog lib hints) x0 x1 s = some r) : run Try.prog lib hints 63 [x0, x1] s = some r :=
  run_of hl Try.func63 (Eq.trans (by kernel_rfl) h)

theorem op_at_ok : funcOk Try.prog 63 = true := by kernel_rfl
theorem op_at_call {R : Caller} {xs : List Value} {s : St} : callV Try.prog R (.func (.func 63) #[] #[]) xs s = R 63 xs s := callV_eq op_at_ok

/-! ### slices.Insert[[]sumpter/api.Pair,sumpter/api.Pair]: 64 -/

noncomputable def slices_Insert_api_Pair_api_Pair (R : Caller) (x0 x1 x2 : Value) (s : St) : Option (Value × St) :=
(asliceV 2 x0 (some x1) none none).bind fun v0 =>
(alenV (.slice 32) x2 s).bind fun v1 =>
(abin Try.prog .eql 3 (.tmp 15) (.const (.int .i64 0)) v1 (.int .i64 0)).bind fun v2 =>
condV v2
 (retV [x0] s)
 ((alenV (.slice 32) x0 s).bind fun v3 =>
(abin Try.prog .eql 3 (.tmp 20) (.tmp 21) x1 v3).bind fun v4 =>
condV v4
 ((aappend 2 32 x0 x2 s).bind fun r5 =>
retV [r5.1] r5.2)
 ((abin Try.prog .add 3 (.tmp 26) (.tmp 27) v3 v1).bind fun v6 =>
(acap x0).bind fun v7 =>
(abin Try.prog .gtr 3 (.tmp 28) (.tmp 30) v6 v7).bind fun v8 =>
condV v8
 ((asliceV 2 x0 none (some x1) none).bind fun v9 =>
(abin Try.prog .add 3 (.tmp 35) (.tmp 36) v3 v1).bind fun v10 =>
(abin Try.prog .sub 3 (.tmp 37) (.tmp 38) v10 x1).bind fun v11 =>
(aappendZ 2 32 [(.string ⟨#[]⟩), (.string ⟨#[]⟩)] v9 v11 s).bind fun r12 =>
(asliceV 2 r12.1 (some x1) none none).bind fun v13 =>
(acopy 2 v13 x2 r12.2).bind fun r14 =>
(abin Try.prog .add 3 (.tmp 47) (.tmp 48) x1 v1).bind fun v15 =>
(asliceV 2 r12.1 (some v15) none none).bind fun v16 =>
(asliceV 2 x0 (some x1) none none).bind fun v17 =>
(((acopy 2 v16 v17 r14.2).bind fun r19 =>
some (r19.1, r19.2)).bind (ownR r14.2)).bind fun r18 =>
retV [r12.1] r18.2)
 ((abin Try.prog .add 3 (.tmp 57) (.tmp 58) v3 v1).bind fun v20 =>
(asliceV 2 x0 none (some v20) none).bind fun v21 =>
(abin Try.prog .add 3 (.tmp 63) (.tmp 64) x1 v1).bind fun v22 =>
(asliceV 2 v21 (some v22) none none).bind fun v23 =>
(callV Try.prog R (.func (.func 71) #[] #[]) [x2, v23] s).bind fun r24 =>
(aun .not r24.1).bind fun v25 =>
condV v25
 ((abin Try.prog .add 3 (.tmp 70) (.tmp 71) x1 v1).bind fun v26 =>
(asliceV 2 v21 (some v26) none none).bind fun v27 =>
(asliceV 2 v21 (some x1) none none).bind fun v28 =>
(((acopy 2 v27 v28 r24.2).bind fun r32 =>
some (r32.1, r32.2)).bind (ownR r24.2)).bind fun r29 =>
(asliceV 2 v21 (some x1) none none).bind fun v30 =>
(acopy 2 v30 x2 r29.2).bind fun r31 =>
retV [v21] r31.2)
 ((asliceV 2 v21 (some v3) none none).bind fun v33 =>
(acopy 2 v33 x2 r24.2).bind fun r34 =>
(asliceV 2 v21 (some x1) none none).bind fun v35 =>
(callV Try.prog R (.func (.func 72) #[] #[]) [v35, v1] r34.2).bind fun r36 =>
retV [v21] r36.2))))

theorem slices_Insert_api_Pair_api_Pair_of {lib : Lib} (hl : lib 64 = none) {x0 x1 x2 : Value} {s : St} {r : Value × St} (h : slices_Insert_api_Pair_api_Pair (run Try.prog lib hints) x0 x1 x2 s = some r) : run Try.prog lib hints 64 [x0, x1, x2] s = some r :=
  run_of hl Try.func64 (Eq.trans (by kernel_rfl) h)

theorem slices_Insert_api_Pair_api_Pair_ok : funcOk Try.prog 64 = true := by kernel_rfl
theorem slices_Insert_api_Pair_api_Pair_call {R : Caller} {xs : List Value} {s : St} : callV Try.prog R (.func (.func 64) #[] #[]) xs s = R 64 xs s := callV_eq slices_Insert_api_Pair_api_Pair_ok

/-! ### slices.Delete[[]sumpter/api.Pair,sumpter/api.Pair]: 65 -/

noncomputable def slices_Delete_api_Pair_api_Pair (R : Caller) (x0 x1 x2 : Value) (s : St) : Option (Value × St) :=
(alenV (.slice 32) x0 s).bind fun v0 =>
(asliceV 2 x0 (some x1) (some x2) (some v0)).bind fun v1 =>
(abin Try.prog .eql 3 (.tmp 14) (.tmp 15) x1 x2).bind fun v2 =>
condV v2
 (retV [x0] s)
 ((alenV (.slice 32) x0 s).bind fun v3 =>
(asliceV 2 x0 none (some x1) none).bind fun v4 =>
(asliceV 2 x0 (some x2) none none).bind fun v5 =>
(((aappend 2 32 v4 v5 s).bind fun r10 =>
some (r10.1, r10.2)).bind (ownR s)).bind fun r6 =>
(alenV (.slice 32) r6.1 r6.2).bind fun v7 =>
(asliceV 2 r6.1 (some v7) (some v3) none).bind fun v8 =>
(aclear 2 [(.string ⟨#[]⟩), (.string ⟨#[]⟩)] v8 r6.2).bind fun s9 =>
retV [r6.1] s9)

theorem slices_Delete_api_Pair_api_Pair_of {lib : Lib} (hl : lib 65 = none) {x0 x1 x2 : Value} {s : St} {r : Value × St} (h : slices_Delete_api_Pair_api_Pair (run Try.prog lib hints) x0 x1 x2 s = some r) : run Try.prog lib hints 65 [x0, x1, x2] s = some r :=
  run_of hl Try.func65 (Eq.trans (by kernel_rfl) h)

theorem slices_Delete_api_Pair_api_Pair_ok : funcOk Try.prog 65 = true := by kernel_rfl
theorem slices_Delete_api_Pair_api_Pair_call {R : Caller} {xs : List Value} {s : St} : callV Try.prog R (.func (.func 65) #[] #[]) xs s = R 65 xs s := callV_eq slices_Delete_api_Pair_api_Pair_ok

/-! ### sumpter/op.ends: 66 -/

noncomputable def op_ends.j0 (R : Caller) (T : List Value) (s : St) : Option (Value × St) :=
retV [(getL T 0), (getL T 1)] s

noncomputable def op_ends (R : Caller) (x0 x1 : Value) (s : St) : Option (Value × St) :=
(lbox x1).bind fun v0 =>
(lload false 1 lptr v0).bind fun v1 =>
(callV Try.prog R (.func (.func 63) #[] #[]) [x0, v1] s).bind fun r2 =>
(aextract 0 r2.1).bind fun v3 =>
(aextract 1 r2.1).bind fun v4 =>
(alenV (.slice 32) x0 r2.2).bind fun v5 =>
(lload false 1 (.pointer (some ⟨0, 1, none⟩)) v0).bind fun v7 =>
(abin Try.prog .neq 9 (.tmp 19) (.const (.string ⟨#[]⟩)) v7 (.string ⟨#[]⟩)).bind fun v8 =>
condV v8
 ((lload false 1 (.pointer (some ⟨0, 1, none⟩)) v0).bind fun v9 =>
(callV Try.prog R (.func (.func 63) #[] #[]) [x0, v9] r2.2).bind fun r10 =>
(aextract 0 r10.1).bind fun v11 =>
(aextract 1 r10.1).bind fun v12 =>
joinK (op_ends.j0 R) [v3, v11] r10.2)
 (joinK (op_ends.j0 R) [v3, v5] r2.2)

theorem op_ends_of {lib : Lib} (hl : lib 66 = none) {x0 x1 : Value} {s : St} {r : Value × St} (h : op_ends (run Try.prog lib hints) x0 x1 s = some r) : run Try.prog lib hints 66 [x0, x1] s = some r :=
  run_of hl Try.func66 (Eq.trans (by kernel_rfl) h)

theorem op_ends_ok : funcOk Try.prog 66 = true := by kernel_rfl
theorem op_ends_call {R : Caller} {xs : List Value} {s : St} : callV Try.prog R (.func (.func 66) #[] #[]) xs s = R 66 xs s := callV_eq op_ends_ok

/-! ### sumpter/span.all: 67 -/

noncomputable def span_all (R : Caller) (s : St) : Option (Value × St) :=
retV [(.agg #[(.string ⟨#[]⟩), (.string ⟨#[]⟩)])] s

theorem span_all_of {lib : Lib} (hl : lib 67 = none) {s : St} {r : Value × St} (h : span_all (run Try.prog lib hints)  s = some r) : run Try.prog lib hints 67 [] s = some r :=
  run_of hl Try.func67 (Eq.trans (by kernel_rfl) h)

theorem span_all_ok : funcOk Try.prog 67 = true := by kernel_rfl
theorem span_all_call {R : Caller} {xs : List Value} {s : St} : callV Try.prog R (.func (.func 67) #[] #[]) xs s = R 67 xs s := callV_eq span_all_ok

/-! ### slices.BinarySearchFunc[[]sumpter/api.Pair,sumpter/api.Pair,string]: 68 -/

noncomputable def slices_BinarySearchFunc_api_Pair_api_Pair_string.b0 (R : Caller) (T : List Value) (s : St) : Res :=
(abin Try.prog .lss 3 (.tmp 15) (.tmp 16) (getL T 4) (getL T 5)).bind fun v1 =>
condV v1
 ((abin Try.prog .add 3 (.tmp 18) (.tmp 19) (getL T 4) (getL T 5)).bind fun v2 =>
(convInt .u64 v2).bind fun v3 =>
(abin Try.prog .shr 115 (.tmp 21) (.const (.int .u64 1)) v3 (.int .u64 1)).bind fun v4 =>
(convInt .i64 v4).bind fun v5 =>
(aindexS 2 (getL T 0) v5).bind fun v6 =>
(aload true 2 v6 s).bind fun v7 =>
(callV Try.prog R (getL T 2) [v7, (getL T 1)] s).bind fun r8 =>
(abin Try.prog .lss 3 (.tmp 30) (.const (.int .i64 0)) r8.1 (.int .i64 0)).bind fun v9 =>
condV v9
 ((abin Try.prog .add 3 (.tmp 32) (.const (.int .i64 1)) v5 (.int .i64 1)).bind fun v10 =>
some (.normal, [(getL T 0), (getL T 1), (getL T 2), (getL T 3), v10, (getL T 5)], r8.2))
 (some (.normal, [(getL T 0), (getL T 1), (getL T 2), (getL T 3), (getL T 4), v5], r8.2)))
 (some (.exit 0, [(getL T 0), (getL T 1), (getL T 2), (getL T 3), (getL T 4)], s))

noncomputable def slices_BinarySearchFunc_api_Pair_api_Pair_string (R : Caller) (x0 x1 x2 : Value) (s : St) : Option (Value × St) :=
(alenV (.slice 32) x0 s).bind fun v0 =>
(loopL (slices_BinarySearchFunc_api_Pair_api_Pair_string.b0 R) [x0, x1, x2, v0, (.int .i64 0), v0] s).bind fun r11 =>
exV r11.1 [(0, (abin Try.prog .lss 3 (.tmp 36) (.tmp 37) (getL r11.2.1 4) (getL r11.2.1 3)).bind fun v12 =>
(guardV v12 true ((aindexS 2 (getL r11.2.1 0) (getL r11.2.1 4)).bind fun v13 =>
(aload true 2 v13 r11.2.2).bind fun v14 =>
(callV Try.prog R (getL r11.2.1 2) [v14, (getL r11.2.1 1)] r11.2.2).bind fun r15 =>
(abin Try.prog .eql 3 (.tmp 46) (.const (.int .i64 0)) r15.1 (.int .i64 0)).bind fun v16 =>
some ([v16], r15.2)) (some ([undef], r11.2.2))).bind fun q17 =>
(apick v12 (getL q17.1 0) (.bool false)).bind fun v18 =>
retV [(getL r11.2.1 4), v18] q17.2)]
 (none)

theorem slices_BinarySearchFunc_api_Pair_api_Pair_string_of {lib : Lib} (hl : lib 68 = none) {x0 x1 x2 : Value} {s : St} {r : Value × St} (h : slices_BinarySearchFunc_api_Pair_api_Pair_string (run Try.prog lib hints) x0 x1 x2 s = some r) : run Try.prog lib hints 68 [x0, x1, x2] s = some r :=
  run_of hl Try.func68 (Eq.trans (by kernel_rfl) h)

theorem slices_BinarySearchFunc_api_Pair_api_Pair_string_ok : funcOk Try.prog 68 = true := by kernel_rfl
theorem slices_BinarySearchFunc_api_Pair_api_Pair_string_call {R : Caller} {xs : List Value} {s : St} : callV Try.prog R (.func (.func 68) #[] #[]) xs s = R 68 xs s := callV_eq slices_BinarySearchFunc_api_Pair_api_Pair_string_ok

/-! ### sumpter/op.at$1: 69 -/

noncomputable def op_at_1 (R : Caller) (x0 x1 : Value) (s : St) : Option (Value × St) :=
(lbox x0).bind fun v0 =>
(lload false 1 lptr v0).bind fun v1 =>
(callV Try.prog R (.func (.func 70) #[] #[]) [v1, x1] s).bind fun r2 =>
retV [r2.1] r2.2

theorem op_at_1_of {lib : Lib} (hl : lib 69 = none) {x0 x1 : Value} {s : St} {r : Value × St} (h : op_at_1 (run Try.prog lib hints) x0 x1 s = some r) : run Try.prog lib hints 69 [x0, x1] s = some r :=
  run_of hl Try.func69 (Eq.trans (by kernel_rfl) h)

theorem op_at_1_ok : funcOk Try.prog 69 = true := by kernel_rfl
theorem op_at_1_call {R : Caller} {xs : List Value} {s : St} : callV Try.prog R (.func (.func 69) #[] #[]) xs s = R 69 xs s := callV_eq op_at_1_ok

/-! ### strings.Compare: 70 -/

noncomputable def strings_Compare (R : Caller) (x0 x1 : Value) (s : St) : Option (Value × St) :=
(callV Try.prog R (.func (.func 73) #[] #[]) [x0, x1] s).bind fun r0 =>
retV [r0.1] r0.2

theorem strings_Compare_of {lib : Lib} (hl : lib 70 = none) {x0 x1 : Value} {s : St} {r : Value × St} (h : strings_Compare (run Try.prog lib hints) x0 x1 s = some r) : run Try.prog lib hints 70 [x0, x1] s = some r :=
  run_of hl Try.func70 (Eq.trans (by kernel_rfl) h)

theorem strings_Compare_ok : funcOk Try.prog 70 = true := by kernel_rfl
theorem strings_Compare_call {R : Caller} {xs : List Value} {s : St} : callV Try.prog R (.func (.func 70) #[] #[]) xs s = R 70 xs s := callV_eq strings_Compare_ok

/-! ### internal/bytealg.CompareString: 73 -/

theorem internal_bytealg_CompareString_ok : funcOk Try.prog 73 = true := by kernel_rfl
theorem internal_bytealg_CompareString_call {R : Caller} {xs : List Value} {s : St} : callV Try.prog R (.func (.func 73) #[] #[]) xs s = R 73 xs s := callV_eq internal_bytealg_CompareString_ok

end Go.Proofs.Ytccindbiodofmaa.Ab

/- Pairs of strings: as values, and compared. -/
namespace Go.Proofs.Ytccindbiodofmaa.Ab
open Go

theorem pr_bind {P : Program} {α β : Type} (m : Sem α) (f : α → Sem β) : pureRun P (m >>= f) = (pureRun P m).bind fun a => pureRun P (f a) := by
  show pureRun P (Sem.bind m f) = _
  induction m with
  | pure a => rfl
  | program k ih => simp only [Sem.bind, pureRun]; exact ih P
  | _ => rfl
theorem pr_pure {P : Program} {α : Type} (a : α) : pureRun P (Pure.pure a : Sem α) = some a := rfl
theorem pr_program {P : Program} : pureRun P (program : Sem Program) = some P := rfl
theorem pr_und {P : Program} {t : TypeId} {d : TypeDesc} (h : P.underlying t = some d) : pureRun P (underlying t) = some d := by
  unfold underlying
  rw [pr_bind, pr_program]
  simp only [Option.bind_some, h]
  rfl
theorem pr_str {P : Program} {d : Nat} {t : TypeId} {a b : ByteArray} (h : P.underlying t = some .string) : pureRun P (Op.equalIn (d + 1) t (.string a) (.string b)) = some (a == b) := by
  unfold Op.equalIn
  rw [pr_bind, pr_und h]
  simp only [Option.bind_some, pr_pure]

abbrev BL := List UInt8
abbrev Rg := BL × BL
def rv (r : Rg) : Value := .agg #[sv r.1, sv r.2]
def asBl : Value → Option BL
  | .string a => some a.data.toList
  | _ => none
def asRg : Value → Option Rg
  | .agg cs => match cs.toList with
    | [.string a, .string b] => some (a.data.toList, b.data.toList)
    | _ => none
  | _ => none
theorem asBl_sv {l : BL} : asBl (sv l) = some l := rfl
theorem asRg_rv {r : Rg} : asRg (rv r) = some r := rfl
theorem asBl_some {v : Value} {l : BL} (h : asBl v = some l) : v = sv l := by
  unfold asBl at h
  split at h
  · cases h; exact sv_of _
  · cases h
theorem asRg_some {v : Value} {r : Rg} (h : asRg v = some r) : v = rv r := by
  unfold asRg at h
  split at h
  · rename_i cs
    split at h
    · rename_i a b e
      cases h
      obtain ⟨l⟩ := cs
      simp only at e
      subst e
      unfold rv
      rw [← sv_of, ← sv_of]
    · cases h
  · cases h

theorem bytes_beq {a b : BL} : ((⟨a.toArray⟩ : ByteArray) == ⟨b.toArray⟩) = (a == b) := by
  show (a.toArray == b.toArray) = (a == b)
  simp

theorem rv_eql (o1 o2 : Operand) (a b : Rg) : abin Try.prog .eql 46 o1 o2 (rv a) (rv b) = some (.bool (a.1 == b.1 && a.2 == b.2)) := by
  have hu := pr_und Try.underlying46
  have hg : pureRun Try.prog (eqGuard .eql 46 o1 o2 (.agg #[sv a.1, sv a.2]) (.agg #[sv b.1, sv b.2])) = some () := by kernel_rfl
  have hh : Try.prog.stoodInHeld 46 = false := by kernel_rfl
  have hp : ∀ x y : BL, pureRun Try.prog (part 9 #[sv x, sv y] 0) = some (sv x) ∧ pureRun Try.prog (part 9 #[sv x, sv y] 1) = some (sv y) := fun x y => by
    refine ⟨?_, ?_⟩ <;> kernel_rfl
  have he : ∀ (n : Nat) (x y : BL), pureRun Try.prog (Op.equalIn (n + 1) 9 (sv x) (sv y)) = some (x == y) := fun n x y => by
    unfold sv
    rw [pr_str Try.underlying9, bytes_beq]
  unfold abin aggBin rv
  simp only
  have hc : (constOk (.agg #[sv a.1, sv a.2]) && constOk (.agg #[sv b.1, sv b.2])) = true := rfl
  rw [if_pos hc, pr_bind, hg]
  simp only [Option.bind_some, binOp]
  rw [pr_bind]
  have key : pureRun Try.prog (Op.equal 46 (.agg #[sv a.1, sv a.2]) (.agg #[sv b.1, sv b.2])) = some (a.1 == b.1 && a.2 == b.2) := by
    unfold Op.equal Op.maxDepth Op.equalIn
    rw [pr_bind, hu]
    simp only [Option.bind_some]
    rw [pr_bind, pr_program]
    simp only [Option.bind_some, hh, Bool.false_eq_true, if_false, pr_bind]
    have hLo : ("Lo" ≠ "_") = True := by simp
    have hHi : ("Hi" ≠ "_") = True := by simp
    simp only [List.forIn_toArray, List.forIn_cons, List.forIn_nil]
    cases h1 : (a.1 == b.1)
    · simp only [Option.bind_some, pr_bind, pr_pure, Nat.reduceAdd, hLo, hHi, if_true, (hp _ _).1, (hp _ _).2, he, Bool.not_true, Bool.not_false, Bool.false_eq_true, if_false, Bool.true_and, Bool.false_and, Bool.and_true, h1]
    cases h2 : (a.2 == b.2)
    · simp only [Option.bind_some, pr_bind, pr_pure, Nat.reduceAdd, hLo, hHi, if_true, (hp _ _).1, (hp _ _).2, he, Bool.not_true, Bool.not_false, Bool.false_eq_true, if_false, Bool.true_and, Bool.false_and, Bool.and_true, h1, h2]
    · simp only [Option.bind_some, pr_bind, pr_pure, Nat.reduceAdd, hLo, hHi, if_true, (hp _ _).1, (hp _ _).2, he, Bool.not_true, Bool.not_false, Bool.false_eq_true, if_false, Bool.true_and, Bool.false_and, Bool.and_true, h1, h2]
  rw [key]
  rfl

theorem rv_neq (o1 o2 : Operand) (a b : Rg) : abin Try.prog .neq 46 o1 o2 (rv a) (rv b) = some (.bool (!(a.1 == b.1 && a.2 == b.2))) := by
  have hu := pr_und Try.underlying46
  have hg : pureRun Try.prog (eqGuard .neq 46 o1 o2 (.agg #[sv a.1, sv a.2]) (.agg #[sv b.1, sv b.2])) = some () := by kernel_rfl
  have h0 := rv_eql o1 o2 a b
  have hg0 : pureRun Try.prog (eqGuard .eql 46 o1 o2 (.agg #[sv a.1, sv a.2]) (.agg #[sv b.1, sv b.2])) = some () := by kernel_rfl
  unfold abin aggBin rv at h0 ⊢
  simp only at h0 ⊢
  have hc : (constOk (.agg #[sv a.1, sv a.2]) && constOk (.agg #[sv b.1, sv b.2])) = true := rfl
  rw [if_pos hc, pr_bind, hg0] at h0
  rw [if_pos hc, pr_bind, hg]
  simp only [Option.bind_some, binOp, pr_bind, pr_pure] at h0 ⊢
  cases e : pureRun Try.prog (Op.equal 46 (.agg #[sv a.1, sv a.2]) (.agg #[sv b.1, sv b.2])) with
  | none => rw [e] at h0; cases h0
  | some r =>
    rw [e] at h0
    simp only [Option.bind_some] at h0 ⊢
    cases h0
    rfl

end Go.Proofs.Ytccindbiodofmaa.Ab

/- Keys and ranges: what the functions do. -/
namespace Go.Proofs.Ytccindbiodofmaa.Ab
open Go

/-! ### What they say -/
def ckK (k : BL) : Bool := k != [] && decide (k.length ≤ 12)
def ckR (r : Rg) : Bool := decide (r.1.length ≤ 12) && decide (r.2.length ≤ 12) && (r.2 == [] || bl r.1 r.2)
def eK (k : BL) : Int := if ckK k then 0 else 20
def eR (r : Rg) : Int := if ckR r then 0 else 21
def hasR (r : Rg) (k : BL) : Bool := ckR r && ckK k && !bl k r.1 && (r.2 == [] || bl k r.2)

/-- a function of values, without memory -/
def gP (G : List Value → Option Value) : Sum := fun xs s => (G xs).map fun v => (v, s)
theorem sumP {lib : Lib} {f : FuncId} {G : List Value → Option Value} (h : ∀ xs v s, G xs = some v → plainV v = true ∧ ∃ t, run Try.prog lib hints f xs s = some (v, t)) : SumOk Try.prog lib hints f (gP G) :=
  SumOk.plain (G := fun xs _ => G xs) fun xs s v hv => h xs v (frzS s) hv
def G1K (F : BL → Value) : List Value → Option Value
  | [v] => (asBl v).map F
  | _ => none
def G1R (F : Rg → Value) : List Value → Option Value
  | [v] => (asRg v).map F
  | _ => none
def G2RK (F : Rg → BL → Value) : List Value → Option Value
  | [v, w] => (asRg v).bind fun r => (asBl w).map fun k => F r k
  | _ => none
def G2KK (F : BL → BL → Value) : List Value → Option Value
  | [v, w] => (asBl v).bind fun r => (asBl w).map fun k => F r k
  | _ => none
theorem sum1K {lib : Lib} {f : FuncId} {F : BL → Value} (h : ∀ k s, plainV (F k) = true ∧ ∃ t, run Try.prog lib hints f [sv k] s = some (F k, t)) : SumOk Try.prog lib hints f (gP (G1K F)) := sumP fun xs v s hv => by
  unfold G1K at hv
  split at hv
  · simp only [Option.map_eq_some_iff] at hv
    obtain ⟨k, h1, rfl⟩ := hv
    rw [asBl_some h1]
    exact h k s
  · cases hv
theorem sum1R {lib : Lib} {f : FuncId} {F : Rg → Value} (h : ∀ k s, plainV (F k) = true ∧ ∃ t, run Try.prog lib hints f [rv k] s = some (F k, t)) : SumOk Try.prog lib hints f (gP (G1R F)) := sumP fun xs v s hv => by
  unfold G1R at hv
  split at hv
  · simp only [Option.map_eq_some_iff] at hv
    obtain ⟨k, h1, rfl⟩ := hv
    rw [asRg_some h1]
    exact h k s
  · cases hv
theorem sum2RK {lib : Lib} {f : FuncId} {F : Rg → BL → Value} (h : ∀ r k s, plainV (F r k) = true ∧ ∃ t, run Try.prog lib hints f [rv r, sv k] s = some (F r k, t)) : SumOk Try.prog lib hints f (gP (G2RK F)) := sumP fun xs v s hv => by
  unfold G2RK at hv
  split at hv
  · simp only [Option.bind_eq_some_iff, Option.map_eq_some_iff] at hv
    obtain ⟨r, h1, k, h2, rfl⟩ := hv
    rw [asRg_some h1, asBl_some h2]
    exact h r k s
  · cases hv
theorem sum2KK {lib : Lib} {f : FuncId} {F : BL → BL → Value} (h : ∀ r k s, plainV (F r k) = true ∧ ∃ t, run Try.prog lib hints f [sv r, sv k] s = some (F r k, t)) : SumOk Try.prog lib hints f (gP (G2KK F)) := sumP fun xs v s hv => by
  unfold G2KK at hv
  split at hv
  · simp only [Option.bind_eq_some_iff, Option.map_eq_some_iff] at hv
    obtain ⟨r, h1, k, h2, rfl⟩ := hv
    rw [asBl_some h1, asBl_some h2]
    exact h r k s
  · cases hv

/-! ### Keys -/
theorem nil_sv : (Value.string ⟨#[]⟩) = sv [] := rfl
theorem len12 {k : BL} : decide (((k.length : Nat) : Int) > 12) = !decide (k.length ≤ 12) := by
  by_cases h : k.length ≤ 12
  · simp [h]; omega
  · simp [h]; omega
theorem CheckKey_run {R : Caller} (k : BL) (s : St) : span_CheckKey R (sv k) s = some (.int .i64 (eK k), s) := by
  unfold span_CheckKey eK ckK
  rw [nil_sv]
  simp only [e_seql, e_lenV, len12, n_bind, n_map, getL_0, getL_1, getL_2, getL_3, getL_4, getL_5, getL_6, getL_7, getL_8, getL_9, getL_10, getL_11, getL_12, condV_t, condV_f, guardV_tt, guardV_ff, guardV_tf, guardV_ft, guardV_u, apick_t, apick_f, exV_exit, exV_ret, lookE_same, joinK_eq, seqA_n, seqA_e, seqA_r, e_add, e_sub, e_mul, e_eql, e_neq, e_lss, e_leq, e_gtr, e_geq, e_conv, e_not, e_neg, and_guard, or_guard]
  cases h1 : (k == []) <;> cases h2 : decide (k.length ≤ 12) <;> simp only [bne, h1, h2, Bool.not_true, Bool.not_false, Bool.true_or, Bool.false_or, Bool.or_true, Bool.or_false, Bool.and_true, Bool.and_false, if_true, if_false, Bool.false_eq_true, n_bind, n_map, getL_0, getL_1, getL_2, getL_3, getL_4, getL_5, getL_6, getL_7, getL_8, getL_9, getL_10, getL_11, getL_12, condV_t, condV_f, guardV_tt, guardV_ff, guardV_tf, guardV_ft, guardV_u, apick_t, apick_f, exV_exit, exV_ret, lookE_same, joinK_eq, seqA_n, seqA_e, seqA_r, e_add, e_sub, e_mul, e_eql, e_neq, e_lss, e_leq, e_gtr, e_geq, e_conv, e_not, e_neg, and_guard, or_guard, retV] <;> rfl
theorem refCheckKey_run {R : Caller} (k : BL) (s : St) : ref02_CheckKey R (sv k) s = some (.int .i64 (eK k), s) := by
  unfold ref02_CheckKey eK ckK
  have h0 : decide (((k.length : Nat) : Int) < 1) = (k == []) := by
    cases k with
    | nil => rfl
    | cons x k => simp; omega
  simp only [e_lenV, h0, len12, n_bind, n_map, getL_0, getL_1, getL_2, getL_3, getL_4, getL_5, getL_6, getL_7, getL_8, getL_9, getL_10, getL_11, getL_12, condV_t, condV_f, guardV_tt, guardV_ff, guardV_tf, guardV_ft, guardV_u, apick_t, apick_f, exV_exit, exV_ret, lookE_same, joinK_eq, seqA_n, seqA_e, seqA_r, e_add, e_sub, e_mul, e_eql, e_neq, e_lss, e_leq, e_gtr, e_geq, e_conv, e_not, e_neg, and_guard, or_guard]
  cases h1 : (k == []) <;> cases h2 : decide (k.length ≤ 12) <;> simp only [bne, h1, h2, Bool.not_true, Bool.not_false, Bool.true_or, Bool.false_or, Bool.or_true, Bool.or_false, Bool.and_true, Bool.and_false, if_true, if_false, Bool.false_eq_true, n_bind, n_map, getL_0, getL_1, getL_2, getL_3, getL_4, getL_5, getL_6, getL_7, getL_8, getL_9, getL_10, getL_11, getL_12, condV_t, condV_f, guardV_tt, guardV_ff, guardV_tf, guardV_ft, guardV_u, apick_t, apick_f, exV_exit, exV_ret, lookE_same, joinK_eq, seqA_n, seqA_e, seqA_r, e_add, e_sub, e_mul, e_eql, e_neq, e_lss, e_leq, e_gtr, e_geq, e_conv, e_not, e_neg, and_guard, or_guard, retV] <;> rfl
end Go.Proofs.Ytccindbiodofmaa.Ab

/- Keys and ranges: what the functions do, further. -/
namespace Go.Proofs.Ytccindbiodofmaa.Ab
open Go

theorem z_rv : (Value.agg #[.string ⟨#[]⟩, .string ⟨#[]⟩]) = rv ([], []) := rfl
theorem box_rv (r : Rg) : lbox (rv r) = some (rv r) := rfl
theorem ld_rv (r : Rg) : lload true 2 lptr (rv r) = some (rv r) := rfl
theorem ad_0 : afieldAddr 0 lptr = some (.pointer (some ⟨0, 0, none⟩)) := rfl
theorem ad_1 : afieldAddr 1 lptr = some (.pointer (some ⟨0, 1, none⟩)) := rfl
theorem ld_0 (r : Rg) : lload false 1 lptr (rv r) = some (sv r.1) := rfl
theorem ld_00 (r : Rg) : lload false 1 (.pointer (some ⟨0, 0, none⟩)) (rv r) = some (sv r.1) := rfl
theorem z_rv2 : (Value.agg #[sv [], sv []]) = rv ([], []) := rfl
theorem ld_1 (r : Rg) : lload false 1 (.pointer (some ⟨0, 1, none⟩)) (rv r) = some (sv r.2) := rfl
theorem own_id {α : Type} {s : St} {a : α} : ownR s (a, s) = some (a, s) := by unfold ownR; rw [if_pos (Nat.le_refl _)]
theorem all_run {R : Caller} (s : St) : span_all R s = some (rv ([], []), s) := rfl

theorem geq_bl {P : Program} {t : TypeId} {o1 o2 : Operand} {a b : BL} : abin P .geq t o1 o2 (sv a) (sv b) = some (.bool (!bl a b)) := e_sgeq
theorem Check_run {R : Caller} (hR : ∀ s, R 67 [] s = some (rv ([], []), s)) (r : Rg) (s : St) : span_Check R (rv r) s = some (.int .i64 (eR r), s) := by
  obtain ⟨a, b⟩ := r
  unfold span_Check
  simp only [z_rv, z_rv2, box_rv, ld_rv, span_all_call, hR, own_id, rv_eql, ad_0, ad_1, ld_0, ld_1, nil_sv, e_lenV, len12, e_sneq, geq_bl, n_bind, n_map, getL_0, getL_1, getL_2, getL_3, getL_4, getL_5, getL_6, getL_7, getL_8, getL_9, getL_10, getL_11, getL_12, condV_t, condV_f, guardV_tt, guardV_ff, guardV_tf, guardV_ft, guardV_u, apick_t, apick_f, exV_exit, exV_ret, lookE_same, joinK_eq, seqA_n, seqA_e, seqA_r, e_add, e_sub, e_mul, e_eql, e_neq, e_lss, e_leq, e_gtr, e_geq, e_conv, e_not, e_neg, and_guard, or_guard]
  unfold eR ckR
  by_cases h0 : a = [] ∧ b = []
  · obtain ⟨rfl, rfl⟩ := h0
    rfl
  · have e0 : (a == [] && b == []) = false := by
      cases h1 : (a == []) <;> cases h2 : (b == []) <;> simp_all
    simp only [e0, n_bind, n_map, getL_0, getL_1, getL_2, getL_3, getL_4, getL_5, getL_6, getL_7, getL_8, getL_9, getL_10, getL_11, getL_12, condV_t, condV_f, guardV_tt, guardV_ff, guardV_tf, guardV_ft, guardV_u, apick_t, apick_f, exV_exit, exV_ret, lookE_same, joinK_eq, seqA_n, seqA_e, seqA_r, e_add, e_sub, e_mul, e_eql, e_neq, e_lss, e_leq, e_gtr, e_geq, e_conv, e_not, e_neg, and_guard, or_guard]
    cases h1 : decide (a.length ≤ 12) <;> cases h2 : decide (b.length ≤ 12) <;> cases h3 : (b == []) <;> cases h4 : bl a b <;> simp only [span_Check.j0, h1, h2, h3, h4, Bool.not_true, Bool.not_false, Bool.true_or, Bool.false_or, Bool.or_true, Bool.or_false, Bool.and_true, Bool.and_false, Bool.true_and, Bool.false_and, if_true, if_false, Bool.false_eq_true, z_rv, z_rv2, ld_rv, ld_0, ld_00, ld_1, n_bind, n_map, getL_0, getL_1, getL_2, getL_3, getL_4, getL_5, getL_6, getL_7, getL_8, getL_9, getL_10, getL_11, getL_12, condV_t, condV_f, guardV_tt, guardV_ff, guardV_tf, guardV_ft, guardV_u, apick_t, apick_f, exV_exit, exV_ret, lookE_same, joinK_eq, seqA_n, seqA_e, seqA_r, e_add, e_sub, e_mul, e_eql, e_neq, e_lss, e_leq, e_gtr, e_geq, e_conv, e_not, e_neg, and_guard, or_guard, retV] <;> rfl
theorem refCheck_run {R : Caller} (r : Rg) (s : St) : ref02_Check R (rv r) s = some (.int .i64 (eR r), s) := by
  obtain ⟨a, b⟩ := r
  unfold ref02_Check
  simp only [z_rv, z_rv2, box_rv, ld_rv, ad_0, ad_1, ld_0, ld_1, nil_sv, e_lenV, len12, e_sneq, geq_bl, n_bind, n_map, getL_0, getL_1, getL_2, getL_3, getL_4, getL_5, getL_6, getL_7, getL_8, getL_9, getL_10, getL_11, getL_12, condV_t, condV_f, guardV_tt, guardV_ff, guardV_tf, guardV_ft, guardV_u, apick_t, apick_f, exV_exit, exV_ret, lookE_same, joinK_eq, seqA_n, seqA_e, seqA_r, e_add, e_sub, e_mul, e_eql, e_neq, e_lss, e_leq, e_gtr, e_geq, e_conv, e_not, e_neg, and_guard, or_guard]
  unfold eR ckR
  cases h1 : decide (a.length ≤ 12) <;> cases h2 : decide (b.length ≤ 12) <;> cases h3 : (b == []) <;> cases h4 : bl a b <;> simp only [h1, h2, h3, h4, Bool.not_true, Bool.not_false, Bool.true_or, Bool.false_or, Bool.or_true, Bool.or_false, Bool.and_true, Bool.and_false, Bool.true_and, Bool.false_and, if_true, if_false, Bool.false_eq_true, z_rv, z_rv2, ld_rv, ld_0, ld_00, ld_1, n_bind, n_map, getL_0, getL_1, getL_2, getL_3, getL_4, getL_5, getL_6, getL_7, getL_8, getL_9, getL_10, getL_11, getL_12, condV_t, condV_f, guardV_tt, guardV_ff, guardV_tf, guardV_ft, guardV_u, apick_t, apick_f, exV_exit, exV_ret, lookE_same, joinK_eq, seqA_n, seqA_e, seqA_r, e_add, e_sub, e_mul, e_eql, e_neq, e_lss, e_leq, e_gtr, e_geq, e_conv, e_not, e_neg, and_guard, or_guard, retV] <;> rfl
end Go.Proofs.Ytccindbiodofmaa.Ab

/- Keys and ranges: Has, least, below. -/
namespace Go.Proofs.Ytccindbiodofmaa.Ab
open Go

theorem leq_bl {P : Program} {t : TypeId} {o1 o2 : Operand} {a b : BL} : abin P .leq t o1 o2 (sv a) (sv b) = some (.bool (!bl b a)) := by
  rw [e_sleq]
  congr 2
  by_cases h : a = b
  · subst h
    have := bl_irrefl a
    simp only [bl] at this
    simp [this]
  · rcases bl_total h with g | g
    · have g2 := bl_asymm g
      simp only [bl] at g g2 ⊢
      simp [g, g2]
    · have g2 := bl_asymm g
      simp only [bl] at g g2 ⊢
      simp [g, g2, h]
theorem lss_bl {P : Program} {t : TypeId} {o1 o2 : Operand} {a b : BL} : abin P .lss t o1 o2 (sv a) (sv b) = some (.bool (bl a b)) := e_slss
theorem eR_0 {r : Rg} : (eR r == 0) = ckR r := by unfold eR; cases ckR r <;> rfl
theorem eK_0 {k : BL} : (eK k == 0) = ckK k := by unfold eK; cases ckK k <;> rfl
theorem refHas_run {R : Caller} (hR : ∀ r s, R 25 [rv r] s = some (.int .i64 (eR r), s)) (hK : ∀ k s, R 39 [sv k] s = some (.int .i64 (eK k), s)) (r : Rg) (k : BL) (s : St) : ref02_Has R (rv r) (sv k) s = some (.bool (hasR r k), s) := by
  obtain ⟨a, b⟩ := r
  unfold ref02_Has
  simp only [z_rv, z_rv2, box_rv, ld_rv, ref02_Check_call, ref02_CheckKey_call, hR, hK, ad_0, ad_1, ld_0, ld_1, nil_sv, e_seql, geq_bl, lss_bl, eR_0, eK_0, n_bind, n_map, getL_0, getL_1, getL_2, getL_3, getL_4, getL_5, getL_6, getL_7, getL_8, getL_9, getL_10, getL_11, getL_12, condV_t, condV_f, guardV_tt, guardV_ff, guardV_tf, guardV_ft, guardV_u, apick_t, apick_f, exV_exit, exV_ret, lookE_same, joinK_eq, seqA_n, seqA_e, seqA_r, e_add, e_sub, e_mul, e_eql, e_neq, e_lss, e_leq, e_gtr, e_geq, e_conv, e_not, e_neg, and_guard, or_guard]
  unfold hasR
  cases h1 : ckR (a, b) <;> cases h2 : ckK k <;> cases h3 : bl k a <;> cases h4 : (b == []) <;> cases h5 : bl k b <;> simp only [h1, h2, h3, h4, h5, Bool.not_true, Bool.not_false, Bool.true_or, Bool.false_or, Bool.or_true, Bool.or_false, Bool.and_true, Bool.and_false, Bool.true_and, Bool.false_and, if_true, if_false, Bool.false_eq_true, z_rv, z_rv2, ld_rv, ld_0, ld_00, ld_1, n_bind, n_map, getL_0, getL_1, getL_2, getL_3, getL_4, getL_5, getL_6, getL_7, getL_8, getL_9, getL_10, getL_11, getL_12, condV_t, condV_f, guardV_tt, guardV_ff, guardV_tf, guardV_ft, guardV_u, apick_t, apick_f, exV_exit, exV_ret, lookE_same, joinK_eq, seqA_n, seqA_e, seqA_r, e_add, e_sub, e_mul, e_eql, e_neq, e_lss, e_leq, e_gtr, e_geq, e_conv, e_not, e_neg, and_guard, or_guard, retV] <;> rfl

end Go.Proofs.Ytccindbiodofmaa.Ab

/- Ranges: what two have in common, and what covers. -/
namespace Go.Proofs.Ytccindbiodofmaa.Ab
open Go

theorem ab2 (x y : BL) : abuild Try.prog 46 [(0, sv x), (1, sv y)] = some (rv (x, y)) := by kernel_rfl
theorem st_rv (x y : Rg) : lstore 2 lptr (rv x) (rv y) = some (rv x) := rfl
theorem eR_n {r : Rg} : (eR r != 0) = !ckR r := by unfold eR; cases ckR r <;> rfl
theorem eK_n {k : BL} : (eK k != 0) = !ckK k := by unfold eK; cases ckK k <;> rfl

end Go.Proofs.Ytccindbiodofmaa.Ab

/- Ranges: the reference's answers to what two have in common, and to what covers. -/
namespace Go.Proofs.Ytccindbiodofmaa.Ab
open Go

end Go.Proofs.Ytccindbiodofmaa.Ab

/- Ranges: a range in two. -/
namespace Go.Proofs.Ytccindbiodofmaa.Ab
open Go

theorem eK_f {k : BL} (h : ckK k = false) : eK k = 20 := by unfold eK; rw [h]; rfl
end Go.Proofs.Ytccindbiodofmaa.Ab

/- What is known of the functions of keys and ranges: told as sums. -/
namespace Go.Proofs.Ytccindbiodofmaa.Ab
open Go

theorem progOk : progW Try.prog = true := by kernel_rfl
def gKey : Sum := gP (G1K fun k => .int .i64 (eK k))
def gChk : Sum := gP (G1R fun r => .int .i64 (eR r))
def gHas : Sum := gP (G2RK fun r k => .bool (hasR r k))
def G0 (v : Value) : List Value → Option Value
  | [] => some v
  | _ => none
def gAll : Sum := gP (G0 (rv ([], [])))
theorem key_eq {k : BL} {s : St} : gKey [sv k] s = some (.int .i64 (eK k), s) := rfl
theorem chk_eq {r : Rg} {s : St} : gChk [rv r] s = some (.int .i64 (eR r), s) := rfl
theorem has_eq {r : Rg} {k : BL} {s : St} : gHas [rv r, sv k] s = some (.bool (hasR r k), s) := rfl
theorem all_eq {s : St} : gAll [] s = some (rv ([], []), s) := rfl
end Go.Proofs.Ytccindbiodofmaa.Ab

/- The range of a key: the reference's loop. -/
namespace Go.Proofs.Ytccindbiodofmaa.Ab
open Go

/-- how many letters stand before the 255s at the end of the first n -/
def stripN (k : BL) : Nat → Nat
  | 0 => 0
  | n + 1 => if k.getD n 0 == 255 then stripN k n else n + 1
theorem idx_sv {k : BL} {n : Nat} (h : n < k.length) : aindexStr (sv k) (.int .i64 (n : Int)) = some (.int .u8 (((k.getD n 0).toNat : Nat) : Int)) := by
  unfold aindexStr sv
  simp [h]
theorem is255 {c : UInt8} : (((c.toNat : Nat) : Int) == 255) = (c == 255) := by
  by_cases h : c = 255
  · subst h; rfl
  · have : c.toNat ≠ 255 := fun e => h (UInt8.toNat_inj.1 e)
    have h2 : (c == 255) = false := by simp [h]
    rw [h2, beq_eq_false_iff_ne]
    omega
theorem refPoint_loop {R : Caller} {k : BL} {c : Value} {s : St} : ∀ (n : Nat), n ≤ k.length → n ≤ 100 → loopL (ref02_Point.b0 R) [sv k, lptr, .int .i64 (n : Int), c] s = some (.exit 0, [sv k, lptr, .int .i64 ((stripN k n : Nat) : Int), c], s) := by
  intro n
  induction n with
  | zero =>
    intro _ _
    rw [loopL_eq]
    have h1 : decide (((0 : Nat) : Int) > 0) = false := rfl
    simp only [ref02_Point.b0, h1, n_bind, n_map, getL_0, getL_1, getL_2, getL_3, getL_4, getL_5, getL_6, getL_7, getL_8, getL_9, getL_10, getL_11, getL_12, condV_t, condV_f, guardV_tt, guardV_ff, guardV_tf, guardV_ft, guardV_u, apick_t, apick_f, exV_exit, exV_ret, lookE_same, joinK_eq, seqA_n, seqA_e, seqA_r, e_add, e_sub, e_mul, e_eql, e_neq, e_lss, e_leq, e_gtr, e_geq, e_conv, e_not, e_neg, and_guard, or_guard]
    rfl
  | succ n IH =>
    intro h h2
    rw [loopL_eq]
    have h1 : decide (((n + 1 : Nat) : Int) > 0) = true := by rw [decide_eq_true_eq]; omega
    have hw : IntKind.wrap .i64 (((n + 1 : Nat) : Int) - 1) = (n : Int) := by rw [wrap_i64 (by omega) (by omega)]; omega
    simp only [ref02_Point.b0, h1, hw, idx_sv (show n < k.length by omega), is255, n_bind, n_map, getL_0, getL_1, getL_2, getL_3, getL_4, getL_5, getL_6, getL_7, getL_8, getL_9, getL_10, getL_11, getL_12, condV_t, condV_f, guardV_tt, guardV_ff, guardV_tf, guardV_ft, guardV_u, apick_t, apick_f, exV_exit, exV_ret, lookE_same, joinK_eq, seqA_n, seqA_e, seqA_r, e_add, e_sub, e_mul, e_eql, e_neq, e_lss, e_leq, e_gtr, e_geq, e_conv, e_not, e_neg, and_guard, or_guard]
    cases h3 : (k.getD n 0 == 255)
    · simp only [h3, Bool.and_false, Bool.and_true, n_bind, n_map, getL_0, getL_1, getL_2, getL_3, getL_4, getL_5, getL_6, getL_7, getL_8, getL_9, getL_10, getL_11, getL_12, condV_t, condV_f, guardV_tt, guardV_ff, guardV_tf, guardV_ft, guardV_u, apick_t, apick_f, exV_exit, exV_ret, lookE_same, joinK_eq, seqA_n, seqA_e, seqA_r, e_add, e_sub, e_mul, e_eql, e_neq, e_lss, e_leq, e_gtr, e_geq, e_conv, e_not, e_neg, and_guard, or_guard, stripN, if_false, Bool.false_eq_true]
    · simp only [h3, hw, Bool.and_true, n_bind, n_map, getL_0, getL_1, getL_2, getL_3, getL_4, getL_5, getL_6, getL_7, getL_8, getL_9, getL_10, getL_11, getL_12, condV_t, condV_f, guardV_tt, guardV_ff, guardV_tf, guardV_ft, guardV_u, apick_t, apick_f, exV_exit, exV_ret, lookE_same, joinK_eq, seqA_n, seqA_e, seqA_r, e_add, e_sub, e_mul, e_eql, e_neq, e_lss, e_leq, e_gtr, e_geq, e_conv, e_not, e_neg, and_guard, or_guard, stripN, if_true]
      exact IH (by omega) (by omega)
end Go.Proofs.Ytccindbiodofmaa.Ab

/- The range of a key: what both functions do. -/
namespace Go.Proofs.Ytccindbiodofmaa.Ab
open Go

/-! ### Strings, and rows -/
theorem sv_app {a b : BL} : ((⟨a.toArray⟩ : ByteArray) ++ ⟨b.toArray⟩) = ⟨(a ++ b).toArray⟩ := by
  apply ByteArray.ext
  rw [ByteArray.data_append]
  simp
theorem e_sadd {P : Program} {t : TypeId} {o1 o2 : Operand} {a b : BL} (h : a.length + b.length ≤ 9223372036854775807) : abin P .add t o1 o2 (sv a) (sv b) = some (sv (a ++ b)) := by
  simp only [abin, strBin, sv, sv_app]
  rw [if_pos]
  simpa [ByteArray.size] using h
theorem sv_cut {k : BL} {n : Nat} (h : n ≤ k.length) : asliceStrV (sv k) none (some (.int .i64 (n : Int))) none = some (sv (k.take n)) := by
  have e : (⟨k.toArray⟩ : ByteArray).extract 0 n = ⟨(k.take n).toArray⟩ := by
    apply ByteArray.ext
    rw [ByteArray.data_extract]
    simp
  unfold asliceStrV sv asliceStr abound
  simp only [Int.toNat_natCast, Option.bind_some]
  rw [if_pos (by omega)]
  simp only [Option.bind_some]
  rw [if_pos ⟨Nat.zero_le _, by simpa [ByteArray.size] using h⟩, e]
theorem str_row {s : St} {b n c : Nat} {k : BL} (h : readRow s b = some (bv k)) (hn : n ≤ k.length) (hc : n ≤ c) : abytesToStr (.slice (some ⟨b, 0, none⟩) n c) s = some (sv (k.take n)) := by
  apply bytes_str
  unfold bytesOf cellsOf
  simp only
  rw [if_pos hc]
  unfold readN
  rw [h]
  simp only [Option.bind_some, Nat.zero_add, Nat.mul_one, bv_length]
  rw [if_pos hn]
  simp only [Option.bind_some, List.drop_zero, ← bv_take]
  exact ubs_bv _
/-! ### The range of a key -/
def ptR (k : BL) : Rg := if k.length < 12 then (k, k ++ [0]) else match stripN k 12 with
  | 0 => (k, [])
  | n + 1 => (k, k.take n ++ [k.getD n 0 + 1])
def ptL (k : BL) : Rg × Int := if ckK k then (ptR k, 0) else (([], []), 20)
def ptV (p : Rg × Int) : Value := .tuple #[rv p.1, .int .i64 p.2]
theorem ckK_len {k : BL} (h : ckK k = true) : k.length ≤ 12 ∧ k ≠ [] := by
  unfold ckK at h
  simp at h
  exact ⟨h.2, h.1⟩
theorem ab1 (x : BL) : abuild Try.prog 46 [(0, sv x)] = some (rv (x, [])) := by kernel_rfl
theorem s_0 : (Value.string ⟨#[0]⟩) = sv [0] := rfl
theorem strip_le {k : BL} : ∀ n, stripN k n ≤ n
  | 0 => Nat.le_refl _
  | n + 1 => by
    unfold stripN
    split
    · exact Nat.le_succ_of_le (strip_le n)
    · exact Nat.le_refl _
theorem strip_ne {k : BL} {m : Nat} : ∀ {n}, stripN k n = m + 1 → k.getD m 0 ≠ 255
  | 0, h => by cases h
  | n + 1, h => by
    unfold stripN at h
    split at h
    · exact strip_ne h
    · rename_i h2
      cases h
      simpa using h2
theorem inc_u8 {c : UInt8} (h : c ≠ 255) : IntKind.wrap .u8 ((c.toNat : Int) + 1) = (((c + 1).toNat : Nat) : Int) := by
  have h1 : c.toNat < 256 := c.toNat_lt
  have h2 : c.toNat ≠ 255 := fun e => h (UInt8.toNat_inj.1 e)
  rw [wrap_u8 (by omega) (by omega)]
  rw [UInt8.toNat_add]
  have : (1 : UInt8).toNat = 1 := rfl
  omega

/-- one byte as a string -/
theorem one_str {s : St} {c : UInt8} : ∃ r, abuildSl 1 [(.int .u8 0)] 1 [(0, .int .u8 ((c.toNat : Nat) : Int))] s = some r ∧ s.heap.length ≤ r.2.heap.length ∧ abytesToStr r.1 r.2 = some (sv [c]) := by
  refine ⟨(.slice (some ⟨s.heap.length, 0, none⟩) 1 1, s.push (.row 1 (bv [c]) .act)), rfl, by simp [St.push], ?_⟩
  exact str_row (k := [c]) (n := 1) (by unfold readRow; rw [push_get]) (Nat.le_refl _) (Nat.le_refl _)
theorem refPoint_run {R : Caller} (hK : ∀ k s, R 39 [sv k] s = some (.int .i64 (eK k), s)) (k : BL) (s : St) : ∃ t, ref02_Point R (sv k) s = some (ptV (ptL k), t) := by
  unfold ref02_Point ptL
  simp only [z_rv, ref02_CheckKey_call, hK, eK_n, n_bind, n_map, getL_0, getL_1, getL_2, getL_3, getL_4, getL_5, getL_6, getL_7, getL_8, getL_9, getL_10, getL_11, getL_12, condV_t, condV_f, guardV_tt, guardV_ff, guardV_tf, guardV_ft, guardV_u, apick_t, apick_f, exV_exit, exV_ret, lookE_same, joinK_eq, seqA_n, seqA_e, seqA_r, e_add, e_sub, e_mul, e_eql, e_neq, e_lss, e_leq, e_gtr, e_geq, e_conv, e_not, e_neg, and_guard, or_guard]
  cases h1 : ckK k
  · refine ⟨s, ?_⟩
    simp only [h1, eK_f h1, Bool.not_false, if_false, Bool.false_eq_true, n_bind, n_map, getL_0, getL_1, getL_2, getL_3, getL_4, getL_5, getL_6, getL_7, getL_8, getL_9, getL_10, getL_11, getL_12, condV_t, condV_f, guardV_tt, guardV_ff, guardV_tf, guardV_ft, guardV_u, apick_t, apick_f, exV_exit, exV_ret, lookE_same, joinK_eq, seqA_n, seqA_e, seqA_r, e_add, e_sub, e_mul, e_eql, e_neq, e_lss, e_leq, e_gtr, e_geq, e_conv, e_not, e_neg, and_guard, or_guard, retV]
    rfl
  obtain ⟨h2, h3⟩ := ckK_len h1
  unfold ptR
  by_cases h4 : k.length < 12
  · refine ⟨s, ?_⟩
    have h5 : decide (((k.length : Nat) : Int) < 12) = true := by simp; omega
    have h6 : (k.length + [(0 : UInt8)].length) ≤ 9223372036854775807 := by simp; omega
    simp only [h1, h4, h5, e_lenV, s_0, e_sadd h6, ab2, st_rv, ld_rv, Bool.not_true, if_true, if_false, Bool.false_eq_true, n_bind, n_map, getL_0, getL_1, getL_2, getL_3, getL_4, getL_5, getL_6, getL_7, getL_8, getL_9, getL_10, getL_11, getL_12, condV_t, condV_f, guardV_tt, guardV_ff, guardV_tf, guardV_ft, guardV_u, apick_t, apick_f, exV_exit, exV_ret, lookE_same, joinK_eq, seqA_n, seqA_e, seqA_r, e_add, e_sub, e_mul, e_eql, e_neq, e_lss, e_leq, e_gtr, e_geq, e_conv, e_not, e_neg, and_guard, or_guard, retV]
    rfl
  have h5 : decide (((k.length : Nat) : Int) < 12) = false := by simp; omega
  have h6 : k.length = 12 := by omega
  have hL := refPoint_loop (R := R) (k := k) (c := rv ([], [])) (s := s) 12 (by omega) (by omega)
  have e12 : ((12 : Nat) : Int) = 12 := rfl
  rw [e12] at hL
  simp only [h1, h4, h5, e_lenV, hL, Bool.not_true, if_true, if_false, Bool.false_eq_true, n_bind, n_map, getL_0, getL_1, getL_2, getL_3, getL_4, getL_5, getL_6, getL_7, getL_8, getL_9, getL_10, getL_11, getL_12, condV_t, condV_f, guardV_tt, guardV_ff, guardV_tf, guardV_ft, guardV_u, apick_t, apick_f, exV_exit, exV_ret, lookE_same, joinK_eq, seqA_n, seqA_e, seqA_r, e_add, e_sub, e_mul, e_eql, e_neq, e_lss, e_leq, e_gtr, e_geq, e_conv, e_not, e_neg, and_guard, or_guard]
  have hn := strip_le (k := k) 12
  have hne := fun m => strip_ne (k := k) (m := m) (n := 12)
  generalize stripN k 12 = n at hn hne
  cases n with
  | zero =>
    refine ⟨s, ?_⟩
    have h7 : (((0 : Nat) : Int) == 0) = true := rfl
    simp only [h7, ab1, st_rv, ld_rv, n_bind, n_map, getL_0, getL_1, getL_2, getL_3, getL_4, getL_5, getL_6, getL_7, getL_8, getL_9, getL_10, getL_11, getL_12, condV_t, condV_f, guardV_tt, guardV_ff, guardV_tf, guardV_ft, guardV_u, apick_t, apick_f, exV_exit, exV_ret, lookE_same, joinK_eq, seqA_n, seqA_e, seqA_r, e_add, e_sub, e_mul, e_eql, e_neq, e_lss, e_leq, e_gtr, e_geq, e_conv, e_not, e_neg, and_guard, or_guard, retV]
    rfl
  | succ n =>
    have h7 : (((n + 1 : Nat) : Int) == 0) = false := by rw [beq_eq_false_iff_ne]; omega
    have hw : IntKind.wrap .i64 (((n + 1 : Nat) : Int) - 1) = (n : Int) := by rw [wrap_i64 (by omega) (by omega)]; omega
    obtain ⟨r, g1, g2, g3⟩ := one_str (s := s) (c := k.getD n 0 + 1)
    refine ⟨r.2, ?_⟩
    have h8 : ((k.take n).length + [k.getD n 0 + 1].length) ≤ 9223372036854775807 := by simp; omega
    simp only [h7, hw, sv_cut (show n ≤ k.length by omega), idx_sv (show n < k.length by omega), inc_u8 (hne n rfl), g1, n_bind, n_map, getL_0, getL_1, getL_2, getL_3, getL_4, getL_5, getL_6, getL_7, getL_8, getL_9, getL_10, getL_11, getL_12, condV_t, condV_f, guardV_tt, guardV_ff, guardV_tf, guardV_ft, guardV_u, apick_t, apick_f, exV_exit, exV_ret, lookE_same, joinK_eq, seqA_n, seqA_e, seqA_r, e_add, e_sub, e_mul, e_eql, e_neq, e_lss, e_leq, e_gtr, e_geq, e_conv, e_not, e_neg, and_guard, or_guard]
    have o1 : ownR s (r.1, r.2) = some (r.1, r.2) := if_pos g2
    simp only [o1, g3, n_bind, n_map, getL_0, getL_1, getL_2, getL_3, getL_4, getL_5, getL_6, getL_7, getL_8, getL_9, getL_10, getL_11, getL_12, condV_t, condV_f, guardV_tt, guardV_ff, guardV_tf, guardV_ft, guardV_u, apick_t, apick_f, exV_exit, exV_ret, lookE_same, joinK_eq, seqA_n, seqA_e, seqA_r, e_add, e_sub, e_mul, e_eql, e_neq, e_lss, e_leq, e_gtr, e_geq, e_conv, e_not, e_neg, and_guard, or_guard]
    have o2 : ownR r.2 (sv [k.getD n 0 + 1], r.2) = some (sv [k.getD n 0 + 1], r.2) := own_id
    simp only [o2, e_sadd h8, ab2, st_rv, ld_rv, n_bind, n_map, getL_0, getL_1, getL_2, getL_3, getL_4, getL_5, getL_6, getL_7, getL_8, getL_9, getL_10, getL_11, getL_12, condV_t, condV_f, guardV_tt, guardV_ff, guardV_tf, guardV_ft, guardV_u, apick_t, apick_f, exV_exit, exV_ret, lookE_same, joinK_eq, seqA_n, seqA_e, seqA_r, e_add, e_sub, e_mul, e_eql, e_neq, e_lss, e_leq, e_gtr, e_geq, e_conv, e_not, e_neg, and_guard, or_guard, retV]
    rfl
end Go.Proofs.Ytccindbiodofmaa.Ab

/- Strings have ranks: what is plain of keys and ranges. -/
namespace Go.Proofs.Ytccindbiodofmaa.Ab
open Go

theorem has_iff {r : Rg} {k : BL} (hr : ckR r = true) (hk : ckK k = true) : hasR r k = (!bl k r.1 && (r.2 == [] || bl k r.2)) := by
  unfold hasR; rw [hr, hk]; rfl
theorem ckR_lt {r : Rg} (h : ckR r = true) : (r.2 == [] || bl r.1 r.2) = true := by
  unfold ckR at h
  simp only [Bool.and_eq_true] at h
  exact h.2
end Go.Proofs.Ytccindbiodofmaa.Ab

/- What is plain of keys and ranges, further. -/
namespace Go.Proofs.Ytccindbiodofmaa.Ab
open Go

/-! ### The range of one key -/
theorem top_eq : ∀ {v o : BL}, (∀ c ∈ v, c = 255) → bl o v = false → o.length ≤ v.length → o = v
  | [], [], _, _, _ => rfl
  | [], _ :: _, _, _, h => by simp at h
  | _ :: _, [], _, h, _ => by cases h
  | c :: v, y :: o, hv, h, hl => by
    have hc := hv c (List.mem_cons_self ..)
    subst hc
    have h1 : ¬ (y.toNat < (255 : UInt8).toNat ∨ (y = 255 ∧ bl o v = true)) := fun g => by rw [bl_cons.2 g] at h; cases h
    have h2 : (255 : UInt8).toNat = 255 := rfl
    have h3 := y.toNat_lt
    have hy : y = 255 := UInt8.toNat_inj.1 (by omega)
    subst hy
    rw [top_eq (v := v) (o := o) (fun c hc => hv c (List.mem_cons_of_mem _ hc)) (by
      cases e : bl o v with
      | false => rfl
      | true => exact absurd (.inr ⟨rfl, e⟩) h1) (by simpa using hl)]
theorem between {x : UInt8} (hx : x ≠ 255) {v : BL} (hv : ∀ c ∈ v, c = 255) : ∀ {u o : BL}, bl o (u ++ x :: v) = false → bl o (u ++ [x + 1]) = true → o.length ≤ (u ++ x :: v).length → o = u ++ x :: v
  | [], [], h, _, _ => by cases h
  | [], y :: o, h, g, hl => by
    have hx1 : (x + 1).toNat = x.toNat + 1 := by
      have h1 := x.toNat_lt
      have h2 : x.toNat ≠ 255 := fun e => hx (UInt8.toNat_inj.1 e)
      rw [UInt8.toNat_add]
      have : (1 : UInt8).toNat = 1 := rfl
      omega
    have h1 : ¬ (y.toNat < x.toNat ∨ (y = x ∧ bl o v = true)) := fun g => by rw [List.nil_append, bl_cons.2 g] at h; cases h
    rw [List.nil_append, bl_cons] at g
    rw [bl_nil_r] at g
    have hy : y = x := UInt8.toNat_inj.1 (by
      rcases g with g | ⟨_, g⟩
      · omega
      · cases g)
    subst hy
    rw [top_eq (v := v) (o := o) hv (by
      cases e : bl o v with
      | false => rfl
      | true => exact absurd (.inr ⟨rfl, e⟩) h1) (by simpa using hl)]
    rfl
  | _ :: _, [], h, _, _ => by cases h
  | c :: u, y :: o, h, g, hl => by
    have h1 : ¬ (y.toNat < c.toNat ∨ (y = c ∧ bl o (u ++ x :: v) = true)) := fun g => by rw [List.cons_append, bl_cons.2 g] at h; cases h
    rw [List.cons_append, bl_cons] at g
    have hy : y = c := by
      rcases g with g | g
      · exact absurd (.inl g) h1
      · exact g.1
    subst hy
    have g2 : bl o (u ++ [x + 1]) = true := by
      rcases g with g | g
      · omega
      · exact g.2
    rw [between hx hv (u := u) (o := o) (by
      cases e : bl o (u ++ x :: v) with
      | false => rfl
      | true => exact absurd (.inr ⟨rfl, e⟩) h1) g2 (by simpa using hl)]
    rfl
theorem above {x : UInt8} (hx : x ≠ 255) {v : BL} : ∀ {u : BL}, bl (u ++ x :: v) (u ++ [x + 1]) = true
  | [] => by
    rw [List.nil_append, List.nil_append, bl_cons]
    left
    have h1 := x.toNat_lt
    have h2 : x.toNat ≠ 255 := fun e => hx (UInt8.toNat_inj.1 e)
    rw [UInt8.toNat_add]
    have : (1 : UInt8).toNat = 1 := rfl
    omega
  | c :: u => by
    rw [List.cons_append, List.cons_append, bl_cons]
    exact .inr ⟨rfl, above hx⟩
theorem strip_all {k : BL} : ∀ {n i : Nat}, stripN k n ≤ i → i < n → k.getD i 0 = 255
  | 0, _, _, h => by omega
  | n + 1, i, h, g => by
    unfold stripN at h
    split at h
    · rename_i h2
      by_cases e : i = n
      · subst e; simpa using h2
      · exact strip_all h (by omega)
    · omega
theorem strip_drop {k : BL} (h : k.length = 12) : ∀ c ∈ k.drop (stripN k 12), c = 255 := by
  intro c hc
  obtain ⟨j, hj, e⟩ := List.getElem_of_mem hc
  rw [List.getElem_drop] at e
  simp only [List.length_drop] at hj
  have := strip_all (k := k) (n := 12) (i := stripN k 12 + j) (by omega) (by omega)
  rw [← e]
  simpa [show stripN k 12 + j < k.length by omega] using this
theorem pt_facts {k : BL} (h : ckK k = true) : (ptR k).1 = k ∧ ckR (ptR k) = true ∧ (∀ o, o.length ≤ 12 → bl o k = false → ((ptR k).2 == [] || bl o (ptR k).2) = true → o = k) ∧ ((ptR k).2 == [] || bl k (ptR k).2) = true := by
  obtain ⟨h1, h2⟩ := ckK_len h
  by_cases h4 : k.length < 12
  · have e : ptR k = (k, k ++ [0]) := by unfold ptR; rw [if_pos h4]
    rw [e]
    have h5 : bl k (k ++ [0]) = true := by rw [bl_zero]; simp
    refine ⟨rfl, ?_, ?_, ?_⟩
    · unfold ckR
      simp [h5]
      omega
    · intro o ho g1 g2
      have : (k ++ [0] == []) = false := by simp
      simp only [this, Bool.false_or] at g2
      rw [bl_zero, g1] at g2
      simpa using g2
    · simp only [h5, Bool.or_true]
  · have h6 : k.length = 12 := by omega
    have e : ptR k = match stripN k 12 with
      | 0 => (k, [])
      | n + 1 => (k, k.take n ++ [k.getD n 0 + 1]) := by unfold ptR; rw [if_neg h4] <;> cases stripN k 12 <;> rfl
    have hd := strip_drop h6
    have hne := fun m => strip_ne (k := k) (m := m) (n := 12)
    have hle := strip_le (k := k) 12
    rw [e]
    generalize stripN k 12 = n at hd hne hle
    cases n with
    | zero =>
      refine ⟨rfl, ?_, ?_, rfl⟩
      · unfold ckR; simp; omega
      · intro o ho g1 _
        exact top_eq (by simpa using hd) g1 (by omega)
    | succ n =>
      have hx := hne n rfl
      have hk : k = k.take n ++ k.getD n 0 :: k.drop (n + 1) := by
        have hn : n < k.length := by omega
        have : k.getD n 0 = k[n] := by simp [hn]
        rw [this, List.getElem_cons_drop, List.take_append_drop]
      have g5 : bl k (k.take n ++ [k.getD n 0 + 1]) = true := by
        have := above hx (u := k.take n) (v := k.drop (n + 1))
        rw [← hk] at this
        exact this
      refine ⟨rfl, ?_, ?_, ?_⟩
      · unfold ckR
        simp only [g5]
        simp
        omega
      · intro o ho g1 g2
        have e0 : (k.take n ++ [k.getD n 0 + 1] == []) = false := by simp
        simp only [e0, Bool.false_or] at g2
        have := between hx hd (u := k.take n) (o := o) (by rw [← hk]; exact g1) g2 (by rw [← hk]; omega)
        rw [← hk] at this
        exact this
      · simp only [g5, Bool.or_true]

end Go.Proofs.Ytccindbiodofmaa.Ab

/- Compared strings: known by the kit's walk. -/
namespace Go.Proofs.Ytccindbiodofmaa.Ab
open Go Go.RowKit Go.Lib

theorem libOk_direct {P : Program} (hprog : progW P = true) {l : List (FuncId × Sum)} (hl : LibOk P (libL l)) {f : FuncId} {g : Sum} (hok : funcOk P f = true)
    (hg : LibOk P (libL l) → ∀ args s v s', g args s = some (v, s') → ∀ wb ι w (args' : Array Value), Sim wb ι s.heap w → All2 (VRel ι) args args'.toList → Calls P f args' w fun e w' => ∃ v', e = .returned v' ∧ After wb ι s.heap w s'.heap v v' w') : LibOk P (libL ((f, g) :: l)) := by
  intro f' g' hf' args s v s' h wb ι w args' hs ha
  simp only [libL] at hf'
  split at hf'
  · rename_i hff
    cases hf'
    subst hff
    exact hg hl args s v s' h wb ι w args' hs ha
  · exact hl f' g' hf' args s v s' h wb ι w args' hs ha

/-! ### Strings compared -/
def cmpL (a b : BL) : Int := if a == b then 0 else if bl a b then -1 else 1
theorem cmp_eq : ∀ (a b : BL), Lib.compareBytes a b = cmpL a b
  | [], [] => rfl
  | [], _ :: _ => rfl
  | _ :: _, [] => rfl
  | x :: a, y :: b => by
    have ih := cmp_eq a b
    unfold Lib.compareBytes
    unfold cmpL at ih ⊢
    by_cases h1 : x < y
    · have h2 : x ≠ y := fun e => by subst e; exact absurd h1 (by simp)
      have h3 : bl (x :: a) (y :: b) = true := bl_cons.2 (.inl (UInt8.lt_iff_toNat_lt.1 h1))
      simp [h1, h2, h3]
    · by_cases h4 : y < x
      · have h2 : x ≠ y := fun e => by subst e; exact absurd h4 (by simp)
        have h3 : bl (x :: a) (y :: b) = false := bl_asymm (bl_cons.2 (.inl (UInt8.lt_iff_toNat_lt.1 h4)))
        have h5 : Op.bytesLess (x :: a) (y :: b) = false := h3
        simp [h1, h4, h2, h5]
      · have e : x = y := by
          apply UInt8.toNat_inj.1
          rw [UInt8.lt_iff_toNat_lt] at h1 h4
          omega
        subst e
        have h3 : bl (x :: a) (x :: b) = bl a b := by
          cases h : bl a b with
          | true => exact bl_cons.2 (.inr ⟨rfl, h⟩)
          | false =>
            cases g : bl (x :: a) (x :: b) with
            | false => rfl
            | true =>
              rcases bl_cons.1 g with g | ⟨_, g⟩
              · omega
              · rw [h] at g; cases g
        simp only [h1, if_false, ih, h3]
        simp
set_option maxHeartbeats 1000000 in
set_option maxRecDepth 100000 in
theorem CompareString_calls (a b : ByteArray) (w : World) :
    Calls Try.prog 73 #[.string a, .string b] w fun e w' => e = .returned (.int .i64 (Lib.compareBytes a.data.toList b.data.toList)) ∧ w' = w := by
  go_enter Try.func73, Try.ntmps73
  go_wp2
  rw [run_callFunc_extern Try.func75 (by kernel_rfl) (by kernel_rfl) (by kernel_rfl) (e := Extern.BytealgCompare.compare) (by kernel_rfl), Lib.run_compareString]
  simp only [Result.andThen]
  rw [Oper.upon_value]
  go_wp2
  go_ret
  exact ⟨rfl, rfl⟩
theorem two_args {R : Value → Value → Prop} {x y : Value} {l : List Value} (h : All2 R [x, y] l) : ∃ x' y', l = [x', y'] ∧ R x x' ∧ R y y' := by
  match l, h with
  | [x', y'], h => exact ⟨x', y', rfl, h.1, h.2.1⟩
def gCmp : Sum := gP (G2KK fun a b => .int .i64 (cmpL a b))
theorem cmp_known {l : List (FuncId × Sum)} (_ : LibOk Try.prog (libL l)) : ∀ args s v s', gCmp args s = some (v, s') → ∀ wb ι w (args' : Array Value), Sim wb ι s.heap w → All2 (VRel ι) args args'.toList → Calls Try.prog 73 args' w fun e w' => ∃ v', e = .returned v' ∧ After wb ι s.heap w s'.heap v v' w' := by
  intro args s v s' h wb ι w args' hs ha
  unfold gCmp gP G2KK at h
  simp only [Option.map_eq_some_iff] at h
  obtain ⟨u, h, e⟩ := h
  cases e
  split at h
  case h_2 => cases h
  rename_i x y
  simp only [Option.bind_eq_some_iff, Option.map_eq_some_iff] at h
  obtain ⟨a, h1, b, h2, rfl⟩ := h
  obtain ⟨l⟩ := args'
  obtain ⟨x', y', rfl, hx, hy⟩ := two_args ha
  rw [asBl_some h1] at hx
  rw [asBl_some h2] at hy
  have ex := hx.inv_string
  have ey := hy.inv_string
  subst ex
  subst ey
  refine (CompareString_calls ⟨a.toArray⟩ ⟨b.toArray⟩ w).mono ?_
  rintro e w' ⟨rfl, rfl⟩
  refine ⟨_, rfl, ?_⟩
  have := cmp_eq a b
  rw [show (⟨a.toArray⟩ : ByteArray).data.toList = a from rfl, show (⟨b.toArray⟩ : ByteArray).data.toList = b from rfl, this]
  exact after_same hs (.of0 (.int _ _))

theorem cmp_lt {a b : BL} : decide (cmpL a b < 0) = bl a b := by
  unfold cmpL
  by_cases h : a = b
  · subst h; simp [bl_irrefl]
  · have : (a == b) = false := by simp [h]
    rw [this]
    cases bl a b <;> rfl
theorem cmp_0 {a b : BL} : (cmpL a b == 0) = (a == b) := by
  unfold cmpL
  by_cases h : a = b
  · subst h; simp
  · have : (a == b) = false := by simp [h]
    rw [this]
    cases bl a b <;> rfl
theorem Compare_run {R : Caller} (hC : ∀ a b s, R 73 [sv a, sv b] s = some (.int .i64 (cmpL a b), s)) (a b : BL) (s : St) : strings_Compare R (sv a) (sv b) s = some (.int .i64 (cmpL a b), s) := by
  unfold strings_Compare
  simp only [internal_bytealg_CompareString_call, hC, n_bind, n_map, getL_0, getL_1, getL_2, getL_3, getL_4, getL_5, getL_6, getL_7, getL_8, getL_9, getL_10, getL_11, getL_12, condV_t, condV_f, guardV_tt, guardV_ff, guardV_tf, guardV_ft, guardV_u, apick_t, apick_f, exV_exit, exV_ret, lookE_same, joinK_eq, seqA_n, seqA_e, seqA_r, e_add, e_sub, e_mul, e_eql, e_neq, e_lss, e_leq, e_gtr, e_geq, e_conv, e_not, e_neg, and_guard, or_guard, retV]
  rfl

end Go.Proofs.Ytccindbiodofmaa.Ab

/- slices.Insert within a slice: what the kit's walk shows of the model, told of the abstract machine. -/
namespace Go.Proofs.Ytccindbiodofmaa.Ab
open Go

/-! ### A row is another one, at its place -/
theorem Sim.renew {wb : Nat} {ι : Emb} {H : List Blk} {w w' : World} (h : Sim wb ι H w) {b n : Nat} {lc : Loc} {cells cells2 : List Value} {cs2 : Array Value} {e : TypeId} {fz : Nat × Nat}
    (hb : H[b]? = some (.row n cells .act)) (hx : ι b = some lc) (r2 : w'.heap[lc.blk]? = some (.cells cs2 e fz)) (hz2 : lc.z = cs2.size) (hf : fzOk n fz cs2.size) (r3 : ∀ c, c ≠ lc.blk → w'.heap[c]? = w.heap[c]?)
    (r4 : w'.heap.size = w.heap.size) (r5 : w'.os = w.os) (r6 : w'.tape = w.tape) (r7 : w'.output = w.output) (hc2 : ∀ (i : Nat) (v : Value), cells2[i]? = some v → ∃ v' : Value, cs2[lc.off + i]? = some v' ∧ L2 ι v v') :
    Sim wb (ι.add H.length lc) (H.set b (.row n cells .dead) ++ [.row n cells2 .act]) w' ∧
      Step ι H w (ι.add H.length lc) (H.set b (.row n cells .dead) ++ [.row n cells2 .act]) w' := by
  obtain ⟨cs, _, _, hw, _, h2, h3⟩ := h.row b n cells .act hb (by simp) lc hx
  obtain ⟨hwb, hn1, hn2, _⟩ := h2 rfl
  have hbl : b < H.length := (List.getElem?_eq_some_iff.1 hb).1
  have hfr : ι H.length = none := h.fresh (Nat.le_refl _)
  have hle : ι.le (ι.add H.length lc) := Emb.le_add hfr
  have hkl := (h.kill (cells := cells) hb).1
  have hown : ∀ a : Nat, a < H.length → ownB (H.set b (Blk.row n cells .dead) ++ [Blk.row n cells2 .act])[a]? = true → ownB H[a]? = true ∧ a ≠ b := by
    intro a ha ho
    rw [List.getElem?_append_left (by simpa using ha)] at ho
    by_cases hab : b = a
    · subst hab; rw [List.getElem?_set_self hbl] at ho; cases ho
    · rw [List.getElem?_set_ne hab] at ho; exact ⟨ho, Ne.symm hab⟩
  have hother : ∀ a x, ι a = some x → ownB H[a]? = true → a ≠ b → x.blk ≠ lc.blk := fun a x ha ho hne => h.excl a b ho (by rw [hb]; rfl) hne x lc ha hx
  have hlen : (H.set b (Blk.row n cells .dead)).length = H.length := by simp
  have hget : ∀ (a : Nat) (B : Blk), (H.set b (Blk.row n cells .dead) ++ [Blk.row n cells2 .act])[a]? = some B → (a = H.length ∧ B = .row n cells2 .act) ∨ (a < H.length ∧ a = b ∧ B = .row n cells .dead) ∨ (a < H.length ∧ a ≠ b ∧ H[a]? = some B) := by
    intro a B hB
    by_cases ha : a < H.length
    · rw [List.getElem?_append_left (by omega)] at hB
      by_cases hab : b = a
      · subst hab; rw [List.getElem?_set_self hbl] at hB; cases hB; exact .inr (.inl ⟨ha, rfl, rfl⟩)
      · rw [List.getElem?_set_ne hab] at hB; exact .inr (.inr ⟨ha, Ne.symm hab, hB⟩)
    · have : a = H.length := by have := (List.getElem?_eq_some_iff.1 hB).1; simp at this; omega
      subst this
      rw [List.getElem?_append_right (by omega)] at hB
      simp at hB
      exact .inl ⟨rfl, hB.symm⟩
  refine ⟨⟨?_, ?_, ?_, ?_, ?_, ?_⟩, ⟨hle, ?_, ?_, ?_, by rw [r4]; exact Nat.le_refl _, r5, r6, r7, by simp, fun a ha ho => (hown a ha ho).1⟩⟩
  · intro a x ha
    simp
    by_cases hal : a = H.length
    · omega
    · rw [Emb.add_ne hal] at ha; have := h.dom a x ha; omega
  · intro a n' cells' st ha hst l hl
    rcases hget a _ ha with ⟨rfl, he⟩ | ⟨_, _, he⟩ | ⟨hal, hab, hH⟩
    · injection he with e1 e2 e3
      subst e1 e2 e3
      rw [Emb.add_same] at hl
      cases hl
      refine ⟨_, e, fz, r2, by simp, fun _ => ⟨hwb, hn1, hz2, hf⟩, fun i v hi => ?_⟩
      obtain ⟨v', hv', hr⟩ := hc2 i v hi
      exact ⟨v', hv', hr.mono hle⟩
    · injection he with _ _ e3
      exact absurd e3 hst
    · rw [Emb.add_ne (by omega)] at hl
      obtain ⟨cs', e', fz', hw', q1, q2, q3⟩ := h.row a n' cells' st hH hst l hl
      have hne : l.blk ≠ lc.blk := by
        cases st with
        | dead => exact absurd rfl hst
        | ro => have := q1 rfl; omega
        | act => exact hother a l hl (by rw [hH]; rfl) hab
      refine ⟨cs', e', fz', by rw [r3 l.blk hne]; exact hw', q1, q2, fun i v hi => ?_⟩
      obtain ⟨v', hv', hr⟩ := q3 i v hi
      exact ⟨v', hv', hr.mono hle⟩
  · intro a es clock ha l hl
    rcases hget a _ ha with ⟨_, he⟩ | ⟨_, _, he⟩ | ⟨hal, hab, hH⟩
    · cases he
    · cases he
    · rw [Emb.add_ne (by omega)] at hl
      obtain ⟨q1, qz, es', hw', q3⟩ := h.map a es clock hH l hl
      have hne : l.blk ≠ lc.blk := hother a l hl (by rw [hH]; rfl) hab
      exact ⟨q1, qz, es', by rw [r3 l.blk hne]; exact hw', q3.mono fun x e he => ⟨he.1, he.2.1, he.2.2.1.mono hle, he.2.2.2⟩⟩
  · intro a c ha hc hne x y hax hcy
    by_cases hal : a = H.length
    · subst hal
      rw [Emb.add_same] at hax
      cases hax
      have hcl : c ≠ H.length := fun e => hne e.symm
      rw [Emb.add_ne hcl] at hcy
      have hco := hown c (h.dom c y hcy) hc
      exact (hother c y hcy hco.1 hco.2).symm
    · rw [Emb.add_ne hal] at hax
      have hao := hown a (h.dom a x hax) ha
      by_cases hcl : c = H.length
      · subst hcl
        rw [Emb.add_same] at hcy
        cases hcy
        exact hother a x hax hao.1 hao.2
      · rw [Emb.add_ne hcl] at hcy
        exact h.excl a c hao.1 (hown c (h.dom c y hcy) hc).1 hne x y hax hcy
  · rw [r4]; exact h.size
  · intro a n' cells' st ha hst l hl
    rcases hget a _ ha with ⟨rfl, he⟩ | ⟨hal, hab, he⟩ | ⟨hal, hab, hH⟩
    · injection he with e1 _ _
      rw [Emb.add_same] at hl
      cases hl
      exact ⟨by rw [e1]; exact hn1, (h.loc b n cells .act hb (by simp) lc hx).2⟩
    · injection he with e1 _ _
      rw [Emb.add_ne (by omega)] at hl
      subst hab e1
      exact h.loc a n' cells .act hb (by simp) l hl
    · rw [Emb.add_ne (by omega)] at hl
      exact h.loc a n' cells' st hH hst l hl
  · intro a ha; exact Emb.add_ne (by omega)
  · intro a x ha hal
    by_cases hal2 : a = H.length
    · subst hal2
      rw [Emb.add_same] at ha
      cases ha
      exact .inr ⟨b, lc, by rw [hb]; rfl, hx, rfl⟩
    · rw [Emb.add_ne hal2] at ha
      exact absurd (h.dom a x ha) (by omega)
  · intro c hc hn
    refine r3 c fun hcb => ?_
    exact hn b lc (by rw [hb]; rfl) hx hcb.symm


/-- 'copy', out of what is read and what is written -/
theorem run_copyN {P : Program} {t e : TypeId} {n : Nat} (ht : P.underlying t = some (.slice e)) (hn : sizeT P e = some n) {W W' : World} {dst src : Addr} {dl dc sl sc k : Nat} {ty : TypeId} (hk : Nat.min sl dl = k) {new' : List Value}
    (hl : (loadCells src (k * n)).run P W = .ok new'.toArray W) (hst : (storeCells dst new').run P W = .ok () W') : (Builtin.copy_ #[t, t] ty #[.slice (some dst) dl dc, .slice (some src) sl sc]).run P W = .ok (goInt k) W' := by
  simp [Builtin.copy_, run_underlying' ht, run_sizeOf' hn, Builtin.lenOf, Builtin.firstCells, hk, hl, hst, goInt]

def gInsMid (nn wd : Nat) (x : Value) (i : Nat) (y : Value) (s : St) : Option (Value × St) :=
  match x, y with
  | .slice (some ⟨b, 0, none⟩) len cap, .slice (some ⟨b2, o2, none⟩) m c2 =>
    match s.heap[b]?, s.heap[b2]? with
    | some (.row n1 row .act), some (.row n2 row2 .act) =>
      if n1 = nn ∧ n2 = nn ∧ b ≠ b2 ∧ i < len ∧ len ≤ cap ∧ len * nn ≤ row.length ∧ 0 < m ∧ o2 + m * nn ≤ row2.length ∧ m ≤ c2 ∧ roomA (len + m) wd then
        some (.slice (some ⟨s.heap.length, 0, none⟩) (len + m) (len + m), (s.putB b (.row nn row .dead)).push (.row nn (row.take (i * nn) ++ (row2.drop o2).take (m * nn) ++ (row.take (len * nn)).drop (i * nn)) .act))
      else none
    | _, _ => none
  | _, _ => none

/-- what the walks show -/
structure InsWalk (P : Program) (f : FuncId) (t e tI ov : TypeId) (nn wd : Nat) : Prop where
  ht : P.underlying t = some (.slice e)
  hI : P.underlying tI = some (.int .i64)
  hn : sizeT P e = some nn
  hw : bytesT P e = some wd
  hz : ∃ z, zeroT P e = some z ∧ (cellsV z).length = nn
  hn2 : 2 ≤ nn
  hw0 : 0 < wd
  hov : ∀ (w : World) (a b : Addr) (la ca lb cb : Nat), a.block ≠ b.block → ∀ tA tB kA kB, w.shape? a.block = some (tA, kA) → w.shape? b.block = some (tB, kB) → kB ≠ 0 → w.frozen? a = false → w.frozen? { block := a.block, off := kA } = false →
    (callFunc ov #[.slice (some a) la ca, .slice (some b) lb cb]).run P w = .ok (.value (.bool false)) w
  walkD : ∀ (b off n c i vb voff m vc : Nat) (w : World), i < n → 0 < m → n + m ≤ c → n + m ≤ 9223372036854775807 →
    (∀ lb cb, (callFunc ov #[.slice (some ⟨vb, voff, none⟩) m vc, .slice (some ⟨b, off + (i + m) * nn, none⟩) lb cb]).run P w = .ok (.value (.bool false)) w) →
    ∀ (W1 : World) (r1 : Value), (∀ ty dc sc, (Builtin.copy_ #[t, t] ty #[.slice (some ⟨b, off + (i + m) * nn, none⟩) (n + m - (i + m)) dc, .slice (some ⟨b, off + i * nn, none⟩) (n + m - i) sc]).run P w.drew = .ok r1 W1) →
    ∀ (W2 : World) (r2 : Value), (∀ ty dc, (Builtin.copy_ #[t, t] ty #[.slice (some ⟨b, off + i * nn, none⟩) (n + m - i) dc, .slice (some ⟨vb, voff, none⟩) m vc]).run P W1 = .ok r2 W2) →
    Calls P f #[.slice (some ⟨b, off, none⟩) n c, .int .i64 i, .slice (some ⟨vb, voff, none⟩) m vc] w fun e w' => e = .returned (.slice (some ⟨b, off, none⟩) (n + m) c) ∧ w' = W2
  walkE : ∀ (b off n c i vb voff m vc : Nat) (w : World), i < n → 0 < m → n ≤ c → c < n + m → n + m ≤ 9223372036854775807 →
    ∀ (W0 : World) (N cap : Nat), n + m ≤ cap → (∀ ty, (Builtin.append_ #[t, tI] ty #[.slice (some ⟨b, off, none⟩) i c, .int .i64 ((n : Int) + (m : Int) - (i : Int))]).run P w = .ok (.slice (some ⟨N, 0, none⟩) (n + m) cap) W0) →
    ∀ (W1 : World) (r1 : Value), (∀ ty dc, (Builtin.copy_ #[t, t] ty #[.slice (some ⟨N, i * nn, none⟩) (n + m - i) dc, .slice (some ⟨vb, voff, none⟩) m vc]).run P W0 = .ok r1 W1) →
    ∀ (W2 : World) (r2 : Value), (∀ ty dc sc, (Builtin.copy_ #[t, t] ty #[.slice (some ⟨N, (i + m) * nn, none⟩) (n + m - (i + m)) dc, .slice (some ⟨b, off + i * nn, none⟩) (n - i) sc]).run P W1.drew = .ok r2 W2) →
    Calls P f #[.slice (some ⟨b, off, none⟩) n c, .int .i64 i, .slice (some ⟨vb, voff, none⟩) m vc] w fun e w' => e = .returned (.slice (some ⟨N, 0, none⟩) (n + m) cap) ∧ w' = W2

theorem fz_no {nn : Nat} {fz : Nat × Nat} {n : Nat} (h : fzOk nn fz n) (h2 : 2 ≤ nn) : fz.1 = fz.2 := by
  rcases h with h | ⟨h, _⟩
  · exact h
  · omega
theorem not_frozen {w : World} {b : Nat} {cs : Array Value} {e : TypeId} {fz : Nat × Nat} (h : w.heap[b]? = some (.cells cs e fz)) (hf : fz.1 = fz.2) (off : Nat) : w.frozen? { block := b, off := off } = false := by
  obtain ⟨lo, hi⟩ := fz
  simp only at hf
  subst hf
  simp [World.frozen?, h]

/-- cells, side by side -/
theorem mid_rel {ι : Emb} {row row2 : List Value} {cs cs2 csF : Array Value} {o o2 p i n m nn : Nat} (hrow : ∀ (j : Nat) (v : Value), row[j]? = some v → ∃ v', cs[o + j]? = some v' ∧ L2 ι v v') (hrow2 : ∀ (j : Nat) (v : Value), row2[j]? = some v → ∃ v', cs2[p + j]? = some v' ∧ L2 ι v v')
    (hi : i < n) (hl : n * nn ≤ row.length) (hl2 : o2 + m * nn ≤ row2.length) {q : Nat}
    (h1 : ∀ j, j < i * nn → csF[q + j]? = cs[o + j]?) (h2 : ∀ j, j < m * nn → csF[q + i * nn + j]? = cs2[p + o2 + j]?) (h3 : ∀ j, j < (n - i) * nn → csF[q + (i + m) * nn + j]? = cs[o + i * nn + j]?) :
    ∀ (j : Nat) (v : Value), (row.take (i * nn) ++ (row2.drop o2).take (m * nn) ++ (row.take (n * nn)).drop (i * nn))[j]? = some v → ∃ v', csF[q + j]? = some v' ∧ L2 ι v v' := by
  intro j v hj
  have e1 : i * nn ≤ n * nn := Nat.mul_le_mul_right _ (by omega)
  have e2 : (i + m) * nn = i * nn + m * nn := Nat.add_mul _ _ _
  have e3 : (n - i) * nn = n * nn - i * nn := Nat.sub_mul _ _ _
  have l1 : (row.take (i * nn)).length = i * nn := by simp; omega
  have l2 : ((row2.drop o2).take (m * nn)).length = m * nn := by simp; omega
  by_cases c1 : j < i * nn
  · rw [List.append_assoc, List.getElem?_append_left (by omega), List.getElem?_take_of_lt c1] at hj
    obtain ⟨v', g1, g2⟩ := hrow j v hj
    exact ⟨v', by rw [h1 j c1]; exact g1, g2⟩
  · by_cases c2 : j < i * nn + m * nn
    · rw [List.getElem?_append_left (by rw [List.length_append]; omega), List.getElem?_append_right (by omega), l1, List.getElem?_take_of_lt (by omega), List.getElem?_drop] at hj
      obtain ⟨v', g1, g2⟩ := hrow2 _ v hj
      refine ⟨v', ?_, g2⟩
      have := h2 (j - i * nn) (by omega)
      rw [show q + i * nn + (j - i * nn) = q + j by omega, show p + o2 + (j - i * nn) = p + (o2 + (j - i * nn)) by omega] at this
      rw [this]; exact g1
    · rw [List.getElem?_append_right (by rw [List.length_append]; omega), List.length_append, l1, l2, List.getElem?_drop] at hj
      have hlt : i * nn + (j - (i * nn + m * nn)) < n * nn := by
        have := (List.getElem?_eq_some_iff.1 hj).1
        simp at this
        omega
      rw [List.getElem?_take_of_lt hlt] at hj
      obtain ⟨v', g1, g2⟩ := hrow _ v hj
      refine ⟨v', ?_, g2⟩
      have := h3 (j - (i * nn + m * nn)) (by omega)
      rw [e2, show q + (i * nn + m * nn) + (j - (i * nn + m * nn)) = q + j by omega, show o + i * nn + (j - (i * nn + m * nn)) = o + (i * nn + (j - (i * nn + m * nn))) by omega] at this
      rw [this]; exact g1

theorem zero_size {P : Program} {e : TypeId} {ti : TypeInfo} {z : Value} {n : Nat} (hti : P.info? e = some ti) (htz : ti.zero = some z) (hz : zeroT P e = some z) (hzn : (cellsV z).length = n) : z.cells.size = n := by
  rw [← hzn, ← cellsV_cells]; simp
theorem ins_sound {P : Program} {f : FuncId} {t e tI ov : TypeId} {nn wd : Nat} (W : InsWalk P f t e tI ov nn wd) {x y v : Value} {i : Nat} {s s' : St} (hg : gInsMid nn wd x i y s = some (v, s')) {wb : Nat} {ι : Emb} {w : World} {args' : Array Value} (hs : Sim wb ι s.heap w) (ha : All2 (VRel ι) [x, .int .i64 (i : Int), y] args'.toList) :
    Calls P f args' w fun e w' => ∃ v', e = .returned v' ∧ After wb ι s.heap w s'.heap v v' w' := by
  unfold gInsMid at hg
  split at hg
  case h_2 => cases hg
  rename_i b len cap b2 o2 m c2
  split at hg
  case h_2 => cases hg
  rename_i n1 row n2 row2 hb hb2
  split at hg
  case isFalse => cases hg
  rename_i hc
  obtain ⟨rfl, rfl, hne, hi, hlc, hrl, hm, hr2, hmc, hroom⟩ := hc
  cases hg
  have hn2 := W.hn2
  have hnn : 0 < n2 := by omega
  -- the arguments
  obtain ⟨l⟩ := args'
  match l, ha with
  | [x', z', y'], ha =>
  obtain ⟨hx, hz, hy, _⟩ := ha
  obtain rfl := hz.inv_int
  rcases hx.inv_slice with ⟨lc, c', _, hlb, _, hcc, hz0, rfl⟩ | ⟨hh, _⟩
  case inr => omega
  rcases hy.inv_slice with ⟨l2, d', _, hlb2, _, hdd, _, rfl⟩ | ⟨hh, _⟩
  case inr => omega
  simp only at hlb hlb2 hz0
  obtain ⟨cs, ee, fz, hwh, _, hact, hrow⟩ := hs.row b n2 row .act hb (by simp) lc hlb
  obtain ⟨hwb, hln, hlz, hfz⟩ := hact rfl
  obtain ⟨cs2, ee2, fz2, hwh2, _, hact2, hrow2⟩ := hs.row b2 n2 row2 .act hb2 (by simp) l2 hlb2
  obtain ⟨hwb2, hln2, hlz2, hfz2⟩ := hact2 rfl
  have hblk : l2.blk ≠ lc.blk := hs.excl b2 b (by rw [hb2]; rfl) (by rw [hb]; rfl) (Ne.symm hne) l2 lc hlb2 hlb
  have hz1 := hz0 trivial
  rw [hln, hlz] at hz1
  have m1 : (len + m) * n2 = len * n2 + m * n2 := Nat.add_mul _ _ _
  have m2 : (i + m) * n2 = i * n2 + m * n2 := Nat.add_mul _ _ _
  have m3 : i * n2 + n2 ≤ len * n2 := by rw [← Nat.succ_mul]; exact Nat.mul_le_mul_right _ hi
  have m4 : (len - i) * n2 = len * n2 - i * n2 := Nat.sub_mul _ _ _
  have m5 : len * n2 ≤ c' * n2 := Nat.mul_le_mul_right _ (by omega)
  have hrow2sz : l2.off + row2.length ≤ cs2.size := by
    rcases Nat.eq_zero_or_pos row2.length with h0 | h0
    · have : 0 < m * n2 := Nat.mul_pos hm hnn
      omega
    · obtain ⟨v', g1, _⟩ := hrow2 (row2.length - 1) _ (List.getElem?_eq_getElem (by omega))
      have := (Array.getElem?_eq_some_iff.1 g1).1
      omega
  -- what is read of the second slice, in any world that has its block
  have hsrc2 : ∀ W' : World, W'.heap[l2.blk]? = w.heap[l2.blk]? → (loadCells ⟨l2.blk, l2.off + o2, none⟩ (m * n2)).run P W' = .ok ((cs2.toList.drop (l2.off + o2)).take (m * n2)).toArray W' := fun W' h' =>
    run_loadCells_of (h'.trans hwh2) (.inr (by omega))
  have hlen2 : ((cs2.toList.drop (l2.off + o2)).take (m * n2)).length = m * n2 := by simp; omega
  have hleaf2 : ((cs2.toList.drop (l2.off + o2)).take (m * n2)).all isLeaf = true := by
    rw [List.all_eq_true]
    intro v' hv'
    obtain ⟨j, hj, hjv⟩ := List.getElem_of_mem hv'
    have hj2 : j < m * n2 := by omega
    have hjr : o2 + j < row2.length := by omega
    obtain ⟨u, g1, g2⟩ := hrow2 (o2 + j) _ (List.getElem?_eq_getElem hjr)
    have : v' = u := by
      have e1 : ((cs2.toList.drop (l2.off + o2)).take (m * n2))[j]? = some v' := by rw [List.getElem?_eq_getElem hj, hjv]
      rw [List.getElem?_take_of_lt hj2, List.getElem?_drop, show l2.off + o2 + j = l2.off + (o2 + j) by omega] at e1
      rw [← Array.getElem?_toList, e1] at g1
      exact Option.some.inj g1
    subst this
    have := All2.leaf (ι := ι) (l := [row2[o2 + j]]) (m := [v']) ⟨g2, trivial⟩
    simpa using this
  have hleaf1 : ((cs.toList.drop (lc.off + 0 + i * n2)).take ((len - i) * n2)).all isLeaf = true := by
    rw [List.all_eq_true]
    intro v' hv'
    obtain ⟨j, hj, hjv⟩ := List.getElem_of_mem hv'
    have hj2 : j < (len - i) * n2 := by simp at hj; omega
    have hjr : i * n2 + j < row.length := by omega
    obtain ⟨u, g1, g2⟩ := hrow (i * n2 + j) _ (List.getElem?_eq_getElem hjr)
    have : v' = u := by
      have e1 : ((cs.toList.drop (lc.off + 0 + i * n2)).take ((len - i) * n2))[j]? = some v' := by rw [List.getElem?_eq_getElem hj, hjv]
      rw [List.getElem?_take_of_lt hj2, List.getElem?_drop, show lc.off + 0 + i * n2 + j = lc.off + (i * n2 + j) by omega] at e1
      rw [← Array.getElem?_toList, e1] at g1
      exact Option.some.inj g1
    subst this
    have := All2.leaf (ι := ι) (l := [row[i * n2 + j]]) (m := [v']) ⟨g2, trivial⟩
    simpa using this
  have hlen1 : ((cs.toList.drop (lc.off + 0 + i * n2)).take ((len - i) * n2)).length = (len - i) * n2 := by simp; omega
  have hroom48 : (len + m) * wd ≤ 281474976710656 := by
    rcases hroom with h | h
    · omega
    · exact Nat.le_trans (Nat.mul_le_mul_right _ (by omega)) h
  have hbnd : len + m ≤ 281474976710656 := by
    have : (len + m) * 1 ≤ (len + m) * wd := Nat.mul_le_mul_left _ W.hw0
    omega
  by_cases hin : len + m ≤ c'
  · -- in its place
    have m6 : (len + m) * n2 ≤ c' * n2 := Nat.mul_le_mul_right _ hin
    have hfz' := fz_no hfz hn2
    have hnof : ∀ j, j < cs.size → ¬(fz.1 ≤ j ∧ j < fz.2) := fun j _ => by omega
    have hwd : w.drew.heap = w.heap := rfl
    obtain ⟨W1, s1, s2, s3, s4, s5, s6, s7, s8⟩ := run_storeCells (P := P) (b := lc.blk) (off := lc.off + 0 + (i + m) * n2) ((cs.toList.drop (lc.off + 0 + i * n2)).take ((len - i) * n2)) 0 w.drew cs (by rw [hwd]; exact hwh) hnof (by rw [hlen1]; omega) hleaf1
    obtain ⟨W2, t1, t2, t3, t4, t5, t6, t7, t8⟩ := run_storeCells (P := P) (b := lc.blk) (off := lc.off + 0 + i * n2) ((cs2.toList.drop (l2.off + o2)).take (m * n2)) 0 W1 _ s2 (by rw [updA_size]; exact hnof) (by rw [hlen2, updA_size]; omega) hleaf2
    have k1 : Nat.min (len + m - i) (len + m - (i + m)) = len - i := by
      have : Nat.min (len + m - i) (len + m - (i + m)) = min (len + m - i) (len + m - (i + m)) := rfl
      omega
    have k2 : Nat.min m (len + m - i) = m := by
      have : Nat.min m (len + m - i) = min m (len + m - i) := rfl
      omega
    have hcp1 := fun ty dc sc => run_copyN (P := P) W.ht W.hn (W := w.drew) (W' := W1) (dst := ⟨lc.blk, lc.off + 0 + (i + m) * n2, none⟩) (src := ⟨lc.blk, lc.off + 0 + i * n2, none⟩) (dc := dc) (sc := sc) (ty := ty) k1 (run_loadCells_of (by rw [hwd]; exact hwh) (.inr (by omega))) s1
    have hcp2 := fun ty dc => run_copyN (P := P) W.ht W.hn (W := W1) (W' := W2) (dst := ⟨lc.blk, lc.off + 0 + i * n2, none⟩) (src := ⟨l2.blk, l2.off + o2, none⟩) (dc := dc) (sc := d') (ty := ty) k2 (hsrc2 W1 (by rw [s3 _ hblk, hwd])) t1
    have hsh2 : w.shape? l2.blk = some (ee2, cs2.size) := by simp [World.shape?, hwh2]
    have hsh1 : w.shape? lc.blk = some (ee, cs.size) := by simp [World.shape?, hwh]
    have hov := fun lb cb => W.hov w ⟨l2.blk, l2.off + o2, none⟩ ⟨lc.blk, lc.off + 0 + (i + m) * n2, none⟩ m d' lb cb hblk ee2 ee cs2.size cs.size hsh2 hsh1 (by omega) (not_frozen hwh2 (fz_no hfz2 hn2) _) (not_frozen hwh2 (fz_no hfz2 hn2) _)
    refine (W.walkD lc.blk (lc.off + 0) len c' i l2.blk (l2.off + o2) m d' w hi hm hin (by omega) hov W1 _ hcp1 W2 _ hcp2).mono ?_
    rintro e1 w' ⟨rfl, rfl⟩
    refine ⟨_, rfl, ?_⟩
    have hren := hs.renew (w' := w') hb hlb t2 (by rw [updA_size, updA_size]; exact hlz) (by rw [updA_size, updA_size]; exact hfz) (fun c hc => by rw [t3 c hc, s3 c hc, hwd]) (by rw [t4, s4]; rfl) (by rw [t5, s5]; rfl) (by rw [t6, s6]; rfl) (by rw [t7, s7]; rfl)
      (cells2 := row.take (i * n2) ++ (row2.drop o2).take (m * n2) ++ (row.take (len * n2)).drop (i * n2))
      (mid_rel (o := lc.off) (p := l2.off) (q := lc.off) hrow hrow2 hi hrl hr2 (fun j hj => by
        rw [updA_lt _ _ _ _ (by omega), updA_lt _ _ _ _ (by omega)]) (fun j hj => by
        have := updA_in ((cs2.toList.drop (l2.off + o2)).take (m * n2)) (updA cs (lc.off + 0 + (i + m) * n2 + 0) ((cs.toList.drop (lc.off + 0 + i * n2)).take ((len - i) * n2))) (lc.off + 0 + i * n2 + 0) j (by omega) (by rw [updA_size]; omega)
        rw [show lc.off + i * n2 + j = lc.off + 0 + i * n2 + 0 + j by omega, this, List.getElem?_take_of_lt hj, List.getElem?_drop, Array.getElem?_toList]) (fun j hj => by
        have := updA_in ((cs.toList.drop (lc.off + 0 + i * n2)).take ((len - i) * n2)) cs (lc.off + 0 + (i + m) * n2 + 0) j (by omega) (by omega)
        rw [updA_ge _ _ _ _ (by omega), show lc.off + (i + m) * n2 + j = lc.off + 0 + (i + m) * n2 + 0 + j by omega, this, List.getElem?_take_of_lt hj, List.getElem?_drop, Array.getElem?_toList]
        congr 1))
    refine ⟨_, hren.1, hren.2, .va (.l2 (.l1 (.l0 (.slice 0 (Emb.add_same _ _ _) (Nat.le_refl _) hin (fun _ => by rw [hln, hlz]; exact hz1)))))⟩
  · -- a new row
    obtain ⟨z, hz, hzn⟩ := W.hz
    obtain ⟨ti, hti, htz, hzc⟩ := zeroT_info hz
    have hts : ti.size = n2 := by have h := W.hn; simp [sizeT, hti] at h; exact h
    have htb : ti.bytes = wd := by have h := W.hw; simp [bytesT, hti] at h; exact h
    have hwd : w.drew.heap = w.heap := rfl
    have hold : (Builtin.firstCells ti.size i (.slice (some ⟨lc.blk, lc.off + 0, none⟩) i c')).run P w.drew = .ok ((cs.toList.drop (lc.off + 0)).take (i * n2)).toArray w.drew := by
      rw [hts]
      exact run_loadCells_of (by rw [hwd]; exact hwh) (.inr (by omega))
    have hsum : i + (len + m - i) = len + m := by omega
    have hkk : ((len : Int) + (m : Int) - (i : Int)) = ((len + m - i : Nat) : Int) := by omega
    have hkw : (len + m - i) * ti.bytes ≤ (len + m) * wd := by rw [htb]; exact Nat.mul_le_mul_right _ (by omega)
    have hrun := fun ty => Lib.run_append_grow_zeros (P := P) w t tI ty e ti z .i64 .i64 W.ht W.hI hti htz (some ⟨lc.blk, lc.off + 0, none⟩) i c' ((cs.toList.drop (lc.off + 0)).take (i * n2)) hold (len + m - i) (by omega) (by omega) (by omega) (by omega) (by omega) (by
      rw [htb, hsum]
      rcases hroom with h | h
      · exact growslice_fits (bytes := wd) (by omega) h
      · exact growslice_fits_wide (bytes := wd) (by omega) h)
    rw [hsum] at hrun
    have hG : len + m ≤ grownCap w (len + m) c' e := by simp [grownCap, Question.cut]
    generalize grownCap w (len + m) c' e = G at hrun hG
    have hzs : z.cells.size = n2 := zero_size hti htz hz hzn
    generalize hROW : ((cs.toList.drop (lc.off + 0)).take (i * n2)).toArray ++ Builtin.zeroCells z.cells (len + m - i) ++ Builtin.zeroCells z.cells (G - (len + m)) = ROW at hrun
    have hoz : ((cs.toList.drop (lc.off + 0)).take (i * n2)).length = i * n2 := by simp; omega
    have m7 : (len + m - i) * n2 = (len + m) * n2 - i * n2 := Nat.sub_mul _ _ _
    have m8 : (G - (len + m)) * n2 = G * n2 - (len + m) * n2 := Nat.sub_mul _ _ _
    have m9 : (len + m) * n2 ≤ G * n2 := Nat.mul_le_mul_right _ hG
    have hRs : ROW.size = G * n2 := by
      rw [← hROW]
      simp only [Array.size_append, Builtin.zeroCells, Array.size_map, Array.size_range, hzs, List.size_toArray, hoz]
      omega
    have hRo : ∀ j, j < i * n2 → ROW[j]? = cs[lc.off + j]? := fun j hj => by
      rw [← hROW, Array.append_assoc, Array.getElem?_append_left (by simp only [List.size_toArray, hoz]; exact hj)]
      rw [List.getElem?_toArray, List.getElem?_take_of_lt hj, List.getElem?_drop, Array.getElem?_toList]
      congr 1
    have hW0 : (w.drew.alloc (.cells ROW e)).heap[w.heap.size]? = some (.cells ROW e (0, 0)) := by
      show (w.heap.push _)[w.heap.size]? = _
      rw [Array.getElem?_push, if_pos rfl]
    have hW0o : ∀ c, c ≠ w.heap.size → (w.drew.alloc (.cells ROW e)).heap[c]? = w.heap[c]? := fun c hc => by
      show (w.heap.push _)[c]? = _
      rw [Array.getElem?_push, if_neg hc]
    have hb1 : lc.blk ≠ w.heap.size := by have := (Array.getElem?_eq_some_iff.1 hwh).1; omega
    have hb2' : l2.blk ≠ w.heap.size := by have := (Array.getElem?_eq_some_iff.1 hwh2).1; omega
    have hW0s : (w.drew.alloc (.cells ROW e)).heap.size = w.heap.size + 1 := by show (w.heap.push _).size = _; simp
    have hW0r : (w.drew.alloc (.cells ROW e)).os = w.os ∧ (w.drew.alloc (.cells ROW e)).tape = w.tape ∧ (w.drew.alloc (.cells ROW e)).output = w.output := ⟨rfl, rfl, rfl⟩
    generalize w.drew.alloc (.cells ROW e) = W0 at hrun hW0 hW0o hW0s hW0r
    obtain ⟨W1, s1, s2, s3, s4, s5, s6, s7, s8⟩ := run_storeCells (P := P) (b := w.heap.size) (off := i * n2) ((cs2.toList.drop (l2.off + o2)).take (m * n2)) 0 W0 ROW hW0 (fun j _ => by simp) (by rw [hlen2]; omega) hleaf2
    obtain ⟨W2, t1, t2, t3, t4, t5, t6, t7, t8⟩ := run_storeCells (P := P) (b := w.heap.size) (off := (i + m) * n2) ((cs.toList.drop (lc.off + 0 + i * n2)).take ((len - i) * n2)) 0 W1.drew _ (by show W1.heap[_]? = _; exact s2) (fun j _ => by simp) (by rw [hlen1, updA_size]; omega) hleaf1
    have k1 : Nat.min (len - i) (len + m - (i + m)) = len - i := by
      have : Nat.min (len - i) (len + m - (i + m)) = min (len - i) (len + m - (i + m)) := rfl
      omega
    have k2 : Nat.min m (len + m - i) = m := by
      have : Nat.min m (len + m - i) = min m (len + m - i) := rfl
      omega
    have hcp1 := fun ty dc => run_copyN (P := P) W.ht W.hn (W := W0) (W' := W1) (dst := ⟨w.heap.size, i * n2, none⟩) (src := ⟨l2.blk, l2.off + o2, none⟩) (dc := dc) (sc := d') (ty := ty) k2 (hsrc2 W0 (hW0o _ hb2')) s1
    have hcp2 := fun ty dc sc => run_copyN (P := P) W.ht W.hn (W := W1.drew) (W' := W2) (dst := ⟨w.heap.size, (i + m) * n2, none⟩) (src := ⟨lc.blk, lc.off + 0 + i * n2, none⟩) (dc := dc) (sc := sc) (ty := ty) k1 (run_loadCells_of (by show W1.heap[_]? = _; rw [s3 _ hb1, hW0o _ hb1]; exact hwh) (.inr (by omega))) t1
    refine (W.walkE lc.blk (lc.off + 0) len c' i l2.blk (l2.off + o2) m d' w hi hm (by omega) (by omega) (by omega) W0 w.heap.size G hG (fun ty => by rw [hkk]; exact hrun ty) W1 _ hcp1 W2 _ hcp2).mono ?_
    rintro e1 w' ⟨rfl, rfl⟩
    refine ⟨_, rfl, ?_⟩
    have hk := hs.kill hb
    generalize hCF : updA (updA ROW (i * n2 + 0) ((cs2.toList.drop (l2.off + o2)).take (m * n2))) ((i + m) * n2 + 0) ((cs.toList.drop (lc.off + 0 + i * n2)).take ((len - i) * n2)) = csF at t2
    have hFs : csF.size = G * n2 := by rw [← hCF, updA_size, updA_size, hRs]
    have hp := hk.1.push (n := n2) (cells := row.take (i * n2) ++ (row2.drop o2).take (m * n2) ++ (row.take (len * n2)).drop (i * n2)) (cs := csF) (e := e) (fz := (0, 0)) (.inl rfl) (fun j v hj => by
      have := mid_rel (o := lc.off) (p := l2.off) (q := 0) (csF := csF) hrow hrow2 hi hrl hr2 (fun j hj => by
        rw [← hCF, Nat.zero_add, updA_lt _ _ _ _ (by omega), updA_lt _ _ _ _ (by omega), hRo j hj]) (fun j hj => by
        have := updA_in ((cs2.toList.drop (l2.off + o2)).take (m * n2)) ROW (i * n2 + 0) j (by omega) (by omega)
        rw [← hCF, updA_lt _ _ _ _ (by omega), show 0 + i * n2 + j = i * n2 + 0 + j by omega, this, List.getElem?_take_of_lt hj, List.getElem?_drop, Array.getElem?_toList]) (fun j hj => by
        have := updA_in ((cs.toList.drop (lc.off + 0 + i * n2)).take ((len - i) * n2)) (updA ROW (i * n2 + 0) ((cs2.toList.drop (l2.off + o2)).take (m * n2))) ((i + m) * n2 + 0) j (by omega) (by rw [updA_size]; omega)
        rw [← hCF, show 0 + (i + m) * n2 + j = (i + m) * n2 + 0 + j by omega, this, List.getElem?_take_of_lt hj, List.getElem?_drop, Array.getElem?_toList]
        congr 1) j v hj
      rwa [Nat.zero_add] at this)
    have hlenS : (s.heap.set b (Blk.row n2 row .dead)).length = s.heap.length := by simp
    rw [hlenS] at hp
    have hheap : w'.heap = (w.alloc (.cells csF e (0, 0))).heap := by
      apply Array.ext_getElem?
      intro c
      show _ = (w.heap.push _)[c]?
      rw [Array.getElem?_push]
      by_cases hcN : c = w.heap.size
      · rw [if_pos hcN, hcN]; exact t2
      · rw [if_neg hcN, t3 c hcN]
        show W1.heap[c]? = _
        rw [s3 c hcN, hW0o c hcN]
    have hst := hk.2.trans hp.2
    refine ⟨_, hp.1.congr hheap, ⟨hst.le, hst.old, hst.img, fun c hc hn => by rw [hheap]; exact hst.keep c hc hn, by rw [hheap]; exact hst.size, ?_, ?_, ?_, hst.len, hst.own⟩, slice_new _ _ _ _ _ _ rfl (Nat.le_refl _) hG (by simp only [hFs]; exact Nat.le_refl _)⟩
    · rw [t5]; show W1.os = _; rw [s5]; exact hW0r.1
    · rw [t6]; show W1.tape = _; rw [s6]; exact hW0r.2.1
    · rw [t7]; show W1.output = _; rw [s7]; exact hW0r.2.2

end Go.Proofs.Ytccindbiodofmaa.Ab

/- slices.Insert of pairs: known by the kit's walks. -/
namespace Go.Proofs.Ytccindbiodofmaa.Ab
open Go Go.RowKit Go.Lib Go.Shelf

/-! ### slices.Insert -/
set_option maxHeartbeats 4000000 in
set_option maxRecDepth 100000 in
theorem InsD (b off n c i vb voff m vc : Nat) (w : World) (hi : i < n) (hm : 0 < m) (hroom : n + m ≤ c) (hc63 : n + m ≤ 9223372036854775807)
    (hov : ∀ lb cb, (callFunc 71 #[.slice (some ⟨vb, voff, none⟩) m vc, .slice (some ⟨b, off + (i + m) * 2, none⟩) lb cb]).run Try.prog w = .ok (.value (.bool false)) w)
    (W1 : World) (r1 : Value) (hcp1 : ∀ ty dc sc, (Builtin.copy_ #[27, 27] ty #[.slice (some ⟨b, off + (i + m) * 2, none⟩) (n + m - (i + m)) dc, .slice (some ⟨b, off + i * 2, none⟩) (n + m - i) sc]).run Try.prog w.drew = .ok r1 W1)
    (W2 : World) (r2 : Value) (hcp2 : ∀ ty dc, (Builtin.copy_ #[27, 27] ty #[.slice (some ⟨b, off + i * 2, none⟩) (n + m - i) dc, .slice (some ⟨vb, voff, none⟩) m vc]).run Try.prog W1 = .ok r2 W2) :
    Calls Try.prog 64 #[.slice (some ⟨b, off, none⟩) n c, .int .i64 i, .slice (some ⟨vb, voff, none⟩) m vc] w fun e w' => e = .returned (.slice (some ⟨b, off, none⟩) (n + m) c) ∧ w' = W2 := by
  have hz1 : ¬ ((m : Int) = 0) := by omega
  have hz2 : ¬ ((i : Int) = (n : Int)) := by omega
  have hsz : (Try.prog.info? 32).map (·.size) = some 2 := by kernel_rfl
  have hw1 : IntKind.i64.wrap ((i : Int) + (m : Int)) = (i : Int) + (m : Int) := by rw [IntKind.wrap_i64]; omega
  have hb1 : (0 : Int) ≤ (i : Int) + (m : Int) := by omega
  have hin : i ≤ n := by omega
  have htn : ((i : Int) + (m : Int)).toNat = i + m := by omega
  have hb2 : ¬ (c = i + m) := by omega
  have hb3 : (i : Int) ≤ (n : Int) + (m : Int) := by omega
  have hb4 : ¬ (c = i) := by omega
  have mixed : Try.prog.follows .mixedOrders = true := by kernel_rfl
  go_enter Try.func64, Try.ntmps64
  go_wp2_with (simp only [hov])
  go_region_law_o (refine step_copy_runI rfl _ _ 27 27 rfl _ _ (by simp [Act.eval, Act.put]) (by simp [Act.eval, Act.put]) (hcp1 _ _ _) ?_)
  go_wp2_with (at_builtin; refine wpList_copy_runI _ rfl _ _ 27 27 rfl _ _ rfl rfl (hcp2 _ _) ?_)
  go_ret
  exact ⟨rfl, rfl⟩
set_option maxHeartbeats 4000000 in
set_option maxRecDepth 100000 in
theorem InsE (b off n c i vb voff m vc : Nat) (w : World) (hi : i < n) (hm : 0 < m) (hnc : n ≤ c) (hroom : c < n + m) (hc63 : n + m ≤ 9223372036854775807)
    (W0 : World) (N cap : Nat) (hcap : n + m ≤ cap) (hap : ∀ ty, (Builtin.append_ #[27, 3] ty #[.slice (some ⟨b, off, none⟩) i c, .int .i64 ((n : Int) + (m : Int) - (i : Int))]).run Try.prog w = .ok (.slice (some ⟨N, 0, none⟩) (n + m) cap) W0)
    (W1 : World) (r1 : Value) (hcp1 : ∀ ty dc, (Builtin.copy_ #[27, 27] ty #[.slice (some ⟨N, i * 2, none⟩) (n + m - i) dc, .slice (some ⟨vb, voff, none⟩) m vc]).run Try.prog W0 = .ok r1 W1)
    (W2 : World) (r2 : Value) (hcp2 : ∀ ty dc sc, (Builtin.copy_ #[27, 27] ty #[.slice (some ⟨N, (i + m) * 2, none⟩) (n + m - (i + m)) dc, .slice (some ⟨b, off + i * 2, none⟩) (n - i) sc]).run Try.prog W1.drew = .ok r2 W2) :
    Calls Try.prog 64 #[.slice (some ⟨b, off, none⟩) n c, .int .i64 i, .slice (some ⟨vb, voff, none⟩) m vc] w fun e w' => e = .returned (.slice (some ⟨N, 0, none⟩) (n + m) cap) ∧ w' = W2 := by
  have hz1 : ¬ ((m : Int) = 0) := by omega
  have hz2 : ¬ ((i : Int) = (n : Int)) := by omega
  have hz3 : (c : Int) < (n : Int) + (m : Int) := by omega
  have hsz : (Try.prog.info? 32).map (·.size) = some 2 := by kernel_rfl
  have hw1 : IntKind.i64.wrap ((i : Int) + (m : Int)) = (i : Int) + (m : Int) := by rw [IntKind.wrap_i64]; omega
  have hb1 : (0 : Int) ≤ (i : Int) + (m : Int) := by omega
  have hin : i ≤ n := by omega
  have hb3 : (i : Int) ≤ (n : Int) := by omega
  have hb5 : ¬ (cap = i + m) := by omega
  have hb6 : ¬ (c = i) := by omega
  have htn : ((i : Int) + (m : Int)).toNat = i + m := by omega
  have mixed : Try.prog.follows .mixedOrders = true := by kernel_rfl
  go_enter Try.func64, Try.ntmps64
  go_wp2_with (first
    | (at_builtin; refine Lib.wpList_append_run _ rfl _ _ _ _ rfl _ _ rfl rfl _ _ (hap _) ?_)
    | (at_builtin; refine wpList_copy_runI _ rfl _ _ 27 27 rfl _ _ rfl rfl (hcp1 _ _) ?_)
    | (at_builtin; refine wpList_copy_runI _ rfl _ _ 27 27 rfl _ _ rfl rfl (hcp2 _ _ _) ?_))
  go_region_law_o (refine step_copy_runI rfl _ _ 27 27 rfl (.slice (some ⟨N, (i + m) * 2, none⟩) (n + m - (i + m)) (cap - (i + m))) (.slice (some ⟨b, off + i * 2, none⟩) (n - i) (c - i)) (by simp [Act.eval, Act.put, hb5, hb6]) (by simp [Act.eval, Act.put, hb5, hb6]) (hcp2 3 (cap - (i + m)) (c - i)) ?_)
  go_wp2
  go_ret
  exact ⟨rfl, rfl⟩
theorem insWalk : InsWalk Try.prog 64 27 32 3 71 2 32 where
  ht := Try.underlying27
  hI := Try.underlying3
  hn := by kernel_rfl
  hw := by kernel_rfl
  hz := ⟨.agg #[.string ⟨#[]⟩, .string ⟨#[]⟩], by kernel_rfl, rfl⟩
  hn2 := by decide
  hw0 := by decide
  hov w a b la ca lb cb hne tA tB kA kB h1 h2 h3 h4 h5 := by
    have hz : ∀ w, (Go.sizeOf 32).run Try.prog w = .ok 2 w := fun w => run_sizeOf' (by kernel_rfl)
    rw [run_callFunc_extern Try.func71 (by kernel_rfl) (by kernel_rfl) (by kernel_rfl) (e := Extern.SlicesOverlaps.overlaps #[27, 27] #[4]) (by kernel_rfl),
      Lib.run_overlaps_apart w 27 4 32 Try.underlying27 2 hz a b la ca lb cb hne tA tB kA kB h1 h2 h3 h4 h5]
    rfl
  walkD := InsD
  walkE := InsE

def gIns : Sum := fun xs s => match xs with
  | [x, .int .i64 i, y] => if 0 ≤ i then
      (if lenV x = some i.toNat then (if (asliceV 2 x (some (.int .i64 i)) none none).isSome = true ∧ lenV y ≠ none ∧ lenV y ≠ some 0 then (aappend 2 32 x y s).bind fun r => retV [r.1] r.2 else none)
      else gInsMid 2 32 x i.toNat y s) else none
  | _ => none
theorem lenV_slice {x : Value} {n : Nat} {s : St} {u : Value} {lo hi mx : Option Value} (h : lenV x = some n) (hs : asliceV 2 x lo hi mx = some u) (e : TypeId) : alenV (.slice e) x s = some (.int .i64 (n : Int)) := by
  unfold asliceV at hs
  split at hs
  · cases h; rfl
  · cases hs
theorem ins_known {l : List (FuncId × Sum)} (hno : libL l 64 = none) (hl : LibOk Try.prog (libL l)) : ∀ args s v s', gIns args s = some (v, s') → ∀ wb ι w (args' : Array Value), Sim wb ι s.heap w → All2 (VRel ι) args args'.toList → Calls Try.prog 64 args' w fun e w' => ∃ v', e = .returned v' ∧ After wb ι s.heap w s'.heap v v' w' := by
  intro args s v s' h wb ι w args' hs ha
  unfold gIns at h
  split at h
  case h_2 => cases h
  rename_i x i y
  split at h
  case isFalse => cases h
  rename_i hi
  obtain ⟨i, rfl⟩ := Int.eq_ofNat_of_zero_le hi
  simp only [Int.toNat_natCast] at h
  split at h
  · rename_i hlen
    split at h
    case isFalse => cases h
    rename_i hc
    obtain ⟨hc1, hc2, hc3⟩ := hc
    obtain ⟨m, hm⟩ : ∃ m, lenV y = some (m + 1) := by
      cases e : lenV y with
      | none => exact absurd e hc2
      | some q => cases q with
        | zero => exact absurd e hc3
        | succ m => exact ⟨m, rfl⟩
    obtain ⟨u, hu⟩ := Option.isSome_iff_exists.1 hc1
    have hrun : run Try.prog (libL l) hints 64 [x, .int .i64 (i : Int), y] s = some (v, s') := by
      refine slices_Insert_api_Pair_api_Pair_of hno ?_
      unfold slices_Insert_api_Pair_api_Pair
      simp only [Option.bind_eq_some_iff] at h
      obtain ⟨r, hr, hv⟩ := h
      have hy : ∀ e, alenV (.slice e) y s = some (.int .i64 ((m + 1 : Nat) : Int)) := fun e => by
        unfold aappend at hr
        split at hr
        case isFalse => cases hr
        simp only [Option.bind_eq_some_iff] at hr
        obtain ⟨m', _, new, hnew, _⟩ := hr
        unfold elemsOf at hnew
        split at hnew
        · cases hm
        · cases hm; rfl
        · simp at hnew
        · cases hnew
      have e1 : (((m + 1 : Nat) : Int) == 0) = false := by rw [beq_eq_false_iff_ne]; omega
      simp only [hu, hy, lenV_slice hlen hu, e1, beq_self_eq_true, n_bind, n_map, getL_0, getL_1, getL_2, getL_3, getL_4, getL_5, getL_6, getL_7, getL_8, getL_9, getL_10, getL_11, getL_12, condV_t, condV_f, guardV_tt, guardV_ff, guardV_tf, guardV_ft, guardV_u, apick_t, apick_f, exV_exit, exV_ret, lookE_same, joinK_eq, seqA_n, seqA_e, seqA_r, e_add, e_sub, e_mul, e_eql, e_neq, e_lss, e_leq, e_gtr, e_geq, e_conv, e_not, e_neg, and_guard, or_guard, hr]
      exact hv
    exact run_sound progOk hl _ _ _ _ _ hrun slices_Insert_api_Pair_api_Pair_ok _ _ _ _ hs ha
  · exact ins_sound insWalk h hs ha

end Go.Proofs.Ytccindbiodofmaa.Ab

/- Operations, as values; the kinds' forms. -/
namespace Go.Proofs.Ytccindbiodofmaa.Ab
open Go

/-- a || b && c, a && (b || c), as they are worked out -/
theorem or_and {β : Type} {a b c : Bool} {s : St} {K : List Value × St → Value → Option β} :
    ((guardV (.bool a) false (some ([.bool b], s)) (some ([undef], s))).bind fun q => (guardV (getL q.1 0) true (some ([.bool c], q.2)) (some ([undef], q.2))).bind fun q2 => (guardV (.bool a) false ((apick (getL q.1 0) (getL q2.1 0) (.bool false)).bind fun v => some ([v], q2.2)) (some ([undef], q2.2))).bind fun q3 => (apick (.bool a) (.bool true) (getL q3.1 0)).bind (K q3)) = K ([if a = true then undef else .bool (b && c)], s) (.bool (a || (b && c))) := by
  cases a <;> cases b <;> cases c <;> rfl
theorem and_or {β : Type} {a b c : Bool} {s : St} {K : List Value × St → Value → Option β} :
    ((guardV (.bool a) true (some ([.bool b], s)) (some ([undef], s))).bind fun q => (guardV (getL q.1 0) false (some ([.bool c], q.2)) (some ([undef], q.2))).bind fun q2 => (guardV (.bool a) true ((apick (getL q.1 0) (.bool true) (getL q2.1 0)).bind fun v => some ([v], q2.2)) (some ([undef], q2.2))).bind fun q3 => (apick (.bool a) (getL q3.1 0) (.bool false)).bind (K q3)) = K ([if a = true then .bool (b || c) else undef], s) (.bool (a && (b || c))) := by
  cases a <;> cases b <;> cases c <;> rfl
theorem condV_if {b : Bool} {β : Type} {x y : Option β} : condV (.bool b) x y = if b = true then x else y := by cases b <;> rfl
structure OpT where
  kind : Int
  key : BL
  val : BL
  lo : BL
  hi : BL
  most : Int
def oC (o : OpT) : List Value := [.int .i64 o.kind, sv o.key, sv o.val, sv o.lo, sv o.hi, .int .i64 o.most]
def oV (o : OpT) : Value := .agg #[.int .i64 o.kind, sv o.key, sv o.val, sv o.lo, sv o.hi, .int .i64 o.most]
def asOp : Value → Option OpT
  | .agg cs => match cs.toList with
    | [.int .i64 k, .string a, .string b, .string c, .string d, .int .i64 m] => some ⟨k, a.data.toList, b.data.toList, c.data.toList, d.data.toList, m⟩
    | _ => none
  | _ => none
theorem asOp_some {v : Value} {o : OpT} (h : asOp v = some o) : v = oV o := by
  unfold asOp at h
  split at h
  · rename_i cs
    split at h
    · rename_i k a b c d m e
      cases h
      obtain ⟨l⟩ := cs
      simp only at e
      subst e
      unfold oV
      rw [← sv_of, ← sv_of, ← sv_of, ← sv_of]
    · cases h
  · cases h
theorem o_box (o : OpT) : lbox (oV o) = some (oV o) := rfl
theorem o_all (o : OpT) : lload true 6 lptr (oV o) = some (oV o) := rfl
theorem o_0 (o : OpT) : lload false 1 lptr (oV o) = some (.int .i64 o.kind) := rfl
theorem o_1 (o : OpT) : lload false 1 (.pointer (some ⟨0, 1, none⟩)) (oV o) = some (sv o.key) := rfl
theorem o_2 (o : OpT) : lload false 1 (.pointer (some ⟨0, 2, none⟩)) (oV o) = some (sv o.val) := rfl
theorem o_3 (o : OpT) : lload false 1 (.pointer (some ⟨0, 3, none⟩)) (oV o) = some (sv o.lo) := rfl
theorem o_4 (o : OpT) : lload false 1 (.pointer (some ⟨0, 4, none⟩)) (oV o) = some (sv o.hi) := rfl
theorem o_5 (o : OpT) : lload false 1 (.pointer (some ⟨0, 5, none⟩)) (oV o) = some (.int .i64 o.most) := rfl
theorem o_st (o : OpT) : lstore 6 lptr (oV o) (.agg #[(.int .i64 0), (.string ⟨#[]⟩), (.string ⟨#[]⟩), (.string ⟨#[]⟩), (.string ⟨#[]⟩), (.int .i64 0)]) = some (oV o) := rfl
theorem p_0 : afieldAddr 0 lptr = some lptr := rfl
theorem p_1 : afieldAddr 1 lptr = some (.pointer (some ⟨0, 1, none⟩)) := rfl
theorem p_2 : afieldAddr 2 lptr = some (.pointer (some ⟨0, 2, none⟩)) := rfl
theorem p_3 : afieldAddr 3 lptr = some (.pointer (some ⟨0, 3, none⟩)) := rfl
theorem p_5 : afieldAddr 5 lptr = some (.pointer (some ⟨0, 5, none⟩)) := rfl

def G1O (F : OpT → Value) : List Value → Option Value
  | [v] => (asOp v).map F
  | _ => none
theorem sum1O {lib : Lib} {f : FuncId} {F : OpT → Value} (h : ∀ o s, plainV (F o) = true ∧ ∃ t, run Try.prog lib hints f [oV o] s = some (F o, t)) : SumOk Try.prog lib hints f (gP (G1O F)) := sumP fun xs v s hv => by
  unfold G1O at hv
  split at hv
  · simp only [Option.map_eq_some_iff] at hv
    obtain ⟨k, h1, rfl⟩ := hv
    rw [asOp_some h1]
    exact h k s
  · cases hv
def G1I (F : Int → Value) : List Value → Option Value
  | [.int .i64 k] => some (F k)
  | _ => none
theorem sum1I {lib : Lib} {f : FuncId} {F : Int → Value} (h : ∀ k s, plainV (F k) = true ∧ ∃ t, run Try.prog lib hints f [.int .i64 k] s = some (F k, t)) : SumOk Try.prog lib hints f (gP (G1I F)) := sumP fun xs v s hv => by
  unfold G1I at hv
  split at hv
  · cases hv
    exact h _ s
  · cases hv
theorem sum0 {lib : Lib} {f : FuncId} {v : Value} (h : ∀ s, plainV v = true ∧ ∃ t, run Try.prog lib hints f [] s = some (v, t)) : SumOk Try.prog lib hints f (gP (G0 v)) := sumP fun xs u s hv => by
  unfold G0 at hv
  split at hv
  · cases hv
    exact h s
  · cases hv

/-! ### The forms -/
def formC : Int → List Value
  | 1 => [.bool true, .bool false, .bool false, .bool false, .bool false, .func (.func 54) #[] #[]]
  | 2 => [.bool true, .bool true, .bool false, .bool false, .bool true, .func (.func 55) #[] #[]]
  | 3 => [.bool true, .bool false, .bool false, .bool false, .bool true, .func (.func 56) #[] #[]]
  | 4 => [.bool false, .bool false, .bool true, .bool true, .bool false, .func (.func 57) #[] #[]]
  | 5 => [.bool false, .bool false, .bool true, .bool false, .bool true, .func (.func 58) #[] #[]]
  | _ => [.bool false, .bool false, .bool false, .bool false, .bool false, .nilFunc]
def formV (k : Int) : Value := .agg (formC k).toArray
def formsV : Value := .agg (formC 0 ++ formC 1 ++ formC 2 ++ formC 3 ++ formC 4 ++ formC 5).toArray
def okKind (k : Int) : Bool := decide (1 ≤ k) && decide (k ≤ 5)
theorem kinds {k : Int} (h : okKind k = true) : k = 1 ∨ k = 2 ∨ k = 3 ∨ k = 4 ∨ k = 5 := by
  unfold okKind at h
  simp at h
  omega
theorem noKind {k : Int} (h : okKind k = false) : formV k = formV 0 := by
  have : k ≠ 1 ∧ k ≠ 2 ∧ k ≠ 3 ∧ k ≠ 4 ∧ k ≠ 5 := by
    unfold okKind at h
    simp at h
    refine ⟨?_, ?_, ?_, ?_, ?_⟩ <;> (rintro rfl; revert h; decide)
  unfold formV formC
  obtain ⟨h1, h2, h3, h4, h5⟩ := this
  split <;> simp_all
theorem forms_run {R : Caller} (s : St) : op_forms R s = some (formsV, s) := by kernel_rfl
def fmV (k : Int) : Value := .tuple #[formV k, .bool (okKind k)]
theorem formOf_run {R : Caller} (hF : ∀ s, R 44 [] s = some (formsV, s)) (k : Int) (s : St) : op_formOf R (.int .i64 k) s = some (fmV k, s) := by
  unfold op_formOf fmV
  cases h : okKind k
  · rw [noKind h]
    unfold okKind at h
    have h2 : (decide (k < 1) || decide (k > 5)) = true := by
      simp at h ⊢
      omega
    cases h1 : decide (k < 1) <;> rw [h1] at h2
    · have h3 : decide (k > 5) = true := by simpa using h2
      simp only [e_lss, e_gtr, h1, h3, n_bind, n_map, getL_0, getL_1, getL_2, getL_3, getL_4, getL_5, getL_6, getL_7, getL_8, getL_9, getL_10, getL_11, getL_12, condV_t, condV_f, guardV_tt, guardV_ff, guardV_tf, guardV_ft, guardV_u, apick_t, apick_f, exV_exit, exV_ret, lookE_same, joinK_eq, seqA_n, seqA_e, seqA_r, e_add, e_sub, e_mul, e_eql, e_neq, e_lss, e_leq, e_gtr, e_geq, e_conv, e_not, e_neg, and_guard, or_guard, retV]
      rfl
    · simp only [e_lss, e_gtr, h1, n_bind, n_map, getL_0, getL_1, getL_2, getL_3, getL_4, getL_5, getL_6, getL_7, getL_8, getL_9, getL_10, getL_11, getL_12, condV_t, condV_f, guardV_tt, guardV_ff, guardV_tf, guardV_ft, guardV_u, apick_t, apick_f, exV_exit, exV_ret, lookE_same, joinK_eq, seqA_n, seqA_e, seqA_r, e_add, e_sub, e_mul, e_eql, e_neq, e_lss, e_leq, e_gtr, e_geq, e_conv, e_not, e_neg, and_guard, or_guard, retV]
      rfl
  · have h1 : decide (k < 1) = false := by rcases kinds h with rfl | rfl | rfl | rfl | rfl <;> rfl
    have h2 : decide (k > 5) = false := by rcases kinds h with rfl | rfl | rfl | rfl | rfl <;> rfl
    have h3 : aindexAgg true 6 6 formsV (.int .i64 k) = some (formV k) := by rcases kinds h with rfl | rfl | rfl | rfl | rfl <;> rfl
    have h4 : lstore 6 lptr (formV k) (.agg #[(.bool false), (.bool false), (.bool false), (.bool false), (.bool false), .nilFunc]) = some (formV k) := by rcases kinds h with rfl | rfl | rfl | rfl | rfl <;> rfl
    have h5 : lload true 6 lptr (formV k) = some (formV k) := by rcases kinds h with rfl | rfl | rfl | rfl | rfl <;> rfl
    simp only [e_lss, e_gtr, h1, h2, op_forms_call, hF, h3, h4, h5, n_bind, n_map, getL_0, getL_1, getL_2, getL_3, getL_4, getL_5, getL_6, getL_7, getL_8, getL_9, getL_10, getL_11, getL_12, condV_t, condV_f, guardV_tt, guardV_ff, guardV_tf, guardV_ft, guardV_u, apick_t, apick_f, exV_exit, exV_ret, lookE_same, joinK_eq, seqA_n, seqA_e, seqA_r, e_add, e_sub, e_mul, e_eql, e_neq, e_lss, e_leq, e_gtr, e_geq, e_conv, e_not, e_neg, and_guard, or_guard, retV]
    rfl
theorem form_plain (k : Int) : plainV (fmV k) = true := by
  unfold fmV
  cases h : okKind k
  · rw [noKind h]; rfl
  · rcases kinds h with rfl | rfl | rfl | rfl | rfl <;> rfl
theorem x_fm (k : Int) : aextract 0 (fmV k) = some (formV k) ∧ aextract 1 (fmV k) = some (.bool (okKind k)) := ⟨rfl, rfl⟩
def gForms : Sum := gP (G0 formsV)
def gFm : Sum := gP (G1I fmV)
theorem forms_eq {s : St} : gForms [] s = some (formsV, s) := rfl
theorem fm_eq {k : Int} {s : St} : gFm [.int .i64 k] s = some (fmV k, s) := rfl

/-! ### What may be -/
def keyed (k : Int) : Bool := k == 1 || k == 2 || k == 3
def ranged (k : Int) : Bool := k == 4 || k == 5
def wrt (k : Int) : Bool := k == 2 || k == 3 || k == 5
def ckO (o : OpT) : Int :=
  if !okKind o.kind || (keyed o.kind && (o.lo != [] || o.hi != [])) || (ranged o.kind && o.key != []) || (o.kind != 2 && o.val != []) || (o.kind != 4 && o.most != 0) then 40
  else if keyed o.kind && !ckK o.key then 20
  else if !decide (o.val.length ≤ 16) then 2
  else if ranged o.kind && !ckR (o.lo, o.hi) then 21
  else if o.kind == 4 && (decide (o.most < 1) || decide (o.most > 4)) then 1
  else 0
theorem ckO_bad {o : OpT} (h : okKind o.kind = false) : ckO o = 40 := by unfold ckO; rw [h]; rfl
theorem of_run {R : Caller} (o : OpT) (s : St) : op_of R (oV o) s = some (rv (o.lo, o.hi), s) := by
  unfold op_of
  simp only [o_box, o_3, o_4, ab2, n_bind, n_map, getL_0, getL_1, getL_2, getL_3, getL_4, getL_5, getL_6, getL_7, getL_8, getL_9, getL_10, getL_11, getL_12, condV_t, condV_f, guardV_tt, guardV_ff, guardV_tf, guardV_ft, guardV_u, apick_t, apick_f, exV_exit, exV_ret, lookE_same, joinK_eq, seqA_n, seqA_e, seqA_r, e_add, e_sub, e_mul, e_eql, e_neq, e_lss, e_leq, e_gtr, e_geq, e_conv, e_not, e_neg, and_guard, or_guard, retV]
  rfl
theorem len16 {k : BL} : decide (((k.length : Nat) : Int) > 16) = !decide (k.length ≤ 16) := by
  by_cases h : k.length ≤ 16
  · simp [h]; omega
  · simp [h]; omega
theorem f_ld (k : Int) (h : okKind k = true) : lstore 6 lptr (formV k) (.agg #[(.bool false), (.bool false), (.bool false), (.bool false), (.bool false), .nilFunc]) = some (formV k) ∧
    lload false 1 lptr (formV k) = some (.bool (keyed k)) ∧ lload false 1 (.pointer (some ⟨0, 1, none⟩)) (formV k) = some (.bool (k == 2)) ∧ lload false 1 (.pointer (some ⟨0, 2, none⟩)) (formV k) = some (.bool (ranged k)) ∧ lload false 1 (.pointer (some ⟨0, 3, none⟩)) (formV k) = some (.bool (k == 4)) ∧ lload false 1 (.pointer (some ⟨0, 4, none⟩)) (formV k) = some (.bool (wrt k)) := by
  rcases kinds h with rfl | rfl | rfl | rfl | rfl <;> exact ⟨rfl, rfl, rfl, rfl, rfl, rfl⟩
theorem CheckOp_run {R : Caller} (hF : ∀ k s, R 60 [.int .i64 k] s = some (fmV k, s)) (hO : ∀ o s, R 61 [oV o] s = some (rv (o.lo, o.hi), s)) (hR : ∀ r s, R 62 [rv r] s = some (.int .i64 (eR r), s)) (hK : ∀ k s, R 52 [sv k] s = some (.int .i64 (eK k), s)) (o : OpT) (s : St) : op_CheckOp R (oV o) s = some (.int .i64 (ckO o), s) := by
  unfold op_CheckOp
  simp only [o_box, o_0, op_formOf_call, hF, (x_fm _).1, (x_fm _).2, n_bind, n_map, getL_0, getL_1, getL_2, getL_3, getL_4, getL_5, getL_6, getL_7, getL_8, getL_9, getL_10, getL_11, getL_12, condV_t, condV_f, guardV_tt, guardV_ff, guardV_tf, guardV_ft, guardV_u, apick_t, apick_f, exV_exit, exV_ret, lookE_same, joinK_eq, seqA_n, seqA_e, seqA_r, e_add, e_sub, e_mul, e_eql, e_neq, e_lss, e_leq, e_gtr, e_geq, e_conv, e_not, e_neg, and_guard, or_guard]
  cases hk : okKind o.kind
  · rw [noKind hk, ckO_bad hk]
    have h1 : lstore 6 lptr (formV 0) (.agg #[(.bool false), (.bool false), (.bool false), (.bool false), (.bool false), .nilFunc]) = some (formV 0) := rfl
    simp only [h1, Bool.not_false, n_bind, n_map, getL_0, getL_1, getL_2, getL_3, getL_4, getL_5, getL_6, getL_7, getL_8, getL_9, getL_10, getL_11, getL_12, condV_t, condV_f, guardV_tt, guardV_ff, guardV_tf, guardV_ft, guardV_u, apick_t, apick_f, exV_exit, exV_ret, lookE_same, joinK_eq, seqA_n, seqA_e, seqA_r, e_add, e_sub, e_mul, e_eql, e_neq, e_lss, e_leq, e_gtr, e_geq, e_conv, e_not, e_neg, and_guard, or_guard, op_CheckOp.j0, retV]
    rfl
  obtain ⟨f0, f1, f2, f3, f4, f5⟩ := f_ld o.kind hk
  have hrk : ranged o.kind = !keyed o.kind := by rcases kinds hk with h | h | h | h | h <;> rw [h] <;> rfl
  have hne : ∀ a b : BL, (!(a == [] && b == [])) = (a != [] || b != []) := fun a b => by simp [bne, Bool.not_and]
  have rne : ∀ (o1 o2 : Operand) (r : Rg), abin Try.prog .neq 46 o1 o2 (rv r) (.agg #[sv [], sv []]) = some (.bool (r.1 != [] || r.2 != [])) := fun o1 o2 r => by
    rw [z_rv2, rv_neq, hne]
  have hck : ckO o = if (keyed o.kind && (o.lo != [] || o.hi != [])) || (!keyed o.kind && o.key != []) || (o.kind != 2 && o.val != []) || (o.kind != 4 && o.most != 0) then 40
      else if keyed o.kind && !ckK o.key then 20
      else if !decide (o.val.length ≤ 16) then 2
      else if !keyed o.kind && !ckR (o.lo, o.hi) then 21
      else if o.kind == 4 && (decide (o.most < 1) || decide (o.most > 4)) then 1
      else 0 := by
    unfold ckO
    rw [hk, hrk]
    rfl
  rw [hck]
  have hb2 : (o.kind != 2) = !(o.kind == 2) := rfl
  have hb4 : (o.kind != 4) = !(o.kind == 4) := rfl
  rw [hrk] at f3
  rw [hb2, hb4]
  generalize keyed o.kind = kd at *
  generalize (o.kind == 2) = k2 at *
  generalize (o.kind == 4) = k4 at *
  have hj : ∀ b, op_CheckOp.j0 R [lptr, lptr, .bool b, oV o, formV o.kind] s = some (.int .i64 (if b then 40 else if kd && !ckK o.key then 20
      else if !decide (o.val.length ≤ 16) then 2
      else if !kd && !ckR (o.lo, o.hi) then 21
      else if k4 && (decide (o.most < 1) || decide (o.most > 4)) then 1
      else 0), s) := fun b => by
    unfold op_CheckOp.j0
    cases b
    · simp only [p_0, p_1, p_2, p_3, p_5, o_all, o_1, o_2, o_5, f1, f3, f4, e_lenV, len16, span_CheckKey_call, hK, op_of_call, hO, span_Check_call, hR, eK_n, eR_n, n_bind, n_map, getL_0, getL_1, getL_2, getL_3, getL_4, getL_5, getL_6, getL_7, getL_8, getL_9, getL_10, getL_11, getL_12, condV_t, condV_f, guardV_tt, guardV_ff, guardV_tf, guardV_ft, guardV_u, apick_t, apick_f, exV_exit, exV_ret, lookE_same, joinK_eq, seqA_n, seqA_e, seqA_r, e_add, e_sub, e_mul, e_eql, e_neq, e_lss, e_leq, e_gtr, e_geq, e_conv, e_not, e_neg, and_guard, or_guard]
      cases kd <;> cases h1 : ckK o.key <;> cases h2 : decide (o.val.length ≤ 16) <;> cases h3 : ckR (o.lo, o.hi) <;> cases k4 <;> cases h4 : decide (o.most < 1) <;> cases h5 : decide (o.most > 4) <;>
        simp only [h1, h2, h3, h4, h5, f1, f3, f4, o_1, o_2, o_5, o_all, e_lenV, len16, eK_n, eR_n, op_of_call, hO, span_Check_call, hR, Bool.not_true, Bool.not_false, Bool.and_true, Bool.and_false, Bool.true_and, Bool.false_and, Bool.or_true, Bool.or_false, Bool.true_or, Bool.false_or, if_true, if_false, Bool.false_eq_true, n_bind, n_map, getL_0, getL_1, getL_2, getL_3, getL_4, getL_5, getL_6, getL_7, getL_8, getL_9, getL_10, getL_11, getL_12, condV_t, condV_f, guardV_tt, guardV_ff, guardV_tf, guardV_ft, guardV_u, apick_t, apick_f, exV_exit, exV_ret, lookE_same, joinK_eq, seqA_n, seqA_e, seqA_r, e_add, e_sub, e_mul, e_eql, e_neq, e_lss, e_leq, e_gtr, e_geq, e_conv, e_not, e_neg, and_guard, or_guard, retV] <;> rfl
    · simp only [n_bind, n_map, getL_0, getL_1, getL_2, getL_3, getL_4, getL_5, getL_6, getL_7, getL_8, getL_9, getL_10, getL_11, getL_12, condV_t, condV_f, guardV_tt, guardV_ff, guardV_tf, guardV_ft, guardV_u, apick_t, apick_f, exV_exit, exV_ret, lookE_same, joinK_eq, seqA_n, seqA_e, seqA_r, e_add, e_sub, e_mul, e_eql, e_neq, e_lss, e_leq, e_gtr, e_geq, e_conv, e_not, e_neg, and_guard, or_guard, retV]
      rfl
  simp only [nil_sv, f0, f1, f2, f3, f4, o_1, o_2, o_5, o_all, e_sneq, rne, op_of_call, hO, Bool.not_true, hj, n_bind, n_map, getL_0, getL_1, getL_2, getL_3, getL_4, getL_5, getL_6, getL_7, getL_8, getL_9, getL_10, getL_11, getL_12, condV_t, condV_f, guardV_tt, guardV_ff, guardV_tf, guardV_ft, guardV_u, apick_t, apick_f, exV_exit, exV_ret, lookE_same, joinK_eq, seqA_n, seqA_e, seqA_r, e_add, e_sub, e_mul, e_eql, e_neq, e_lss, e_leq, e_gtr, e_geq, e_conv, e_not, e_neg, and_guard, or_guard]
  cases kd <;> cases h1 : (o.key == []) <;> cases k2 <;> cases h2 : (o.val == []) <;> cases h3 : (o.lo != [] || o.hi != []) <;> cases k4 <;> cases h4 : (o.most != 0) <;>
    simp only [h1, h2, h3, h4, f0, f1, f2, f3, f4, o_1, o_2, o_5, o_all, e_sneq, rne, op_of_call, hO, hj, bne, Bool.not_true, Bool.not_false, Bool.and_true, Bool.and_false, Bool.true_and, Bool.false_and, Bool.or_true, Bool.or_false, Bool.true_or, Bool.false_or, if_true, if_false, Bool.false_eq_true, n_bind, n_map, getL_0, getL_1, getL_2, getL_3, getL_4, getL_5, getL_6, getL_7, getL_8, getL_9, getL_10, getL_11, getL_12, condV_t, condV_f, guardV_tt, guardV_ff, guardV_tf, guardV_ft, guardV_u, apick_t, apick_f, exV_exit, exV_ret, lookE_same, joinK_eq, seqA_n, seqA_e, seqA_r, e_add, e_sub, e_mul, e_eql, e_neq, e_lss, e_leq, e_gtr, e_geq, e_conv, e_not, e_neg, and_guard, or_guard]

end Go.Proofs.Ytccindbiodofmaa.Ab

/- Operations: the reference's answers, what they write, what they touch. -/
namespace Go.Proofs.Ytccindbiodofmaa.Ab
open Go

set_option maxHeartbeats 2000000 in
theorem refCheckOp_run {R : Caller} (hR : ∀ r s, R 25 [rv r] s = some (.int .i64 (eR r), s)) (hK : ∀ k s, R 39 [sv k] s = some (.int .i64 (eK k), s)) (o : OpT) (s : St) : ref04_CheckOp R (oV o) s = some (.int .i64 (ckO o), s) := by
  cases hk : okKind o.kind
  · rw [ckO_bad hk]
    have : (o.kind == 1) = false ∧ (o.kind == 2) = false ∧ (o.kind == 3) = false ∧ (o.kind == 4) = false ∧ (o.kind == 5) = false := by
      unfold okKind at hk
      refine ⟨?_, ?_, ?_, ?_, ?_⟩ <;> (rw [beq_eq_false_iff_ne]; intro e; rw [e] at hk; revert hk; decide)
    obtain ⟨k1, k2, k3, k4, k5⟩ := this
    unfold ref04_CheckOp
    simp only [o_box, o_0, k1, k2, k3, k4, k5, Bool.not_false, n_bind, n_map, getL_0, getL_1, getL_2, getL_3, getL_4, getL_5, getL_6, getL_7, getL_8, getL_9, getL_10, getL_11, getL_12, condV_t, condV_f, guardV_tt, guardV_ff, guardV_tf, guardV_ft, guardV_u, apick_t, apick_f, exV_exit, exV_ret, lookE_same, joinK_eq, seqA_n, seqA_e, seqA_r, e_add, e_sub, e_mul, e_eql, e_neq, e_lss, e_leq, e_gtr, e_geq, e_conv, e_not, e_neg, and_guard, or_guard, retV]
    rfl
  · obtain ⟨k, key, val, lo, hi, most⟩ := o
    simp only at hk
    have k11 : ((1 : Int) == 1) = true := rfl
    have k12 : ((1 : Int) == 2) = false := rfl
    have k13 : ((1 : Int) == 3) = false := rfl
    have k14 : ((1 : Int) == 4) = false := rfl
    have k15 : ((1 : Int) == 5) = false := rfl
    have k21 : ((2 : Int) == 1) = false := rfl
    have k22 : ((2 : Int) == 2) = true := rfl
    have k24 : ((2 : Int) == 4) = false := rfl
    have k25 : ((2 : Int) == 5) = false := rfl
    have k31 : ((3 : Int) == 1) = false := rfl
    have k32 : ((3 : Int) == 2) = false := rfl
    have k33 : ((3 : Int) == 3) = true := rfl
    have k34 : ((3 : Int) == 4) = false := rfl
    have k35 : ((3 : Int) == 5) = false := rfl
    have k41 : ((4 : Int) == 1) = false := rfl
    have k42 : ((4 : Int) == 2) = false := rfl
    have k43 : ((4 : Int) == 3) = false := rfl
    have k44 : ((4 : Int) == 4) = true := rfl
    have k51 : ((5 : Int) == 1) = false := rfl
    have k52 : ((5 : Int) == 2) = false := rfl
    have k53 : ((5 : Int) == 3) = false := rfl
    have k54 : ((5 : Int) == 4) = false := rfl
    have k55 : ((5 : Int) == 5) = true := rfl
    unfold ref04_CheckOp ckO
    rw [hk]
    have n12 : ((1 : Int) != 2) = true := rfl
    have n14 : ((1 : Int) != 4) = true := rfl
    have n22 : ((2 : Int) != 2) = false := rfl
    have n24 : ((2 : Int) != 4) = true := rfl
    have n32 : ((3 : Int) != 2) = true := rfl
    have n34 : ((3 : Int) != 4) = true := rfl
    have n42 : ((4 : Int) != 2) = true := rfl
    have n44 : ((4 : Int) != 4) = false := rfl
    have n52 : ((5 : Int) != 2) = true := rfl
    have n54 : ((5 : Int) != 4) = true := rfl
    have hb : ∀ a b : BL, (a != b) = !(a == b) := fun _ _ => rfl
    have rI : ∀ (n : Int) (s : St), retV [.int .i64 n] s = some (.int .i64 n, s) := fun _ _ => rfl
    have hif : ∀ (c : Bool) (n m : Int), (if c = true then some ((Value.int .i64 n), s) else some (.int .i64 m, s)) = some (.int .i64 (if c = true then n else m), s) := fun c n m => by cases c <;> rfl
    rcases kinds hk with rfl | rfl | rfl | rfl | rfl
    all_goals simp only [o_box, o_0, o_1, o_2, o_3, o_4, o_5, nil_sv, e_sneq, keyed, ranged, hb, k11, k12, k13, k14, k15, k21, k22, k24, k25, k31, k32, k33, k34, k35, k41, k42, k43, k44, k51, k52, k53, k54, k55, n12, n14, n22, n24, n32, n34, n42, n44, n52, n54, Bool.not_true, Bool.not_false, Bool.and_true, Bool.and_false, Bool.true_and, Bool.false_and, Bool.or_true, Bool.or_false, Bool.true_or, Bool.false_or, Bool.or_self, Bool.and_self, if_true, if_false, Bool.false_eq_true, ref02_CheckKey_call, hK, ref02_Check_call, hR, e_lenV, len16, ab2, or_and, and_or, eK_n, eR_n, Option.bind_assoc, n_bind, n_map, getL_0, getL_1, getL_2, getL_3, getL_4, getL_5, getL_6, getL_7, getL_8, getL_9, getL_10, getL_11, getL_12, condV_t, condV_f, guardV_tt, guardV_ff, guardV_tf, guardV_ft, guardV_u, apick_t, apick_f, exV_exit, exV_ret, lookE_same, joinK_eq, seqA_n, seqA_e, seqA_r, e_add, e_sub, e_mul, e_eql, e_neq, e_lss, e_leq, e_gtr, e_geq, e_conv, e_not, e_neg, and_guard, or_guard, rI, condV_if, hif]

theorem refWrites_run {R : Caller} (o : OpT) (s : St) : ref04_Writes R (oV o) s = some (.bool (wrt o.kind), s) := by
  unfold ref04_Writes
  simp only [o_box, o_0, e_eql, Option.bind_some]
  unfold wrt
  cases h2 : (o.kind == 2) <;> cases h3 : (o.kind == 3) <;> cases h5 : (o.kind == 5) <;> simp only [h2, h3, h5, o_0, n_bind, n_map, getL_0, getL_1, getL_2, getL_3, getL_4, getL_5, getL_6, getL_7, getL_8, getL_9, getL_10, getL_11, getL_12, condV_t, condV_f, guardV_tt, guardV_ff, guardV_tf, guardV_ft, guardV_u, apick_t, apick_f, exV_exit, exV_ret, lookE_same, joinK_eq, seqA_n, seqA_e, seqA_r, e_add, e_sub, e_mul, e_eql, e_neq, e_lss, e_leq, e_gtr, e_geq, e_conv, e_not, e_neg, and_guard, or_guard, retV] <;> rfl

/-- what an operation touches -/
def spR (o : OpT) : Rg := if o.key == [] then (o.lo, o.hi) else ptR o.key
def spL (o : OpT) : Rg × Int := if ckO o == 0 then (spR o, 0) else (([], []), ckO o)
theorem ckO_key {o : OpT} (h : ckO o = 0) : okKind o.kind = true ∧ (keyed o.kind = true → ckK o.key = true) ∧ (ranged o.kind = true → o.key = [] ∧ ckR (o.lo, o.hi) = true) ∧ (keyed o.kind = true → o.lo = [] ∧ o.hi = []) ∧ o.val.length ≤ 16 ∧ (o.kind = 4 → 1 ≤ o.most ∧ o.most ≤ 4) := by
  unfold ckO at h
  split at h
  · cases h
  · rename_i c1
    split at h
    · cases h
    · rename_i c2
      split at h
      · cases h
      · rename_i c3
        split at h
        · cases h
        · rename_i c4
          split at h
          · cases h
          · rename_i c5
            simp only [Bool.not_eq_true, Bool.or_eq_false_iff, Bool.not_eq_false', Bool.and_eq_false_iff] at c1 c2 c3 c4 c5
            obtain ⟨⟨⟨⟨a1, a2⟩, a3⟩, a4⟩, a5⟩ := c1
            refine ⟨a1, fun hk => ?_, fun hr => ⟨?_, ?_⟩, fun hk => ?_, ?_, fun h4 => ?_⟩
            · rcases c2 with c2 | c2
              · rw [hk] at c2; cases c2
              · exact c2
            · rcases a3 with a3 | a3
              · rw [hr] at a3; cases a3
              · simpa [bne] using a3
            · rcases c4 with c4 | c4
              · rw [hr] at c4; cases c4
              · exact c4
            · rcases a2 with a2 | ⟨a2, a3⟩
              · rw [hk] at a2; cases a2
              · exact ⟨by simpa [bne] using a2, by simpa [bne] using a3⟩
            · simpa using c3
            · rw [h4] at c5
              rcases c5 with c5 | c5
              · simp at c5
              · simp at c5; omega
theorem sp_key {o : OpT} (h : ckO o = 0) (hn : o.key ≠ []) : keyed o.kind = true ∧ ckK o.key = true := by
  cases hk : keyed o.kind with
  | true => exact ⟨rfl, (ckO_key h).2.1 hk⟩
  | false =>
    have h1 := (ckO_key h).1
    have h2 : ranged o.kind = true := by
      rcases kinds h1 with e | e | e | e | e <;> rw [e] at hk ⊢ <;> first | rfl | cases hk
    exact absurd ((ckO_key h).2.2.1 h2).1 hn
theorem refSpan_run {R : Caller} (hC : ∀ o s, R 32 [oV o] s = some (.int .i64 (ckO o), s)) (hP : ∀ k s, R 33 [sv k] s = some (ptV (ptL k), s)) (o : OpT) (s : St) : ref04_Span R (oV o) s = some (ptV (spL o), s) := by
  unfold ref04_Span spL
  simp only [z_rv, o_box, o_all, o_1, o_3, o_4, ref04_CheckOp_call, hC, nil_sv, e_sneq, n_bind, n_map, getL_0, getL_1, getL_2, getL_3, getL_4, getL_5, getL_6, getL_7, getL_8, getL_9, getL_10, getL_11, getL_12, condV_t, condV_f, guardV_tt, guardV_ff, guardV_tf, guardV_ft, guardV_u, apick_t, apick_f, exV_exit, exV_ret, lookE_same, joinK_eq, seqA_n, seqA_e, seqA_r, e_add, e_sub, e_mul, e_eql, e_neq, e_lss, e_leq, e_gtr, e_geq, e_conv, e_not, e_neg, and_guard, or_guard]
  by_cases h : ckO o = 0
  · have e1 : (ckO o != 0) = false := by simp [h]
    have e2 : (ckO o == 0) = true := by simp [h]
    simp only [e1, e2, if_true, condV_f]
    unfold spR
    cases hk : (o.key == [])
    · have hck := (sp_key h (by simpa using hk)).2
      have hpt : ptL o.key = (ptR o.key, 0) := by unfold ptL; rw [if_pos hck]
      simp only [z_rv2, Bool.not_false, condV_t, ref02_Point_call, hP, hpt, if_false, Bool.false_eq_true, st_rv, ld_rv, show ∀ p : Rg × Int, aextract 0 (ptV p) = some (rv p.1) from fun _ => rfl, show ∀ p : Rg × Int, aextract 1 (ptV p) = some (.int .i64 p.2) from fun _ => rfl, n_bind, n_map, getL_0, getL_1, getL_2, getL_3, getL_4, getL_5, getL_6, getL_7, getL_8, getL_9, getL_10, getL_11, getL_12, condV_t, condV_f, guardV_tt, guardV_ff, guardV_tf, guardV_ft, guardV_u, apick_t, apick_f, exV_exit, exV_ret, lookE_same, joinK_eq, seqA_n, seqA_e, seqA_r, e_add, e_sub, e_mul, e_eql, e_neq, e_lss, e_leq, e_gtr, e_geq, e_conv, e_not, e_neg, and_guard, or_guard, retV]
      rfl
    · simp only [z_rv2, Bool.not_true, condV_f, ab2, o_3, o_4, if_true, st_rv, ld_rv, n_bind, n_map, getL_0, getL_1, getL_2, getL_3, getL_4, getL_5, getL_6, getL_7, getL_8, getL_9, getL_10, getL_11, getL_12, condV_t, condV_f, guardV_tt, guardV_ff, guardV_tf, guardV_ft, guardV_u, apick_t, apick_f, exV_exit, exV_ret, lookE_same, joinK_eq, seqA_n, seqA_e, seqA_r, e_add, e_sub, e_mul, e_eql, e_neq, e_lss, e_leq, e_gtr, e_geq, e_conv, e_not, e_neg, and_guard, or_guard, retV]
      rfl
  · have e1 : (ckO o != 0) = true := by simp [h]
    have e2 : (ckO o == 0) = false := by simp [h]
    simp only [z_rv2, e1, e2, if_false, Bool.false_eq_true, n_bind, n_map, getL_0, getL_1, getL_2, getL_3, getL_4, getL_5, getL_6, getL_7, getL_8, getL_9, getL_10, getL_11, getL_12, condV_t, condV_f, guardV_tt, guardV_ff, guardV_tf, guardV_ft, guardV_u, apick_t, apick_f, exV_exit, exV_ret, lookE_same, joinK_eq, seqA_n, seqA_e, seqA_r, e_add, e_sub, e_mul, e_eql, e_neq, e_lss, e_leq, e_gtr, e_geq, e_conv, e_not, e_neg, and_guard, or_guard, retV]
    rfl

end Go.Proofs.Ytccindbiodofmaa.Ab

/- Lists of plain things, in a slice: of so many cells each. -/
namespace Go.Proofs.Ytccindbiodofmaa.Ab
open Go

/-- how a thing lies in cells -/
structure Cod (α : Type) where
  n : Nat
  enc : α → List Value
  pos : 0 < n
  len : ∀ a, (enc a).length = n
  inj : ∀ a b, enc a = enc b → a = b
  leaf : ∀ a, (enc a).all leafOk = true

section
variable {α : Type} (C : Cod α)
def encL (l : List α) : List Value := l.flatMap C.enc
theorem encL_nil : encL C [] = [] := rfl
theorem encL_cons (a : α) (l : List α) : encL C (a :: l) = C.enc a ++ encL C l := rfl
theorem encL_append (l m : List α) : encL C (l ++ m) = encL C l ++ encL C m := by simp [encL]
theorem encL_len : ∀ (l : List α), (encL C l).length = l.length * C.n
  | [] => by simp [encL]
  | a :: l => by rw [encL_cons, List.length_append, C.len, encL_len l, List.length_cons, Nat.add_mul]; omega
theorem encL_leaf (l : List α) : (encL C l).all leafOk = true := by
  rw [encL, List.all_flatMap, List.all_eq_true]
  intro a _
  exact C.leaf a
theorem encL_drop : ∀ (l : List α) (i : Nat), (encL C l).drop (i * C.n) = encL C (l.drop i)
  | l, 0 => by simp
  | [], i + 1 => by simp [encL]
  | a :: l, i + 1 => by
    rw [encL_cons, show (i + 1) * C.n = C.n + i * C.n by rw [Nat.add_mul]; omega, ← List.drop_drop, List.drop_left' (C.len a), encL_drop l i, List.drop_succ_cons]
theorem encL_take : ∀ (l : List α) (i : Nat), (encL C l).take (i * C.n) = encL C (l.take i)
  | l, 0 => by simp [encL]
  | [], i + 1 => by simp [encL]
  | a :: l, i + 1 => by
    rw [encL_cons, show (i + 1) * C.n = C.n + i * C.n by rw [Nat.add_mul]; omega, List.take_add, List.take_left' (C.len a), List.drop_left' (C.len a), encL_take l i, List.take_succ_cons, encL_cons]
theorem encL_inj : ∀ {l m : List α}, encL C l = encL C m → l = m
  | [], [], _ => rfl
  | [], a :: m, h => by
    have h1 := congrArg List.length h
    rw [encL_len, encL_len, List.length_cons, Nat.add_mul] at h1
    have := C.pos
    simp only [List.length_nil, Nat.zero_mul] at h1
    omega
  | a :: l, [], h => by
    have h1 := congrArg List.length h
    rw [encL_len, encL_len, List.length_cons, Nat.add_mul] at h1
    have := C.pos
    simp only [List.length_nil, Nat.zero_mul] at h1
    omega
  | a :: l, b :: m, h => by
    rw [encL_cons, encL_cons] at h
    have h1 := (List.append_inj h (by rw [C.len, C.len])).1
    have h2 := (List.append_inj h (by rw [C.len, C.len])).2
    rw [C.inj _ _ h1, encL_inj h2]

open Classical in
noncomputable def decL (cs : List Value) : Option (List α) := if h : ∃ l, cs = encL C l then some (Classical.choose h) else none
theorem decL_enc (l : List α) : decL C (encL C l) = some l := by
  unfold decL
  have h : ∃ m, encL C l = encL C m := ⟨l, rfl⟩
  rw [dif_pos h]
  congr 1
  exact (encL_inj C (Classical.choose_spec h)).symm
theorem decL_some {cs : List Value} {l : List α} (h : decL C cs = some l) : cs = encL C l := by
  unfold decL at h
  split at h
  · rename_i hh
    cases h
    exact Classical.choose_spec hh
  · cases h

/-- what a slice holds -/
noncomputable def listOf (v : Value) (s : St) : Option (List α) := (cellsOf C.n v s).bind (decL C)
theorem listOf_iff {v : Value} {s : St} {l : List α} : listOf C v s = some l ↔ cellsOf C.n v s = some (encL C l) := by
  unfold listOf
  constructor
  · intro h
    simp only [Option.bind_eq_some_iff] at h
    obtain ⟨cs, h1, h2⟩ := h
    rw [h1, decL_some C h2]
  · intro h
    rw [h]
    exact decL_enc C l
variable {C}
theorem list_frz {v : Value} {s : St} : listOf C v (frzS s) = listOf C v s := by unfold listOf; rw [cellsOf_frz]
theorem list_shape {v : Value} {s : St} {l : List α} (h : listOf C v s = some l) : ∃ a cap, v = .slice a l.length cap := by
  obtain ⟨a, len, cap, rfl, h2⟩ := cellsOf_len ((listOf_iff C).1 h)
  rw [encL_len] at h2
  have := C.pos
  have : len = l.length := (Nat.eq_of_mul_eq_mul_right this h2).symm
  subst this
  exact ⟨a, cap, rfl⟩
theorem list_len {v : Value} {s s2 : St} {l : List α} (h : listOf C v s = some l) {e : TypeId} : alenV (.slice e) v s2 = some (.int .i64 ((l.length : Nat) : Int)) := by
  obtain ⟨a, cap, rfl⟩ := list_shape h
  rfl
theorem list_lenV {v : Value} {s : St} {l : List α} (h : listOf C v s = some l) : lenV v = some l.length := by
  obtain ⟨a, cap, rfl⟩ := list_shape h
  rfl
theorem list_elems {v : Value} {s : St} {l : List α} (h : listOf C v s = some l) : elemsOf C.n v s = some (encL C l) := elems_of ((listOf_iff C).1 h)
theorem list_nil (s : St) : listOf C (.slice none 0 0) s = some [] := (listOf_iff C).2 rfl
theorem list_ext {s s' : St} (h : Ext s.heap.length s s') {v : Value} {l : List α} (hv : listOf C v s = some l) : listOf C v s' = some l :=
  (listOf_iff C).2 (h.cells ((listOf_iff C).1 hv))
/-- an element -/
theorem list_at {v : Value} {s : St} {l : List α} (h : listOf C v s = some l) {i : Nat} (hi : i < l.length) {k : IntKind} {n : Nat} (hn : n = C.n) : ∃ p, aindexS n v (.int k (i : Int)) = some p ∧ aload true n p s = some (.agg (C.enc l[i]).toArray) := by
  subst hn
  have hc := (listOf_iff C).1 h
  have hle : (i + 1) * C.n ≤ (encL C l).length := by rw [encL_len]; exact Nat.mul_le_mul_right _ hi
  obtain ⟨p, h1, _, h3⟩ := cells_at hc C.pos hle (k := k)
  refine ⟨p, h1, ?_⟩
  rw [h3]
  congr 2
  rw [encL_drop]
  have : l.drop i = l[i] :: l.drop (i + 1) := by rw [List.getElem_cons_drop]
  rw [this, encL_cons, List.take_left' (C.len _)]
/-- a part of an element -/
theorem list_field {v : Value} {s : St} {l : List α} (h : listOf C v s = some l) {i j : Nat} (hi : i < l.length) {c : Value} (hc : (C.enc l[i])[j]? = some c) {k : IntKind} {n : Nat} (hn : n = C.n) : ∃ p, aindexS n v (.int k (i : Int)) = some p ∧ ∃ q, afieldAddr j p = some q ∧ aload false 1 q s = some c := by
  subst hn
  have hcs := (listOf_iff C).1 h
  unfold cellsOf at hcs
  split at hcs
  · have := congrArg (Option.map List.length) hcs
    simp only [Option.map_some, List.length_nil, encL_len, Option.some.injEq] at this
    have h2 := C.pos
    have h3 : 0 < l.length * C.n := Nat.mul_pos (by omega) h2
    omega
  · rename_i b o len cap
    split at hcs
    case isFalse => cases hcs
    obtain ⟨row, h1, h2, h3⟩ := readN_some hcs
    have hlen : len = l.length := by
      have := congrArg List.length h3
      rw [encL_len] at this
      simp at this
      have h4 := C.pos
      have h5 : len * C.n = l.length * C.n := by omega
      exact Nat.eq_of_mul_eq_mul_right h4 h5
    subst hlen
    refine ⟨.pointer (some ⟨b, o + i * C.n, none⟩), by simp [aindexS, hi], .pointer (some ⟨b, o + i * C.n + j, none⟩), rfl, ?_⟩
    simp only [aload, h1, Option.bind_some, Bool.false_eq_true, if_false]
    have hj : j < C.n := by
      have := (List.getElem?_eq_some_iff.1 hc).1
      rw [C.len] at this
      exact this
    have h4 : (encL C l)[i * C.n + j]? = some c := by
      rw [← List.getElem?_drop, encL_drop]
      have : l.drop i = l[i] :: l.drop (i + 1) := by rw [List.getElem_cons_drop]
      rw [this, encL_cons, List.getElem?_append_left (by rw [C.len]; exact hj)]
      exact hc
    have h6 : i * C.n + C.n ≤ l.length * C.n := by rw [← Nat.succ_mul]; exact Nat.mul_le_mul_right _ hi
    rw [h3, List.getElem?_take_of_lt (by omega), List.getElem?_drop] at h4
    rw [Nat.add_assoc]
    exact h4
  · cases hcs
/-- a part of a list -/
theorem list_slice {v : Value} {s : St} {l : List α} (h : listOf C v s = some l) {lo hi mx : Option Value} {i j : Nat} (hlo : abound 0 lo = some i) (hhi : abound l.length hi = some j) (hij : i ≤ j) (hj : j ≤ l.length)
    (hmx : mx = none ∨ (hi.isSome = true ∧ ∀ c, abound c mx = some j)) {n : Nat} (hn : n = C.n) : ∃ u, asliceV n v lo hi mx = some u ∧ listOf C u s = some ((l.drop i).take (j - i)) := by
  subst hn
  obtain ⟨a, cap, rfl⟩ := list_shape h
  obtain ⟨u, h1, h2⟩ := cells_slice ((listOf_iff C).1 h) hlo hhi hij hj hmx
  refine ⟨u, h1, (listOf_iff C).2 ?_⟩
  rw [h2, encL_drop, encL_take]

/-! ### Lists of one's own -/
/-- in a row of one's own, from block N on, with room behind -/
def OwnC (C : Cod α) (N : Nat) (s : St) (v : Value) (l : List α) : Prop :=
  (v = .slice none 0 0 ∧ l = []) ∨ ∃ b cap rest, v = .slice (some ⟨b, 0, none⟩) l.length cap ∧ N ≤ b ∧ s.heap[b]? = some (.row C.n (encL C l ++ rest) .act) ∧ (encL C l ++ rest).length = cap * C.n ∧ rest.all leafOk = true
theorem OwnC.cap_le {N : Nat} {s : St} {b len cap : Nat} {rest : List Value} {l : List α} (h : (encL C l ++ rest).length = cap * C.n) : l.length ≤ cap := by
  rw [List.length_append, encL_len] at h
  have := C.pos
  exact Nat.le_of_mul_le_mul_right (by omega : l.length * C.n ≤ cap * C.n) this
theorem OwnC.list {N : Nat} {s : St} {v : Value} {l : List α} (h : OwnC C N s v l) : listOf C v s = some l := by
  rcases h with ⟨rfl, rfl⟩ | ⟨b, cap, rest, rfl, h1, h2, h3, _⟩
  · exact list_nil s
  · refine (listOf_iff C).2 ?_
    have hle := OwnC.cap_le (N := N) (s := s) (b := b) (len := l.length) h3
    simp only [cellsOf, if_pos hle]
    unfold readN Ab.readRow
    rw [h2]
    simp only [Option.bind_some]
    have e : (encL C l).length = l.length * C.n := encL_len C l
    rw [if_pos (by rw [List.length_append]; omega), List.drop_zero, ← e, List.take_left]
theorem Own.toC {N : Nat} {s : St} {v : Value} {l : List α} (h : Own N C.n s v (encL C l)) : OwnC C N s v l := by
  rcases h with ⟨rfl, h2⟩ | ⟨b, len, rfl, h1, h2, h3, h4⟩
  · exact .inl ⟨rfl, encL_inj C (m := []) h2⟩
  · rw [encL_len] at h3
    have : l.length = len := Nat.eq_of_mul_eq_mul_right C.pos h3
    subst this
    exact .inr ⟨b, l.length, [], rfl, h1, by rw [List.append_nil]; exact h2, by rw [List.append_nil, encL_len], rfl⟩
theorem own_list {N : Nat} {s : St} {v : Value} {l : List α} (h : Own N C.n s v (encL C l)) : listOf C v s = some l := (listOf_iff C).2 h.cells
theorem leaf_isLeaf {l : List Value} (h : l.all leafOk = true) : l.all isLeaf = true := by
  rw [List.all_eq_true] at h ⊢
  intro v hv
  have := h v hv
  cases v <;> first | rfl | (simp [leafOk] at this)
end

end Go.Proofs.Ytccindbiodofmaa.Ab
