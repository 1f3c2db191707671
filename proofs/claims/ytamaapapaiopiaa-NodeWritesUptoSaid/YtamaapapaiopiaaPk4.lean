/- Texts of this proof, packed: Sh, SpAll, StrCmp. -/
import Derived.Test.YtamaapapaiopiaaPk3
import Derived.Lib.Strings
import Derived.Lib.Bytealg
set_option linter.unusedVariables false
set_option linter.unusedSimpArgs false
set_option linter.unusedSectionVars false
/- The program's functions, as the abstract machine runs them: printed. -/
namespace Go.Proofs.Ytamaapapaiopiaa.Ab
open Go
set_option maxRecDepth 100000

def hints : Hints := fun f => hintL f [(2, []), (3, [(5, 48), (7, 49)]), (4, [(2, 61), (12, 61), (26, 61), (35, 61), (47, 61), (53, 61)]), (5, [(2, 88)]), (6, [(1, 76)]), (7, [(5, 76), (7, 77), (26, 77), (28, 77), (33, 77)]), (8, [(2, 69), (5, 70), (6, 71), (7, 72), (20, 71), (26, 72), (28, 72), (30, 72)]), (9, [(2, 48), (5, 49)]), (10, [(2, 103), (3, 104), (8, 103), (10, 104), (14, 103), (16, 104), (22, 103), (25, 104), (31, 103), (34, 104), (40, 103), (43, 104), (48, 103), (54, 103), (59, 104), (66, 103), (72, 103), (77, 104), (84, 103), (90, 103), (95, 104)]), (11, [(1, 70), (7, 70), (13, 70), (19, 70), (25, 70), (30, 70), (36, 70), (41, 70), (47, 70), (56, 70), (65, 70)]), (12, []), (13, [(2, 24), (8, 24), (10, 24)]), (14, [(1, 17)]), (15, [(1, 18)]), (16, [(1, 13)]), (17, [(1, 13)]), (18, [(1, 146), (10, 147), (12, 148), (13, 146), (15, 146), (18, 146), (22, 146), (27, 146), (30, 146), (35, 146), (41, 146), (47, 146), (50, 146), (57, 146), (60, 146), (65, 146), (79, 146), (83, 146), (96, 146), (104, 146), (114, 148), (115, 148), (120, 148), (121, 148), (123, 148), (124, 148), (131, 148), (132, 148), (137, 148), (138, 148)]), (19, [(2, 27), (8, 27), (15, 27)]), (20, [(0, 8)]), (21, []), (22, []), (23, [(2, 135), (3, 136), (5, 137), (14, 138), (23, 136), (40, 137), (43, 137), (44, 136), (49, 136), (70, 136), (76, 136), (91, 136), (96, 136), (128, 136), (133, 136)]), (24, []), (25, []), (26, []), (27, [(5, 30), (13, 30), (18, 30), (23, 30), (27, 30)]), (28, []), (29, []), (30, []), (31, [(4, 37), (13, 37), (19, 37), (32, 37)]), (32, []), (33, [(3, 12), (8, 12)]), (34, [(2, 19), (3, 20), (5, 20), (9, 20), (11, 20), (16, 20)]), (35, [(2, 27), (4, 28), (5, 29), (8, 27), (14, 29), (16, 27), (20, 27), (25, 29)]), (36, [(1, 106), (5, 107), (15, 106), (18, 106), (23, 106), (31, 107), (33, 107), (40, 106), (45, 106), (58, 106), (61, 106)]), (37, [(1, 127), (5, 128), (14, 129), (15, 127), (18, 127), (22, 127), (30, 128), (33, 128), (39, 127), (43, 127), (54, 127), (65, 127), (83, 129), (88, 129), (89, 129), (94, 129), (95, 129), (109, 129), (110, 129), (113, 129), (114, 129), (120, 129), (121, 129), (98, 129), (99, 129), (102, 129), (103, 129)]), (38, [(4, 34), (12, 34), (16, 34), (29, 34)]), (39, []), (40, [(4, 37), (13, 37), (19, 37), (32, 37)]), (41, [(4, 25), (5, 26), (14, 26), (23, 26)]), (42, [(2, 28), (3, 29), (14, 28), (16, 29), (21, 28), (23, 29)]), (43, [(2, 30), (15, 30), (20, 30), (25, 30)]), (44, []), (45, []), (46, []), (47, [(2, 10)]), (48, []), (49, []), (50, []), (51, []), (52, []), (53, []), (54, []), (55, []), (56, []), (57, [(2, 44), (3, 45), (7, 45), (10, 45), (11, 45), (12, 45), (13, 45), (21, 45), (22, 45), (25, 45), (26, 45), (31, 45), (32, 45), (37, 45), (38, 45), (41, 45), (42, 45)]), (58, [(1, 83), (3, 84), (6, 83), (14, 84), (18, 83), (22, 84), (26, 83), (30, 84), (39, 84), (43, 83), (48, 84), (51, 83), (57, 83), (62, 84), (71, 84), (74, 83), (78, 83)]), (59, [(1, 13), (3, 14), (6, 13), (11, 14)]), (60, []), (61, [(2, 30), (3, 31), (14, 30), (16, 31), (21, 30), (23, 31), (26, 31)]), (62, [(2, 30), (14, 30), (20, 30), (25, 30)]), (63, []), (64, []), (65, []), (66, []), (67, []), (68, []), (69, []), (70, [(1, 107), (5, 107), (9, 107), (14, 107), (18, 107), (22, 107), (35, 107), (39, 107), (48, 107), (54, 107), (58, 107), (64, 107), (68, 107), (75, 107), (80, 107), (86, 107), (88, 107), (94, 107), (98, 107), (102, 107)]), (71, [(1, 16), (3, 16), (7, 16), (12, 16)]), (72, [(1, 25), (3, 25), (8, 25), (14, 25), (18, 25), (20, 25)]), (73, []), (74, []), (75, []), (76, []), (77, [(2, 33)]), (78, []), (79, []), (80, [(2, 14)]), (81, [(1, 8), (2, 9), (3, 8), (5, 8)]), (82, [(1, 28), (8, 28), (13, 28), (18, 28), (22, 28), (24, 28)]), (83, []), (84, []), (85, []), (86, []), (87, [(0, 7)]), (88, [(0, 2)]), (89, [(3, 26), (5, 27), (10, 26)]), (90, [(3, 35), (5, 36), (10, 35), (19, 35), (21, 35), (29, 35)]), (91, [(3, 23), (5, 24), (10, 23)]), (92, [(3, 27), (5, 28), (20, 27)]), (93, [(3, 20), (5, 21)]), (94, []), (95, []), (96, []), (97, [(3, 30), (11, 30), (18, 30), (23, 30)]), (98, []), (99, []), (100, [(2, 9), (5, 9)]), (101, []), (103, []), (104, []), (105, []), (107, [])]

/-! ### sumpter/sumpterlaw13.NodeWrites: 5 -/

noncomputable def law13_NodeWrites.b1 (R : Caller) (T : List Value) (s : St) : Res :=
(abin Try.prog .lss 3 (.tmp 76) (.tmp 75) (getL T 6) (getL T 5)).bind fun v58 =>
condV v58
 ((aindexS 1 (getL T 3) (getL T 6)).bind fun v59 =>
(aload false 1 v59 s).bind fun v60 =>
(abin Try.prog .add 5 (.tmp 82) (.const (.int .u8 1)) v60 (.int .u8 1)).bind fun v61 =>
(aindexS 1 (getL T 3) (getL T 6)).bind fun v62 =>
(astore 1 v62 v61 s).bind fun s63 =>
(abin Try.prog .add 3 (.tmp 76) (.const (.int .i64 1)) (getL T 6) (.int .i64 1)).bind fun v64 =>
some (.normal, [(getL T 0), (getL T 1), (getL T 2), (getL T 3), (getL T 4), (getL T 5), v64, (getL T 7)], s63))
 (some (.exit 2, [(getL T 0), (getL T 1), (getL T 2), (getL T 4), (getL T 7)], s))

noncomputable def law13_NodeWrites.b0 (R : Caller) (T : List Value) (s : St) : Res :=
(abin Try.prog .lss 3 (.tmp 16) (.const (.int .i64 2)) (getL T 3) (.int .i64 2)).bind fun v2 =>
condV v2
 ((lload true 5 (getL T 1) (getL T 4)).bind fun v3 =>
(callV Try.prog R (.func (.func 14) #[] #[]) [v3] s).bind fun r4 =>
(aextract 0 r4.1).bind fun v5 =>
(aextract 1 r4.1).bind fun v6 =>
(lload true 5 (getL T 1) (getL T 4)).bind fun v7 =>
(callV Try.prog R (.func (.func 15) #[] #[]) [v7] r4.2).bind fun r8 =>
(aextract 0 r8.1).bind fun v9 =>
(aextract 1 r8.1).bind fun v10 =>
(lload true 5 (getL T 1) (getL T 4)).bind fun v11 =>
(callV Try.prog R (.func (.func 16) #[] #[]) [v11] r8.2).bind fun r12 =>
(aextract 0 r12.1).bind fun v13 =>
(aextract 1 r12.1).bind fun v14 =>
(lload true 5 (getL T 1) (getL T 4)).bind fun v15 =>
(callV Try.prog R (.func (.func 17) #[] #[]) [v15] r12.2).bind fun r16 =>
(aextract 0 r16.1).bind fun v17 =>
(aextract 1 r16.1).bind fun v18 =>
((abytesToStr v5 (frzS r16.2)).bind fun v72 =>
some (v72, (frzS r16.2))).bind fun r19 =>
((abytesToStr v9 (frzS r16.2)).bind fun v71 =>
some (v71, (frzS r16.2))).bind fun r20 =>
(abin Try.prog .neq 9 (.tmp 39) (.tmp 41) r19.1 r20.1).bind fun v21 =>
(guardV v21 false (some ([v6], r16.2)) (some ([undef], r16.2))).bind fun q22 =>
(guardV v21 false (some ([v10], q22.2)) (some ([undef], q22.2))).bind fun q23 =>
(guardV v21 false ((abin Try.prog .neq 30 (.tmp 44) (.tmp 45) (getL q22.1 0) (getL q23.1 0)).bind fun v24 =>
some ([v24], q23.2)) (some ([undef], q23.2))).bind fun q25 =>
(apick v21 (.bool true) (getL q25.1 0)).bind fun v26 =>
(guardV v26 false (some ([v13], q25.2)) (some ([undef], q25.2))).bind fun q27 =>
(guardV v26 false (some ([v17], q27.2)) (some ([undef], q27.2))).bind fun q28 =>
(guardV v26 false ((abin Try.prog .neq 3 (.tmp 49) (.tmp 50) (getL q27.1 0) (getL q28.1 0)).bind fun v29 =>
some ([v29], q28.2)) (some ([undef], q28.2))).bind fun q30 =>
(apick v26 (.bool true) (getL q30.1 0)).bind fun v31 =>
(guardV v31 false (some ([v14], q30.2)) (some ([undef], q30.2))).bind fun q32 =>
(guardV v31 false (some ([v18], q32.2)) (some ([undef], q32.2))).bind fun q33 =>
(guardV v31 false ((abin Try.prog .neq 30 (.tmp 54) (.tmp 55) (getL q32.1 0) (getL q33.1 0)).bind fun v34 =>
some ([v34], q33.2)) (some ([undef], q33.2))).bind fun q35 =>
(apick v31 (.bool true) (getL q35.1 0)).bind fun v36 =>
(guardV v36 false ((lload true 5 (getL T 1) (getL T 4)).bind fun v37 =>
some ([v37], q35.2)) (some ([undef], q35.2))).bind fun q38 =>
((guardV v36 false ((callV Try.prog R (.func (.func 12) #[] #[]) [(getL q38.1 0)] q38.2).bind fun r70 =>
some (r70.1, r70.2)) (some (undef, q38.2))).bind (ownR q38.2)).bind fun r39 =>
(guardV v36 false ((lload true 5 (getL T 1) (getL T 4)).bind fun v40 =>
some ([v40], r39.2)) (some ([undef], r39.2))).bind fun q41 =>
((guardV v36 false ((callV Try.prog R (.func (.func 18) #[] #[]) [(getL q41.1 0)] q41.2).bind fun r69 =>
some (r69.1, r69.2)) (some (undef, q41.2))).bind (ownR q41.2)).bind fun r42 =>
(guardV v36 false ((abin Try.prog .neq 30 (.tmp 60) (.tmp 62) r39.1 r42.1).bind fun v43 =>
some ([v43], r42.2)) (some ([undef], r42.2))).bind fun q44 =>
(apick v36 (.bool true) (getL q44.1 0)).bind fun v45 =>
(guardV v45 false ((lload true 5 (getL T 1) (getL T 4)).bind fun v46 =>
some ([v46], q44.2)) (some ([undef], q44.2))).bind fun q47 =>
(guardV v45 false (some ([(getL T 0)], q47.2)) (some ([undef], q47.2))).bind fun q48 =>
((guardV v45 false ((callV Try.prog R (.func (.func 13) #[] #[]) [(getL q47.1 0), (getL q48.1 0)] q48.2).bind fun r68 =>
some (r68.1, r68.2)) (some (undef, q48.2))).bind (ownR q48.2)).bind fun r49 =>
(guardV v45 false ((lload true 5 (getL T 1) (getL T 4)).bind fun v50 =>
some ([v50], r49.2)) (some ([undef], r49.2))).bind fun q51 =>
(guardV v45 false (some ([(getL T 0)], q51.2)) (some ([undef], q51.2))).bind fun q52 =>
((guardV v45 false ((callV Try.prog R (.func (.func 19) #[] #[]) [(getL q51.1 0), (getL q52.1 0)] q52.2).bind fun r67 =>
some (r67.1, r67.2)) (some (undef, q52.2))).bind (ownR q52.2)).bind fun r53 =>
(guardV v45 false ((abin Try.prog .neq 3 (.tmp 68) (.tmp 71) r49.1 r53.1).bind fun v54 =>
some ([v54], r53.2)) (some ([undef], r53.2))).bind fun q55 =>
(apick v45 (.bool true) (getL q55.1 0)).bind fun v56 =>
condV v56
 (some (.ret, [(.bool false)], q55.2))
 ((alenV (.slice 5) v5 q55.2).bind fun v57 =>
(loopL (law13_NodeWrites.b1 R) [(getL T 0), (getL T 1), (getL T 2), v5, (getL T 3), v57, (.int .i64 0), (getL T 4)] q55.2).bind fun r65 =>
exV r65.1 [(2, (abin Try.prog .add 3 (.tmp 16) (.const (.int .i64 1)) (getL r65.2.1 3) (.int .i64 1)).bind fun v66 =>
some (.normal, [(getL r65.2.1 0), (getL r65.2.1 1), (getL r65.2.1 2), v66, (getL r65.2.1 4)], r65.2.2))]
 (none)))
 (some (.exit 0, [(getL T 2)], s))

noncomputable def law13_NodeWrites (R : Caller) (x0 x1 : Value) (s : St) : Option (Value × St) :=
(lbox x0).bind fun v0 =>
(callV Try.prog R (.func (.func 7) #[] #[]) [] s).bind fun r1 =>
(loopL (law13_NodeWrites.b0 R) [x1, lptr, r1.1, (.int .i64 0), v0] r1.2).bind fun r73 =>
exV r73.1 [(0, retV [(getL r73.2.1 0)] r73.2.2)]
 (retV [(getL r73.2.1 0)] r73.2.2)

theorem law13_NodeWrites_of {lib : Lib} (hl : lib 5 = none) {x0 x1 : Value} {s : St} {r : Value × St} (h : law13_NodeWrites (run Try.prog lib hints) x0 x1 s = some r) : run Try.prog lib hints 5 [x0, x1] s = some r :=
  run_of hl Try.func5 (Eq.trans (by kernel_rfl) h)

theorem law13_NodeWrites_ok : funcOk Try.prog 5 = true := by kernel_rfl
theorem law13_NodeWrites_call {R : Caller} {xs : List Value} {s : St} : callV Try.prog R (.func (.func 5) #[] #[]) xs s = R 5 xs s := callV_eq law13_NodeWrites_ok

/-! ### sumpter/sumpterlaw13.NodeSizes: 6 -/

noncomputable def law13_NodeSizes (R : Caller) (x0 : Value) (s : St) : Option (Value × St) :=
(lbox x0).bind fun v0 =>
(callV Try.prog R (.func (.func 7) #[] #[]) [] s).bind fun r1 =>
(lload true 5 lptr v0).bind fun v2 =>
(callV Try.prog R (.func (.func 16) #[] #[]) [v2] r1.2).bind fun r3 =>
(aextract 0 r3.1).bind fun v4 =>
(aextract 1 r3.1).bind fun v5 =>
(lload true 5 lptr v0).bind fun v6 =>
(callV Try.prog R (.func (.func 14) #[] #[]) [v6] r3.2).bind fun r7 =>
(aextract 0 r7.1).bind fun v8 =>
(aextract 1 r7.1).bind fun v9 =>
(lload true 5 lptr v0).bind fun v10 =>
(callV Try.prog R (.func (.func 12) #[] #[]) [v10] r7.2).bind fun r11 =>
(abin Try.prog .neq 30 (.tmp 21) (.const (.int .i64 0)) r11.1 (.int .i64 0)).bind fun v12 =>
condV v12
 ((guardV r1.1 true ((lload true 5 lptr v0).bind fun v13 =>
(callV Try.prog R (.func (.func 12) #[] #[]) [v13] r11.2).bind fun r14 =>
(abin Try.prog .eql 30 (.tmp 25) (.tmp 27) v5 r14.1).bind fun v15 =>
some ([v15], r14.2)) (some ([undef], r11.2))).bind fun q16 =>
(apick r1.1 (getL q16.1 0) (.bool false)).bind fun v17 =>
(guardV v17 true ((abin Try.prog .eql 30 (.tmp 31) (.tmp 32) v9 v5).bind fun v18 =>
some ([v18], q16.2)) (some ([undef], q16.2))).bind fun q19 =>
(apick v17 (getL q19.1 0) (.bool false)).bind fun v20 =>
(guardV v20 true ((abin Try.prog .eql 3 (.tmp 36) (.const (.int .i64 0)) v4 (.int .i64 0)).bind fun v21 =>
some ([v21], q19.2)) (some ([undef], q19.2))).bind fun q22 =>
(apick v20 (getL q22.1 0) (.bool false)).bind fun v23 =>
(guardV v23 true ((alenV (.slice 5) v8 q22.2).bind fun v24 =>
(abin Try.prog .eql 3 (.tmp 41) (.const (.int .i64 0)) v24 (.int .i64 0)).bind fun v25 =>
some ([v25], q22.2)) (some ([undef], q22.2))).bind fun q26 =>
(apick v23 (getL q26.1 0) (.bool false)).bind fun v27 =>
retV [v27] q26.2)
 ((abin Try.prog .gtr 3 (.tmp 45) (.const (.int .i64 480)) v4 (.int .i64 480)).bind fun v28 =>
condV v28
 ((guardV r1.1 true ((abin Try.prog .eql 30 (.tmp 49) (.const (.int .i64 0)) v5 (.int .i64 0)).bind fun v29 =>
some ([v29], r11.2)) (some ([undef], r11.2))).bind fun q30 =>
(apick r1.1 (getL q30.1 0) (.bool false)).bind fun v31 =>
(guardV v31 true ((abin Try.prog .eql 30 (.tmp 53) (.const (.int .i64 2)) v9 (.int .i64 2)).bind fun v32 =>
some ([v32], q30.2)) (some ([undef], q30.2))).bind fun q33 =>
(apick v31 (getL q33.1 0) (.bool false)).bind fun v34 =>
(guardV v34 true ((alenV (.slice 5) v8 q33.2).bind fun v35 =>
(abin Try.prog .eql 3 (.tmp 58) (.const (.int .i64 0)) v35 (.int .i64 0)).bind fun v36 =>
some ([v36], q33.2)) (some ([undef], q33.2))).bind fun q37 =>
(apick v34 (getL q37.1 0) (.bool false)).bind fun v38 =>
retV [v38] q37.2)
 ((guardV r1.1 true ((abin Try.prog .eql 30 (.tmp 63) (.const (.int .i64 0)) v5 (.int .i64 0)).bind fun v39 =>
some ([v39], r11.2)) (some ([undef], r11.2))).bind fun q40 =>
(apick r1.1 (getL q40.1 0) (.bool false)).bind fun v41 =>
(guardV v41 true ((abin Try.prog .eql 30 (.tmp 67) (.const (.int .i64 0)) v9 (.int .i64 0)).bind fun v42 =>
some ([v42], q40.2)) (some ([undef], q40.2))).bind fun q43 =>
(apick v41 (getL q43.1 0) (.bool false)).bind fun v44 =>
(guardV v44 true ((alenV (.slice 5) v8 q43.2).bind fun v45 =>
(abin Try.prog .eql 3 (.tmp 72) (.tmp 73) v45 v4).bind fun v46 =>
some ([v46], q43.2)) (some ([undef], q43.2))).bind fun q47 =>
(apick v44 (getL q47.1 0) (.bool false)).bind fun v48 =>
retV [v48] q47.2))

theorem law13_NodeSizes_of {lib : Lib} (hl : lib 6 = none) {x0 : Value} {s : St} {r : Value × St} (h : law13_NodeSizes (run Try.prog lib hints) x0 s = some r) : run Try.prog lib hints 6 [x0] s = some r :=
  run_of hl Try.func6 (Eq.trans (by kernel_rfl) h)

theorem law13_NodeSizes_ok : funcOk Try.prog 6 = true := by kernel_rfl
theorem law13_NodeSizes_call {R : Caller} {xs : List Value} {s : St} : callV Try.prog R (.func (.func 6) #[] #[]) xs s = R 6 xs s := callV_eq law13_NodeSizes_ok

/-! ### sumpter/sumpterlaw13.live: 7 -/

noncomputable def law13_live (R : Caller) (s : St) : Option (Value × St) :=
(abuildSl 2 [(.string ⟨#[]⟩), (.string ⟨#[]⟩)] 1 [(0, (.agg #[(.string ⟨#[97]⟩), (.string ⟨#[49]⟩)]))] s).bind fun r0 =>
(abuild Try.prog 29 [(0, (.bool true)), (1, r0.1)]).bind fun v1 =>
(callV Try.prog R (.func (.func 14) #[] #[]) [v1] r0.2).bind fun r2 =>
(aextract 0 r2.1).bind fun v3 =>
(aextract 1 r2.1).bind fun v4 =>
(callV Try.prog R (.func (.func 20) #[] #[]) [] r2.2).bind fun r5 =>
(callV Try.prog R (.func (.func 14) #[] #[]) [r5.1] r5.2).bind fun r6 =>
(aextract 0 r6.1).bind fun v7 =>
(aextract 1 r6.1).bind fun v8 =>
(callV Try.prog R (.func (.func 8) #[] #[]) [v7] r6.2).bind fun r9 =>
(aextract 0 r9.1).bind fun v10 =>
(aextract 1 r9.1).bind fun v11 =>
(lstore 5 lptr v10 (.agg #[(.bool false), (.slice none 0 0), (.slice none 0 0), (.slice none 0 0), (.slice none 0 0)])).bind fun v12 =>
(callV Try.prog R (.func (.func 20) #[] #[]) [] r9.2).bind fun r13 =>
(lstore 5 lptr r13.1 (.agg #[(.bool false), (.slice none 0 0), (.slice none 0 0), (.slice none 0 0), (.slice none 0 0)])).bind fun v14 =>
(lload false 1 (.pointer (some ⟨0, 4, none⟩)) v14).bind fun v15 =>
(lload false 1 (.pointer (some ⟨0, 4, none⟩)) v14).bind fun v16 =>
(aindexS 1 v16 (.int .i64 0)).bind fun v17 =>
(((aload false 1 v17 r13.2).bind fun v74 =>
some (v74, r13.2)).bind (ownR r13.2)).bind fun r18 =>
(aindexS 1 v15 (.int .i64 1)).bind fun v19 =>
(((astore 1 v19 r18.1 r18.2).bind fun s73 =>
some (undef, s73)).bind (ownR r18.2)).bind fun r20 =>
(lload false 1 (.pointer (some ⟨0, 4, none⟩)) v14).bind fun v21 =>
(aindexS 1 v21 (.int .i64 0)).bind fun v22 =>
(astore 1 v22 (.slice none 0 0) r20.2).bind fun s23 =>
(((abytesToStr v3 s23).bind fun v72 =>
some (v72, s23)).bind (ownR s23)).bind fun r24 =>
(abin Try.prog .eql 9 (.tmp 37) (.const (.string ⟨#[1, 1, 1, 97, 1, 49]⟩)) r24.1 (.string ⟨#[1, 1, 1, 97, 1, 49]⟩)).bind fun v25 =>
(guardV v25 true (some ([v4], r24.2)) (some ([undef], r24.2))).bind fun q26 =>
(guardV v25 true ((abin Try.prog .eql 30 (.tmp 40) (.const (.int .i64 0)) (getL q26.1 0) (.int .i64 0)).bind fun v27 =>
some ([v27], q26.2)) (some ([undef], q26.2))).bind fun q28 =>
(apick v25 (getL q28.1 0) (.bool false)).bind fun v29 =>
(guardV v29 true (some ([v7], q28.2)) (some ([undef], q28.2))).bind fun q30 =>
((guardV v29 true ((abytesToStr (getL q30.1 0) q30.2).bind fun v71 =>
some (v71, q30.2)) (some (undef, q30.2))).bind (ownR q30.2)).bind fun r31 =>
(guardV v29 true ((abin Try.prog .eql 9 (.tmp 45) (.const (.string ⟨#[2, 2, 2, 3, 1, 109, 1, 1, 2, 1, 97, 1, 120, 0]⟩)) r31.1 (.string ⟨#[2, 2, 2, 3, 1, 109, 1, 1, 2, 1, 97, 1, 120, 0]⟩)).bind fun v32 =>
some ([v32], r31.2)) (some ([undef], r31.2))).bind fun q33 =>
(apick v29 (getL q33.1 0) (.bool false)).bind fun v34 =>
(guardV v34 true (some ([v8], q33.2)) (some ([undef], q33.2))).bind fun q35 =>
(guardV v34 true ((abin Try.prog .eql 30 (.tmp 49) (.const (.int .i64 0)) (getL q35.1 0) (.int .i64 0)).bind fun v36 =>
some ([v36], q35.2)) (some ([undef], q35.2))).bind fun q37 =>
(apick v34 (getL q37.1 0) (.bool false)).bind fun v38 =>
(guardV v38 true ((lload true 5 lptr v12).bind fun v39 =>
some ([v39], q37.2)) (some ([undef], q37.2))).bind fun q40 =>
((guardV v38 true ((callV Try.prog R (.func (.func 20) #[] #[]) [] q40.2).bind fun r70 =>
some (r70.1, r70.2)) (some (undef, q40.2))).bind (ownR q40.2)).bind fun r41 =>
((guardV v38 true ((callV Try.prog R (.func (.func 10) #[] #[]) [(getL q40.1 0), r41.1] r41.2).bind fun r69 =>
some (r69.1, r69.2)) (some (undef, r41.2))).bind (ownR r41.2)).bind fun r42 =>
(apick v38 r42.1 (.bool false)).bind fun v43 =>
(guardV v43 true (some ([v11], r42.2)) (some ([undef], r42.2))).bind fun q44 =>
(guardV v43 true ((abin Try.prog .eql 30 (.tmp 58) (.const (.int .i64 0)) (getL q44.1 0) (.int .i64 0)).bind fun v45 =>
some ([v45], q44.2)) (some ([undef], q44.2))).bind fun q46 =>
(apick v43 (getL q46.1 0) (.bool false)).bind fun v47 =>
(guardV v47 true ((lload true 5 lptr v14).bind fun v48 =>
some ([v48], q46.2)) (some ([undef], q46.2))).bind fun q49 =>
((guardV v47 true ((callV Try.prog R (.func (.func 12) #[] #[]) [(getL q49.1 0)] q49.2).bind fun r68 =>
some (r68.1, r68.2)) (some (undef, q49.2))).bind (ownR q49.2)).bind fun r50 =>
(guardV v47 true ((abin Try.prog .eql 30 (.tmp 63) (.const (.int .i64 130)) r50.1 (.int .i64 130)).bind fun v51 =>
some ([v51], r50.2)) (some ([undef], r50.2))).bind fun q52 =>
(apick v47 (getL q52.1 0) (.bool false)).bind fun v53 =>
((guardV v53 true ((callV Try.prog R (.func (.func 20) #[] #[]) [] q52.2).bind fun r67 =>
some (r67.1, r67.2)) (some (undef, q52.2))).bind (ownR q52.2)).bind fun r54 =>
((guardV v53 true ((callV Try.prog R (.func (.func 13) #[] #[]) [r54.1, (.string ⟨#[109]⟩)] r54.2).bind fun r66 =>
some (r66.1, r66.2)) (some (undef, r54.2))).bind (ownR r54.2)).bind fun r55 =>
(guardV v53 true ((abin Try.prog .eql 3 (.tmp 68) (.const (.int .i64 1)) r55.1 (.int .i64 1)).bind fun v56 =>
some ([v56], r55.2)) (some ([undef], r55.2))).bind fun q57 =>
(apick v53 (getL q57.1 0) (.bool false)).bind fun v58 =>
((guardV v58 true ((callV Try.prog R (.func (.func 20) #[] #[]) [] q57.2).bind fun r65 =>
some (r65.1, r65.2)) (some (undef, q57.2))).bind (ownR q57.2)).bind fun r59 =>
((guardV v58 true ((callV Try.prog R (.func (.func 13) #[] #[]) [r59.1, (.string ⟨#[97]⟩)] r59.2).bind fun r64 =>
some (r64.1, r64.2)) (some (undef, r59.2))).bind (ownR r59.2)).bind fun r60 =>
(guardV v58 true ((abin Try.prog .eql 3 (.tmp 73) (.const (.int .i64 0)) r60.1 (.int .i64 0)).bind fun v61 =>
some ([v61], r60.2)) (some ([undef], r60.2))).bind fun q62 =>
(apick v58 (getL q62.1 0) (.bool false)).bind fun v63 =>
retV [v63] q62.2

theorem law13_live_of {lib : Lib} (hl : lib 7 = none) {s : St} {r : Value × St} (h : law13_live (run Try.prog lib hints)  s = some r) : run Try.prog lib hints 7 [] s = some r :=
  run_of hl Try.func7 (Eq.trans (by kernel_rfl) h)

theorem law13_live_ok : funcOk Try.prog 7 = true := by kernel_rfl
theorem law13_live_call {R : Caller} {xs : List Value} {s : St} : callV Try.prog R (.func (.func 7) #[] #[]) xs s = R 7 xs s := callV_eq law13_live_ok

/-! ### sumpter/node.Decode: 8 -/

noncomputable def node_Decode.j0 (R : Caller) (T : List Value) (s : St) : Option (Value × St) :=
(anilCheck (getL T 1)).bind fun v36 =>
(afieldAddr 1 v36).bind fun v37 =>
(aload false 1 v37 s).bind fun v38 =>
(abin Try.prog .neq 30 (.tmp 61) (.const (.int .i64 0)) v38 (.int .i64 0)).bind fun v39 =>
condV v39
 ((anilCheck (getL T 1)).bind fun v40 =>
(afieldAddr 1 v40).bind fun v41 =>
(((aload false 1 v41 s).bind fun v45 =>
some (v45, s)).bind (ownR s)).bind fun r42 =>
(lstore 5 (getL T 0) (.agg #[(.bool false), (.slice none 0 0), (.slice none 0 0), (.slice none 0 0), (.slice none 0 0)]) (getL T 3)).bind fun v43 =>
(lload true 5 (getL T 0) v43).bind fun v44 =>
retV [v44, r42.1] r42.2)
 ((lload true 5 (getL T 2) (getL T 4)).bind fun v46 =>
(lstore 5 (getL T 0) v46 (getL T 3)).bind fun v47 =>
(lload true 5 (getL T 0) v47).bind fun v48 =>
retV [v48, (.int .i64 0)] s)

noncomputable def node_Decode.j1 (R : Caller) (T : List Value) (s : St) : Option (Value × St) :=
(anilCheck (getL T 1)).bind fun v27 =>
(afieldAddr 1 v27).bind fun v28 =>
(aload false 1 v28 s).bind fun v29 =>
(abin Try.prog .eql 30 (.tmp 51) (.const (.int .i64 0)) v29 (.int .i64 0)).bind fun v30 =>
condV v30
 ((lload true 5 (getL T 2) (getL T 4)).bind fun v31 =>
(callV Try.prog R (.func (.func 12) #[] #[]) [v31] s).bind fun r32 =>
(anilCheck (getL T 1)).bind fun v33 =>
(afieldAddr 1 v33).bind fun v34 =>
(astore 1 v34 r32.1 r32.2).bind fun s35 =>
joinK (node_Decode.j0 R) [(getL T 0), (getL T 1), (getL T 2), (getL T 3), (getL T 4)] s35)
 (joinK (node_Decode.j0 R) [(getL T 0), (getL T 1), (getL T 2), (getL T 3), (getL T 4)] s)

noncomputable def node_Decode.j2 (R : Caller) (T : List Value) (s : St) : Option (Value × St) :=
(anilCheck (getL T 1)).bind fun v14 =>
(afieldAddr 1 v14).bind fun v15 =>
(aload false 1 v15 s).bind fun v16 =>
(abin Try.prog .eql 30 (.tmp 36) (.const (.int .i64 0)) v16 (.int .i64 0)).bind fun v17 =>
(guardV v17 true ((anilCheck (getL T 1)).bind fun v18 =>
(afieldAddr 0 v18).bind fun v19 =>
(aload false 1 v19 s).bind fun v20 =>
(alenV (.slice 5) v20 s).bind fun v21 =>
(abin Try.prog .gtr 3 (.tmp 43) (.const (.int .i64 0)) v21 (.int .i64 0)).bind fun v22 =>
some ([v22], s)) (some ([undef], s))).bind fun q23 =>
(apick v17 (getL q23.1 0) (.bool false)).bind fun v24 =>
condV v24
 ((callV Try.prog R (.func (.func 22) #[] #[]) [(getL T 1), (.int .i64 11)] q23.2).bind fun r25 =>
joinK (node_Decode.j1 R) [(getL T 0), (getL T 1), (getL T 2), (getL T 3), (getL T 4)] r25.2)
 (joinK (node_Decode.j1 R) [(getL T 0), (getL T 1), (getL T 2), (getL T 3), (getL T 4)] q23.2)

noncomputable def node_Decode (R : Caller) (x0 : Value) (s : St) : Option (Value × St) :=
(alenV (.slice 5) x0 s).bind fun v0 =>
(abin Try.prog .gtr 3 (.tmp 9) (.const (.int .i64 480)) v0 (.int .i64 480)).bind fun v1 =>
condV v1
 (retV [(.agg #[(.bool false), (.slice none 0 0), (.slice none 0 0), (.slice none 0 0), (.slice none 0 0)]), (.int .i64 2)] s)
 ((abuild Try.prog 50 [(0, x0)]).bind fun v2 =>
(anew (cellsV v2) s).bind fun r3 =>
(callV Try.prog R (.func (.func 21) #[] #[]) [r3.1] r3.2).bind fun r5 =>
(atypeAssert (.agg #[(.slice none 0 0)]) 53 r5.1).bind fun v6 =>
(aextract 1 v6).bind fun v7 =>
(aextract 0 v6).bind fun v8 =>
condV v7
 ((lstore 1 lptr v8 (.agg #[(.slice none 0 0)])).bind fun v9 =>
(lload false 1 lptr v9).bind fun v10 =>
(abuild Try.prog 29 [(0, (.bool true)), (1, v10)]).bind fun v11 =>
(lstore 5 lptr v11 (.agg #[(.bool false), (.slice none 0 0), (.slice none 0 0), (.slice none 0 0), (.slice none 0 0)])).bind fun v12 =>
joinK (node_Decode.j2 R) [lptr, r3.1, lptr, (.agg #[(.bool false), (.slice none 0 0), (.slice none 0 0), (.slice none 0 0), (.slice none 0 0)]), v12] r5.2)
 ((atypeAssert (.agg #[(.slice none 0 0), (.slice none 0 0), (.slice none 0 0)]) 55 r5.1).bind fun v49 =>
(aextract 1 v49).bind fun v50 =>
(aextract 0 v49).bind fun v51 =>
condV v50
 ((lstore 3 lptr v51 (.agg #[(.slice none 0 0), (.slice none 0 0), (.slice none 0 0)])).bind fun v52 =>
(lload false 1 lptr v52).bind fun v53 =>
(lload false 1 (.pointer (some ⟨0, 1, none⟩)) v52).bind fun v54 =>
(lload false 1 (.pointer (some ⟨0, 2, none⟩)) v52).bind fun v55 =>
(abuild Try.prog 29 [(2, v53), (3, v54), (4, v55)]).bind fun v56 =>
(lstore 5 lptr v56 (.agg #[(.bool false), (.slice none 0 0), (.slice none 0 0), (.slice none 0 0), (.slice none 0 0)])).bind fun v57 =>
joinK (node_Decode.j2 R) [lptr, r3.1, lptr, (.agg #[(.bool false), (.slice none 0 0), (.slice none 0 0), (.slice none 0 0), (.slice none 0 0)]), v57] r5.2)
 (joinK (node_Decode.j2 R) [lptr, r3.1, lptr, (.agg #[(.bool false), (.slice none 0 0), (.slice none 0 0), (.slice none 0 0), (.slice none 0 0)]), (.agg #[(.bool false), (.slice none 0 0), (.slice none 0 0), (.slice none 0 0), (.slice none 0 0)])] r5.2)))

theorem node_Decode_of {lib : Lib} (hl : lib 8 = none) {x0 : Value} {s : St} {r : Value × St} (h : node_Decode (run Try.prog lib hints) x0 s = some r) : run Try.prog lib hints 8 [x0] s = some r :=
  run_of hl Try.func8 (Eq.trans (by kernel_rfl) h)

theorem node_Decode_ok : funcOk Try.prog 8 = true := by kernel_rfl
theorem node_Decode_call {R : Caller} {xs : List Value} {s : St} : callV Try.prog R (.func (.func 8) #[] #[]) xs s = R 8 xs s := callV_eq node_Decode_ok

/-! ### sumpter/node.Check: 12 -/

noncomputable def node_Check.b0 (R : Caller) (T : List Value) (s : St) : Res :=
(abin Try.prog .lss 3 (.tmp 73) (.tmp 72) (getL T 3) (getL T 2)).bind fun v59 =>
condV v59
 ((aindexS 1 (getL T 1) (getL T 3)).bind fun v60 =>
(aload false 1 v60 s).bind fun v61 =>
(callV Try.prog R (.func (.func 30) #[] #[]) [v61] s).bind fun r62 =>
(abin Try.prog .neq 30 (.tmp 79) (.const (.int .i64 0)) r62.1 (.int .i64 0)).bind fun v63 =>
(guardV v63 false ((abin Try.prog .gtr 3 (.tmp 82) (.const (.int .i64 0)) (getL T 3) (.int .i64 0)).bind fun v64 =>
some ([v64], r62.2)) (some ([undef], r62.2))).bind fun q65 =>
(guardV (getL q65.1 0) true ((afieldAddr 3 (getL T 0)).bind fun v66 =>
(aload false 1 v66 q65.2).bind fun v67 =>
(abin Try.prog .sub 3 (.tmp 87) (.const (.int .i64 1)) (getL T 3) (.int .i64 1)).bind fun v68 =>
(aindexS 1 v67 v68).bind fun v69 =>
(aload false 1 v69 q65.2).bind fun v70 =>
(abin Try.prog .geq 9 (.tmp 90) (.tmp 91) v70 v61).bind fun v71 =>
some ([v71], q65.2)) (some ([undef], q65.2))).bind fun q72 =>
(guardV v63 false ((apick (getL q65.1 0) (getL q72.1 0) (.bool false)).bind fun v73 =>
some ([v73], q72.2)) (some ([undef], q72.2))).bind fun q74 =>
(apick v63 (.bool true) (getL q74.1 0)).bind fun v75 =>
condV v75
 (some (.ret, [(.int .i64 130)], q74.2))
 ((abin Try.prog .add 3 (.tmp 73) (.const (.int .i64 1)) (getL T 3) (.int .i64 1)).bind fun v76 =>
some (.normal, [(getL T 0), (getL T 1), (getL T 2), v76], q74.2)))
 (some (.exit 0, [(getL T 0)], s))

noncomputable def node_Check.b1 (R : Caller) (T : List Value) (s : St) : Res :=
(abin Try.prog .lss 3 (.tmp 99) (.tmp 98) (getL T 3) (getL T 2)).bind fun v81 =>
condV v81
 ((aindexS 1 (getL T 1) (getL T 3)).bind fun v82 =>
(aload false 1 v82 s).bind fun v83 =>
(callV Try.prog R (.func (.func 31) #[] #[]) [v83] s).bind fun r84 =>
(abin Try.prog .neq 30 (.tmp 105) (.const (.int .i64 0)) r84.1 (.int .i64 0)).bind fun v85 =>
condV v85
 (some (.ret, [r84.1], r84.2))
 ((abin Try.prog .add 3 (.tmp 99) (.const (.int .i64 1)) (getL T 3) (.int .i64 1)).bind fun v86 =>
some (.normal, [(getL T 0), (getL T 1), (getL T 2), v86], r84.2)))
 (some (.exit 2, [(getL T 0)], s))

noncomputable def node_Check.b2 (R : Caller) (T : List Value) (s : St) : Res :=
(abin Try.prog .lss 3 (.tmp 112) (.tmp 111) (getL T 3) (getL T 2)).bind fun v91 =>
condV v91
 ((aindexS 1 (getL T 1) (getL T 3)).bind fun v92 =>
(aload false 1 v92 s).bind fun v93 =>
(anew [(.int .i64 0)] s).bind fun r94 =>
(astore 1 r94.1 (getL T 3) r94.2).bind fun s95 =>
(amkFunc 33 [] [(getL T 0), r94.1]).bind fun v96 =>
(callV Try.prog R (.func (.func 32) #[] #[]) [v93, v96] s95).bind fun r97 =>
condV r97.1
 (some (.ret, [(.int .i64 130)], r97.2))
 ((abin Try.prog .add 3 (.tmp 112) (.const (.int .i64 1)) (getL T 3) (.int .i64 1)).bind fun v98 =>
some (.normal, [(getL T 0), (getL T 1), (getL T 2), v98], r97.2)))
 (some (.exit 4, [], s))

noncomputable def node_Check (R : Caller) (x0 : Value) (s : St) : Option (Value × St) :=
(anew (cellsV x0) s).bind fun r0 =>
(afieldAddr 0 r0.1).bind fun v1 =>
(aload false 1 v1 r0.2).bind fun v2 =>
condV v2
 ((afieldAddr 2 r0.1).bind fun v3 =>
(aload false 1 v3 r0.2).bind fun v4 =>
(alenV (.slice 3) v4 r0.2).bind fun v5 =>
(afieldAddr 3 r0.1).bind fun v6 =>
(aload false 1 v6 r0.2).bind fun v7 =>
(alenV (.slice 9) v7 r0.2).bind fun v8 =>
(abin Try.prog .add 3 (.tmp 15) (.tmp 18) v5 v8).bind fun v9 =>
(afieldAddr 4 r0.1).bind fun v10 =>
(aload false 1 v10 r0.2).bind fun v11 =>
(alenV (.slice 47) v11 r0.2).bind fun v12 =>
(abin Try.prog .add 3 (.tmp 19) (.tmp 22) v9 v12).bind fun v13 =>
(abin Try.prog .gtr 3 (.tmp 23) (.const (.int .i64 0)) v13 (.int .i64 0)).bind fun v14 =>
condV v14
 (retV [(.int .i64 130)] r0.2)
 ((afieldAddr 1 r0.1).bind fun v15 =>
(aload false 1 v15 r0.2).bind fun v16 =>
(callV Try.prog R (.func (.func 27) #[] #[]) [v16] r0.2).bind fun r17 =>
retV [r17.1] r17.2))
 ((afieldAddr 2 r0.1).bind fun v18 =>
(aload false 1 v18 r0.2).bind fun v19 =>
(alenV (.slice 3) v19 r0.2).bind fun v20 =>
(afieldAddr 1 r0.1).bind fun v21 =>
(aload false 1 v21 r0.2).bind fun v22 =>
(alenV (.slice 45) v22 r0.2).bind fun v23 =>
(abin Try.prog .gtr 3 (.tmp 33) (.const (.int .i64 0)) v23 (.int .i64 0)).bind fun v24 =>
(guardV v24 false ((abin Try.prog .lss 3 (.tmp 36) (.const (.int .i64 2)) v20 (.int .i64 2)).bind fun v25 =>
some ([v25], r0.2)) (some ([undef], r0.2))).bind fun q26 =>
(apick v24 (.bool true) (getL q26.1 0)).bind fun v27 =>
(guardV v27 false ((abin Try.prog .gtr 3 (.tmp 40) (.const (.int .i64 8)) v20 (.int .i64 8)).bind fun v28 =>
some ([v28], q26.2)) (some ([undef], q26.2))).bind fun q29 =>
(apick v27 (.bool true) (getL q29.1 0)).bind fun v30 =>
(guardV v30 false ((afieldAddr 3 r0.1).bind fun v31 =>
(aload false 1 v31 q29.2).bind fun v32 =>
(alenV (.slice 9) v32 q29.2).bind fun v33 =>
(abin Try.prog .sub 3 (.tmp 47) (.const (.int .i64 1)) v20 (.int .i64 1)).bind fun v34 =>
(abin Try.prog .neq 3 (.tmp 46) (.tmp 48) v33 v34).bind fun v35 =>
some ([v35], q29.2)) (some ([undef], q29.2))).bind fun q36 =>
(apick v30 (.bool true) (getL q36.1 0)).bind fun v37 =>
(guardV v37 false ((afieldAddr 4 r0.1).bind fun v38 =>
(aload false 1 v38 q36.2).bind fun v39 =>
(alenV (.slice 47) v39 q36.2).bind fun v40 =>
(abin Try.prog .neq 3 (.tmp 54) (.tmp 55) v40 v20).bind fun v41 =>
some ([v41], q36.2)) (some ([undef], q36.2))).bind fun q42 =>
(apick v37 (.bool true) (getL q42.1 0)).bind fun v43 =>
(guardV v43 false ((afieldAddr 2 r0.1).bind fun v44 =>
(aload false 1 v44 q42.2).bind fun v45 =>
(callV Try.prog R (.func (.func 28) #[] #[]) [v45] q42.2).bind fun r46 =>
(abin Try.prog .lss 3 (.tmp 61) (.const (.int .i64 1)) r46.1 (.int .i64 1)).bind fun v47 =>
some ([v47], r46.2)) (some ([undef], q42.2))).bind fun q48 =>
(apick v43 (.bool true) (getL q48.1 0)).bind fun v49 =>
(guardV v49 false ((afieldAddr 2 r0.1).bind fun v50 =>
(aload false 1 v50 q48.2).bind fun v51 =>
(callV Try.prog R (.func (.func 29) #[] #[]) [v51] q48.2).bind fun r52 =>
(abin Try.prog .gtr 3 (.tmp 67) (.const (.int .i64 2147483647)) r52.1 (.int .i64 2147483647)).bind fun v53 =>
some ([v53], r52.2)) (some ([undef], q48.2))).bind fun q54 =>
(apick v49 (.bool true) (getL q54.1 0)).bind fun v55 =>
condV v55
 (retV [(.int .i64 130)] q54.2)
 ((afieldAddr 3 r0.1).bind fun v56 =>
(aload false 1 v56 q54.2).bind fun v57 =>
(alenV (.slice 9) v57 q54.2).bind fun v58 =>
(loopL (node_Check.b0 R) [r0.1, v57, v58, (.int .i64 0)] q54.2).bind fun r77 =>
exV r77.1 [(0, (afieldAddr 4 (getL r77.2.1 0)).bind fun v78 =>
(aload false 1 v78 r77.2.2).bind fun v79 =>
(alenV (.slice 47) v79 r77.2.2).bind fun v80 =>
(loopL (node_Check.b1 R) [(getL r77.2.1 0), v79, v80, (.int .i64 0)] r77.2.2).bind fun r87 =>
exV r87.1 [(2, (afieldAddr 4 (getL r87.2.1 0)).bind fun v88 =>
(aload false 1 v88 r87.2.2).bind fun v89 =>
(alenV (.slice 47) v89 r87.2.2).bind fun v90 =>
(loopL (node_Check.b2 R) [(getL r87.2.1 0), v89, v90, (.int .i64 0)] r87.2.2).bind fun r99 =>
exV r99.1 [(4, retV [(.int .i64 0)] r99.2.2)]
 (retV [(getL r99.2.1 0)] r99.2.2))]
 (retV [(getL r87.2.1 0)] r87.2.2))]
 (retV [(getL r77.2.1 0)] r77.2.2)))

theorem node_Check_of {lib : Lib} (hl : lib 12 = none) {x0 : Value} {s : St} {r : Value × St} (h : node_Check (run Try.prog lib hints) x0 s = some r) : run Try.prog lib hints 12 [x0] s = some r :=
  run_of hl Try.func12 (Eq.trans (by kernel_rfl) h)

theorem node_Check_ok : funcOk Try.prog 12 = true := by kernel_rfl
theorem node_Check_call {R : Caller} {xs : List Value} {s : St} : callV Try.prog R (.func (.func 12) #[] #[]) xs s = R 12 xs s := callV_eq node_Check_ok

/-! ### sumpter/node.Child: 13 -/

noncomputable def node_Child.j0 (R : Caller) (T : List Value) (s : St) : Res :=
(abin Try.prog .add 3 (.tmp 13) (.const (.int .i64 1)) (getL T 4) (.int .i64 1)).bind fun v10 =>
some (.normal, [(getL T 0), (getL T 1), (getL T 2), (getL T 3), v10], s)

noncomputable def node_Child.b0 (R : Caller) (T : List Value) (s : St) : Res :=
(abin Try.prog .lss 3 (.tmp 13) (.tmp 12) (getL T 4) (getL T 3)).bind fun v4 =>
condV v4
 ((aindexS 1 (getL T 2) (getL T 4)).bind fun v6 =>
(aload false 1 v6 s).bind fun v7 =>
(abin Try.prog .leq 9 (.tmp 17) (.tmp 18) v7 (getL T 0)).bind fun v8 =>
condV v8
 ((abin Try.prog .add 3 (.tmp 20) (.const (.int .i64 1)) (getL T 1) (.int .i64 1)).bind fun v9 =>
joinK (node_Child.j0 R) [(getL T 0), v9, (getL T 2), (getL T 3), (getL T 4)] s)
 (joinK (node_Child.j0 R) [(getL T 0), (getL T 1), (getL T 2), (getL T 3), (getL T 4)] s))
 (some (.exit 0, [(getL T 1)], s))

noncomputable def node_Child (R : Caller) (x0 x1 : Value) (s : St) : Option (Value × St) :=
(lbox x0).bind fun v0 =>
(lload false 1 lptr v0).bind fun v1 =>
condV v1
 (retV [(.int .i64 0)] s)
 ((lload false 1 (.pointer (some ⟨0, 3, none⟩)) v0).bind fun v2 =>
(alenV (.slice 9) v2 s).bind fun v3 =>
(loopL (node_Child.b0 R) [x1, (.int .i64 0), v2, v3, (.int .i64 0)] s).bind fun r11 =>
exV r11.1 [(0, retV [(getL r11.2.1 0)] r11.2.2)]
 (none))

theorem node_Child_of {lib : Lib} (hl : lib 13 = none) {x0 x1 : Value} {s : St} {r : Value × St} (h : node_Child (run Try.prog lib hints) x0 x1 s = some r) : run Try.prog lib hints 13 [x0, x1] s = some r :=
  run_of hl Try.func13 (Eq.trans (by kernel_rfl) h)

theorem node_Child_ok : funcOk Try.prog 13 = true := by kernel_rfl
theorem node_Child_call {R : Caller} {xs : List Value} {s : St} : callV Try.prog R (.func (.func 13) #[] #[]) xs s = R 13 xs s := callV_eq node_Child_ok

/-! ### sumpter/node.Encode: 14 -/

noncomputable def node_Encode (R : Caller) (x0 : Value) (s : St) : Option (Value × St) :=
(lbox x0).bind fun v0 =>
(lload true 5 lptr v0).bind fun v1 =>
(callV Try.prog R (.func (.func 12) #[] #[]) [v1] s).bind fun r2 =>
(abin Try.prog .neq 30 (.tmp 8) (.const (.int .i64 0)) r2.1 (.int .i64 0)).bind fun v3 =>
condV v3
 (retV [(.slice none 0 0), r2.1] r2.2)
 ((lload true 5 lptr v0).bind fun v4 =>
(callV Try.prog R (.func (.func 36) #[] #[]) [v4] r2.2).bind fun r5 =>
(alenV (.slice 5) r5.1 r5.2).bind fun v6 =>
(abin Try.prog .gtr 3 (.tmp 14) (.const (.int .i64 480)) v6 (.int .i64 480)).bind fun v7 =>
condV v7
 (retV [(.slice none 0 0), (.int .i64 2)] r5.2)
 (retV [r5.1, (.int .i64 0)] r5.2))

theorem node_Encode_of {lib : Lib} (hl : lib 14 = none) {x0 : Value} {s : St} {r : Value × St} (h : node_Encode (run Try.prog lib hints) x0 s = some r) : run Try.prog lib hints 14 [x0] s = some r :=
  run_of hl Try.func14 (Eq.trans (by kernel_rfl) h)

theorem node_Encode_ok : funcOk Try.prog 14 = true := by kernel_rfl
theorem node_Encode_call {R : Caller} {xs : List Value} {s : St} : callV Try.prog R (.func (.func 14) #[] #[]) xs s = R 14 xs s := callV_eq node_Encode_ok

/-! ### sumpter/sumpterref13.Encode: 15 -/

noncomputable def ref13_Encode (R : Caller) (x0 : Value) (s : St) : Option (Value × St) :=
(lbox x0).bind fun v0 =>
(lload true 5 lptr v0).bind fun v1 =>
(callV Try.prog R (.func (.func 17) #[] #[]) [v1] s).bind fun r2 =>
(aextract 0 r2.1).bind fun v3 =>
(aextract 1 r2.1).bind fun v4 =>
(abin Try.prog .neq 30 (.tmp 11) (.const (.int .i64 0)) v4 (.int .i64 0)).bind fun v5 =>
condV v5
 (retV [(.slice none 0 0), v4] r2.2)
 ((abin Try.prog .gtr 3 (.tmp 14) (.const (.int .i64 480)) v3 (.int .i64 480)).bind fun v6 =>
condV v6
 (retV [(.slice none 0 0), (.int .i64 2)] r2.2)
 ((lload true 5 lptr v0).bind fun v7 =>
(callV Try.prog R (.func (.func 37) #[] #[]) [v7] r2.2).bind fun r8 =>
retV [r8.1, (.int .i64 0)] r8.2))

theorem ref13_Encode_of {lib : Lib} (hl : lib 15 = none) {x0 : Value} {s : St} {r : Value × St} (h : ref13_Encode (run Try.prog lib hints) x0 s = some r) : run Try.prog lib hints 15 [x0] s = some r :=
  run_of hl Try.func15 (Eq.trans (by kernel_rfl) h)

theorem ref13_Encode_ok : funcOk Try.prog 15 = true := by kernel_rfl
theorem ref13_Encode_call {R : Caller} {xs : List Value} {s : St} : callV Try.prog R (.func (.func 15) #[] #[]) xs s = R 15 xs s := callV_eq ref13_Encode_ok

/-! ### sumpter/node.Size: 16 -/

noncomputable def node_Size (R : Caller) (x0 : Value) (s : St) : Option (Value × St) :=
(lbox x0).bind fun v0 =>
(lload true 5 lptr v0).bind fun v1 =>
(callV Try.prog R (.func (.func 12) #[] #[]) [v1] s).bind fun r2 =>
(abin Try.prog .neq 30 (.tmp 7) (.const (.int .i64 0)) r2.1 (.int .i64 0)).bind fun v3 =>
condV v3
 (retV [(.int .i64 0), r2.1] r2.2)
 ((lload true 5 lptr v0).bind fun v4 =>
(callV Try.prog R (.func (.func 36) #[] #[]) [v4] r2.2).bind fun r5 =>
(alenV (.slice 5) r5.1 r5.2).bind fun v6 =>
retV [v6, (.int .i64 0)] r5.2)

theorem node_Size_of {lib : Lib} (hl : lib 16 = none) {x0 : Value} {s : St} {r : Value × St} (h : node_Size (run Try.prog lib hints) x0 s = some r) : run Try.prog lib hints 16 [x0] s = some r :=
  run_of hl Try.func16 (Eq.trans (by kernel_rfl) h)

theorem node_Size_ok : funcOk Try.prog 16 = true := by kernel_rfl
theorem node_Size_call {R : Caller} {xs : List Value} {s : St} : callV Try.prog R (.func (.func 16) #[] #[]) xs s = R 16 xs s := callV_eq node_Size_ok

/-! ### sumpter/sumpterref13.Size: 17 -/

noncomputable def ref13_Size (R : Caller) (x0 : Value) (s : St) : Option (Value × St) :=
(lbox x0).bind fun v0 =>
(lload true 5 lptr v0).bind fun v1 =>
(callV Try.prog R (.func (.func 18) #[] #[]) [v1] s).bind fun r2 =>
(abin Try.prog .neq 30 (.tmp 7) (.const (.int .i64 0)) r2.1 (.int .i64 0)).bind fun v3 =>
condV v3
 (retV [(.int .i64 0), r2.1] r2.2)
 ((lload true 5 lptr v0).bind fun v4 =>
(callV Try.prog R (.func (.func 37) #[] #[]) [v4] r2.2).bind fun r5 =>
(alenV (.slice 5) r5.1 r5.2).bind fun v6 =>
retV [v6, (.int .i64 0)] r5.2)

theorem ref13_Size_of {lib : Lib} (hl : lib 17 = none) {x0 : Value} {s : St} {r : Value × St} (h : ref13_Size (run Try.prog lib hints) x0 s = some r) : run Try.prog lib hints 17 [x0] s = some r :=
  run_of hl Try.func17 (Eq.trans (by kernel_rfl) h)

theorem ref13_Size_ok : funcOk Try.prog 17 = true := by kernel_rfl
theorem ref13_Size_call {R : Caller} {xs : List Value} {s : St} : callV Try.prog R (.func (.func 17) #[] #[]) xs s = R 17 xs s := callV_eq ref13_Size_ok

/-! ### sumpter/sumpterref13.Check: 18 -/

noncomputable def ref13_Check.b0 (R : Caller) (T : List Value) (s : St) : Res :=
(abin Try.prog .lss 3 (.tmp 68) (.tmp 67) (getL T 3) (getL T 2)).bind fun v43 =>
condV v43
 ((aindexS 1 (getL T 1) (getL T 3)).bind fun v44 =>
(aload false 1 v44 s).bind fun v45 =>
(abin Try.prog .lss 3 (.tmp 72) (.const (.int .i64 1)) v45 (.int .i64 1)).bind fun v46 =>
(guardV v46 false ((abin Try.prog .gtr 3 (.tmp 75) (.const (.int .i64 2147483647)) v45 (.int .i64 2147483647)).bind fun v47 =>
some ([v47], s)) (some ([undef], s))).bind fun q48 =>
(apick v46 (.bool true) (getL q48.1 0)).bind fun v49 =>
condV v49
 (some (.ret, [(.int .i64 130)], q48.2))
 ((abin Try.prog .add 3 (.tmp 68) (.const (.int .i64 1)) (getL T 3) (.int .i64 1)).bind fun v50 =>
some (.normal, [(getL T 0), (getL T 1), (getL T 2), v50, (getL T 4)], q48.2)))
 (some (.exit 0, [(getL T 0), (getL T 4)], s))

noncomputable def ref13_Check.b1 (R : Caller) (T : List Value) (s : St) : Res :=
(abin Try.prog .lss 3 (.tmp 86) (.tmp 85) (getL T 3) (getL T 2)).bind fun v59 =>
condV v59
 ((aindexS 1 (getL T 1) (getL T 3)).bind fun v60 =>
(aload false 1 v60 s).bind fun v61 =>
(callV Try.prog R (.func (.func 40) #[] #[]) [v61] s).bind fun r62 =>
(abin Try.prog .neq 30 (.tmp 92) (.const (.int .i64 0)) r62.1 (.int .i64 0)).bind fun v63 =>
condV v63
 (some (.ret, [r62.1], r62.2))
 ((abin Try.prog .add 3 (.tmp 86) (.const (.int .i64 1)) (getL T 3) (.int .i64 1)).bind fun v64 =>
some (.normal, [(getL T 0), (getL T 1), (getL T 2), v64, (getL T 4)], r62.2)))
 (some (.exit 2, [(getL T 0), (getL T 4)], s))

noncomputable def ref13_Check.b3 (R : Caller) (T : List Value) (s : St) : Res :=
(abin Try.prog .lss 3 (.tmp 110) (.tmp 109) (getL T 7) (getL T 6)).bind fun v77 =>
condV v77
 ((aindexS 7 (getL T 5) (getL T 7)).bind fun v78 =>
(aload true 7 v78 s).bind fun v79 =>
(lstore 7 lptr v79 (.agg #[(.int .u64 0), (.int .i64 0), (.string ⟨#[]⟩), (.string ⟨#[]⟩), (.string ⟨#[]⟩), (.string ⟨#[]⟩), (.int .i64 0)])).bind fun v80 =>
(lload false 1 (.pointer (some ⟨0, 1, none⟩)) v80).bind fun v81 =>
(abin Try.prog .eql 3 (.tmp 116) (.const (.int .i64 5)) v81 (.int .i64 5)).bind fun v82 =>
(guardV v82 true ((lload true 2 (getL T 1) (getL T 9)).bind fun v83 =>
(lload false 1 (.pointer (some ⟨0, 4, none⟩)) v80).bind fun v84 =>
(lload false 1 (.pointer (some ⟨0, 5, none⟩)) v80).bind fun v85 =>
(abuild Try.prog 74 [(0, v84), (1, v85)]).bind fun v86 =>
(callV Try.prog R (.func (.func 42) #[] #[]) [v83, v86] s).bind fun r87 =>
(aun .not r87.1).bind fun v88 =>
some ([v88], r87.2)) (some ([undef], s))).bind fun q89 =>
(apick v82 (getL q89.1 0) (.bool false)).bind fun v90 =>
(guardV v90 false ((lload false 1 (.pointer (some ⟨0, 1, none⟩)) v80).bind fun v91 =>
(abin Try.prog .neq 3 (.tmp 133) (.const (.int .i64 5)) v91 (.int .i64 5)).bind fun v92 =>
some ([v92], q89.2)) (some ([undef], q89.2))).bind fun q93 =>
(guardV (getL q93.1 0) true ((lload true 2 (getL T 1) (getL T 9)).bind fun v94 =>
(lload false 1 (.pointer (some ⟨0, 2, none⟩)) v80).bind fun v95 =>
(callV Try.prog R (.func (.func 43) #[] #[]) [v94, v95] q93.2).bind fun r96 =>
(aun .not r96.1).bind fun v97 =>
some ([v97], r96.2)) (some ([undef], q93.2))).bind fun q98 =>
(guardV v90 false ((apick (getL q93.1 0) (getL q98.1 0) (.bool false)).bind fun v99 =>
some ([v99], q98.2)) (some ([undef], q98.2))).bind fun q100 =>
(apick v90 (.bool true) (getL q100.1 0)).bind fun v101 =>
condV v101
 (some (.ret, [(.int .i64 130)], q100.2))
 ((abin Try.prog .add 3 (.tmp 110) (.const (.int .i64 1)) (getL T 7) (.int .i64 1)).bind fun v102 =>
some (.normal, [(getL T 0), (getL T 1), (getL T 2), (getL T 3), (getL T 4), (getL T 5), (getL T 6), v102, (getL T 8), (getL T 9)], q100.2)))
 (some (.exit 6, [(getL T 0), (getL T 2), (getL T 3), (getL T 4), (getL T 8)], s))

noncomputable def ref13_Check.b2 (R : Caller) (T : List Value) (s : St) : Res :=
(abin Try.prog .lss 3 (.tmp 99) (.tmp 98) (getL T 3) (getL T 2)).bind fun v69 =>
condV v69
 ((aindexS 1 (getL T 1) (getL T 3)).bind fun v70 =>
(aload false 1 v70 s).bind fun v71 =>
(afieldAddr 3 (getL T 0)).bind fun v72 =>
(lload false 1 v72 (getL T 4)).bind fun v73 =>
(callV Try.prog R (.func (.func 41) #[] #[]) [v73, (getL T 3)] s).bind fun r74 =>
(lstore 2 lptr r74.1 (.agg #[(.string ⟨#[]⟩), (.string ⟨#[]⟩)])).bind fun v75 =>
(alenV (.slice 66) v71 r74.2).bind fun v76 =>
(loopL (ref13_Check.b3 R) [(getL T 0), lptr, (getL T 1), (getL T 2), (getL T 3), v71, v76, (.int .i64 0), (getL T 4), v75] r74.2).bind fun r103 =>
exV r103.1 [(6, (abin Try.prog .add 3 (.tmp 99) (.const (.int .i64 1)) (getL r103.2.1 3) (.int .i64 1)).bind fun v104 =>
some (.normal, [(getL r103.2.1 0), (getL r103.2.1 1), (getL r103.2.1 2), v104, (getL r103.2.1 4)], r103.2.2))]
 (some (.ret, [(getL r103.2.1 0)], r103.2.2)))
 (some (.exit 4, [], s))

noncomputable def ref13_Check (R : Caller) (x0 : Value) (s : St) : Option (Value × St) :=
(lbox x0).bind fun v0 =>
(lload false 1 lptr v0).bind fun v1 =>
condV v1
 ((lload false 1 (.pointer (some ⟨0, 2, none⟩)) v0).bind fun v2 =>
(alenV (.slice 3) v2 s).bind fun v3 =>
(lload false 1 (.pointer (some ⟨0, 3, none⟩)) v0).bind fun v4 =>
(alenV (.slice 9) v4 s).bind fun v5 =>
(abin Try.prog .add 3 (.tmp 17) (.tmp 20) v3 v5).bind fun v6 =>
(lload false 1 (.pointer (some ⟨0, 4, none⟩)) v0).bind fun v7 =>
(alenV (.slice 47) v7 s).bind fun v8 =>
(abin Try.prog .add 3 (.tmp 21) (.tmp 24) v6 v8).bind fun v9 =>
(abin Try.prog .gtr 3 (.tmp 25) (.const (.int .i64 0)) v9 (.int .i64 0)).bind fun v10 =>
condV v10
 (retV [(.int .i64 130)] s)
 ((lload false 1 (.pointer (some ⟨0, 1, none⟩)) v0).bind fun v11 =>
(callV Try.prog R (.func (.func 38) #[] #[]) [v11] s).bind fun r12 =>
retV [r12.1] r12.2))
 ((lload false 1 (.pointer (some ⟨0, 1, none⟩)) v0).bind fun v13 =>
(alenV (.slice 45) v13 s).bind fun v14 =>
(abin Try.prog .gtr 3 (.tmp 32) (.const (.int .i64 0)) v14 (.int .i64 0)).bind fun v15 =>
(guardV v15 false ((lload false 1 (.pointer (some ⟨0, 2, none⟩)) v0).bind fun v16 =>
(alenV (.slice 3) v16 s).bind fun v17 =>
(abin Try.prog .lss 3 (.tmp 37) (.const (.int .i64 2)) v17 (.int .i64 2)).bind fun v18 =>
some ([v18], s)) (some ([undef], s))).bind fun q19 =>
(apick v15 (.bool true) (getL q19.1 0)).bind fun v20 =>
(guardV v20 false ((lload false 1 (.pointer (some ⟨0, 2, none⟩)) v0).bind fun v21 =>
(alenV (.slice 3) v21 q19.2).bind fun v22 =>
(abin Try.prog .gtr 3 (.tmp 43) (.const (.int .i64 8)) v22 (.int .i64 8)).bind fun v23 =>
some ([v23], q19.2)) (some ([undef], q19.2))).bind fun q24 =>
(apick v20 (.bool true) (getL q24.1 0)).bind fun v25 =>
(guardV v25 false ((lload false 1 (.pointer (some ⟨0, 3, none⟩)) v0).bind fun v26 =>
(alenV (.slice 9) v26 q24.2).bind fun v27 =>
(lload false 1 (.pointer (some ⟨0, 2, none⟩)) v0).bind fun v28 =>
(alenV (.slice 3) v28 q24.2).bind fun v29 =>
(abin Try.prog .sub 3 (.tmp 52) (.const (.int .i64 1)) v29 (.int .i64 1)).bind fun v30 =>
(abin Try.prog .neq 3 (.tmp 49) (.tmp 53) v27 v30).bind fun v31 =>
some ([v31], q24.2)) (some ([undef], q24.2))).bind fun q32 =>
(apick v25 (.bool true) (getL q32.1 0)).bind fun v33 =>
(guardV v33 false ((lload false 1 (.pointer (some ⟨0, 4, none⟩)) v0).bind fun v34 =>
(alenV (.slice 47) v34 q32.2).bind fun v35 =>
(lload false 1 (.pointer (some ⟨0, 2, none⟩)) v0).bind fun v36 =>
(alenV (.slice 3) v36 q32.2).bind fun v37 =>
(abin Try.prog .neq 3 (.tmp 59) (.tmp 62) v35 v37).bind fun v38 =>
some ([v38], q32.2)) (some ([undef], q32.2))).bind fun q39 =>
(apick v33 (.bool true) (getL q39.1 0)).bind fun v40 =>
condV v40
 (retV [(.int .i64 130)] q39.2)
 ((lload false 1 (.pointer (some ⟨0, 2, none⟩)) v0).bind fun v41 =>
(alenV (.slice 3) v41 q39.2).bind fun v42 =>
(loopL (ref13_Check.b0 R) [lptr, v41, v42, (.int .i64 0), v0] q39.2).bind fun r51 =>
exV r51.1 [(0, (afieldAddr 3 (getL r51.2.1 0)).bind fun v52 =>
(lload false 1 v52 (getL r51.2.1 1)).bind fun v53 =>
(callV Try.prog R (.func (.func 39) #[] #[]) [v53] r51.2.2).bind fun r54 =>
(abin Try.prog .neq 30 (.tmp 81) (.const (.int .i64 0)) r54.1 (.int .i64 0)).bind fun v55 =>
condV v55
 (retV [(.int .i64 130)] r54.2)
 ((afieldAddr 4 (getL r51.2.1 0)).bind fun v56 =>
(lload false 1 v56 (getL r51.2.1 1)).bind fun v57 =>
(alenV (.slice 47) v57 r54.2).bind fun v58 =>
(loopL (ref13_Check.b1 R) [(getL r51.2.1 0), v57, v58, (.int .i64 0), (getL r51.2.1 1)] r54.2).bind fun r65 =>
exV r65.1 [(2, (afieldAddr 4 (getL r65.2.1 0)).bind fun v66 =>
(lload false 1 v66 (getL r65.2.1 1)).bind fun v67 =>
(alenV (.slice 47) v67 r65.2.2).bind fun v68 =>
(loopL (ref13_Check.b2 R) [(getL r65.2.1 0), v67, v68, (.int .i64 0), (getL r65.2.1 1)] r65.2.2).bind fun r105 =>
exV r105.1 [(4, retV [(.int .i64 0)] r105.2.2)]
 (retV [(getL r105.2.1 0)] r105.2.2))]
 (retV [(getL r65.2.1 0)] r65.2.2)))]
 (retV [(getL r51.2.1 0)] r51.2.2)))

theorem ref13_Check_of {lib : Lib} (hl : lib 18 = none) {x0 : Value} {s : St} {r : Value × St} (h : ref13_Check (run Try.prog lib hints) x0 s = some r) : run Try.prog lib hints 18 [x0] s = some r :=
  run_of hl Try.func18 (Eq.trans (by kernel_rfl) h)

theorem ref13_Check_ok : funcOk Try.prog 18 = true := by kernel_rfl
theorem ref13_Check_call {R : Caller} {xs : List Value} {s : St} : callV Try.prog R (.func (.func 18) #[] #[]) xs s = R 18 xs s := callV_eq ref13_Check_ok

/-! ### sumpter/sumpterref13.Child: 19 -/

noncomputable def ref13_Child.j0 (R : Caller) (T : List Value) (s : St) : Res :=
(abin Try.prog .add 3 (.tmp 11) (.const (.int .i64 1)) (getL T 5) (.int .i64 1)).bind fun v14 =>
some (.normal, [(getL T 0), (getL T 1), (getL T 2), (getL T 3), (getL T 4), v14, (getL T 6)], s)

noncomputable def ref13_Child.b0 (R : Caller) (T : List Value) (s : St) : Res :=
(abin Try.prog .lss 3 (.tmp 11) (.tmp 10) (getL T 5) (getL T 4)).bind fun v3 =>
condV v3
 ((aindexS 1 (getL T 3) (getL T 5)).bind fun v5 =>
(aload false 1 v5 s).bind fun v6 =>
(afieldAddr 0 (getL T 1)).bind fun v7 =>
(lload false 1 v7 (getL T 6)).bind fun v8 =>
(aun .not v8).bind fun v9 =>
(guardV v9 true ((abin Try.prog .leq 9 (.tmp 19) (.tmp 20) v6 (getL T 0)).bind fun v10 =>
some ([v10], s)) (some ([undef], s))).bind fun q11 =>
(apick v9 (getL q11.1 0) (.bool false)).bind fun v12 =>
condV v12
 ((abin Try.prog .add 3 (.tmp 23) (.const (.int .i64 1)) (getL T 2) (.int .i64 1)).bind fun v13 =>
joinK (ref13_Child.j0 R) [(getL T 0), (getL T 1), v13, (getL T 3), (getL T 4), (getL T 5), (getL T 6)] q11.2)
 (joinK (ref13_Child.j0 R) [(getL T 0), (getL T 1), (getL T 2), (getL T 3), (getL T 4), (getL T 5), (getL T 6)] q11.2))
 (some (.exit 0, [(getL T 2)], s))

noncomputable def ref13_Child (R : Caller) (x0 x1 : Value) (s : St) : Option (Value × St) :=
(lbox x0).bind fun v0 =>
(lload false 1 (.pointer (some ⟨0, 3, none⟩)) v0).bind fun v1 =>
(alenV (.slice 9) v1 s).bind fun v2 =>
(loopL (ref13_Child.b0 R) [x1, lptr, (.int .i64 0), v1, v2, (.int .i64 0), v0] s).bind fun r15 =>
exV r15.1 [(0, retV [(getL r15.2.1 0)] r15.2.2)]
 (none)

theorem ref13_Child_of {lib : Lib} (hl : lib 19 = none) {x0 x1 : Value} {s : St} {r : Value × St} (h : ref13_Child (run Try.prog lib hints) x0 x1 s = some r) : run Try.prog lib hints 19 [x0, x1] s = some r :=
  run_of hl Try.func19 (Eq.trans (by kernel_rfl) h)

theorem ref13_Child_ok : funcOk Try.prog 19 = true := by kernel_rfl
theorem ref13_Child_call {R : Caller} {xs : List Value} {s : St} : callV Try.prog R (.func (.func 19) #[] #[]) xs s = R 19 xs s := callV_eq ref13_Child_ok

/-! ### (*sumpter/node.reader).read: 21 -/

noncomputable def node_reader_read (R : Caller) (x0 : Value) (s : St) : Option (Value × St) :=
(callV Try.prog R (.func (.func 44) #[] #[]) [x0] s).bind fun r0 =>
(abin Try.prog .eql 5 (.tmp 5) (.const (.int .u8 1)) r0.1 (.int .u8 1)).bind fun v1 =>
condV v1
 ((callV Try.prog R (.func (.func 46) #[] #[]) [x0, (.int .u64 480)] r0.2).bind fun r2 =>
(convInt .i64 r2.1).bind fun v3 =>
(amkFunc 47 [x0] []).bind fun v4 =>
(callV Try.prog R (.func (.func 45) #[] #[]) [x0, v3, v4] r2.2).bind fun r5 =>
(abuild Try.prog 53 [(0, r5.1)]).bind fun v6 =>
(aiface 53 v6).bind fun v7 =>
retV [v7] r5.2)
 ((abin Try.prog .eql 5 (.tmp 5) (.const (.int .u8 2)) r0.1 (.int .u8 2)).bind fun v8 =>
condV v8
 ((callV Try.prog R (.func (.func 46) #[] #[]) [x0, (.int .u64 480)] r0.2).bind fun r9 =>
(convInt .i64 r9.1).bind fun v10 =>
(amkFunc 49 [x0] []).bind fun v11 =>
(callV Try.prog R (.func (.func 48) #[] #[]) [x0, v10, v11] r9.2).bind fun r12 =>
(abin Try.prog .sub 3 (.tmp 28) (.const (.int .i64 1)) v10 (.int .i64 1)).bind fun v13 =>
(amax2 (.int .i64 0) v13).bind fun v14 =>
(amkFunc 51 [x0] []).bind fun v15 =>
(callV Try.prog R (.func (.func 50) #[] #[]) [x0, v14, v15] r12.2).bind fun r16 =>
(amkFunc 53 [x0] []).bind fun v17 =>
(callV Try.prog R (.func (.func 52) #[] #[]) [x0, v10, v17] r16.2).bind fun r18 =>
(abuild Try.prog 55 [(0, r12.1), (1, r16.1), (2, r18.1)]).bind fun v19 =>
(aiface 55 v19).bind fun v20 =>
retV [v20] r18.2)
 ((callV Try.prog R (.func (.func 22) #[] #[]) [x0, (.int .i64 11)] r0.2).bind fun r21 =>
retV [.nilIface] r21.2))

theorem node_reader_read_of {lib : Lib} (hl : lib 21 = none) {x0 : Value} {s : St} {r : Value × St} (h : node_reader_read (run Try.prog lib hints) x0 s = some r) : run Try.prog lib hints 21 [x0] s = some r :=
  run_of hl Try.func21 (Eq.trans (by kernel_rfl) h)

theorem node_reader_read_ok : funcOk Try.prog 21 = true := by kernel_rfl
theorem node_reader_read_call {R : Caller} {xs : List Value} {s : St} : callV Try.prog R (.func (.func 21) #[] #[]) xs s = R 21 xs s := callV_eq node_reader_read_ok

/-! ### (*sumpter/node.reader).fail: 22 -/

noncomputable def node_reader_fail (R : Caller) (x0 x1 : Value) (s : St) : Option (Value × St) :=
(anilCheck x0).bind fun v0 =>
(afieldAddr 1 v0).bind fun v1 =>
(aload false 1 v1 s).bind fun v2 =>
(abin Try.prog .eql 30 (.tmp 7) (.const (.int .i64 0)) v2 (.int .i64 0)).bind fun v3 =>
condV v3
 ((anilCheck x0).bind fun v4 =>
(afieldAddr 1 v4).bind fun v5 =>
(astore 1 v5 x1 s).bind fun s6 =>
retV [] s6)
 (retV [] s)

theorem node_reader_fail_of {lib : Lib} (hl : lib 22 = none) {x0 x1 : Value} {s : St} {r : Value × St} (h : node_reader_fail (run Try.prog lib hints) x0 x1 s = some r) : run Try.prog lib hints 22 [x0, x1] s = some r :=
  run_of hl Try.func22 (Eq.trans (by kernel_rfl) h)

theorem node_reader_fail_ok : funcOk Try.prog 22 = true := by kernel_rfl
theorem node_reader_fail_call {R : Caller} {xs : List Value} {s : St} : callV Try.prog R (.func (.func 22) #[] #[]) xs s = R 22 xs s := callV_eq node_reader_fail_ok

/-! ### (*sumpter/sumpterref13.R).fail: 24 -/

noncomputable def ref13_R_fail (R : Caller) (x0 x1 : Value) (s : St) : Option (Value × St) :=
(anilCheck x0).bind fun v0 =>
(afieldAddr 1 v0).bind fun v1 =>
(aload false 1 v1 s).bind fun v2 =>
(abin Try.prog .eql 30 (.tmp 7) (.const (.int .i64 0)) v2 (.int .i64 0)).bind fun v3 =>
condV v3
 ((anilCheck x0).bind fun v4 =>
(afieldAddr 1 v4).bind fun v5 =>
(astore 1 v5 x1 s).bind fun s6 =>
retV [] s6)
 (retV [] s)

theorem ref13_R_fail_of {lib : Lib} (hl : lib 24 = none) {x0 x1 : Value} {s : St} {r : Value × St} (h : ref13_R_fail (run Try.prog lib hints) x0 x1 s = some r) : run Try.prog lib hints 24 [x0, x1] s = some r :=
  run_of hl Try.func24 (Eq.trans (by kernel_rfl) h)

theorem ref13_R_fail_ok : funcOk Try.prog 24 = true := by kernel_rfl
theorem ref13_R_fail_call {R : Caller} {xs : List Value} {s : St} : callV Try.prog R (.func (.func 24) #[] #[]) xs s = R 24 xs s := callV_eq ref13_R_fail_ok

/-! ### sumpter/op.CheckMap: 27 -/

noncomputable def op_CheckMap.b0 (R : Caller) (T : List Value) (s : St) : Res :=
(abin Try.prog .lss 3 (.tmp 8) (.tmp 7) (getL T 3) (getL T 2)).bind fun v1 =>
condV v1
 ((aindexS 2 (getL T 1) (getL T 3)).bind fun v2 =>
(aload true 2 v2 s).bind fun v3 =>
(lstore 2 lptr v3 (.agg #[(.string ⟨#[]⟩), (.string ⟨#[]⟩)])).bind fun v4 =>
(lload false 1 lptr v4).bind fun v5 =>
(callV Try.prog R (.func (.func 30) #[] #[]) [v5] s).bind fun r6 =>
(abin Try.prog .neq 30 (.tmp 15) (.const (.int .i64 0)) r6.1 (.int .i64 0)).bind fun v7 =>
condV v7
 (some (.ret, [(.int .i64 20)], r6.2))
 ((lload false 1 (.pointer (some ⟨0, 1, none⟩)) v4).bind fun v8 =>
(alenV .string v8 r6.2).bind fun v9 =>
(abin Try.prog .gtr 3 (.tmp 20) (.const (.int .i64 16)) v9 (.int .i64 16)).bind fun v10 =>
condV v10
 (some (.ret, [(.int .i64 2)], r6.2))
 ((lload false 1 lptr v4).bind fun v11 =>
(abin Try.prog .leq 9 (.tmp 24) (.tmp 25) v11 (getL T 0)).bind fun v12 =>
condV v12
 (some (.ret, [(.int .i64 1)], r6.2))
 ((lload false 1 lptr v4).bind fun v13 =>
(abin Try.prog .add 3 (.tmp 8) (.const (.int .i64 1)) (getL T 3) (.int .i64 1)).bind fun v14 =>
some (.normal, [v13, (getL T 1), (getL T 2), v14], r6.2)))))
 (some (.exit 0, [], s))

noncomputable def op_CheckMap (R : Caller) (x0 : Value) (s : St) : Option (Value × St) :=
(alenV (.slice 45) x0 s).bind fun v0 =>
(loopL (op_CheckMap.b0 R) [(.string ⟨#[]⟩), x0, v0, (.int .i64 0)] s).bind fun r15 =>
exV r15.1 [(0, retV [(.int .i64 0)] r15.2.2)]
 (retV [(getL r15.2.1 0)] r15.2.2)

theorem op_CheckMap_of {lib : Lib} (hl : lib 27 = none) {x0 : Value} {s : St} {r : Value × St} (h : op_CheckMap (run Try.prog lib hints) x0 s = some r) : run Try.prog lib hints 27 [x0] s = some r :=
  run_of hl Try.func27 (Eq.trans (by kernel_rfl) h)

theorem op_CheckMap_ok : funcOk Try.prog 27 = true := by kernel_rfl
theorem op_CheckMap_call {R : Caller} {xs : List Value} {s : St} : callV Try.prog R (.func (.func 27) #[] #[]) xs s = R 27 xs s := callV_eq op_CheckMap_ok

/-! ### slices.Min[[]int,int]: 28 -/

noncomputable def slices_Min_int_int.b0 (R : Caller) (T : List Value) (s : St) : Res :=
(alenV (.slice 3) (getL T 0) s).bind fun v6 =>
(abin Try.prog .lss 3 (.tmp 12) (.tmp 14) (getL T 2) v6).bind fun v7 =>
condV v7
 ((aindexS 1 (getL T 0) (getL T 2)).bind fun v8 =>
(aload false 1 v8 s).bind fun v9 =>
(amin2 (getL T 1) v9).bind fun v10 =>
(abin Try.prog .add 3 (.tmp 16) (.const (.int .i64 1)) (getL T 2) (.int .i64 1)).bind fun v11 =>
some (.normal, [(getL T 0), v10, v11], s))
 (some (.exit 0, [(getL T 1)], s))

noncomputable def slices_Min_int_int.j0 (R : Caller) (T : List Value) (s : St) : Option (Value × St) :=
(aindexS 1 (getL T 0) (.int .i64 0)).bind fun v4 =>
(aload false 1 v4 s).bind fun v5 =>
(loopL (slices_Min_int_int.b0 R) [(getL T 0), v5, (.int .i64 1)] s).bind fun r12 =>
exV r12.1 [(0, retV [(getL r12.2.1 0)] r12.2.2)]
 (none)

noncomputable def slices_Min_int_int (R : Caller) (x0 : Value) (s : St) : Option (Value × St) :=
(alenV (.slice 3) x0 s).bind fun v1 =>
(abin Try.prog .lss 3 (.tmp 6) (.const (.int .i64 1)) v1 (.int .i64 1)).bind fun v2 =>
condV v2
 ((aiface 9 (.string ⟨#[115, 108, 105, 99, 101, 115, 46, 77, 105, 110, 58, 32, 101, 109, 112, 116, 121, 32, 108, 105, 115, 116]⟩)).bind fun v3 =>
none)
 (joinK (slices_Min_int_int.j0 R) [x0] s)

theorem slices_Min_int_int_of {lib : Lib} (hl : lib 28 = none) {x0 : Value} {s : St} {r : Value × St} (h : slices_Min_int_int (run Try.prog lib hints) x0 s = some r) : run Try.prog lib hints 28 [x0] s = some r :=
  run_of hl Try.func28 (Eq.trans (by kernel_rfl) h)

theorem slices_Min_int_int_ok : funcOk Try.prog 28 = true := by kernel_rfl
theorem slices_Min_int_int_call {R : Caller} {xs : List Value} {s : St} : callV Try.prog R (.func (.func 28) #[] #[]) xs s = R 28 xs s := callV_eq slices_Min_int_int_ok

/-! ### slices.Max[[]int,int]: 29 -/

noncomputable def slices_Max_int_int.b0 (R : Caller) (T : List Value) (s : St) : Res :=
(alenV (.slice 3) (getL T 0) s).bind fun v6 =>
(abin Try.prog .lss 3 (.tmp 12) (.tmp 14) (getL T 2) v6).bind fun v7 =>
condV v7
 ((aindexS 1 (getL T 0) (getL T 2)).bind fun v8 =>
(aload false 1 v8 s).bind fun v9 =>
(amax2 (getL T 1) v9).bind fun v10 =>
(abin Try.prog .add 3 (.tmp 16) (.const (.int .i64 1)) (getL T 2) (.int .i64 1)).bind fun v11 =>
some (.normal, [(getL T 0), v10, v11], s))
 (some (.exit 0, [(getL T 1)], s))

noncomputable def slices_Max_int_int.j0 (R : Caller) (T : List Value) (s : St) : Option (Value × St) :=
(aindexS 1 (getL T 0) (.int .i64 0)).bind fun v4 =>
(aload false 1 v4 s).bind fun v5 =>
(loopL (slices_Max_int_int.b0 R) [(getL T 0), v5, (.int .i64 1)] s).bind fun r12 =>
exV r12.1 [(0, retV [(getL r12.2.1 0)] r12.2.2)]
 (none)

noncomputable def slices_Max_int_int (R : Caller) (x0 : Value) (s : St) : Option (Value × St) :=
(alenV (.slice 3) x0 s).bind fun v1 =>
(abin Try.prog .lss 3 (.tmp 6) (.const (.int .i64 1)) v1 (.int .i64 1)).bind fun v2 =>
condV v2
 ((aiface 9 (.string ⟨#[115, 108, 105, 99, 101, 115, 46, 77, 97, 120, 58, 32, 101, 109, 112, 116, 121, 32, 108, 105, 115, 116]⟩)).bind fun v3 =>
none)
 (joinK (slices_Max_int_int.j0 R) [x0] s)

theorem slices_Max_int_int_of {lib : Lib} (hl : lib 29 = none) {x0 : Value} {s : St} {r : Value × St} (h : slices_Max_int_int (run Try.prog lib hints) x0 s = some r) : run Try.prog lib hints 29 [x0] s = some r :=
  run_of hl Try.func29 (Eq.trans (by kernel_rfl) h)

theorem slices_Max_int_int_ok : funcOk Try.prog 29 = true := by kernel_rfl
theorem slices_Max_int_int_call {R : Caller} {xs : List Value} {s : St} : callV Try.prog R (.func (.func 29) #[] #[]) xs s = R 29 xs s := callV_eq slices_Max_int_int_ok

/-! ### sumpter/span.CheckKey: 30 -/

noncomputable def span_CheckKey (R : Caller) (x0 : Value) (s : St) : Option (Value × St) :=
(abin Try.prog .eql 9 (.tmp 3) (.const (.string ⟨#[]⟩)) x0 (.string ⟨#[]⟩)).bind fun v0 =>
(guardV v0 false ((alenV .string x0 s).bind fun v1 =>
(abin Try.prog .gtr 3 (.tmp 7) (.const (.int .i64 12)) v1 (.int .i64 12)).bind fun v2 =>
some ([v2], s)) (some ([undef], s))).bind fun q3 =>
(apick v0 (.bool true) (getL q3.1 0)).bind fun v4 =>
condV v4
 (retV [(.int .i64 20)] q3.2)
 (retV [(.int .i64 0)] q3.2)

theorem span_CheckKey_of {lib : Lib} (hl : lib 30 = none) {x0 : Value} {s : St} {r : Value × St} (h : span_CheckKey (run Try.prog lib hints) x0 s = some r) : run Try.prog lib hints 30 [x0] s = some r :=
  run_of hl Try.func30 (Eq.trans (by kernel_rfl) h)

theorem span_CheckKey_ok : funcOk Try.prog 30 = true := by kernel_rfl
theorem span_CheckKey_call {R : Caller} {xs : List Value} {s : St} : callV Try.prog R (.func (.func 30) #[] #[]) xs s = R 30 xs s := callV_eq span_CheckKey_ok

/-! ### sumpter/buffer.Check: 31 -/

noncomputable def buffer_Check.b0 (R : Caller) (T : List Value) (s : St) : Res :=
(abin Try.prog .lss 3 (.tmp 8) (.tmp 7) (getL T 3) (getL T 2)).bind fun v1 =>
condV v1
 ((aindexS 7 (getL T 1) (getL T 3)).bind fun v2 =>
(aload true 7 v2 s).bind fun v3 =>
(lstore 7 lptr v3 (.agg #[(.int .u64 0), (.int .i64 0), (.string ⟨#[]⟩), (.string ⟨#[]⟩), (.string ⟨#[]⟩), (.string ⟨#[]⟩), (.int .i64 0)])).bind fun v4 =>
(lload true 6 (.pointer (some ⟨0, 1, none⟩)) v4).bind fun v5 =>
(callV Try.prog R (.func (.func 58) #[] #[]) [v5] s).bind fun r6 =>
(abin Try.prog .neq 30 (.tmp 16) (.const (.int .i64 0)) r6.1 (.int .i64 0)).bind fun v7 =>
condV v7
 (some (.ret, [r6.1], r6.2))
 ((lload true 6 (.pointer (some ⟨0, 1, none⟩)) v4).bind fun v8 =>
(callV Try.prog R (.func (.func 59) #[] #[]) [v8] r6.2).bind fun r9 =>
(aun .not r9.1).bind fun v10 =>
condV v10
 (some (.ret, [(.int .i64 40)], r9.2))
 ((abin Try.prog .gtr 3 (.tmp 23) (.const (.int .i64 0)) (getL T 3) (.int .i64 0)).bind fun v11 =>
(guardV v11 true (some ([(getL T 0)], r9.2)) (some ([undef], r9.2))).bind fun q12 =>
(guardV v11 true (some ([(getL T 3)], q12.2)) (some ([undef], q12.2))).bind fun q13 =>
(guardV v11 true ((abin Try.prog .sub 3 (.tmp 27) (.const (.int .i64 1)) (getL q13.1 0) (.int .i64 1)).bind fun v14 =>
some ([v14], q13.2)) (some ([undef], q13.2))).bind fun q15 =>
(guardV v11 true ((aindexS 7 (getL q12.1 0) (getL q15.1 0)).bind fun v16 =>
some ([v16], q15.2)) (some ([undef], q15.2))).bind fun q17 =>
(guardV v11 true ((afieldAddr 0 (getL q17.1 0)).bind fun v18 =>
some ([v18], q17.2)) (some ([undef], q17.2))).bind fun q19 =>
((guardV v11 true ((aload false 1 (getL q19.1 0) q19.2).bind fun v28 =>
some (v28, q19.2)) (some (undef, q19.2))).bind (ownR q19.2)).bind fun r20 =>
(guardV v11 true (some ([lptr], r20.2)) (some ([undef], r20.2))).bind fun q21 =>
(guardV v11 true ((lload false 1 (getL q21.1 0) v4).bind fun v22 =>
some ([v22], q21.2)) (some ([undef], q21.2))).bind fun q23 =>
(guardV v11 true ((abin Try.prog .geq 62 (.tmp 31) (.tmp 33) r20.1 (getL q23.1 0)).bind fun v24 =>
some ([v24], q23.2)) (some ([undef], q23.2))).bind fun q25 =>
(apick v11 (getL q25.1 0) (.bool false)).bind fun v26 =>
condV v26
 (some (.ret, [(.int .i64 1)], q25.2))
 ((abin Try.prog .add 3 (.tmp 8) (.const (.int .i64 1)) (getL T 3) (.int .i64 1)).bind fun v27 =>
some (.normal, [(getL T 0), (getL T 1), (getL T 2), v27], q25.2)))))
 (some (.exit 0, [], s))

noncomputable def buffer_Check (R : Caller) (x0 : Value) (s : St) : Option (Value × St) :=
(alenV (.slice 66) x0 s).bind fun v0 =>
(loopL (buffer_Check.b0 R) [x0, x0, v0, (.int .i64 0)] s).bind fun r29 =>
exV r29.1 [(0, retV [(.int .i64 0)] r29.2.2)]
 (retV [(getL r29.2.1 0)] r29.2.2)

theorem buffer_Check_of {lib : Lib} (hl : lib 31 = none) {x0 : Value} {s : St} {r : Value × St} (h : buffer_Check (run Try.prog lib hints) x0 s = some r) : run Try.prog lib hints 31 [x0] s = some r :=
  run_of hl Try.func31 (Eq.trans (by kernel_rfl) h)

theorem buffer_Check_ok : funcOk Try.prog 31 = true := by kernel_rfl
theorem buffer_Check_call {R : Caller} {xs : List Value} {s : St} : callV Try.prog R (.func (.func 31) #[] #[]) xs s = R 31 xs s := callV_eq buffer_Check_ok

/-! ### slices.ContainsFunc[[]sumpter/api.Entry,sumpter/api.Entry]: 32 -/

noncomputable def slices_ContainsFunc_api_Entry_api_Entry (R : Caller) (x0 x1 : Value) (s : St) : Option (Value × St) :=
(callV Try.prog R (.func (.func 60) #[] #[]) [x0, x1] s).bind fun r0 =>
(abin Try.prog .geq 3 (.tmp 7) (.const (.int .i64 0)) r0.1 (.int .i64 0)).bind fun v1 =>
retV [v1] r0.2

theorem slices_ContainsFunc_api_Entry_api_Entry_of {lib : Lib} (hl : lib 32 = none) {x0 x1 : Value} {s : St} {r : Value × St} (h : slices_ContainsFunc_api_Entry_api_Entry (run Try.prog lib hints) x0 x1 s = some r) : run Try.prog lib hints 32 [x0, x1] s = some r :=
  run_of hl Try.func32 (Eq.trans (by kernel_rfl) h)

theorem slices_ContainsFunc_api_Entry_api_Entry_ok : funcOk Try.prog 32 = true := by kernel_rfl
theorem slices_ContainsFunc_api_Entry_api_Entry_call {R : Caller} {xs : List Value} {s : St} : callV Try.prog R (.func (.func 32) #[] #[]) xs s = R 32 xs s := callV_eq slices_ContainsFunc_api_Entry_api_Entry_ok

/-! ### sumpter/node.Check$1: 33 -/

noncomputable def node_Check_1 (R : Caller) (x0 x1 x2 : Value) (s : St) : Option (Value × St) :=
(lbox x0).bind fun v0 =>
((aload true 5 x1 (frzS s)).bind fun v10 =>
some (v10, (frzS s))).bind fun r1 =>
((aload false 1 x2 (frzS s)).bind fun v9 =>
some (v9, (frzS s))).bind fun r2 =>
(((callV Try.prog R (.func (.func 35) #[] #[]) [r1.1, r2.1] s).bind fun r8 =>
some (r8.1, r8.2)).bind (ownR s)).bind fun r3 =>
(lload true 6 (.pointer (some ⟨0, 1, none⟩)) v0).bind fun v4 =>
(((callV Try.prog R (.func (.func 34) #[] #[]) [r3.1, v4] r3.2).bind fun r7 =>
some (r7.1, r7.2)).bind (ownR r3.2)).bind fun r5 =>
(aun .not r5.1).bind fun v6 =>
retV [v6] r5.2

theorem node_Check_1_of {lib : Lib} (hl : lib 33 = none) {x0 x1 x2 : Value} {s : St} {r : Value × St} (h : node_Check_1 (run Try.prog lib hints) x0 x1 x2 s = some r) : run Try.prog lib hints 33 [x0, x1, x2] s = some r :=
  run_of hl Try.func33 (Eq.trans (by kernel_rfl) h)

theorem node_Check_1_ok : funcOk Try.prog 33 = true := by kernel_rfl
theorem node_Check_1_call {R : Caller} {xs : List Value} {s : St} : callV Try.prog R (.func (.func 33) #[] #[]) xs s = R 33 xs s := callV_eq node_Check_1_ok

/-! ### sumpter/node.within: 34 -/

noncomputable def node_within (R : Caller) (x0 x1 : Value) (s : St) : Option (Value × St) :=
(lbox x0).bind fun v0 =>
(lbox x1).bind fun v1 =>
(lload false 1 lptr v1).bind fun v2 =>
(abin Try.prog .eql 3 (.tmp 6) (.const (.int .i64 5)) v2 (.int .i64 5)).bind fun v3 =>
condV v3
 ((lload true 2 lptr v0).bind fun v4 =>
(lload false 1 (.pointer (some ⟨0, 3, none⟩)) v1).bind fun v5 =>
(lload false 1 (.pointer (some ⟨0, 4, none⟩)) v1).bind fun v6 =>
(abuild Try.prog 74 [(0, v5), (1, v6)]).bind fun v7 =>
(callV Try.prog R (.func (.func 61) #[] #[]) [v4, v7] s).bind fun r8 =>
retV [r8.1] r8.2)
 ((lload true 2 lptr v0).bind fun v9 =>
(lload false 1 (.pointer (some ⟨0, 1, none⟩)) v1).bind fun v10 =>
(callV Try.prog R (.func (.func 62) #[] #[]) [v9, v10] s).bind fun r11 =>
retV [r11.1] r11.2)

theorem node_within_of {lib : Lib} (hl : lib 34 = none) {x0 x1 : Value} {s : St} {r : Value × St} (h : node_within (run Try.prog lib hints) x0 x1 s = some r) : run Try.prog lib hints 34 [x0, x1] s = some r :=
  run_of hl Try.func34 (Eq.trans (by kernel_rfl) h)

theorem node_within_ok : funcOk Try.prog 34 = true := by kernel_rfl
theorem node_within_call {R : Caller} {xs : List Value} {s : St} : callV Try.prog R (.func (.func 34) #[] #[]) xs s = R 34 xs s := callV_eq node_within_ok

/-! ### sumpter/node.bounds: 35 -/

noncomputable def node_bounds.j0 (R : Caller) (T : List Value) (s : St) : Option (Value × St) :=
(lload true 2 (getL T 1) (getL T 3)).bind fun v19 =>
(lstore 2 (getL T 0) v19 (getL T 2)).bind fun v20 =>
(lload true 2 (getL T 0) v20).bind fun v21 =>
retV [v21] s

noncomputable def node_bounds.j1 (R : Caller) (T : List Value) (s : St) : Option (Value × St) :=
(afieldAddr 3 (getL T 1)).bind fun v9 =>
(lload false 1 v9 (getL T 4)).bind fun v10 =>
(alenV (.slice 9) v10 s).bind fun v11 =>
(abin Try.prog .lss 3 (.tmp 15) (.tmp 18) (getL T 0) v11).bind fun v12 =>
condV v12
 ((afieldAddr 3 (getL T 1)).bind fun v13 =>
(lload false 1 v13 (getL T 4)).bind fun v14 =>
(aindexS 1 v14 (getL T 0)).bind fun v15 =>
(aload false 1 v15 s).bind fun v16 =>
(afieldAddr 1 (getL T 3)).bind fun v17 =>
(lstore 1 v17 v16 (getL T 6)).bind fun v18 =>
joinK (node_bounds.j0 R) [(getL T 2), (getL T 3), (getL T 5), v18] s)
 (joinK (node_bounds.j0 R) [(getL T 2), (getL T 3), (getL T 5), (getL T 6)] s)

noncomputable def node_bounds (R : Caller) (x0 x1 : Value) (s : St) : Option (Value × St) :=
(lbox x0).bind fun v0 =>
(abin Try.prog .gtr 3 (.tmp 6) (.const (.int .i64 0)) x1 (.int .i64 0)).bind fun v2 =>
condV v2
 ((lload false 1 (.pointer (some ⟨0, 3, none⟩)) v0).bind fun v3 =>
(abin Try.prog .sub 3 (.tmp 10) (.const (.int .i64 1)) x1 (.int .i64 1)).bind fun v4 =>
(aindexS 1 v3 v4).bind fun v5 =>
(aload false 1 v5 s).bind fun v6 =>
(lstore 1 lptr v6 (.agg #[(.string ⟨#[]⟩), (.string ⟨#[]⟩)])).bind fun v7 =>
joinK (node_bounds.j1 R) [x1, lptr, lptr, lptr, v0, (.agg #[(.string ⟨#[]⟩), (.string ⟨#[]⟩)]), v7] s)
 (joinK (node_bounds.j1 R) [x1, lptr, lptr, lptr, v0, (.agg #[(.string ⟨#[]⟩), (.string ⟨#[]⟩)]), (.agg #[(.string ⟨#[]⟩), (.string ⟨#[]⟩)])] s)

theorem node_bounds_of {lib : Lib} (hl : lib 35 = none) {x0 x1 : Value} {s : St} {r : Value × St} (h : node_bounds (run Try.prog lib hints) x0 x1 s = some r) : run Try.prog lib hints 35 [x0, x1] s = some r :=
  run_of hl Try.func35 (Eq.trans (by kernel_rfl) h)

theorem node_bounds_ok : funcOk Try.prog 35 = true := by kernel_rfl
theorem node_bounds_call {R : Caller} {xs : List Value} {s : St} : callV Try.prog R (.func (.func 35) #[] #[]) xs s = R 35 xs s := callV_eq node_bounds_ok

/-! ### sumpter/node.whole: 36 -/

noncomputable def node_whole.b0 (R : Caller) (T : List Value) (s : St) : Res :=
(abin Try.prog .lss 3 (.tmp 26) (.tmp 25) (getL T 3) (getL T 2)).bind fun v9 =>
condV v9
 ((aindexS 2 (getL T 1) (getL T 3)).bind fun v10 =>
(aload true 2 v10 s).bind fun v11 =>
(lstore 2 lptr v11 (.agg #[(.string ⟨#[]⟩), (.string ⟨#[]⟩)])).bind fun v12 =>
(lload false 1 lptr v12).bind fun v13 =>
(lload false 1 (.pointer (some ⟨0, 1, none⟩)) v12).bind fun v14 =>
(abuildSl 1 [(.string ⟨#[]⟩)] 2 [(0, v13), (1, v14)] s).bind fun r15 =>
(callV Try.prog R (.func (.func 64) #[] #[]) [(getL T 0), r15.1] r15.2).bind fun r16 =>
(abin Try.prog .add 3 (.tmp 26) (.const (.int .i64 1)) (getL T 3) (.int .i64 1)).bind fun v17 =>
some (.normal, [r16.1, (getL T 1), (getL T 2), v17], r16.2))
 (some (.exit 0, [(getL T 0)], s))

noncomputable def node_whole.b1 (R : Caller) (T : List Value) (s : St) : Res :=
(abin Try.prog .lss 3 (.tmp 48) (.tmp 47) (getL T 4) (getL T 3)).bind fun v26 =>
condV v26
 ((aindexS 1 (getL T 2) (getL T 4)).bind fun v27 =>
(aload false 1 v27 s).bind fun v28 =>
(convInt .u64 v28).bind fun v29 =>
(callV Try.prog R (.func (.func 63) #[] #[]) [(getL T 1), v29] s).bind fun r30 =>
(abin Try.prog .add 3 (.tmp 48) (.const (.int .i64 1)) (getL T 4) (.int .i64 1)).bind fun v31 =>
some (.normal, [(getL T 0), r30.1, (getL T 2), (getL T 3), v31, (getL T 5)], r30.2))
 (some (.exit 2, [(getL T 0), (getL T 1), (getL T 5)], s))

noncomputable def node_whole.b4 (R : Caller) (T : List Value) (s : St) : Res :=
(abin Try.prog .lss 3 (.tmp 92) (.tmp 91) (getL T 9) (getL T 8)).bind fun v73 =>
condV v73
 ((aindexS 1 (getL T 7) (getL T 9)).bind fun v74 =>
(aload false 1 v74 s).bind fun v75 =>
(anilCheck v75).bind fun v76 =>
(aload false 1 v76 s).bind fun v77 =>
(abuildSl 1 [(.string ⟨#[]⟩)] 1 [(0, v77)] s).bind fun r78 =>
(callV Try.prog R (.func (.func 64) #[] #[]) [(getL T 0), r78.1] r78.2).bind fun r79 =>
(abin Try.prog .add 3 (.tmp 92) (.const (.int .i64 1)) (getL T 9) (.int .i64 1)).bind fun v80 =>
some (.normal, [r79.1, (getL T 1), (getL T 2), (getL T 3), (getL T 4), (getL T 5), (getL T 6), (getL T 7), (getL T 8), v80], r79.2))
 (some (.exit 8, [(getL T 0), (getL T 1), (getL T 2), (getL T 3), (getL T 4), (getL T 5), (getL T 6)], s))

noncomputable def node_whole.b3 (R : Caller) (T : List Value) (s : St) : Res :=
(abin Try.prog .lss 3 (.tmp 75) (.tmp 74) (getL T 6) (getL T 5)).bind fun v46 =>
condV v46
 ((aindexS 7 (getL T 4) (getL T 6)).bind fun v47 =>
(aload true 7 v47 s).bind fun v48 =>
(anew [(.int .u64 0), (.int .i64 0), (.string ⟨#[]⟩), (.string ⟨#[]⟩), (.string ⟨#[]⟩), (.string ⟨#[]⟩), (.int .i64 0)] s).bind fun r49 =>
(astore 7 r49.1 v48 r49.2).bind fun s50 =>
((afieldAddr 0 r49.1).bind fun v51 =>
(aload false 1 v51 s50).bind fun v52 =>
(callV Try.prog R (.func (.func 63) #[] #[]) [(getL T 0), v52] s50).bind fun r53 =>
(afieldAddr 1 r49.1).bind fun v54 =>
(afieldAddr 0 v54).bind fun v55 =>
(aload false 1 v55 r53.2).bind fun v56 =>
(convInt .u8 v56).bind fun v57 =>
(abuildSl 1 [(.int .u8 0)] 1 [(0, v57)] r53.2).bind fun r58 =>
(aappend 1 1 r53.1 r58.1 r58.2).bind fun r59 =>
some [(getL T 0), v52]).bind fun q60 =>
(afieldAddr 0 r49.1).bind fun v61 =>
(((aload false 1 v61 (⟨frzK [] 0 (s50).heap⟩ : St)).bind fun v87 =>
some (v87, (⟨frzK [] 0 (s50).heap⟩ : St))).bind (apartR [] s50)).bind fun r62 =>
(((callV Try.prog R (.func (.func 63) #[] #[]) [(getL T 0), r62.1] (⟨onlyL (blksV [(getL q60 0), (getL q60 1)]) 0 (r62.2).heap⟩ : St)).bind fun r86 =>
some (r86.1, r86.2)).bind (appR (blksV [(getL q60 0), (getL q60 1)]) [] r62.2)).bind fun r63 =>
(afieldAddr 1 r49.1).bind fun v64 =>
(afieldAddr 0 v64).bind fun v65 =>
(((aload false 1 v65 (⟨frzK ((blksV [(getL q60 0), (getL q60 1)]) ++ []) 0 (r63.2).heap⟩ : St)).bind fun v85 =>
some (v85, (⟨frzK ((blksV [(getL q60 0), (getL q60 1)]) ++ []) 0 (r63.2).heap⟩ : St))).bind (apartR ((blksV [(getL q60 0), (getL q60 1)]) ++ []) r63.2)).bind fun r66 =>
(convInt .u8 r66.1).bind fun v67 =>
(((abuildSl 1 [(.int .u8 0)] 1 [(0, v67)] (⟨frzK ((blksV [(getL q60 0), (getL q60 1)]) ++ []) 0 (r66.2).heap⟩ : St)).bind fun r84 =>
some (r84.1, r84.2)).bind (apartR ((blksV [(getL q60 0), (getL q60 1)]) ++ []) r66.2)).bind fun r68 =>
(((aappend 1 1 r63.1 r68.1 r68.2).bind fun r83 =>
some (r83.1, r83.2)).bind (ownR r68.2)).bind fun r69 =>
(afieldAddr 1 r49.1).bind fun v70 =>
(callV Try.prog R (.func (.func 65) #[] #[]) [v70] r69.2).bind fun r71 =>
(alenV (.slice 101) r71.1 r71.2).bind fun v72 =>
(loopL (node_whole.b4 R) [r69.1, (getL T 1), (getL T 2), (getL T 3), (getL T 4), (getL T 5), (getL T 6), r71.1, v72, (.int .i64 0)] r71.2).bind fun r81 =>
exV r81.1 [(8, (abin Try.prog .add 3 (.tmp 75) (.const (.int .i64 1)) (getL r81.2.1 6) (.int .i64 1)).bind fun v82 =>
some (.normal, [(getL r81.2.1 0), (getL r81.2.1 1), (getL r81.2.1 2), (getL r81.2.1 3), (getL r81.2.1 4), (getL r81.2.1 5), v82], r81.2.2))]
 (none))
 (some (.exit 6, [(getL T 0), (getL T 1), (getL T 2), (getL T 3)], s))

noncomputable def node_whole.b2 (R : Caller) (T : List Value) (s : St) : Res :=
(abin Try.prog .lss 3 (.tmp 64) (.tmp 63) (getL T 3) (getL T 2)).bind fun v39 =>
condV v39
 ((aindexS 1 (getL T 1) (getL T 3)).bind fun v40 =>
(aload false 1 v40 s).bind fun v41 =>
(alenV (.slice 66) v41 s).bind fun v42 =>
(convInt .u64 v42).bind fun v43 =>
(callV Try.prog R (.func (.func 63) #[] #[]) [(getL T 0), v43] s).bind fun r44 =>
(alenV (.slice 66) v41 r44.2).bind fun v45 =>
(loopL (node_whole.b3 R) [r44.1, (getL T 1), (getL T 2), (getL T 3), v41, v45, (.int .i64 0)] r44.2).bind fun r88 =>
exV r88.1 [(6, (abin Try.prog .add 3 (.tmp 64) (.const (.int .i64 1)) (getL r88.2.1 3) (.int .i64 1)).bind fun v89 =>
some (.normal, [(getL r88.2.1 0), (getL r88.2.1 1), (getL r88.2.1 2), v89], r88.2.2))]
 (none))
 (some (.exit 4, [(getL T 0)], s))

noncomputable def node_whole (R : Caller) (x0 : Value) (s : St) : Option (Value × St) :=
(lbox x0).bind fun v0 =>
(lload false 1 lptr v0).bind fun v1 =>
condV v1
 ((abuildSl 1 [(.int .u8 0)] 1 [(0, (.int .u8 1))] s).bind fun r2 =>
(lload false 1 (.pointer (some ⟨0, 1, none⟩)) v0).bind fun v3 =>
(alenV (.slice 45) v3 r2.2).bind fun v4 =>
(convInt .u64 v4).bind fun v5 =>
(callV Try.prog R (.func (.func 63) #[] #[]) [r2.1, v5] r2.2).bind fun r6 =>
(lload false 1 (.pointer (some ⟨0, 1, none⟩)) v0).bind fun v7 =>
(alenV (.slice 45) v7 r6.2).bind fun v8 =>
(loopL (node_whole.b0 R) [r6.1, v7, v8, (.int .i64 0)] r6.2).bind fun r18 =>
exV r18.1 [(0, retV [(getL r18.2.1 0)] r18.2.2)]
 (none))
 ((abuildSl 1 [(.int .u8 0)] 1 [(0, (.int .u8 2))] s).bind fun r19 =>
(lload false 1 (.pointer (some ⟨0, 2, none⟩)) v0).bind fun v20 =>
(alenV (.slice 3) v20 r19.2).bind fun v21 =>
(convInt .u64 v21).bind fun v22 =>
(callV Try.prog R (.func (.func 63) #[] #[]) [r19.1, v22] r19.2).bind fun r23 =>
(lload false 1 (.pointer (some ⟨0, 2, none⟩)) v0).bind fun v24 =>
(alenV (.slice 3) v24 r23.2).bind fun v25 =>
(loopL (node_whole.b1 R) [lptr, r23.1, v24, v25, (.int .i64 0), v0] r23.2).bind fun r32 =>
exV r32.1 [(2, (afieldAddr 3 (getL r32.2.1 0)).bind fun v33 =>
(lload false 1 v33 (getL r32.2.1 2)).bind fun v34 =>
(callV Try.prog R (.func (.func 64) #[] #[]) [(getL r32.2.1 1), v34] r32.2.2).bind fun r35 =>
(afieldAddr 4 (getL r32.2.1 0)).bind fun v36 =>
(lload false 1 v36 (getL r32.2.1 2)).bind fun v37 =>
(alenV (.slice 47) v37 r35.2).bind fun v38 =>
(loopL (node_whole.b2 R) [r35.1, v37, v38, (.int .i64 0)] r35.2).bind fun r90 =>
exV r90.1 [(4, retV [(getL r90.2.1 0)] r90.2.2)]
 (none))]
 (none))

theorem node_whole_of {lib : Lib} (hl : lib 36 = none) {x0 : Value} {s : St} {r : Value × St} (h : node_whole (run Try.prog lib hints) x0 s = some r) : run Try.prog lib hints 36 [x0] s = some r :=
  run_of hl Try.func36 (Eq.trans (by kernel_rfl) h)

theorem node_whole_ok : funcOk Try.prog 36 = true := by kernel_rfl
theorem node_whole_call {R : Caller} {xs : List Value} {s : St} : callV Try.prog R (.func (.func 36) #[] #[]) xs s = R 36 xs s := callV_eq node_whole_ok

/-! ### sumpter/sumpterref13.whole: 37 -/

noncomputable def ref13_whole.b0 (R : Caller) (T : List Value) (s : St) : Res :=
(abin Try.prog .lss 3 (.tmp 25) (.tmp 24) (getL T 3) (getL T 2)).bind fun v8 =>
condV v8
 ((aindexS 2 (getL T 1) (getL T 3)).bind fun v9 =>
(aload true 2 v9 s).bind fun v10 =>
(lstore 2 lptr v10 (.agg #[(.string ⟨#[]⟩), (.string ⟨#[]⟩)])).bind fun v11 =>
(lload false 1 lptr v11).bind fun v12 =>
(((callV Try.prog R (.func (.func 67) #[] #[]) [(getL T 0), v12] s).bind fun r18 =>
some (r18.1, r18.2)).bind (ownR s)).bind fun r13 =>
(lload false 1 (.pointer (some ⟨0, 1, none⟩)) v11).bind fun v14 =>
(((callV Try.prog R (.func (.func 67) #[] #[]) [r13.1, v14] r13.2).bind fun r17 =>
some (r17.1, r17.2)).bind (ownR r13.2)).bind fun r15 =>
(abin Try.prog .add 3 (.tmp 25) (.const (.int .i64 1)) (getL T 3) (.int .i64 1)).bind fun v16 =>
some (.normal, [r15.1, (getL T 1), (getL T 2), v16], r15.2))
 (some (.exit 0, [(getL T 0)], s))

noncomputable def ref13_whole.b1 (R : Caller) (T : List Value) (s : St) : Res :=
(abin Try.prog .lss 3 (.tmp 46) (.tmp 45) (getL T 4) (getL T 3)).bind fun v26 =>
condV v26
 ((aindexS 1 (getL T 2) (getL T 4)).bind fun v27 =>
(aload false 1 v27 s).bind fun v28 =>
(callV Try.prog R (.func (.func 66) #[] #[]) [(getL T 1), v28] s).bind fun r29 =>
(abin Try.prog .add 3 (.tmp 46) (.const (.int .i64 1)) (getL T 4) (.int .i64 1)).bind fun v30 =>
some (.normal, [(getL T 0), r29.1, (getL T 2), (getL T 3), v30, (getL T 5)], r29.2))
 (some (.exit 2, [(getL T 0), (getL T 1), (getL T 5)], s))

noncomputable def ref13_whole.b2 (R : Caller) (T : List Value) (s : St) : Res :=
(abin Try.prog .lss 3 (.tmp 57) (.tmp 56) (getL T 4) (getL T 3)).bind fun v35 =>
condV v35
 ((aindexS 1 (getL T 2) (getL T 4)).bind fun v36 =>
(aload false 1 v36 s).bind fun v37 =>
(callV Try.prog R (.func (.func 67) #[] #[]) [(getL T 1), v37] s).bind fun r38 =>
(abin Try.prog .add 3 (.tmp 57) (.const (.int .i64 1)) (getL T 4) (.int .i64 1)).bind fun v39 =>
some (.normal, [(getL T 0), r38.1, (getL T 2), (getL T 3), v39, (getL T 5)], r38.2))
 (some (.exit 4, [(getL T 0), (getL T 1), (getL T 5)], s))

noncomputable def ref13_whole.j0 (R : Caller) (T : List Value) (s : St) : Res :=
(abin Try.prog .add 3 (.tmp 78) (.const (.int .i64 1)) (getL T 6) (.int .i64 1)).bind fun v68 =>
some (.normal, [(getL T 0), (getL T 1), (getL T 2), (getL T 3), (getL T 4), (getL T 5), v68], s)

noncomputable def ref13_whole.b4 (R : Caller) (T : List Value) (s : St) : Res :=
(abin Try.prog .lss 3 (.tmp 78) (.tmp 77) (getL T 6) (getL T 5)).bind fun v50 =>
condV v50
 ((aindexS 7 (getL T 4) (getL T 6)).bind fun v52 =>
(aload true 7 v52 s).bind fun v53 =>
(lstore 7 lptr v53 (.agg #[(.int .u64 0), (.int .i64 0), (.string ⟨#[]⟩), (.string ⟨#[]⟩), (.string ⟨#[]⟩), (.string ⟨#[]⟩), (.int .i64 0)])).bind fun v54 =>
(lload false 1 lptr v54).bind fun v55 =>
(callV Try.prog R (.func (.func 68) #[] #[]) [v55] s).bind fun r56 =>
(aappend 1 1 (getL T 0) r56.1 r56.2).bind fun r57 =>
(lload false 1 (.pointer (some ⟨0, 1, none⟩)) v54).bind fun v58 =>
(convInt .u8 v58).bind fun v59 =>
(abuildSl 1 [(.int .u8 0)] 1 [(0, v59)] r57.2).bind fun r60 =>
(aappend 1 1 r57.1 r60.1 r60.2).bind fun r61 =>
(lload false 1 (.pointer (some ⟨0, 1, none⟩)) v54).bind fun v62 =>
(abin Try.prog .eql 3 (.tmp 96) (.const (.int .i64 2)) v62 (.int .i64 2)).bind fun v63 =>
condV v63
 ((lload false 1 (.pointer (some ⟨0, 2, none⟩)) v54).bind fun v64 =>
(((callV Try.prog R (.func (.func 67) #[] #[]) [r61.1, v64] r61.2).bind fun r70 =>
some (r70.1, r70.2)).bind (ownR r61.2)).bind fun r65 =>
(lload false 1 (.pointer (some ⟨0, 3, none⟩)) v54).bind fun v66 =>
(((callV Try.prog R (.func (.func 67) #[] #[]) [r65.1, v66] r65.2).bind fun r69 =>
some (r69.1, r69.2)).bind (ownR r65.2)).bind fun r67 =>
joinK (ref13_whole.j0 R) [r67.1, (getL T 1), (getL T 2), (getL T 3), (getL T 4), (getL T 5), (getL T 6)] r67.2)
 ((abin Try.prog .eql 3 (.tmp 96) (.const (.int .i64 3)) v62 (.int .i64 3)).bind fun v71 =>
condV v71
 ((lload false 1 (.pointer (some ⟨0, 2, none⟩)) v54).bind fun v72 =>
(callV Try.prog R (.func (.func 67) #[] #[]) [r61.1, v72] r61.2).bind fun r73 =>
joinK (ref13_whole.j0 R) [r73.1, (getL T 1), (getL T 2), (getL T 3), (getL T 4), (getL T 5), (getL T 6)] r73.2)
 ((lload false 1 (.pointer (some ⟨0, 4, none⟩)) v54).bind fun v74 =>
(((callV Try.prog R (.func (.func 67) #[] #[]) [r61.1, v74] r61.2).bind fun r79 =>
some (r79.1, r79.2)).bind (ownR r61.2)).bind fun r75 =>
(lload false 1 (.pointer (some ⟨0, 5, none⟩)) v54).bind fun v76 =>
(((callV Try.prog R (.func (.func 67) #[] #[]) [r75.1, v76] r75.2).bind fun r78 =>
some (r78.1, r78.2)).bind (ownR r75.2)).bind fun r77 =>
joinK (ref13_whole.j0 R) [r77.1, (getL T 1), (getL T 2), (getL T 3), (getL T 4), (getL T 5), (getL T 6)] r77.2)))
 (some (.exit 8, [(getL T 0), (getL T 1), (getL T 2), (getL T 3)], s))

noncomputable def ref13_whole.b3 (R : Caller) (T : List Value) (s : St) : Res :=
(abin Try.prog .lss 3 (.tmp 68) (.tmp 67) (getL T 3) (getL T 2)).bind fun v44 =>
condV v44
 ((aindexS 1 (getL T 1) (getL T 3)).bind fun v45 =>
(aload false 1 v45 s).bind fun v46 =>
(alenV (.slice 66) v46 s).bind fun v47 =>
(callV Try.prog R (.func (.func 66) #[] #[]) [(getL T 0), v47] s).bind fun r48 =>
(alenV (.slice 66) v46 r48.2).bind fun v49 =>
(loopL (ref13_whole.b4 R) [r48.1, (getL T 1), (getL T 2), (getL T 3), v46, v49, (.int .i64 0)] r48.2).bind fun r80 =>
exV r80.1 [(8, (abin Try.prog .add 3 (.tmp 68) (.const (.int .i64 1)) (getL r80.2.1 3) (.int .i64 1)).bind fun v81 =>
some (.normal, [(getL r80.2.1 0), (getL r80.2.1 1), (getL r80.2.1 2), v81], r80.2.2))]
 (none))
 (some (.exit 6, [(getL T 0)], s))

noncomputable def ref13_whole (R : Caller) (x0 : Value) (s : St) : Option (Value × St) :=
(lbox x0).bind fun v0 =>
(lload false 1 lptr v0).bind fun v1 =>
condV v1
 ((abuildSl 1 [(.int .u8 0)] 1 [(0, (.int .u8 1))] s).bind fun r2 =>
(lload false 1 (.pointer (some ⟨0, 1, none⟩)) v0).bind fun v3 =>
(alenV (.slice 45) v3 r2.2).bind fun v4 =>
(callV Try.prog R (.func (.func 66) #[] #[]) [r2.1, v4] r2.2).bind fun r5 =>
(lload false 1 (.pointer (some ⟨0, 1, none⟩)) v0).bind fun v6 =>
(alenV (.slice 45) v6 r5.2).bind fun v7 =>
(loopL (ref13_whole.b0 R) [r5.1, v6, v7, (.int .i64 0)] r5.2).bind fun r19 =>
exV r19.1 [(0, retV [(getL r19.2.1 0)] r19.2.2)]
 (none))
 ((abuildSl 1 [(.int .u8 0)] 1 [(0, (.int .u8 2))] s).bind fun r20 =>
(lload false 1 (.pointer (some ⟨0, 2, none⟩)) v0).bind fun v21 =>
(alenV (.slice 3) v21 r20.2).bind fun v22 =>
(callV Try.prog R (.func (.func 66) #[] #[]) [r20.1, v22] r20.2).bind fun r23 =>
(lload false 1 (.pointer (some ⟨0, 2, none⟩)) v0).bind fun v24 =>
(alenV (.slice 3) v24 r23.2).bind fun v25 =>
(loopL (ref13_whole.b1 R) [lptr, r23.1, v24, v25, (.int .i64 0), v0] r23.2).bind fun r31 =>
exV r31.1 [(2, (afieldAddr 3 (getL r31.2.1 0)).bind fun v32 =>
(lload false 1 v32 (getL r31.2.1 2)).bind fun v33 =>
(alenV (.slice 9) v33 r31.2.2).bind fun v34 =>
(loopL (ref13_whole.b2 R) [(getL r31.2.1 0), (getL r31.2.1 1), v33, v34, (.int .i64 0), (getL r31.2.1 2)] r31.2.2).bind fun r40 =>
exV r40.1 [(4, (afieldAddr 4 (getL r40.2.1 0)).bind fun v41 =>
(lload false 1 v41 (getL r40.2.1 2)).bind fun v42 =>
(alenV (.slice 47) v42 r40.2.2).bind fun v43 =>
(loopL (ref13_whole.b3 R) [(getL r40.2.1 1), v42, v43, (.int .i64 0)] r40.2.2).bind fun r82 =>
exV r82.1 [(6, retV [(getL r82.2.1 0)] r82.2.2)]
 (none))]
 (none))]
 (none))

theorem ref13_whole_of {lib : Lib} (hl : lib 37 = none) {x0 : Value} {s : St} {r : Value × St} (h : ref13_whole (run Try.prog lib hints) x0 s = some r) : run Try.prog lib hints 37 [x0] s = some r :=
  run_of hl Try.func37 (Eq.trans (by kernel_rfl) h)

theorem ref13_whole_ok : funcOk Try.prog 37 = true := by kernel_rfl
theorem ref13_whole_call {R : Caller} {xs : List Value} {s : St} : callV Try.prog R (.func (.func 37) #[] #[]) xs s = R 37 xs s := callV_eq ref13_whole_ok

/-! ### sumpter/sumpterref04.CheckMap: 38 -/

noncomputable def ref04_CheckMap.b0 (R : Caller) (T : List Value) (s : St) : Res :=
(abin Try.prog .lss 3 (.tmp 7) (.tmp 6) (getL T 3) (getL T 2)).bind fun v1 =>
condV v1
 ((aindexS 2 (getL T 1) (getL T 3)).bind fun v2 =>
(aload true 2 v2 s).bind fun v3 =>
(lstore 2 lptr v3 (.agg #[(.string ⟨#[]⟩), (.string ⟨#[]⟩)])).bind fun v4 =>
(lload false 1 lptr v4).bind fun v5 =>
(callV Try.prog R (.func (.func 69) #[] #[]) [v5] s).bind fun r6 =>
(abin Try.prog .neq 30 (.tmp 14) (.const (.int .i64 0)) r6.1 (.int .i64 0)).bind fun v7 =>
condV v7
 (some (.ret, [(.int .i64 20)], r6.2))
 ((lload false 1 (.pointer (some ⟨0, 1, none⟩)) v4).bind fun v8 =>
(alenV .string v8 r6.2).bind fun v9 =>
(abin Try.prog .gtr 3 (.tmp 18) (.const (.int .i64 16)) v9 (.int .i64 16)).bind fun v10 =>
condV v10
 (some (.ret, [(.int .i64 2)], r6.2))
 ((abin Try.prog .gtr 3 (.tmp 20) (.const (.int .i64 0)) (getL T 3) (.int .i64 0)).bind fun v11 =>
(guardV v11 true (some ([(getL T 0)], r6.2)) (some ([undef], r6.2))).bind fun q12 =>
(guardV v11 true (some ([(getL T 3)], q12.2)) (some ([undef], q12.2))).bind fun q13 =>
(guardV v11 true ((abin Try.prog .sub 3 (.tmp 24) (.const (.int .i64 1)) (getL q13.1 0) (.int .i64 1)).bind fun v14 =>
some ([v14], q13.2)) (some ([undef], q13.2))).bind fun q15 =>
(guardV v11 true ((aindexS 2 (getL q12.1 0) (getL q15.1 0)).bind fun v16 =>
some ([v16], q15.2)) (some ([undef], q15.2))).bind fun q17 =>
(guardV v11 true ((afieldAddr 0 (getL q17.1 0)).bind fun v18 =>
some ([v18], q17.2)) (some ([undef], q17.2))).bind fun q19 =>
((guardV v11 true ((aload false 1 (getL q19.1 0) q19.2).bind fun v28 =>
some (v28, q19.2)) (some (undef, q19.2))).bind (ownR q19.2)).bind fun r20 =>
(guardV v11 true (some ([lptr], r20.2)) (some ([undef], r20.2))).bind fun q21 =>
(guardV v11 true ((lload false 1 (getL q21.1 0) v4).bind fun v22 =>
some ([v22], q21.2)) (some ([undef], q21.2))).bind fun q23 =>
(guardV v11 true ((abin Try.prog .geq 9 (.tmp 28) (.tmp 30) r20.1 (getL q23.1 0)).bind fun v24 =>
some ([v24], q23.2)) (some ([undef], q23.2))).bind fun q25 =>
(apick v11 (getL q25.1 0) (.bool false)).bind fun v26 =>
condV v26
 (some (.ret, [(.int .i64 1)], q25.2))
 ((abin Try.prog .add 3 (.tmp 7) (.const (.int .i64 1)) (getL T 3) (.int .i64 1)).bind fun v27 =>
some (.normal, [(getL T 0), (getL T 1), (getL T 2), v27], q25.2)))))
 (some (.exit 0, [], s))

noncomputable def ref04_CheckMap (R : Caller) (x0 : Value) (s : St) : Option (Value × St) :=
(alenV (.slice 45) x0 s).bind fun v0 =>
(loopL (ref04_CheckMap.b0 R) [x0, x0, v0, (.int .i64 0)] s).bind fun r29 =>
exV r29.1 [(0, retV [(.int .i64 0)] r29.2.2)]
 (retV [(getL r29.2.1 0)] r29.2.2)

theorem ref04_CheckMap_of {lib : Lib} (hl : lib 38 = none) {x0 : Value} {s : St} {r : Value × St} (h : ref04_CheckMap (run Try.prog lib hints) x0 s = some r) : run Try.prog lib hints 38 [x0] s = some r :=
  run_of hl Try.func38 (Eq.trans (by kernel_rfl) h)

theorem ref04_CheckMap_ok : funcOk Try.prog 38 = true := by kernel_rfl
theorem ref04_CheckMap_call {R : Caller} {xs : List Value} {s : St} : callV Try.prog R (.func (.func 38) #[] #[]) xs s = R 38 xs s := callV_eq ref04_CheckMap_ok

/-! ### sumpter/sumpterref12.Pivots: 39 -/

noncomputable def ref12_Pivots.b0 (R : Caller) (T : List Value) (s : St) : Res :=
(abin Try.prog .lss 3 (.tmp 7) (.tmp 6) (getL T 3) (getL T 2)).bind fun v1 =>
condV v1
 ((aindexS 1 (getL T 1) (getL T 3)).bind fun v2 =>
(aload false 1 v2 s).bind fun v3 =>
(callV Try.prog R (.func (.func 69) #[] #[]) [v3] s).bind fun r4 =>
(abin Try.prog .neq 30 (.tmp 13) (.const (.int .i64 0)) r4.1 (.int .i64 0)).bind fun v5 =>
(guardV v5 false ((abin Try.prog .gtr 3 (.tmp 16) (.const (.int .i64 0)) (getL T 3) (.int .i64 0)).bind fun v6 =>
some ([v6], r4.2)) (some ([undef], r4.2))).bind fun q7 =>
(guardV (getL q7.1 0) true ((abin Try.prog .sub 3 (.tmp 20) (.const (.int .i64 1)) (getL T 3) (.int .i64 1)).bind fun v8 =>
(aindexS 1 (getL T 0) v8).bind fun v9 =>
(aload false 1 v9 q7.2).bind fun v10 =>
(abin Try.prog .geq 9 (.tmp 23) (.tmp 24) v10 v3).bind fun v11 =>
some ([v11], q7.2)) (some ([undef], q7.2))).bind fun q12 =>
(guardV v5 false ((apick (getL q7.1 0) (getL q12.1 0) (.bool false)).bind fun v13 =>
some ([v13], q12.2)) (some ([undef], q12.2))).bind fun q14 =>
(apick v5 (.bool true) (getL q14.1 0)).bind fun v15 =>
condV v15
 (some (.ret, [(.int .i64 20)], q14.2))
 ((abin Try.prog .add 3 (.tmp 7) (.const (.int .i64 1)) (getL T 3) (.int .i64 1)).bind fun v16 =>
some (.normal, [(getL T 0), (getL T 1), (getL T 2), v16], q14.2)))
 (some (.exit 0, [], s))

noncomputable def ref12_Pivots (R : Caller) (x0 : Value) (s : St) : Option (Value × St) :=
(alenV (.slice 9) x0 s).bind fun v0 =>
(loopL (ref12_Pivots.b0 R) [x0, x0, v0, (.int .i64 0)] s).bind fun r17 =>
exV r17.1 [(0, retV [(.int .i64 0)] r17.2.2)]
 (retV [(getL r17.2.1 0)] r17.2.2)

theorem ref12_Pivots_of {lib : Lib} (hl : lib 39 = none) {x0 : Value} {s : St} {r : Value × St} (h : ref12_Pivots (run Try.prog lib hints) x0 s = some r) : run Try.prog lib hints 39 [x0] s = some r :=
  run_of hl Try.func39 (Eq.trans (by kernel_rfl) h)

theorem ref12_Pivots_ok : funcOk Try.prog 39 = true := by kernel_rfl
theorem ref12_Pivots_call {R : Caller} {xs : List Value} {s : St} : callV Try.prog R (.func (.func 39) #[] #[]) xs s = R 39 xs s := callV_eq ref12_Pivots_ok

/-! ### sumpter/sumpterref12.Check: 40 -/

noncomputable def ref12_Check.b0 (R : Caller) (T : List Value) (s : St) : Res :=
(abin Try.prog .lss 3 (.tmp 8) (.tmp 7) (getL T 3) (getL T 2)).bind fun v1 =>
condV v1
 ((aindexS 7 (getL T 1) (getL T 3)).bind fun v2 =>
(aload true 7 v2 s).bind fun v3 =>
(lstore 7 lptr v3 (.agg #[(.int .u64 0), (.int .i64 0), (.string ⟨#[]⟩), (.string ⟨#[]⟩), (.string ⟨#[]⟩), (.string ⟨#[]⟩), (.int .i64 0)])).bind fun v4 =>
(lload true 6 (.pointer (some ⟨0, 1, none⟩)) v4).bind fun v5 =>
(callV Try.prog R (.func (.func 70) #[] #[]) [v5] s).bind fun r6 =>
(abin Try.prog .neq 30 (.tmp 16) (.const (.int .i64 0)) r6.1 (.int .i64 0)).bind fun v7 =>
condV v7
 (some (.ret, [r6.1], r6.2))
 ((lload true 6 (.pointer (some ⟨0, 1, none⟩)) v4).bind fun v8 =>
(callV Try.prog R (.func (.func 71) #[] #[]) [v8] r6.2).bind fun r9 =>
(aun .not r9.1).bind fun v10 =>
condV v10
 (some (.ret, [(.int .i64 40)], r9.2))
 ((abin Try.prog .gtr 3 (.tmp 23) (.const (.int .i64 0)) (getL T 3) (.int .i64 0)).bind fun v11 =>
(guardV v11 true (some ([(getL T 0)], r9.2)) (some ([undef], r9.2))).bind fun q12 =>
(guardV v11 true (some ([(getL T 3)], q12.2)) (some ([undef], q12.2))).bind fun q13 =>
(guardV v11 true ((abin Try.prog .sub 3 (.tmp 27) (.const (.int .i64 1)) (getL q13.1 0) (.int .i64 1)).bind fun v14 =>
some ([v14], q13.2)) (some ([undef], q13.2))).bind fun q15 =>
(guardV v11 true ((aindexS 7 (getL q12.1 0) (getL q15.1 0)).bind fun v16 =>
some ([v16], q15.2)) (some ([undef], q15.2))).bind fun q17 =>
(guardV v11 true ((afieldAddr 0 (getL q17.1 0)).bind fun v18 =>
some ([v18], q17.2)) (some ([undef], q17.2))).bind fun q19 =>
((guardV v11 true ((aload false 1 (getL q19.1 0) q19.2).bind fun v28 =>
some (v28, q19.2)) (some (undef, q19.2))).bind (ownR q19.2)).bind fun r20 =>
(guardV v11 true (some ([lptr], r20.2)) (some ([undef], r20.2))).bind fun q21 =>
(guardV v11 true ((lload false 1 (getL q21.1 0) v4).bind fun v22 =>
some ([v22], q21.2)) (some ([undef], q21.2))).bind fun q23 =>
(guardV v11 true ((abin Try.prog .geq 62 (.tmp 31) (.tmp 33) r20.1 (getL q23.1 0)).bind fun v24 =>
some ([v24], q23.2)) (some ([undef], q23.2))).bind fun q25 =>
(apick v11 (getL q25.1 0) (.bool false)).bind fun v26 =>
condV v26
 (some (.ret, [(.int .i64 1)], q25.2))
 ((abin Try.prog .add 3 (.tmp 8) (.const (.int .i64 1)) (getL T 3) (.int .i64 1)).bind fun v27 =>
some (.normal, [(getL T 0), (getL T 1), (getL T 2), v27], q25.2)))))
 (some (.exit 0, [], s))

noncomputable def ref12_Check (R : Caller) (x0 : Value) (s : St) : Option (Value × St) :=
(alenV (.slice 66) x0 s).bind fun v0 =>
(loopL (ref12_Check.b0 R) [x0, x0, v0, (.int .i64 0)] s).bind fun r29 =>
exV r29.1 [(0, retV [(.int .i64 0)] r29.2.2)]
 (retV [(getL r29.2.1 0)] r29.2.2)

theorem ref12_Check_of {lib : Lib} (hl : lib 40 = none) {x0 : Value} {s : St} {r : Value × St} (h : ref12_Check (run Try.prog lib hints) x0 s = some r) : run Try.prog lib hints 40 [x0] s = some r :=
  run_of hl Try.func40 (Eq.trans (by kernel_rfl) h)

theorem ref12_Check_ok : funcOk Try.prog 40 = true := by kernel_rfl
theorem ref12_Check_call {R : Caller} {xs : List Value} {s : St} : callV Try.prog R (.func (.func 40) #[] #[]) xs s = R 40 xs s := callV_eq ref12_Check_ok

/-! ### sumpter/sumpterref12.Range: 41 -/

noncomputable def ref12_Range.j0 (R : Caller) (T : List Value) (s : St) : Option (Value × St) :=
(lload true 2 (getL T 1) (getL T 3)).bind fun v13 =>
(lstore 2 (getL T 0) v13 (getL T 2)).bind fun v14 =>
(lload true 2 (getL T 0) v14).bind fun v15 =>
retV [v15] s

noncomputable def ref12_Range.j1 (R : Caller) (T : List Value) (s : St) : Option (Value × St) :=
(alenV (.slice 9) (getL T 0) s).bind fun v7 =>
(abin Try.prog .lss 3 (.tmp 15) (.tmp 17) (getL T 1) v7).bind fun v8 =>
condV v8
 ((aindexS 1 (getL T 0) (getL T 1)).bind fun v9 =>
(aload false 1 v9 s).bind fun v10 =>
(afieldAddr 1 (getL T 3)).bind fun v11 =>
(lstore 1 v11 v10 (getL T 5)).bind fun v12 =>
joinK (ref12_Range.j0 R) [(getL T 2), (getL T 3), (getL T 4), v12] s)
 (joinK (ref12_Range.j0 R) [(getL T 2), (getL T 3), (getL T 4), (getL T 5)] s)

noncomputable def ref12_Range (R : Caller) (x0 x1 : Value) (s : St) : Option (Value × St) :=
(abin Try.prog .gtr 3 (.tmp 7) (.const (.int .i64 0)) x1 (.int .i64 0)).bind fun v1 =>
condV v1
 ((abin Try.prog .sub 3 (.tmp 10) (.const (.int .i64 1)) x1 (.int .i64 1)).bind fun v2 =>
(aindexS 1 x0 v2).bind fun v3 =>
(aload false 1 v3 s).bind fun v4 =>
(lstore 1 lptr v4 (.agg #[(.string ⟨#[]⟩), (.string ⟨#[]⟩)])).bind fun v5 =>
joinK (ref12_Range.j1 R) [x0, x1, lptr, lptr, (.agg #[(.string ⟨#[]⟩), (.string ⟨#[]⟩)]), v5] s)
 (joinK (ref12_Range.j1 R) [x0, x1, lptr, lptr, (.agg #[(.string ⟨#[]⟩), (.string ⟨#[]⟩)]), (.agg #[(.string ⟨#[]⟩), (.string ⟨#[]⟩)])] s)

theorem ref12_Range_of {lib : Lib} (hl : lib 41 = none) {x0 x1 : Value} {s : St} {r : Value × St} (h : ref12_Range (run Try.prog lib hints) x0 x1 s = some r) : run Try.prog lib hints 41 [x0, x1] s = some r :=
  run_of hl Try.func41 (Eq.trans (by kernel_rfl) h)

theorem ref12_Range_ok : funcOk Try.prog 41 = true := by kernel_rfl
theorem ref12_Range_call {R : Caller} {xs : List Value} {s : St} : callV Try.prog R (.func (.func 41) #[] #[]) xs s = R 41 xs s := callV_eq ref12_Range_ok

/-! ### sumpter/sumpterref02.Covers: 42 -/

noncomputable def ref02_Covers (R : Caller) (x0 x1 : Value) (s : St) : Option (Value × St) :=
(lbox x0).bind fun v0 =>
(lbox x1).bind fun v1 =>
(lload true 2 lptr v0).bind fun v2 =>
(callV Try.prog R (.func (.func 72) #[] #[]) [v2] s).bind fun r3 =>
(abin Try.prog .eql 30 (.tmp 6) (.const (.int .i64 0)) r3.1 (.int .i64 0)).bind fun v4 =>
(guardV v4 true ((lload true 2 lptr v1).bind fun v5 =>
(callV Try.prog R (.func (.func 72) #[] #[]) [v5] r3.2).bind fun r6 =>
(abin Try.prog .eql 30 (.tmp 10) (.const (.int .i64 0)) r6.1 (.int .i64 0)).bind fun v7 =>
some ([v7], r6.2)) (some ([undef], r3.2))).bind fun q8 =>
(apick v4 (getL q8.1 0) (.bool false)).bind fun v9 =>
(guardV v9 true ((lload false 1 lptr v0).bind fun v10 =>
(lload false 1 lptr v1).bind fun v11 =>
(abin Try.prog .leq 9 (.tmp 15) (.tmp 17) v10 v11).bind fun v12 =>
some ([v12], q8.2)) (some ([undef], q8.2))).bind fun q13 =>
(apick v9 (getL q13.1 0) (.bool false)).bind fun v14 =>
(guardV v14 true ((lload false 1 (.pointer (some ⟨0, 1, none⟩)) v0).bind fun v15 =>
(lload false 1 (.pointer (some ⟨0, 1, none⟩)) v1).bind fun v16 =>
(callV Try.prog R (.func (.func 73) #[] #[]) [v15, v16] q13.2).bind fun r17 =>
(aun .not r17.1).bind fun v18 =>
some ([v18], r17.2)) (some ([undef], q13.2))).bind fun q19 =>
(apick v14 (getL q19.1 0) (.bool false)).bind fun v20 =>
retV [v20] q19.2

theorem ref02_Covers_of {lib : Lib} (hl : lib 42 = none) {x0 x1 : Value} {s : St} {r : Value × St} (h : ref02_Covers (run Try.prog lib hints) x0 x1 s = some r) : run Try.prog lib hints 42 [x0, x1] s = some r :=
  run_of hl Try.func42 (Eq.trans (by kernel_rfl) h)

theorem ref02_Covers_ok : funcOk Try.prog 42 = true := by kernel_rfl
theorem ref02_Covers_call {R : Caller} {xs : List Value} {s : St} : callV Try.prog R (.func (.func 42) #[] #[]) xs s = R 42 xs s := callV_eq ref02_Covers_ok

/-! ### sumpter/sumpterref02.Has: 43 -/

noncomputable def ref02_Has (R : Caller) (x0 x1 : Value) (s : St) : Option (Value × St) :=
(lbox x0).bind fun v0 =>
(lload true 2 lptr v0).bind fun v1 =>
(callV Try.prog R (.func (.func 72) #[] #[]) [v1] s).bind fun r2 =>
(abin Try.prog .eql 30 (.tmp 6) (.const (.int .i64 0)) r2.1 (.int .i64 0)).bind fun v3 =>
(guardV v3 true ((callV Try.prog R (.func (.func 69) #[] #[]) [x1] r2.2).bind fun r4 =>
(abin Try.prog .eql 30 (.tmp 10) (.const (.int .i64 0)) r4.1 (.int .i64 0)).bind fun v5 =>
some ([v5], r4.2)) (some ([undef], r2.2))).bind fun q6 =>
(apick v3 (getL q6.1 0) (.bool false)).bind fun v7 =>
(guardV v7 true ((lload false 1 lptr v0).bind fun v8 =>
(abin Try.prog .geq 9 (.tmp 14) (.tmp 16) x1 v8).bind fun v9 =>
some ([v9], q6.2)) (some ([undef], q6.2))).bind fun q10 =>
(apick v7 (getL q10.1 0) (.bool false)).bind fun v11 =>
(guardV v11 true ((lload false 1 (.pointer (some ⟨0, 1, none⟩)) v0).bind fun v12 =>
(abin Try.prog .eql 9 (.tmp 21) (.const (.string ⟨#[]⟩)) v12 (.string ⟨#[]⟩)).bind fun v13 =>
some ([v13], q10.2)) (some ([undef], q10.2))).bind fun q14 =>
(guardV (getL q14.1 0) false ((lload false 1 (.pointer (some ⟨0, 1, none⟩)) v0).bind fun v15 =>
(abin Try.prog .lss 9 (.tmp 24) (.tmp 26) x1 v15).bind fun v16 =>
some ([v16], q14.2)) (some ([undef], q14.2))).bind fun q17 =>
(guardV v11 true ((apick (getL q14.1 0) (.bool true) (getL q17.1 0)).bind fun v18 =>
some ([v18], q17.2)) (some ([undef], q17.2))).bind fun q19 =>
(apick v11 (getL q19.1 0) (.bool false)).bind fun v20 =>
retV [v20] q19.2

theorem ref02_Has_of {lib : Lib} (hl : lib 43 = none) {x0 x1 : Value} {s : St} {r : Value × St} (h : ref02_Has (run Try.prog lib hints) x0 x1 s = some r) : run Try.prog lib hints 43 [x0, x1] s = some r :=
  run_of hl Try.func43 (Eq.trans (by kernel_rfl) h)

theorem ref02_Has_ok : funcOk Try.prog 43 = true := by kernel_rfl
theorem ref02_Has_call {R : Caller} {xs : List Value} {s : St} : callV Try.prog R (.func (.func 43) #[] #[]) xs s = R 43 xs s := callV_eq ref02_Has_ok

/-! ### (*sumpter/node.reader).byte: 44 -/

noncomputable def node_reader_byte.j0 (R : Caller) (T : List Value) (s : St) : Option (Value × St) :=
(anilCheck (getL T 0)).bind fun v13 =>
(afieldAddr 1 v13).bind fun v14 =>
(aload false 1 v14 s).bind fun v15 =>
(abin Try.prog .neq 30 (.tmp 22) (.const (.int .i64 0)) v15 (.int .i64 0)).bind fun v16 =>
condV v16
 (retV [(.int .u8 0)] s)
 ((anilCheck (getL T 0)).bind fun v17 =>
(afieldAddr 0 v17).bind fun v18 =>
(aload false 1 v18 s).bind fun v19 =>
(aindexS 1 v19 (.int .i64 0)).bind fun v20 =>
(aload false 1 v20 s).bind fun v21 =>
(anilCheck (getL T 0)).bind fun v22 =>
(afieldAddr 0 v22).bind fun v23 =>
(aload false 1 v23 s).bind fun v24 =>
(asliceV 1 v24 (some (.int .i64 1)) none none).bind fun v25 =>
(anilCheck (getL T 0)).bind fun v26 =>
(afieldAddr 0 v26).bind fun v27 =>
(astore 1 v27 v25 s).bind fun s28 =>
retV [v21] s28)

noncomputable def node_reader_byte (R : Caller) (x0 : Value) (s : St) : Option (Value × St) :=
(anilCheck x0).bind fun v1 =>
(afieldAddr 1 v1).bind fun v2 =>
(aload false 1 v2 s).bind fun v3 =>
(abin Try.prog .eql 30 (.tmp 7) (.const (.int .i64 0)) v3 (.int .i64 0)).bind fun v4 =>
(guardV v4 true ((anilCheck x0).bind fun v5 =>
(afieldAddr 0 v5).bind fun v6 =>
(aload false 1 v6 s).bind fun v7 =>
(alenV (.slice 5) v7 s).bind fun v8 =>
(abin Try.prog .eql 3 (.tmp 14) (.const (.int .i64 0)) v8 (.int .i64 0)).bind fun v9 =>
some ([v9], s)) (some ([undef], s))).bind fun q10 =>
(apick v4 (getL q10.1 0) (.bool false)).bind fun v11 =>
condV v11
 ((callV Try.prog R (.func (.func 22) #[] #[]) [x0, (.int .i64 10)] q10.2).bind fun r12 =>
joinK (node_reader_byte.j0 R) [x0] r12.2)
 (joinK (node_reader_byte.j0 R) [x0] q10.2)

theorem node_reader_byte_of {lib : Lib} (hl : lib 44 = none) {x0 : Value} {s : St} {r : Value × St} (h : node_reader_byte (run Try.prog lib hints) x0 s = some r) : run Try.prog lib hints 44 [x0] s = some r :=
  run_of hl Try.func44 (Eq.trans (by kernel_rfl) h)

theorem node_reader_byte_ok : funcOk Try.prog 44 = true := by kernel_rfl
theorem node_reader_byte_call {R : Caller} {xs : List Value} {s : St} : callV Try.prog R (.func (.func 44) #[] #[]) xs s = R 44 xs s := callV_eq node_reader_byte_ok

/-! ### sumpter/node.rows[sumpter/api.Pair]: 45 -/

noncomputable def node_rows_api_Pair.b0 (R : Caller) (T : List Value) (s : St) : Res :=
(abin Try.prog .lss 3 (.tmp 9) (.tmp 8) (getL T 4) (getL T 3)).bind fun v0 =>
condV v0
 ((anilCheck (getL T 0)).bind fun v1 =>
(afieldAddr 1 v1).bind fun v2 =>
(aload false 1 v2 s).bind fun v3 =>
(abin Try.prog .neq 30 (.tmp 14) (.const (.int .i64 0)) v3 (.int .i64 0)).bind fun v4 =>
condV v4
 (some (.ret, [(.slice none 0 0)], s))
 ((callV Try.prog R (getL T 1) [] s).bind fun r5 =>
(abuildSl 2 [(.string ⟨#[]⟩), (.string ⟨#[]⟩)] 1 [(0, r5.1)] r5.2).bind fun r6 =>
(aappend 2 32 (getL T 2) r6.1 r6.2).bind fun r7 =>
(abin Try.prog .add 3 (.tmp 9) (.const (.int .i64 1)) (getL T 4) (.int .i64 1)).bind fun v8 =>
some (.normal, [(getL T 0), (getL T 1), r7.1, (getL T 3), v8], r7.2)))
 (some (.exit 0, [(getL T 2)], s))

noncomputable def node_rows_api_Pair (R : Caller) (x0 x1 x2 : Value) (s : St) : Option (Value × St) :=
(loopL (node_rows_api_Pair.b0 R) [x0, x2, (.slice none 0 0), x1, (.int .i64 0)] s).bind fun r9 =>
exV r9.1 [(0, retV [(getL r9.2.1 0)] r9.2.2)]
 (retV [(getL r9.2.1 0)] r9.2.2)

theorem node_rows_api_Pair_of {lib : Lib} (hl : lib 45 = none) {x0 x1 x2 : Value} {s : St} {r : Value × St} (h : node_rows_api_Pair (run Try.prog lib hints) x0 x1 x2 s = some r) : run Try.prog lib hints 45 [x0, x1, x2] s = some r :=
  run_of hl Try.func45 (Eq.trans (by kernel_rfl) h)

theorem node_rows_api_Pair_ok : funcOk Try.prog 45 = true := by kernel_rfl
theorem node_rows_api_Pair_call {R : Caller} {xs : List Value} {s : St} : callV Try.prog R (.func (.func 45) #[] #[]) xs s = R 45 xs s := callV_eq node_rows_api_Pair_ok

/-! ### (*sumpter/node.reader).number: 46 -/

noncomputable def node_reader_number.j0 (R : Caller) (T : List Value) (s : St) : Option (Value × St) :=
(abin Try.prog .neq 30 (.tmp 29) (.const (.int .i64 0)) (getL T 3) (.int .i64 0)).bind fun v16 =>
condV v16
 ((callV Try.prog R (.func (.func 22) #[] #[]) [(getL T 0), (getL T 3)] s).bind fun r17 =>
retV [(.int .u64 0)] r17.2)
 ((anilCheck (getL T 0)).bind fun v18 =>
(afieldAddr 0 v18).bind fun v19 =>
(aload false 1 v19 s).bind fun v20 =>
(asliceV 1 v20 (some (getL T 2)) none none).bind fun v21 =>
(anilCheck (getL T 0)).bind fun v22 =>
(afieldAddr 0 v22).bind fun v23 =>
(astore 1 v23 v21 s).bind fun s24 =>
retV [(getL T 1)] s24)

noncomputable def node_reader_number (R : Caller) (x0 x1 : Value) (s : St) : Option (Value × St) :=
(anilCheck x0).bind fun v0 =>
(afieldAddr 1 v0).bind fun v1 =>
(aload false 1 v1 s).bind fun v2 =>
(abin Try.prog .neq 30 (.tmp 11) (.const (.int .i64 0)) v2 (.int .i64 0)).bind fun v3 =>
condV v3
 (retV [(.int .u64 0)] s)
 ((anilCheck x0).bind fun v4 =>
(afieldAddr 0 v4).bind fun v5 =>
(aload false 1 v5 s).bind fun v6 =>
(callV Try.prog R (.func (.func 74) #[] #[]) [v6] s).bind fun r7 =>
(aextract 0 r7.1).bind fun v8 =>
(aextract 1 r7.1).bind fun v9 =>
(aextract 2 r7.1).bind fun v10 =>
(abin Try.prog .eql 30 (.tmp 22) (.const (.int .i64 0)) v10 (.int .i64 0)).bind fun v12 =>
(guardV v12 true ((abin Try.prog .gtr 62 (.tmp 25) (.tmp 26) v8 x1).bind fun v13 =>
some ([v13], r7.2)) (some ([undef], r7.2))).bind fun q14 =>
(apick v12 (getL q14.1 0) (.bool false)).bind fun v15 =>
condV v15
 (joinK (node_reader_number.j0 R) [x0, v8, v9, (.int .i64 11)] q14.2)
 (joinK (node_reader_number.j0 R) [x0, v8, v9, v10] q14.2))

theorem node_reader_number_of {lib : Lib} (hl : lib 46 = none) {x0 x1 : Value} {s : St} {r : Value × St} (h : node_reader_number (run Try.prog lib hints) x0 x1 s = some r) : run Try.prog lib hints 46 [x0, x1] s = some r :=
  run_of hl Try.func46 (Eq.trans (by kernel_rfl) h)

theorem node_reader_number_ok : funcOk Try.prog 46 = true := by kernel_rfl
theorem node_reader_number_call {R : Caller} {xs : List Value} {s : St} : callV Try.prog R (.func (.func 46) #[] #[]) xs s = R 46 xs s := callV_eq node_reader_number_ok

/-! ### (*sumpter/node.reader).pair: 47 -/

noncomputable def node_reader_pair (R : Caller) (x0 : Value) (s : St) : Option (Value × St) :=
(callV Try.prog R (.func (.func 51) #[] #[]) [x0] s).bind fun r0 =>
(callV Try.prog R (.func (.func 51) #[] #[]) [x0] r0.2).bind fun r1 =>
(abuild Try.prog 45 [(0, r0.1), (1, r1.1)]).bind fun v2 =>
(lstore 2 lptr v2 (.agg #[(.string ⟨#[]⟩), (.string ⟨#[]⟩)])).bind fun v3 =>
(lload true 2 lptr v3).bind fun v4 =>
retV [v4] r1.2

theorem node_reader_pair_of {lib : Lib} (hl : lib 47 = none) {x0 : Value} {s : St} {r : Value × St} (h : node_reader_pair (run Try.prog lib hints) x0 s = some r) : run Try.prog lib hints 47 [x0] s = some r :=
  run_of hl Try.func47 (Eq.trans (by kernel_rfl) h)

theorem node_reader_pair_ok : funcOk Try.prog 47 = true := by kernel_rfl
theorem node_reader_pair_call {R : Caller} {xs : List Value} {s : St} : callV Try.prog R (.func (.func 47) #[] #[]) xs s = R 47 xs s := callV_eq node_reader_pair_ok

/-! ### sumpter/node.rows[int]: 48 -/

noncomputable def node_rows_int.b0 (R : Caller) (T : List Value) (s : St) : Res :=
(abin Try.prog .lss 3 (.tmp 9) (.tmp 8) (getL T 4) (getL T 3)).bind fun v0 =>
condV v0
 ((anilCheck (getL T 0)).bind fun v1 =>
(afieldAddr 1 v1).bind fun v2 =>
(aload false 1 v2 s).bind fun v3 =>
(abin Try.prog .neq 30 (.tmp 14) (.const (.int .i64 0)) v3 (.int .i64 0)).bind fun v4 =>
condV v4
 (some (.ret, [(.slice none 0 0)], s))
 ((callV Try.prog R (getL T 1) [] s).bind fun r5 =>
(abuildSl 1 [(.int .i64 0)] 1 [(0, r5.1)] r5.2).bind fun r6 =>
(aappend 1 8 (getL T 2) r6.1 r6.2).bind fun r7 =>
(abin Try.prog .add 3 (.tmp 9) (.const (.int .i64 1)) (getL T 4) (.int .i64 1)).bind fun v8 =>
some (.normal, [(getL T 0), (getL T 1), r7.1, (getL T 3), v8], r7.2)))
 (some (.exit 0, [(getL T 2)], s))

noncomputable def node_rows_int (R : Caller) (x0 x1 x2 : Value) (s : St) : Option (Value × St) :=
(loopL (node_rows_int.b0 R) [x0, x2, (.slice none 0 0), x1, (.int .i64 0)] s).bind fun r9 =>
exV r9.1 [(0, retV [(getL r9.2.1 0)] r9.2.2)]
 (retV [(getL r9.2.1 0)] r9.2.2)

theorem node_rows_int_of {lib : Lib} (hl : lib 48 = none) {x0 x1 x2 : Value} {s : St} {r : Value × St} (h : node_rows_int (run Try.prog lib hints) x0 x1 x2 s = some r) : run Try.prog lib hints 48 [x0, x1, x2] s = some r :=
  run_of hl Try.func48 (Eq.trans (by kernel_rfl) h)

theorem node_rows_int_ok : funcOk Try.prog 48 = true := by kernel_rfl
theorem node_rows_int_call {R : Caller} {xs : List Value} {s : St} : callV Try.prog R (.func (.func 48) #[] #[]) xs s = R 48 xs s := callV_eq node_rows_int_ok

/-! ### (*sumpter/node.reader).kid: 49 -/

noncomputable def node_reader_kid (R : Caller) (x0 : Value) (s : St) : Option (Value × St) :=
(callV Try.prog R (.func (.func 46) #[] #[]) [x0, (.int .u64 2147483647)] s).bind fun r0 =>
(convInt .i64 r0.1).bind fun v1 =>
retV [v1] r0.2

theorem node_reader_kid_of {lib : Lib} (hl : lib 49 = none) {x0 : Value} {s : St} {r : Value × St} (h : node_reader_kid (run Try.prog lib hints) x0 s = some r) : run Try.prog lib hints 49 [x0] s = some r :=
  run_of hl Try.func49 (Eq.trans (by kernel_rfl) h)

theorem node_reader_kid_ok : funcOk Try.prog 49 = true := by kernel_rfl
theorem node_reader_kid_call {R : Caller} {xs : List Value} {s : St} : callV Try.prog R (.func (.func 49) #[] #[]) xs s = R 49 xs s := callV_eq node_reader_kid_ok

/-! ### sumpter/node.rows[string]: 50 -/

noncomputable def node_rows_string.b0 (R : Caller) (T : List Value) (s : St) : Res :=
(abin Try.prog .lss 3 (.tmp 9) (.tmp 8) (getL T 4) (getL T 3)).bind fun v0 =>
condV v0
 ((anilCheck (getL T 0)).bind fun v1 =>
(afieldAddr 1 v1).bind fun v2 =>
(aload false 1 v2 s).bind fun v3 =>
(abin Try.prog .neq 30 (.tmp 14) (.const (.int .i64 0)) v3 (.int .i64 0)).bind fun v4 =>
condV v4
 (some (.ret, [(.slice none 0 0)], s))
 ((callV Try.prog R (getL T 1) [] s).bind fun r5 =>
(abuildSl 1 [(.string ⟨#[]⟩)] 1 [(0, r5.1)] r5.2).bind fun r6 =>
(aappend 1 16 (getL T 2) r6.1 r6.2).bind fun r7 =>
(abin Try.prog .add 3 (.tmp 9) (.const (.int .i64 1)) (getL T 4) (.int .i64 1)).bind fun v8 =>
some (.normal, [(getL T 0), (getL T 1), r7.1, (getL T 3), v8], r7.2)))
 (some (.exit 0, [(getL T 2)], s))

noncomputable def node_rows_string (R : Caller) (x0 x1 x2 : Value) (s : St) : Option (Value × St) :=
(loopL (node_rows_string.b0 R) [x0, x2, (.slice none 0 0), x1, (.int .i64 0)] s).bind fun r9 =>
exV r9.1 [(0, retV [(getL r9.2.1 0)] r9.2.2)]
 (retV [(getL r9.2.1 0)] r9.2.2)

theorem node_rows_string_of {lib : Lib} (hl : lib 50 = none) {x0 x1 x2 : Value} {s : St} {r : Value × St} (h : node_rows_string (run Try.prog lib hints) x0 x1 x2 s = some r) : run Try.prog lib hints 50 [x0, x1, x2] s = some r :=
  run_of hl Try.func50 (Eq.trans (by kernel_rfl) h)

theorem node_rows_string_ok : funcOk Try.prog 50 = true := by kernel_rfl
theorem node_rows_string_call {R : Caller} {xs : List Value} {s : St} : callV Try.prog R (.func (.func 50) #[] #[]) xs s = R 50 xs s := callV_eq node_rows_string_ok

/-! ### (*sumpter/node.reader).text: 51 -/

noncomputable def node_reader_text.j0 (R : Caller) (T : List Value) (s : St) : Option (Value × St) :=
(abin Try.prog .neq 30 (.tmp 22) (.const (.int .i64 0)) (getL T 3) (.int .i64 0)).bind fun v13 =>
condV v13
 ((callV Try.prog R (.func (.func 22) #[] #[]) [(getL T 0), (getL T 3)] s).bind fun r14 =>
retV [(.string ⟨#[]⟩)] r14.2)
 ((anilCheck (getL T 0)).bind fun v15 =>
(afieldAddr 0 v15).bind fun v16 =>
(aload false 1 v16 s).bind fun v17 =>
(asliceV 1 v17 (some (getL T 2)) none none).bind fun v18 =>
(anilCheck (getL T 0)).bind fun v19 =>
(afieldAddr 0 v19).bind fun v20 =>
(astore 1 v20 v18 s).bind fun s21 =>
retV [(getL T 1)] s21)

noncomputable def node_reader_text (R : Caller) (x0 : Value) (s : St) : Option (Value × St) :=
(anilCheck x0).bind fun v0 =>
(afieldAddr 1 v0).bind fun v1 =>
(aload false 1 v1 s).bind fun v2 =>
(abin Try.prog .neq 30 (.tmp 9) (.const (.int .i64 0)) v2 (.int .i64 0)).bind fun v3 =>
condV v3
 (retV [(.string ⟨#[]⟩)] s)
 ((anilCheck x0).bind fun v4 =>
(afieldAddr 0 v4).bind fun v5 =>
(aload false 1 v5 s).bind fun v6 =>
(callV Try.prog R (.func (.func 75) #[] #[]) [v6, (.int .i64 480)] s).bind fun r7 =>
(aextract 0 r7.1).bind fun v8 =>
(aextract 1 r7.1).bind fun v9 =>
(aextract 2 r7.1).bind fun v10 =>
(abin Try.prog .eql 30 (.tmp 20) (.const (.int .i64 2)) v10 (.int .i64 2)).bind fun v12 =>
condV v12
 (joinK (node_reader_text.j0 R) [x0, v8, v9, (.int .i64 11)] r7.2)
 (joinK (node_reader_text.j0 R) [x0, v8, v9, v10] r7.2))

theorem node_reader_text_of {lib : Lib} (hl : lib 51 = none) {x0 : Value} {s : St} {r : Value × St} (h : node_reader_text (run Try.prog lib hints) x0 s = some r) : run Try.prog lib hints 51 [x0] s = some r :=
  run_of hl Try.func51 (Eq.trans (by kernel_rfl) h)

theorem node_reader_text_ok : funcOk Try.prog 51 = true := by kernel_rfl
theorem node_reader_text_call {R : Caller} {xs : List Value} {s : St} : callV Try.prog R (.func (.func 51) #[] #[]) xs s = R 51 xs s := callV_eq node_reader_text_ok

/-! ### sumpter/node.rows[[]sumpter/api.Entry]: 52 -/

noncomputable def node_rows_api_Entry.b0 (R : Caller) (T : List Value) (s : St) : Res :=
(abin Try.prog .lss 3 (.tmp 9) (.tmp 8) (getL T 4) (getL T 3)).bind fun v0 =>
condV v0
 ((anilCheck (getL T 0)).bind fun v1 =>
(afieldAddr 1 v1).bind fun v2 =>
(aload false 1 v2 s).bind fun v3 =>
(abin Try.prog .neq 30 (.tmp 14) (.const (.int .i64 0)) v3 (.int .i64 0)).bind fun v4 =>
condV v4
 (some (.ret, [(.slice none 0 0)], s))
 ((callV Try.prog R (getL T 1) [] s).bind fun r5 =>
(abuildSl 1 [(.slice none 0 0)] 1 [(0, r5.1)] r5.2).bind fun r6 =>
(aappend 1 24 (getL T 2) r6.1 r6.2).bind fun r7 =>
(abin Try.prog .add 3 (.tmp 9) (.const (.int .i64 1)) (getL T 4) (.int .i64 1)).bind fun v8 =>
some (.normal, [(getL T 0), (getL T 1), r7.1, (getL T 3), v8], r7.2)))
 (some (.exit 0, [(getL T 2)], s))

noncomputable def node_rows_api_Entry (R : Caller) (x0 x1 x2 : Value) (s : St) : Option (Value × St) :=
(loopL (node_rows_api_Entry.b0 R) [x0, x2, (.slice none 0 0), x1, (.int .i64 0)] s).bind fun r9 =>
exV r9.1 [(0, retV [(getL r9.2.1 0)] r9.2.2)]
 (retV [(getL r9.2.1 0)] r9.2.2)

theorem node_rows_api_Entry_of {lib : Lib} (hl : lib 52 = none) {x0 x1 x2 : Value} {s : St} {r : Value × St} (h : node_rows_api_Entry (run Try.prog lib hints) x0 x1 x2 s = some r) : run Try.prog lib hints 52 [x0, x1, x2] s = some r :=
  run_of hl Try.func52 (Eq.trans (by kernel_rfl) h)

theorem node_rows_api_Entry_ok : funcOk Try.prog 52 = true := by kernel_rfl
theorem node_rows_api_Entry_call {R : Caller} {xs : List Value} {s : St} : callV Try.prog R (.func (.func 52) #[] #[]) xs s = R 52 xs s := callV_eq node_rows_api_Entry_ok

/-! ### (*sumpter/node.reader).buffer: 53 -/

noncomputable def node_reader_buffer (R : Caller) (x0 : Value) (s : St) : Option (Value × St) :=
(callV Try.prog R (.func (.func 46) #[] #[]) [x0, (.int .u64 480)] s).bind fun r0 =>
(convInt .i64 r0.1).bind fun v1 =>
(amkFunc 77 [x0] []).bind fun v2 =>
(callV Try.prog R (.func (.func 76) #[] #[]) [x0, v1, v2] r0.2).bind fun r3 =>
retV [r3.1] r3.2

theorem node_reader_buffer_of {lib : Lib} (hl : lib 53 = none) {x0 : Value} {s : St} {r : Value × St} (h : node_reader_buffer (run Try.prog lib hints) x0 s = some r) : run Try.prog lib hints 53 [x0] s = some r :=
  run_of hl Try.func53 (Eq.trans (by kernel_rfl) h)

theorem node_reader_buffer_ok : funcOk Try.prog 53 = true := by kernel_rfl
theorem node_reader_buffer_call {R : Caller} {xs : List Value} {s : St} : callV Try.prog R (.func (.func 53) #[] #[]) xs s = R 53 xs s := callV_eq node_reader_buffer_ok

/-! ### sumpter/op.CheckOp: 58 -/

noncomputable def op_CheckOp.j0 (R : Caller) (T : List Value) (s : St) : Option (Value × St) :=
condV (getL T 2)
 (retV [(.int .i64 40)] s)
 ((afieldAddr 0 (getL T 1)).bind fun v8 =>
(lload false 1 v8 (getL T 4)).bind fun v9 =>
(guardV v9 true ((afieldAddr 1 (getL T 0)).bind fun v10 =>
(lload false 1 v10 (getL T 3)).bind fun v11 =>
(callV Try.prog R (.func (.func 30) #[] #[]) [v11] s).bind fun r12 =>
(abin Try.prog .neq 30 (.tmp 53) (.const (.int .i64 0)) r12.1 (.int .i64 0)).bind fun v13 =>
some ([v13], r12.2)) (some ([undef], s))).bind fun q14 =>
(apick v9 (getL q14.1 0) (.bool false)).bind fun v15 =>
condV v15
 (retV [(.int .i64 20)] q14.2)
 ((afieldAddr 2 (getL T 0)).bind fun v16 =>
(lload false 1 v16 (getL T 3)).bind fun v17 =>
(alenV .string v17 q14.2).bind fun v18 =>
(abin Try.prog .gtr 3 (.tmp 59) (.const (.int .i64 16)) v18 (.int .i64 16)).bind fun v19 =>
condV v19
 (retV [(.int .i64 2)] q14.2)
 ((afieldAddr 2 (getL T 1)).bind fun v20 =>
(lload false 1 v20 (getL T 4)).bind fun v21 =>
(guardV v21 true ((lload true 6 (getL T 0) (getL T 3)).bind fun v22 =>
(callV Try.prog R (.func (.func 81) #[] #[]) [v22] q14.2).bind fun r23 =>
(callV Try.prog R (.func (.func 82) #[] #[]) [r23.1] r23.2).bind fun r24 =>
(abin Try.prog .neq 30 (.tmp 67) (.const (.int .i64 0)) r24.1 (.int .i64 0)).bind fun v25 =>
some ([v25], r24.2)) (some ([undef], q14.2))).bind fun q26 =>
(apick v21 (getL q26.1 0) (.bool false)).bind fun v27 =>
condV v27
 (retV [(.int .i64 21)] q26.2)
 ((afieldAddr 3 (getL T 1)).bind fun v28 =>
(lload false 1 v28 (getL T 4)).bind fun v29 =>
(guardV v29 true ((afieldAddr 5 (getL T 0)).bind fun v30 =>
(lload false 1 v30 (getL T 3)).bind fun v31 =>
(abin Try.prog .lss 3 (.tmp 75) (.const (.int .i64 1)) v31 (.int .i64 1)).bind fun v32 =>
some ([v32], q26.2)) (some ([undef], q26.2))).bind fun q33 =>
(guardV (getL q33.1 0) false ((afieldAddr 5 (getL T 0)).bind fun v34 =>
(lload false 1 v34 (getL T 3)).bind fun v35 =>
(abin Try.prog .gtr 3 (.tmp 79) (.const (.int .i64 4)) v35 (.int .i64 4)).bind fun v36 =>
some ([v36], q33.2)) (some ([undef], q33.2))).bind fun q37 =>
(guardV v29 true ((apick (getL q33.1 0) (.bool true) (getL q37.1 0)).bind fun v38 =>
some ([v38], q37.2)) (some ([undef], q37.2))).bind fun q39 =>
(apick v29 (getL q39.1 0) (.bool false)).bind fun v40 =>
condV v40
 (retV [(.int .i64 1)] q39.2)
 (retV [(.int .i64 0)] q39.2)))))

noncomputable def op_CheckOp (R : Caller) (x0 : Value) (s : St) : Option (Value × St) :=
(lbox x0).bind fun v0 =>
(lload false 1 lptr v0).bind fun v1 =>
(callV Try.prog R (.func (.func 80) #[] #[]) [v1] s).bind fun r2 =>
(aextract 0 r2.1).bind fun v3 =>
(aextract 1 r2.1).bind fun v4 =>
(lstore 6 lptr v3 (.agg #[(.bool false), (.bool false), (.bool false), (.bool false), (.bool false), .nilFunc])).bind fun v5 =>
(aun .not v4).bind fun v7 =>
condV v7
 (joinK (op_CheckOp.j0 R) [lptr, lptr, v7, v0, v5] r2.2)
 ((lload false 1 lptr v5).bind fun v41 =>
(aun .not v41).bind fun v42 =>
(guardV v42 true ((lload false 1 (.pointer (some ⟨0, 1, none⟩)) v0).bind fun v43 =>
(abin Try.prog .neq 9 (.tmp 19) (.const (.string ⟨#[]⟩)) v43 (.string ⟨#[]⟩)).bind fun v44 =>
some ([v44], r2.2)) (some ([undef], r2.2))).bind fun q45 =>
(apick v42 (getL q45.1 0) (.bool false)).bind fun v46 =>
condV v46
 (joinK (op_CheckOp.j0 R) [lptr, lptr, v46, v0, v5] q45.2)
 ((lload false 1 (.pointer (some ⟨0, 1, none⟩)) v5).bind fun v47 =>
(aun .not v47).bind fun v48 =>
(guardV v48 true ((lload false 1 (.pointer (some ⟨0, 2, none⟩)) v0).bind fun v49 =>
(abin Try.prog .neq 9 (.tmp 27) (.const (.string ⟨#[]⟩)) v49 (.string ⟨#[]⟩)).bind fun v50 =>
some ([v50], q45.2)) (some ([undef], q45.2))).bind fun q51 =>
(apick v48 (getL q51.1 0) (.bool false)).bind fun v52 =>
condV v52
 (joinK (op_CheckOp.j0 R) [lptr, lptr, v52, v0, v5] q51.2)
 ((lload false 1 (.pointer (some ⟨0, 2, none⟩)) v5).bind fun v53 =>
(aun .not v53).bind fun v54 =>
(guardV v54 true ((lload true 6 lptr v0).bind fun v55 =>
(callV Try.prog R (.func (.func 81) #[] #[]) [v55] q51.2).bind fun r56 =>
(abin Try.prog .neq 74 (.tmp 35) (.tmp 36) r56.1 (.agg #[(.string ⟨#[]⟩), (.string ⟨#[]⟩)])).bind fun v57 =>
some ([v57], r56.2)) (some ([undef], q51.2))).bind fun q58 =>
(apick v54 (getL q58.1 0) (.bool false)).bind fun v59 =>
condV v59
 (joinK (op_CheckOp.j0 R) [lptr, lptr, v59, v0, v5] q58.2)
 ((lload false 1 (.pointer (some ⟨0, 3, none⟩)) v5).bind fun v60 =>
(aun .not v60).bind fun v61 =>
(guardV v61 true ((lload false 1 (.pointer (some ⟨0, 5, none⟩)) v0).bind fun v62 =>
(abin Try.prog .neq 3 (.tmp 44) (.const (.int .i64 0)) v62 (.int .i64 0)).bind fun v63 =>
some ([v63], q58.2)) (some ([undef], q58.2))).bind fun q64 =>
(apick v61 (getL q64.1 0) (.bool false)).bind fun v65 =>
joinK (op_CheckOp.j0 R) [lptr, lptr, v65, v0, v5] q64.2))))

theorem op_CheckOp_of {lib : Lib} (hl : lib 58 = none) {x0 : Value} {s : St} {r : Value × St} (h : op_CheckOp (run Try.prog lib hints) x0 s = some r) : run Try.prog lib hints 58 [x0] s = some r :=
  run_of hl Try.func58 (Eq.trans (by kernel_rfl) h)

theorem op_CheckOp_ok : funcOk Try.prog 58 = true := by kernel_rfl
theorem op_CheckOp_call {R : Caller} {xs : List Value} {s : St} : callV Try.prog R (.func (.func 58) #[] #[]) xs s = R 58 xs s := callV_eq op_CheckOp_ok

/-! ### sumpter/op.Writes: 59 -/

noncomputable def op_Writes (R : Caller) (x0 : Value) (s : St) : Option (Value × St) :=
(lbox x0).bind fun v0 =>
(lload false 1 lptr v0).bind fun v1 =>
(callV Try.prog R (.func (.func 80) #[] #[]) [v1] s).bind fun r2 =>
(aextract 0 r2.1).bind fun v3 =>
(aextract 1 r2.1).bind fun v4 =>
(lstore 6 lptr v3 (.agg #[(.bool false), (.bool false), (.bool false), (.bool false), (.bool false), .nilFunc])).bind fun v5 =>
(lload false 1 (.pointer (some ⟨0, 4, none⟩)) v5).bind fun v6 =>
retV [v6] r2.2

theorem op_Writes_of {lib : Lib} (hl : lib 59 = none) {x0 : Value} {s : St} {r : Value × St} (h : op_Writes (run Try.prog lib hints) x0 s = some r) : run Try.prog lib hints 59 [x0] s = some r :=
  run_of hl Try.func59 (Eq.trans (by kernel_rfl) h)

theorem op_Writes_ok : funcOk Try.prog 59 = true := by kernel_rfl
theorem op_Writes_call {R : Caller} {xs : List Value} {s : St} : callV Try.prog R (.func (.func 59) #[] #[]) xs s = R 59 xs s := callV_eq op_Writes_ok

/-! ### slices.IndexFunc[[]sumpter/api.Entry,sumpter/api.Entry]: 60 -/

noncomputable def slices_IndexFunc_api_Entry_api_Entry.b0 (R : Caller) (T : List Value) (s : St) : Res :=
(abin Try.prog .lss 3 (.tmp 8) (.tmp 7) (getL T 3) (getL T 2)).bind fun v1 =>
condV v1
 ((aindexS 7 (getL T 0) (getL T 3)).bind fun v2 =>
(aload true 7 v2 s).bind fun v3 =>
(callV Try.prog R (getL T 1) [v3] s).bind fun r4 =>
condV r4.1
 (some (.ret, [(getL T 3)], r4.2))
 ((abin Try.prog .add 3 (.tmp 8) (.const (.int .i64 1)) (getL T 3) (.int .i64 1)).bind fun v5 =>
some (.normal, [(getL T 0), (getL T 1), (getL T 2), v5], r4.2)))
 (some (.exit 0, [], s))

noncomputable def slices_IndexFunc_api_Entry_api_Entry (R : Caller) (x0 x1 : Value) (s : St) : Option (Value × St) :=
(alenV (.slice 66) x0 s).bind fun v0 =>
(loopL (slices_IndexFunc_api_Entry_api_Entry.b0 R) [x0, x1, v0, (.int .i64 0)] s).bind fun r6 =>
exV r6.1 [(0, retV [(.int .i64 (-1))] r6.2.2)]
 (retV [(getL r6.2.1 0)] r6.2.2)

theorem slices_IndexFunc_api_Entry_api_Entry_of {lib : Lib} (hl : lib 60 = none) {x0 x1 : Value} {s : St} {r : Value × St} (h : slices_IndexFunc_api_Entry_api_Entry (run Try.prog lib hints) x0 x1 s = some r) : run Try.prog lib hints 60 [x0, x1] s = some r :=
  run_of hl Try.func60 (Eq.trans (by kernel_rfl) h)

theorem slices_IndexFunc_api_Entry_api_Entry_ok : funcOk Try.prog 60 = true := by kernel_rfl
theorem slices_IndexFunc_api_Entry_api_Entry_call {R : Caller} {xs : List Value} {s : St} : callV Try.prog R (.func (.func 60) #[] #[]) xs s = R 60 xs s := callV_eq slices_IndexFunc_api_Entry_api_Entry_ok

/-! ### sumpter/span.Covers: 61 -/

noncomputable def span_Covers (R : Caller) (x0 x1 : Value) (s : St) : Option (Value × St) :=
(lbox x0).bind fun v0 =>
(lbox x1).bind fun v1 =>
(lload true 2 lptr v0).bind fun v2 =>
(((callV Try.prog R (.func (.func 82) #[] #[]) [v2] s).bind fun r35 =>
some (r35.1, r35.2)).bind (ownR s)).bind fun r3 =>
(abin Try.prog .eql 30 (.tmp 6) (.const (.int .i64 0)) r3.1 (.int .i64 0)).bind fun v4 =>
(guardV v4 true ((lload true 2 lptr v1).bind fun v5 =>
some ([v5], r3.2)) (some ([undef], r3.2))).bind fun q6 =>
((guardV v4 true ((callV Try.prog R (.func (.func 82) #[] #[]) [(getL q6.1 0)] q6.2).bind fun r34 =>
some (r34.1, r34.2)) (some (undef, q6.2))).bind (ownR q6.2)).bind fun r7 =>
(guardV v4 true ((abin Try.prog .eql 30 (.tmp 10) (.const (.int .i64 0)) r7.1 (.int .i64 0)).bind fun v8 =>
some ([v8], r7.2)) (some ([undef], r7.2))).bind fun q9 =>
(apick v4 (getL q9.1 0) (.bool false)).bind fun v10 =>
(guardV v10 true (some ([lptr], q9.2)) (some ([undef], q9.2))).bind fun q11 =>
(guardV v10 true ((lload false 1 (getL q11.1 0) v0).bind fun v12 =>
some ([v12], q11.2)) (some ([undef], q11.2))).bind fun q13 =>
(guardV v10 true (some ([lptr], q13.2)) (some ([undef], q13.2))).bind fun q14 =>
(guardV v10 true ((lload false 1 (getL q14.1 0) v1).bind fun v15 =>
some ([v15], q14.2)) (some ([undef], q14.2))).bind fun q16 =>
(guardV v10 true ((abin Try.prog .leq 9 (.tmp 15) (.tmp 17) (getL q13.1 0) (getL q16.1 0)).bind fun v17 =>
some ([v17], q16.2)) (some ([undef], q16.2))).bind fun q18 =>
(apick v10 (getL q18.1 0) (.bool false)).bind fun v19 =>
(guardV v19 true (some ([(.pointer (some ⟨0, 1, none⟩))], q18.2)) (some ([undef], q18.2))).bind fun q20 =>
(guardV v19 true ((lload false 1 (getL q20.1 0) v0).bind fun v21 =>
some ([v21], q20.2)) (some ([undef], q20.2))).bind fun q22 =>
(guardV v19 true (some ([(.pointer (some ⟨0, 1, none⟩))], q22.2)) (some ([undef], q22.2))).bind fun q23 =>
(guardV v19 true ((lload false 1 (getL q23.1 0) v1).bind fun v24 =>
some ([v24], q23.2)) (some ([undef], q23.2))).bind fun q25 =>
((guardV v19 true ((callV Try.prog R (.func (.func 83) #[] #[]) [(getL q22.1 0), (getL q25.1 0)] q25.2).bind fun r33 =>
some (r33.1, r33.2)) (some (undef, q25.2))).bind (ownR q25.2)).bind fun r26 =>
(guardV v19 true (some ([(.pointer (some ⟨0, 1, none⟩))], r26.2)) (some ([undef], r26.2))).bind fun q27 =>
(guardV v19 true ((lload false 1 (getL q27.1 0) v1).bind fun v28 =>
some ([v28], q27.2)) (some ([undef], q27.2))).bind fun q29 =>
(guardV v19 true ((abin Try.prog .eql 9 (.tmp 25) (.tmp 27) r26.1 (getL q29.1 0)).bind fun v30 =>
some ([v30], q29.2)) (some ([undef], q29.2))).bind fun q31 =>
(apick v19 (getL q31.1 0) (.bool false)).bind fun v32 =>
retV [v32] q31.2

theorem span_Covers_of {lib : Lib} (hl : lib 61 = none) {x0 x1 : Value} {s : St} {r : Value × St} (h : span_Covers (run Try.prog lib hints) x0 x1 s = some r) : run Try.prog lib hints 61 [x0, x1] s = some r :=
  run_of hl Try.func61 (Eq.trans (by kernel_rfl) h)

theorem span_Covers_ok : funcOk Try.prog 61 = true := by kernel_rfl
theorem span_Covers_call {R : Caller} {xs : List Value} {s : St} : callV Try.prog R (.func (.func 61) #[] #[]) xs s = R 61 xs s := callV_eq span_Covers_ok

/-! ### sumpter/span.Has: 62 -/

noncomputable def span_Has (R : Caller) (x0 x1 : Value) (s : St) : Option (Value × St) :=
(lbox x0).bind fun v0 =>
(lload true 2 lptr v0).bind fun v1 =>
(callV Try.prog R (.func (.func 82) #[] #[]) [v1] s).bind fun r2 =>
(abin Try.prog .eql 30 (.tmp 6) (.const (.int .i64 0)) r2.1 (.int .i64 0)).bind fun v3 =>
(guardV v3 true ((callV Try.prog R (.func (.func 30) #[] #[]) [x1] r2.2).bind fun r4 =>
(abin Try.prog .eql 30 (.tmp 10) (.const (.int .i64 0)) r4.1 (.int .i64 0)).bind fun v5 =>
some ([v5], r4.2)) (some ([undef], r2.2))).bind fun q6 =>
(apick v3 (getL q6.1 0) (.bool false)).bind fun v7 =>
(guardV v7 true ((lload false 1 lptr v0).bind fun v8 =>
(abin Try.prog .leq 9 (.tmp 15) (.tmp 16) v8 x1).bind fun v9 =>
some ([v9], q6.2)) (some ([undef], q6.2))).bind fun q10 =>
(apick v7 (getL q10.1 0) (.bool false)).bind fun v11 =>
(guardV v11 true ((lload false 1 (.pointer (some ⟨0, 1, none⟩)) v0).bind fun v12 =>
(abin Try.prog .eql 9 (.tmp 21) (.const (.string ⟨#[]⟩)) v12 (.string ⟨#[]⟩)).bind fun v13 =>
some ([v13], q10.2)) (some ([undef], q10.2))).bind fun q14 =>
(guardV (getL q14.1 0) false ((lload false 1 (.pointer (some ⟨0, 1, none⟩)) v0).bind fun v15 =>
(abin Try.prog .lss 9 (.tmp 24) (.tmp 26) x1 v15).bind fun v16 =>
some ([v16], q14.2)) (some ([undef], q14.2))).bind fun q17 =>
(guardV v11 true ((apick (getL q14.1 0) (.bool true) (getL q17.1 0)).bind fun v18 =>
some ([v18], q17.2)) (some ([undef], q17.2))).bind fun q19 =>
(apick v11 (getL q19.1 0) (.bool false)).bind fun v20 =>
retV [v20] q19.2

theorem span_Has_of {lib : Lib} (hl : lib 62 = none) {x0 x1 : Value} {s : St} {r : Value × St} (h : span_Has (run Try.prog lib hints) x0 x1 s = some r) : run Try.prog lib hints 62 [x0, x1] s = some r :=
  run_of hl Try.func62 (Eq.trans (by kernel_rfl) h)

theorem span_Has_ok : funcOk Try.prog 62 = true := by kernel_rfl
theorem span_Has_call {R : Caller} {xs : List Value} {s : St} : callV Try.prog R (.func (.func 62) #[] #[]) xs s = R 62 xs s := callV_eq span_Has_ok

/-! ### sumpter/node.num: 63 -/

noncomputable def node_num (R : Caller) (x0 x1 : Value) (s : St) : Option (Value × St) :=
(callV Try.prog R (.func (.func 84) #[] #[]) [x1] s).bind fun r0 =>
(aappend 1 1 x0 r0.1 r0.2).bind fun r1 =>
retV [r1.1] r1.2

theorem node_num_of {lib : Lib} (hl : lib 63 = none) {x0 x1 : Value} {s : St} {r : Value × St} (h : node_num (run Try.prog lib hints) x0 x1 s = some r) : run Try.prog lib hints 63 [x0, x1] s = some r :=
  run_of hl Try.func63 (Eq.trans (by kernel_rfl) h)

theorem node_num_ok : funcOk Try.prog 63 = true := by kernel_rfl
theorem node_num_call {R : Caller} {xs : List Value} {s : St} : callV Try.prog R (.func (.func 63) #[] #[]) xs s = R 63 xs s := callV_eq node_num_ok

/-! ### sumpter/node.text: 64 -/

noncomputable def node_text.b0 (R : Caller) (T : List Value) (s : St) : Res :=
(abin Try.prog .lss 3 (.tmp 9) (.tmp 8) (getL T 3) (getL T 2)).bind fun v1 =>
condV v1
 ((aindexS 1 (getL T 1) (getL T 3)).bind fun v2 =>
(aload false 1 v2 s).bind fun v3 =>
(callV Try.prog R (.func (.func 85) #[] #[]) [v3] s).bind fun r4 =>
(aappend 1 1 (getL T 0) r4.1 r4.2).bind fun r5 =>
(abin Try.prog .add 3 (.tmp 9) (.const (.int .i64 1)) (getL T 3) (.int .i64 1)).bind fun v6 =>
some (.normal, [r5.1, (getL T 1), (getL T 2), v6], r5.2))
 (some (.exit 0, [(getL T 0)], s))

noncomputable def node_text (R : Caller) (x0 x1 : Value) (s : St) : Option (Value × St) :=
(alenV (.slice 9) x1 s).bind fun v0 =>
(loopL (node_text.b0 R) [x0, x1, v0, (.int .i64 0)] s).bind fun r7 =>
exV r7.1 [(0, retV [(getL r7.2.1 0)] r7.2.2)]
 (none)

theorem node_text_of {lib : Lib} (hl : lib 64 = none) {x0 x1 : Value} {s : St} {r : Value × St} (h : node_text (run Try.prog lib hints) x0 x1 s = some r) : run Try.prog lib hints 64 [x0, x1] s = some r :=
  run_of hl Try.func64 (Eq.trans (by kernel_rfl) h)

theorem node_text_ok : funcOk Try.prog 64 = true := by kernel_rfl
theorem node_text_call {R : Caller} {xs : List Value} {s : St} : callV Try.prog R (.func (.func 64) #[] #[]) xs s = R 64 xs s := callV_eq node_text_ok

/-! ### sumpter/node.fields: 65 -/

noncomputable def node_fields (R : Caller) (x0 : Value) (s : St) : Option (Value × St) :=
(anilCheck x0).bind fun v0 =>
(afieldAddr 0 v0).bind fun v1 =>
(aload false 1 v1 s).bind fun v2 =>
(abin Try.prog .eql 3 (.tmp 6) (.const (.int .i64 2)) v2 (.int .i64 2)).bind fun v3 =>
condV v3
 ((anilCheck x0).bind fun v4 =>
(afieldAddr 1 v4).bind fun v5 =>
(anilCheck x0).bind fun v6 =>
(afieldAddr 2 v6).bind fun v7 =>
(((abuildSl 1 [(.pointer none)] 2 [(0, v5), (1, v7)] s).bind fun r9 =>
some (r9.1, r9.2)).bind (ownR s)).bind fun r8 =>
retV [r8.1] r8.2)
 ((abin Try.prog .eql 3 (.tmp 6) (.const (.int .i64 3)) v2 (.int .i64 3)).bind fun v10 =>
condV v10
 ((anilCheck x0).bind fun v11 =>
(afieldAddr 1 v11).bind fun v12 =>
(abuildSl 1 [(.pointer none)] 1 [(0, v12)] s).bind fun r13 =>
retV [r13.1] r13.2)
 ((abin Try.prog .eql 3 (.tmp 6) (.const (.int .i64 5)) v2 (.int .i64 5)).bind fun v14 =>
condV v14
 ((anilCheck x0).bind fun v15 =>
(afieldAddr 3 v15).bind fun v16 =>
(anilCheck x0).bind fun v17 =>
(afieldAddr 4 v17).bind fun v18 =>
(((abuildSl 1 [(.pointer none)] 2 [(0, v16), (1, v18)] s).bind fun r20 =>
some (r20.1, r20.2)).bind (ownR s)).bind fun r19 =>
retV [r19.1] r19.2)
 (retV [(.slice none 0 0)] s)))

theorem node_fields_of {lib : Lib} (hl : lib 65 = none) {x0 : Value} {s : St} {r : Value × St} (h : node_fields (run Try.prog lib hints) x0 s = some r) : run Try.prog lib hints 65 [x0] s = some r :=
  run_of hl Try.func65 (Eq.trans (by kernel_rfl) h)

theorem node_fields_ok : funcOk Try.prog 65 = true := by kernel_rfl
theorem node_fields_call {R : Caller} {xs : List Value} {s : St} : callV Try.prog R (.func (.func 65) #[] #[]) xs s = R 65 xs s := callV_eq node_fields_ok

/-! ### sumpter/sumpterref13.num: 66 -/

noncomputable def ref13_num (R : Caller) (x0 x1 : Value) (s : St) : Option (Value × St) :=
(convInt .u64 x1).bind fun v0 =>
(callV Try.prog R (.func (.func 68) #[] #[]) [v0] s).bind fun r1 =>
(aappend 1 1 x0 r1.1 r1.2).bind fun r2 =>
retV [r2.1] r2.2

theorem ref13_num_of {lib : Lib} (hl : lib 66 = none) {x0 x1 : Value} {s : St} {r : Value × St} (h : ref13_num (run Try.prog lib hints) x0 x1 s = some r) : run Try.prog lib hints 66 [x0, x1] s = some r :=
  run_of hl Try.func66 (Eq.trans (by kernel_rfl) h)

theorem ref13_num_ok : funcOk Try.prog 66 = true := by kernel_rfl
theorem ref13_num_call {R : Caller} {xs : List Value} {s : St} : callV Try.prog R (.func (.func 66) #[] #[]) xs s = R 66 xs s := callV_eq ref13_num_ok

/-! ### sumpter/sumpterref13.text: 67 -/

noncomputable def ref13_text (R : Caller) (x0 x1 : Value) (s : St) : Option (Value × St) :=
(callV Try.prog R (.func (.func 86) #[] #[]) [x1] s).bind fun r0 =>
(aappend 1 1 x0 r0.1 r0.2).bind fun r1 =>
retV [r1.1] r1.2

theorem ref13_text_of {lib : Lib} (hl : lib 67 = none) {x0 x1 : Value} {s : St} {r : Value × St} (h : ref13_text (run Try.prog lib hints) x0 x1 s = some r) : run Try.prog lib hints 67 [x0, x1] s = some r :=
  run_of hl Try.func67 (Eq.trans (by kernel_rfl) h)

theorem ref13_text_ok : funcOk Try.prog 67 = true := by kernel_rfl
theorem ref13_text_call {R : Caller} {xs : List Value} {s : St} : callV Try.prog R (.func (.func 67) #[] #[]) xs s = R 67 xs s := callV_eq ref13_text_ok

/-! ### sumpter/sumpterref01.Num: 68 -/

noncomputable def ref01_Num (R : Caller) (x0 : Value) (s : St) : Option (Value × St) :=
(abin Try.prog .lss 62 (.tmp 3) (.const (.int .u64 128)) x0 (.int .u64 128)).bind fun v0 =>
condV v0
 ((convInt .u8 x0).bind fun v1 =>
(abuildSl 1 [(.int .u8 0)] 1 [(0, v1)] s).bind fun r2 =>
retV [r2.1] r2.2)
 ((abin Try.prog .rem 62 (.tmp 8) (.const (.int .u64 128)) x0 (.int .u64 128)).bind fun v3 =>
(convInt .u8 v3).bind fun v4 =>
(abin Try.prog .add 5 (.tmp 10) (.const (.int .u8 128)) v4 (.int .u8 128)).bind fun v5 =>
(abuildSl 1 [(.int .u8 0)] 1 [(0, v5)] s).bind fun r6 =>
(abin Try.prog .quo 62 (.tmp 13) (.const (.int .u64 128)) x0 (.int .u64 128)).bind fun v7 =>
(callV Try.prog R (.func (.func 68) #[] #[]) [v7] r6.2).bind fun r8 =>
(aappend 1 1 r6.1 r8.1 r8.2).bind fun r9 =>
retV [r9.1] r9.2)

theorem ref01_Num_of {lib : Lib} (hl : lib 68 = none) {x0 : Value} {s : St} {r : Value × St} (h : ref01_Num (run Try.prog lib hints) x0 s = some r) : run Try.prog lib hints 68 [x0] s = some r :=
  run_of hl Try.func68 (Eq.trans (by kernel_rfl) h)

theorem ref01_Num_ok : funcOk Try.prog 68 = true := by kernel_rfl
theorem ref01_Num_call {R : Caller} {xs : List Value} {s : St} : callV Try.prog R (.func (.func 68) #[] #[]) xs s = R 68 xs s := callV_eq ref01_Num_ok

/-! ### sumpter/sumpterref02.CheckKey: 69 -/

noncomputable def ref02_CheckKey (R : Caller) (x0 : Value) (s : St) : Option (Value × St) :=
(alenV .string x0 s).bind fun v0 =>
(abin Try.prog .lss 3 (.tmp 4) (.const (.int .i64 1)) v0 (.int .i64 1)).bind fun v1 =>
(guardV v1 false ((alenV .string x0 s).bind fun v2 =>
(abin Try.prog .gtr 3 (.tmp 8) (.const (.int .i64 12)) v2 (.int .i64 12)).bind fun v3 =>
some ([v3], s)) (some ([undef], s))).bind fun q4 =>
(apick v1 (.bool true) (getL q4.1 0)).bind fun v5 =>
condV v5
 (retV [(.int .i64 20)] q4.2)
 (retV [(.int .i64 0)] q4.2)

theorem ref02_CheckKey_of {lib : Lib} (hl : lib 69 = none) {x0 : Value} {s : St} {r : Value × St} (h : ref02_CheckKey (run Try.prog lib hints) x0 s = some r) : run Try.prog lib hints 69 [x0] s = some r :=
  run_of hl Try.func69 (Eq.trans (by kernel_rfl) h)

theorem ref02_CheckKey_ok : funcOk Try.prog 69 = true := by kernel_rfl
theorem ref02_CheckKey_call {R : Caller} {xs : List Value} {s : St} : callV Try.prog R (.func (.func 69) #[] #[]) xs s = R 69 xs s := callV_eq ref02_CheckKey_ok

/-! ### sumpter/sumpterref04.CheckOp: 70 -/

noncomputable def ref04_CheckOp (R : Caller) (x0 : Value) (s : St) : Option (Value × St) :=
(lbox x0).bind fun v0 =>
(lload false 1 lptr v0).bind fun v1 =>
(abin Try.prog .eql 3 (.tmp 6) (.const (.int .i64 1)) v1 (.int .i64 1)).bind fun v2 =>
(guardV v2 false ((lload false 1 lptr v0).bind fun v3 =>
(abin Try.prog .eql 3 (.tmp 10) (.const (.int .i64 2)) v3 (.int .i64 2)).bind fun v4 =>
some ([v4], s)) (some ([undef], s))).bind fun q5 =>
(apick v2 (.bool true) (getL q5.1 0)).bind fun v6 =>
(guardV v6 false ((lload false 1 lptr v0).bind fun v7 =>
(abin Try.prog .eql 3 (.tmp 15) (.const (.int .i64 3)) v7 (.int .i64 3)).bind fun v8 =>
some ([v8], q5.2)) (some ([undef], q5.2))).bind fun q9 =>
(apick v6 (.bool true) (getL q9.1 0)).bind fun v10 =>
(lload false 1 lptr v0).bind fun v11 =>
(abin Try.prog .eql 3 (.tmp 19) (.const (.int .i64 4)) v11 (.int .i64 4)).bind fun v12 =>
(guardV v12 false ((lload false 1 lptr v0).bind fun v13 =>
(abin Try.prog .eql 3 (.tmp 23) (.const (.int .i64 5)) v13 (.int .i64 5)).bind fun v14 =>
some ([v14], q9.2)) (some ([undef], q9.2))).bind fun q15 =>
(apick v12 (.bool true) (getL q15.1 0)).bind fun v16 =>
(aun .not v10).bind fun v17 =>
(guardV v17 true ((aun .not v16).bind fun v18 =>
some ([v18], q15.2)) (some ([undef], q15.2))).bind fun q19 =>
(apick v17 (getL q19.1 0) (.bool false)).bind fun v20 =>
(guardV v20 false (some ([v10], q19.2)) (some ([undef], q19.2))).bind fun q21 =>
(guardV (getL q21.1 0) true ((lload false 1 (.pointer (some ⟨0, 3, none⟩)) v0).bind fun v22 =>
(abin Try.prog .neq 9 (.tmp 36) (.const (.string ⟨#[]⟩)) v22 (.string ⟨#[]⟩)).bind fun v23 =>
some ([v23], q21.2)) (some ([undef], q21.2))).bind fun q24 =>
(guardV (getL q24.1 0) false ((lload false 1 (.pointer (some ⟨0, 4, none⟩)) v0).bind fun v25 =>
(abin Try.prog .neq 9 (.tmp 40) (.const (.string ⟨#[]⟩)) v25 (.string ⟨#[]⟩)).bind fun v26 =>
some ([v26], q24.2)) (some ([undef], q24.2))).bind fun q27 =>
(guardV (getL q21.1 0) true ((apick (getL q24.1 0) (.bool true) (getL q27.1 0)).bind fun v28 =>
some ([v28], q27.2)) (some ([undef], q27.2))).bind fun q29 =>
(guardV v20 false ((apick (getL q21.1 0) (getL q29.1 0) (.bool false)).bind fun v30 =>
some ([v30], q29.2)) (some ([undef], q29.2))).bind fun q31 =>
(apick v20 (.bool true) (getL q31.1 0)).bind fun v32 =>
(guardV v32 false (some ([v16], q31.2)) (some ([undef], q31.2))).bind fun q33 =>
(guardV (getL q33.1 0) true ((lload false 1 (.pointer (some ⟨0, 1, none⟩)) v0).bind fun v34 =>
(abin Try.prog .neq 9 (.tmp 49) (.const (.string ⟨#[]⟩)) v34 (.string ⟨#[]⟩)).bind fun v35 =>
some ([v35], q33.2)) (some ([undef], q33.2))).bind fun q36 =>
(guardV v32 false ((apick (getL q33.1 0) (getL q36.1 0) (.bool false)).bind fun v37 =>
some ([v37], q36.2)) (some ([undef], q36.2))).bind fun q38 =>
(apick v32 (.bool true) (getL q38.1 0)).bind fun v39 =>
(guardV v39 false ((lload false 1 lptr v0).bind fun v40 =>
(abin Try.prog .neq 3 (.tmp 55) (.const (.int .i64 2)) v40 (.int .i64 2)).bind fun v41 =>
some ([v41], q38.2)) (some ([undef], q38.2))).bind fun q42 =>
(guardV (getL q42.1 0) true ((lload false 1 (.pointer (some ⟨0, 2, none⟩)) v0).bind fun v43 =>
(abin Try.prog .neq 9 (.tmp 59) (.const (.string ⟨#[]⟩)) v43 (.string ⟨#[]⟩)).bind fun v44 =>
some ([v44], q42.2)) (some ([undef], q42.2))).bind fun q45 =>
(guardV v39 false ((apick (getL q42.1 0) (getL q45.1 0) (.bool false)).bind fun v46 =>
some ([v46], q45.2)) (some ([undef], q45.2))).bind fun q47 =>
(apick v39 (.bool true) (getL q47.1 0)).bind fun v48 =>
(guardV v48 false ((lload false 1 lptr v0).bind fun v49 =>
(abin Try.prog .neq 3 (.tmp 65) (.const (.int .i64 4)) v49 (.int .i64 4)).bind fun v50 =>
some ([v50], q47.2)) (some ([undef], q47.2))).bind fun q51 =>
(guardV (getL q51.1 0) true ((lload false 1 (.pointer (some ⟨0, 5, none⟩)) v0).bind fun v52 =>
(abin Try.prog .neq 3 (.tmp 69) (.const (.int .i64 0)) v52 (.int .i64 0)).bind fun v53 =>
some ([v53], q51.2)) (some ([undef], q51.2))).bind fun q54 =>
(guardV v48 false ((apick (getL q51.1 0) (getL q54.1 0) (.bool false)).bind fun v55 =>
some ([v55], q54.2)) (some ([undef], q54.2))).bind fun q56 =>
(apick v48 (.bool true) (getL q56.1 0)).bind fun v57 =>
condV v57
 (retV [(.int .i64 40)] q56.2)
 ((guardV v10 true ((lload false 1 (.pointer (some ⟨0, 1, none⟩)) v0).bind fun v58 =>
(callV Try.prog R (.func (.func 69) #[] #[]) [v58] q56.2).bind fun r59 =>
(abin Try.prog .neq 30 (.tmp 77) (.const (.int .i64 0)) r59.1 (.int .i64 0)).bind fun v60 =>
some ([v60], r59.2)) (some ([undef], q56.2))).bind fun q61 =>
(apick v10 (getL q61.1 0) (.bool false)).bind fun v62 =>
condV v62
 (retV [(.int .i64 20)] q61.2)
 ((lload false 1 (.pointer (some ⟨0, 2, none⟩)) v0).bind fun v63 =>
(alenV .string v63 q61.2).bind fun v64 =>
(abin Try.prog .gtr 3 (.tmp 82) (.const (.int .i64 16)) v64 (.int .i64 16)).bind fun v65 =>
condV v65
 (retV [(.int .i64 2)] q61.2)
 ((guardV v16 true ((lload false 1 (.pointer (some ⟨0, 3, none⟩)) v0).bind fun v66 =>
(lload false 1 (.pointer (some ⟨0, 4, none⟩)) v0).bind fun v67 =>
(abuild Try.prog 74 [(0, v66), (1, v67)]).bind fun v68 =>
(callV Try.prog R (.func (.func 72) #[] #[]) [v68] q61.2).bind fun r69 =>
(abin Try.prog .neq 30 (.tmp 91) (.const (.int .i64 0)) r69.1 (.int .i64 0)).bind fun v70 =>
some ([v70], r69.2)) (some ([undef], q61.2))).bind fun q71 =>
(apick v16 (getL q71.1 0) (.bool false)).bind fun v72 =>
condV v72
 (retV [(.int .i64 21)] q71.2)
 ((lload false 1 lptr v0).bind fun v73 =>
(abin Try.prog .eql 3 (.tmp 95) (.const (.int .i64 4)) v73 (.int .i64 4)).bind fun v74 =>
(guardV v74 true ((lload false 1 (.pointer (some ⟨0, 5, none⟩)) v0).bind fun v75 =>
(abin Try.prog .lss 3 (.tmp 99) (.const (.int .i64 1)) v75 (.int .i64 1)).bind fun v76 =>
some ([v76], q71.2)) (some ([undef], q71.2))).bind fun q77 =>
(guardV (getL q77.1 0) false ((lload false 1 (.pointer (some ⟨0, 5, none⟩)) v0).bind fun v78 =>
(abin Try.prog .gtr 3 (.tmp 103) (.const (.int .i64 4)) v78 (.int .i64 4)).bind fun v79 =>
some ([v79], q77.2)) (some ([undef], q77.2))).bind fun q80 =>
(guardV v74 true ((apick (getL q77.1 0) (.bool true) (getL q80.1 0)).bind fun v81 =>
some ([v81], q80.2)) (some ([undef], q80.2))).bind fun q82 =>
(apick v74 (getL q82.1 0) (.bool false)).bind fun v83 =>
condV v83
 (retV [(.int .i64 1)] q82.2)
 (retV [(.int .i64 0)] q82.2)))))

theorem ref04_CheckOp_of {lib : Lib} (hl : lib 70 = none) {x0 : Value} {s : St} {r : Value × St} (h : ref04_CheckOp (run Try.prog lib hints) x0 s = some r) : run Try.prog lib hints 70 [x0] s = some r :=
  run_of hl Try.func70 (Eq.trans (by kernel_rfl) h)

theorem ref04_CheckOp_ok : funcOk Try.prog 70 = true := by kernel_rfl
theorem ref04_CheckOp_call {R : Caller} {xs : List Value} {s : St} : callV Try.prog R (.func (.func 70) #[] #[]) xs s = R 70 xs s := callV_eq ref04_CheckOp_ok

/-! ### sumpter/sumpterref04.Writes: 71 -/

noncomputable def ref04_Writes (R : Caller) (x0 : Value) (s : St) : Option (Value × St) :=
(lbox x0).bind fun v0 =>
(lload false 1 lptr v0).bind fun v1 =>
(abin Try.prog .eql 3 (.tmp 4) (.const (.int .i64 2)) v1 (.int .i64 2)).bind fun v2 =>
(guardV v2 false ((lload false 1 lptr v0).bind fun v3 =>
(abin Try.prog .eql 3 (.tmp 8) (.const (.int .i64 3)) v3 (.int .i64 3)).bind fun v4 =>
some ([v4], s)) (some ([undef], s))).bind fun q5 =>
(apick v2 (.bool true) (getL q5.1 0)).bind fun v6 =>
(guardV v6 false ((lload false 1 lptr v0).bind fun v7 =>
(abin Try.prog .eql 3 (.tmp 13) (.const (.int .i64 5)) v7 (.int .i64 5)).bind fun v8 =>
some ([v8], q5.2)) (some ([undef], q5.2))).bind fun q9 =>
(apick v6 (.bool true) (getL q9.1 0)).bind fun v10 =>
retV [v10] q9.2

theorem ref04_Writes_of {lib : Lib} (hl : lib 71 = none) {x0 : Value} {s : St} {r : Value × St} (h : ref04_Writes (run Try.prog lib hints) x0 s = some r) : run Try.prog lib hints 71 [x0] s = some r :=
  run_of hl Try.func71 (Eq.trans (by kernel_rfl) h)

theorem ref04_Writes_ok : funcOk Try.prog 71 = true := by kernel_rfl
theorem ref04_Writes_call {R : Caller} {xs : List Value} {s : St} : callV Try.prog R (.func (.func 71) #[] #[]) xs s = R 71 xs s := callV_eq ref04_Writes_ok

/-! ### sumpter/sumpterref02.Check: 72 -/

noncomputable def ref02_Check (R : Caller) (x0 : Value) (s : St) : Option (Value × St) :=
(lbox x0).bind fun v0 =>
(lload false 1 lptr v0).bind fun v1 =>
(alenV .string v1 s).bind fun v2 =>
(abin Try.prog .gtr 3 (.tmp 5) (.const (.int .i64 12)) v2 (.int .i64 12)).bind fun v3 =>
(guardV v3 false ((lload false 1 (.pointer (some ⟨0, 1, none⟩)) v0).bind fun v4 =>
(alenV .string v4 s).bind fun v5 =>
(abin Try.prog .gtr 3 (.tmp 10) (.const (.int .i64 12)) v5 (.int .i64 12)).bind fun v6 =>
some ([v6], s)) (some ([undef], s))).bind fun q7 =>
(apick v3 (.bool true) (getL q7.1 0)).bind fun v8 =>
(guardV v8 false ((lload false 1 (.pointer (some ⟨0, 1, none⟩)) v0).bind fun v9 =>
(abin Try.prog .neq 9 (.tmp 15) (.const (.string ⟨#[]⟩)) v9 (.string ⟨#[]⟩)).bind fun v10 =>
some ([v10], q7.2)) (some ([undef], q7.2))).bind fun q11 =>
(guardV (getL q11.1 0) true ((lload false 1 lptr v0).bind fun v12 =>
(lload false 1 (.pointer (some ⟨0, 1, none⟩)) v0).bind fun v13 =>
(abin Try.prog .geq 9 (.tmp 19) (.tmp 21) v12 v13).bind fun v14 =>
some ([v14], q11.2)) (some ([undef], q11.2))).bind fun q15 =>
(guardV v8 false ((apick (getL q11.1 0) (getL q15.1 0) (.bool false)).bind fun v16 =>
some ([v16], q15.2)) (some ([undef], q15.2))).bind fun q17 =>
(apick v8 (.bool true) (getL q17.1 0)).bind fun v18 =>
condV v18
 (retV [(.int .i64 21)] q17.2)
 (retV [(.int .i64 0)] q17.2)

theorem ref02_Check_of {lib : Lib} (hl : lib 72 = none) {x0 : Value} {s : St} {r : Value × St} (h : ref02_Check (run Try.prog lib hints) x0 s = some r) : run Try.prog lib hints 72 [x0] s = some r :=
  run_of hl Try.func72 (Eq.trans (by kernel_rfl) h)

theorem ref02_Check_ok : funcOk Try.prog 72 = true := by kernel_rfl
theorem ref02_Check_call {R : Caller} {xs : List Value} {s : St} : callV Try.prog R (.func (.func 72) #[] #[]) xs s = R 72 xs s := callV_eq ref02_Check_ok

/-! ### sumpter/sumpterref02.below: 73 -/

noncomputable def ref02_below (R : Caller) (x0 x1 : Value) (s : St) : Option (Value × St) :=
(abin Try.prog .neq 9 (.tmp 5) (.const (.string ⟨#[]⟩)) x0 (.string ⟨#[]⟩)).bind fun v0 =>
(guardV v0 true ((abin Try.prog .eql 9 (.tmp 8) (.const (.string ⟨#[]⟩)) x1 (.string ⟨#[]⟩)).bind fun v1 =>
some ([v1], s)) (some ([undef], s))).bind fun q2 =>
(guardV (getL q2.1 0) false ((abin Try.prog .lss 9 (.tmp 11) (.tmp 12) x0 x1).bind fun v3 =>
some ([v3], q2.2)) (some ([undef], q2.2))).bind fun q4 =>
(guardV v0 true ((apick (getL q2.1 0) (.bool true) (getL q4.1 0)).bind fun v5 =>
some ([v5], q4.2)) (some ([undef], q4.2))).bind fun q6 =>
(apick v0 (getL q6.1 0) (.bool false)).bind fun v7 =>
retV [v7] q6.2

theorem ref02_below_of {lib : Lib} (hl : lib 73 = none) {x0 x1 : Value} {s : St} {r : Value × St} (h : ref02_below (run Try.prog lib hints) x0 x1 s = some r) : run Try.prog lib hints 73 [x0, x1] s = some r :=
  run_of hl Try.func73 (Eq.trans (by kernel_rfl) h)

theorem ref02_below_ok : funcOk Try.prog 73 = true := by kernel_rfl
theorem ref02_below_call {R : Caller} {xs : List Value} {s : St} : callV Try.prog R (.func (.func 73) #[] #[]) xs s = R 73 xs s := callV_eq ref02_below_ok

/-! ### sumpter/octet.ReadNum: 74 -/

noncomputable def octet_ReadNum.b0 (R : Caller) (T : List Value) (s : St) : Res :=
(abin Try.prog .lss 3 (.tmp 10) (.tmp 9) (getL T 3) (getL T 2)).bind fun v1 =>
condV v1
 ((aindexS 1 (getL T 1) (getL T 3)).bind fun v2 =>
(aload false 1 v2 s).bind fun v3 =>
(abin Try.prog .eql 3 (.tmp 15) (.const (.int .i64 9)) (getL T 3) (.int .i64 9)).bind fun v4 =>
(guardV v4 true ((abin Try.prog .gtr 5 (.tmp 18) (.const (.int .u8 1)) v3 (.int .u8 1)).bind fun v5 =>
some ([v5], s)) (some ([undef], s))).bind fun q6 =>
(apick v4 (getL q6.1 0) (.bool false)).bind fun v7 =>
condV v7
 (some (.ret, [(.int .u64 0), (.int .i64 0), (.int .i64 11)], q6.2))
 ((abin Try.prog .and 5 (.tmp 22) (.const (.int .u8 127)) v3 (.int .u8 127)).bind fun v8 =>
(convInt .u64 v8).bind fun v9 =>
(abin Try.prog .mul 3 (.const (.int .i64 7)) (.tmp 25) (.int .i64 7) (getL T 3)).bind fun v10 =>
(abin Try.prog .shl 62 (.tmp 24) (.tmp 26) v9 v10).bind fun v11 =>
(abin Try.prog .or 62 (.tmp 21) (.tmp 27) (getL T 0) v11).bind fun v12 =>
(abin Try.prog .lss 5 (.tmp 29) (.const (.int .u8 128)) v3 (.int .u8 128)).bind fun v13 =>
condV v13
 ((abin Try.prog .eql 5 (.tmp 31) (.const (.int .u8 0)) v3 (.int .u8 0)).bind fun v14 =>
(guardV v14 true ((abin Try.prog .gtr 3 (.tmp 34) (.const (.int .i64 0)) (getL T 3) (.int .i64 0)).bind fun v15 =>
some ([v15], q6.2)) (some ([undef], q6.2))).bind fun q16 =>
(apick v14 (getL q16.1 0) (.bool false)).bind fun v17 =>
condV v17
 (some (.ret, [(.int .u64 0), (.int .i64 0), (.int .i64 11)], q16.2))
 ((abin Try.prog .add 3 (.tmp 38) (.const (.int .i64 1)) (getL T 3) (.int .i64 1)).bind fun v18 =>
some (.ret, [v12, v18, (.int .i64 0)], q16.2)))
 ((abin Try.prog .add 3 (.tmp 10) (.const (.int .i64 1)) (getL T 3) (.int .i64 1)).bind fun v19 =>
some (.normal, [v12, (getL T 1), (getL T 2), v19], q6.2))))
 (some (.exit 0, [], s))

noncomputable def octet_ReadNum (R : Caller) (x0 : Value) (s : St) : Option (Value × St) :=
(alenV (.slice 5) x0 s).bind fun v0 =>
(loopL (octet_ReadNum.b0 R) [(.int .u64 0), x0, v0, (.int .i64 0)] s).bind fun r20 =>
exV r20.1 [(0, retV [(.int .u64 0), (.int .i64 0), (.int .i64 10)] r20.2.2)]
 (retV [(getL r20.2.1 0), (getL r20.2.1 1), (getL r20.2.1 2)] r20.2.2)

theorem octet_ReadNum_of {lib : Lib} (hl : lib 74 = none) {x0 : Value} {s : St} {r : Value × St} (h : octet_ReadNum (run Try.prog lib hints) x0 s = some r) : run Try.prog lib hints 74 [x0] s = some r :=
  run_of hl Try.func74 (Eq.trans (by kernel_rfl) h)

theorem octet_ReadNum_ok : funcOk Try.prog 74 = true := by kernel_rfl
theorem octet_ReadNum_call {R : Caller} {xs : List Value} {s : St} : callV Try.prog R (.func (.func 74) #[] #[]) xs s = R 74 xs s := callV_eq octet_ReadNum_ok

/-! ### sumpter/octet.ReadText: 75 -/

noncomputable def octet_ReadText (R : Caller) (x0 x1 : Value) (s : St) : Option (Value × St) :=
(callV Try.prog R (.func (.func 74) #[] #[]) [x0] s).bind fun r0 =>
(aextract 0 r0.1).bind fun v1 =>
(aextract 1 r0.1).bind fun v2 =>
(aextract 2 r0.1).bind fun v3 =>
(abin Try.prog .neq 30 (.tmp 17) (.const (.int .i64 0)) v3 (.int .i64 0)).bind fun v4 =>
condV v4
 (retV [(.string ⟨#[]⟩), (.int .i64 0), v3] r0.2)
 ((abin Try.prog .lss 3 (.tmp 21) (.const (.int .i64 0)) x1 (.int .i64 0)).bind fun v5 =>
(guardV v5 false ((convInt .u64 x1).bind fun v6 =>
(abin Try.prog .gtr 62 (.tmp 24) (.tmp 26) v1 v6).bind fun v7 =>
some ([v7], r0.2)) (some ([undef], r0.2))).bind fun q8 =>
(apick v5 (.bool true) (getL q8.1 0)).bind fun v9 =>
condV v9
 (retV [(.string ⟨#[]⟩), (.int .i64 0), (.int .i64 2)] q8.2)
 ((alenV (.slice 5) x0 q8.2).bind fun v10 =>
(abin Try.prog .sub 3 (.tmp 32) (.tmp 33) v10 v2).bind fun v11 =>
(convInt .u64 v11).bind fun v12 =>
(abin Try.prog .gtr 62 (.tmp 30) (.tmp 35) v1 v12).bind fun v13 =>
condV v13
 (retV [(.string ⟨#[]⟩), (.int .i64 0), (.int .i64 10)] q8.2)
 ((convInt .i64 v1).bind fun v14 =>
(abin Try.prog .add 3 (.tmp 39) (.tmp 41) v2 v14).bind fun v15 =>
(asliceV 1 x0 (some v2) (some v15) none).bind fun v16 =>
(abytesToStr v16 q8.2).bind fun v17 =>
(convInt .i64 v1).bind fun v18 =>
(abin Try.prog .add 3 (.tmp 45) (.tmp 47) v2 v18).bind fun v19 =>
retV [v17, v19, (.int .i64 0)] q8.2)))

theorem octet_ReadText_of {lib : Lib} (hl : lib 75 = none) {x0 x1 : Value} {s : St} {r : Value × St} (h : octet_ReadText (run Try.prog lib hints) x0 x1 s = some r) : run Try.prog lib hints 75 [x0, x1] s = some r :=
  run_of hl Try.func75 (Eq.trans (by kernel_rfl) h)

theorem octet_ReadText_ok : funcOk Try.prog 75 = true := by kernel_rfl
theorem octet_ReadText_call {R : Caller} {xs : List Value} {s : St} : callV Try.prog R (.func (.func 75) #[] #[]) xs s = R 75 xs s := callV_eq octet_ReadText_ok

/-! ### sumpter/node.rows[sumpter/api.Entry]: 76 -/

noncomputable def node_rows_api_Entry_2.b0 (R : Caller) (T : List Value) (s : St) : Res :=
(abin Try.prog .lss 3 (.tmp 9) (.tmp 8) (getL T 4) (getL T 3)).bind fun v0 =>
condV v0
 ((anilCheck (getL T 0)).bind fun v1 =>
(afieldAddr 1 v1).bind fun v2 =>
(aload false 1 v2 s).bind fun v3 =>
(abin Try.prog .neq 30 (.tmp 14) (.const (.int .i64 0)) v3 (.int .i64 0)).bind fun v4 =>
condV v4
 (some (.ret, [(.slice none 0 0)], s))
 ((callV Try.prog R (getL T 1) [] s).bind fun r5 =>
(abuildSl 7 [(.int .u64 0), (.int .i64 0), (.string ⟨#[]⟩), (.string ⟨#[]⟩), (.string ⟨#[]⟩), (.string ⟨#[]⟩), (.int .i64 0)] 1 [(0, r5.1)] r5.2).bind fun r6 =>
(aappend 7 88 (getL T 2) r6.1 r6.2).bind fun r7 =>
(abin Try.prog .add 3 (.tmp 9) (.const (.int .i64 1)) (getL T 4) (.int .i64 1)).bind fun v8 =>
some (.normal, [(getL T 0), (getL T 1), r7.1, (getL T 3), v8], r7.2)))
 (some (.exit 0, [(getL T 2)], s))

noncomputable def node_rows_api_Entry_2 (R : Caller) (x0 x1 x2 : Value) (s : St) : Option (Value × St) :=
(loopL (node_rows_api_Entry_2.b0 R) [x0, x2, (.slice none 0 0), x1, (.int .i64 0)] s).bind fun r9 =>
exV r9.1 [(0, retV [(getL r9.2.1 0)] r9.2.2)]
 (retV [(getL r9.2.1 0)] r9.2.2)

theorem node_rows_api_Entry_2_of {lib : Lib} (hl : lib 76 = none) {x0 x1 x2 : Value} {s : St} {r : Value × St} (h : node_rows_api_Entry_2 (run Try.prog lib hints) x0 x1 x2 s = some r) : run Try.prog lib hints 76 [x0, x1, x2] s = some r :=
  run_of hl Try.func76 (Eq.trans (by kernel_rfl) h)

theorem node_rows_api_Entry_2_ok : funcOk Try.prog 76 = true := by kernel_rfl
theorem node_rows_api_Entry_2_call {R : Caller} {xs : List Value} {s : St} : callV Try.prog R (.func (.func 76) #[] #[]) xs s = R 76 xs s := callV_eq node_rows_api_Entry_2_ok

/-! ### (*sumpter/node.reader).entry: 77 -/

noncomputable def node_reader_entry.b0 (R : Caller) (T : List Value) (s : St) : Res :=
(abin Try.prog .lss 3 (.tmp 23) (.tmp 22) (getL T 5) (getL T 4)).bind fun v15 =>
condV v15
 ((aindexS 1 (getL T 3) (getL T 5)).bind fun v16 =>
(aload false 1 v16 s).bind fun v17 =>
(callV Try.prog R (.func (.func 51) #[] #[]) [(getL T 0)] s).bind fun r18 =>
(anilCheck v17).bind fun v19 =>
(astore 1 v19 r18.1 r18.2).bind fun s20 =>
(abin Try.prog .add 3 (.tmp 23) (.const (.int .i64 1)) (getL T 5) (.int .i64 1)).bind fun v21 =>
some (.normal, [(getL T 0), (getL T 1), (getL T 2), (getL T 3), (getL T 4), v21, (getL T 6)], s20))
 (some (.exit 0, [(getL T 1), (getL T 2), (getL T 6)], s))

noncomputable def node_reader_entry.j0 (R : Caller) (T : List Value) (s : St) : Option (Value × St) :=
(alenV (.slice 101) (getL T 3) s).bind fun v14 =>
(loopL (node_reader_entry.b0 R) [(getL T 0), (getL T 1), (getL T 2), (getL T 3), v14, (.int .i64 0), (getL T 4)] s).bind fun r22 =>
exV r22.1 [(0, (aload true 7 (getL r22.2.1 1) r22.2.2).bind fun v23 =>
(lstore 7 (getL r22.2.1 0) v23 (getL r22.2.1 2)).bind fun v24 =>
(lload true 7 (getL r22.2.1 0) v24).bind fun v25 =>
retV [v25] r22.2.2)]
 (none)

noncomputable def node_reader_entry (R : Caller) (x0 : Value) (s : St) : Option (Value × St) :=
(callV Try.prog R (.func (.func 46) #[] #[]) [x0, (.int .u64 18446744073709551615)] s).bind fun r0 =>
(abuild Try.prog 66 [(0, r0.1)]).bind fun v1 =>
(anew [(.int .u64 0), (.int .i64 0), (.string ⟨#[]⟩), (.string ⟨#[]⟩), (.string ⟨#[]⟩), (.string ⟨#[]⟩), (.int .i64 0)] r0.2).bind fun r2 =>
(astore 7 r2.1 v1 r2.2).bind fun s3 =>
(callV Try.prog R (.func (.func 44) #[] #[]) [x0] s3).bind fun r4 =>
(convInt .i64 r4.1).bind fun v5 =>
(afieldAddr 1 r2.1).bind fun v6 =>
(afieldAddr 0 v6).bind fun v7 =>
(astore 1 v7 v5 r4.2).bind fun s8 =>
(afieldAddr 1 r2.1).bind fun v9 =>
(callV Try.prog R (.func (.func 65) #[] #[]) [v9] s8).bind fun r10 =>
(abin Try.prog .eql 98 (.tmp 17) (.const (.slice none 0 0)) r10.1 (.slice none 0 0)).bind fun v12 =>
condV v12
 ((callV Try.prog R (.func (.func 22) #[] #[]) [x0, (.int .i64 11)] r10.2).bind fun r13 =>
joinK (node_reader_entry.j0 R) [x0, lptr, r2.1, r10.1, (.agg #[(.int .u64 0), (.int .i64 0), (.string ⟨#[]⟩), (.string ⟨#[]⟩), (.string ⟨#[]⟩), (.string ⟨#[]⟩), (.int .i64 0)])] r13.2)
 (joinK (node_reader_entry.j0 R) [x0, lptr, r2.1, r10.1, (.agg #[(.int .u64 0), (.int .i64 0), (.string ⟨#[]⟩), (.string ⟨#[]⟩), (.string ⟨#[]⟩), (.string ⟨#[]⟩), (.int .i64 0)])] r10.2)

theorem node_reader_entry_of {lib : Lib} (hl : lib 77 = none) {x0 : Value} {s : St} {r : Value × St} (h : node_reader_entry (run Try.prog lib hints) x0 s = some r) : run Try.prog lib hints 77 [x0] s = some r :=
  run_of hl Try.func77 (Eq.trans (by kernel_rfl) h)

theorem node_reader_entry_ok : funcOk Try.prog 77 = true := by kernel_rfl
theorem node_reader_entry_call {R : Caller} {xs : List Value} {s : St} : callV Try.prog R (.func (.func 77) #[] #[]) xs s = R 77 xs s := callV_eq node_reader_entry_ok

/-! ### sumpter/sumpterref01.ReadNum: 78 -/

noncomputable def ref01_ReadNum.b1 (R : Caller) (T : List Value) (s : St) : Res :=
(abin Try.prog .geq 3 (.tmp 24) (.const (.int .i64 0)) (getL T 3) (.int .i64 0)).bind fun v9 =>
condV v9
 ((abin Try.prog .mul 62 (.tmp 28) (.const (.int .u64 128)) (getL T 2) (.int .u64 128)).bind fun v10 =>
(aindexS 1 (getL T 0) (getL T 3)).bind fun v11 =>
(aload false 1 v11 s).bind fun v12 =>
(abin Try.prog .rem 5 (.tmp 33) (.const (.int .u8 128)) v12 (.int .u8 128)).bind fun v13 =>
(convInt .u64 v13).bind fun v14 =>
(abin Try.prog .add 62 (.tmp 29) (.tmp 35) v10 v14).bind fun v15 =>
(abin Try.prog .sub 3 (.tmp 26) (.const (.int .i64 1)) (getL T 3) (.int .i64 1)).bind fun v16 =>
some (.normal, [(getL T 0), (getL T 1), v15, v16], s))
 (some (.exit 2, [(getL T 0), (getL T 1), (getL T 2)], s))

noncomputable def ref01_ReadNum.b0 (R : Caller) (T : List Value) (s : St) : Res :=
(alenV (.slice 5) (getL T 0) s).bind fun v0 =>
(abin Try.prog .lss 3 (.tmp 8) (.tmp 10) (getL T 1) v0).bind fun v1 =>
(guardV v1 true ((abin Try.prog .lss 3 (.tmp 13) (.const (.int .i64 10)) (getL T 1) (.int .i64 10)).bind fun v2 =>
some ([v2], s)) (some ([undef], s))).bind fun q3 =>
(apick v1 (getL q3.1 0) (.bool false)).bind fun v4 =>
condV v4
 ((aindexS 1 (getL T 0) (getL T 1)).bind fun v5 =>
(aload false 1 v5 q3.2).bind fun v6 =>
(abin Try.prog .geq 5 (.tmp 21) (.const (.int .u8 128)) v6 (.int .u8 128)).bind fun v7 =>
condV v7
 ((abin Try.prog .add 3 (.tmp 16) (.const (.int .i64 1)) (getL T 1) (.int .i64 1)).bind fun v8 =>
some (.normal, [(getL T 0), v8], q3.2))
 ((loopL (ref01_ReadNum.b1 R) [(getL T 0), (getL T 1), (.int .u64 0), (getL T 1)] q3.2).bind fun r17 =>
exV r17.1 [(2, (((callV Try.prog R (.func (.func 68) #[] #[]) [(getL r17.2.1 2)] (frzS r17.2.2)).bind fun r27 =>
some (r27.1, r27.2)).map (quietR r17.2.2)).bind fun r18 =>
((abytesToStr r18.1 (frzS r18.2)).bind fun v26 =>
some (v26, (frzS r18.2))).bind fun r19 =>
(abin Try.prog .add 3 (.tmp 41) (.const (.int .i64 1)) (getL r17.2.1 1) (.int .i64 1)).bind fun v20 =>
(asliceV 1 (getL r17.2.1 0) none (some v20) none).bind fun v21 =>
((abytesToStr v21 (frzS r18.2)).bind fun v25 =>
some (v25, (frzS r18.2))).bind fun r22 =>
(abin Try.prog .neq 9 (.tmp 39) (.tmp 44) r19.1 r22.1).bind fun v23 =>
condV v23
 (some (.ret, [(.int .u64 0), (.int .i64 0), (.int .i64 11)], r18.2))
 ((abin Try.prog .add 3 (.tmp 47) (.const (.int .i64 1)) (getL r17.2.1 1) (.int .i64 1)).bind fun v24 =>
some (.ret, [(getL r17.2.1 2), v24, (.int .i64 0)], r18.2)))]
 (none)))
 (some (.exit 0, [(getL T 0)], q3.2))

noncomputable def ref01_ReadNum (R : Caller) (x0 : Value) (s : St) : Option (Value × St) :=
(loopL (ref01_ReadNum.b0 R) [x0, (.int .i64 0)] s).bind fun r28 =>
exV r28.1 [(0, (alenV (.slice 5) (getL r28.2.1 0) r28.2.2).bind fun v29 =>
(abin Try.prog .geq 3 (.tmp 50) (.const (.int .i64 10)) v29 (.int .i64 10)).bind fun v30 =>
condV v30
 (retV [(.int .u64 0), (.int .i64 0), (.int .i64 11)] r28.2.2)
 (retV [(.int .u64 0), (.int .i64 0), (.int .i64 10)] r28.2.2))]
 (retV [(getL r28.2.1 0), (getL r28.2.1 1), (getL r28.2.1 2)] r28.2.2)

theorem ref01_ReadNum_of {lib : Lib} (hl : lib 78 = none) {x0 : Value} {s : St} {r : Value × St} (h : ref01_ReadNum (run Try.prog lib hints) x0 s = some r) : run Try.prog lib hints 78 [x0] s = some r :=
  run_of hl Try.func78 (Eq.trans (by kernel_rfl) h)

theorem ref01_ReadNum_ok : funcOk Try.prog 78 = true := by kernel_rfl
theorem ref01_ReadNum_call {R : Caller} {xs : List Value} {s : St} : callV Try.prog R (.func (.func 78) #[] #[]) xs s = R 78 xs s := callV_eq ref01_ReadNum_ok

/-! ### sumpter/sumpterref01.ReadText: 79 -/

noncomputable def ref01_ReadText (R : Caller) (x0 x1 : Value) (s : St) : Option (Value × St) :=
(callV Try.prog R (.func (.func 78) #[] #[]) [x0] s).bind fun r0 =>
(aextract 0 r0.1).bind fun v1 =>
(aextract 1 r0.1).bind fun v2 =>
(aextract 2 r0.1).bind fun v3 =>
(abin Try.prog .neq 30 (.tmp 16) (.const (.int .i64 0)) v3 (.int .i64 0)).bind fun v4 =>
condV v4
 (retV [(.string ⟨#[]⟩), (.int .i64 0), v3] r0.2)
 ((abin Try.prog .lss 3 (.tmp 19) (.const (.int .i64 0)) x1 (.int .i64 0)).bind fun v5 =>
(guardV v5 false ((convInt .u64 x1).bind fun v6 =>
(abin Try.prog .gtr 62 (.tmp 22) (.tmp 24) v1 v6).bind fun v7 =>
some ([v7], r0.2)) (some ([undef], r0.2))).bind fun q8 =>
(apick v5 (.bool true) (getL q8.1 0)).bind fun v9 =>
condV v9
 (retV [(.string ⟨#[]⟩), (.int .i64 0), (.int .i64 2)] q8.2)
 ((alenV (.slice 5) x0 q8.2).bind fun v10 =>
(abin Try.prog .sub 3 (.tmp 29) (.tmp 30) v10 v2).bind fun v11 =>
(convInt .u64 v11).bind fun v12 =>
(abin Try.prog .gtr 62 (.tmp 27) (.tmp 32) v1 v12).bind fun v13 =>
condV v13
 (retV [(.string ⟨#[]⟩), (.int .i64 0), (.int .i64 10)] q8.2)
 ((convInt .i64 v1).bind fun v14 =>
(abin Try.prog .add 3 (.tmp 36) (.tmp 38) v2 v14).bind fun v15 =>
(asliceV 1 x0 (some v2) (some v15) none).bind fun v16 =>
(abytesToStr v16 q8.2).bind fun v17 =>
(convInt .i64 v1).bind fun v18 =>
(abin Try.prog .add 3 (.tmp 42) (.tmp 44) v2 v18).bind fun v19 =>
retV [v17, v19, (.int .i64 0)] q8.2)))

theorem ref01_ReadText_of {lib : Lib} (hl : lib 79 = none) {x0 x1 : Value} {s : St} {r : Value × St} (h : ref01_ReadText (run Try.prog lib hints) x0 x1 s = some r) : run Try.prog lib hints 79 [x0, x1] s = some r :=
  run_of hl Try.func79 (Eq.trans (by kernel_rfl) h)

theorem ref01_ReadText_ok : funcOk Try.prog 79 = true := by kernel_rfl
theorem ref01_ReadText_call {R : Caller} {xs : List Value} {s : St} : callV Try.prog R (.func (.func 79) #[] #[]) xs s = R 79 xs s := callV_eq ref01_ReadText_ok

/-! ### sumpter/op.formOf: 80 -/

noncomputable def op_formOf (R : Caller) (x0 : Value) (s : St) : Option (Value × St) :=
(abin Try.prog .lss 3 (.tmp 4) (.const (.int .i64 1)) x0 (.int .i64 1)).bind fun v0 =>
(guardV v0 false ((abin Try.prog .gtr 3 (.tmp 7) (.const (.int .i64 5)) x0 (.int .i64 5)).bind fun v1 =>
some ([v1], s)) (some ([undef], s))).bind fun q2 =>
(apick v0 (.bool true) (getL q2.1 0)).bind fun v3 =>
condV v3
 (retV [(.agg #[(.bool false), (.bool false), (.bool false), (.bool false), (.bool false), .nilFunc]), (.bool false)] q2.2)
 ((callV Try.prog R (.func (.func 87) #[] #[]) [] q2.2).bind fun r4 =>
(aindexAgg true 6 6 r4.1 x0).bind fun v5 =>
(lstore 6 lptr v5 (.agg #[(.bool false), (.bool false), (.bool false), (.bool false), (.bool false), .nilFunc])).bind fun v6 =>
(lload true 6 lptr v6).bind fun v7 =>
retV [v7, (.bool true)] r4.2)

theorem op_formOf_of {lib : Lib} (hl : lib 80 = none) {x0 : Value} {s : St} {r : Value × St} (h : op_formOf (run Try.prog lib hints) x0 s = some r) : run Try.prog lib hints 80 [x0] s = some r :=
  run_of hl Try.func80 (Eq.trans (by kernel_rfl) h)

theorem op_formOf_ok : funcOk Try.prog 80 = true := by kernel_rfl
theorem op_formOf_call {R : Caller} {xs : List Value} {s : St} : callV Try.prog R (.func (.func 80) #[] #[]) xs s = R 80 xs s := callV_eq op_formOf_ok

/-! ### sumpter/op.of: 81 -/

noncomputable def op_of (R : Caller) (x0 : Value) (s : St) : Option (Value × St) :=
(lbox x0).bind fun v0 =>
(lload false 1 (.pointer (some ⟨0, 3, none⟩)) v0).bind fun v1 =>
(lload false 1 (.pointer (some ⟨0, 4, none⟩)) v0).bind fun v2 =>
(abuild Try.prog 74 [(0, v1), (1, v2)]).bind fun v3 =>
(lstore 2 lptr v3 (.agg #[(.string ⟨#[]⟩), (.string ⟨#[]⟩)])).bind fun v4 =>
(lload true 2 lptr v4).bind fun v5 =>
retV [v5] s

theorem op_of_of {lib : Lib} (hl : lib 81 = none) {x0 : Value} {s : St} {r : Value × St} (h : op_of (run Try.prog lib hints) x0 s = some r) : run Try.prog lib hints 81 [x0] s = some r :=
  run_of hl Try.func81 (Eq.trans (by kernel_rfl) h)

theorem op_of_ok : funcOk Try.prog 81 = true := by kernel_rfl
theorem op_of_call {R : Caller} {xs : List Value} {s : St} : callV Try.prog R (.func (.func 81) #[] #[]) xs s = R 81 xs s := callV_eq op_of_ok

/-! ### sumpter/span.Check: 82 -/

noncomputable def span_Check.j0 (R : Caller) (T : List Value) (s : St) : Option (Value × St) :=
condV (getL T 0)
 (retV [(.int .i64 21)] s)
 (retV [(.int .i64 0)] s)

noncomputable def span_Check (R : Caller) (x0 : Value) (s : St) : Option (Value × St) :=
(lbox x0).bind fun v0 =>
(lload true 2 lptr v0).bind fun v1 =>
(((callV Try.prog R (.func (.func 88) #[] #[]) [] s).bind fun r20 =>
some (r20.1, r20.2)).bind (ownR s)).bind fun r2 =>
(abin Try.prog .eql 74 (.tmp 4) (.tmp 5) v1 r2.1).bind fun v3 =>
condV v3
 (retV [(.int .i64 0)] r2.2)
 ((lload false 1 lptr v0).bind fun v5 =>
(alenV .string v5 r2.2).bind fun v6 =>
(abin Try.prog .gtr 3 (.tmp 10) (.const (.int .i64 12)) v6 (.int .i64 12)).bind fun v7 =>
(guardV v7 false ((lload false 1 (.pointer (some ⟨0, 1, none⟩)) v0).bind fun v8 =>
(alenV .string v8 r2.2).bind fun v9 =>
(abin Try.prog .gtr 3 (.tmp 15) (.const (.int .i64 12)) v9 (.int .i64 12)).bind fun v10 =>
some ([v10], r2.2)) (some ([undef], r2.2))).bind fun q11 =>
(apick v7 (.bool true) (getL q11.1 0)).bind fun v12 =>
condV v12
 (joinK (span_Check.j0 R) [v12] q11.2)
 ((lload false 1 (.pointer (some ⟨0, 1, none⟩)) v0).bind fun v13 =>
(abin Try.prog .neq 9 (.tmp 19) (.const (.string ⟨#[]⟩)) v13 (.string ⟨#[]⟩)).bind fun v14 =>
(guardV v14 true ((lload false 1 lptr v0).bind fun v15 =>
(lload false 1 (.pointer (some ⟨0, 1, none⟩)) v0).bind fun v16 =>
(abin Try.prog .geq 9 (.tmp 23) (.tmp 25) v15 v16).bind fun v17 =>
some ([v17], q11.2)) (some ([undef], q11.2))).bind fun q18 =>
(apick v14 (getL q18.1 0) (.bool false)).bind fun v19 =>
joinK (span_Check.j0 R) [v19] q18.2))

theorem span_Check_of {lib : Lib} (hl : lib 82 = none) {x0 : Value} {s : St} {r : Value × St} (h : span_Check (run Try.prog lib hints) x0 s = some r) : run Try.prog lib hints 82 [x0] s = some r :=
  run_of hl Try.func82 (Eq.trans (by kernel_rfl) h)

theorem span_Check_ok : funcOk Try.prog 82 = true := by kernel_rfl
theorem span_Check_call {R : Caller} {xs : List Value} {s : St} : callV Try.prog R (.func (.func 82) #[] #[]) xs s = R 82 xs s := callV_eq span_Check_ok

/-! ### sumpter/span.least: 83 -/

noncomputable def span_least (R : Caller) (x0 x1 : Value) (s : St) : Option (Value × St) :=
(abin Try.prog .eql 9 (.tmp 5) (.const (.string ⟨#[]⟩)) x0 (.string ⟨#[]⟩)).bind fun v0 =>
(guardV v0 false ((abin Try.prog .neq 9 (.tmp 8) (.const (.string ⟨#[]⟩)) x1 (.string ⟨#[]⟩)).bind fun v1 =>
some ([v1], s)) (some ([undef], s))).bind fun q2 =>
(guardV (getL q2.1 0) true ((abin Try.prog .lss 9 (.tmp 11) (.tmp 12) x1 x0).bind fun v3 =>
some ([v3], q2.2)) (some ([undef], q2.2))).bind fun q4 =>
(guardV v0 false ((apick (getL q2.1 0) (getL q4.1 0) (.bool false)).bind fun v5 =>
some ([v5], q4.2)) (some ([undef], q4.2))).bind fun q6 =>
(apick v0 (.bool true) (getL q6.1 0)).bind fun v7 =>
condV v7
 (retV [x1] q6.2)
 (retV [x0] q6.2)

theorem span_least_of {lib : Lib} (hl : lib 83 = none) {x0 x1 : Value} {s : St} {r : Value × St} (h : span_least (run Try.prog lib hints) x0 x1 s = some r) : run Try.prog lib hints 83 [x0, x1] s = some r :=
  run_of hl Try.func83 (Eq.trans (by kernel_rfl) h)

theorem span_least_ok : funcOk Try.prog 83 = true := by kernel_rfl
theorem span_least_call {R : Caller} {xs : List Value} {s : St} : callV Try.prog R (.func (.func 83) #[] #[]) xs s = R 83 xs s := callV_eq span_least_ok

/-! ### sumpter/octet.Num: 84 -/

noncomputable def octet_Num.b0 (R : Caller) (T : List Value) (s : St) : Res :=
(abin Try.prog .geq 62 (.tmp 4) (.const (.int .u64 128)) (getL T 0) (.int .u64 128)).bind fun v0 =>
condV v0
 ((convInt .u8 (getL T 0)).bind fun v1 =>
(abin Try.prog .or 5 (.tmp 8) (.const (.int .u8 128)) v1 (.int .u8 128)).bind fun v2 =>
(abuildSl 1 [(.int .u8 0)] 1 [(0, v2)] s).bind fun r3 =>
(aappend 1 1 (getL T 1) r3.1 r3.2).bind fun r4 =>
(abin Try.prog .shr 62 (.tmp 12) (.const (.int .u64 7)) (getL T 0) (.int .u64 7)).bind fun v5 =>
some (.normal, [v5, r4.1], r4.2))
 (some (.exit 0, [(getL T 0), (getL T 1)], s))

noncomputable def octet_Num (R : Caller) (x0 : Value) (s : St) : Option (Value × St) :=
(loopL (octet_Num.b0 R) [x0, (.slice none 0 0)] s).bind fun r6 =>
exV r6.1 [(0, (convInt .u8 (getL r6.2.1 0)).bind fun v7 =>
(abuildSl 1 [(.int .u8 0)] 1 [(0, v7)] r6.2.2).bind fun r8 =>
(aappend 1 1 (getL r6.2.1 1) r8.1 r8.2).bind fun r9 =>
retV [r9.1] r9.2)]
 (none)

theorem octet_Num_of {lib : Lib} (hl : lib 84 = none) {x0 : Value} {s : St} {r : Value × St} (h : octet_Num (run Try.prog lib hints) x0 s = some r) : run Try.prog lib hints 84 [x0] s = some r :=
  run_of hl Try.func84 (Eq.trans (by kernel_rfl) h)

theorem octet_Num_ok : funcOk Try.prog 84 = true := by kernel_rfl
theorem octet_Num_call {R : Caller} {xs : List Value} {s : St} : callV Try.prog R (.func (.func 84) #[] #[]) xs s = R 84 xs s := callV_eq octet_Num_ok

/-! ### sumpter/octet.Text: 85 -/

noncomputable def octet_Text (R : Caller) (x0 : Value) (s : St) : Option (Value × St) :=
(alenV .string x0 s).bind fun v0 =>
(convInt .u64 v0).bind fun v1 =>
(callV Try.prog R (.func (.func 84) #[] #[]) [v1] s).bind fun r2 =>
(aappend 1 1 r2.1 x0 r2.2).bind fun r3 =>
retV [r3.1] r3.2

theorem octet_Text_of {lib : Lib} (hl : lib 85 = none) {x0 : Value} {s : St} {r : Value × St} (h : octet_Text (run Try.prog lib hints) x0 s = some r) : run Try.prog lib hints 85 [x0] s = some r :=
  run_of hl Try.func85 (Eq.trans (by kernel_rfl) h)

theorem octet_Text_ok : funcOk Try.prog 85 = true := by kernel_rfl
theorem octet_Text_call {R : Caller} {xs : List Value} {s : St} : callV Try.prog R (.func (.func 85) #[] #[]) xs s = R 85 xs s := callV_eq octet_Text_ok

/-! ### sumpter/sumpterref01.Text: 86 -/

noncomputable def ref01_Text (R : Caller) (x0 : Value) (s : St) : Option (Value × St) :=
(alenV .string x0 s).bind fun v0 =>
(convInt .u64 v0).bind fun v1 =>
(callV Try.prog R (.func (.func 68) #[] #[]) [v1] s).bind fun r2 =>
(aappend 1 1 r2.1 x0 r2.2).bind fun r3 =>
retV [r3.1] r3.2

theorem ref01_Text_of {lib : Lib} (hl : lib 86 = none) {x0 : Value} {s : St} {r : Value × St} (h : ref01_Text (run Try.prog lib hints) x0 s = some r) : run Try.prog lib hints 86 [x0] s = some r :=
  run_of hl Try.func86 (Eq.trans (by kernel_rfl) h)

theorem ref01_Text_ok : funcOk Try.prog 86 = true := by kernel_rfl
theorem ref01_Text_call {R : Caller} {xs : List Value} {s : St} : callV Try.prog R (.func (.func 86) #[] #[]) xs s = R 86 xs s := callV_eq ref01_Text_ok

/-! ### sumpter/op.forms: 87 -/

noncomputable def op_forms (R : Caller) (s : St) : Option (Value × St) :=
(abuild Try.prog 114 [(0, (.bool true)), (5, (.func (.func 89) #[] #[]))]).bind fun v0 =>
(abuild Try.prog 114 [(0, (.bool true)), (1, (.bool true)), (4, (.bool true)), (5, (.func (.func 90) #[] #[]))]).bind fun v1 =>
(abuild Try.prog 114 [(0, (.bool true)), (4, (.bool true)), (5, (.func (.func 91) #[] #[]))]).bind fun v2 =>
(abuild Try.prog 114 [(2, (.bool true)), (3, (.bool true)), (5, (.func (.func 92) #[] #[]))]).bind fun v3 =>
(abuild Try.prog 114 [(2, (.bool true)), (4, (.bool true)), (5, (.func (.func 93) #[] #[]))]).bind fun v4 =>
(abuild Try.prog 120 [(1, v0), (2, v1), (3, v2), (4, v3), (5, v4)]).bind fun v5 =>
(lstore 36 lptr v5 (.agg #[(.bool false), (.bool false), (.bool false), (.bool false), (.bool false), .nilFunc, (.bool false), (.bool false), (.bool false), (.bool false), (.bool false), .nilFunc, (.bool false), (.bool false), (.bool false), (.bool false), (.bool false), .nilFunc, (.bool false), (.bool false), (.bool false), (.bool false), (.bool false), .nilFunc, (.bool false), (.bool false), (.bool false), (.bool false), (.bool false), .nilFunc, (.bool false), (.bool false), (.bool false), (.bool false), (.bool false), .nilFunc])).bind fun v6 =>
(lload true 36 lptr v6).bind fun v7 =>
retV [v7] s

theorem op_forms_of {lib : Lib} (hl : lib 87 = none) {s : St} {r : Value × St} (h : op_forms (run Try.prog lib hints)  s = some r) : run Try.prog lib hints 87 [] s = some r :=
  run_of hl Try.func87 (Eq.trans (by kernel_rfl) h)

theorem op_forms_ok : funcOk Try.prog 87 = true := by kernel_rfl
theorem op_forms_call {R : Caller} {xs : List Value} {s : St} : callV Try.prog R (.func (.func 87) #[] #[]) xs s = R 87 xs s := callV_eq op_forms_ok

/-! ### sumpter/span.all: 88 -/

noncomputable def span_all (R : Caller) (s : St) : Option (Value × St) :=
retV [(.agg #[(.string ⟨#[]⟩), (.string ⟨#[]⟩)])] s

theorem span_all_of {lib : Lib} (hl : lib 88 = none) {s : St} {r : Value × St} (h : span_all (run Try.prog lib hints)  s = some r) : run Try.prog lib hints 88 [] s = some r :=
  run_of hl Try.func88 (Eq.trans (by kernel_rfl) h)

theorem span_all_ok : funcOk Try.prog 88 = true := by kernel_rfl
theorem span_all_call {R : Caller} {xs : List Value} {s : St} : callV Try.prog R (.func (.func 88) #[] #[]) xs s = R 88 xs s := callV_eq span_all_ok

/-! ### slices.Insert[[]sumpter/api.Pair,sumpter/api.Pair]: 95 -/

noncomputable def slices_Insert_api_Pair_api_Pair (R : Caller) (x0 x1 x2 : Value) (s : St) : Option (Value × St) :=
(asliceV 2 x0 (some x1) none none).bind fun v0 =>
(alenV (.slice 45) x2 s).bind fun v1 =>
(abin Try.prog .eql 3 (.tmp 15) (.const (.int .i64 0)) v1 (.int .i64 0)).bind fun v2 =>
condV v2
 (retV [x0] s)
 ((alenV (.slice 45) x0 s).bind fun v3 =>
(abin Try.prog .eql 3 (.tmp 20) (.tmp 21) x1 v3).bind fun v4 =>
condV v4
 ((aappend 2 32 x0 x2 s).bind fun r5 =>
retV [r5.1] r5.2)
 ((abin Try.prog .add 3 (.tmp 26) (.tmp 27) v3 v1).bind fun v6 =>
(acap x0).bind fun v7 =>
(abin Try.prog .gtr 3 (.tmp 28) (.tmp 30) v6 v7).bind fun v8 =>
condV v8
 ((asliceV 2 x0 none (some x1) none).bind fun v9 =>
(abin Try.prog .add 3 (.tmp 35) (.tmp 36) v3 v1).bind fun v10 =>
(abin Try.prog .sub 3 (.tmp 37) (.tmp 38) v10 x1).bind fun v11 =>
(aappendZ 2 32 [(.string ⟨#[]⟩), (.string ⟨#[]⟩)] v9 v11 s).bind fun r12 =>
(asliceV 2 r12.1 (some x1) none none).bind fun v13 =>
(acopy 2 v13 x2 r12.2).bind fun r14 =>
(abin Try.prog .add 3 (.tmp 47) (.tmp 48) x1 v1).bind fun v15 =>
(asliceV 2 r12.1 (some v15) none none).bind fun v16 =>
(asliceV 2 x0 (some x1) none none).bind fun v17 =>
(((acopy 2 v16 v17 r14.2).bind fun r19 =>
some (r19.1, r19.2)).bind (ownR r14.2)).bind fun r18 =>
retV [r12.1] r18.2)
 ((abin Try.prog .add 3 (.tmp 57) (.tmp 58) v3 v1).bind fun v20 =>
(asliceV 2 x0 none (some v20) none).bind fun v21 =>
(abin Try.prog .add 3 (.tmp 63) (.tmp 64) x1 v1).bind fun v22 =>
(asliceV 2 v21 (some v22) none none).bind fun v23 =>
(callV Try.prog R (.func (.func 102) #[] #[]) [x2, v23] s).bind fun r24 =>
(aun .not r24.1).bind fun v25 =>
condV v25
 ((abin Try.prog .add 3 (.tmp 70) (.tmp 71) x1 v1).bind fun v26 =>
(asliceV 2 v21 (some v26) none none).bind fun v27 =>
(asliceV 2 v21 (some x1) none none).bind fun v28 =>
(((acopy 2 v27 v28 r24.2).bind fun r32 =>
some (r32.1, r32.2)).bind (ownR r24.2)).bind fun r29 =>
(asliceV 2 v21 (some x1) none none).bind fun v30 =>
(acopy 2 v30 x2 r29.2).bind fun r31 =>
retV [v21] r31.2)
 ((asliceV 2 v21 (some v3) none none).bind fun v33 =>
(acopy 2 v33 x2 r24.2).bind fun r34 =>
(asliceV 2 v21 (some x1) none none).bind fun v35 =>
(callV Try.prog R (.func (.func 103) #[] #[]) [v35, v1] r34.2).bind fun r36 =>
retV [v21] r36.2))))

theorem slices_Insert_api_Pair_api_Pair_of {lib : Lib} (hl : lib 95 = none) {x0 x1 x2 : Value} {s : St} {r : Value × St} (h : slices_Insert_api_Pair_api_Pair (run Try.prog lib hints) x0 x1 x2 s = some r) : run Try.prog lib hints 95 [x0, x1, x2] s = some r :=
  run_of hl Try.func95 (Eq.trans (by kernel_rfl) h)

theorem slices_Insert_api_Pair_api_Pair_ok : funcOk Try.prog 95 = true := by kernel_rfl
theorem slices_Insert_api_Pair_api_Pair_call {R : Caller} {xs : List Value} {s : St} : callV Try.prog R (.func (.func 95) #[] #[]) xs s = R 95 xs s := callV_eq slices_Insert_api_Pair_api_Pair_ok

/-! ### strings.Compare: 101 -/

noncomputable def strings_Compare (R : Caller) (x0 x1 : Value) (s : St) : Option (Value × St) :=
(callV Try.prog R (.func (.func 104) #[] #[]) [x0, x1] s).bind fun r0 =>
retV [r0.1] r0.2

theorem strings_Compare_of {lib : Lib} (hl : lib 101 = none) {x0 x1 : Value} {s : St} {r : Value × St} (h : strings_Compare (run Try.prog lib hints) x0 x1 s = some r) : run Try.prog lib hints 101 [x0, x1] s = some r :=
  run_of hl Try.func101 (Eq.trans (by kernel_rfl) h)

theorem strings_Compare_ok : funcOk Try.prog 101 = true := by kernel_rfl
theorem strings_Compare_call {R : Caller} {xs : List Value} {s : St} : callV Try.prog R (.func (.func 101) #[] #[]) xs s = R 101 xs s := callV_eq strings_Compare_ok

/-! ### internal/bytealg.CompareString: 104 -/

noncomputable def internal_bytealg_CompareString (R : Caller) (x0 x1 : Value) (s : St) : Option (Value × St) :=
(callV Try.prog R (.func (.func 106) #[] #[]) [x0, x1] s).bind fun r0 =>
retV [r0.1] r0.2

theorem internal_bytealg_CompareString_of {lib : Lib} (hl : lib 104 = none) {x0 x1 : Value} {s : St} {r : Value × St} (h : internal_bytealg_CompareString (run Try.prog lib hints) x0 x1 s = some r) : run Try.prog lib hints 104 [x0, x1] s = some r :=
  run_of hl Try.func104 (Eq.trans (by kernel_rfl) h)

theorem internal_bytealg_CompareString_ok : funcOk Try.prog 104 = true := by kernel_rfl
theorem internal_bytealg_CompareString_call {R : Caller} {xs : List Value} {s : St} : callV Try.prog R (.func (.func 104) #[] #[]) xs s = R 104 xs s := callV_eq internal_bytealg_CompareString_ok

end Go.Proofs.Ytamaapapaiopiaa.Ab

/- Pairs of strings: as values, and compared. -/
namespace Go.Proofs.Ytamaapapaiopiaa.Ab
open Go

theorem pr_bind {P : Program} {α β : Type} (m : Sem α) (f : α → Sem β) : pureRun P (m >>= f) = (pureRun P m).bind fun a => pureRun P (f a) := by
  show pureRun P (Sem.bind m f) = _
  induction m with
  | pure a => rfl
  | program k ih => simp only [Sem.bind, pureRun]; exact ih P
  | _ => rfl
theorem pr_pure {P : Program} {α : Type} (a : α) : pureRun P (Pure.pure a : Sem α) = some a := rfl
theorem pr_program {P : Program} : pureRun P (program : Sem Program) = some P := rfl
theorem pr_und {P : Program} {t : TypeId} {d : TypeDesc} (h : P.underlying t = some d) : pureRun P (underlying t) = some d := by
  unfold underlying
  rw [pr_bind, pr_program]
  simp only [Option.bind_some, h]
  rfl
theorem pr_str {P : Program} {d : Nat} {t : TypeId} {a b : ByteArray} (h : P.underlying t = some .string) : pureRun P (Op.equalIn (d + 1) t (.string a) (.string b)) = some (a == b) := by
  unfold Op.equalIn
  rw [pr_bind, pr_und h]
  simp only [Option.bind_some, pr_pure]

abbrev BL := List UInt8
abbrev Rg := BL × BL
def rv (r : Rg) : Value := .agg #[sv r.1, sv r.2]
def asBl : Value → Option BL
  | .string a => some a.data.toList
  | _ => none
def asRg : Value → Option Rg
  | .agg cs => match cs.toList with
    | [.string a, .string b] => some (a.data.toList, b.data.toList)
    | _ => none
  | _ => none
theorem asBl_sv {l : BL} : asBl (sv l) = some l := rfl
theorem asRg_rv {r : Rg} : asRg (rv r) = some r := rfl
theorem asBl_some {v : Value} {l : BL} (h : asBl v = some l) : v = sv l := by
  unfold asBl at h
  split at h
  · cases h; exact sv_of _
  · cases h
theorem asRg_some {v : Value} {r : Rg} (h : asRg v = some r) : v = rv r := by
  unfold asRg at h
  split at h
  · rename_i cs
    split at h
    · rename_i a b e
      cases h
      obtain ⟨l⟩ := cs
      simp only at e
      subst e
      unfold rv
      rw [← sv_of, ← sv_of]
    · cases h
  · cases h

theorem bytes_beq {a b : BL} : ((⟨a.toArray⟩ : ByteArray) == ⟨b.toArray⟩) = (a == b) := by
  show (a.toArray == b.toArray) = (a == b)
  simp

theorem rv_eql (o1 o2 : Operand) (a b : Rg) : abin Try.prog .eql 74 o1 o2 (rv a) (rv b) = some (.bool (a.1 == b.1 && a.2 == b.2)) := by
  have hu := pr_und Try.underlying74
  have hg : pureRun Try.prog (eqGuard .eql 74 o1 o2 (.agg #[sv a.1, sv a.2]) (.agg #[sv b.1, sv b.2])) = some () := by kernel_rfl
  have hh : Try.prog.stoodInHeld 74 = false := by kernel_rfl
  have hp : ∀ x y : BL, pureRun Try.prog (part 9 #[sv x, sv y] 0) = some (sv x) ∧ pureRun Try.prog (part 9 #[sv x, sv y] 1) = some (sv y) := fun x y => by
    refine ⟨?_, ?_⟩ <;> kernel_rfl
  have he : ∀ (n : Nat) (x y : BL), pureRun Try.prog (Op.equalIn (n + 1) 9 (sv x) (sv y)) = some (x == y) := fun n x y => by
    unfold sv
    rw [pr_str Try.underlying9, bytes_beq]
  unfold abin aggBin rv
  simp only
  have hc : (constOk (.agg #[sv a.1, sv a.2]) && constOk (.agg #[sv b.1, sv b.2])) = true := rfl
  rw [if_pos hc, pr_bind, hg]
  simp only [Option.bind_some, binOp]
  rw [pr_bind]
  have key : pureRun Try.prog (Op.equal 74 (.agg #[sv a.1, sv a.2]) (.agg #[sv b.1, sv b.2])) = some (a.1 == b.1 && a.2 == b.2) := by
    unfold Op.equal Op.maxDepth Op.equalIn
    rw [pr_bind, hu]
    simp only [Option.bind_some]
    rw [pr_bind, pr_program]
    simp only [Option.bind_some, hh, Bool.false_eq_true, if_false, pr_bind]
    have hLo : ("Lo" ≠ "_") = True := by simp
    have hHi : ("Hi" ≠ "_") = True := by simp
    simp only [List.forIn_toArray, List.forIn_cons, List.forIn_nil]
    cases h1 : (a.1 == b.1)
    · simp only [Option.bind_some, pr_bind, pr_pure, Nat.reduceAdd, hLo, hHi, if_true, (hp _ _).1, (hp _ _).2, he, Bool.not_true, Bool.not_false, Bool.false_eq_true, if_false, Bool.true_and, Bool.false_and, Bool.and_true, h1]
    cases h2 : (a.2 == b.2)
    · simp only [Option.bind_some, pr_bind, pr_pure, Nat.reduceAdd, hLo, hHi, if_true, (hp _ _).1, (hp _ _).2, he, Bool.not_true, Bool.not_false, Bool.false_eq_true, if_false, Bool.true_and, Bool.false_and, Bool.and_true, h1, h2]
    · simp only [Option.bind_some, pr_bind, pr_pure, Nat.reduceAdd, hLo, hHi, if_true, (hp _ _).1, (hp _ _).2, he, Bool.not_true, Bool.not_false, Bool.false_eq_true, if_false, Bool.true_and, Bool.false_and, Bool.and_true, h1, h2]
  rw [key]
  rfl

theorem rv_neq (o1 o2 : Operand) (a b : Rg) : abin Try.prog .neq 74 o1 o2 (rv a) (rv b) = some (.bool (!(a.1 == b.1 && a.2 == b.2))) := by
  have hu := pr_und Try.underlying74
  have hg : pureRun Try.prog (eqGuard .neq 74 o1 o2 (.agg #[sv a.1, sv a.2]) (.agg #[sv b.1, sv b.2])) = some () := by kernel_rfl
  have h0 := rv_eql o1 o2 a b
  have hg0 : pureRun Try.prog (eqGuard .eql 74 o1 o2 (.agg #[sv a.1, sv a.2]) (.agg #[sv b.1, sv b.2])) = some () := by kernel_rfl
  unfold abin aggBin rv at h0 ⊢
  simp only at h0 ⊢
  have hc : (constOk (.agg #[sv a.1, sv a.2]) && constOk (.agg #[sv b.1, sv b.2])) = true := rfl
  rw [if_pos hc, pr_bind, hg0] at h0
  rw [if_pos hc, pr_bind, hg]
  simp only [Option.bind_some, binOp, pr_bind, pr_pure] at h0 ⊢
  cases e : pureRun Try.prog (Op.equal 74 (.agg #[sv a.1, sv a.2]) (.agg #[sv b.1, sv b.2])) with
  | none => rw [e] at h0; cases h0
  | some r =>
    rw [e] at h0
    simp only [Option.bind_some] at h0 ⊢
    cases h0
    rfl

end Go.Proofs.Ytamaapapaiopiaa.Ab

/- Keys and ranges: what the functions do. -/
namespace Go.Proofs.Ytamaapapaiopiaa.Ab
open Go

/-! ### What they say -/
def ckK (k : BL) : Bool := k != [] && decide (k.length ≤ 12)
def ckR (r : Rg) : Bool := decide (r.1.length ≤ 12) && decide (r.2.length ≤ 12) && (r.2 == [] || bl r.1 r.2)
def eK (k : BL) : Int := if ckK k then 0 else 20
def eR (r : Rg) : Int := if ckR r then 0 else 21
def hasR (r : Rg) (k : BL) : Bool := ckR r && ckK k && !bl k r.1 && (r.2 == [] || bl k r.2)

/-- a function of values, without memory -/
def gP (G : List Value → Option Value) : Sum := fun xs s => (G xs).map fun v => (v, s)
theorem gP_eq {G : List Value → Option Value} {xs : List Value} {v : Value} {s : St} (h : G xs = some v) : gP G xs s = some (v, s) := by simp only [gP, h, Option.map_some]
theorem sumP {lib : Lib} {f : FuncId} {G : List Value → Option Value} (h : ∀ xs v s, G xs = some v → plainV v = true ∧ ∃ t, run Try.prog lib hints f xs s = some (v, t)) : SumOk Try.prog lib hints f (gP G) :=
  SumOk.plain (G := fun xs _ => G xs) fun xs s v hv => h xs v (frzS s) hv
def G1K (F : BL → Value) : List Value → Option Value
  | [v] => (asBl v).map F
  | _ => none
def G1R (F : Rg → Value) : List Value → Option Value
  | [v] => (asRg v).map F
  | _ => none
def G2RK (F : Rg → BL → Value) : List Value → Option Value
  | [v, w] => (asRg v).bind fun r => (asBl w).map fun k => F r k
  | _ => none
def G2RR (F : Rg → Rg → Value) : List Value → Option Value
  | [v, w] => (asRg v).bind fun r => (asRg w).map fun k => F r k
  | _ => none
def G2KK (F : BL → BL → Value) : List Value → Option Value
  | [v, w] => (asBl v).bind fun r => (asBl w).map fun k => F r k
  | _ => none
theorem sum1K {lib : Lib} {f : FuncId} {F : BL → Value} (h : ∀ k s, plainV (F k) = true ∧ ∃ t, run Try.prog lib hints f [sv k] s = some (F k, t)) : SumOk Try.prog lib hints f (gP (G1K F)) := sumP fun xs v s hv => by
  unfold G1K at hv
  split at hv
  · simp only [Option.map_eq_some_iff] at hv
    obtain ⟨k, h1, rfl⟩ := hv
    rw [asBl_some h1]
    exact h k s
  · cases hv
theorem sum1R {lib : Lib} {f : FuncId} {F : Rg → Value} (h : ∀ k s, plainV (F k) = true ∧ ∃ t, run Try.prog lib hints f [rv k] s = some (F k, t)) : SumOk Try.prog lib hints f (gP (G1R F)) := sumP fun xs v s hv => by
  unfold G1R at hv
  split at hv
  · simp only [Option.map_eq_some_iff] at hv
    obtain ⟨k, h1, rfl⟩ := hv
    rw [asRg_some h1]
    exact h k s
  · cases hv
theorem sum2RK {lib : Lib} {f : FuncId} {F : Rg → BL → Value} (h : ∀ r k s, plainV (F r k) = true ∧ ∃ t, run Try.prog lib hints f [rv r, sv k] s = some (F r k, t)) : SumOk Try.prog lib hints f (gP (G2RK F)) := sumP fun xs v s hv => by
  unfold G2RK at hv
  split at hv
  · simp only [Option.bind_eq_some_iff, Option.map_eq_some_iff] at hv
    obtain ⟨r, h1, k, h2, rfl⟩ := hv
    rw [asRg_some h1, asBl_some h2]
    exact h r k s
  · cases hv
theorem sum2RR {lib : Lib} {f : FuncId} {F : Rg → Rg → Value} (h : ∀ r k s, plainV (F r k) = true ∧ ∃ t, run Try.prog lib hints f [rv r, rv k] s = some (F r k, t)) : SumOk Try.prog lib hints f (gP (G2RR F)) := sumP fun xs v s hv => by
  unfold G2RR at hv
  split at hv
  · simp only [Option.bind_eq_some_iff, Option.map_eq_some_iff] at hv
    obtain ⟨r, h1, k, h2, rfl⟩ := hv
    rw [asRg_some h1, asRg_some h2]
    exact h r k s
  · cases hv
theorem sum2KK {lib : Lib} {f : FuncId} {F : BL → BL → Value} (h : ∀ r k s, plainV (F r k) = true ∧ ∃ t, run Try.prog lib hints f [sv r, sv k] s = some (F r k, t)) : SumOk Try.prog lib hints f (gP (G2KK F)) := sumP fun xs v s hv => by
  unfold G2KK at hv
  split at hv
  · simp only [Option.bind_eq_some_iff, Option.map_eq_some_iff] at hv
    obtain ⟨r, h1, k, h2, rfl⟩ := hv
    rw [asBl_some h1, asBl_some h2]
    exact h r k s
  · cases hv

/-! ### Keys -/
theorem nil_sv : (Value.string ⟨#[]⟩) = sv [] := rfl
theorem len12 {k : BL} : decide (((k.length : Nat) : Int) > 12) = !decide (k.length ≤ 12) := by
  by_cases h : k.length ≤ 12
  · simp [h]; omega
  · simp [h]; omega
theorem CheckKey_run {R : Caller} (k : BL) (s : St) : span_CheckKey R (sv k) s = some (.int .i64 (eK k), s) := by
  unfold span_CheckKey eK ckK
  rw [nil_sv]
  simp only [e_seql, e_lenV, len12, n_bind, n_map, getL_0, getL_1, getL_2, getL_3, getL_4, getL_5, getL_6, getL_7, getL_8, getL_9, getL_10, getL_11, getL_12, condV_t, condV_f, guardV_tt, guardV_ff, guardV_tf, guardV_ft, guardV_u, apick_t, apick_f, exV_exit, exV_ret, lookE_same, joinK_eq, seqA_n, seqA_e, seqA_r, e_add, e_sub, e_mul, e_eql, e_neq, e_lss, e_leq, e_gtr, e_geq, e_conv, e_not, e_neg, and_guard, or_guard]
  cases h1 : (k == []) <;> cases h2 : decide (k.length ≤ 12) <;> simp only [bne, h1, h2, Bool.not_true, Bool.not_false, Bool.true_or, Bool.false_or, Bool.or_true, Bool.or_false, Bool.and_true, Bool.and_false, if_true, if_false, Bool.false_eq_true, n_bind, n_map, getL_0, getL_1, getL_2, getL_3, getL_4, getL_5, getL_6, getL_7, getL_8, getL_9, getL_10, getL_11, getL_12, condV_t, condV_f, guardV_tt, guardV_ff, guardV_tf, guardV_ft, guardV_u, apick_t, apick_f, exV_exit, exV_ret, lookE_same, joinK_eq, seqA_n, seqA_e, seqA_r, e_add, e_sub, e_mul, e_eql, e_neq, e_lss, e_leq, e_gtr, e_geq, e_conv, e_not, e_neg, and_guard, or_guard, retV] <;> rfl
theorem refCheckKey_run {R : Caller} (k : BL) (s : St) : ref02_CheckKey R (sv k) s = some (.int .i64 (eK k), s) := by
  unfold ref02_CheckKey eK ckK
  have h0 : decide (((k.length : Nat) : Int) < 1) = (k == []) := by
    cases k with
    | nil => rfl
    | cons x k => simp; omega
  simp only [e_lenV, h0, len12, n_bind, n_map, getL_0, getL_1, getL_2, getL_3, getL_4, getL_5, getL_6, getL_7, getL_8, getL_9, getL_10, getL_11, getL_12, condV_t, condV_f, guardV_tt, guardV_ff, guardV_tf, guardV_ft, guardV_u, apick_t, apick_f, exV_exit, exV_ret, lookE_same, joinK_eq, seqA_n, seqA_e, seqA_r, e_add, e_sub, e_mul, e_eql, e_neq, e_lss, e_leq, e_gtr, e_geq, e_conv, e_not, e_neg, and_guard, or_guard]
  cases h1 : (k == []) <;> cases h2 : decide (k.length ≤ 12) <;> simp only [bne, h1, h2, Bool.not_true, Bool.not_false, Bool.true_or, Bool.false_or, Bool.or_true, Bool.or_false, Bool.and_true, Bool.and_false, if_true, if_false, Bool.false_eq_true, n_bind, n_map, getL_0, getL_1, getL_2, getL_3, getL_4, getL_5, getL_6, getL_7, getL_8, getL_9, getL_10, getL_11, getL_12, condV_t, condV_f, guardV_tt, guardV_ff, guardV_tf, guardV_ft, guardV_u, apick_t, apick_f, exV_exit, exV_ret, lookE_same, joinK_eq, seqA_n, seqA_e, seqA_r, e_add, e_sub, e_mul, e_eql, e_neq, e_lss, e_leq, e_gtr, e_geq, e_conv, e_not, e_neg, and_guard, or_guard, retV] <;> rfl
end Go.Proofs.Ytamaapapaiopiaa.Ab

/- Keys and ranges: what the functions do, further. -/
namespace Go.Proofs.Ytamaapapaiopiaa.Ab
open Go

theorem z_rv : (Value.agg #[.string ⟨#[]⟩, .string ⟨#[]⟩]) = rv ([], []) := rfl
theorem box_rv (r : Rg) : lbox (rv r) = some (rv r) := rfl
theorem ld_rv (r : Rg) : lload true 2 lptr (rv r) = some (rv r) := rfl
theorem ad_0 : afieldAddr 0 lptr = some (.pointer (some ⟨0, 0, none⟩)) := rfl
theorem ad_1 : afieldAddr 1 lptr = some (.pointer (some ⟨0, 1, none⟩)) := rfl
theorem ld_0 (r : Rg) : lload false 1 lptr (rv r) = some (sv r.1) := rfl
theorem ld_00 (r : Rg) : lload false 1 (.pointer (some ⟨0, 0, none⟩)) (rv r) = some (sv r.1) := rfl
theorem z_rv2 : (Value.agg #[sv [], sv []]) = rv ([], []) := rfl
theorem ld_1 (r : Rg) : lload false 1 (.pointer (some ⟨0, 1, none⟩)) (rv r) = some (sv r.2) := rfl
theorem own_id {α : Type} {s : St} {a : α} : ownR s (a, s) = some (a, s) := by unfold ownR; rw [if_pos (Nat.le_refl _)]
theorem all_run {R : Caller} (s : St) : span_all R s = some (rv ([], []), s) := rfl

theorem geq_bl {P : Program} {t : TypeId} {o1 o2 : Operand} {a b : BL} : abin P .geq t o1 o2 (sv a) (sv b) = some (.bool (!bl a b)) := e_sgeq
theorem Check_run {R : Caller} (hR : ∀ s, R 88 [] s = some (rv ([], []), s)) (r : Rg) (s : St) : span_Check R (rv r) s = some (.int .i64 (eR r), s) := by
  obtain ⟨a, b⟩ := r
  unfold span_Check
  simp only [z_rv, z_rv2, box_rv, ld_rv, span_all_call, hR, own_id, rv_eql, ad_0, ad_1, ld_0, ld_1, nil_sv, e_lenV, len12, e_sneq, geq_bl, n_bind, n_map, getL_0, getL_1, getL_2, getL_3, getL_4, getL_5, getL_6, getL_7, getL_8, getL_9, getL_10, getL_11, getL_12, condV_t, condV_f, guardV_tt, guardV_ff, guardV_tf, guardV_ft, guardV_u, apick_t, apick_f, exV_exit, exV_ret, lookE_same, joinK_eq, seqA_n, seqA_e, seqA_r, e_add, e_sub, e_mul, e_eql, e_neq, e_lss, e_leq, e_gtr, e_geq, e_conv, e_not, e_neg, and_guard, or_guard]
  unfold eR ckR
  by_cases h0 : a = [] ∧ b = []
  · obtain ⟨rfl, rfl⟩ := h0
    rfl
  · have e0 : (a == [] && b == []) = false := by
      cases h1 : (a == []) <;> cases h2 : (b == []) <;> simp_all
    simp only [e0, n_bind, n_map, getL_0, getL_1, getL_2, getL_3, getL_4, getL_5, getL_6, getL_7, getL_8, getL_9, getL_10, getL_11, getL_12, condV_t, condV_f, guardV_tt, guardV_ff, guardV_tf, guardV_ft, guardV_u, apick_t, apick_f, exV_exit, exV_ret, lookE_same, joinK_eq, seqA_n, seqA_e, seqA_r, e_add, e_sub, e_mul, e_eql, e_neq, e_lss, e_leq, e_gtr, e_geq, e_conv, e_not, e_neg, and_guard, or_guard]
    cases h1 : decide (a.length ≤ 12) <;> cases h2 : decide (b.length ≤ 12) <;> cases h3 : (b == []) <;> cases h4 : bl a b <;> simp only [span_Check.j0, h1, h2, h3, h4, Bool.not_true, Bool.not_false, Bool.true_or, Bool.false_or, Bool.or_true, Bool.or_false, Bool.and_true, Bool.and_false, Bool.true_and, Bool.false_and, if_true, if_false, Bool.false_eq_true, z_rv, z_rv2, ld_rv, ld_0, ld_00, ld_1, n_bind, n_map, getL_0, getL_1, getL_2, getL_3, getL_4, getL_5, getL_6, getL_7, getL_8, getL_9, getL_10, getL_11, getL_12, condV_t, condV_f, guardV_tt, guardV_ff, guardV_tf, guardV_ft, guardV_u, apick_t, apick_f, exV_exit, exV_ret, lookE_same, joinK_eq, seqA_n, seqA_e, seqA_r, e_add, e_sub, e_mul, e_eql, e_neq, e_lss, e_leq, e_gtr, e_geq, e_conv, e_not, e_neg, and_guard, or_guard, retV] <;> rfl
theorem refCheck_run {R : Caller} (r : Rg) (s : St) : ref02_Check R (rv r) s = some (.int .i64 (eR r), s) := by
  obtain ⟨a, b⟩ := r
  unfold ref02_Check
  simp only [z_rv, z_rv2, box_rv, ld_rv, ad_0, ad_1, ld_0, ld_1, nil_sv, e_lenV, len12, e_sneq, geq_bl, n_bind, n_map, getL_0, getL_1, getL_2, getL_3, getL_4, getL_5, getL_6, getL_7, getL_8, getL_9, getL_10, getL_11, getL_12, condV_t, condV_f, guardV_tt, guardV_ff, guardV_tf, guardV_ft, guardV_u, apick_t, apick_f, exV_exit, exV_ret, lookE_same, joinK_eq, seqA_n, seqA_e, seqA_r, e_add, e_sub, e_mul, e_eql, e_neq, e_lss, e_leq, e_gtr, e_geq, e_conv, e_not, e_neg, and_guard, or_guard]
  unfold eR ckR
  cases h1 : decide (a.length ≤ 12) <;> cases h2 : decide (b.length ≤ 12) <;> cases h3 : (b == []) <;> cases h4 : bl a b <;> simp only [h1, h2, h3, h4, Bool.not_true, Bool.not_false, Bool.true_or, Bool.false_or, Bool.or_true, Bool.or_false, Bool.and_true, Bool.and_false, Bool.true_and, Bool.false_and, if_true, if_false, Bool.false_eq_true, z_rv, z_rv2, ld_rv, ld_0, ld_00, ld_1, n_bind, n_map, getL_0, getL_1, getL_2, getL_3, getL_4, getL_5, getL_6, getL_7, getL_8, getL_9, getL_10, getL_11, getL_12, condV_t, condV_f, guardV_tt, guardV_ff, guardV_tf, guardV_ft, guardV_u, apick_t, apick_f, exV_exit, exV_ret, lookE_same, joinK_eq, seqA_n, seqA_e, seqA_r, e_add, e_sub, e_mul, e_eql, e_neq, e_lss, e_leq, e_gtr, e_geq, e_conv, e_not, e_neg, and_guard, or_guard, retV] <;> rfl
end Go.Proofs.Ytamaapapaiopiaa.Ab

/- Keys and ranges: Has, least, below. -/
namespace Go.Proofs.Ytamaapapaiopiaa.Ab
open Go

theorem leq_bl {P : Program} {t : TypeId} {o1 o2 : Operand} {a b : BL} : abin P .leq t o1 o2 (sv a) (sv b) = some (.bool (!bl b a)) := by
  rw [e_sleq]
  congr 2
  by_cases h : a = b
  · subst h
    have := bl_irrefl a
    simp only [bl] at this
    simp [this]
  · rcases bl_total h with g | g
    · have g2 := bl_asymm g
      simp only [bl] at g g2 ⊢
      simp [g, g2]
    · have g2 := bl_asymm g
      simp only [bl] at g g2 ⊢
      simp [g, g2, h]
theorem lss_bl {P : Program} {t : TypeId} {o1 o2 : Operand} {a b : BL} : abin P .lss t o1 o2 (sv a) (sv b) = some (.bool (bl a b)) := e_slss
theorem eR_0 {r : Rg} : (eR r == 0) = ckR r := by unfold eR; cases ckR r <;> rfl
theorem eK_0 {k : BL} : (eK k == 0) = ckK k := by unfold eK; cases ckK k <;> rfl
theorem Has_run {R : Caller} (hR : ∀ r s, R 82 [rv r] s = some (.int .i64 (eR r), s)) (hK : ∀ k s, R 30 [sv k] s = some (.int .i64 (eK k), s)) (r : Rg) (k : BL) (s : St) : span_Has R (rv r) (sv k) s = some (.bool (hasR r k), s) := by
  obtain ⟨a, b⟩ := r
  unfold span_Has
  simp only [z_rv, z_rv2, box_rv, ld_rv, span_Check_call, span_CheckKey_call, hR, hK, ad_0, ad_1, ld_0, ld_1, nil_sv, e_seql, leq_bl, lss_bl, eR_0, eK_0, n_bind, n_map, getL_0, getL_1, getL_2, getL_3, getL_4, getL_5, getL_6, getL_7, getL_8, getL_9, getL_10, getL_11, getL_12, condV_t, condV_f, guardV_tt, guardV_ff, guardV_tf, guardV_ft, guardV_u, apick_t, apick_f, exV_exit, exV_ret, lookE_same, joinK_eq, seqA_n, seqA_e, seqA_r, e_add, e_sub, e_mul, e_eql, e_neq, e_lss, e_leq, e_gtr, e_geq, e_conv, e_not, e_neg, and_guard, or_guard]
  unfold hasR
  cases h1 : ckR (a, b) <;> cases h2 : ckK k <;> cases h3 : bl k a <;> cases h4 : (b == []) <;> cases h5 : bl k b <;> simp only [h1, h2, h3, h4, h5, Bool.not_true, Bool.not_false, Bool.true_or, Bool.false_or, Bool.or_true, Bool.or_false, Bool.and_true, Bool.and_false, Bool.true_and, Bool.false_and, if_true, if_false, Bool.false_eq_true, z_rv, z_rv2, ld_rv, ld_0, ld_00, ld_1, n_bind, n_map, getL_0, getL_1, getL_2, getL_3, getL_4, getL_5, getL_6, getL_7, getL_8, getL_9, getL_10, getL_11, getL_12, condV_t, condV_f, guardV_tt, guardV_ff, guardV_tf, guardV_ft, guardV_u, apick_t, apick_f, exV_exit, exV_ret, lookE_same, joinK_eq, seqA_n, seqA_e, seqA_r, e_add, e_sub, e_mul, e_eql, e_neq, e_lss, e_leq, e_gtr, e_geq, e_conv, e_not, e_neg, and_guard, or_guard, retV] <;> rfl
theorem refHas_run {R : Caller} (hR : ∀ r s, R 72 [rv r] s = some (.int .i64 (eR r), s)) (hK : ∀ k s, R 69 [sv k] s = some (.int .i64 (eK k), s)) (r : Rg) (k : BL) (s : St) : ref02_Has R (rv r) (sv k) s = some (.bool (hasR r k), s) := by
  obtain ⟨a, b⟩ := r
  unfold ref02_Has
  simp only [z_rv, z_rv2, box_rv, ld_rv, ref02_Check_call, ref02_CheckKey_call, hR, hK, ad_0, ad_1, ld_0, ld_1, nil_sv, e_seql, geq_bl, lss_bl, eR_0, eK_0, n_bind, n_map, getL_0, getL_1, getL_2, getL_3, getL_4, getL_5, getL_6, getL_7, getL_8, getL_9, getL_10, getL_11, getL_12, condV_t, condV_f, guardV_tt, guardV_ff, guardV_tf, guardV_ft, guardV_u, apick_t, apick_f, exV_exit, exV_ret, lookE_same, joinK_eq, seqA_n, seqA_e, seqA_r, e_add, e_sub, e_mul, e_eql, e_neq, e_lss, e_leq, e_gtr, e_geq, e_conv, e_not, e_neg, and_guard, or_guard]
  unfold hasR
  cases h1 : ckR (a, b) <;> cases h2 : ckK k <;> cases h3 : bl k a <;> cases h4 : (b == []) <;> cases h5 : bl k b <;> simp only [h1, h2, h3, h4, h5, Bool.not_true, Bool.not_false, Bool.true_or, Bool.false_or, Bool.or_true, Bool.or_false, Bool.and_true, Bool.and_false, Bool.true_and, Bool.false_and, if_true, if_false, Bool.false_eq_true, z_rv, z_rv2, ld_rv, ld_0, ld_00, ld_1, n_bind, n_map, getL_0, getL_1, getL_2, getL_3, getL_4, getL_5, getL_6, getL_7, getL_8, getL_9, getL_10, getL_11, getL_12, condV_t, condV_f, guardV_tt, guardV_ff, guardV_tf, guardV_ft, guardV_u, apick_t, apick_f, exV_exit, exV_ret, lookE_same, joinK_eq, seqA_n, seqA_e, seqA_r, e_add, e_sub, e_mul, e_eql, e_neq, e_lss, e_leq, e_gtr, e_geq, e_conv, e_not, e_neg, and_guard, or_guard, retV] <;> rfl

/-- the lesser one of two ends, an empty one being above all -/
def leastL (a b : BL) : BL := if a == [] || (b != [] && bl b a) then b else a
def belowL (a b : BL) : Bool := a != [] && (b == [] || bl a b)
theorem least_run {R : Caller} (a b : BL) (s : St) : span_least R (sv a) (sv b) s = some (sv (leastL a b), s) := by
  unfold span_least
  simp only [nil_sv, e_seql, e_sneq, lss_bl, n_bind, n_map, getL_0, getL_1, getL_2, getL_3, getL_4, getL_5, getL_6, getL_7, getL_8, getL_9, getL_10, getL_11, getL_12, condV_t, condV_f, guardV_tt, guardV_ff, guardV_tf, guardV_ft, guardV_u, apick_t, apick_f, exV_exit, exV_ret, lookE_same, joinK_eq, seqA_n, seqA_e, seqA_r, e_add, e_sub, e_mul, e_eql, e_neq, e_lss, e_leq, e_gtr, e_geq, e_conv, e_not, e_neg, and_guard, or_guard]
  unfold leastL
  cases h1 : (a == []) <;> cases h2 : (b == []) <;> cases h3 : bl b a <;> simp only [bne, h1, h2, h3, Bool.not_true, Bool.not_false, Bool.true_or, Bool.false_or, Bool.or_true, Bool.or_false, Bool.and_true, Bool.and_false, Bool.true_and, Bool.false_and, if_true, if_false, Bool.false_eq_true, z_rv, z_rv2, ld_rv, ld_0, ld_00, ld_1, n_bind, n_map, getL_0, getL_1, getL_2, getL_3, getL_4, getL_5, getL_6, getL_7, getL_8, getL_9, getL_10, getL_11, getL_12, condV_t, condV_f, guardV_tt, guardV_ff, guardV_tf, guardV_ft, guardV_u, apick_t, apick_f, exV_exit, exV_ret, lookE_same, joinK_eq, seqA_n, seqA_e, seqA_r, e_add, e_sub, e_mul, e_eql, e_neq, e_lss, e_leq, e_gtr, e_geq, e_conv, e_not, e_neg, and_guard, or_guard, retV] <;> rfl
theorem below_run {R : Caller} (a b : BL) (s : St) : ref02_below R (sv a) (sv b) s = some (.bool (belowL a b), s) := by
  unfold ref02_below
  simp only [nil_sv, e_seql, e_sneq, lss_bl, n_bind, n_map, getL_0, getL_1, getL_2, getL_3, getL_4, getL_5, getL_6, getL_7, getL_8, getL_9, getL_10, getL_11, getL_12, condV_t, condV_f, guardV_tt, guardV_ff, guardV_tf, guardV_ft, guardV_u, apick_t, apick_f, exV_exit, exV_ret, lookE_same, joinK_eq, seqA_n, seqA_e, seqA_r, e_add, e_sub, e_mul, e_eql, e_neq, e_lss, e_leq, e_gtr, e_geq, e_conv, e_not, e_neg, and_guard, or_guard]
  unfold belowL
  cases h1 : (a == []) <;> cases h2 : (b == []) <;> cases h3 : bl a b <;> simp only [bne, h1, h2, h3, Bool.not_true, Bool.not_false, Bool.true_or, Bool.false_or, Bool.or_true, Bool.or_false, Bool.and_true, Bool.and_false, Bool.true_and, Bool.false_and, if_true, if_false, Bool.false_eq_true, z_rv, z_rv2, ld_rv, ld_0, ld_00, ld_1, n_bind, n_map, getL_0, getL_1, getL_2, getL_3, getL_4, getL_5, getL_6, getL_7, getL_8, getL_9, getL_10, getL_11, getL_12, condV_t, condV_f, guardV_tt, guardV_ff, guardV_tf, guardV_ft, guardV_u, apick_t, apick_f, exV_exit, exV_ret, lookE_same, joinK_eq, seqA_n, seqA_e, seqA_r, e_add, e_sub, e_mul, e_eql, e_neq, e_lss, e_leq, e_gtr, e_geq, e_conv, e_not, e_neg, and_guard, or_guard, retV] <;> rfl
end Go.Proofs.Ytamaapapaiopiaa.Ab

/- Ranges: what two have in common, and what covers. -/
namespace Go.Proofs.Ytamaapapaiopiaa.Ab
open Go

theorem ab2 (x y : BL) : abuild Try.prog 74 [(0, sv x), (1, sv y)] = some (rv (x, y)) := by kernel_rfl
theorem ab0 : abuild Try.prog 74 [] = some (rv ([], [])) := by kernel_rfl
theorem st_rv (x y : Rg) : lstore 2 lptr (rv x) (rv y) = some (rv x) := rfl
theorem st_1 (x : BL) (y : Rg) : lstore 1 (.pointer (some ⟨0, 1, none⟩)) (sv x) (rv y) = some (rv (y.1, x)) := rfl
theorem box_z : lbox (.agg #[(.string ⟨#[]⟩), (.string ⟨#[]⟩)]) = some (rv ([], [])) := rfl
theorem eR_n {r : Rg} : (eR r != 0) = !ckR r := by unfold eR; cases ckR r <;> rfl
theorem eK_n {k : BL} : (eK k != 0) = !ckK k := by unfold eK; cases ckK k <;> rfl

def maxL (a b : BL) : BL := if bl a b then b else a
def meetL (a b : Rg) : Option Rg := if ckR a && ckR b && ckR (maxL a.1 b.1, leastL a.2 b.2) then some (maxL a.1 b.1, leastL a.2 b.2) else none
def meetV : Option Rg → Value
  | some m => .tuple #[rv m, .bool true]
  | none => .tuple #[rv ([], []), .bool false]
theorem max_sv {a b : BL} : amax2 (sv a) (sv b) = some (sv (maxL a b)) := by
  unfold amax2 maxL sv
  simp only [bl]
  split <;> simp_all

def covL (a b : Rg) : Bool := ckR a && ckR b && !bl b.1 a.1 && leastL a.2 b.2 == b.2
theorem Covers_run {R : Caller} (hR : ∀ r s, R 82 [rv r] s = some (.int .i64 (eR r), s)) (hL : ∀ a b s, R 83 [sv a, sv b] s = some (sv (leastL a b), s)) (a b : Rg) (s : St) : span_Covers R (rv a) (rv b) s = some (.bool (covL a b), s) := by
  unfold span_Covers
  simp only [z_rv, z_rv2, box_rv, ld_rv, span_Check_call, span_least_call, hR, hL, own_id, ad_0, ad_1, ld_0, ld_1, leq_bl, e_seql, eR_0, n_bind, n_map, getL_0, getL_1, getL_2, getL_3, getL_4, getL_5, getL_6, getL_7, getL_8, getL_9, getL_10, getL_11, getL_12, condV_t, condV_f, guardV_tt, guardV_ff, guardV_tf, guardV_ft, guardV_u, apick_t, apick_f, exV_exit, exV_ret, lookE_same, joinK_eq, seqA_n, seqA_e, seqA_r, e_add, e_sub, e_mul, e_eql, e_neq, e_lss, e_leq, e_gtr, e_geq, e_conv, e_not, e_neg, and_guard, or_guard]
  unfold covL
  cases h1 : ckR a <;> cases h2 : ckR b <;> cases h3 : bl b.1 a.1 <;> simp only [h1, h2, h3, Bool.not_true, Bool.not_false, Bool.true_or, Bool.false_or, Bool.or_true, Bool.or_false, Bool.and_true, Bool.and_false, Bool.true_and, Bool.false_and, if_true, if_false, Bool.false_eq_true, z_rv, z_rv2, ld_rv, ld_0, ld_00, ld_1, n_bind, n_map, getL_0, getL_1, getL_2, getL_3, getL_4, getL_5, getL_6, getL_7, getL_8, getL_9, getL_10, getL_11, getL_12, condV_t, condV_f, guardV_tt, guardV_ff, guardV_tf, guardV_ft, guardV_u, apick_t, apick_f, exV_exit, exV_ret, lookE_same, joinK_eq, seqA_n, seqA_e, seqA_r, e_add, e_sub, e_mul, e_eql, e_neq, e_lss, e_leq, e_gtr, e_geq, e_conv, e_not, e_neg, and_guard, or_guard, hR, hL, span_Check_call, span_least_call, own_id, ld_0, ld_1, leq_bl, e_seql, eR_0, retV] <;> rfl
end Go.Proofs.Ytamaapapaiopiaa.Ab

/- Ranges: the reference's answers to what two have in common, and to what covers. -/
namespace Go.Proofs.Ytamaapapaiopiaa.Ab
open Go

theorem least_below (a b : BL) : leastL a b = if belowL b a then b else a := by
  unfold leastL belowL
  cases h1 : (a == []) <;> cases h2 : (b == []) <;> cases h3 : bl b a <;> simp [bne, h1, h2, h3]
  all_goals simp_all
theorem ckR_len {r : Rg} (h : ckR r = true) : r.1.length ≤ 12 ∧ r.2.length ≤ 12 := by
  unfold ckR at h
  simp only [Bool.and_eq_true, decide_eq_true_eq] at h
  exact h.1
theorem ckR_meet {a b : Rg} (ha : ckR a = true) (hb : ckR b = true) : ckR (maxL a.1 b.1, leastL a.2 b.2) = (leastL a.2 b.2 == [] || bl (maxL a.1 b.1) (leastL a.2 b.2)) := by
  obtain ⟨h1, h2⟩ := ckR_len ha
  obtain ⟨h3, h4⟩ := ckR_len hb
  have h5 : (maxL a.1 b.1).length ≤ 12 := by unfold maxL; split <;> assumption
  have h6 : (leastL a.2 b.2).length ≤ 12 := by unfold leastL; split <;> assumption
  unfold ckR
  simp [h5, h6]
theorem refCovers_run {R : Caller} (hR : ∀ r s, R 72 [rv r] s = some (.int .i64 (eR r), s)) (hB : ∀ a b s, R 73 [sv a, sv b] s = some (.bool (belowL a b), s)) (a b : Rg) (s : St) : ref02_Covers R (rv a) (rv b) s = some (.bool (covL a b), s) := by
  unfold ref02_Covers
  simp only [z_rv, z_rv2, box_rv, ld_rv, ref02_Check_call, ref02_below_call, hR, hB, own_id, ad_0, ad_1, ld_0, ld_1, leq_bl, e_seql, eR_0, n_bind, n_map, getL_0, getL_1, getL_2, getL_3, getL_4, getL_5, getL_6, getL_7, getL_8, getL_9, getL_10, getL_11, getL_12, condV_t, condV_f, guardV_tt, guardV_ff, guardV_tf, guardV_ft, guardV_u, apick_t, apick_f, exV_exit, exV_ret, lookE_same, joinK_eq, seqA_n, seqA_e, seqA_r, e_add, e_sub, e_mul, e_eql, e_neq, e_lss, e_leq, e_gtr, e_geq, e_conv, e_not, e_neg, and_guard, or_guard]
  have hl : (leastL a.2 b.2 == b.2) = !belowL a.2 b.2 := by
    unfold leastL belowL
    by_cases h0 : a.2 = b.2
    · rw [h0]
      have := bl_irrefl b.2
      cases h1 : (b.2 == []) <;> simp [bne, h1, this]
    · cases h1 : (a.2 == []) <;> cases h2 : (b.2 == []) <;> cases h3 : bl b.2 a.2 <;> cases h4 : bl a.2 b.2 <;> simp [bne, h1, h2, h3, h4]
      all_goals first
        | (rcases bl_total h0 with g | g <;> simp_all; done)
        | (have := bl_asymm h3; simp_all; done)
        | simp_all
  unfold covL
  rw [hl]
  cases h1 : ckR a <;> cases h2 : ckR b <;> cases h3 : bl b.1 a.1 <;> simp only [h1, h2, h3, Bool.not_true, Bool.not_false, Bool.true_or, Bool.false_or, Bool.or_true, Bool.or_false, Bool.and_true, Bool.and_false, Bool.true_and, Bool.false_and, if_true, if_false, Bool.false_eq_true, z_rv, z_rv2, ld_rv, st_rv, ld_0, ld_00, ld_1, n_bind, n_map, getL_0, getL_1, getL_2, getL_3, getL_4, getL_5, getL_6, getL_7, getL_8, getL_9, getL_10, getL_11, getL_12, condV_t, condV_f, guardV_tt, guardV_ff, guardV_tf, guardV_ft, guardV_u, apick_t, apick_f, exV_exit, exV_ret, lookE_same, joinK_eq, seqA_n, seqA_e, seqA_r, e_add, e_sub, e_mul, e_eql, e_neq, e_lss, e_leq, e_gtr, e_geq, e_conv, e_not, e_neg, and_guard, or_guard, hR, hB, ref02_Check_call, ref02_below_call, own_id, ld_0, ld_1, leq_bl, e_seql, eR_0, retV] <;> rfl
end Go.Proofs.Ytamaapapaiopiaa.Ab

/- Ranges: a range in two. -/
namespace Go.Proofs.Ytamaapapaiopiaa.Ab
open Go

def cutL (r : Rg) (k : BL) : Rg × Rg × Int :=
  if ckR r then (if ckK k then (if k == r.1 || !hasR r k then (([], []), ([], []), 21) else ((r.1, k), (k, r.2), 0)) else (([], []), ([], []), 20)) else (([], []), ([], []), 21)
def cutV (c : Rg × Rg × Int) : Value := .tuple #[rv c.1, rv c.2.1, .int .i64 c.2.2]
theorem eR_f {r : Rg} (h : ckR r = false) : eR r = 21 := by unfold eR; rw [h]; rfl
theorem eK_f {k : BL} (h : ckK k = false) : eK k = 20 := by unfold eK; rw [h]; rfl
theorem cut_has {r : Rg} {k : BL} (h1 : ckR r = true) (h2 : ckK k = true) : (k == r.1 || !hasR r k) = (!bl r.1 k || (r.2 != [] && !bl k r.2)) := by
  unfold hasR
  rw [h1, h2]
  by_cases h : k = r.1
  · subst h
    have := bl_irrefl r.1
    simp [this]
  · have hb : (k == r.1) = false := by simp [h]
    have hx : bl k r.1 = !bl r.1 k := by
      rcases bl_total h with g | g
      · rw [g, bl_asymm g]; rfl
      · rw [g, bl_asymm g]; rfl
    rw [hb, hx]
    cases bl r.1 k <;> cases h4 : (r.2 == []) <;> cases bl k r.2 <;> simp [bne, h4]
end Go.Proofs.Ytamaapapaiopiaa.Ab

/- What is known of the functions of keys and ranges: told as sums. -/
namespace Go.Proofs.Ytamaapapaiopiaa.Ab
open Go

theorem progOk : progW Try.prog = true := by kernel_rfl
def gKey : Sum := gP (G1K fun k => .int .i64 (eK k))
def gChk : Sum := gP (G1R fun r => .int .i64 (eR r))
def gHas : Sum := gP (G2RK fun r k => .bool (hasR r k))
def gLeast : Sum := gP (G2KK fun a b => sv (leastL a b))
def gBelow : Sum := gP (G2KK fun a b => .bool (belowL a b))
def gMeet : Sum := gP (G2RR fun a b => meetV (meetL a b))
def gCov : Sum := gP (G2RR fun a b => .bool (covL a b))
def gCut : Sum := gP (G2RK fun r k => cutV (cutL r k))
def G0 (v : Value) : List Value → Option Value
  | [] => some v
  | _ => none
def gAll : Sum := gP (G0 (rv ([], [])))
theorem key_eq {k : BL} {s : St} : gKey [sv k] s = some (.int .i64 (eK k), s) := rfl
theorem chk_eq {r : Rg} {s : St} : gChk [rv r] s = some (.int .i64 (eR r), s) := rfl
theorem has_eq {r : Rg} {k : BL} {s : St} : gHas [rv r, sv k] s = some (.bool (hasR r k), s) := rfl
theorem least_eq {a b : BL} {s : St} : gLeast [sv a, sv b] s = some (sv (leastL a b), s) := rfl
theorem below_eq {a b : BL} {s : St} : gBelow [sv a, sv b] s = some (.bool (belowL a b), s) := rfl
theorem meet_eq {a b : Rg} {s : St} : gMeet [rv a, rv b] s = some (meetV (meetL a b), s) := rfl
theorem cov_eq {a b : Rg} {s : St} : gCov [rv a, rv b] s = some (.bool (covL a b), s) := rfl
theorem cut_eq {r : Rg} {k : BL} {s : St} : gCut [rv r, sv k] s = some (cutV (cutL r k), s) := rfl
theorem all_eq {s : St} : gAll [] s = some (rv ([], []), s) := rfl
theorem meet_plain (m : Option Rg) : plainV (meetV m) = true := by cases m <;> rfl

def mR : Option Rg → Rg
  | some m => m
  | none => ([], [])
theorem x_meet {m : Option Rg} : aextract 0 (meetV m) = some (rv (mR m)) ∧ aextract 1 (meetV m) = some (.bool m.isSome) := by cases m <;> exact ⟨rfl, rfl⟩

end Go.Proofs.Ytamaapapaiopiaa.Ab

/- The range of a key: the reference's loop. -/
namespace Go.Proofs.Ytamaapapaiopiaa.Ab
open Go

/-- how many letters stand before the 255s at the end of the first n -/
def stripN (k : BL) : Nat → Nat
  | 0 => 0
  | n + 1 => if k.getD n 0 == 255 then stripN k n else n + 1
theorem idx_sv {k : BL} {n : Nat} (h : n < k.length) : aindexStr (sv k) (.int .i64 (n : Int)) = some (.int .u8 (((k.getD n 0).toNat : Nat) : Int)) := by
  unfold aindexStr sv
  simp [h]
theorem is255 {c : UInt8} : (((c.toNat : Nat) : Int) == 255) = (c == 255) := by
  by_cases h : c = 255
  · subst h; rfl
  · have : c.toNat ≠ 255 := fun e => h (UInt8.toNat_inj.1 e)
    have h2 : (c == 255) = false := by simp [h]
    rw [h2, beq_eq_false_iff_ne]
    omega
end Go.Proofs.Ytamaapapaiopiaa.Ab

/- The range of a key: what both functions do. -/
namespace Go.Proofs.Ytamaapapaiopiaa.Ab
open Go

/-! ### Strings, and rows -/
theorem sv_app {a b : BL} : ((⟨a.toArray⟩ : ByteArray) ++ ⟨b.toArray⟩) = ⟨(a ++ b).toArray⟩ := by
  apply ByteArray.ext
  rw [ByteArray.data_append]
  simp
theorem e_sadd {P : Program} {t : TypeId} {o1 o2 : Operand} {a b : BL} (h : a.length + b.length ≤ 9223372036854775807) : abin P .add t o1 o2 (sv a) (sv b) = some (sv (a ++ b)) := by
  simp only [abin, strBin, sv, sv_app]
  rw [if_pos]
  simpa [ByteArray.size] using h
theorem sv_cut {k : BL} {n : Nat} (h : n ≤ k.length) : asliceStrV (sv k) none (some (.int .i64 (n : Int))) none = some (sv (k.take n)) := by
  have e : (⟨k.toArray⟩ : ByteArray).extract 0 n = ⟨(k.take n).toArray⟩ := by
    apply ByteArray.ext
    rw [ByteArray.data_extract]
    simp
  unfold asliceStrV sv asliceStr abound
  simp only [Int.toNat_natCast, Option.bind_some]
  rw [if_pos (by omega)]
  simp only [Option.bind_some]
  rw [if_pos ⟨Nat.zero_le _, by simpa [ByteArray.size] using h⟩, e]
theorem cv_bytes {k : BL} {s : St} (h : k.length ≤ 140737488355328) : convBytes (sv k) s = some (.slice (some ⟨s.heap.length, 0, none⟩) k.length k.length, s.push (.row 1 (bv k) .act)) := by
  unfold convBytes sv
  simp only
  rw [if_pos (by simpa [ByteArray.size] using h)]
  simp [ByteArray.size, bytesV_eq]
theorem ix_row {b n c i : Nat} (h : i < n) : aindexS 1 (.slice (some ⟨b, 0, none⟩) n c) (.int .i64 (i : Int)) = some (.pointer (some ⟨b, i, none⟩)) := by
  unfold aindexS
  simp only [Int.toNat_natCast, Nat.zero_add, Nat.mul_one]
  rw [if_pos (by omega)]
theorem ld_row {s : St} {b i : Nat} {k : BL} (h : readRow s b = some (bv k)) (hi : i < k.length) : aload false 1 (.pointer (some ⟨b, i, none⟩)) s = some (.int .u8 (((k.getD i 0).toNat : Nat) : Int)) := by
  unfold aload
  simp [h, bv, hi]
theorem cut_row {b n c m : Nat} (h : m ≤ c) : asliceV 1 (.slice (some ⟨b, 0, none⟩) n c) none (some (.int .i64 (m : Int))) none = some (.slice (some ⟨b, 0, none⟩) m c) := by
  unfold asliceV asliceSl abound
  simp only [Int.toNat_natCast, Option.isNone_none, Bool.true_or, if_true, Option.bind_some]
  rw [if_pos (by omega)]
  simp only [Option.bind_some]
  rw [if_pos (by omega)]
  simp [cutRow]
theorem str_row {s : St} {b n c : Nat} {k : BL} (h : readRow s b = some (bv k)) (hn : n ≤ k.length) (hc : n ≤ c) : abytesToStr (.slice (some ⟨b, 0, none⟩) n c) s = some (sv (k.take n)) := by
  apply bytes_str
  unfold bytesOf cellsOf
  simp only
  rw [if_pos hc]
  unfold readN
  rw [h]
  simp only [Option.bind_some, Nat.zero_add, Nat.mul_one, bv_length]
  rw [if_pos hn]
  simp only [Option.bind_some, List.drop_zero, ← bv_take]
  exact ubs_bv _
theorem st_row {s : St} {b i n : Nat} {cs : List Value} {v : Value} (h : s.heap[b]? = some (.row n cs .act)) (hi : i < cs.length) (hv : cellsV v = [v]) (hl : isLeaf v = true) : astore 1 (.pointer (some ⟨b, i, none⟩)) v s = some (s.putB b (.row n (cs.set i v) .act)) := by
  have h2 : putCells cs i [v] = cs.set i v := by
    unfold putCells
    rw [List.set_eq_take_append_cons_drop, if_pos hi]
    simp
  unfold astore writeN
  simp only [hv, List.length_singleton, List.all_cons, hl, List.all_nil, Bool.and_self, true_and, if_true, h]
  rw [if_pos (by omega), h2]

/-! ### The range of a key -/
def ptR (k : BL) : Rg := if k.length < 12 then (k, k ++ [0]) else match stripN k 12 with
  | 0 => (k, [])
  | n + 1 => (k, k.take n ++ [k.getD n 0 + 1])
def ptL (k : BL) : Rg × Int := if ckK k then (ptR k, 0) else (([], []), 20)
def ptV (p : Rg × Int) : Value := .tuple #[rv p.1, .int .i64 p.2]
theorem ckK_len {k : BL} (h : ckK k = true) : k.length ≤ 12 ∧ k ≠ [] := by
  unfold ckK at h
  simp at h
  exact ⟨h.2, h.1⟩
theorem ab1 (x : BL) : abuild Try.prog 74 [(0, sv x)] = some (rv (x, [])) := by kernel_rfl
theorem s_0 : (Value.string ⟨#[0]⟩) = sv [0] := rfl
theorem strip_le {k : BL} : ∀ n, stripN k n ≤ n
  | 0 => Nat.le_refl _
  | n + 1 => by
    unfold stripN
    split
    · exact Nat.le_succ_of_le (strip_le n)
    · exact Nat.le_refl _
theorem strip_ne {k : BL} {m : Nat} : ∀ {n}, stripN k n = m + 1 → k.getD m 0 ≠ 255
  | 0, h => by cases h
  | n + 1, h => by
    unfold stripN at h
    split at h
    · exact strip_ne h
    · rename_i h2
      cases h
      simpa using h2
theorem inc_u8 {c : UInt8} (h : c ≠ 255) : IntKind.wrap .u8 ((c.toNat : Int) + 1) = (((c + 1).toNat : Nat) : Int) := by
  have h1 : c.toNat < 256 := c.toNat_lt
  have h2 : c.toNat ≠ 255 := fun e => h (UInt8.toNat_inj.1 e)
  rw [wrap_u8 (by omega) (by omega)]
  rw [UInt8.toNat_add]
  have : (1 : UInt8).toNat = 1 := rfl
  omega

/-- one byte as a string -/
theorem one_str {s : St} {c : UInt8} : ∃ r, abuildSl 1 [(.int .u8 0)] 1 [(0, .int .u8 ((c.toNat : Nat) : Int))] s = some r ∧ s.heap.length ≤ r.2.heap.length ∧ abytesToStr r.1 r.2 = some (sv [c]) := by
  refine ⟨(.slice (some ⟨s.heap.length, 0, none⟩) 1 1, s.push (.row 1 (bv [c]) .act)), rfl, by simp [St.push], ?_⟩
  exact str_row (k := [c]) (n := 1) (by unfold readRow; rw [push_get]) (Nat.le_refl _) (Nat.le_refl _)
end Go.Proofs.Ytamaapapaiopiaa.Ab

/- Strings have ranks: what is plain of keys and ranges. -/
namespace Go.Proofs.Ytamaapapaiopiaa.Ab
open Go

theorem cnt_lt {p q : BL → Bool} {a : BL} (h : ∀ x, p x = true → q x = true) (hq : q a = true) (hp : p a = false) : ∀ {L : List BL}, a ∈ L → (L.filter p).length < (L.filter q).length
  | [], h => by cases h
  | x :: L, hm => by
    have mono : ∀ L : List BL, (L.filter p).length ≤ (L.filter q).length := by
      intro L
      induction L with
      | nil => simp
      | cons y L ih =>
        simp only [List.filter_cons]
        cases h1 : p y
        · cases h2 : q y <;> simp <;> omega
        · rw [h y h1]; simp; omega
    simp only [List.filter_cons]
    by_cases e : a = x
    · subst e
      rw [hq, hp]
      have := mono L
      simp; omega
    · have hm2 : a ∈ L := by
        rcases List.mem_cons.1 hm with h | h
        · exact absurd h e
        · exact h
      have := cnt_lt h hq hp hm2
      cases h1 : p x
      · cases h2 : q x <;> simp <;> omega
      · rw [h x h1]; simp; omega
def rk (L : List BL) (x : BL) : Nat := (([] :: L).filter fun y => bl y x).length
theorem rk_lt {L : List BL} {a b : BL} (ha : a ∈ [] :: L) (h : bl a b = true) : rk L a < rk L b :=
  cnt_lt (p := fun y => bl y a) (q := fun y => bl y b) (fun x hx => bl_trans hx h) h (bl_irrefl a) ha
theorem rk_nil {L : List BL} : rk L [] = 0 := by simp [rk, bl_nil_r]
/-- any strings, as whole numbers -/
theorem rank (L : List BL) : ∃ f : BL → Nat, f [] = 0 ∧ (∀ a ∈ L, (a == []) = decide (f a = 0)) ∧ ∀ a ∈ L, ∀ b ∈ L, bl a b = decide (f a < f b) ∧ (a == b) = decide (f a = f b) := by
  refine ⟨rk L, rk_nil, ?_, ?_⟩
  · intro a ha
    by_cases e : a = []
    · subst e; simp [rk_nil]
    · have := rk_lt (L := L) (List.mem_cons_self ..) (bl_nil_l e)
      have e2 : (a == []) = false := by simp [e]
      rw [e2]
      symm
      rw [decide_eq_false_iff_not]
      omega
  · intro a ha b hb
    have ha := List.mem_cons_of_mem [] ha
    have hb := List.mem_cons_of_mem [] hb
    by_cases e : a = b
    · subst e
      simp [bl_irrefl]
    · have e2 : (a == b) = false := by simp [e]
      rw [e2]
      rcases bl_total e with h | h
      · have := rk_lt ha h
        rw [h]
        constructor
        · symm; rw [decide_eq_true_eq]; exact this
        · symm; rw [decide_eq_false_iff_not]; omega
      · have := rk_lt hb h
        rw [bl_asymm h]
        constructor
        · symm; rw [decide_eq_false_iff_not]; omega
        · symm; rw [decide_eq_false_iff_not]; omega

theorem meet_comm (a b : Rg) : meetL a b = meetL b a := by
  obtain ⟨a1, a2⟩ := a
  obtain ⟨b1, b2⟩ := b
  have e1 : maxL a1 b1 = maxL b1 a1 := by
    unfold maxL
    by_cases e : a1 = b1
    · rw [e]
    · rcases bl_total e with h | h <;> simp [h, bl_asymm h]
  have e2 : leastL a2 b2 = leastL b2 a2 := by
    unfold leastL
    by_cases e : a2 = b2
    · rw [e]
    · rcases bl_total e with h | h
      · cases h1 : (a2 == []) <;> cases h2 : (b2 == []) <;> simp_all [bl_asymm h]
      · cases h1 : (a2 == []) <;> cases h2 : (b2 == []) <;> simp_all [bl_asymm h]
  unfold meetL
  simp only [e1, e2, Bool.and_comm (ckR (a1, a2))]

def lst (x y : Nat) : Nat := if x = 0 ∨ (y ≠ 0 ∧ y < x) then y else x
theorem f_max {f : BL → Nat} {a b : BL} (h : bl a b = decide (f a < f b)) : f (maxL a b) = if f a < f b then f b else f a := by
  unfold maxL
  rw [h]
  by_cases g : f a < f b <;> simp [g]
theorem f_least {f : BL → Nat} {a b : BL} (h : bl b a = decide (f b < f a)) (ha : (a == []) = decide (f a = 0)) (hb : (b == []) = decide (f b = 0)) : f (leastL a b) = lst (f a) (f b) := by
  unfold leastL lst
  rw [h, ha]
  have e : (b != []) = !decide (f b = 0) := by rw [← hb]; rfl
  rw [e]
  by_cases g : f b < f a <;> by_cases g1 : f a = 0 <;> by_cases g2 : f b = 0 <;> simp [g, g1, g2]
theorem has_iff {r : Rg} {k : BL} (hr : ckR r = true) (hk : ckK k = true) : hasR r k = (!bl k r.1 && (r.2 == [] || bl k r.2)) := by
  unfold hasR; rw [hr, hk]; rfl
theorem meet_iff {a b : Rg} (ha : ckR a = true) (hb : ckR b = true) : meetL a b = if (leastL a.2 b.2 == [] || bl (maxL a.1 b.1) (leastL a.2 b.2)) = true then some (maxL a.1 b.1, leastL a.2 b.2) else none := by
  unfold meetL
  rw [ha, hb, ckR_meet ha hb]
  rfl
theorem ckR_lt {r : Rg} (h : ckR r = true) : (r.2 == [] || bl r.1 r.2) = true := by
  unfold ckR at h
  simp only [Bool.and_eq_true] at h
  exact h.2
theorem meet_ck {a b m : Rg} (h : meetL a b = some m) : ckR a = true ∧ ckR b = true ∧ ckR m = true ∧ m = (maxL a.1 b.1, leastL a.2 b.2) := by
  unfold meetL at h
  split at h
  · rename_i h2
    simp only [Bool.and_eq_true] at h2
    cases h
    exact ⟨h2.1.1, h2.1.2, h2.2, rfl⟩
  · cases h

theorem both_has (a b : Rg) (k : BL) : (hasR a k && hasR b k) = ((meetL a b).isSome && hasR (mR (meetL a b)) k) := by
  by_cases ha : ckR a = true
  · by_cases hb : ckR b = true
    · by_cases hk : ckK k = true
      · have ca := ckR_lt ha
        have cb := ckR_lt hb
        have hm := meet_iff ha hb
        have hx : meetL a b ≠ none → ckR (maxL a.1 b.1, leastL a.2 b.2) = true := fun h => by
          cases e : meetL a b with
          | none => exact absurd e h
          | some m =>
            obtain ⟨_, _, h3, h4⟩ := meet_ck e
            rw [← h4]; exact h3
        obtain ⟨f, h0, hz, h⟩ := rank [a.1, a.2, b.1, b.2, k, maxL a.1 b.1, leastL a.2 b.2]
        simp only [List.mem_cons, List.not_mem_nil, or_false, forall_eq_or_imp, forall_eq] at h hz
        have fm : f (maxL a.1 b.1) = if f a.1 < f b.1 then f b.1 else f a.1 := f_max (by simp only [h])
        have fl : f (leastL a.2 b.2) = lst (f a.2) (f b.2) := f_least (by simp only [h]) (by simp only [hz]) (by simp only [hz])
        rw [has_iff ha hk, has_iff hb hk]
        cases e : meetL a b with
        | none =>
          rw [e] at hm
          simp only [h, hz, fm, fl] at hm ca cb ⊢
          unfold lst at hm
          clear h hz hx h0
          simp at hm ca cb ⊢
          grind
        | some m =>
          have h3 := hx (by rw [e]; simp)
          obtain ⟨_, _, _, h4⟩ := meet_ck e
          rw [e] at hm
          simp only [mR, h4, has_iff h3 hk]
          simp only [h, hz, fm, fl] at ca cb hm ⊢
          unfold lst at hm ⊢
          clear h hz hx h0
          simp at hm ca cb ⊢
          grind
      · simp [hasR, hk]
    · simp [hb, hasR, meetL]
  · simp [ha, hasR, meetL]

end Go.Proofs.Ytamaapapaiopiaa.Ab

/- What is plain of keys and ranges, further. -/
namespace Go.Proofs.Ytamaapapaiopiaa.Ab
open Go

theorem cov_iff {a b : Rg} : covL a b = true ↔ ckR a = true ∧ ckR b = true ∧ bl b.1 a.1 = false ∧ leastL a.2 b.2 = b.2 := by
  unfold covL
  simp only [Bool.and_eq_true, Bool.not_eq_true', beq_iff_eq, and_assoc]
theorem max_of {x y : BL} (h : bl y x = false) : maxL x y = y := by
  unfold maxL
  by_cases e : x = y
  · subst e; simp
  · rcases bl_total e with g | g
    · simp [g]
    · rw [h] at g; cases g
theorem cov_meet {a b : Rg} (h : covL a b = true) : meetL a b = some b := by
  obtain ⟨h1, h2, h3, h4⟩ := cov_iff.1 h
  unfold meetL
  rw [max_of h3, h4, h1, h2]
  rfl
theorem cov_all {a : Rg} : covL ([], []) a = ckR a := by
  unfold covL
  have h1 : ckR ([], []) = true := by decide
  have h2 : leastL [] a.2 = a.2 := by simp [leastL]
  simp only [h1, bl_nil_r, h2, beq_self_eq_true]
  cases ckR a <;> rfl
theorem has_all {k : BL} : hasR ([], []) k = ckK k := by
  unfold hasR
  have h1 : ckR ([], []) = true := by decide
  simp only [h1, bl_nil_r]
  cases ckK k <;> rfl
theorem least_iff {x y : BL} : leastL x y = y ↔ x = [] ∨ (y ≠ [] ∧ (bl y x = true ∨ x = y)) := by
  unfold leastL
  by_cases h1 : x = []
  · subst h1; simp
  · by_cases h2 : y = []
    · subst h2; simp [h1]
    · by_cases h3 : x = y
      · subst h3; simp [bl_irrefl, h1]
      · cases h4 : bl y x <;> simp [h1, h2, h3, h4]
theorem cov_trans {a b c : Rg} (h : covL a b = true) (g : covL b c = true) : covL a c = true := by
  obtain ⟨h1, h2, h3, h4⟩ := cov_iff.1 h
  obtain ⟨g1, g2, g3, g4⟩ := cov_iff.1 g
  rw [least_iff] at h4 g4
  refine cov_iff.2 ⟨h1, g2, ?_, least_iff.2 ?_⟩
  · cases e : bl c.1 a.1 with
    | false => rfl
    | true =>
      by_cases e1 : a.1 = b.1
      · rw [← e1] at g3; rw [g3] at e; cases e
      · rcases bl_total e1 with k | k
        · rw [bl_trans e k] at g3; cases g3
        · rw [k] at h3; cases h3
  · rcases h4 with h4 | ⟨h4, h5⟩
    · exact .inl h4
    · rcases g4 with g4 | ⟨g4, g5⟩
      · exact absurd g4 h4
      · refine .inr ⟨g4, ?_⟩
        rcases h5 with h5 | h5
        · rcases g5 with g5 | g5
          · exact .inl (bl_trans g5 h5)
          · rw [← g5]; exact .inl h5
        · rw [h5]; exact g5
theorem cov_anti {a b : Rg} (h : covL a b = true) (g : covL b a = true) : a = b := by
  obtain ⟨h1, h2, h3, h4⟩ := cov_iff.1 h
  obtain ⟨g1, g2, g3, g4⟩ := cov_iff.1 g
  rw [least_iff] at h4 g4
  apply Prod.ext
  · by_cases e : a.1 = b.1
    · exact e
    · rcases bl_total e with k | k
      · rw [k] at g3; cases g3
      · rw [k] at h3; cases h3
  · rcases h4 with h4 | ⟨h4, h5⟩
    · rcases g4 with g4 | ⟨g4, g5⟩
      · rw [h4, g4]
      · exact absurd h4 g4
    · rcases g4 with g4 | ⟨g4, g5⟩
      · exact absurd g4 h4
      · rcases h5 with h5 | h5
        · rcases g5 with g5 | g5
          · rw [bl_asymm h5] at g5; cases g5
          · exact g5.symm
        · exact h5

theorem max_assoc (x y z : BL) : maxL (maxL x y) z = maxL x (maxL y z) := by
  obtain ⟨f, h0, hz, h⟩ := rank [x, y, z]
  simp only [List.mem_cons, List.not_mem_nil, or_false, forall_eq_or_imp, forall_eq] at h
  unfold maxL
  by_cases h1 : f x < f y <;> by_cases h2 : f y < f z <;> by_cases h3 : f x < f z <;> simp [h, h1, h2, h3] <;> omega
theorem least_assoc (x y z : BL) : leastL (leastL x y) z = leastL x (leastL y z) := by
  obtain ⟨f, h0, hz, h⟩ := rank [x, y, z]
  simp only [List.mem_cons, List.not_mem_nil, or_false, forall_eq_or_imp, forall_eq] at h hz
  have hne : (x != []) = !decide (f x = 0) ∧ (y != []) = !decide (f y = 0) ∧ (z != []) = !decide (f z = 0) := ⟨congrArg not hz.1, congrArg not hz.2.1, congrArg not hz.2.2⟩
  unfold leastL
  by_cases h1 : f x = 0 <;> by_cases h2 : f y = 0 <;> by_cases h3 : f z = 0 <;> by_cases h4 : f y < f x <;> by_cases h5 : f z < f y <;> by_cases h6 : f z < f x <;> simp [h, hz, hne, h1, h2, h3, h4, h5, h6] <;> omega
theorem meet_parts {a b c x y : Rg} (h : meetL a b = some x) (g : meetL b c = some y) : meetL x c = meetL a y := by
  obtain ⟨h1, h2, h3, h4⟩ := meet_ck h
  obtain ⟨g1, g2, g3, g4⟩ := meet_ck g
  unfold meetL
  rw [h1, h3, g2, g3, h4, g4]
  simp only [max_assoc, least_assoc]

theorem cut_facts {a : Rg} {k at_ : BL} (h1 : ckR a = true) (h2 : ckK at_ = true) (h3 : (at_ == a.1 || !hasR a at_) = false) : (hasR a k == (hasR (a.1, at_) k != hasR (at_, a.2) k)) = true ∧ (!hasR (a.1, at_) k || !hasR (at_, a.2) k) = true := by
  rw [cut_has h1 h2] at h3
  simp only [Bool.or_eq_false_iff, Bool.not_eq_false', Bool.and_eq_false_iff] at h3
  obtain ⟨h4, h5⟩ := h3
  have hl := ckR_len h1
  have hk := ckK_len h2
  have c1 : ckR (a.1, at_) = true := by
    unfold ckR
    simp [h4, hl.1, hk.1]
  have c2 : ckR (at_, a.2) = true := by
    unfold ckR
    rcases h5 with h5 | h5
    · have : a.2 = [] := by simpa [bne] using h5
      simp [hk.1, this]
    · simp [hk.1, hl.2, h5]
  by_cases hk : ckK k = true
  · rw [has_iff h1 hk, has_iff c1 hk, has_iff c2 hk]
    have hne : (at_ == []) = false := by simp [(ckK_len h2).2]
    obtain ⟨f, h0, hz, h⟩ := rank [a.1, a.2, at_, k]
    simp only [List.mem_cons, List.not_mem_nil, or_false, forall_eq_or_imp, forall_eq] at h hz
    have ca := ckR_lt h1
    have e2 : (a.2 != []) = !decide (f a.2 = 0) := congrArg not hz.2.1
    simp only [h, hz, e2] at h4 h5 ca hne ⊢
    clear h hz h0
    simp at h4 h5 ca hne ⊢
    grind
  · simp [hasR, hk]

/-! ### The range of one key -/
theorem top_eq : ∀ {v o : BL}, (∀ c ∈ v, c = 255) → bl o v = false → o.length ≤ v.length → o = v
  | [], [], _, _, _ => rfl
  | [], _ :: _, _, _, h => by simp at h
  | _ :: _, [], _, h, _ => by cases h
  | c :: v, y :: o, hv, h, hl => by
    have hc := hv c (List.mem_cons_self ..)
    subst hc
    have h1 : ¬ (y.toNat < (255 : UInt8).toNat ∨ (y = 255 ∧ bl o v = true)) := fun g => by rw [bl_cons.2 g] at h; cases h
    have h2 : (255 : UInt8).toNat = 255 := rfl
    have h3 := y.toNat_lt
    have hy : y = 255 := UInt8.toNat_inj.1 (by omega)
    subst hy
    rw [top_eq (v := v) (o := o) (fun c hc => hv c (List.mem_cons_of_mem _ hc)) (by
      cases e : bl o v with
      | false => rfl
      | true => exact absurd (.inr ⟨rfl, e⟩) h1) (by simpa using hl)]
theorem between {x : UInt8} (hx : x ≠ 255) {v : BL} (hv : ∀ c ∈ v, c = 255) : ∀ {u o : BL}, bl o (u ++ x :: v) = false → bl o (u ++ [x + 1]) = true → o.length ≤ (u ++ x :: v).length → o = u ++ x :: v
  | [], [], h, _, _ => by cases h
  | [], y :: o, h, g, hl => by
    have hx1 : (x + 1).toNat = x.toNat + 1 := by
      have h1 := x.toNat_lt
      have h2 : x.toNat ≠ 255 := fun e => hx (UInt8.toNat_inj.1 e)
      rw [UInt8.toNat_add]
      have : (1 : UInt8).toNat = 1 := rfl
      omega
    have h1 : ¬ (y.toNat < x.toNat ∨ (y = x ∧ bl o v = true)) := fun g => by rw [List.nil_append, bl_cons.2 g] at h; cases h
    rw [List.nil_append, bl_cons] at g
    rw [bl_nil_r] at g
    have hy : y = x := UInt8.toNat_inj.1 (by
      rcases g with g | ⟨_, g⟩
      · omega
      · cases g)
    subst hy
    rw [top_eq (v := v) (o := o) hv (by
      cases e : bl o v with
      | false => rfl
      | true => exact absurd (.inr ⟨rfl, e⟩) h1) (by simpa using hl)]
    rfl
  | _ :: _, [], h, _, _ => by cases h
  | c :: u, y :: o, h, g, hl => by
    have h1 : ¬ (y.toNat < c.toNat ∨ (y = c ∧ bl o (u ++ x :: v) = true)) := fun g => by rw [List.cons_append, bl_cons.2 g] at h; cases h
    rw [List.cons_append, bl_cons] at g
    have hy : y = c := by
      rcases g with g | g
      · exact absurd (.inl g) h1
      · exact g.1
    subst hy
    have g2 : bl o (u ++ [x + 1]) = true := by
      rcases g with g | g
      · omega
      · exact g.2
    rw [between hx hv (u := u) (o := o) (by
      cases e : bl o (u ++ x :: v) with
      | false => rfl
      | true => exact absurd (.inr ⟨rfl, e⟩) h1) g2 (by simpa using hl)]
    rfl
theorem above {x : UInt8} (hx : x ≠ 255) {v : BL} : ∀ {u : BL}, bl (u ++ x :: v) (u ++ [x + 1]) = true
  | [] => by
    rw [List.nil_append, List.nil_append, bl_cons]
    left
    have h1 := x.toNat_lt
    have h2 : x.toNat ≠ 255 := fun e => hx (UInt8.toNat_inj.1 e)
    rw [UInt8.toNat_add]
    have : (1 : UInt8).toNat = 1 := rfl
    omega
  | c :: u => by
    rw [List.cons_append, List.cons_append, bl_cons]
    exact .inr ⟨rfl, above hx⟩
theorem strip_all {k : BL} : ∀ {n i : Nat}, stripN k n ≤ i → i < n → k.getD i 0 = 255
  | 0, _, _, h => by omega
  | n + 1, i, h, g => by
    unfold stripN at h
    split at h
    · rename_i h2
      by_cases e : i = n
      · subst e; simpa using h2
      · exact strip_all h (by omega)
    · omega
theorem strip_drop {k : BL} (h : k.length = 12) : ∀ c ∈ k.drop (stripN k 12), c = 255 := by
  intro c hc
  obtain ⟨j, hj, e⟩ := List.getElem_of_mem hc
  rw [List.getElem_drop] at e
  simp only [List.length_drop] at hj
  have := strip_all (k := k) (n := 12) (i := stripN k 12 + j) (by omega) (by omega)
  rw [← e]
  simpa [show stripN k 12 + j < k.length by omega] using this
theorem pt_facts {k : BL} (h : ckK k = true) : (ptR k).1 = k ∧ ckR (ptR k) = true ∧ (∀ o, o.length ≤ 12 → bl o k = false → ((ptR k).2 == [] || bl o (ptR k).2) = true → o = k) ∧ ((ptR k).2 == [] || bl k (ptR k).2) = true := by
  obtain ⟨h1, h2⟩ := ckK_len h
  by_cases h4 : k.length < 12
  · have e : ptR k = (k, k ++ [0]) := by unfold ptR; rw [if_pos h4]
    rw [e]
    have h5 : bl k (k ++ [0]) = true := by rw [bl_zero]; simp
    refine ⟨rfl, ?_, ?_, ?_⟩
    · unfold ckR
      simp [h5]
      omega
    · intro o ho g1 g2
      have : (k ++ [0] == []) = false := by simp
      simp only [this, Bool.false_or] at g2
      rw [bl_zero, g1] at g2
      simpa using g2
    · simp only [h5, Bool.or_true]
  · have h6 : k.length = 12 := by omega
    have e : ptR k = match stripN k 12 with
      | 0 => (k, [])
      | n + 1 => (k, k.take n ++ [k.getD n 0 + 1]) := by unfold ptR; rw [if_neg h4] <;> cases stripN k 12 <;> rfl
    have hd := strip_drop h6
    have hne := fun m => strip_ne (k := k) (m := m) (n := 12)
    have hle := strip_le (k := k) 12
    rw [e]
    generalize stripN k 12 = n at hd hne hle
    cases n with
    | zero =>
      refine ⟨rfl, ?_, ?_, rfl⟩
      · unfold ckR; simp; omega
      · intro o ho g1 _
        exact top_eq (by simpa using hd) g1 (by omega)
    | succ n =>
      have hx := hne n rfl
      have hk : k = k.take n ++ k.getD n 0 :: k.drop (n + 1) := by
        have hn : n < k.length := by omega
        have : k.getD n 0 = k[n] := by simp [hn]
        rw [this, List.getElem_cons_drop, List.take_append_drop]
      have g5 : bl k (k.take n ++ [k.getD n 0 + 1]) = true := by
        have := above hx (u := k.take n) (v := k.drop (n + 1))
        rw [← hk] at this
        exact this
      refine ⟨rfl, ?_, ?_, ?_⟩
      · unfold ckR
        simp only [g5]
        simp
        omega
      · intro o ho g1 g2
        have e0 : (k.take n ++ [k.getD n 0 + 1] == []) = false := by simp
        simp only [e0, Bool.false_or] at g2
        have := between hx hd (u := k.take n) (o := o) (by rw [← hk]; exact g1) g2 (by rw [← hk]; omega)
        rw [← hk] at this
        exact this
      · simp only [g5, Bool.or_true]

end Go.Proofs.Ytamaapapaiopiaa.Ab

/- Compared strings: known by the kit's walk. -/
namespace Go.Proofs.Ytamaapapaiopiaa.Ab
open Go Go.RowKit Go.Lib

theorem libOk_direct {P : Program} (hprog : progW P = true) {l : List (FuncId × Sum)} (hl : LibOk P (libL l)) {f : FuncId} {g : Sum} (hok : funcOk P f = true)
    (hg : LibOk P (libL l) → ∀ args s v s', g args s = some (v, s') → ∀ wb ι w (args' : Array Value), Sim wb ι s.heap w → All2 (VRel ι) args args'.toList → Calls P f args' w fun e w' => ∃ v', e = .returned v' ∧ After wb ι s.heap w s'.heap v v' w') : LibOk P (libL ((f, g) :: l)) := by
  intro f' g' hf' args s v s' h wb ι w args' hs ha
  simp only [libL] at hf'
  split at hf'
  · rename_i hff
    cases hf'
    subst hff
    exact hg hl args s v s' h wb ι w args' hs ha
  · exact hl f' g' hf' args s v s' h wb ι w args' hs ha

/-! ### Strings compared -/
def cmpL (a b : BL) : Int := if a == b then 0 else if bl a b then -1 else 1
theorem cmp_eq : ∀ (a b : BL), Lib.compareBytes a b = cmpL a b
  | [], [] => rfl
  | [], _ :: _ => rfl
  | _ :: _, [] => rfl
  | x :: a, y :: b => by
    have ih := cmp_eq a b
    unfold Lib.compareBytes
    unfold cmpL at ih ⊢
    by_cases h1 : x < y
    · have h2 : x ≠ y := fun e => by subst e; exact absurd h1 (by simp)
      have h3 : bl (x :: a) (y :: b) = true := bl_cons.2 (.inl (UInt8.lt_iff_toNat_lt.1 h1))
      simp [h1, h2, h3]
    · by_cases h4 : y < x
      · have h2 : x ≠ y := fun e => by subst e; exact absurd h4 (by simp)
        have h3 : bl (x :: a) (y :: b) = false := bl_asymm (bl_cons.2 (.inl (UInt8.lt_iff_toNat_lt.1 h4)))
        have h5 : Op.bytesLess (x :: a) (y :: b) = false := h3
        simp [h1, h4, h2, h5]
      · have e : x = y := by
          apply UInt8.toNat_inj.1
          rw [UInt8.lt_iff_toNat_lt] at h1 h4
          omega
        subst e
        have h3 : bl (x :: a) (x :: b) = bl a b := by
          cases h : bl a b with
          | true => exact bl_cons.2 (.inr ⟨rfl, h⟩)
          | false =>
            cases g : bl (x :: a) (x :: b) with
            | false => rfl
            | true =>
              rcases bl_cons.1 g with g | ⟨_, g⟩
              · omega
              · rw [h] at g; cases g
        simp only [h1, if_false, ih, h3]
        simp
set_option maxHeartbeats 1000000 in
set_option maxRecDepth 100000 in
theorem CompareString_calls (a b : ByteArray) (w : World) :
    Calls Try.prog 104 #[.string a, .string b] w fun e w' => e = .returned (.int .i64 (Lib.compareBytes a.data.toList b.data.toList)) ∧ w' = w := by
  go_enter Try.func104, Try.ntmps104
  go_wp2
  rw [run_callFunc_extern Try.func106 (by kernel_rfl) (by kernel_rfl) (by kernel_rfl) (e := Extern.BytealgCompare.compare) (by kernel_rfl), Lib.run_compareString]
  simp only [Result.andThen]
  rw [Oper.upon_value]
  go_wp2
  go_ret
  exact ⟨rfl, rfl⟩
theorem two_args {R : Value → Value → Prop} {x y : Value} {l : List Value} (h : All2 R [x, y] l) : ∃ x' y', l = [x', y'] ∧ R x x' ∧ R y y' := by
  match l, h with
  | [x', y'], h => exact ⟨x', y', rfl, h.1, h.2.1⟩
def gCmp : Sum := gP (G2KK fun a b => .int .i64 (cmpL a b))
theorem cmp_known {l : List (FuncId × Sum)} (_ : LibOk Try.prog (libL l)) : ∀ args s v s', gCmp args s = some (v, s') → ∀ wb ι w (args' : Array Value), Sim wb ι s.heap w → All2 (VRel ι) args args'.toList → Calls Try.prog 104 args' w fun e w' => ∃ v', e = .returned v' ∧ After wb ι s.heap w s'.heap v v' w' := by
  intro args s v s' h wb ι w args' hs ha
  unfold gCmp gP G2KK at h
  simp only [Option.map_eq_some_iff] at h
  obtain ⟨u, h, e⟩ := h
  cases e
  split at h
  case h_2 => cases h
  rename_i x y
  simp only [Option.bind_eq_some_iff, Option.map_eq_some_iff] at h
  obtain ⟨a, h1, b, h2, rfl⟩ := h
  obtain ⟨l⟩ := args'
  obtain ⟨x', y', rfl, hx, hy⟩ := two_args ha
  rw [asBl_some h1] at hx
  rw [asBl_some h2] at hy
  have ex := hx.inv_string
  have ey := hy.inv_string
  subst ex
  subst ey
  refine (CompareString_calls ⟨a.toArray⟩ ⟨b.toArray⟩ w).mono ?_
  rintro e w' ⟨rfl, rfl⟩
  refine ⟨_, rfl, ?_⟩
  have := cmp_eq a b
  rw [show (⟨a.toArray⟩ : ByteArray).data.toList = a from rfl, show (⟨b.toArray⟩ : ByteArray).data.toList = b from rfl, this]
  exact after_same hs (.of0 (.int _ _))

theorem cmp_lt {a b : BL} : decide (cmpL a b < 0) = bl a b := by
  unfold cmpL
  by_cases h : a = b
  · subst h; simp [bl_irrefl]
  · have : (a == b) = false := by simp [h]
    rw [this]
    cases bl a b <;> rfl
theorem cmp_0 {a b : BL} : (cmpL a b == 0) = (a == b) := by
  unfold cmpL
  by_cases h : a = b
  · subst h; simp
  · have : (a == b) = false := by simp [h]
    rw [this]
    cases bl a b <;> rfl
theorem Compare_run {R : Caller} (hC : ∀ a b s, R 104 [sv a, sv b] s = some (.int .i64 (cmpL a b), s)) (a b : BL) (s : St) : strings_Compare R (sv a) (sv b) s = some (.int .i64 (cmpL a b), s) := by
  unfold strings_Compare
  simp only [internal_bytealg_CompareString_call, hC, n_bind, n_map, getL_0, getL_1, getL_2, getL_3, getL_4, getL_5, getL_6, getL_7, getL_8, getL_9, getL_10, getL_11, getL_12, condV_t, condV_f, guardV_tt, guardV_ff, guardV_tf, guardV_ft, guardV_u, apick_t, apick_f, exV_exit, exV_ret, lookE_same, joinK_eq, seqA_n, seqA_e, seqA_r, e_add, e_sub, e_mul, e_eql, e_neq, e_lss, e_leq, e_gtr, e_geq, e_conv, e_not, e_neg, and_guard, or_guard, retV]
  rfl

end Go.Proofs.Ytamaapapaiopiaa.Ab
