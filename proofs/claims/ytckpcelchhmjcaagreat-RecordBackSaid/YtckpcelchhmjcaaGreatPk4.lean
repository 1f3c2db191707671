/- Texts of this proof, packed: Sh, SpAll, StrCmp, BIns. -/
import Derived.Test.YtckpcelchhmjcaaGreatPk3
import Derived.Lib.Strings
import Derived.Lib.Bytealg
import Derived.Lib.Overlaps
import Derived.Lib.AppendZerosOnto
import Derived.Deep.DeepAppendWide
set_option linter.unusedVariables false
set_option linter.unusedSimpArgs false
set_option linter.unusedSectionVars false
/- The program's functions, as the abstract machine runs them: printed. -/
namespace Go.Proofs.YtckpcelchhmjcaaGreat.Ab
open Go
set_option maxRecDepth 100000

def hints : Hints := fun f => hintL f [(2, []), (3, [(2, 101), (3, 102)]), (4, [(3, 142), (4, 143), (10, 144), (14, 145), (16, 146), (18, 147)]), (5, [(4, 110), (5, 111), (15, 112), (17, 113), (20, 114), (22, 115)]), (6, [(6, 79), (8, 80), (10, 81), (58, 79), (67, 80)]), (7, [(1, 78), (15, 78), (18, 78), (20, 78), (22, 78), (24, 78), (29, 78), (35, 78), (41, 78), (47, 78), (49, 78), (54, 78), (58, 78), (59, 78), (61, 78), (62, 78), (64, 78), (65, 78), (70, 78), (71, 78)]), (8, [(1, 139), (7, 140), (9, 141), (16, 139), (19, 139), (21, 139), (23, 139), (25, 139), (30, 139), (33, 139), (39, 139), (47, 140), (49, 140), (55, 140), (63, 141), (69, 141), (72, 141), (75, 141), (78, 141), (82, 141), (90, 139), (97, 139), (101, 139), (103, 139), (108, 139), (109, 139), (112, 139), (113, 139), (117, 139), (118, 139), (120, 139), (121, 139), (123, 139), (124, 139), (129, 139), (130, 139), (131, 139), (134, 139), (135, 139), (136, 139)]), (9, [(1, 48), (15, 48), (18, 48), (20, 48), (22, 48), (27, 48), (33, 48), (39, 48)]), (10, [(1, 105), (7, 106), (11, 107), (18, 105), (21, 105), (23, 105), (25, 105), (30, 105), (33, 105), (39, 105), (47, 106), (49, 106), (52, 106), (54, 106), (56, 106), (62, 106), (77, 105), (83, 105), (91, 107), (94, 107), (96, 107), (100, 107)]), (11, []), (12, [(1, 161), (5, 162), (10, 161), (14, 161), (19, 161), (25, 161), (31, 161), (34, 161), (41, 161), (42, 161), (48, 161), (49, 161), (53, 161), (60, 161), (66, 161), (70, 161), (76, 161), (89, 161), (96, 162), (102, 162), (108, 162), (114, 162), (119, 161), (129, 162), (135, 161), (148, 161)]), (13, []), (14, [(1, 187), (5, 188), (7, 189), (11, 190), (12, 187), (16, 187), (21, 187), (26, 187), (32, 187), (38, 187), (43, 187), (52, 188), (54, 187), (59, 187), (72, 187), (79, 189), (85, 189), (87, 187), (94, 189), (99, 189), (104, 189), (109, 189), (124, 187), (132, 189), (144, 187), (157, 187), (164, 190), (170, 190), (175, 190), (180, 190)]), (15, [(2, 18)]), (16, [(2, 148), (3, 149), (7, 148), (9, 149), (13, 148), (15, 149), (20, 148), (22, 149), (27, 148), (29, 149), (34, 148), (36, 149), (41, 148), (43, 149), (49, 148), (52, 149), (58, 148), (61, 149), (67, 148), (69, 149), (74, 148), (76, 149), (81, 148), (83, 149), (88, 148), (90, 149), (94, 148), (100, 148), (106, 149), (114, 148), (120, 149), (130, 148), (136, 148), (141, 149)]), (17, [(2, 18)]), (18, [(2, 172), (3, 173), (6, 174), (7, 175), (10, 176), (11, 177), (12, 172), (14, 173), (18, 172), (20, 173), (25, 172), (27, 173), (32, 172), (34, 173), (39, 172), (41, 173), (47, 172), (50, 173), (56, 172), (59, 173), (64, 172), (72, 173), (77, 174), (79, 175), (83, 174), (85, 175), (90, 174), (92, 175), (97, 174), (99, 175), (104, 174), (107, 175), (112, 174), (118, 174), (123, 175), (131, 172), (139, 173), (144, 176), (146, 177), (150, 176), (152, 177), (157, 176), (159, 177), (164, 176), (166, 177)]), (19, []), (20, []), (21, [(3, 12), (5, 12), (9, 12)]), (22, []), (23, [(3, 14), (5, 14), (9, 14)]), (24, []), (25, []), (26, [(3, 12), (5, 12), (9, 12)]), (27, []), (28, [(6, 30), (20, 30), (23, 30)]), (29, []), (30, []), (31, [(3, 22), (5, 22), (7, 22), (10, 22), (12, 22), (17, 22)]), (32, []), (33, [(3, 20), (5, 20), (8, 20), (10, 20), (15, 20)]), (34, [(6, 52), (8, 53), (22, 52), (25, 52), (29, 52), (35, 52), (43, 53), (46, 53)]), (35, [(4, 57), (27, 57), (31, 57), (39, 57), (50, 57)]), (36, [(1, 28), (8, 28), (13, 28), (18, 28), (22, 28), (24, 28)]), (37, [(2, 26), (4, 26), (9, 26), (17, 26), (22, 26)]), (38, []), (39, []), (40, [(1, 6)]), (41, [(1, 83), (3, 84), (6, 83), (14, 84), (18, 83), (22, 84), (26, 83), (30, 84), (39, 84), (43, 83), (48, 84), (51, 83), (57, 83), (62, 84), (71, 84), (74, 83), (78, 83)]), (42, []), (43, []), (44, []), (45, [(1, 5), (3, 5)]), (46, []), (47, []), (48, [(4, 57), (27, 57), (31, 57), (39, 57), (50, 57)]), (49, [(1, 25), (3, 25), (8, 25), (14, 25), (18, 25), (20, 25)]), (50, [(4, 18)]), (51, []), (52, []), (53, [(2, 8), (5, 8)]), (54, []), (55, [(3, 36), (5, 36), (13, 36), (19, 36), (25, 36), (31, 36)]), (56, []), (57, []), (58, []), (59, []), (60, []), (61, [(1, 13), (3, 13), (8, 13)]), (62, []), (63, []), (64, [(1, 5), (3, 5)]), (65, []), (66, [(1, 6), (3, 6)]), (67, [(6, 48), (8, 49), (19, 48), (24, 48), (29, 48), (36, 49), (41, 49)]), (68, []), (69, []), (70, []), (71, []), (72, []), (73, [(2, 10)]), (74, []), (75, [(2, 12)]), (76, []), (77, []), (78, [(2, 10)]), (79, []), (80, []), (81, []), (82, []), (83, [(2, 21)]), (84, []), (85, [(2, 18)]), (86, []), (87, []), (88, []), (89, [(7, 18)]), (90, []), (91, [(7, 18)]), (92, []), (93, [(3, 32), (7, 32), (10, 32), (12, 32), (14, 32), (16, 32), (29, 32)]), (94, []), (95, []), (96, []), (97, [(7, 18)]), (98, []), (99, [(7, 18)]), (100, []), (101, [(3, 18), (5, 18), (9, 18), (13, 18)]), (102, []), (103, []), (104, [(0, 2)]), (105, []), (106, []), (107, [(2, 14)]), (108, [(1, 8), (2, 9), (3, 8), (5, 8)]), (109, []), (110, []), (111, [(1, 107), (5, 107), (9, 107), (14, 107), (18, 107), (22, 107), (35, 107), (39, 107), (48, 107), (54, 107), (58, 107), (64, 107), (68, 107), (75, 107), (80, 107), (86, 107), (88, 107), (94, 107), (98, 107), (102, 107)]), (112, []), (113, []), (114, []), (115, []), (116, [(1, 13), (3, 13), (8, 13)]), (117, []), (118, [(2, 20), (4, 20), (9, 20), (15, 20)]), (119, []), (120, []), (121, []), (122, []), (123, []), (124, [(2, 28)]), (125, []), (126, []), (127, []), (128, [(2, 16), (3, 17), (8, 17), (9, 17), (14, 17)]), (129, []), (130, []), (131, [(7, 18)]), (132, []), (133, [(7, 18)]), (134, []), (135, []), (136, [(3, 12), (5, 12), (9, 12)]), (137, [(0, 7)]), (138, []), (139, []), (140, []), (141, []), (142, []), (143, [(2, 10)]), (144, [(7, 18)]), (145, [(3, 26), (5, 27), (10, 26)]), (146, [(3, 35), (5, 36), (10, 35), (19, 35), (21, 35), (29, 35)]), (147, [(3, 23), (5, 24), (10, 23)]), (148, [(3, 27), (5, 28), (20, 27)]), (149, [(3, 20), (5, 21)]), (150, []), (151, []), (152, []), (153, [(3, 30), (11, 30), (18, 30), (23, 30)]), (154, []), (155, []), (156, [(2, 9), (5, 9)]), (157, []), (159, []), (160, []), (161, []), (163, [])]

noncomputable def law19_RecordBack.j0 (R : Caller) (T : List Value) (s : St) : Option (Value × St) :=
(callV Tryz.prog R (.func (.func 15) #[] #[]) [(getL T 0)] s).bind fun r57 =>
(aextract 0 r57.1).bind fun v58 =>
(aextract 1 r57.1).bind fun v59 =>
(lstore 17 lptr v58 (.agg #[(.int .i64 0), (.int .u64 0), (.int .u64 0), (.int .u64 0), (.int .u64 0), (.slice none 0 0), (.slice none 0 0), (.slice none 0 0), (.int .u64 0), (.int .u64 0), (.string ⟨#[]⟩), (.string ⟨#[]⟩), (.int .u64 0), (.int .u64 0), (.int .u64 0), (.string ⟨#[]⟩), (.string ⟨#[]⟩)])).bind fun v60 =>
(callV Tryz.prog R (.func (.func 17) #[] #[]) [(getL T 0)] r57.2).bind fun r61 =>
(aextract 0 r61.1).bind fun v62 =>
(aextract 1 r61.1).bind fun v63 =>
(lstore 7 lptr v62 (.agg #[(.int .i64 0), (.int .u64 0), (.int .u64 0), (.int .u64 0), (.slice none 0 0), (.slice none 0 0), (.slice none 0 0)])).bind fun v64 =>
(abin Tryz.prog .eql 38 (.tmp 99) (.const (.int .i64 0)) v59 (.int .i64 0)).bind fun v65 =>
condV v65
 ((lload true 17 lptr v60).bind fun v66 =>
(callV Tryz.prog R (.func (.func 7) #[] #[]) [v66] r61.2).bind fun r67 =>
(aextract 0 r67.1).bind fun v68 =>
(aextract 1 r67.1).bind fun v69 =>
(guardV (getL T 1) true ((abin Tryz.prog .eql 38 (.tmp 108) (.const (.int .i64 0)) v69 (.int .i64 0)).bind fun v70 =>
some ([v70], r67.2)) (some ([undef], r67.2))).bind fun q71 =>
(apick (getL T 1) (getL q71.1 0) (.bool false)).bind fun v72 =>
(guardV v72 true ((abytesToStr v68 q71.2).bind fun v73 =>
(abytesToStr (getL T 0) q71.2).bind fun v74 =>
(abin Tryz.prog .eql 9 (.tmp 113) (.tmp 115) v73 v74).bind fun v75 =>
some ([v75], q71.2)) (some ([undef], q71.2))).bind fun q76 =>
(apick v72 (getL q76.1 0) (.bool false)).bind fun v77 =>
(guardV v77 true ((abin Tryz.prog .neq 38 (.tmp 119) (.const (.int .i64 0)) v63 (.int .i64 0)).bind fun v78 =>
some ([v78], q76.2)) (some ([undef], q76.2))).bind fun q79 =>
(apick v77 (getL q79.1 0) (.bool false)).bind fun v80 =>
retV [v80] q79.2)
 ((abin Tryz.prog .eql 38 (.tmp 122) (.const (.int .i64 0)) v63 (.int .i64 0)).bind fun v81 =>
condV v81
 ((lload true 7 lptr v64).bind fun v82 =>
(callV Tryz.prog R (.func (.func 9) #[] #[]) [v82] r61.2).bind fun r83 =>
(aextract 0 r83.1).bind fun v84 =>
(aextract 1 r83.1).bind fun v85 =>
(guardV (getL T 1) true ((abin Tryz.prog .eql 38 (.tmp 131) (.const (.int .i64 0)) v85 (.int .i64 0)).bind fun v86 =>
some ([v86], r83.2)) (some ([undef], r83.2))).bind fun q87 =>
(apick (getL T 1) (getL q87.1 0) (.bool false)).bind fun v88 =>
(guardV v88 true ((abytesToStr v84 q87.2).bind fun v89 =>
(abytesToStr (getL T 0) q87.2).bind fun v90 =>
(abin Tryz.prog .eql 9 (.tmp 136) (.tmp 138) v89 v90).bind fun v91 =>
some ([v91], q87.2)) (some ([undef], q87.2))).bind fun q92 =>
(apick v88 (getL q92.1 0) (.bool false)).bind fun v93 =>
retV [v93] q92.2)
 (retV [(getL T 1)] r61.2))

noncomputable def law19_RecordBack.j1 (R : Caller) (T : List Value) (s : St) : Option (Value × St) :=
(lload true 7 (getL T 1) (getL T 3)).bind fun v31 =>
(callV Tryz.prog R (.func (.func 9) #[] #[]) [v31] s).bind fun r32 =>
(aextract 0 r32.1).bind fun v33 =>
(aextract 1 r32.1).bind fun v34 =>
(lload true 7 (getL T 1) (getL T 3)).bind fun v36 =>
(callV Tryz.prog R (.func (.func 13) #[] #[]) [v36] r32.2).bind fun r37 =>
(abin Tryz.prog .eql 38 (.tmp 65) (.const (.int .i64 0)) r37.1 (.int .i64 0)).bind fun v38 =>
condV v38
 ((callV Tryz.prog R (.func (.func 17) #[] #[]) [v33] r37.2).bind fun r39 =>
(aextract 0 r39.1).bind fun v40 =>
(aextract 1 r39.1).bind fun v41 =>
(lstore 7 lptr v40 (.agg #[(.int .i64 0), (.int .u64 0), (.int .u64 0), (.int .u64 0), (.slice none 0 0), (.slice none 0 0), (.slice none 0 0)])).bind fun v42 =>
(abin Tryz.prog .neq 38 (.tmp 72) (.const (.int .i64 0)) v34 (.int .i64 0)).bind fun v43 =>
(guardV v43 false ((abin Tryz.prog .neq 38 (.tmp 75) (.const (.int .i64 0)) v41 (.int .i64 0)).bind fun v44 =>
some ([v44], r39.2)) (some ([undef], r39.2))).bind fun q45 =>
(apick v43 (.bool true) (getL q45.1 0)).bind fun v46 =>
(guardV v46 false ((lload true 7 (getL T 1) (getL T 3)).bind fun v47 =>
(lload true 7 lptr v42).bind fun v48 =>
(callV Tryz.prog R (.func (.func 18) #[] #[]) [v47, v48] q45.2).bind fun r49 =>
(aun .not r49.1).bind fun v50 =>
some ([v50], r49.2)) (some ([undef], q45.2))).bind fun q51 =>
(apick v46 (.bool true) (getL q51.1 0)).bind fun v52 =>
(guardV v52 false ((alenV (.slice 5) v33 q51.2).bind fun v53 =>
(abin Tryz.prog .gtr 3 (.tmp 86) (.const (.int .i64 8192)) v53 (.int .i64 8192)).bind fun v54 =>
some ([v54], q51.2)) (some ([undef], q51.2))).bind fun q55 =>
(apick v52 (.bool true) (getL q55.1 0)).bind fun v56 =>
condV v56
 (retV [(.bool false)] q55.2)
 (joinK (law19_RecordBack.j0 R) [(getL T 0), (getL T 2)] q55.2))
 (joinK (law19_RecordBack.j0 R) [(getL T 0), (getL T 2)] r37.2)

noncomputable def law19_RecordBack (R : Caller) (x0 x1 x2 : Value) (s : St) : Option (Value × St) :=
(lbox x0).bind fun v0 =>
(lbox x1).bind fun v1 =>
(callV Tryz.prog R (.func (.func 6) #[] #[]) [] s).bind fun r2 =>
(alenV (.slice 5) x2 r2.2).bind fun v3 =>
(abin Tryz.prog .gtr 3 (.tmp 26) (.const (.int .i64 100000)) v3 (.int .i64 100000)).bind fun v4 =>
condV v4
 (retV [r2.1] r2.2)
 ((lload true 17 lptr v0).bind fun v5 =>
(callV Tryz.prog R (.func (.func 7) #[] #[]) [v5] r2.2).bind fun r6 =>
(aextract 0 r6.1).bind fun v7 =>
(aextract 1 r6.1).bind fun v8 =>
(lload true 17 lptr v0).bind fun v10 =>
(callV Tryz.prog R (.func (.func 11) #[] #[]) [v10] r6.2).bind fun r11 =>
(abin Tryz.prog .eql 38 (.tmp 35) (.const (.int .i64 0)) r11.1 (.int .i64 0)).bind fun v12 =>
condV v12
 ((callV Tryz.prog R (.func (.func 15) #[] #[]) [v7] r11.2).bind fun r13 =>
(aextract 0 r13.1).bind fun v14 =>
(aextract 1 r13.1).bind fun v15 =>
(lstore 17 lptr v14 (.agg #[(.int .i64 0), (.int .u64 0), (.int .u64 0), (.int .u64 0), (.int .u64 0), (.slice none 0 0), (.slice none 0 0), (.slice none 0 0), (.int .u64 0), (.int .u64 0), (.string ⟨#[]⟩), (.string ⟨#[]⟩), (.int .u64 0), (.int .u64 0), (.int .u64 0), (.string ⟨#[]⟩), (.string ⟨#[]⟩)])).bind fun v16 =>
(abin Tryz.prog .neq 38 (.tmp 42) (.const (.int .i64 0)) v8 (.int .i64 0)).bind fun v17 =>
(guardV v17 false ((abin Tryz.prog .neq 38 (.tmp 45) (.const (.int .i64 0)) v15 (.int .i64 0)).bind fun v18 =>
some ([v18], r13.2)) (some ([undef], r13.2))).bind fun q19 =>
(apick v17 (.bool true) (getL q19.1 0)).bind fun v20 =>
(guardV v20 false ((lload true 17 lptr v0).bind fun v21 =>
(lload true 17 lptr v16).bind fun v22 =>
(callV Tryz.prog R (.func (.func 16) #[] #[]) [v21, v22] q19.2).bind fun r23 =>
(aun .not r23.1).bind fun v24 =>
some ([v24], r23.2)) (some ([undef], q19.2))).bind fun q25 =>
(apick v20 (.bool true) (getL q25.1 0)).bind fun v26 =>
(guardV v26 false ((alenV (.slice 5) v7 q25.2).bind fun v27 =>
(abin Tryz.prog .gtr 3 (.tmp 56) (.const (.int .i64 8192)) v27 (.int .i64 8192)).bind fun v28 =>
some ([v28], q25.2)) (some ([undef], q25.2))).bind fun q29 =>
(apick v26 (.bool true) (getL q29.1 0)).bind fun v30 =>
condV v30
 (retV [(.bool false)] q29.2)
 (joinK (law19_RecordBack.j1 R) [x2, lptr, r2.1, v1] q29.2))
 (joinK (law19_RecordBack.j1 R) [x2, lptr, r2.1, v1] r11.2))

theorem law19_RecordBack_of {lib : Lib} (hl : lib 4 = none) {x0 x1 x2 : Value} {s : St} {r : Value × St} (h : law19_RecordBack (run Tryz.prog lib hints) x0 x1 x2 s = some r) : run Tryz.prog lib hints 4 [x0, x1, x2] s = some r :=
  run_of hl Tryz.func4 (Eq.trans (by kernel_rfl) h)

theorem law19_RecordBack_ok : funcOk Tryz.prog 4 = true := by kernel_rfl
noncomputable def law19_RecordCuts.j0 (R : Caller) (T : List Value) (s : St) : Option (Value × St) :=
retV [(getL T 0)] s

noncomputable def law19_RecordCuts.j1 (R : Caller) (T : List Value) (s : St) : Option (Value × St) :=
(abin Tryz.prog .eql 38 (.tmp 72) (.const (.int .i64 0)) (getL T 4) (.int .i64 0)).bind fun v38 =>
condV v38
 ((alenV (.slice 5) (getL T 3) s).bind fun v39 =>
(abin Tryz.prog .eql 3 (.tmp 75) (.const (.int .i64 0)) v39 (.int .i64 0)).bind fun v40 =>
condV v40
 (retV [(.bool false)] s)
 ((alenV (.slice 5) (getL T 3) s).bind fun v41 =>
(abin Tryz.prog .rem 3 (.tmp 77) (.tmp 79) (getL T 0) v41).bind fun v42 =>
(alenV (.slice 5) (getL T 3) s).bind fun v43 =>
(abin Tryz.prog .add 3 (.tmp 80) (.tmp 82) v42 v43).bind fun v44 =>
(alenV (.slice 5) (getL T 3) s).bind fun v45 =>
(abin Tryz.prog .rem 3 (.tmp 83) (.tmp 85) v44 v45).bind fun v46 =>
(asliceV 1 (getL T 3) none (some v46) none).bind fun v47 =>
(callV Tryz.prog R (.func (.func 17) #[] #[]) [v47] s).bind fun r48 =>
(aextract 0 r48.1).bind fun v49 =>
(aextract 1 r48.1).bind fun v50 =>
(lstore 7 lptr v49 (.agg #[(.int .i64 0), (.int .u64 0), (.int .u64 0), (.int .u64 0), (.slice none 0 0), (.slice none 0 0), (.slice none 0 0)])).bind fun v51 =>
(aappend 1 1 (.slice none 0 0) (getL T 3) r48.2).bind fun r52 =>
(abuildSl 1 [(.int .u8 0)] 1 [(0, (getL T 1))] r52.2).bind fun r53 =>
(aappend 1 1 r52.1 r53.1 r53.2).bind fun r54 =>
(callV Tryz.prog R (.func (.func 17) #[] #[]) [r54.1] r54.2).bind fun r55 =>
(aextract 0 r55.1).bind fun v56 =>
(aextract 1 r55.1).bind fun v57 =>
(lstore 7 lptr v56 (.agg #[(.int .i64 0), (.int .u64 0), (.int .u64 0), (.int .u64 0), (.slice none 0 0), (.slice none 0 0), (.slice none 0 0)])).bind fun v58 =>
(abin Tryz.prog .neq 38 (.tmp 103) (.const (.int .i64 10)) v50 (.int .i64 10)).bind fun v59 =>
(guardV v59 false ((abin Tryz.prog .neq 38 (.tmp 106) (.const (.int .i64 11)) v57 (.int .i64 11)).bind fun v60 =>
some ([v60], r55.2)) (some ([undef], r55.2))).bind fun q61 =>
(apick v59 (.bool true) (getL q61.1 0)).bind fun v62 =>
condV v62
 (retV [(.bool false)] q61.2)
 (joinK (law19_RecordCuts.j0 R) [(getL T 2)] q61.2)))
 (joinK (law19_RecordCuts.j0 R) [(getL T 2)] s)

noncomputable def law19_RecordCuts (R : Caller) (x0 x1 x2 x3 : Value) (s : St) : Option (Value × St) :=
(lbox x0).bind fun v0 =>
(lbox x1).bind fun v1 =>
(callV Tryz.prog R (.func (.func 6) #[] #[]) [] s).bind fun r2 =>
(lload true 17 lptr v0).bind fun v3 =>
(callV Tryz.prog R (.func (.func 7) #[] #[]) [v3] r2.2).bind fun r4 =>
(aextract 0 r4.1).bind fun v5 =>
(aextract 1 r4.1).bind fun v6 =>
(lload true 7 lptr v1).bind fun v7 =>
(callV Tryz.prog R (.func (.func 9) #[] #[]) [v7] r4.2).bind fun r8 =>
(aextract 0 r8.1).bind fun v9 =>
(aextract 1 r8.1).bind fun v10 =>
(abin Tryz.prog .eql 38 (.tmp 35) (.const (.int .i64 0)) v6 (.int .i64 0)).bind fun v12 =>
condV v12
 ((alenV (.slice 5) v5 r8.2).bind fun v13 =>
(abin Tryz.prog .eql 3 (.tmp 38) (.const (.int .i64 0)) v13 (.int .i64 0)).bind fun v14 =>
condV v14
 (retV [(.bool false)] r8.2)
 ((alenV (.slice 5) v5 r8.2).bind fun v15 =>
(abin Tryz.prog .rem 3 (.tmp 40) (.tmp 42) x2 v15).bind fun v16 =>
(alenV (.slice 5) v5 r8.2).bind fun v17 =>
(abin Tryz.prog .add 3 (.tmp 43) (.tmp 45) v16 v17).bind fun v18 =>
(alenV (.slice 5) v5 r8.2).bind fun v19 =>
(abin Tryz.prog .rem 3 (.tmp 46) (.tmp 48) v18 v19).bind fun v20 =>
(asliceV 1 v5 none (some v20) none).bind fun v21 =>
(callV Tryz.prog R (.func (.func 15) #[] #[]) [v21] r8.2).bind fun r22 =>
(aextract 0 r22.1).bind fun v23 =>
(aextract 1 r22.1).bind fun v24 =>
(lstore 17 lptr v23 (.agg #[(.int .i64 0), (.int .u64 0), (.int .u64 0), (.int .u64 0), (.int .u64 0), (.slice none 0 0), (.slice none 0 0), (.slice none 0 0), (.int .u64 0), (.int .u64 0), (.string ⟨#[]⟩), (.string ⟨#[]⟩), (.int .u64 0), (.int .u64 0), (.int .u64 0), (.string ⟨#[]⟩), (.string ⟨#[]⟩)])).bind fun v25 =>
(aappend 1 1 (.slice none 0 0) v5 r22.2).bind fun r26 =>
(abuildSl 1 [(.int .u8 0)] 1 [(0, x3)] r26.2).bind fun r27 =>
(aappend 1 1 r26.1 r27.1 r27.2).bind fun r28 =>
(callV Tryz.prog R (.func (.func 15) #[] #[]) [r28.1] r28.2).bind fun r29 =>
(aextract 0 r29.1).bind fun v30 =>
(aextract 1 r29.1).bind fun v31 =>
(lstore 17 lptr v30 (.agg #[(.int .i64 0), (.int .u64 0), (.int .u64 0), (.int .u64 0), (.int .u64 0), (.slice none 0 0), (.slice none 0 0), (.slice none 0 0), (.int .u64 0), (.int .u64 0), (.string ⟨#[]⟩), (.string ⟨#[]⟩), (.int .u64 0), (.int .u64 0), (.int .u64 0), (.string ⟨#[]⟩), (.string ⟨#[]⟩)])).bind fun v32 =>
(abin Tryz.prog .neq 38 (.tmp 66) (.const (.int .i64 10)) v24 (.int .i64 10)).bind fun v33 =>
(guardV v33 false ((abin Tryz.prog .neq 38 (.tmp 69) (.const (.int .i64 11)) v31 (.int .i64 11)).bind fun v34 =>
some ([v34], r29.2)) (some ([undef], r29.2))).bind fun q35 =>
(apick v33 (.bool true) (getL q35.1 0)).bind fun v36 =>
condV v36
 (retV [(.bool false)] q35.2)
 (joinK (law19_RecordCuts.j1 R) [x2, x3, r2.1, v9, v10] q35.2)))
 (joinK (law19_RecordCuts.j1 R) [x2, x3, r2.1, v9, v10] r8.2)

theorem law19_live_ok : funcOk Tryz.prog 6 = true := by kernel_rfl
theorem law19_live_call {R : Caller} {xs : List Value} {s : St} : callV Tryz.prog R (.func (.func 6) #[] #[]) xs s = R 6 xs s := callV_eq law19_live_ok

noncomputable def record_EncodeShard (R : Caller) (x0 : Value) (s : St) : Option (Value × St) :=
(lbox x0).bind fun v0 =>
(lload true 17 lptr v0).bind fun v1 =>
(callV Tryz.prog R (.func (.func 11) #[] #[]) [v1] s).bind fun r2 =>
(abin Tryz.prog .neq 38 (.tmp 8) (.const (.int .i64 0)) r2.1 (.int .i64 0)).bind fun v3 =>
condV v3
 (retV [(.slice none 0 0), r2.1] r2.2)
 ((abuildSl 1 [(.int .u8 0)] 1 [(0, (.int .u8 83))] r2.2).bind fun r4 =>
(abuild Tryz.prog 57 [(0, r4.1)]).bind fun v5 =>
(anew (cellsV v5) r4.2).bind fun r6 =>
(lload false 1 lptr v0).bind fun v7 =>
(convInt .u64 v7).bind fun v8 =>
(lload false 1 (.pointer (some ⟨0, 1, none⟩)) v0).bind fun v9 =>
(lload false 1 (.pointer (some ⟨0, 2, none⟩)) v0).bind fun v10 =>
(lload false 1 (.pointer (some ⟨0, 3, none⟩)) v0).bind fun v11 =>
(lload false 1 (.pointer (some ⟨0, 4, none⟩)) v0).bind fun v12 =>
(abuildSl 1 [(.int .u64 0)] 5 [(0, v8), (1, v9), (2, v10), (3, v11), (4, v12)] r6.2).bind fun r13 =>
(callV Tryz.prog R (.func (.func 19) #[] #[]) [r6.1, r13.1] r13.2).bind fun r14 =>
(lload false 1 (.pointer (some ⟨0, 5, none⟩)) v0).bind fun v15 =>
(amkFunc 21 [r6.1] []).bind fun v16 =>
(callV Tryz.prog R (.func (.func 20) #[] #[]) [r6.1, v15, v16] r14.2).bind fun r17 =>
(lload false 1 (.pointer (some ⟨0, 6, none⟩)) v0).bind fun v18 =>
(amkFunc 23 [r6.1] []).bind fun v19 =>
(callV Tryz.prog R (.func (.func 22) #[] #[]) [r6.1, v18, v19] r17.2).bind fun r20 =>
(lload false 1 (.pointer (some ⟨0, 7, none⟩)) v0).bind fun v21 =>
(amkFunc 25 [r6.1] []).bind fun v22 =>
(callV Tryz.prog R (.func (.func 24) #[] #[]) [r6.1, v21, v22] r20.2).bind fun r23 =>
(lload false 1 (.pointer (some ⟨0, 8, none⟩)) v0).bind fun v24 =>
(lload false 1 (.pointer (some ⟨0, 9, none⟩)) v0).bind fun v25 =>
(abuildSl 1 [(.int .u64 0)] 2 [(0, v24), (1, v25)] r23.2).bind fun r26 =>
(callV Tryz.prog R (.func (.func 19) #[] #[]) [r6.1, r26.1] r26.2).bind fun r27 =>
(lload true 2 (.pointer (some ⟨0, 10, none⟩)) v0).bind fun v28 =>
(callV Tryz.prog R (.func (.func 26) #[] #[]) [r6.1, v28] r27.2).bind fun r29 =>
(lload false 1 (.pointer (some ⟨0, 12, none⟩)) v0).bind fun v30 =>
(lload false 1 (.pointer (some ⟨0, 13, none⟩)) v0).bind fun v31 =>
(lload false 1 (.pointer (some ⟨0, 14, none⟩)) v0).bind fun v32 =>
(abuildSl 1 [(.int .u64 0)] 3 [(0, v30), (1, v31), (2, v32)] r29.2).bind fun r33 =>
(callV Tryz.prog R (.func (.func 19) #[] #[]) [r6.1, r33.1] r33.2).bind fun r34 =>
(lload true 2 (.pointer (some ⟨0, 15, none⟩)) v0).bind fun v35 =>
(callV Tryz.prog R (.func (.func 26) #[] #[]) [r6.1, v35] r34.2).bind fun r36 =>
(anilCheck r6.1).bind fun v37 =>
(afieldAddr 0 v37).bind fun v38 =>
(aload false 1 v38 r36.2).bind fun v39 =>
retV [v39, (.int .i64 0)] r36.2)

theorem record_EncodeShard_of {lib : Lib} (hl : lib 7 = none) {x0 : Value} {s : St} {r : Value × St} (h : record_EncodeShard (run Tryz.prog lib hints) x0 s = some r) : run Tryz.prog lib hints 7 [x0] s = some r :=
  run_of hl Tryz.func7 (Eq.trans (by kernel_rfl) h)

theorem record_EncodeShard_ok : funcOk Tryz.prog 7 = true := by kernel_rfl
theorem record_EncodeShard_call {R : Caller} {xs : List Value} {s : St} : callV Tryz.prog R (.func (.func 7) #[] #[]) xs s = R 7 xs s := callV_eq record_EncodeShard_ok

noncomputable def record_EncodeCoord (R : Caller) (x0 : Value) (s : St) : Option (Value × St) :=
(lbox x0).bind fun v0 =>
(lload true 7 lptr v0).bind fun v1 =>
(callV Tryz.prog R (.func (.func 13) #[] #[]) [v1] s).bind fun r2 =>
(abin Tryz.prog .neq 38 (.tmp 8) (.const (.int .i64 0)) r2.1 (.int .i64 0)).bind fun v3 =>
condV v3
 (retV [(.slice none 0 0), r2.1] r2.2)
 ((abuildSl 1 [(.int .u8 0)] 1 [(0, (.int .u8 67))] r2.2).bind fun r4 =>
(abuild Tryz.prog 57 [(0, r4.1)]).bind fun v5 =>
(anew (cellsV v5) r4.2).bind fun r6 =>
(lload false 1 lptr v0).bind fun v7 =>
(convInt .u64 v7).bind fun v8 =>
(lload false 1 (.pointer (some ⟨0, 1, none⟩)) v0).bind fun v9 =>
(lload false 1 (.pointer (some ⟨0, 2, none⟩)) v0).bind fun v10 =>
(lload false 1 (.pointer (some ⟨0, 3, none⟩)) v0).bind fun v11 =>
(abuildSl 1 [(.int .u64 0)] 4 [(0, v8), (1, v9), (2, v10), (3, v11)] r6.2).bind fun r12 =>
(callV Tryz.prog R (.func (.func 19) #[] #[]) [r6.1, r12.1] r12.2).bind fun r13 =>
(lload false 1 (.pointer (some ⟨0, 4, none⟩)) v0).bind fun v14 =>
(amkFunc 21 [r6.1] []).bind fun v15 =>
(callV Tryz.prog R (.func (.func 20) #[] #[]) [r6.1, v14, v15] r13.2).bind fun r16 =>
(lload false 1 (.pointer (some ⟨0, 5, none⟩)) v0).bind fun v17 =>
(amkFunc 31 [r6.1] []).bind fun v18 =>
(callV Tryz.prog R (.func (.func 30) #[] #[]) [r6.1, v17, v18] r16.2).bind fun r19 =>
(lload false 1 (.pointer (some ⟨0, 6, none⟩)) v0).bind fun v20 =>
(amkFunc 33 [r6.1] []).bind fun v21 =>
(callV Tryz.prog R (.func (.func 32) #[] #[]) [r6.1, v20, v21] r19.2).bind fun r22 =>
(anilCheck r6.1).bind fun v23 =>
(afieldAddr 0 v23).bind fun v24 =>
(aload false 1 v24 r22.2).bind fun v25 =>
retV [v25, (.int .i64 0)] r22.2)

theorem record_EncodeCoord_of {lib : Lib} (hl : lib 9 = none) {x0 : Value} {s : St} {r : Value × St} (h : record_EncodeCoord (run Tryz.prog lib hints) x0 s = some r) : run Tryz.prog lib hints 9 [x0] s = some r :=
  run_of hl Tryz.func9 (Eq.trans (by kernel_rfl) h)

theorem record_EncodeCoord_ok : funcOk Tryz.prog 9 = true := by kernel_rfl
theorem record_EncodeCoord_call {R : Caller} {xs : List Value} {s : St} : callV Tryz.prog R (.func (.func 9) #[] #[]) xs s = R 9 xs s := callV_eq record_EncodeCoord_ok

noncomputable def record_CheckShard (R : Caller) (x0 : Value) (s : St) : Option (Value × St) :=
(anew (cellsV x0) s).bind fun r0 =>
(afieldAddr 0 r0.1).bind fun v1 =>
(aload false 1 v1 r0.2).bind fun v2 =>
(abin Tryz.prog .lss 3 (.tmp 5) (.const (.int .i64 1)) v2 (.int .i64 1)).bind fun v3 =>
(guardV v3 false ((afieldAddr 0 r0.1).bind fun v4 =>
(aload false 1 v4 r0.2).bind fun v5 =>
(abin Tryz.prog .gtr 3 (.tmp 9) (.const (.int .i64 4)) v5 (.int .i64 4)).bind fun v6 =>
some ([v6], r0.2)) (some ([undef], r0.2))).bind fun q7 =>
(apick v3 (.bool true) (getL q7.1 0)).bind fun v8 =>
(guardV v8 false ((afieldAddr 5 r0.1).bind fun v9 =>
(aload false 1 v9 q7.2).bind fun v10 =>
(callV Tryz.prog R (.func (.func 35) #[] #[]) [v10] q7.2).bind fun r11 =>
(abin Tryz.prog .neq 38 (.tmp 15) (.const (.int .i64 0)) r11.1 (.int .i64 0)).bind fun v12 =>
some ([v12], r11.2)) (some ([undef], q7.2))).bind fun q13 =>
(apick v8 (.bool true) (getL q13.1 0)).bind fun v14 =>
(guardV v14 false ((afieldAddr 6 r0.1).bind fun v15 =>
(aload false 1 v15 q13.2).bind fun v16 =>
(alenV (.slice 64) v16 q13.2).bind fun v17 =>
(abin Tryz.prog .gtr 3 (.tmp 21) (.const (.int .i64 6)) v17 (.int .i64 6)).bind fun v18 =>
some ([v18], q13.2)) (some ([undef], q13.2))).bind fun q19 =>
(apick v14 (.bool true) (getL q19.1 0)).bind fun v20 =>
(guardV v20 false ((afieldAddr 6 r0.1).bind fun v21 =>
(aload false 1 v21 q19.2).bind fun v22 =>
(alenV (.slice 64) v22 q19.2).bind fun v23 =>
(afieldAddr 7 r0.1).bind fun v24 =>
(aload false 1 v24 q19.2).bind fun v25 =>
(alenV (.slice 22) v25 q19.2).bind fun v26 =>
(abin Tryz.prog .add 3 (.tmp 27) (.tmp 30) v23 v26).bind fun v27 =>
(abin Tryz.prog .gtr 3 (.tmp 31) (.const (.int .i64 64)) v27 (.int .i64 64)).bind fun v28 =>
some ([v28], q19.2)) (some ([undef], q19.2))).bind fun q29 =>
(apick v20 (.bool true) (getL q29.1 0)).bind fun v30 =>
(guardV v30 false ((afieldAddr 12 r0.1).bind fun v31 =>
(afieldAddr 3 v31).bind fun v32 =>
(aload true 2 v32 q29.2).bind fun v33 =>
(callV Tryz.prog R (.func (.func 36) #[] #[]) [v33] q29.2).bind fun r34 =>
(abin Tryz.prog .neq 38 (.tmp 38) (.const (.int .i64 0)) r34.1 (.int .i64 0)).bind fun v35 =>
some ([v35], r34.2)) (some ([undef], q29.2))).bind fun q36 =>
(apick v30 (.bool true) (getL q36.1 0)).bind fun v37 =>
(guardV v37 false ((afieldAddr 10 r0.1).bind fun v38 =>
(aload true 2 v38 q36.2).bind fun v39 =>
(callV Tryz.prog R (.func (.func 36) #[] #[]) [v39] q36.2).bind fun r40 =>
(abin Tryz.prog .neq 38 (.tmp 44) (.const (.int .i64 0)) r40.1 (.int .i64 0)).bind fun v41 =>
some ([v41], r40.2)) (some ([undef], q36.2))).bind fun q42 =>
(apick v37 (.bool true) (getL q42.1 0)).bind fun v43 =>
condV v43
 (retV [(.int .i64 1)] q42.2)
 ((amkFunc 37 [] [r0.1]).bind fun v44 =>
(afieldAddr 12 r0.1).bind fun v45 =>
(afieldAddr 0 v45).bind fun v46 =>
(aload false 1 v46 q42.2).bind fun v47 =>
(abin Tryz.prog .neq 22 (.tmp 50) (.const (.int .u64 0)) v47 (.int .u64 0)).bind fun v48 =>
(guardV v48 false ((afieldAddr 12 r0.1).bind fun v49 =>
(aload true 5 v49 q42.2).bind fun v50 =>
(abin Tryz.prog .eql 29 (.tmp 54) (.tmp 55) v50 (.agg #[(.int .u64 0), (.int .u64 0), (.int .u64 0), (.string ⟨#[]⟩), (.string ⟨#[]⟩)])).bind fun v51 =>
some ([v51], q42.2)) (some ([undef], q42.2))).bind fun q52 =>
(apick v48 (.bool true) (getL q52.1 0)).bind fun v53 =>
(guardV v53 true ((afieldAddr 9 r0.1).bind fun v54 =>
(aload false 1 v54 q52.2).bind fun v55 =>
(abin Tryz.prog .neq 22 (.tmp 60) (.const (.int .u64 0)) v55 (.int .u64 0)).bind fun v56 =>
some ([v56], q52.2)) (some ([undef], q52.2))).bind fun q57 =>
(guardV (getL q57.1 0) false ((afieldAddr 10 r0.1).bind fun v58 =>
(aload true 2 v58 q57.2).bind fun v59 =>
(abin Tryz.prog .eql 27 (.tmp 64) (.tmp 65) v59 (.agg #[(.string ⟨#[]⟩), (.string ⟨#[]⟩)])).bind fun v60 =>
some ([v60], q57.2)) (some ([undef], q57.2))).bind fun q61 =>
(guardV v53 true ((apick (getL q57.1 0) (.bool true) (getL q61.1 0)).bind fun v62 =>
some ([v62], q61.2)) (some ([undef], q61.2))).bind fun q63 =>
(apick v53 (getL q63.1 0) (.bool false)).bind fun v64 =>
(guardV v64 true ((afieldAddr 6 r0.1).bind fun v65 =>
(aload false 1 v65 q63.2).bind fun v66 =>
(callV Tryz.prog R (.func (.func 43) #[] #[]) [v66, v44] q63.2).bind fun r67 =>
(aun .not r67.1).bind fun v68 =>
some ([v68], r67.2)) (some ([undef], q63.2))).bind fun q69 =>
(apick v64 (getL q69.1 0) (.bool false)).bind fun v70 =>
(guardV v70 true ((afieldAddr 6 r0.1).bind fun v71 =>
(aload false 1 v71 q69.2).bind fun v72 =>
(callV Tryz.prog R (.func (.func 44) #[] #[]) [v72, (.func (.func 45) #[] #[])] q69.2).bind fun r73 =>
some ([r73.1], r73.2)) (some ([undef], q69.2))).bind fun q74 =>
(apick v70 (getL q74.1 0) (.bool false)).bind fun v75 =>
(guardV v75 true ((afieldAddr 7 r0.1).bind fun v76 =>
(aload false 1 v76 q74.2).bind fun v77 =>
(callV Tryz.prog R (.func (.func 46) #[] #[]) [v77, (.func (.func 47) #[] #[])] q74.2).bind fun r78 =>
some ([r78.1], r78.2)) (some ([undef], q74.2))).bind fun q79 =>
(apick v75 (getL q79.1 0) (.bool false)).bind fun v80 =>
(callV Tryz.prog R (.func (.func 42) #[] #[]) [v80] q79.2).bind fun r81 =>
retV [r81.1] r81.2)

theorem record_CheckShard_of {lib : Lib} (hl : lib 11 = none) {x0 : Value} {s : St} {r : Value × St} (h : record_CheckShard (run Tryz.prog lib hints) x0 s = some r) : run Tryz.prog lib hints 11 [x0] s = some r :=
  run_of hl Tryz.func11 (Eq.trans (by kernel_rfl) h)

theorem record_CheckShard_ok : funcOk Tryz.prog 11 = true := by kernel_rfl
theorem record_CheckShard_call {R : Caller} {xs : List Value} {s : St} : callV Tryz.prog R (.func (.func 11) #[] #[]) xs s = R 11 xs s := callV_eq record_CheckShard_ok

noncomputable def record_CheckCoord (R : Caller) (x0 : Value) (s : St) : Option (Value × St) :=
(anew (cellsV x0) s).bind fun r0 =>
(afieldAddr 0 r0.1).bind fun v1 =>
(aload false 1 v1 r0.2).bind fun v2 =>
(abin Tryz.prog .lss 3 (.tmp 8) (.const (.int .i64 1)) v2 (.int .i64 1)).bind fun v3 =>
(guardV v3 false ((afieldAddr 0 r0.1).bind fun v4 =>
(aload false 1 v4 r0.2).bind fun v5 =>
(abin Tryz.prog .gtr 3 (.tmp 12) (.const (.int .i64 4)) v5 (.int .i64 4)).bind fun v6 =>
some ([v6], r0.2)) (some ([undef], r0.2))).bind fun q7 =>
(apick v3 (.bool true) (getL q7.1 0)).bind fun v8 =>
(guardV v8 false ((afieldAddr 1 r0.1).bind fun v9 =>
(aload false 1 v9 q7.2).bind fun v10 =>
(abin Tryz.prog .geq 22 (.tmp 17) (.const (.int .u64 2147483648)) v10 (.int .u64 2147483648)).bind fun v11 =>
some ([v11], q7.2)) (some ([undef], q7.2))).bind fun q12 =>
(apick v8 (.bool true) (getL q12.1 0)).bind fun v13 =>
(guardV v13 false ((afieldAddr 4 r0.1).bind fun v14 =>
(aload false 1 v14 q12.2).bind fun v15 =>
(callV Tryz.prog R (.func (.func 35) #[] #[]) [v15] q12.2).bind fun r16 =>
(abin Tryz.prog .neq 38 (.tmp 23) (.const (.int .i64 0)) r16.1 (.int .i64 0)).bind fun v17 =>
some ([v17], r16.2)) (some ([undef], q12.2))).bind fun q18 =>
(apick v13 (.bool true) (getL q18.1 0)).bind fun v19 =>
(guardV v19 false ((afieldAddr 5 r0.1).bind fun v20 =>
(aload false 1 v20 q18.2).bind fun v21 =>
(alenV (.slice 77) v21 q18.2).bind fun v22 =>
(abin Tryz.prog .gtr 3 (.tmp 29) (.const (.int .i64 8)) v22 (.int .i64 8)).bind fun v23 =>
some ([v23], q18.2)) (some ([undef], q18.2))).bind fun q24 =>
(apick v19 (.bool true) (getL q24.1 0)).bind fun v25 =>
(guardV v25 false ((afieldAddr 6 r0.1).bind fun v26 =>
(aload false 1 v26 q24.2).bind fun v27 =>
(alenV (.slice 82) v27 q24.2).bind fun v28 =>
(abin Tryz.prog .gtr 3 (.tmp 35) (.const (.int .i64 4)) v28 (.int .i64 4)).bind fun v29 =>
some ([v29], q24.2)) (some ([undef], q24.2))).bind fun q30 =>
(apick v25 (.bool true) (getL q30.1 0)).bind fun v31 =>
condV v31
 (retV [(.int .i64 1)] q30.2)
 ((amkFunc 51 [] [r0.1]).bind fun v32 =>
(anew [.nilFunc] q30.2).bind fun r33 =>
(astore 1 r33.1 v32 r33.2).bind fun s34 =>
(afieldAddr 4 r0.1).bind fun v35 =>
(aload false 1 v35 s34).bind fun v36 =>
(amkFunc 53 [] [r33.1]).bind fun v37 =>
(callV Tryz.prog R (.func (.func 52) #[] #[]) [v36, v37] s34).bind fun r38 =>
(afieldAddr 5 r0.1).bind fun v39 =>
(aload false 1 v39 r38.2).bind fun v40 =>
(amkFunc 55 [] [r0.1, r33.1]).bind fun v41 =>
(callV Tryz.prog R (.func (.func 54) #[] #[]) [v40, v41] r38.2).bind fun r42 =>
(afieldAddr 6 r0.1).bind fun v43 =>
(aload false 1 v43 r42.2).bind fun v44 =>
(callV Tryz.prog R (.func (.func 60) #[] #[]) [v44, (.func (.func 61) #[] #[])] r42.2).bind fun r45 =>
(aun .not r38.1).bind fun v46 =>
(guardV v46 true ((aun .not r42.1).bind fun v47 =>
some ([v47], r45.2)) (some ([undef], r45.2))).bind fun q48 =>
(apick v46 (getL q48.1 0) (.bool false)).bind fun v49 =>
(guardV v49 true ((aun .not r45.1).bind fun v50 =>
some ([v50], q48.2)) (some ([undef], q48.2))).bind fun q51 =>
(apick v49 (getL q51.1 0) (.bool false)).bind fun v52 =>
(guardV v52 true ((afieldAddr 5 r0.1).bind fun v53 =>
(aload false 1 v53 q51.2).bind fun v54 =>
(callV Tryz.prog R (.func (.func 63) #[] #[]) [v54, (.func (.func 64) #[] #[])] q51.2).bind fun r55 =>
some ([r55.1], r55.2)) (some ([undef], q51.2))).bind fun q56 =>
(apick v52 (getL q56.1 0) (.bool false)).bind fun v57 =>
(guardV v57 true ((afieldAddr 6 r0.1).bind fun v58 =>
(aload false 1 v58 q56.2).bind fun v59 =>
(callV Tryz.prog R (.func (.func 65) #[] #[]) [v59, (.func (.func 66) #[] #[])] q56.2).bind fun r60 =>
some ([r60.1], r60.2)) (some ([undef], q56.2))).bind fun q61 =>
(apick v57 (getL q61.1 0) (.bool false)).bind fun v62 =>
(callV Tryz.prog R (.func (.func 42) #[] #[]) [v62] q61.2).bind fun r63 =>
retV [r63.1] r63.2)

theorem record_CheckCoord_of {lib : Lib} (hl : lib 13 = none) {x0 : Value} {s : St} {r : Value × St} (h : record_CheckCoord (run Tryz.prog lib hints) x0 s = some r) : run Tryz.prog lib hints 13 [x0] s = some r :=
  run_of hl Tryz.func13 (Eq.trans (by kernel_rfl) h)

theorem record_CheckCoord_ok : funcOk Tryz.prog 13 = true := by kernel_rfl
theorem record_CheckCoord_call {R : Caller} {xs : List Value} {s : St} : callV Tryz.prog R (.func (.func 13) #[] #[]) xs s = R 13 xs s := callV_eq record_CheckCoord_ok

noncomputable def record_DecodeShard.j0 (R : Caller) (T : List Value) (s : St) : Option (Value × St) :=
(abin Tryz.prog .neq 38 (.tmp 13) (.const (.int .i64 0)) (getL T 2) (.int .i64 0)).bind fun v7 =>
condV v7
 ((lstore 17 (getL T 0) (.agg #[(.int .i64 0), (.int .u64 0), (.int .u64 0), (.int .u64 0), (.int .u64 0), (.slice none 0 0), (.slice none 0 0), (.slice none 0 0), (.int .u64 0), (.int .u64 0), (.string ⟨#[]⟩), (.string ⟨#[]⟩), (.int .u64 0), (.int .u64 0), (.int .u64 0), (.string ⟨#[]⟩), (.string ⟨#[]⟩)]) (getL T 3)).bind fun v8 =>
(lload true 17 (getL T 0) v8).bind fun v9 =>
retV [v9, (getL T 2)] s)
 ((aload true 17 (getL T 1) s).bind fun v10 =>
(lstore 17 (getL T 0) v10 (getL T 3)).bind fun v11 =>
(lload true 17 (getL T 0) v11).bind fun v12 =>
retV [v12, (.int .i64 0)] s)

noncomputable def record_DecodeShard (R : Caller) (x0 : Value) (s : St) : Option (Value × St) :=
(anew [(.int .i64 0), (.int .u64 0), (.int .u64 0), (.int .u64 0), (.int .u64 0), (.slice none 0 0), (.slice none 0 0), (.slice none 0 0), (.int .u64 0), (.int .u64 0), (.string ⟨#[]⟩), (.string ⟨#[]⟩), (.int .u64 0), (.int .u64 0), (.int .u64 0), (.string ⟨#[]⟩), (.string ⟨#[]⟩)] s).bind fun r0 =>
(amkFunc 69 [] [r0.1]).bind fun v1 =>
(callV Tryz.prog R (.func (.func 68) #[] #[]) [x0, (.int .u8 83), v1] r0.2).bind fun r2 =>
(abin Tryz.prog .eql 38 (.tmp 9) (.const (.int .i64 0)) r2.1 (.int .i64 0)).bind fun v4 =>
condV v4
 ((aload true 17 r0.1 r2.2).bind fun v5 =>
(callV Tryz.prog R (.func (.func 11) #[] #[]) [v5] r2.2).bind fun r6 =>
joinK (record_DecodeShard.j0 R) [lptr, r0.1, r6.1, (.agg #[(.int .i64 0), (.int .u64 0), (.int .u64 0), (.int .u64 0), (.int .u64 0), (.slice none 0 0), (.slice none 0 0), (.slice none 0 0), (.int .u64 0), (.int .u64 0), (.string ⟨#[]⟩), (.string ⟨#[]⟩), (.int .u64 0), (.int .u64 0), (.int .u64 0), (.string ⟨#[]⟩), (.string ⟨#[]⟩)])] r6.2)
 (joinK (record_DecodeShard.j0 R) [lptr, r0.1, r2.1, (.agg #[(.int .i64 0), (.int .u64 0), (.int .u64 0), (.int .u64 0), (.int .u64 0), (.slice none 0 0), (.slice none 0 0), (.slice none 0 0), (.int .u64 0), (.int .u64 0), (.string ⟨#[]⟩), (.string ⟨#[]⟩), (.int .u64 0), (.int .u64 0), (.int .u64 0), (.string ⟨#[]⟩), (.string ⟨#[]⟩)])] r2.2)

theorem record_DecodeShard_of {lib : Lib} (hl : lib 15 = none) {x0 : Value} {s : St} {r : Value × St} (h : record_DecodeShard (run Tryz.prog lib hints) x0 s = some r) : run Tryz.prog lib hints 15 [x0] s = some r :=
  run_of hl Tryz.func15 (Eq.trans (by kernel_rfl) h)

theorem record_DecodeShard_ok : funcOk Tryz.prog 15 = true := by kernel_rfl
theorem record_DecodeShard_call {R : Caller} {xs : List Value} {s : St} : callV Tryz.prog R (.func (.func 15) #[] #[]) xs s = R 15 xs s := callV_eq record_DecodeShard_ok

noncomputable def ref19_SameShard.b0 (R : Caller) (T : List Value) (s : St) : Res :=
(abin Tryz.prog .lss 3 (.tmp 97) (.tmp 96) (getL T 3) (getL T 2)).bind fun v67 =>
condV v67
 ((afieldAddr 6 (getL T 0)).bind fun v68 =>
(lload false 1 v68 (getL T 4)).bind fun v69 =>
(aindexS 2 v69 (getL T 3)).bind fun v70 =>
(afieldAddr 0 v70).bind fun v71 =>
((aload false 1 v71 (frzS s)).bind fun v108 =>
some (v108, (frzS s))).bind fun r72 =>
(afieldAddr 6 (getL T 1)).bind fun v73 =>
(lload false 1 v73 (getL T 5)).bind fun v74 =>
(aindexS 2 v74 (getL T 3)).bind fun v75 =>
(afieldAddr 0 v75).bind fun v76 =>
((aload false 1 v76 (frzS s)).bind fun v107 =>
some (v107, (frzS s))).bind fun r77 =>
(abin Tryz.prog .neq 22 (.tmp 105) (.tmp 111) r72.1 r77.1).bind fun v78 =>
(guardV v78 false ((afieldAddr 6 (getL T 0)).bind fun v79 =>
some ([v79], s)) (some ([undef], s))).bind fun q80 =>
(guardV v78 false ((lload false 1 (getL q80.1 0) (getL T 4)).bind fun v81 =>
some ([v81], q80.2)) (some ([undef], q80.2))).bind fun q82 =>
(guardV v78 false (some ([(getL T 3)], q82.2)) (some ([undef], q82.2))).bind fun q83 =>
(guardV v78 false ((aindexS 2 (getL q82.1 0) (getL q83.1 0)).bind fun v84 =>
some ([v84], q83.2)) (some ([undef], q83.2))).bind fun q85 =>
(guardV v78 false ((afieldAddr 1 (getL q85.1 0)).bind fun v86 =>
some ([v86], q85.2)) (some ([undef], q85.2))).bind fun q87 =>
(guardV v78 false ((aload false 1 (getL q87.1 0) (frzS q87.2)).bind fun v106 =>
some (v106, (frzS q87.2))) (some (undef, (frzS q87.2)))).bind fun r88 =>
(guardV v78 false ((afieldAddr 6 (getL T 1)).bind fun v89 =>
some ([v89], q87.2)) (some ([undef], q87.2))).bind fun q90 =>
(guardV v78 false ((lload false 1 (getL q90.1 0) (getL T 5)).bind fun v91 =>
some ([v91], q90.2)) (some ([undef], q90.2))).bind fun q92 =>
(guardV v78 false (some ([(getL T 3)], q92.2)) (some ([undef], q92.2))).bind fun q93 =>
(guardV v78 false ((aindexS 2 (getL q92.1 0) (getL q93.1 0)).bind fun v94 =>
some ([v94], q93.2)) (some ([undef], q93.2))).bind fun q95 =>
(guardV v78 false ((afieldAddr 1 (getL q95.1 0)).bind fun v96 =>
some ([v96], q95.2)) (some ([undef], q95.2))).bind fun q97 =>
(guardV v78 false ((aload false 1 (getL q97.1 0) (frzS q97.2)).bind fun v105 =>
some (v105, (frzS q97.2))) (some (undef, (frzS q97.2)))).bind fun r98 =>
((guardV v78 false ((callV Tryz.prog R (.func (.func 80) #[] #[]) [r88.1, r98.1] q97.2).bind fun r104 =>
some (r104.1, r104.2)) (some (undef, q97.2))).bind (ownR q97.2)).bind fun r99 =>
(guardV v78 false ((aun .not r99.1).bind fun v100 =>
some ([v100], r99.2)) (some ([undef], r99.2))).bind fun q101 =>
(apick v78 (.bool true) (getL q101.1 0)).bind fun v102 =>
condV v102
 (some (.ret, [(.bool false)], q101.2))
 ((abin Tryz.prog .add 3 (.tmp 97) (.const (.int .i64 1)) (getL T 3) (.int .i64 1)).bind fun v103 =>
some (.normal, [(getL T 0), (getL T 1), (getL T 2), v103, (getL T 4), (getL T 5)], q101.2)))
 (some (.exit 0, [(getL T 0), (getL T 1), (getL T 4), (getL T 5)], s))

noncomputable def ref19_SameShard.b1 (R : Caller) (T : List Value) (s : St) : Res :=
(abin Tryz.prog .lss 3 (.tmp 133) (.tmp 132) (getL T 3) (getL T 2)).bind fun v113 =>
condV v113
 ((afieldAddr 7 (getL T 0)).bind fun v114 =>
(lload false 1 v114 (getL T 4)).bind fun v115 =>
(aindexS 1 v115 (getL T 3)).bind fun v116 =>
((aload false 1 v116 (frzS s)).bind fun v125 =>
some (v125, (frzS s))).bind fun r117 =>
(afieldAddr 7 (getL T 1)).bind fun v118 =>
(lload false 1 v118 (getL T 5)).bind fun v119 =>
(aindexS 1 v119 (getL T 3)).bind fun v120 =>
((aload false 1 v120 (frzS s)).bind fun v124 =>
some (v124, (frzS s))).bind fun r121 =>
(abin Tryz.prog .neq 22 (.tmp 140) (.tmp 145) r117.1 r121.1).bind fun v122 =>
condV v122
 (some (.ret, [(.bool false)], s))
 ((abin Tryz.prog .add 3 (.tmp 133) (.const (.int .i64 1)) (getL T 3) (.int .i64 1)).bind fun v123 =>
some (.normal, [(getL T 0), (getL T 1), (getL T 2), v123, (getL T 4), (getL T 5)], s)))
 (some (.exit 2, [], s))

noncomputable def ref19_SameShard (R : Caller) (x0 x1 : Value) (s : St) : Option (Value × St) :=
(lbox x0).bind fun v0 =>
(lbox x1).bind fun v1 =>
(lload false 1 lptr v0).bind fun v2 =>
(lload false 1 lptr v1).bind fun v3 =>
(abin Tryz.prog .neq 3 (.tmp 8) (.tmp 10) v2 v3).bind fun v4 =>
(guardV v4 false ((lload false 1 (.pointer (some ⟨0, 1, none⟩)) v0).bind fun v5 =>
(lload false 1 (.pointer (some ⟨0, 1, none⟩)) v1).bind fun v6 =>
(abin Tryz.prog .neq 22 (.tmp 14) (.tmp 16) v5 v6).bind fun v7 =>
some ([v7], s)) (some ([undef], s))).bind fun q8 =>
(apick v4 (.bool true) (getL q8.1 0)).bind fun v9 =>
(guardV v9 false ((lload false 1 (.pointer (some ⟨0, 2, none⟩)) v0).bind fun v10 =>
(lload false 1 (.pointer (some ⟨0, 2, none⟩)) v1).bind fun v11 =>
(abin Tryz.prog .neq 22 (.tmp 21) (.tmp 23) v10 v11).bind fun v12 =>
some ([v12], q8.2)) (some ([undef], q8.2))).bind fun q13 =>
(apick v9 (.bool true) (getL q13.1 0)).bind fun v14 =>
(guardV v14 false ((lload false 1 (.pointer (some ⟨0, 3, none⟩)) v0).bind fun v15 =>
(lload false 1 (.pointer (some ⟨0, 3, none⟩)) v1).bind fun v16 =>
(abin Tryz.prog .neq 22 (.tmp 28) (.tmp 30) v15 v16).bind fun v17 =>
some ([v17], q13.2)) (some ([undef], q13.2))).bind fun q18 =>
(apick v14 (.bool true) (getL q18.1 0)).bind fun v19 =>
(guardV v19 false ((lload false 1 (.pointer (some ⟨0, 4, none⟩)) v0).bind fun v20 =>
(lload false 1 (.pointer (some ⟨0, 4, none⟩)) v1).bind fun v21 =>
(abin Tryz.prog .neq 22 (.tmp 35) (.tmp 37) v20 v21).bind fun v22 =>
some ([v22], q18.2)) (some ([undef], q18.2))).bind fun q23 =>
(apick v19 (.bool true) (getL q23.1 0)).bind fun v24 =>
(guardV v24 false ((lload false 1 (.pointer (some ⟨0, 5, none⟩)) v0).bind fun v25 =>
(lload false 1 (.pointer (some ⟨0, 5, none⟩)) v1).bind fun v26 =>
(callV Tryz.prog R (.func (.func 79) #[] #[]) [v25, v26] q23.2).bind fun r27 =>
(aun .not r27.1).bind fun v28 =>
some ([v28], r27.2)) (some ([undef], q23.2))).bind fun q29 =>
(apick v24 (.bool true) (getL q29.1 0)).bind fun v30 =>
(guardV v30 false ((lload false 1 (.pointer (some ⟨0, 6, none⟩)) v0).bind fun v31 =>
(alenV (.slice 64) v31 q29.2).bind fun v32 =>
(lload false 1 (.pointer (some ⟨0, 6, none⟩)) v1).bind fun v33 =>
(alenV (.slice 64) v33 q29.2).bind fun v34 =>
(abin Tryz.prog .neq 3 (.tmp 51) (.tmp 54) v32 v34).bind fun v35 =>
some ([v35], q29.2)) (some ([undef], q29.2))).bind fun q36 =>
(apick v30 (.bool true) (getL q36.1 0)).bind fun v37 =>
(guardV v37 false ((lload false 1 (.pointer (some ⟨0, 7, none⟩)) v0).bind fun v38 =>
(alenV (.slice 22) v38 q36.2).bind fun v39 =>
(lload false 1 (.pointer (some ⟨0, 7, none⟩)) v1).bind fun v40 =>
(alenV (.slice 22) v40 q36.2).bind fun v41 =>
(abin Tryz.prog .neq 3 (.tmp 60) (.tmp 63) v39 v41).bind fun v42 =>
some ([v42], q36.2)) (some ([undef], q36.2))).bind fun q43 =>
(apick v37 (.bool true) (getL q43.1 0)).bind fun v44 =>
(guardV v44 false ((lload false 1 (.pointer (some ⟨0, 8, none⟩)) v0).bind fun v45 =>
(lload false 1 (.pointer (some ⟨0, 8, none⟩)) v1).bind fun v46 =>
(abin Tryz.prog .neq 22 (.tmp 68) (.tmp 70) v45 v46).bind fun v47 =>
some ([v47], q43.2)) (some ([undef], q43.2))).bind fun q48 =>
(apick v44 (.bool true) (getL q48.1 0)).bind fun v49 =>
(guardV v49 false ((lload false 1 (.pointer (some ⟨0, 9, none⟩)) v0).bind fun v50 =>
(lload false 1 (.pointer (some ⟨0, 9, none⟩)) v1).bind fun v51 =>
(abin Tryz.prog .neq 22 (.tmp 75) (.tmp 77) v50 v51).bind fun v52 =>
some ([v52], q48.2)) (some ([undef], q48.2))).bind fun q53 =>
(apick v49 (.bool true) (getL q53.1 0)).bind fun v54 =>
(guardV v54 false ((lload true 2 (.pointer (some ⟨0, 10, none⟩)) v0).bind fun v55 =>
(lload true 2 (.pointer (some ⟨0, 10, none⟩)) v1).bind fun v56 =>
(abin Tryz.prog .neq 27 (.tmp 82) (.tmp 84) v55 v56).bind fun v57 =>
some ([v57], q53.2)) (some ([undef], q53.2))).bind fun q58 =>
(apick v54 (.bool true) (getL q58.1 0)).bind fun v59 =>
(guardV v59 false ((lload true 5 (.pointer (some ⟨0, 12, none⟩)) v0).bind fun v60 =>
(lload true 5 (.pointer (some ⟨0, 12, none⟩)) v1).bind fun v61 =>
(abin Tryz.prog .neq 29 (.tmp 89) (.tmp 91) v60 v61).bind fun v62 =>
some ([v62], q58.2)) (some ([undef], q58.2))).bind fun q63 =>
(apick v59 (.bool true) (getL q63.1 0)).bind fun v64 =>
condV v64
 (retV [(.bool false)] q63.2)
 ((lload false 1 (.pointer (some ⟨0, 6, none⟩)) v0).bind fun v65 =>
(alenV (.slice 64) v65 q63.2).bind fun v66 =>
(loopL (ref19_SameShard.b0 R) [lptr, lptr, v66, (.int .i64 0), v0, v1] q63.2).bind fun r109 =>
exV r109.1 [(0, (afieldAddr 7 (getL r109.2.1 0)).bind fun v110 =>
(lload false 1 v110 (getL r109.2.1 2)).bind fun v111 =>
(alenV (.slice 22) v111 r109.2.2).bind fun v112 =>
(loopL (ref19_SameShard.b1 R) [(getL r109.2.1 0), (getL r109.2.1 1), v112, (.int .i64 0), (getL r109.2.1 2), (getL r109.2.1 3)] r109.2.2).bind fun r126 =>
exV r126.1 [(2, retV [(.bool true)] r126.2.2)]
 (retV [(getL r126.2.1 0)] r126.2.2))]
 (retV [(getL r109.2.1 0)] r109.2.2))

theorem ref19_SameShard_of {lib : Lib} (hl : lib 16 = none) {x0 x1 : Value} {s : St} {r : Value × St} (h : ref19_SameShard (run Tryz.prog lib hints) x0 x1 s = some r) : run Tryz.prog lib hints 16 [x0, x1] s = some r :=
  run_of hl Tryz.func16 (Eq.trans (by kernel_rfl) h)

theorem ref19_SameShard_ok : funcOk Tryz.prog 16 = true := by kernel_rfl
theorem ref19_SameShard_call {R : Caller} {xs : List Value} {s : St} : callV Tryz.prog R (.func (.func 16) #[] #[]) xs s = R 16 xs s := callV_eq ref19_SameShard_ok

noncomputable def record_DecodeCoord.j0 (R : Caller) (T : List Value) (s : St) : Option (Value × St) :=
(abin Tryz.prog .neq 38 (.tmp 13) (.const (.int .i64 0)) (getL T 2) (.int .i64 0)).bind fun v7 =>
condV v7
 ((lstore 7 (getL T 0) (.agg #[(.int .i64 0), (.int .u64 0), (.int .u64 0), (.int .u64 0), (.slice none 0 0), (.slice none 0 0), (.slice none 0 0)]) (getL T 3)).bind fun v8 =>
(lload true 7 (getL T 0) v8).bind fun v9 =>
retV [v9, (getL T 2)] s)
 ((aload true 7 (getL T 1) s).bind fun v10 =>
(lstore 7 (getL T 0) v10 (getL T 3)).bind fun v11 =>
(lload true 7 (getL T 0) v11).bind fun v12 =>
retV [v12, (.int .i64 0)] s)

noncomputable def record_DecodeCoord (R : Caller) (x0 : Value) (s : St) : Option (Value × St) :=
(anew [(.int .i64 0), (.int .u64 0), (.int .u64 0), (.int .u64 0), (.slice none 0 0), (.slice none 0 0), (.slice none 0 0)] s).bind fun r0 =>
(amkFunc 81 [] [r0.1]).bind fun v1 =>
(callV Tryz.prog R (.func (.func 68) #[] #[]) [x0, (.int .u8 67), v1] r0.2).bind fun r2 =>
(abin Tryz.prog .eql 38 (.tmp 9) (.const (.int .i64 0)) r2.1 (.int .i64 0)).bind fun v4 =>
condV v4
 ((aload true 7 r0.1 r2.2).bind fun v5 =>
(callV Tryz.prog R (.func (.func 13) #[] #[]) [v5] r2.2).bind fun r6 =>
joinK (record_DecodeCoord.j0 R) [lptr, r0.1, r6.1, (.agg #[(.int .i64 0), (.int .u64 0), (.int .u64 0), (.int .u64 0), (.slice none 0 0), (.slice none 0 0), (.slice none 0 0)])] r6.2)
 (joinK (record_DecodeCoord.j0 R) [lptr, r0.1, r2.1, (.agg #[(.int .i64 0), (.int .u64 0), (.int .u64 0), (.int .u64 0), (.slice none 0 0), (.slice none 0 0), (.slice none 0 0)])] r2.2)

theorem record_DecodeCoord_of {lib : Lib} (hl : lib 17 = none) {x0 : Value} {s : St} {r : Value × St} (h : record_DecodeCoord (run Tryz.prog lib hints) x0 s = some r) : run Tryz.prog lib hints 17 [x0] s = some r :=
  run_of hl Tryz.func17 (Eq.trans (by kernel_rfl) h)

theorem record_DecodeCoord_ok : funcOk Tryz.prog 17 = true := by kernel_rfl
theorem record_DecodeCoord_call {R : Caller} {xs : List Value} {s : St} : callV Tryz.prog R (.func (.func 17) #[] #[]) xs s = R 17 xs s := callV_eq record_DecodeCoord_ok

noncomputable def ref19_SameCoord.b1 (R : Caller) (T : List Value) (s : St) : Res :=
(abin Tryz.prog .lss 3 (.tmp 115) (.tmp 114) (getL T 8) (getL T 7)).bind fun v78 =>
condV v78
 ((afieldAddr 4 (getL T 2)).bind fun v79 =>
(lload false 1 v79 (getL T 11)).bind fun v80 =>
(aindexS 1 v80 (getL T 8)).bind fun v81 =>
((aload false 1 v81 (frzS s)).bind fun v90 =>
some (v90, (frzS s))).bind fun r82 =>
(afieldAddr 4 (getL T 3)).bind fun v83 =>
(lload false 1 v83 (getL T 12)).bind fun v84 =>
(aindexS 1 v84 (getL T 8)).bind fun v85 =>
((aload false 1 v85 (frzS s)).bind fun v89 =>
some (v89, (frzS s))).bind fun r86 =>
(abin Tryz.prog .neq 3 (.tmp 122) (.tmp 127) r82.1 r86.1).bind fun v87 =>
condV v87
 (some (.ret, [(.bool false)], s))
 ((abin Tryz.prog .add 3 (.tmp 115) (.const (.int .i64 1)) (getL T 8) (.int .i64 1)).bind fun v88 =>
some (.normal, [(getL T 0), (getL T 1), (getL T 2), (getL T 3), (getL T 4), (getL T 5), (getL T 6), (getL T 7), v88, (getL T 9), (getL T 10), (getL T 11), (getL T 12)], s)))
 (some (.exit 2, [(getL T 0), (getL T 1), (getL T 4), (getL T 5), (getL T 6), (getL T 9), (getL T 10)], s))

noncomputable def ref19_SameCoord.b0 (R : Caller) (T : List Value) (s : St) : Res :=
(abin Tryz.prog .lss 3 (.tmp 67) (.tmp 66) (getL T 4) (getL T 3)).bind fun v42 =>
condV v42
 ((aindexS 5 (getL T 2) (getL T 4)).bind fun v43 =>
(aload true 5 v43 s).bind fun v44 =>
(lstore 5 lptr v44 (.agg #[(.int .u64 0), (.int .i64 0), (.int .u64 0), (.int .u64 0), (.slice none 0 0)])).bind fun v45 =>
(afieldAddr 5 (getL T 1)).bind fun v46 =>
(lload false 1 v46 (getL T 6)).bind fun v47 =>
(aindexS 5 v47 (getL T 4)).bind fun v48 =>
(aload true 5 v48 s).bind fun v49 =>
(lstore 5 lptr v49 (.agg #[(.int .u64 0), (.int .i64 0), (.int .u64 0), (.int .u64 0), (.slice none 0 0)])).bind fun v50 =>
(lload false 1 lptr v45).bind fun v51 =>
(lload false 1 lptr v50).bind fun v52 =>
(abin Tryz.prog .neq 22 (.tmp 78) (.tmp 80) v51 v52).bind fun v53 =>
(guardV v53 false ((lload false 1 (.pointer (some ⟨0, 1, none⟩)) v45).bind fun v54 =>
(lload false 1 (.pointer (some ⟨0, 1, none⟩)) v50).bind fun v55 =>
(abin Tryz.prog .neq 3 (.tmp 84) (.tmp 86) v54 v55).bind fun v56 =>
some ([v56], s)) (some ([undef], s))).bind fun q57 =>
(apick v53 (.bool true) (getL q57.1 0)).bind fun v58 =>
(guardV v58 false ((lload false 1 (.pointer (some ⟨0, 2, none⟩)) v45).bind fun v59 =>
(lload false 1 (.pointer (some ⟨0, 2, none⟩)) v50).bind fun v60 =>
(abin Tryz.prog .neq 22 (.tmp 91) (.tmp 93) v59 v60).bind fun v61 =>
some ([v61], q57.2)) (some ([undef], q57.2))).bind fun q62 =>
(apick v58 (.bool true) (getL q62.1 0)).bind fun v63 =>
(guardV v63 false ((lload false 1 (.pointer (some ⟨0, 3, none⟩)) v45).bind fun v64 =>
(lload false 1 (.pointer (some ⟨0, 3, none⟩)) v50).bind fun v65 =>
(abin Tryz.prog .neq 22 (.tmp 98) (.tmp 100) v64 v65).bind fun v66 =>
some ([v66], q62.2)) (some ([undef], q62.2))).bind fun q67 =>
(apick v63 (.bool true) (getL q67.1 0)).bind fun v68 =>
(guardV v68 false ((lload false 1 (.pointer (some ⟨0, 4, none⟩)) v45).bind fun v69 =>
(alenV (.slice 3) v69 q67.2).bind fun v70 =>
(lload false 1 (.pointer (some ⟨0, 4, none⟩)) v50).bind fun v71 =>
(alenV (.slice 3) v71 q67.2).bind fun v72 =>
(abin Tryz.prog .neq 3 (.tmp 106) (.tmp 109) v70 v72).bind fun v73 =>
some ([v73], q67.2)) (some ([undef], q67.2))).bind fun q74 =>
(apick v68 (.bool true) (getL q74.1 0)).bind fun v75 =>
condV v75
 (some (.ret, [(.bool false)], q74.2))
 ((lload false 1 (.pointer (some ⟨0, 4, none⟩)) v45).bind fun v76 =>
(alenV (.slice 3) v76 q74.2).bind fun v77 =>
(loopL (ref19_SameCoord.b1 R) [(getL T 0), (getL T 1), lptr, lptr, (getL T 2), (getL T 3), (getL T 4), v77, (.int .i64 0), (getL T 5), (getL T 6), v45, v50] q74.2).bind fun r91 =>
exV r91.1 [(2, (abin Tryz.prog .add 3 (.tmp 67) (.const (.int .i64 1)) (getL r91.2.1 4) (.int .i64 1)).bind fun v92 =>
some (.normal, [(getL r91.2.1 0), (getL r91.2.1 1), (getL r91.2.1 2), (getL r91.2.1 3), v92, (getL r91.2.1 5), (getL r91.2.1 6)], r91.2.2))]
 (some (.ret, [(getL r91.2.1 0)], r91.2.2))))
 (some (.exit 0, [(getL T 0), (getL T 1), (getL T 5), (getL T 6)], s))

noncomputable def ref19_SameCoord.b2 (R : Caller) (T : List Value) (s : St) : Res :=
(abin Tryz.prog .lss 3 (.tmp 134) (.tmp 133) (getL T 3) (getL T 2)).bind fun v97 =>
condV v97
 ((aindexS 4 (getL T 1) (getL T 3)).bind fun v98 =>
(aload true 4 v98 s).bind fun v99 =>
(lstore 4 lptr v99 (.agg #[(.int .i64 0), (.int .u64 0), (.int .u64 0), (.slice none 0 0)])).bind fun v100 =>
(afieldAddr 6 (getL T 0)).bind fun v101 =>
(lload false 1 v101 (getL T 4)).bind fun v102 =>
(aindexS 4 v102 (getL T 3)).bind fun v103 =>
(aload true 4 v103 s).bind fun v104 =>
(lstore 4 lptr v104 (.agg #[(.int .i64 0), (.int .u64 0), (.int .u64 0), (.slice none 0 0)])).bind fun v105 =>
(lload false 1 lptr v100).bind fun v106 =>
(lload false 1 lptr v105).bind fun v107 =>
(abin Tryz.prog .neq 3 (.tmp 145) (.tmp 147) v106 v107).bind fun v108 =>
(guardV v108 false ((lload false 1 (.pointer (some ⟨0, 1, none⟩)) v100).bind fun v109 =>
(lload false 1 (.pointer (some ⟨0, 1, none⟩)) v105).bind fun v110 =>
(abin Tryz.prog .neq 22 (.tmp 151) (.tmp 153) v109 v110).bind fun v111 =>
some ([v111], s)) (some ([undef], s))).bind fun q112 =>
(apick v108 (.bool true) (getL q112.1 0)).bind fun v113 =>
(guardV v113 false ((lload false 1 (.pointer (some ⟨0, 2, none⟩)) v100).bind fun v114 =>
(lload false 1 (.pointer (some ⟨0, 2, none⟩)) v105).bind fun v115 =>
(abin Tryz.prog .neq 22 (.tmp 158) (.tmp 160) v114 v115).bind fun v116 =>
some ([v116], q112.2)) (some ([undef], q112.2))).bind fun q117 =>
(apick v113 (.bool true) (getL q117.1 0)).bind fun v118 =>
(guardV v118 false ((lload false 1 (.pointer (some ⟨0, 3, none⟩)) v100).bind fun v119 =>
(lload false 1 (.pointer (some ⟨0, 3, none⟩)) v105).bind fun v120 =>
(callV Tryz.prog R (.func (.func 86) #[] #[]) [v119, v120] q117.2).bind fun r121 =>
(aun .not r121.1).bind fun v122 =>
some ([v122], r121.2)) (some ([undef], q117.2))).bind fun q123 =>
(apick v118 (.bool true) (getL q123.1 0)).bind fun v124 =>
condV v124
 (some (.ret, [(.bool false)], q123.2))
 ((abin Tryz.prog .add 3 (.tmp 134) (.const (.int .i64 1)) (getL T 3) (.int .i64 1)).bind fun v125 =>
some (.normal, [(getL T 0), (getL T 1), (getL T 2), v125, (getL T 4)], q123.2)))
 (some (.exit 4, [], s))

noncomputable def ref19_SameCoord (R : Caller) (x0 x1 : Value) (s : St) : Option (Value × St) :=
(lbox x0).bind fun v0 =>
(lbox x1).bind fun v1 =>
(lload false 1 lptr v0).bind fun v2 =>
(lload false 1 lptr v1).bind fun v3 =>
(abin Tryz.prog .neq 3 (.tmp 13) (.tmp 15) v2 v3).bind fun v4 =>
(guardV v4 false ((lload false 1 (.pointer (some ⟨0, 1, none⟩)) v0).bind fun v5 =>
(lload false 1 (.pointer (some ⟨0, 1, none⟩)) v1).bind fun v6 =>
(abin Tryz.prog .neq 22 (.tmp 19) (.tmp 21) v5 v6).bind fun v7 =>
some ([v7], s)) (some ([undef], s))).bind fun q8 =>
(apick v4 (.bool true) (getL q8.1 0)).bind fun v9 =>
(guardV v9 false ((lload false 1 (.pointer (some ⟨0, 2, none⟩)) v0).bind fun v10 =>
(lload false 1 (.pointer (some ⟨0, 2, none⟩)) v1).bind fun v11 =>
(abin Tryz.prog .neq 22 (.tmp 26) (.tmp 28) v10 v11).bind fun v12 =>
some ([v12], q8.2)) (some ([undef], q8.2))).bind fun q13 =>
(apick v9 (.bool true) (getL q13.1 0)).bind fun v14 =>
(guardV v14 false ((lload false 1 (.pointer (some ⟨0, 3, none⟩)) v0).bind fun v15 =>
(lload false 1 (.pointer (some ⟨0, 3, none⟩)) v1).bind fun v16 =>
(abin Tryz.prog .neq 22 (.tmp 33) (.tmp 35) v15 v16).bind fun v17 =>
some ([v17], q13.2)) (some ([undef], q13.2))).bind fun q18 =>
(apick v14 (.bool true) (getL q18.1 0)).bind fun v19 =>
(guardV v19 false ((lload false 1 (.pointer (some ⟨0, 4, none⟩)) v0).bind fun v20 =>
(lload false 1 (.pointer (some ⟨0, 4, none⟩)) v1).bind fun v21 =>
(callV Tryz.prog R (.func (.func 79) #[] #[]) [v20, v21] q18.2).bind fun r22 =>
(aun .not r22.1).bind fun v23 =>
some ([v23], r22.2)) (some ([undef], q18.2))).bind fun q24 =>
(apick v19 (.bool true) (getL q24.1 0)).bind fun v25 =>
(guardV v25 false ((lload false 1 (.pointer (some ⟨0, 5, none⟩)) v0).bind fun v26 =>
(alenV (.slice 77) v26 q24.2).bind fun v27 =>
(lload false 1 (.pointer (some ⟨0, 5, none⟩)) v1).bind fun v28 =>
(alenV (.slice 77) v28 q24.2).bind fun v29 =>
(abin Tryz.prog .neq 3 (.tmp 49) (.tmp 52) v27 v29).bind fun v30 =>
some ([v30], q24.2)) (some ([undef], q24.2))).bind fun q31 =>
(apick v25 (.bool true) (getL q31.1 0)).bind fun v32 =>
(guardV v32 false ((lload false 1 (.pointer (some ⟨0, 6, none⟩)) v0).bind fun v33 =>
(alenV (.slice 82) v33 q31.2).bind fun v34 =>
(lload false 1 (.pointer (some ⟨0, 6, none⟩)) v1).bind fun v35 =>
(alenV (.slice 82) v35 q31.2).bind fun v36 =>
(abin Tryz.prog .neq 3 (.tmp 58) (.tmp 61) v34 v36).bind fun v37 =>
some ([v37], q31.2)) (some ([undef], q31.2))).bind fun q38 =>
(apick v32 (.bool true) (getL q38.1 0)).bind fun v39 =>
condV v39
 (retV [(.bool false)] q38.2)
 ((lload false 1 (.pointer (some ⟨0, 5, none⟩)) v0).bind fun v40 =>
(alenV (.slice 77) v40 q38.2).bind fun v41 =>
(loopL (ref19_SameCoord.b0 R) [lptr, lptr, v40, v41, (.int .i64 0), v0, v1] q38.2).bind fun r93 =>
exV r93.1 [(0, (afieldAddr 6 (getL r93.2.1 0)).bind fun v94 =>
(lload false 1 v94 (getL r93.2.1 2)).bind fun v95 =>
(alenV (.slice 82) v95 r93.2.2).bind fun v96 =>
(loopL (ref19_SameCoord.b2 R) [(getL r93.2.1 1), v95, v96, (.int .i64 0), (getL r93.2.1 3)] r93.2.2).bind fun r126 =>
exV r126.1 [(4, retV [(.bool true)] r126.2.2)]
 (retV [(getL r126.2.1 0)] r126.2.2))]
 (retV [(getL r93.2.1 0)] r93.2.2))

theorem ref19_SameCoord_of {lib : Lib} (hl : lib 18 = none) {x0 x1 : Value} {s : St} {r : Value × St} (h : ref19_SameCoord (run Tryz.prog lib hints) x0 x1 s = some r) : run Tryz.prog lib hints 18 [x0, x1] s = some r :=
  run_of hl Tryz.func18 (Eq.trans (by kernel_rfl) h)

theorem ref19_SameCoord_ok : funcOk Tryz.prog 18 = true := by kernel_rfl
theorem ref19_SameCoord_call {R : Caller} {xs : List Value} {s : St} : callV Tryz.prog R (.func (.func 18) #[] #[]) xs s = R 18 xs s := callV_eq ref19_SameCoord_ok

noncomputable def record_writer_nums (R : Caller) (x0 x1 : Value) (s : St) : Option (Value × St) :=
(amkFunc 25 [x0] []).bind fun v0 =>
(callV Tryz.prog R (.func (.func 87) #[] #[]) [x0, x1, v0] s).bind fun r1 =>
retV [] r1.2

theorem record_writer_nums_of {lib : Lib} (hl : lib 19 = none) {x0 x1 : Value} {s : St} {r : Value × St} (h : record_writer_nums (run Tryz.prog lib hints) x0 x1 s = some r) : run Tryz.prog lib hints 19 [x0, x1] s = some r :=
  run_of hl Tryz.func19 (Eq.trans (by kernel_rfl) h)

theorem record_writer_nums_ok : funcOk Tryz.prog 19 = true := by kernel_rfl
theorem record_writer_nums_call {R : Caller} {xs : List Value} {s : St} : callV Tryz.prog R (.func (.func 19) #[] #[]) xs s = R 19 xs s := callV_eq record_writer_nums_ok

noncomputable def record_list_api_Owner (R : Caller) (x0 x1 x2 : Value) (s : St) : Option (Value × St) :=
(alenV (.slice 54) x1 s).bind fun v0 =>
(callV Tryz.prog R (.func (.func 88) #[] #[]) [x0, v0] s).bind fun r1 =>
(callV Tryz.prog R (.func (.func 89) #[] #[]) [x0, x1, x2] r1.2).bind fun r2 =>
retV [] r2.2

theorem record_list_api_Owner_of {lib : Lib} (hl : lib 20 = none) {x0 x1 x2 : Value} {s : St} {r : Value × St} (h : record_list_api_Owner (run Tryz.prog lib hints) x0 x1 x2 s = some r) : run Tryz.prog lib hints 20 [x0, x1, x2] s = some r :=
  run_of hl Tryz.func20 (Eq.trans (by kernel_rfl) h)

theorem record_list_api_Owner_ok : funcOk Tryz.prog 20 = true := by kernel_rfl
theorem record_list_api_Owner_call {R : Caller} {xs : List Value} {s : St} : callV Tryz.prog R (.func (.func 20) #[] #[]) xs s = R 20 xs s := callV_eq record_list_api_Owner_ok

noncomputable def record_writer_owner (R : Caller) (x0 x1 : Value) (s : St) : Option (Value × St) :=
(lbox x1).bind fun v0 =>
(lload false 1 lptr v0).bind fun v1 =>
(callV Tryz.prog R (.func (.func 90) #[] #[]) [x0, v1] s).bind fun r2 =>
(lload false 1 (.pointer (some ⟨0, 1, none⟩)) v0).bind fun v3 =>
(callV Tryz.prog R (.func (.func 88) #[] #[]) [x0, v3] r2.2).bind fun r4 =>
retV [] r4.2

theorem record_writer_owner_of {lib : Lib} (hl : lib 21 = none) {x0 x1 : Value} {s : St} {r : Value × St} (h : record_writer_owner (run Tryz.prog lib hints) x0 x1 s = some r) : run Tryz.prog lib hints 21 [x0, x1] s = some r :=
  run_of hl Tryz.func21 (Eq.trans (by kernel_rfl) h)

theorem record_writer_owner_ok : funcOk Tryz.prog 21 = true := by kernel_rfl
noncomputable def record_list_api_Hold (R : Caller) (x0 x1 x2 : Value) (s : St) : Option (Value × St) :=
(alenV (.slice 64) x1 s).bind fun v0 =>
(callV Tryz.prog R (.func (.func 88) #[] #[]) [x0, v0] s).bind fun r1 =>
(callV Tryz.prog R (.func (.func 91) #[] #[]) [x0, x1, x2] r1.2).bind fun r2 =>
retV [] r2.2

theorem record_list_api_Hold_of {lib : Lib} (hl : lib 22 = none) {x0 x1 x2 : Value} {s : St} {r : Value × St} (h : record_list_api_Hold (run Tryz.prog lib hints) x0 x1 x2 s = some r) : run Tryz.prog lib hints 22 [x0, x1, x2] s = some r :=
  run_of hl Tryz.func22 (Eq.trans (by kernel_rfl) h)

theorem record_list_api_Hold_ok : funcOk Tryz.prog 22 = true := by kernel_rfl
theorem record_list_api_Hold_call {R : Caller} {xs : List Value} {s : St} : callV Tryz.prog R (.func (.func 22) #[] #[]) xs s = R 22 xs s := callV_eq record_list_api_Hold_ok

noncomputable def record_writer_hold (R : Caller) (x0 x1 : Value) (s : St) : Option (Value × St) :=
(lbox x1).bind fun v0 =>
(lload false 1 lptr v0).bind fun v1 =>
(callV Tryz.prog R (.func (.func 25) #[] #[]) [x0, v1] s).bind fun r2 =>
(lload false 1 (.pointer (some ⟨0, 1, none⟩)) v0).bind fun v3 =>
(amkFunc 93 [x0] []).bind fun v4 =>
(callV Tryz.prog R (.func (.func 92) #[] #[]) [x0, v3, v4] r2.2).bind fun r5 =>
retV [] r5.2

theorem record_writer_hold_of {lib : Lib} (hl : lib 23 = none) {x0 x1 : Value} {s : St} {r : Value × St} (h : record_writer_hold (run Tryz.prog lib hints) x0 x1 s = some r) : run Tryz.prog lib hints 23 [x0, x1] s = some r :=
  run_of hl Tryz.func23 (Eq.trans (by kernel_rfl) h)

theorem record_writer_hold_ok : funcOk Tryz.prog 23 = true := by kernel_rfl
noncomputable def record_list_uint64 (R : Caller) (x0 x1 x2 : Value) (s : St) : Option (Value × St) :=
(alenV (.slice 22) x1 s).bind fun v0 =>
(callV Tryz.prog R (.func (.func 88) #[] #[]) [x0, v0] s).bind fun r1 =>
(callV Tryz.prog R (.func (.func 87) #[] #[]) [x0, x1, x2] r1.2).bind fun r2 =>
retV [] r2.2

theorem record_list_uint64_of {lib : Lib} (hl : lib 24 = none) {x0 x1 x2 : Value} {s : St} {r : Value × St} (h : record_list_uint64 (run Tryz.prog lib hints) x0 x1 x2 s = some r) : run Tryz.prog lib hints 24 [x0, x1, x2] s = some r :=
  run_of hl Tryz.func24 (Eq.trans (by kernel_rfl) h)

theorem record_list_uint64_ok : funcOk Tryz.prog 24 = true := by kernel_rfl
theorem record_list_uint64_call {R : Caller} {xs : List Value} {s : St} : callV Tryz.prog R (.func (.func 24) #[] #[]) xs s = R 24 xs s := callV_eq record_list_uint64_ok

noncomputable def record_writer_num (R : Caller) (x0 x1 : Value) (s : St) : Option (Value × St) :=
(anilCheck x0).bind fun v0 =>
(afieldAddr 0 v0).bind fun v1 =>
((aload false 1 v1 (frzS s)).bind fun v11 =>
some (v11, (frzS s))).bind fun r2 =>
(((callV Tryz.prog R (.func (.func 94) #[] #[]) [x1] (frzS s)).bind fun r10 =>
some (r10.1, r10.2)).map (quietR s)).bind fun r3 =>
(((aappend 1 1 r2.1 r3.1 r3.2).bind fun r9 =>
some (r9.1, r9.2)).bind (ownR r3.2)).bind fun r4 =>
(anilCheck x0).bind fun v5 =>
(afieldAddr 0 v5).bind fun v6 =>
(((astore 1 v6 r4.1 r4.2).bind fun s8 =>
some (undef, s8)).bind (ownR r4.2)).bind fun r7 =>
retV [] r7.2

theorem record_writer_num_of {lib : Lib} (hl : lib 25 = none) {x0 x1 : Value} {s : St} {r : Value × St} (h : record_writer_num (run Tryz.prog lib hints) x0 x1 s = some r) : run Tryz.prog lib hints 25 [x0, x1] s = some r :=
  run_of hl Tryz.func25 (Eq.trans (by kernel_rfl) h)

theorem record_writer_num_ok : funcOk Tryz.prog 25 = true := by kernel_rfl
theorem record_writer_num_call {R : Caller} {xs : List Value} {s : St} : callV Tryz.prog R (.func (.func 25) #[] #[]) xs s = R 25 xs s := callV_eq record_writer_num_ok

noncomputable def record_writer_span (R : Caller) (x0 x1 : Value) (s : St) : Option (Value × St) :=
(lbox x1).bind fun v0 =>
(lload false 1 lptr v0).bind fun v1 =>
(callV Tryz.prog R (.func (.func 90) #[] #[]) [x0, v1] s).bind fun r2 =>
(lload false 1 (.pointer (some ⟨0, 1, none⟩)) v0).bind fun v3 =>
(callV Tryz.prog R (.func (.func 90) #[] #[]) [x0, v3] r2.2).bind fun r4 =>
retV [] r4.2

theorem record_writer_span_of {lib : Lib} (hl : lib 26 = none) {x0 x1 : Value} {s : St} {r : Value × St} (h : record_writer_span (run Tryz.prog lib hints) x0 x1 s = some r) : run Tryz.prog lib hints 26 [x0, x1] s = some r :=
  run_of hl Tryz.func26 (Eq.trans (by kernel_rfl) h)

theorem record_writer_span_ok : funcOk Tryz.prog 26 = true := by kernel_rfl
theorem record_writer_span_call {R : Caller} {xs : List Value} {s : St} : callV Tryz.prog R (.func (.func 26) #[] #[]) xs s = R 26 xs s := callV_eq record_writer_span_ok

noncomputable def record_list_api_Decision (R : Caller) (x0 x1 x2 : Value) (s : St) : Option (Value × St) :=
(alenV (.slice 77) x1 s).bind fun v0 =>
(callV Tryz.prog R (.func (.func 88) #[] #[]) [x0, v0] s).bind fun r1 =>
(callV Tryz.prog R (.func (.func 97) #[] #[]) [x0, x1, x2] r1.2).bind fun r2 =>
retV [] r2.2

theorem record_list_api_Decision_of {lib : Lib} (hl : lib 30 = none) {x0 x1 x2 : Value} {s : St} {r : Value × St} (h : record_list_api_Decision (run Tryz.prog lib hints) x0 x1 x2 s = some r) : run Tryz.prog lib hints 30 [x0, x1, x2] s = some r :=
  run_of hl Tryz.func30 (Eq.trans (by kernel_rfl) h)

theorem record_list_api_Decision_ok : funcOk Tryz.prog 30 = true := by kernel_rfl
theorem record_list_api_Decision_call {R : Caller} {xs : List Value} {s : St} : callV Tryz.prog R (.func (.func 30) #[] #[]) xs s = R 30 xs s := callV_eq record_list_api_Decision_ok

noncomputable def record_writer_decision (R : Caller) (x0 x1 : Value) (s : St) : Option (Value × St) :=
(lbox x1).bind fun v0 =>
(lload false 1 lptr v0).bind fun v1 =>
(lload false 1 (.pointer (some ⟨0, 1, none⟩)) v0).bind fun v2 =>
(convInt .u64 v2).bind fun v3 =>
(lload false 1 (.pointer (some ⟨0, 2, none⟩)) v0).bind fun v4 =>
(lload false 1 (.pointer (some ⟨0, 3, none⟩)) v0).bind fun v5 =>
(abuildSl 1 [(.int .u64 0)] 4 [(0, v1), (1, v3), (2, v4), (3, v5)] s).bind fun r6 =>
(callV Tryz.prog R (.func (.func 19) #[] #[]) [x0, r6.1] r6.2).bind fun r7 =>
(lload false 1 (.pointer (some ⟨0, 4, none⟩)) v0).bind fun v8 =>
(amkFunc 88 [x0] []).bind fun v9 =>
(callV Tryz.prog R (.func (.func 98) #[] #[]) [x0, v8, v9] r7.2).bind fun r10 =>
retV [] r10.2

theorem record_writer_decision_of {lib : Lib} (hl : lib 31 = none) {x0 x1 : Value} {s : St} {r : Value × St} (h : record_writer_decision (run Tryz.prog lib hints) x0 x1 s = some r) : run Tryz.prog lib hints 31 [x0, x1] s = some r :=
  run_of hl Tryz.func31 (Eq.trans (by kernel_rfl) h)

theorem record_writer_decision_ok : funcOk Tryz.prog 31 = true := by kernel_rfl
noncomputable def record_list_api_Last (R : Caller) (x0 x1 x2 : Value) (s : St) : Option (Value × St) :=
(alenV (.slice 82) x1 s).bind fun v0 =>
(callV Tryz.prog R (.func (.func 88) #[] #[]) [x0, v0] s).bind fun r1 =>
(callV Tryz.prog R (.func (.func 99) #[] #[]) [x0, x1, x2] r1.2).bind fun r2 =>
retV [] r2.2

theorem record_list_api_Last_of {lib : Lib} (hl : lib 32 = none) {x0 x1 x2 : Value} {s : St} {r : Value × St} (h : record_list_api_Last (run Tryz.prog lib hints) x0 x1 x2 s = some r) : run Tryz.prog lib hints 32 [x0, x1, x2] s = some r :=
  run_of hl Tryz.func32 (Eq.trans (by kernel_rfl) h)

theorem record_list_api_Last_ok : funcOk Tryz.prog 32 = true := by kernel_rfl
theorem record_list_api_Last_call {R : Caller} {xs : List Value} {s : St} : callV Tryz.prog R (.func (.func 32) #[] #[]) xs s = R 32 xs s := callV_eq record_list_api_Last_ok

noncomputable def record_writer_last (R : Caller) (x0 x1 : Value) (s : St) : Option (Value × St) :=
(lbox x1).bind fun v0 =>
(lload false 1 lptr v0).bind fun v1 =>
(convInt .u64 v1).bind fun v2 =>
(lload false 1 (.pointer (some ⟨0, 1, none⟩)) v0).bind fun v3 =>
(lload false 1 (.pointer (some ⟨0, 2, none⟩)) v0).bind fun v4 =>
(abuildSl 1 [(.int .u64 0)] 3 [(0, v2), (1, v3), (2, v4)] s).bind fun r5 =>
(callV Tryz.prog R (.func (.func 19) #[] #[]) [x0, r5.1] r5.2).bind fun r6 =>
(lload false 1 (.pointer (some ⟨0, 3, none⟩)) v0).bind fun v7 =>
(amkFunc 101 [x0] []).bind fun v8 =>
(callV Tryz.prog R (.func (.func 100) #[] #[]) [x0, v7, v8] r6.2).bind fun r9 =>
retV [] r9.2

theorem record_writer_last_of {lib : Lib} (hl : lib 33 = none) {x0 x1 : Value} {s : St} {r : Value × St} (h : record_writer_last (run Tryz.prog lib hints) x0 x1 s = some r) : run Tryz.prog lib hints 33 [x0, x1] s = some r :=
  run_of hl Tryz.func33 (Eq.trans (by kernel_rfl) h)

theorem record_writer_last_ok : funcOk Tryz.prog 33 = true := by kernel_rfl
noncomputable def owner_Check.b0 (R : Caller) (T : List Value) (s : St) : Res :=
(abin Tryz.prog .lss 3 (.tmp 22) (.tmp 21) (getL T 3) (getL T 2)).bind fun v13 =>
condV v13
 ((aindexS 2 (getL T 1) (getL T 3)).bind fun v14 =>
(aload true 2 v14 s).bind fun v15 =>
(lstore 2 lptr v15 (.agg #[(.string ⟨#[]⟩), (.int .i64 0)])).bind fun v16 =>
(lload false 1 (.pointer (some ⟨0, 1, none⟩)) v16).bind fun v17 =>
(abin Tryz.prog .lss 3 (.tmp 28) (.const (.int .i64 1)) v17 (.int .i64 1)).bind fun v18 =>
(guardV v18 false (some ([(.pointer (some ⟨0, 1, none⟩))], s)) (some ([undef], s))).bind fun q19 =>
(guardV v18 false ((lload false 1 (getL q19.1 0) v16).bind fun v20 =>
some ([v20], q19.2)) (some ([undef], q19.2))).bind fun q21 =>
(guardV v18 false ((abin Tryz.prog .gtr 3 (.tmp 32) (.const (.int .i64 4)) (getL q21.1 0) (.int .i64 4)).bind fun v22 =>
some ([v22], q21.2)) (some ([undef], q21.2))).bind fun q23 =>
(apick v18 (.bool true) (getL q23.1 0)).bind fun v24 =>
(guardV v24 false (some ([(getL T 3)], q23.2)) (some ([undef], q23.2))).bind fun q25 =>
(guardV v24 false ((abin Tryz.prog .gtr 3 (.tmp 36) (.const (.int .i64 0)) (getL q25.1 0) (.int .i64 0)).bind fun v26 =>
some ([v26], q25.2)) (some ([undef], q25.2))).bind fun q27 =>
(guardV v24 false (some ([(getL q27.1 0)], q27.2)) (some ([undef], q27.2))).bind fun q28 =>
(guardV (getL q28.1 0) true (some ([lptr], q28.2)) (some ([undef], q28.2))).bind fun q29 =>
(guardV (getL q28.1 0) true ((lload false 1 (getL q29.1 0) v16).bind fun v30 =>
some ([v30], q29.2)) (some ([undef], q29.2))).bind fun q31 =>
((guardV (getL q28.1 0) true ((callV Tryz.prog R (.func (.func 103) #[] #[]) [(getL q31.1 0)] q31.2).bind fun r57 =>
some (r57.1, r57.2)) (some (undef, q31.2))).bind (ownR q31.2)).bind fun r32 =>
(guardV (getL q28.1 0) true ((abin Tryz.prog .neq 38 (.tmp 41) (.const (.int .i64 0)) r32.1 (.int .i64 0)).bind fun v33 =>
some ([v33], r32.2)) (some ([undef], r32.2))).bind fun q34 =>
(guardV (getL q28.1 0) true (some ([(getL q34.1 0)], q34.2)) (some ([undef], q34.2))).bind fun q35 =>
(guardV (getL q35.1 0) false (some ([(getL T 0)], q35.2)) (some ([undef], q35.2))).bind fun q36 =>
(guardV (getL q35.1 0) false (some ([(getL T 3)], q36.2)) (some ([undef], q36.2))).bind fun q37 =>
(guardV (getL q35.1 0) false ((abin Tryz.prog .sub 3 (.tmp 45) (.const (.int .i64 1)) (getL q37.1 0) (.int .i64 1)).bind fun v38 =>
some ([v38], q37.2)) (some ([undef], q37.2))).bind fun q39 =>
(guardV (getL q35.1 0) false ((aindexS 2 (getL q36.1 0) (getL q39.1 0)).bind fun v40 =>
some ([v40], q39.2)) (some ([undef], q39.2))).bind fun q41 =>
(guardV (getL q35.1 0) false ((afieldAddr 0 (getL q41.1 0)).bind fun v42 =>
some ([v42], q41.2)) (some ([undef], q41.2))).bind fun q43 =>
((guardV (getL q35.1 0) false ((aload false 1 (getL q43.1 0) q43.2).bind fun v56 =>
some (v56, q43.2)) (some (undef, q43.2))).bind (ownR q43.2)).bind fun r44 =>
(guardV (getL q35.1 0) false (some ([lptr], r44.2)) (some ([undef], r44.2))).bind fun q45 =>
(guardV (getL q35.1 0) false ((lload false 1 (getL q45.1 0) v16).bind fun v46 =>
some ([v46], q45.2)) (some ([undef], q45.2))).bind fun q47 =>
(guardV (getL q35.1 0) false ((abin Tryz.prog .geq 9 (.tmp 49) (.tmp 51) r44.1 (getL q47.1 0)).bind fun v48 =>
some ([v48], q47.2)) (some ([undef], q47.2))).bind fun q49 =>
(guardV (getL q28.1 0) true ((apick (getL q35.1 0) (.bool true) (getL q49.1 0)).bind fun v50 =>
some ([v50], q49.2)) (some ([undef], q49.2))).bind fun q51 =>
(guardV v24 false ((apick (getL q28.1 0) (getL q51.1 0) (.bool false)).bind fun v52 =>
some ([v52], q51.2)) (some ([undef], q51.2))).bind fun q53 =>
(apick v24 (.bool true) (getL q53.1 0)).bind fun v54 =>
condV v54
 (some (.ret, [(.int .i64 170)], q53.2))
 ((abin Tryz.prog .add 3 (.tmp 22) (.const (.int .i64 1)) (getL T 3) (.int .i64 1)).bind fun v55 =>
some (.normal, [(getL T 0), (getL T 1), (getL T 2), v55], q53.2)))
 (some (.exit 0, [], s))

noncomputable def owner_Check (R : Caller) (x0 : Value) (s : St) : Option (Value × St) :=
(alenV (.slice 54) x0 s).bind fun v0 =>
(abin Tryz.prog .eql 3 (.tmp 6) (.const (.int .i64 0)) v0 (.int .i64 0)).bind fun v1 =>
(guardV v1 false ((alenV (.slice 54) x0 s).bind fun v2 =>
(abin Tryz.prog .gtr 3 (.tmp 10) (.const (.int .i64 6)) v2 (.int .i64 6)).bind fun v3 =>
some ([v3], s)) (some ([undef], s))).bind fun q4 =>
(apick v1 (.bool true) (getL q4.1 0)).bind fun v5 =>
(guardV v5 false ((aindexS 2 x0 (.int .i64 0)).bind fun v6 =>
(afieldAddr 0 v6).bind fun v7 =>
(aload false 1 v7 q4.2).bind fun v8 =>
(abin Tryz.prog .neq 9 (.tmp 17) (.const (.string ⟨#[]⟩)) v8 (.string ⟨#[]⟩)).bind fun v9 =>
some ([v9], q4.2)) (some ([undef], q4.2))).bind fun q10 =>
(apick v5 (.bool true) (getL q10.1 0)).bind fun v11 =>
condV v11
 (retV [(.int .i64 170)] q10.2)
 ((alenV (.slice 54) x0 q10.2).bind fun v12 =>
(loopL (owner_Check.b0 R) [x0, x0, v12, (.int .i64 0)] q10.2).bind fun r58 =>
exV r58.1 [(0, retV [(.int .i64 0)] r58.2.2)]
 (retV [(getL r58.2.1 0)] r58.2.2))

theorem owner_Check_of {lib : Lib} (hl : lib 35 = none) {x0 : Value} {s : St} {r : Value × St} (h : owner_Check (run Tryz.prog lib hints) x0 s = some r) : run Tryz.prog lib hints 35 [x0] s = some r :=
  run_of hl Tryz.func35 (Eq.trans (by kernel_rfl) h)

theorem owner_Check_ok : funcOk Tryz.prog 35 = true := by kernel_rfl
theorem owner_Check_call {R : Caller} {xs : List Value} {s : St} : callV Tryz.prog R (.func (.func 35) #[] #[]) xs s = R 35 xs s := callV_eq owner_Check_ok

noncomputable def span_Check.j0 (R : Caller) (T : List Value) (s : St) : Option (Value × St) :=
condV (getL T 0)
 (retV [(.int .i64 21)] s)
 (retV [(.int .i64 0)] s)

noncomputable def span_Check (R : Caller) (x0 : Value) (s : St) : Option (Value × St) :=
(lbox x0).bind fun v0 =>
(lload true 2 lptr v0).bind fun v1 =>
(((callV Tryz.prog R (.func (.func 104) #[] #[]) [] s).bind fun r20 =>
some (r20.1, r20.2)).bind (ownR s)).bind fun r2 =>
(abin Tryz.prog .eql 27 (.tmp 4) (.tmp 5) v1 r2.1).bind fun v3 =>
condV v3
 (retV [(.int .i64 0)] r2.2)
 ((lload false 1 lptr v0).bind fun v5 =>
(alenV .string v5 r2.2).bind fun v6 =>
(abin Tryz.prog .gtr 3 (.tmp 10) (.const (.int .i64 12)) v6 (.int .i64 12)).bind fun v7 =>
(guardV v7 false ((lload false 1 (.pointer (some ⟨0, 1, none⟩)) v0).bind fun v8 =>
(alenV .string v8 r2.2).bind fun v9 =>
(abin Tryz.prog .gtr 3 (.tmp 15) (.const (.int .i64 12)) v9 (.int .i64 12)).bind fun v10 =>
some ([v10], r2.2)) (some ([undef], r2.2))).bind fun q11 =>
(apick v7 (.bool true) (getL q11.1 0)).bind fun v12 =>
condV v12
 (joinK (span_Check.j0 R) [v12] q11.2)
 ((lload false 1 (.pointer (some ⟨0, 1, none⟩)) v0).bind fun v13 =>
(abin Tryz.prog .neq 9 (.tmp 19) (.const (.string ⟨#[]⟩)) v13 (.string ⟨#[]⟩)).bind fun v14 =>
(guardV v14 true ((lload false 1 lptr v0).bind fun v15 =>
(lload false 1 (.pointer (some ⟨0, 1, none⟩)) v0).bind fun v16 =>
(abin Tryz.prog .geq 9 (.tmp 23) (.tmp 25) v15 v16).bind fun v17 =>
some ([v17], q11.2)) (some ([undef], q11.2))).bind fun q18 =>
(apick v14 (getL q18.1 0) (.bool false)).bind fun v19 =>
joinK (span_Check.j0 R) [v19] q18.2))

theorem span_Check_of {lib : Lib} (hl : lib 36 = none) {x0 : Value} {s : St} {r : Value × St} (h : span_Check (run Tryz.prog lib hints) x0 s = some r) : run Tryz.prog lib hints 36 [x0] s = some r :=
  run_of hl Tryz.func36 (Eq.trans (by kernel_rfl) h)

theorem span_Check_ok : funcOk Tryz.prog 36 = true := by kernel_rfl
theorem span_Check_call {R : Caller} {xs : List Value} {s : St} : callV Tryz.prog R (.func (.func 36) #[] #[]) xs s = R 36 xs s := callV_eq span_Check_ok

noncomputable def record_CheckShard_1 (R : Caller) (x0 x1 : Value) (s : St) : Option (Value × St) :=
(lbox x0).bind fun v0 =>
(lload false 1 (.pointer (some ⟨0, 1, none⟩)) v0).bind fun v1 =>
(alenV (.slice 72) v1 s).bind fun v2 =>
(abin Tryz.prog .eql 3 (.tmp 6) (.const (.int .i64 0)) v2 (.int .i64 0)).bind fun v3 =>
(guardV v3 false ((lload false 1 (.pointer (some ⟨0, 1, none⟩)) v0).bind fun v4 =>
(alenV (.slice 72) v4 s).bind fun v5 =>
(abin Tryz.prog .gtr 3 (.tmp 11) (.const (.int .i64 24)) v5 (.int .i64 24)).bind fun v6 =>
some ([v6], s)) (some ([undef], s))).bind fun q7 =>
(apick v3 (.bool true) (getL q7.1 0)).bind fun v8 =>
(guardV v8 false ((afieldAddr 7 x1).bind fun v9 =>
(aload false 1 v9 q7.2).bind fun v10 =>
(lload false 1 lptr v0).bind fun v11 =>
(callV Tryz.prog R (.func (.func 38) #[] #[]) [v10, v11] q7.2).bind fun r12 =>
some ([r12.1], r12.2)) (some ([undef], q7.2))).bind fun q13 =>
(apick v8 (.bool true) (getL q13.1 0)).bind fun v14 =>
(guardV v14 false ((lload false 1 (.pointer (some ⟨0, 1, none⟩)) v0).bind fun v15 =>
(callV Tryz.prog R (.func (.func 39) #[] #[]) [v15, (.func (.func 40) #[] #[])] q13.2).bind fun r16 =>
some ([r16.1], r16.2)) (some ([undef], q13.2))).bind fun q17 =>
(apick v14 (.bool true) (getL q17.1 0)).bind fun v18 =>
retV [v18] q17.2

theorem record_CheckShard_1_of {lib : Lib} (hl : lib 37 = none) {x0 x1 : Value} {s : St} {r : Value × St} (h : record_CheckShard_1 (run Tryz.prog lib hints) x0 x1 s = some r) : run Tryz.prog lib hints 37 [x0, x1] s = some r :=
  run_of hl Tryz.func37 (Eq.trans (by kernel_rfl) h)

theorem record_CheckShard_1_ok : funcOk Tryz.prog 37 = true := by kernel_rfl
noncomputable def slices_Contains_uint64_uint64 (R : Caller) (x0 x1 : Value) (s : St) : Option (Value × St) :=
(callV Tryz.prog R (.func (.func 105) #[] #[]) [x0, x1] s).bind fun r0 =>
(abin Tryz.prog .geq 3 (.tmp 7) (.const (.int .i64 0)) r0.1 (.int .i64 0)).bind fun v1 =>
retV [v1] r0.2

theorem slices_Contains_uint64_uint64_of {lib : Lib} (hl : lib 38 = none) {x0 x1 : Value} {s : St} {r : Value × St} (h : slices_Contains_uint64_uint64 (run Tryz.prog lib hints) x0 x1 s = some r) : run Tryz.prog lib hints 38 [x0, x1] s = some r :=
  run_of hl Tryz.func38 (Eq.trans (by kernel_rfl) h)

theorem slices_Contains_uint64_uint64_ok : funcOk Tryz.prog 38 = true := by kernel_rfl
theorem slices_Contains_uint64_uint64_call {R : Caller} {xs : List Value} {s : St} : callV Tryz.prog R (.func (.func 38) #[] #[]) xs s = R 38 xs s := callV_eq slices_Contains_uint64_uint64_ok

noncomputable def slices_ContainsFunc_api_Op_api_Op (R : Caller) (x0 x1 : Value) (s : St) : Option (Value × St) :=
(callV Tryz.prog R (.func (.func 106) #[] #[]) [x0, x1] s).bind fun r0 =>
(abin Tryz.prog .geq 3 (.tmp 7) (.const (.int .i64 0)) r0.1 (.int .i64 0)).bind fun v1 =>
retV [v1] r0.2

theorem slices_ContainsFunc_api_Op_api_Op_of {lib : Lib} (hl : lib 39 = none) {x0 x1 : Value} {s : St} {r : Value × St} (h : slices_ContainsFunc_api_Op_api_Op (run Tryz.prog lib hints) x0 x1 s = some r) : run Tryz.prog lib hints 39 [x0, x1] s = some r :=
  run_of hl Tryz.func39 (Eq.trans (by kernel_rfl) h)

theorem slices_ContainsFunc_api_Op_api_Op_ok : funcOk Tryz.prog 39 = true := by kernel_rfl
theorem slices_ContainsFunc_api_Op_api_Op_call {R : Caller} {xs : List Value} {s : St} : callV Tryz.prog R (.func (.func 39) #[] #[]) xs s = R 39 xs s := callV_eq slices_ContainsFunc_api_Op_api_Op_ok

noncomputable def record_CheckShard_1_1 (R : Caller) (x0 : Value) (s : St) : Option (Value × St) :=
(lbox x0).bind fun v0 =>
(lload true 6 lptr v0).bind fun v1 =>
(callV Tryz.prog R (.func (.func 41) #[] #[]) [v1] s).bind fun r2 =>
(abin Tryz.prog .neq 38 (.tmp 4) (.const (.int .i64 0)) r2.1 (.int .i64 0)).bind fun v3 =>
retV [v3] r2.2

theorem record_CheckShard_1_1_of {lib : Lib} (hl : lib 40 = none) {x0 : Value} {s : St} {r : Value × St} (h : record_CheckShard_1_1 (run Tryz.prog lib hints) x0 s = some r) : run Tryz.prog lib hints 40 [x0] s = some r :=
  run_of hl Tryz.func40 (Eq.trans (by kernel_rfl) h)

theorem record_CheckShard_1_1_ok : funcOk Tryz.prog 40 = true := by kernel_rfl
theorem record_CheckShard_1_1_call {R : Caller} {xs : List Value} {s : St} : callV Tryz.prog R (.func (.func 40) #[] #[]) xs s = R 40 xs s := callV_eq record_CheckShard_1_1_ok

noncomputable def op_CheckOp.j0 (R : Caller) (T : List Value) (s : St) : Option (Value × St) :=
condV (getL T 2)
 (retV [(.int .i64 40)] s)
 ((afieldAddr 0 (getL T 1)).bind fun v8 =>
(lload false 1 v8 (getL T 4)).bind fun v9 =>
(guardV v9 true ((afieldAddr 1 (getL T 0)).bind fun v10 =>
(lload false 1 v10 (getL T 3)).bind fun v11 =>
(callV Tryz.prog R (.func (.func 103) #[] #[]) [v11] s).bind fun r12 =>
(abin Tryz.prog .neq 38 (.tmp 53) (.const (.int .i64 0)) r12.1 (.int .i64 0)).bind fun v13 =>
some ([v13], r12.2)) (some ([undef], s))).bind fun q14 =>
(apick v9 (getL q14.1 0) (.bool false)).bind fun v15 =>
condV v15
 (retV [(.int .i64 20)] q14.2)
 ((afieldAddr 2 (getL T 0)).bind fun v16 =>
(lload false 1 v16 (getL T 3)).bind fun v17 =>
(alenV .string v17 q14.2).bind fun v18 =>
(abin Tryz.prog .gtr 3 (.tmp 59) (.const (.int .i64 16)) v18 (.int .i64 16)).bind fun v19 =>
condV v19
 (retV [(.int .i64 2)] q14.2)
 ((afieldAddr 2 (getL T 1)).bind fun v20 =>
(lload false 1 v20 (getL T 4)).bind fun v21 =>
(guardV v21 true ((lload true 6 (getL T 0) (getL T 3)).bind fun v22 =>
(callV Tryz.prog R (.func (.func 108) #[] #[]) [v22] q14.2).bind fun r23 =>
(callV Tryz.prog R (.func (.func 36) #[] #[]) [r23.1] r23.2).bind fun r24 =>
(abin Tryz.prog .neq 38 (.tmp 67) (.const (.int .i64 0)) r24.1 (.int .i64 0)).bind fun v25 =>
some ([v25], r24.2)) (some ([undef], q14.2))).bind fun q26 =>
(apick v21 (getL q26.1 0) (.bool false)).bind fun v27 =>
condV v27
 (retV [(.int .i64 21)] q26.2)
 ((afieldAddr 3 (getL T 1)).bind fun v28 =>
(lload false 1 v28 (getL T 4)).bind fun v29 =>
(guardV v29 true ((afieldAddr 5 (getL T 0)).bind fun v30 =>
(lload false 1 v30 (getL T 3)).bind fun v31 =>
(abin Tryz.prog .lss 3 (.tmp 75) (.const (.int .i64 1)) v31 (.int .i64 1)).bind fun v32 =>
some ([v32], q26.2)) (some ([undef], q26.2))).bind fun q33 =>
(guardV (getL q33.1 0) false ((afieldAddr 5 (getL T 0)).bind fun v34 =>
(lload false 1 v34 (getL T 3)).bind fun v35 =>
(abin Tryz.prog .gtr 3 (.tmp 79) (.const (.int .i64 4)) v35 (.int .i64 4)).bind fun v36 =>
some ([v36], q33.2)) (some ([undef], q33.2))).bind fun q37 =>
(guardV v29 true ((apick (getL q33.1 0) (.bool true) (getL q37.1 0)).bind fun v38 =>
some ([v38], q37.2)) (some ([undef], q37.2))).bind fun q39 =>
(apick v29 (getL q39.1 0) (.bool false)).bind fun v40 =>
condV v40
 (retV [(.int .i64 1)] q39.2)
 (retV [(.int .i64 0)] q39.2)))))

noncomputable def op_CheckOp (R : Caller) (x0 : Value) (s : St) : Option (Value × St) :=
(lbox x0).bind fun v0 =>
(lload false 1 lptr v0).bind fun v1 =>
(callV Tryz.prog R (.func (.func 107) #[] #[]) [v1] s).bind fun r2 =>
(aextract 0 r2.1).bind fun v3 =>
(aextract 1 r2.1).bind fun v4 =>
(lstore 6 lptr v3 (.agg #[(.bool false), (.bool false), (.bool false), (.bool false), (.bool false), .nilFunc])).bind fun v5 =>
(aun .not v4).bind fun v7 =>
condV v7
 (joinK (op_CheckOp.j0 R) [lptr, lptr, v7, v0, v5] r2.2)
 ((lload false 1 lptr v5).bind fun v41 =>
(aun .not v41).bind fun v42 =>
(guardV v42 true ((lload false 1 (.pointer (some ⟨0, 1, none⟩)) v0).bind fun v43 =>
(abin Tryz.prog .neq 9 (.tmp 19) (.const (.string ⟨#[]⟩)) v43 (.string ⟨#[]⟩)).bind fun v44 =>
some ([v44], r2.2)) (some ([undef], r2.2))).bind fun q45 =>
(apick v42 (getL q45.1 0) (.bool false)).bind fun v46 =>
condV v46
 (joinK (op_CheckOp.j0 R) [lptr, lptr, v46, v0, v5] q45.2)
 ((lload false 1 (.pointer (some ⟨0, 1, none⟩)) v5).bind fun v47 =>
(aun .not v47).bind fun v48 =>
(guardV v48 true ((lload false 1 (.pointer (some ⟨0, 2, none⟩)) v0).bind fun v49 =>
(abin Tryz.prog .neq 9 (.tmp 27) (.const (.string ⟨#[]⟩)) v49 (.string ⟨#[]⟩)).bind fun v50 =>
some ([v50], q45.2)) (some ([undef], q45.2))).bind fun q51 =>
(apick v48 (getL q51.1 0) (.bool false)).bind fun v52 =>
condV v52
 (joinK (op_CheckOp.j0 R) [lptr, lptr, v52, v0, v5] q51.2)
 ((lload false 1 (.pointer (some ⟨0, 2, none⟩)) v5).bind fun v53 =>
(aun .not v53).bind fun v54 =>
(guardV v54 true ((lload true 6 lptr v0).bind fun v55 =>
(callV Tryz.prog R (.func (.func 108) #[] #[]) [v55] q51.2).bind fun r56 =>
(abin Tryz.prog .neq 27 (.tmp 35) (.tmp 36) r56.1 (.agg #[(.string ⟨#[]⟩), (.string ⟨#[]⟩)])).bind fun v57 =>
some ([v57], r56.2)) (some ([undef], q51.2))).bind fun q58 =>
(apick v54 (getL q58.1 0) (.bool false)).bind fun v59 =>
condV v59
 (joinK (op_CheckOp.j0 R) [lptr, lptr, v59, v0, v5] q58.2)
 ((lload false 1 (.pointer (some ⟨0, 3, none⟩)) v5).bind fun v60 =>
(aun .not v60).bind fun v61 =>
(guardV v61 true ((lload false 1 (.pointer (some ⟨0, 5, none⟩)) v0).bind fun v62 =>
(abin Tryz.prog .neq 3 (.tmp 44) (.const (.int .i64 0)) v62 (.int .i64 0)).bind fun v63 =>
some ([v63], q58.2)) (some ([undef], q58.2))).bind fun q64 =>
(apick v61 (getL q64.1 0) (.bool false)).bind fun v65 =>
joinK (op_CheckOp.j0 R) [lptr, lptr, v65, v0, v5] q64.2))))

theorem op_CheckOp_of {lib : Lib} (hl : lib 41 = none) {x0 : Value} {s : St} {r : Value × St} (h : op_CheckOp (run Tryz.prog lib hints) x0 s = some r) : run Tryz.prog lib hints 41 [x0] s = some r :=
  run_of hl Tryz.func41 (Eq.trans (by kernel_rfl) h)

theorem op_CheckOp_ok : funcOk Tryz.prog 41 = true := by kernel_rfl
theorem op_CheckOp_call {R : Caller} {xs : List Value} {s : St} : callV Tryz.prog R (.func (.func 41) #[] #[]) xs s = R 41 xs s := callV_eq op_CheckOp_ok

noncomputable def record_want (R : Caller) (x0 : Value) (s : St) : Option (Value × St) :=
(aun .not x0).bind fun v0 =>
condV v0
 (retV [(.int .i64 1)] s)
 (retV [(.int .i64 0)] s)

theorem record_want_of {lib : Lib} (hl : lib 42 = none) {x0 : Value} {s : St} {r : Value × St} (h : record_want (run Tryz.prog lib hints) x0 s = some r) : run Tryz.prog lib hints 42 [x0] s = some r :=
  run_of hl Tryz.func42 (Eq.trans (by kernel_rfl) h)

theorem record_want_ok : funcOk Tryz.prog 42 = true := by kernel_rfl
theorem record_want_call {R : Caller} {xs : List Value} {s : St} : callV Tryz.prog R (.func (.func 42) #[] #[]) xs s = R 42 xs s := callV_eq record_want_ok

noncomputable def slices_ContainsFunc_api_Hold_api_Hold (R : Caller) (x0 x1 : Value) (s : St) : Option (Value × St) :=
(callV Tryz.prog R (.func (.func 109) #[] #[]) [x0, x1] s).bind fun r0 =>
(abin Tryz.prog .geq 3 (.tmp 7) (.const (.int .i64 0)) r0.1 (.int .i64 0)).bind fun v1 =>
retV [v1] r0.2

theorem slices_ContainsFunc_api_Hold_api_Hold_of {lib : Lib} (hl : lib 43 = none) {x0 x1 : Value} {s : St} {r : Value × St} (h : slices_ContainsFunc_api_Hold_api_Hold (run Tryz.prog lib hints) x0 x1 s = some r) : run Tryz.prog lib hints 43 [x0, x1] s = some r :=
  run_of hl Tryz.func43 (Eq.trans (by kernel_rfl) h)

theorem slices_ContainsFunc_api_Hold_api_Hold_ok : funcOk Tryz.prog 43 = true := by kernel_rfl
theorem slices_ContainsFunc_api_Hold_api_Hold_call {R : Caller} {xs : List Value} {s : St} : callV Tryz.prog R (.func (.func 43) #[] #[]) xs s = R 43 xs s := callV_eq slices_ContainsFunc_api_Hold_api_Hold_ok

noncomputable def record_rising_api_Hold.b0 (R : Caller) (T : List Value) (s : St) : Res :=
(abin Tryz.prog .lss 3 (.tmp 8) (.tmp 7) (getL T 3) (getL T 2)).bind fun v1 =>
condV v1
 ((abin Tryz.prog .gtr 3 (.tmp 11) (.const (.int .i64 0)) (getL T 3) (.int .i64 0)).bind fun v2 =>
(guardV v2 true (some ([(getL T 1)], s)) (some ([undef], s))).bind fun q3 =>
(guardV v2 true (some ([(getL T 0)], q3.2)) (some ([undef], q3.2))).bind fun q4 =>
(guardV v2 true (some ([(getL T 3)], q4.2)) (some ([undef], q4.2))).bind fun q5 =>
(guardV v2 true ((abin Tryz.prog .sub 3 (.tmp 16) (.const (.int .i64 1)) (getL q5.1 0) (.int .i64 1)).bind fun v6 =>
some ([v6], q5.2)) (some ([undef], q5.2))).bind fun q7 =>
(guardV v2 true ((aindexS 2 (getL q4.1 0) (getL q7.1 0)).bind fun v8 =>
some ([v8], q7.2)) (some ([undef], q7.2))).bind fun q9 =>
(guardV v2 true ((aload true 2 (getL q9.1 0) (frzS q9.2)).bind fun v26 =>
some (v26, (frzS q9.2))) (some (undef, (frzS q9.2)))).bind fun r10 =>
((guardV v2 true ((callV Tryz.prog R (getL q3.1 0) [r10.1] (frzS q9.2)).bind fun r25 =>
some (r25.1, r25.2)) (some (undef, (frzS q9.2)))).map (quietR q9.2)).bind fun r11 =>
(guardV v2 true (some ([(getL T 1)], r11.2)) (some ([undef], r11.2))).bind fun q12 =>
(guardV v2 true (some ([(getL T 0)], q12.2)) (some ([undef], q12.2))).bind fun q13 =>
(guardV v2 true (some ([(getL T 3)], q13.2)) (some ([undef], q13.2))).bind fun q14 =>
(guardV v2 true ((aindexS 2 (getL q13.1 0) (getL q14.1 0)).bind fun v15 =>
some ([v15], q14.2)) (some ([undef], q14.2))).bind fun q16 =>
(guardV v2 true ((aload true 2 (getL q16.1 0) (frzS q16.2)).bind fun v24 =>
some (v24, (frzS q16.2))) (some (undef, (frzS q16.2)))).bind fun r17 =>
((guardV v2 true ((callV Tryz.prog R (getL q12.1 0) [r17.1] q16.2).bind fun r23 =>
some (r23.1, r23.2)) (some (undef, q16.2))).bind (ownR q16.2)).bind fun r18 =>
(guardV v2 true ((abin Tryz.prog .geq 22 (.tmp 20) (.tmp 26) r11.1 r18.1).bind fun v19 =>
some ([v19], r18.2)) (some ([undef], r18.2))).bind fun q20 =>
(apick v2 (getL q20.1 0) (.bool false)).bind fun v21 =>
condV v21
 (some (.ret, [(.bool false)], q20.2))
 ((abin Tryz.prog .add 3 (.tmp 8) (.const (.int .i64 1)) (getL T 3) (.int .i64 1)).bind fun v22 =>
some (.normal, [(getL T 0), (getL T 1), (getL T 2), v22], q20.2)))
 (some (.exit 0, [], s))

noncomputable def record_rising_api_Hold (R : Caller) (x0 x1 : Value) (s : St) : Option (Value × St) :=
(alenV (.slice 64) x0 s).bind fun v0 =>
(loopL (record_rising_api_Hold.b0 R) [x0, x1, v0, (.int .i64 0)] s).bind fun r27 =>
exV r27.1 [(0, retV [(.bool true)] r27.2.2)]
 (retV [(getL r27.2.1 0)] r27.2.2)

theorem record_rising_api_Hold_of {lib : Lib} (hl : lib 44 = none) {x0 x1 : Value} {s : St} {r : Value × St} (h : record_rising_api_Hold (run Tryz.prog lib hints) x0 x1 s = some r) : run Tryz.prog lib hints 44 [x0, x1] s = some r :=
  run_of hl Tryz.func44 (Eq.trans (by kernel_rfl) h)

theorem record_rising_api_Hold_ok : funcOk Tryz.prog 44 = true := by kernel_rfl
theorem record_rising_api_Hold_call {R : Caller} {xs : List Value} {s : St} : callV Tryz.prog R (.func (.func 44) #[] #[]) xs s = R 44 xs s := callV_eq record_rising_api_Hold_ok

noncomputable def record_CheckShard_2 (R : Caller) (x0 : Value) (s : St) : Option (Value × St) :=
(lbox x0).bind fun v0 =>
(lload false 1 lptr v0).bind fun v1 =>
retV [v1] s

theorem record_CheckShard_2_of {lib : Lib} (hl : lib 45 = none) {x0 : Value} {s : St} {r : Value × St} (h : record_CheckShard_2 (run Tryz.prog lib hints) x0 s = some r) : run Tryz.prog lib hints 45 [x0] s = some r :=
  run_of hl Tryz.func45 (Eq.trans (by kernel_rfl) h)

theorem record_CheckShard_2_ok : funcOk Tryz.prog 45 = true := by kernel_rfl
theorem record_CheckShard_2_call {R : Caller} {xs : List Value} {s : St} : callV Tryz.prog R (.func (.func 45) #[] #[]) xs s = R 45 xs s := callV_eq record_CheckShard_2_ok

noncomputable def record_rising_uint64.b0 (R : Caller) (T : List Value) (s : St) : Res :=
(abin Tryz.prog .lss 3 (.tmp 8) (.tmp 7) (getL T 3) (getL T 2)).bind fun v1 =>
condV v1
 ((abin Tryz.prog .gtr 3 (.tmp 11) (.const (.int .i64 0)) (getL T 3) (.int .i64 0)).bind fun v2 =>
(guardV v2 true (some ([(getL T 1)], s)) (some ([undef], s))).bind fun q3 =>
(guardV v2 true (some ([(getL T 0)], q3.2)) (some ([undef], q3.2))).bind fun q4 =>
(guardV v2 true (some ([(getL T 3)], q4.2)) (some ([undef], q4.2))).bind fun q5 =>
(guardV v2 true ((abin Tryz.prog .sub 3 (.tmp 16) (.const (.int .i64 1)) (getL q5.1 0) (.int .i64 1)).bind fun v6 =>
some ([v6], q5.2)) (some ([undef], q5.2))).bind fun q7 =>
(guardV v2 true ((aindexS 1 (getL q4.1 0) (getL q7.1 0)).bind fun v8 =>
some ([v8], q7.2)) (some ([undef], q7.2))).bind fun q9 =>
(guardV v2 true ((aload false 1 (getL q9.1 0) (frzS q9.2)).bind fun v26 =>
some (v26, (frzS q9.2))) (some (undef, (frzS q9.2)))).bind fun r10 =>
((guardV v2 true ((callV Tryz.prog R (getL q3.1 0) [r10.1] (frzS q9.2)).bind fun r25 =>
some (r25.1, r25.2)) (some (undef, (frzS q9.2)))).map (quietR q9.2)).bind fun r11 =>
(guardV v2 true (some ([(getL T 1)], r11.2)) (some ([undef], r11.2))).bind fun q12 =>
(guardV v2 true (some ([(getL T 0)], q12.2)) (some ([undef], q12.2))).bind fun q13 =>
(guardV v2 true (some ([(getL T 3)], q13.2)) (some ([undef], q13.2))).bind fun q14 =>
(guardV v2 true ((aindexS 1 (getL q13.1 0) (getL q14.1 0)).bind fun v15 =>
some ([v15], q14.2)) (some ([undef], q14.2))).bind fun q16 =>
(guardV v2 true ((aload false 1 (getL q16.1 0) (frzS q16.2)).bind fun v24 =>
some (v24, (frzS q16.2))) (some (undef, (frzS q16.2)))).bind fun r17 =>
((guardV v2 true ((callV Tryz.prog R (getL q12.1 0) [r17.1] q16.2).bind fun r23 =>
some (r23.1, r23.2)) (some (undef, q16.2))).bind (ownR q16.2)).bind fun r18 =>
(guardV v2 true ((abin Tryz.prog .geq 22 (.tmp 20) (.tmp 26) r11.1 r18.1).bind fun v19 =>
some ([v19], r18.2)) (some ([undef], r18.2))).bind fun q20 =>
(apick v2 (getL q20.1 0) (.bool false)).bind fun v21 =>
condV v21
 (some (.ret, [(.bool false)], q20.2))
 ((abin Tryz.prog .add 3 (.tmp 8) (.const (.int .i64 1)) (getL T 3) (.int .i64 1)).bind fun v22 =>
some (.normal, [(getL T 0), (getL T 1), (getL T 2), v22], q20.2)))
 (some (.exit 0, [], s))

noncomputable def record_rising_uint64 (R : Caller) (x0 x1 : Value) (s : St) : Option (Value × St) :=
(alenV (.slice 22) x0 s).bind fun v0 =>
(loopL (record_rising_uint64.b0 R) [x0, x1, v0, (.int .i64 0)] s).bind fun r27 =>
exV r27.1 [(0, retV [(.bool true)] r27.2.2)]
 (retV [(getL r27.2.1 0)] r27.2.2)

theorem record_rising_uint64_of {lib : Lib} (hl : lib 46 = none) {x0 x1 : Value} {s : St} {r : Value × St} (h : record_rising_uint64 (run Tryz.prog lib hints) x0 x1 s = some r) : run Tryz.prog lib hints 46 [x0, x1] s = some r :=
  run_of hl Tryz.func46 (Eq.trans (by kernel_rfl) h)

theorem record_rising_uint64_ok : funcOk Tryz.prog 46 = true := by kernel_rfl
theorem record_rising_uint64_call {R : Caller} {xs : List Value} {s : St} : callV Tryz.prog R (.func (.func 46) #[] #[]) xs s = R 46 xs s := callV_eq record_rising_uint64_ok

noncomputable def record_CheckShard_3 (R : Caller) (x0 : Value) (s : St) : Option (Value × St) :=
retV [x0] s

theorem record_CheckShard_3_of {lib : Lib} (hl : lib 47 = none) {x0 : Value} {s : St} {r : Value × St} (h : record_CheckShard_3 (run Tryz.prog lib hints) x0 s = some r) : run Tryz.prog lib hints 47 [x0] s = some r :=
  run_of hl Tryz.func47 (Eq.trans (by kernel_rfl) h)

theorem record_CheckShard_3_ok : funcOk Tryz.prog 47 = true := by kernel_rfl
theorem record_CheckShard_3_call {R : Caller} {xs : List Value} {s : St} : callV Tryz.prog R (.func (.func 47) #[] #[]) xs s = R 47 xs s := callV_eq record_CheckShard_3_ok

noncomputable def ref17_Check.b0 (R : Caller) (T : List Value) (s : St) : Res :=
(abin Tryz.prog .lss 3 (.tmp 22) (.tmp 21) (getL T 3) (getL T 2)).bind fun v13 =>
condV v13
 ((aindexS 2 (getL T 1) (getL T 3)).bind fun v14 =>
(aload true 2 v14 s).bind fun v15 =>
(lstore 2 lptr v15 (.agg #[(.string ⟨#[]⟩), (.int .i64 0)])).bind fun v16 =>
(lload false 1 (.pointer (some ⟨0, 1, none⟩)) v16).bind fun v17 =>
(abin Tryz.prog .lss 3 (.tmp 28) (.const (.int .i64 1)) v17 (.int .i64 1)).bind fun v18 =>
(guardV v18 false (some ([(.pointer (some ⟨0, 1, none⟩))], s)) (some ([undef], s))).bind fun q19 =>
(guardV v18 false ((lload false 1 (getL q19.1 0) v16).bind fun v20 =>
some ([v20], q19.2)) (some ([undef], q19.2))).bind fun q21 =>
(guardV v18 false ((abin Tryz.prog .gtr 3 (.tmp 32) (.const (.int .i64 4)) (getL q21.1 0) (.int .i64 4)).bind fun v22 =>
some ([v22], q21.2)) (some ([undef], q21.2))).bind fun q23 =>
(apick v18 (.bool true) (getL q23.1 0)).bind fun v24 =>
(guardV v24 false (some ([(getL T 3)], q23.2)) (some ([undef], q23.2))).bind fun q25 =>
(guardV v24 false ((abin Tryz.prog .gtr 3 (.tmp 36) (.const (.int .i64 0)) (getL q25.1 0) (.int .i64 0)).bind fun v26 =>
some ([v26], q25.2)) (some ([undef], q25.2))).bind fun q27 =>
(guardV v24 false (some ([(getL q27.1 0)], q27.2)) (some ([undef], q27.2))).bind fun q28 =>
(guardV (getL q28.1 0) true (some ([lptr], q28.2)) (some ([undef], q28.2))).bind fun q29 =>
(guardV (getL q28.1 0) true ((lload false 1 (getL q29.1 0) v16).bind fun v30 =>
some ([v30], q29.2)) (some ([undef], q29.2))).bind fun q31 =>
((guardV (getL q28.1 0) true ((callV Tryz.prog R (.func (.func 110) #[] #[]) [(getL q31.1 0)] q31.2).bind fun r57 =>
some (r57.1, r57.2)) (some (undef, q31.2))).bind (ownR q31.2)).bind fun r32 =>
(guardV (getL q28.1 0) true ((abin Tryz.prog .neq 38 (.tmp 41) (.const (.int .i64 0)) r32.1 (.int .i64 0)).bind fun v33 =>
some ([v33], r32.2)) (some ([undef], r32.2))).bind fun q34 =>
(guardV (getL q28.1 0) true (some ([(getL q34.1 0)], q34.2)) (some ([undef], q34.2))).bind fun q35 =>
(guardV (getL q35.1 0) false (some ([(getL T 0)], q35.2)) (some ([undef], q35.2))).bind fun q36 =>
(guardV (getL q35.1 0) false (some ([(getL T 3)], q36.2)) (some ([undef], q36.2))).bind fun q37 =>
(guardV (getL q35.1 0) false ((abin Tryz.prog .sub 3 (.tmp 45) (.const (.int .i64 1)) (getL q37.1 0) (.int .i64 1)).bind fun v38 =>
some ([v38], q37.2)) (some ([undef], q37.2))).bind fun q39 =>
(guardV (getL q35.1 0) false ((aindexS 2 (getL q36.1 0) (getL q39.1 0)).bind fun v40 =>
some ([v40], q39.2)) (some ([undef], q39.2))).bind fun q41 =>
(guardV (getL q35.1 0) false ((afieldAddr 0 (getL q41.1 0)).bind fun v42 =>
some ([v42], q41.2)) (some ([undef], q41.2))).bind fun q43 =>
((guardV (getL q35.1 0) false ((aload false 1 (getL q43.1 0) q43.2).bind fun v56 =>
some (v56, q43.2)) (some (undef, q43.2))).bind (ownR q43.2)).bind fun r44 =>
(guardV (getL q35.1 0) false (some ([lptr], r44.2)) (some ([undef], r44.2))).bind fun q45 =>
(guardV (getL q35.1 0) false ((lload false 1 (getL q45.1 0) v16).bind fun v46 =>
some ([v46], q45.2)) (some ([undef], q45.2))).bind fun q47 =>
(guardV (getL q35.1 0) false ((abin Tryz.prog .geq 9 (.tmp 49) (.tmp 51) r44.1 (getL q47.1 0)).bind fun v48 =>
some ([v48], q47.2)) (some ([undef], q47.2))).bind fun q49 =>
(guardV (getL q28.1 0) true ((apick (getL q35.1 0) (.bool true) (getL q49.1 0)).bind fun v50 =>
some ([v50], q49.2)) (some ([undef], q49.2))).bind fun q51 =>
(guardV v24 false ((apick (getL q28.1 0) (getL q51.1 0) (.bool false)).bind fun v52 =>
some ([v52], q51.2)) (some ([undef], q51.2))).bind fun q53 =>
(apick v24 (.bool true) (getL q53.1 0)).bind fun v54 =>
condV v54
 (some (.ret, [(.int .i64 170)], q53.2))
 ((abin Tryz.prog .add 3 (.tmp 22) (.const (.int .i64 1)) (getL T 3) (.int .i64 1)).bind fun v55 =>
some (.normal, [(getL T 0), (getL T 1), (getL T 2), v55], q53.2)))
 (some (.exit 0, [], s))

noncomputable def ref17_Check (R : Caller) (x0 : Value) (s : St) : Option (Value × St) :=
(alenV (.slice 54) x0 s).bind fun v0 =>
(abin Tryz.prog .lss 3 (.tmp 6) (.const (.int .i64 1)) v0 (.int .i64 1)).bind fun v1 =>
(guardV v1 false ((alenV (.slice 54) x0 s).bind fun v2 =>
(abin Tryz.prog .gtr 3 (.tmp 10) (.const (.int .i64 6)) v2 (.int .i64 6)).bind fun v3 =>
some ([v3], s)) (some ([undef], s))).bind fun q4 =>
(apick v1 (.bool true) (getL q4.1 0)).bind fun v5 =>
(guardV v5 false ((aindexS 2 x0 (.int .i64 0)).bind fun v6 =>
(afieldAddr 0 v6).bind fun v7 =>
(aload false 1 v7 q4.2).bind fun v8 =>
(abin Tryz.prog .neq 9 (.tmp 17) (.const (.string ⟨#[]⟩)) v8 (.string ⟨#[]⟩)).bind fun v9 =>
some ([v9], q4.2)) (some ([undef], q4.2))).bind fun q10 =>
(apick v5 (.bool true) (getL q10.1 0)).bind fun v11 =>
condV v11
 (retV [(.int .i64 170)] q10.2)
 ((alenV (.slice 54) x0 q10.2).bind fun v12 =>
(loopL (ref17_Check.b0 R) [x0, x0, v12, (.int .i64 0)] q10.2).bind fun r58 =>
exV r58.1 [(0, retV [(.int .i64 0)] r58.2.2)]
 (retV [(getL r58.2.1 0)] r58.2.2))

theorem ref17_Check_of {lib : Lib} (hl : lib 48 = none) {x0 : Value} {s : St} {r : Value × St} (h : ref17_Check (run Tryz.prog lib hints) x0 s = some r) : run Tryz.prog lib hints 48 [x0] s = some r :=
  run_of hl Tryz.func48 (Eq.trans (by kernel_rfl) h)

theorem ref17_Check_ok : funcOk Tryz.prog 48 = true := by kernel_rfl
noncomputable def ref02_Check (R : Caller) (x0 : Value) (s : St) : Option (Value × St) :=
(lbox x0).bind fun v0 =>
(lload false 1 lptr v0).bind fun v1 =>
(alenV .string v1 s).bind fun v2 =>
(abin Tryz.prog .gtr 3 (.tmp 5) (.const (.int .i64 12)) v2 (.int .i64 12)).bind fun v3 =>
(guardV v3 false ((lload false 1 (.pointer (some ⟨0, 1, none⟩)) v0).bind fun v4 =>
(alenV .string v4 s).bind fun v5 =>
(abin Tryz.prog .gtr 3 (.tmp 10) (.const (.int .i64 12)) v5 (.int .i64 12)).bind fun v6 =>
some ([v6], s)) (some ([undef], s))).bind fun q7 =>
(apick v3 (.bool true) (getL q7.1 0)).bind fun v8 =>
(guardV v8 false ((lload false 1 (.pointer (some ⟨0, 1, none⟩)) v0).bind fun v9 =>
(abin Tryz.prog .neq 9 (.tmp 15) (.const (.string ⟨#[]⟩)) v9 (.string ⟨#[]⟩)).bind fun v10 =>
some ([v10], q7.2)) (some ([undef], q7.2))).bind fun q11 =>
(guardV (getL q11.1 0) true ((lload false 1 lptr v0).bind fun v12 =>
(lload false 1 (.pointer (some ⟨0, 1, none⟩)) v0).bind fun v13 =>
(abin Tryz.prog .geq 9 (.tmp 19) (.tmp 21) v12 v13).bind fun v14 =>
some ([v14], q11.2)) (some ([undef], q11.2))).bind fun q15 =>
(guardV v8 false ((apick (getL q11.1 0) (getL q15.1 0) (.bool false)).bind fun v16 =>
some ([v16], q15.2)) (some ([undef], q15.2))).bind fun q17 =>
(apick v8 (.bool true) (getL q17.1 0)).bind fun v18 =>
condV v18
 (retV [(.int .i64 21)] q17.2)
 (retV [(.int .i64 0)] q17.2)

theorem ref02_Check_of {lib : Lib} (hl : lib 49 = none) {x0 : Value} {s : St} {r : Value × St} (h : ref02_Check (run Tryz.prog lib hints) x0 s = some r) : run Tryz.prog lib hints 49 [x0] s = some r :=
  run_of hl Tryz.func49 (Eq.trans (by kernel_rfl) h)

theorem ref02_Check_ok : funcOk Tryz.prog 49 = true := by kernel_rfl
theorem ref02_Check_call {R : Caller} {xs : List Value} {s : St} : callV Tryz.prog R (.func (.func 49) #[] #[]) xs s = R 49 xs s := callV_eq ref02_Check_ok

noncomputable def ref04_All.b0 (R : Caller) (T : List Value) (s : St) : Res :=
(abin Tryz.prog .lss 3 (.tmp 8) (.tmp 7) (getL T 2) (getL T 1)).bind fun v1 =>
condV v1
 ((aindexS 6 (getL T 0) (getL T 2)).bind fun v2 =>
(aload true 6 v2 s).bind fun v3 =>
(lstore 6 lptr v3 (.agg #[(.int .i64 0), (.string ⟨#[]⟩), (.string ⟨#[]⟩), (.string ⟨#[]⟩), (.string ⟨#[]⟩), (.int .i64 0)])).bind fun v4 =>
(lload true 6 lptr v4).bind fun v5 =>
(callV Tryz.prog R (.func (.func 111) #[] #[]) [v5] s).bind fun r6 =>
(abin Tryz.prog .neq 38 (.tmp 14) (.const (.int .i64 0)) r6.1 (.int .i64 0)).bind fun v7 =>
condV v7
 (some (.ret, [r6.1], r6.2))
 ((abin Tryz.prog .add 3 (.tmp 8) (.const (.int .i64 1)) (getL T 2) (.int .i64 1)).bind fun v8 =>
some (.normal, [(getL T 0), (getL T 1), v8], r6.2)))
 (some (.exit 0, [], s))

noncomputable def ref04_All (R : Caller) (x0 : Value) (s : St) : Option (Value × St) :=
(alenV (.slice 72) x0 s).bind fun v0 =>
(loopL (ref04_All.b0 R) [x0, v0, (.int .i64 0)] s).bind fun r9 =>
exV r9.1 [(0, retV [(.int .i64 0)] r9.2.2)]
 (retV [(getL r9.2.1 0)] r9.2.2)

noncomputable def record_CheckCoord_1 (R : Caller) (x0 x1 : Value) (s : St) : Option (Value × St) :=
(abin Tryz.prog .lss 3 (.tmp 4) (.const (.int .i64 1)) x0 (.int .i64 1)).bind fun v0 =>
(guardV v0 false ((afieldAddr 0 x1).bind fun v1 =>
(aload false 1 v1 s).bind fun v2 =>
(abin Tryz.prog .gtr 3 (.tmp 7) (.tmp 9) x0 v2).bind fun v3 =>
some ([v3], s)) (some ([undef], s))).bind fun q4 =>
(apick v0 (.bool true) (getL q4.1 0)).bind fun v5 =>
retV [v5] q4.2

theorem record_CheckCoord_1_of {lib : Lib} (hl : lib 51 = none) {x0 x1 : Value} {s : St} {r : Value × St} (h : record_CheckCoord_1 (run Tryz.prog lib hints) x0 x1 s = some r) : run Tryz.prog lib hints 51 [x0, x1] s = some r :=
  run_of hl Tryz.func51 (Eq.trans (by kernel_rfl) h)

theorem record_CheckCoord_1_ok : funcOk Tryz.prog 51 = true := by kernel_rfl
noncomputable def slices_ContainsFunc_api_Owner_api_Owner (R : Caller) (x0 x1 : Value) (s : St) : Option (Value × St) :=
(callV Tryz.prog R (.func (.func 112) #[] #[]) [x0, x1] s).bind fun r0 =>
(abin Tryz.prog .geq 3 (.tmp 7) (.const (.int .i64 0)) r0.1 (.int .i64 0)).bind fun v1 =>
retV [v1] r0.2

theorem slices_ContainsFunc_api_Owner_api_Owner_of {lib : Lib} (hl : lib 52 = none) {x0 x1 : Value} {s : St} {r : Value × St} (h : slices_ContainsFunc_api_Owner_api_Owner (run Tryz.prog lib hints) x0 x1 s = some r) : run Tryz.prog lib hints 52 [x0, x1] s = some r :=
  run_of hl Tryz.func52 (Eq.trans (by kernel_rfl) h)

theorem slices_ContainsFunc_api_Owner_api_Owner_ok : funcOk Tryz.prog 52 = true := by kernel_rfl
theorem slices_ContainsFunc_api_Owner_api_Owner_call {R : Caller} {xs : List Value} {s : St} : callV Tryz.prog R (.func (.func 52) #[] #[]) xs s = R 52 xs s := callV_eq slices_ContainsFunc_api_Owner_api_Owner_ok

noncomputable def record_CheckCoord_2 (R : Caller) (x0 x1 : Value) (s : St) : Option (Value × St) :=
(lbox x0).bind fun v0 =>
(aload false 1 x1 s).bind fun v1 =>
(lload false 1 (.pointer (some ⟨0, 1, none⟩)) v0).bind fun v2 =>
(callV Tryz.prog R v1 [v2] s).bind fun r3 =>
retV [r3.1] r3.2

theorem record_CheckCoord_2_of {lib : Lib} (hl : lib 53 = none) {x0 x1 : Value} {s : St} {r : Value × St} (h : record_CheckCoord_2 (run Tryz.prog lib hints) x0 x1 s = some r) : run Tryz.prog lib hints 53 [x0, x1] s = some r :=
  run_of hl Tryz.func53 (Eq.trans (by kernel_rfl) h)

theorem record_CheckCoord_2_ok : funcOk Tryz.prog 53 = true := by kernel_rfl
noncomputable def slices_ContainsFunc_api_Decision_api_Decision (R : Caller) (x0 x1 : Value) (s : St) : Option (Value × St) :=
(callV Tryz.prog R (.func (.func 113) #[] #[]) [x0, x1] s).bind fun r0 =>
(abin Tryz.prog .geq 3 (.tmp 7) (.const (.int .i64 0)) r0.1 (.int .i64 0)).bind fun v1 =>
retV [v1] r0.2

theorem slices_ContainsFunc_api_Decision_api_Decision_of {lib : Lib} (hl : lib 54 = none) {x0 x1 : Value} {s : St} {r : Value × St} (h : slices_ContainsFunc_api_Decision_api_Decision (run Tryz.prog lib hints) x0 x1 s = some r) : run Tryz.prog lib hints 54 [x0, x1] s = some r :=
  run_of hl Tryz.func54 (Eq.trans (by kernel_rfl) h)

theorem slices_ContainsFunc_api_Decision_api_Decision_ok : funcOk Tryz.prog 54 = true := by kernel_rfl
theorem slices_ContainsFunc_api_Decision_api_Decision_call {R : Caller} {xs : List Value} {s : St} : callV Tryz.prog R (.func (.func 54) #[] #[]) xs s = R 54 xs s := callV_eq slices_ContainsFunc_api_Decision_api_Decision_ok

noncomputable def record_CheckCoord_3 (R : Caller) (x0 x1 x2 : Value) (s : St) : Option (Value × St) :=
(lbox x0).bind fun v0 =>
(lload false 1 lptr v0).bind fun v1 =>
(afieldAddr 1 x1).bind fun v2 =>
(aload false 1 v2 s).bind fun v3 =>
(abin Tryz.prog .add 22 (.tmp 8) (.const (.int .u64 1)) v3 (.int .u64 1)).bind fun v4 =>
(abin Tryz.prog .shl 22 (.tmp 9) (.const (.int .u64 32)) v4 (.int .u64 32)).bind fun v5 =>
(abin Tryz.prog .geq 22 (.tmp 6) (.tmp 10) v1 v5).bind fun v6 =>
(guardV v6 false ((lload false 1 (.pointer (some ⟨0, 1, none⟩)) v0).bind fun v7 =>
(callV Tryz.prog R (.func (.func 56) #[] #[]) [v7] s).bind fun r8 =>
(aun .not r8.1).bind fun v9 =>
some ([v9], r8.2)) (some ([undef], s))).bind fun q10 =>
(apick v6 (.bool true) (getL q10.1 0)).bind fun v11 =>
(guardV v11 false ((lload false 1 (.pointer (some ⟨0, 4, none⟩)) v0).bind fun v12 =>
(alenV (.slice 3) v12 q10.2).bind fun v13 =>
(abin Tryz.prog .eql 3 (.tmp 21) (.const (.int .i64 0)) v13 (.int .i64 0)).bind fun v14 =>
some ([v14], q10.2)) (some ([undef], q10.2))).bind fun q15 =>
(apick v11 (.bool true) (getL q15.1 0)).bind fun v16 =>
(guardV v16 false ((lload false 1 (.pointer (some ⟨0, 4, none⟩)) v0).bind fun v17 =>
(aload false 1 x2 q15.2).bind fun v18 =>
(callV Tryz.prog R (.func (.func 57) #[] #[]) [v17, v18] q15.2).bind fun r19 =>
some ([r19.1], r19.2)) (some ([undef], q15.2))).bind fun q20 =>
(apick v16 (.bool true) (getL q20.1 0)).bind fun v21 =>
(guardV v21 false ((lload false 1 (.pointer (some ⟨0, 4, none⟩)) v0).bind fun v22 =>
(callV Tryz.prog R (.func (.func 58) #[] #[]) [v22, (.func (.func 59) #[] #[])] q20.2).bind fun r23 =>
(aun .not r23.1).bind fun v24 =>
some ([v24], r23.2)) (some ([undef], q20.2))).bind fun q25 =>
(apick v21 (.bool true) (getL q25.1 0)).bind fun v26 =>
retV [v26] q25.2

theorem record_CheckCoord_3_of {lib : Lib} (hl : lib 55 = none) {x0 x1 x2 : Value} {s : St} {r : Value × St} (h : record_CheckCoord_3 (run Tryz.prog lib hints) x0 x1 x2 s = some r) : run Tryz.prog lib hints 55 [x0, x1, x2] s = some r :=
  run_of hl Tryz.func55 (Eq.trans (by kernel_rfl) h)

theorem record_CheckCoord_3_ok : funcOk Tryz.prog 55 = true := by kernel_rfl
noncomputable def record_client (R : Caller) (x0 : Value) (s : St) : Option (Value × St) :=
(abin Tryz.prog .geq 3 (.tmp 3) (.const (.int .i64 1)) x0 (.int .i64 1)).bind fun v0 =>
(guardV v0 true ((abin Tryz.prog .leq 3 (.tmp 6) (.const (.int .i64 4)) x0 (.int .i64 4)).bind fun v1 =>
some ([v1], s)) (some ([undef], s))).bind fun q2 =>
(apick v0 (getL q2.1 0) (.bool false)).bind fun v3 =>
retV [v3] q2.2

theorem record_client_of {lib : Lib} (hl : lib 56 = none) {x0 : Value} {s : St} {r : Value × St} (h : record_client (run Tryz.prog lib hints) x0 s = some r) : run Tryz.prog lib hints 56 [x0] s = some r :=
  run_of hl Tryz.func56 (Eq.trans (by kernel_rfl) h)

theorem record_client_ok : funcOk Tryz.prog 56 = true := by kernel_rfl
theorem record_client_call {R : Caller} {xs : List Value} {s : St} : callV Tryz.prog R (.func (.func 56) #[] #[]) xs s = R 56 xs s := callV_eq record_client_ok

noncomputable def slices_ContainsFunc_int_int (R : Caller) (x0 x1 : Value) (s : St) : Option (Value × St) :=
(callV Tryz.prog R (.func (.func 114) #[] #[]) [x0, x1] s).bind fun r0 =>
(abin Tryz.prog .geq 3 (.tmp 7) (.const (.int .i64 0)) r0.1 (.int .i64 0)).bind fun v1 =>
retV [v1] r0.2

theorem slices_ContainsFunc_int_int_of {lib : Lib} (hl : lib 57 = none) {x0 x1 : Value} {s : St} {r : Value × St} (h : slices_ContainsFunc_int_int (run Tryz.prog lib hints) x0 x1 s = some r) : run Tryz.prog lib hints 57 [x0, x1] s = some r :=
  run_of hl Tryz.func57 (Eq.trans (by kernel_rfl) h)

theorem slices_ContainsFunc_int_int_ok : funcOk Tryz.prog 57 = true := by kernel_rfl
theorem slices_ContainsFunc_int_int_call {R : Caller} {xs : List Value} {s : St} : callV Tryz.prog R (.func (.func 57) #[] #[]) xs s = R 57 xs s := callV_eq slices_ContainsFunc_int_int_ok

noncomputable def record_rising_int.b0 (R : Caller) (T : List Value) (s : St) : Res :=
(abin Tryz.prog .lss 3 (.tmp 8) (.tmp 7) (getL T 3) (getL T 2)).bind fun v1 =>
condV v1
 ((abin Tryz.prog .gtr 3 (.tmp 11) (.const (.int .i64 0)) (getL T 3) (.int .i64 0)).bind fun v2 =>
(guardV v2 true (some ([(getL T 1)], s)) (some ([undef], s))).bind fun q3 =>
(guardV v2 true (some ([(getL T 0)], q3.2)) (some ([undef], q3.2))).bind fun q4 =>
(guardV v2 true (some ([(getL T 3)], q4.2)) (some ([undef], q4.2))).bind fun q5 =>
(guardV v2 true ((abin Tryz.prog .sub 3 (.tmp 16) (.const (.int .i64 1)) (getL q5.1 0) (.int .i64 1)).bind fun v6 =>
some ([v6], q5.2)) (some ([undef], q5.2))).bind fun q7 =>
(guardV v2 true ((aindexS 1 (getL q4.1 0) (getL q7.1 0)).bind fun v8 =>
some ([v8], q7.2)) (some ([undef], q7.2))).bind fun q9 =>
(guardV v2 true ((aload false 1 (getL q9.1 0) (frzS q9.2)).bind fun v26 =>
some (v26, (frzS q9.2))) (some (undef, (frzS q9.2)))).bind fun r10 =>
((guardV v2 true ((callV Tryz.prog R (getL q3.1 0) [r10.1] (frzS q9.2)).bind fun r25 =>
some (r25.1, r25.2)) (some (undef, (frzS q9.2)))).map (quietR q9.2)).bind fun r11 =>
(guardV v2 true (some ([(getL T 1)], r11.2)) (some ([undef], r11.2))).bind fun q12 =>
(guardV v2 true (some ([(getL T 0)], q12.2)) (some ([undef], q12.2))).bind fun q13 =>
(guardV v2 true (some ([(getL T 3)], q13.2)) (some ([undef], q13.2))).bind fun q14 =>
(guardV v2 true ((aindexS 1 (getL q13.1 0) (getL q14.1 0)).bind fun v15 =>
some ([v15], q14.2)) (some ([undef], q14.2))).bind fun q16 =>
(guardV v2 true ((aload false 1 (getL q16.1 0) (frzS q16.2)).bind fun v24 =>
some (v24, (frzS q16.2))) (some (undef, (frzS q16.2)))).bind fun r17 =>
((guardV v2 true ((callV Tryz.prog R (getL q12.1 0) [r17.1] q16.2).bind fun r23 =>
some (r23.1, r23.2)) (some (undef, q16.2))).bind (ownR q16.2)).bind fun r18 =>
(guardV v2 true ((abin Tryz.prog .geq 22 (.tmp 20) (.tmp 26) r11.1 r18.1).bind fun v19 =>
some ([v19], r18.2)) (some ([undef], r18.2))).bind fun q20 =>
(apick v2 (getL q20.1 0) (.bool false)).bind fun v21 =>
condV v21
 (some (.ret, [(.bool false)], q20.2))
 ((abin Tryz.prog .add 3 (.tmp 8) (.const (.int .i64 1)) (getL T 3) (.int .i64 1)).bind fun v22 =>
some (.normal, [(getL T 0), (getL T 1), (getL T 2), v22], q20.2)))
 (some (.exit 0, [], s))

noncomputable def record_rising_int (R : Caller) (x0 x1 : Value) (s : St) : Option (Value × St) :=
(alenV (.slice 3) x0 s).bind fun v0 =>
(loopL (record_rising_int.b0 R) [x0, x1, v0, (.int .i64 0)] s).bind fun r27 =>
exV r27.1 [(0, retV [(.bool true)] r27.2.2)]
 (retV [(getL r27.2.1 0)] r27.2.2)

theorem record_rising_int_of {lib : Lib} (hl : lib 58 = none) {x0 x1 : Value} {s : St} {r : Value × St} (h : record_rising_int (run Tryz.prog lib hints) x0 x1 s = some r) : run Tryz.prog lib hints 58 [x0, x1] s = some r :=
  run_of hl Tryz.func58 (Eq.trans (by kernel_rfl) h)

theorem record_rising_int_ok : funcOk Tryz.prog 58 = true := by kernel_rfl
theorem record_rising_int_call {R : Caller} {xs : List Value} {s : St} : callV Tryz.prog R (.func (.func 58) #[] #[]) xs s = R 58 xs s := callV_eq record_rising_int_ok

noncomputable def record_CheckCoord_3_1 (R : Caller) (x0 : Value) (s : St) : Option (Value × St) :=
(convInt .u64 x0).bind fun v0 =>
retV [v0] s

theorem record_CheckCoord_3_1_of {lib : Lib} (hl : lib 59 = none) {x0 : Value} {s : St} {r : Value × St} (h : record_CheckCoord_3_1 (run Tryz.prog lib hints) x0 s = some r) : run Tryz.prog lib hints 59 [x0] s = some r :=
  run_of hl Tryz.func59 (Eq.trans (by kernel_rfl) h)

theorem record_CheckCoord_3_1_ok : funcOk Tryz.prog 59 = true := by kernel_rfl
theorem record_CheckCoord_3_1_call {R : Caller} {xs : List Value} {s : St} : callV Tryz.prog R (.func (.func 59) #[] #[]) xs s = R 59 xs s := callV_eq record_CheckCoord_3_1_ok

noncomputable def slices_ContainsFunc_api_Last_api_Last (R : Caller) (x0 x1 : Value) (s : St) : Option (Value × St) :=
(callV Tryz.prog R (.func (.func 115) #[] #[]) [x0, x1] s).bind fun r0 =>
(abin Tryz.prog .geq 3 (.tmp 7) (.const (.int .i64 0)) r0.1 (.int .i64 0)).bind fun v1 =>
retV [v1] r0.2

theorem slices_ContainsFunc_api_Last_api_Last_of {lib : Lib} (hl : lib 60 = none) {x0 x1 : Value} {s : St} {r : Value × St} (h : slices_ContainsFunc_api_Last_api_Last (run Tryz.prog lib hints) x0 x1 s = some r) : run Tryz.prog lib hints 60 [x0, x1] s = some r :=
  run_of hl Tryz.func60 (Eq.trans (by kernel_rfl) h)

theorem slices_ContainsFunc_api_Last_api_Last_ok : funcOk Tryz.prog 60 = true := by kernel_rfl
theorem slices_ContainsFunc_api_Last_api_Last_call {R : Caller} {xs : List Value} {s : St} : callV Tryz.prog R (.func (.func 60) #[] #[]) xs s = R 60 xs s := callV_eq slices_ContainsFunc_api_Last_api_Last_ok

noncomputable def record_CheckCoord_4 (R : Caller) (x0 : Value) (s : St) : Option (Value × St) :=
(lbox x0).bind fun v0 =>
(lload false 1 lptr v0).bind fun v1 =>
(callV Tryz.prog R (.func (.func 56) #[] #[]) [v1] s).bind fun r2 =>
(aun .not r2.1).bind fun v3 =>
(guardV v3 false ((lload false 1 (.pointer (some ⟨0, 3, none⟩)) v0).bind fun v4 =>
(callV Tryz.prog R (.func (.func 62) #[] #[]) [v4] r2.2).bind fun r5 =>
(aun .not r5.1).bind fun v6 =>
some ([v6], r5.2)) (some ([undef], r2.2))).bind fun q7 =>
(apick v3 (.bool true) (getL q7.1 0)).bind fun v8 =>
retV [v8] q7.2

theorem record_CheckCoord_4_of {lib : Lib} (hl : lib 61 = none) {x0 : Value} {s : St} {r : Value × St} (h : record_CheckCoord_4 (run Tryz.prog lib hints) x0 s = some r) : run Tryz.prog lib hints 61 [x0] s = some r :=
  run_of hl Tryz.func61 (Eq.trans (by kernel_rfl) h)

theorem record_CheckCoord_4_ok : funcOk Tryz.prog 61 = true := by kernel_rfl
theorem record_CheckCoord_4_call {R : Caller} {xs : List Value} {s : St} : callV Tryz.prog R (.func (.func 61) #[] #[]) xs s = R 61 xs s := callV_eq record_CheckCoord_4_ok

noncomputable def record_results (R : Caller) (x0 : Value) (s : St) : Option (Value × St) :=
(anew [.nilFunc] s).bind fun r0 =>
(astore 1 r0.1 (.func (.func 116) #[] #[]) r0.2).bind fun s1 =>
(alenV (.slice 146) x0 s1).bind fun v2 =>
(abin Tryz.prog .leq 3 (.tmp 5) (.const (.int .i64 4)) v2 (.int .i64 4)).bind fun v3 =>
(guardV v3 true ((amkFunc 118 [] [r0.1]).bind fun v4 =>
(callV Tryz.prog R (.func (.func 117) #[] #[]) [x0, v4] s1).bind fun r5 =>
(aun .not r5.1).bind fun v6 =>
some ([v6], r5.2)) (some ([undef], s1))).bind fun q7 =>
(apick v3 (getL q7.1 0) (.bool false)).bind fun v8 =>
retV [v8] q7.2

theorem record_results_of {lib : Lib} (hl : lib 62 = none) {x0 : Value} {s : St} {r : Value × St} (h : record_results (run Tryz.prog lib hints) x0 s = some r) : run Tryz.prog lib hints 62 [x0] s = some r :=
  run_of hl Tryz.func62 (Eq.trans (by kernel_rfl) h)

theorem record_results_ok : funcOk Tryz.prog 62 = true := by kernel_rfl
theorem record_results_call {R : Caller} {xs : List Value} {s : St} : callV Tryz.prog R (.func (.func 62) #[] #[]) xs s = R 62 xs s := callV_eq record_results_ok

noncomputable def record_rising_api_Decision.b0 (R : Caller) (T : List Value) (s : St) : Res :=
(abin Tryz.prog .lss 3 (.tmp 8) (.tmp 7) (getL T 3) (getL T 2)).bind fun v1 =>
condV v1
 ((abin Tryz.prog .gtr 3 (.tmp 11) (.const (.int .i64 0)) (getL T 3) (.int .i64 0)).bind fun v2 =>
(guardV v2 true (some ([(getL T 1)], s)) (some ([undef], s))).bind fun q3 =>
(guardV v2 true (some ([(getL T 0)], q3.2)) (some ([undef], q3.2))).bind fun q4 =>
(guardV v2 true (some ([(getL T 3)], q4.2)) (some ([undef], q4.2))).bind fun q5 =>
(guardV v2 true ((abin Tryz.prog .sub 3 (.tmp 16) (.const (.int .i64 1)) (getL q5.1 0) (.int .i64 1)).bind fun v6 =>
some ([v6], q5.2)) (some ([undef], q5.2))).bind fun q7 =>
(guardV v2 true ((aindexS 5 (getL q4.1 0) (getL q7.1 0)).bind fun v8 =>
some ([v8], q7.2)) (some ([undef], q7.2))).bind fun q9 =>
(guardV v2 true ((aload true 5 (getL q9.1 0) (frzS q9.2)).bind fun v26 =>
some (v26, (frzS q9.2))) (some (undef, (frzS q9.2)))).bind fun r10 =>
((guardV v2 true ((callV Tryz.prog R (getL q3.1 0) [r10.1] (frzS q9.2)).bind fun r25 =>
some (r25.1, r25.2)) (some (undef, (frzS q9.2)))).map (quietR q9.2)).bind fun r11 =>
(guardV v2 true (some ([(getL T 1)], r11.2)) (some ([undef], r11.2))).bind fun q12 =>
(guardV v2 true (some ([(getL T 0)], q12.2)) (some ([undef], q12.2))).bind fun q13 =>
(guardV v2 true (some ([(getL T 3)], q13.2)) (some ([undef], q13.2))).bind fun q14 =>
(guardV v2 true ((aindexS 5 (getL q13.1 0) (getL q14.1 0)).bind fun v15 =>
some ([v15], q14.2)) (some ([undef], q14.2))).bind fun q16 =>
(guardV v2 true ((aload true 5 (getL q16.1 0) (frzS q16.2)).bind fun v24 =>
some (v24, (frzS q16.2))) (some (undef, (frzS q16.2)))).bind fun r17 =>
((guardV v2 true ((callV Tryz.prog R (getL q12.1 0) [r17.1] q16.2).bind fun r23 =>
some (r23.1, r23.2)) (some (undef, q16.2))).bind (ownR q16.2)).bind fun r18 =>
(guardV v2 true ((abin Tryz.prog .geq 22 (.tmp 20) (.tmp 26) r11.1 r18.1).bind fun v19 =>
some ([v19], r18.2)) (some ([undef], r18.2))).bind fun q20 =>
(apick v2 (getL q20.1 0) (.bool false)).bind fun v21 =>
condV v21
 (some (.ret, [(.bool false)], q20.2))
 ((abin Tryz.prog .add 3 (.tmp 8) (.const (.int .i64 1)) (getL T 3) (.int .i64 1)).bind fun v22 =>
some (.normal, [(getL T 0), (getL T 1), (getL T 2), v22], q20.2)))
 (some (.exit 0, [], s))

noncomputable def record_rising_api_Decision (R : Caller) (x0 x1 : Value) (s : St) : Option (Value × St) :=
(alenV (.slice 77) x0 s).bind fun v0 =>
(loopL (record_rising_api_Decision.b0 R) [x0, x1, v0, (.int .i64 0)] s).bind fun r27 =>
exV r27.1 [(0, retV [(.bool true)] r27.2.2)]
 (retV [(getL r27.2.1 0)] r27.2.2)

theorem record_rising_api_Decision_of {lib : Lib} (hl : lib 63 = none) {x0 x1 : Value} {s : St} {r : Value × St} (h : record_rising_api_Decision (run Tryz.prog lib hints) x0 x1 s = some r) : run Tryz.prog lib hints 63 [x0, x1] s = some r :=
  run_of hl Tryz.func63 (Eq.trans (by kernel_rfl) h)

theorem record_rising_api_Decision_ok : funcOk Tryz.prog 63 = true := by kernel_rfl
theorem record_rising_api_Decision_call {R : Caller} {xs : List Value} {s : St} : callV Tryz.prog R (.func (.func 63) #[] #[]) xs s = R 63 xs s := callV_eq record_rising_api_Decision_ok

noncomputable def record_CheckCoord_5 (R : Caller) (x0 : Value) (s : St) : Option (Value × St) :=
(lbox x0).bind fun v0 =>
(lload false 1 lptr v0).bind fun v1 =>
retV [v1] s

theorem record_CheckCoord_5_of {lib : Lib} (hl : lib 64 = none) {x0 : Value} {s : St} {r : Value × St} (h : record_CheckCoord_5 (run Tryz.prog lib hints) x0 s = some r) : run Tryz.prog lib hints 64 [x0] s = some r :=
  run_of hl Tryz.func64 (Eq.trans (by kernel_rfl) h)

theorem record_CheckCoord_5_ok : funcOk Tryz.prog 64 = true := by kernel_rfl
theorem record_CheckCoord_5_call {R : Caller} {xs : List Value} {s : St} : callV Tryz.prog R (.func (.func 64) #[] #[]) xs s = R 64 xs s := callV_eq record_CheckCoord_5_ok

noncomputable def record_rising_api_Last.b0 (R : Caller) (T : List Value) (s : St) : Res :=
(abin Tryz.prog .lss 3 (.tmp 8) (.tmp 7) (getL T 3) (getL T 2)).bind fun v1 =>
condV v1
 ((abin Tryz.prog .gtr 3 (.tmp 11) (.const (.int .i64 0)) (getL T 3) (.int .i64 0)).bind fun v2 =>
(guardV v2 true (some ([(getL T 1)], s)) (some ([undef], s))).bind fun q3 =>
(guardV v2 true (some ([(getL T 0)], q3.2)) (some ([undef], q3.2))).bind fun q4 =>
(guardV v2 true (some ([(getL T 3)], q4.2)) (some ([undef], q4.2))).bind fun q5 =>
(guardV v2 true ((abin Tryz.prog .sub 3 (.tmp 16) (.const (.int .i64 1)) (getL q5.1 0) (.int .i64 1)).bind fun v6 =>
some ([v6], q5.2)) (some ([undef], q5.2))).bind fun q7 =>
(guardV v2 true ((aindexS 4 (getL q4.1 0) (getL q7.1 0)).bind fun v8 =>
some ([v8], q7.2)) (some ([undef], q7.2))).bind fun q9 =>
(guardV v2 true ((aload true 4 (getL q9.1 0) (frzS q9.2)).bind fun v26 =>
some (v26, (frzS q9.2))) (some (undef, (frzS q9.2)))).bind fun r10 =>
((guardV v2 true ((callV Tryz.prog R (getL q3.1 0) [r10.1] (frzS q9.2)).bind fun r25 =>
some (r25.1, r25.2)) (some (undef, (frzS q9.2)))).map (quietR q9.2)).bind fun r11 =>
(guardV v2 true (some ([(getL T 1)], r11.2)) (some ([undef], r11.2))).bind fun q12 =>
(guardV v2 true (some ([(getL T 0)], q12.2)) (some ([undef], q12.2))).bind fun q13 =>
(guardV v2 true (some ([(getL T 3)], q13.2)) (some ([undef], q13.2))).bind fun q14 =>
(guardV v2 true ((aindexS 4 (getL q13.1 0) (getL q14.1 0)).bind fun v15 =>
some ([v15], q14.2)) (some ([undef], q14.2))).bind fun q16 =>
(guardV v2 true ((aload true 4 (getL q16.1 0) (frzS q16.2)).bind fun v24 =>
some (v24, (frzS q16.2))) (some (undef, (frzS q16.2)))).bind fun r17 =>
((guardV v2 true ((callV Tryz.prog R (getL q12.1 0) [r17.1] q16.2).bind fun r23 =>
some (r23.1, r23.2)) (some (undef, q16.2))).bind (ownR q16.2)).bind fun r18 =>
(guardV v2 true ((abin Tryz.prog .geq 22 (.tmp 20) (.tmp 26) r11.1 r18.1).bind fun v19 =>
some ([v19], r18.2)) (some ([undef], r18.2))).bind fun q20 =>
(apick v2 (getL q20.1 0) (.bool false)).bind fun v21 =>
condV v21
 (some (.ret, [(.bool false)], q20.2))
 ((abin Tryz.prog .add 3 (.tmp 8) (.const (.int .i64 1)) (getL T 3) (.int .i64 1)).bind fun v22 =>
some (.normal, [(getL T 0), (getL T 1), (getL T 2), v22], q20.2)))
 (some (.exit 0, [], s))

noncomputable def record_rising_api_Last (R : Caller) (x0 x1 : Value) (s : St) : Option (Value × St) :=
(alenV (.slice 82) x0 s).bind fun v0 =>
(loopL (record_rising_api_Last.b0 R) [x0, x1, v0, (.int .i64 0)] s).bind fun r27 =>
exV r27.1 [(0, retV [(.bool true)] r27.2.2)]
 (retV [(getL r27.2.1 0)] r27.2.2)

theorem record_rising_api_Last_of {lib : Lib} (hl : lib 65 = none) {x0 x1 : Value} {s : St} {r : Value × St} (h : record_rising_api_Last (run Tryz.prog lib hints) x0 x1 s = some r) : run Tryz.prog lib hints 65 [x0, x1] s = some r :=
  run_of hl Tryz.func65 (Eq.trans (by kernel_rfl) h)

theorem record_rising_api_Last_ok : funcOk Tryz.prog 65 = true := by kernel_rfl
theorem record_rising_api_Last_call {R : Caller} {xs : List Value} {s : St} : callV Tryz.prog R (.func (.func 65) #[] #[]) xs s = R 65 xs s := callV_eq record_rising_api_Last_ok

noncomputable def record_CheckCoord_6 (R : Caller) (x0 : Value) (s : St) : Option (Value × St) :=
(lbox x0).bind fun v0 =>
(lload false 1 lptr v0).bind fun v1 =>
(convInt .u64 v1).bind fun v2 =>
retV [v2] s

theorem record_CheckCoord_6_of {lib : Lib} (hl : lib 66 = none) {x0 : Value} {s : St} {r : Value × St} (h : record_CheckCoord_6 (run Tryz.prog lib hints) x0 s = some r) : run Tryz.prog lib hints 66 [x0] s = some r :=
  run_of hl Tryz.func66 (Eq.trans (by kernel_rfl) h)

theorem record_CheckCoord_6_ok : funcOk Tryz.prog 66 = true := by kernel_rfl
theorem record_CheckCoord_6_call {R : Caller} {xs : List Value} {s : St} : callV Tryz.prog R (.func (.func 66) #[] #[]) xs s = R 66 xs s := callV_eq record_CheckCoord_6_ok

noncomputable def record_read.j0 (R : Caller) (T : List Value) (s : St) : Option (Value × St) :=
(anilCheck (getL T 0)).bind fun v13 =>
(afieldAddr 1 v13).bind fun v14 =>
(aload false 1 v14 s).bind fun v15 =>
retV [v15] s

noncomputable def record_read (R : Caller) (x0 x1 x2 : Value) (s : St) : Option (Value × St) :=
(alenV (.slice 5) x0 s).bind fun v0 =>
(abin Tryz.prog .gtr 3 (.tmp 9) (.const (.int .i64 8192)) v0 (.int .i64 8192)).bind fun v1 =>
condV v1
 (retV [(.int .i64 2)] s)
 ((abuild Tryz.prog 170 [(0, x0)]).bind fun v2 =>
(anew (cellsV v2) s).bind fun r3 =>
(callV Tryz.prog R (.func (.func 120) #[] #[]) [r3.1, x1] r3.2).bind fun r4 =>
(callV Tryz.prog R x2 [r3.1] r4.2).bind fun r5 =>
(anilCheck r3.1).bind fun v7 =>
(afieldAddr 0 v7).bind fun v8 =>
(aload false 1 v8 r5.2).bind fun v9 =>
(alenV (.slice 5) v9 r5.2).bind fun v10 =>
(abin Tryz.prog .gtr 3 (.tmp 24) (.const (.int .i64 0)) v10 (.int .i64 0)).bind fun v11 =>
condV v11
 ((callV Tryz.prog R (.func (.func 121) #[] #[]) [r3.1, (.int .i64 11)] r5.2).bind fun r12 =>
joinK (record_read.j0 R) [r3.1] r12.2)
 (joinK (record_read.j0 R) [r3.1] r5.2))

theorem record_read_of {lib : Lib} (hl : lib 68 = none) {x0 x1 x2 : Value} {s : St} {r : Value × St} (h : record_read (run Tryz.prog lib hints) x0 x1 x2 s = some r) : run Tryz.prog lib hints 68 [x0, x1, x2] s = some r :=
  run_of hl Tryz.func68 (Eq.trans (by kernel_rfl) h)

theorem record_read_ok : funcOk Tryz.prog 68 = true := by kernel_rfl
theorem record_read_call {R : Caller} {xs : List Value} {s : St} : callV Tryz.prog R (.func (.func 68) #[] #[]) xs s = R 68 xs s := callV_eq record_read_ok

noncomputable def record_DecodeShard_1 (R : Caller) (x0 x1 : Value) (s : St) : Option (Value × St) :=
(callV Tryz.prog R (.func (.func 70) #[] #[]) [x0] s).bind fun r0 =>
(afieldAddr 0 x1).bind fun v1 =>
(astore 1 v1 r0.1 r0.2).bind fun s2 =>
(afieldAddr 1 x1).bind fun v3 =>
(afieldAddr 2 x1).bind fun v4 =>
(afieldAddr 3 x1).bind fun v5 =>
(afieldAddr 4 x1).bind fun v6 =>
(abuildSl 1 [(.pointer none)] 4 [(0, v3), (1, v4), (2, v5), (3, v6)] s2).bind fun r7 =>
(callV Tryz.prog R (.func (.func 71) #[] #[]) [x0, r7.1] r7.2).bind fun r8 =>
(amkFunc 73 [x0] []).bind fun v9 =>
(callV Tryz.prog R (.func (.func 72) #[] #[]) [x0, v9] r8.2).bind fun r10 =>
(amkFunc 75 [x0] []).bind fun v11 =>
(callV Tryz.prog R (.func (.func 74) #[] #[]) [x0, v11] r10.2).bind fun r12 =>
(amkFunc 77 [x0] []).bind fun v13 =>
(callV Tryz.prog R (.func (.func 76) #[] #[]) [x0, v13] r12.2).bind fun r14 =>
(afieldAddr 5 x1).bind fun v15 =>
(astore 1 v15 r10.1 r14.2).bind fun s16 =>
(afieldAddr 6 x1).bind fun v17 =>
(astore 1 v17 r12.1 s16).bind fun s18 =>
(afieldAddr 7 x1).bind fun v19 =>
(astore 1 v19 r14.1 s18).bind fun s20 =>
(afieldAddr 8 x1).bind fun v21 =>
(afieldAddr 9 x1).bind fun v22 =>
(abuildSl 1 [(.pointer none)] 2 [(0, v21), (1, v22)] s20).bind fun r23 =>
(callV Tryz.prog R (.func (.func 71) #[] #[]) [x0, r23.1] r23.2).bind fun r24 =>
(callV Tryz.prog R (.func (.func 78) #[] #[]) [x0] r24.2).bind fun r25 =>
(afieldAddr 10 x1).bind fun v26 =>
(astore 2 v26 r25.1 r25.2).bind fun s27 =>
(afieldAddr 12 x1).bind fun v28 =>
(afieldAddr 0 v28).bind fun v29 =>
(afieldAddr 12 x1).bind fun v30 =>
(afieldAddr 1 v30).bind fun v31 =>
(afieldAddr 12 x1).bind fun v32 =>
(afieldAddr 2 v32).bind fun v33 =>
(abuildSl 1 [(.pointer none)] 3 [(0, v29), (1, v31), (2, v33)] s27).bind fun r34 =>
(callV Tryz.prog R (.func (.func 71) #[] #[]) [x0, r34.1] r34.2).bind fun r35 =>
(callV Tryz.prog R (.func (.func 78) #[] #[]) [x0] r35.2).bind fun r36 =>
(afieldAddr 12 x1).bind fun v37 =>
(afieldAddr 3 v37).bind fun v38 =>
(astore 2 v38 r36.1 r36.2).bind fun s39 =>
retV [] s39

theorem record_DecodeShard_1_of {lib : Lib} (hl : lib 69 = none) {x0 x1 : Value} {s : St} {r : Value × St} (h : record_DecodeShard_1 (run Tryz.prog lib hints) x0 x1 s = some r) : run Tryz.prog lib hints 69 [x0, x1] s = some r :=
  run_of hl Tryz.func69 (Eq.trans (by kernel_rfl) h)

theorem record_DecodeShard_1_ok : funcOk Tryz.prog 69 = true := by kernel_rfl
noncomputable def record_reader_int (R : Caller) (x0 : Value) (s : St) : Option (Value × St) :=
(callV Tryz.prog R (.func (.func 77) #[] #[]) [x0] s).bind fun r0 =>
(abin Tryz.prog .gtr 22 (.tmp 6) (.const (.int .u64 255)) r0.1 (.int .u64 255)).bind fun v1 =>
condV v1
 ((callV Tryz.prog R (.func (.func 121) #[] #[]) [x0, (.int .i64 11)] r0.2).bind fun r2 =>
retV [(.int .i64 0)] r2.2)
 ((convInt .i64 r0.1).bind fun v3 =>
retV [v3] r0.2)

theorem record_reader_int_of {lib : Lib} (hl : lib 70 = none) {x0 : Value} {s : St} {r : Value × St} (h : record_reader_int (run Tryz.prog lib hints) x0 s = some r) : run Tryz.prog lib hints 70 [x0] s = some r :=
  run_of hl Tryz.func70 (Eq.trans (by kernel_rfl) h)

theorem record_reader_int_ok : funcOk Tryz.prog 70 = true := by kernel_rfl
theorem record_reader_int_call {R : Caller} {xs : List Value} {s : St} : callV Tryz.prog R (.func (.func 70) #[] #[]) xs s = R 70 xs s := callV_eq record_reader_int_ok

noncomputable def record_reader_nums.b0 (R : Caller) (T : List Value) (s : St) : Res :=
(abin Tryz.prog .lss 3 (.tmp 8) (.tmp 7) (getL T 3) (getL T 2)).bind fun v1 =>
condV v1
 ((aindexS 1 (getL T 1) (getL T 3)).bind fun v2 =>
(aload false 1 v2 s).bind fun v3 =>
(callV Tryz.prog R (.func (.func 77) #[] #[]) [(getL T 0)] s).bind fun r4 =>
(anilCheck v3).bind fun v5 =>
(astore 1 v5 r4.1 r4.2).bind fun s6 =>
(abin Tryz.prog .add 3 (.tmp 8) (.const (.int .i64 1)) (getL T 3) (.int .i64 1)).bind fun v7 =>
some (.normal, [(getL T 0), (getL T 1), (getL T 2), v7], s6))
 (some (.exit 0, [], s))

noncomputable def record_reader_nums (R : Caller) (x0 x1 : Value) (s : St) : Option (Value × St) :=
(alenV (.slice 120) x1 s).bind fun v0 =>
(loopL (record_reader_nums.b0 R) [x0, x1, v0, (.int .i64 0)] s).bind fun r8 =>
exV r8.1 [(0, retV [] r8.2.2)]
 (none)

theorem record_reader_nums_of {lib : Lib} (hl : lib 71 = none) {x0 x1 : Value} {s : St} {r : Value × St} (h : record_reader_nums (run Tryz.prog lib hints) x0 x1 s = some r) : run Tryz.prog lib hints 71 [x0, x1] s = some r :=
  run_of hl Tryz.func71 (Eq.trans (by kernel_rfl) h)

theorem record_reader_nums_ok : funcOk Tryz.prog 71 = true := by kernel_rfl
theorem record_reader_nums_call {R : Caller} {xs : List Value} {s : St} : callV Tryz.prog R (.func (.func 71) #[] #[]) xs s = R 71 xs s := callV_eq record_reader_nums_ok

noncomputable def record_many_api_Owner.b0 (R : Caller) (T : List Value) (s : St) : Res :=
(abin Tryz.prog .gtr 3 (.tmp 9) (.const (.int .i64 0)) (getL T 3) (.int .i64 0)).bind fun v1 =>
(guardV v1 true ((anilCheck (getL T 0)).bind fun v2 =>
(afieldAddr 1 v2).bind fun v3 =>
(aload false 1 v3 s).bind fun v4 =>
(abin Tryz.prog .eql 38 (.tmp 15) (.const (.int .i64 0)) v4 (.int .i64 0)).bind fun v5 =>
some ([v5], s)) (some ([undef], s))).bind fun q6 =>
(apick v1 (getL q6.1 0) (.bool false)).bind fun v7 =>
condV v7
 ((callV Tryz.prog R (getL T 1) [] q6.2).bind fun r8 =>
(abuildSl 2 [(.string ⟨#[]⟩), (.int .i64 0)] 1 [(0, r8.1)] r8.2).bind fun r9 =>
(aappend 2 24 (getL T 2) r9.1 r9.2).bind fun r10 =>
(abin Tryz.prog .sub 3 (.tmp 18) (.const (.int .i64 1)) (getL T 3) (.int .i64 1)).bind fun v11 =>
some (.normal, [(getL T 0), (getL T 1), r10.1, v11], r10.2))
 (some (.exit 0, [(getL T 2)], q6.2))

noncomputable def record_many_api_Owner (R : Caller) (x0 x1 : Value) (s : St) : Option (Value × St) :=
(callV Tryz.prog R (.func (.func 70) #[] #[]) [x0] s).bind fun r0 =>
(loopL (record_many_api_Owner.b0 R) [x0, x1, (.slice none 0 0), r0.1] r0.2).bind fun r12 =>
exV r12.1 [(0, retV [(getL r12.2.1 0)] r12.2.2)]
 (none)

theorem record_many_api_Owner_of {lib : Lib} (hl : lib 72 = none) {x0 x1 : Value} {s : St} {r : Value × St} (h : record_many_api_Owner (run Tryz.prog lib hints) x0 x1 s = some r) : run Tryz.prog lib hints 72 [x0, x1] s = some r :=
  run_of hl Tryz.func72 (Eq.trans (by kernel_rfl) h)

theorem record_many_api_Owner_ok : funcOk Tryz.prog 72 = true := by kernel_rfl
theorem record_many_api_Owner_call {R : Caller} {xs : List Value} {s : St} : callV Tryz.prog R (.func (.func 72) #[] #[]) xs s = R 72 xs s := callV_eq record_many_api_Owner_ok

noncomputable def record_reader_owner (R : Caller) (x0 : Value) (s : St) : Option (Value × St) :=
(callV Tryz.prog R (.func (.func 122) #[] #[]) [x0] s).bind fun r0 =>
(callV Tryz.prog R (.func (.func 70) #[] #[]) [x0] r0.2).bind fun r1 =>
(abuild Tryz.prog 54 [(0, r0.1), (1, r1.1)]).bind fun v2 =>
(lstore 2 lptr v2 (.agg #[(.string ⟨#[]⟩), (.int .i64 0)])).bind fun v3 =>
(lload true 2 lptr v3).bind fun v4 =>
retV [v4] r1.2

theorem record_reader_owner_of {lib : Lib} (hl : lib 73 = none) {x0 : Value} {s : St} {r : Value × St} (h : record_reader_owner (run Tryz.prog lib hints) x0 s = some r) : run Tryz.prog lib hints 73 [x0] s = some r :=
  run_of hl Tryz.func73 (Eq.trans (by kernel_rfl) h)

theorem record_reader_owner_ok : funcOk Tryz.prog 73 = true := by kernel_rfl
noncomputable def record_many_api_Hold.b0 (R : Caller) (T : List Value) (s : St) : Res :=
(abin Tryz.prog .gtr 3 (.tmp 9) (.const (.int .i64 0)) (getL T 3) (.int .i64 0)).bind fun v1 =>
(guardV v1 true ((anilCheck (getL T 0)).bind fun v2 =>
(afieldAddr 1 v2).bind fun v3 =>
(aload false 1 v3 s).bind fun v4 =>
(abin Tryz.prog .eql 38 (.tmp 15) (.const (.int .i64 0)) v4 (.int .i64 0)).bind fun v5 =>
some ([v5], s)) (some ([undef], s))).bind fun q6 =>
(apick v1 (getL q6.1 0) (.bool false)).bind fun v7 =>
condV v7
 ((callV Tryz.prog R (getL T 1) [] q6.2).bind fun r8 =>
(abuildSl 2 [(.int .u64 0), (.slice none 0 0)] 1 [(0, r8.1)] r8.2).bind fun r9 =>
(aappend 2 32 (getL T 2) r9.1 r9.2).bind fun r10 =>
(abin Tryz.prog .sub 3 (.tmp 18) (.const (.int .i64 1)) (getL T 3) (.int .i64 1)).bind fun v11 =>
some (.normal, [(getL T 0), (getL T 1), r10.1, v11], r10.2))
 (some (.exit 0, [(getL T 2)], q6.2))

noncomputable def record_many_api_Hold (R : Caller) (x0 x1 : Value) (s : St) : Option (Value × St) :=
(callV Tryz.prog R (.func (.func 70) #[] #[]) [x0] s).bind fun r0 =>
(loopL (record_many_api_Hold.b0 R) [x0, x1, (.slice none 0 0), r0.1] r0.2).bind fun r12 =>
exV r12.1 [(0, retV [(getL r12.2.1 0)] r12.2.2)]
 (none)

theorem record_many_api_Hold_of {lib : Lib} (hl : lib 74 = none) {x0 x1 : Value} {s : St} {r : Value × St} (h : record_many_api_Hold (run Tryz.prog lib hints) x0 x1 s = some r) : run Tryz.prog lib hints 74 [x0, x1] s = some r :=
  run_of hl Tryz.func74 (Eq.trans (by kernel_rfl) h)

theorem record_many_api_Hold_ok : funcOk Tryz.prog 74 = true := by kernel_rfl
theorem record_many_api_Hold_call {R : Caller} {xs : List Value} {s : St} : callV Tryz.prog R (.func (.func 74) #[] #[]) xs s = R 74 xs s := callV_eq record_many_api_Hold_ok

noncomputable def record_reader_hold (R : Caller) (x0 : Value) (s : St) : Option (Value × St) :=
(callV Tryz.prog R (.func (.func 77) #[] #[]) [x0] s).bind fun r0 =>
(amkFunc 124 [x0] []).bind fun v1 =>
(callV Tryz.prog R (.func (.func 123) #[] #[]) [x0, v1] r0.2).bind fun r2 =>
(abuild Tryz.prog 64 [(0, r0.1), (1, r2.1)]).bind fun v3 =>
(lstore 2 lptr v3 (.agg #[(.int .u64 0), (.slice none 0 0)])).bind fun v4 =>
(lload true 2 lptr v4).bind fun v5 =>
retV [v5] r2.2

theorem record_reader_hold_of {lib : Lib} (hl : lib 75 = none) {x0 : Value} {s : St} {r : Value × St} (h : record_reader_hold (run Tryz.prog lib hints) x0 s = some r) : run Tryz.prog lib hints 75 [x0] s = some r :=
  run_of hl Tryz.func75 (Eq.trans (by kernel_rfl) h)

theorem record_reader_hold_ok : funcOk Tryz.prog 75 = true := by kernel_rfl
noncomputable def record_many_uint64.b0 (R : Caller) (T : List Value) (s : St) : Res :=
(abin Tryz.prog .gtr 3 (.tmp 9) (.const (.int .i64 0)) (getL T 3) (.int .i64 0)).bind fun v1 =>
(guardV v1 true ((anilCheck (getL T 0)).bind fun v2 =>
(afieldAddr 1 v2).bind fun v3 =>
(aload false 1 v3 s).bind fun v4 =>
(abin Tryz.prog .eql 38 (.tmp 15) (.const (.int .i64 0)) v4 (.int .i64 0)).bind fun v5 =>
some ([v5], s)) (some ([undef], s))).bind fun q6 =>
(apick v1 (getL q6.1 0) (.bool false)).bind fun v7 =>
condV v7
 ((callV Tryz.prog R (getL T 1) [] q6.2).bind fun r8 =>
(abuildSl 1 [(.int .u64 0)] 1 [(0, r8.1)] r8.2).bind fun r9 =>
(aappend 1 8 (getL T 2) r9.1 r9.2).bind fun r10 =>
(abin Tryz.prog .sub 3 (.tmp 18) (.const (.int .i64 1)) (getL T 3) (.int .i64 1)).bind fun v11 =>
some (.normal, [(getL T 0), (getL T 1), r10.1, v11], r10.2))
 (some (.exit 0, [(getL T 2)], q6.2))

noncomputable def record_many_uint64 (R : Caller) (x0 x1 : Value) (s : St) : Option (Value × St) :=
(callV Tryz.prog R (.func (.func 70) #[] #[]) [x0] s).bind fun r0 =>
(loopL (record_many_uint64.b0 R) [x0, x1, (.slice none 0 0), r0.1] r0.2).bind fun r12 =>
exV r12.1 [(0, retV [(getL r12.2.1 0)] r12.2.2)]
 (none)

theorem record_many_uint64_of {lib : Lib} (hl : lib 76 = none) {x0 x1 : Value} {s : St} {r : Value × St} (h : record_many_uint64 (run Tryz.prog lib hints) x0 x1 s = some r) : run Tryz.prog lib hints 76 [x0, x1] s = some r :=
  run_of hl Tryz.func76 (Eq.trans (by kernel_rfl) h)

theorem record_many_uint64_ok : funcOk Tryz.prog 76 = true := by kernel_rfl
theorem record_many_uint64_call {R : Caller} {xs : List Value} {s : St} : callV Tryz.prog R (.func (.func 76) #[] #[]) xs s = R 76 xs s := callV_eq record_many_uint64_ok

noncomputable def record_reader_num (R : Caller) (x0 : Value) (s : St) : Option (Value × St) :=
(anilCheck x0).bind fun v0 =>
(afieldAddr 1 v0).bind fun v1 =>
(aload false 1 v1 s).bind fun v2 =>
(abin Tryz.prog .neq 38 (.tmp 9) (.const (.int .i64 0)) v2 (.int .i64 0)).bind fun v3 =>
condV v3
 (retV [(.int .u64 0)] s)
 ((anilCheck x0).bind fun v4 =>
(afieldAddr 0 v4).bind fun v5 =>
(aload false 1 v5 s).bind fun v6 =>
(callV Tryz.prog R (.func (.func 125) #[] #[]) [v6] s).bind fun r7 =>
(aextract 0 r7.1).bind fun v8 =>
(aextract 1 r7.1).bind fun v9 =>
(aextract 2 r7.1).bind fun v10 =>
(abin Tryz.prog .neq 38 (.tmp 20) (.const (.int .i64 0)) v10 (.int .i64 0)).bind fun v11 =>
condV v11
 ((callV Tryz.prog R (.func (.func 121) #[] #[]) [x0, v10] r7.2).bind fun r12 =>
retV [(.int .u64 0)] r12.2)
 ((anilCheck x0).bind fun v13 =>
(afieldAddr 0 v13).bind fun v14 =>
(aload false 1 v14 r7.2).bind fun v15 =>
(asliceV 1 v15 (some v9) none none).bind fun v16 =>
(anilCheck x0).bind fun v17 =>
(afieldAddr 0 v17).bind fun v18 =>
(astore 1 v18 v16 r7.2).bind fun s19 =>
retV [v8] s19))

theorem record_reader_num_of {lib : Lib} (hl : lib 77 = none) {x0 : Value} {s : St} {r : Value × St} (h : record_reader_num (run Tryz.prog lib hints) x0 s = some r) : run Tryz.prog lib hints 77 [x0] s = some r :=
  run_of hl Tryz.func77 (Eq.trans (by kernel_rfl) h)

theorem record_reader_num_ok : funcOk Tryz.prog 77 = true := by kernel_rfl
theorem record_reader_num_call {R : Caller} {xs : List Value} {s : St} : callV Tryz.prog R (.func (.func 77) #[] #[]) xs s = R 77 xs s := callV_eq record_reader_num_ok

noncomputable def record_reader_span (R : Caller) (x0 : Value) (s : St) : Option (Value × St) :=
(callV Tryz.prog R (.func (.func 122) #[] #[]) [x0] s).bind fun r0 =>
(callV Tryz.prog R (.func (.func 122) #[] #[]) [x0] r0.2).bind fun r1 =>
(abuild Tryz.prog 27 [(0, r0.1), (1, r1.1)]).bind fun v2 =>
(lstore 2 lptr v2 (.agg #[(.string ⟨#[]⟩), (.string ⟨#[]⟩)])).bind fun v3 =>
(lload true 2 lptr v3).bind fun v4 =>
retV [v4] r1.2

theorem record_reader_span_of {lib : Lib} (hl : lib 78 = none) {x0 : Value} {s : St} {r : Value × St} (h : record_reader_span (run Tryz.prog lib hints) x0 s = some r) : run Tryz.prog lib hints 78 [x0] s = some r :=
  run_of hl Tryz.func78 (Eq.trans (by kernel_rfl) h)

theorem record_reader_span_ok : funcOk Tryz.prog 78 = true := by kernel_rfl
theorem record_reader_span_call {R : Caller} {xs : List Value} {s : St} : callV Tryz.prog R (.func (.func 78) #[] #[]) xs s = R 78 xs s := callV_eq record_reader_span_ok

noncomputable def ref17_Same.b0 (R : Caller) (T : List Value) (s : St) : Res :=
(abin Tryz.prog .lss 3 (.tmp 13) (.tmp 12) (getL T 3) (getL T 2)).bind fun v4 =>
condV v4
 ((aindexS 2 (getL T 0) (getL T 3)).bind fun v5 =>
((aload true 2 v5 (frzS s)).bind fun v12 =>
some (v12, (frzS s))).bind fun r6 =>
(aindexS 2 (getL T 1) (getL T 3)).bind fun v7 =>
((aload true 2 v7 (frzS s)).bind fun v11 =>
some (v11, (frzS s))).bind fun r8 =>
(abin Tryz.prog .neq 54 (.tmp 19) (.tmp 23) r6.1 r8.1).bind fun v9 =>
condV v9
 (some (.ret, [(.bool false)], s))
 ((abin Tryz.prog .add 3 (.tmp 13) (.const (.int .i64 1)) (getL T 3) (.int .i64 1)).bind fun v10 =>
some (.normal, [(getL T 0), (getL T 1), (getL T 2), v10], s)))
 (some (.exit 0, [], s))

noncomputable def ref17_Same (R : Caller) (x0 x1 : Value) (s : St) : Option (Value × St) :=
(alenV (.slice 54) x0 s).bind fun v0 =>
(alenV (.slice 54) x1 s).bind fun v1 =>
(abin Tryz.prog .neq 3 (.tmp 7) (.tmp 9) v0 v1).bind fun v2 =>
condV v2
 (retV [(.bool false)] s)
 ((alenV (.slice 54) x0 s).bind fun v3 =>
(loopL (ref17_Same.b0 R) [x0, x1, v3, (.int .i64 0)] s).bind fun r13 =>
exV r13.1 [(0, retV [(.bool true)] r13.2.2)]
 (retV [(getL r13.2.1 0)] r13.2.2))

theorem ref17_Same_of {lib : Lib} (hl : lib 79 = none) {x0 x1 : Value} {s : St} {r : Value × St} (h : ref17_Same (run Tryz.prog lib hints) x0 x1 s = some r) : run Tryz.prog lib hints 79 [x0, x1] s = some r :=
  run_of hl Tryz.func79 (Eq.trans (by kernel_rfl) h)

theorem ref17_Same_ok : funcOk Tryz.prog 79 = true := by kernel_rfl
theorem ref17_Same_call {R : Caller} {xs : List Value} {s : St} : callV Tryz.prog R (.func (.func 79) #[] #[]) xs s = R 79 xs s := callV_eq ref17_Same_ok

noncomputable def ref04_SameOps.b0 (R : Caller) (T : List Value) (s : St) : Res :=
(abin Tryz.prog .lss 3 (.tmp 13) (.tmp 12) (getL T 3) (getL T 2)).bind fun v4 =>
condV v4
 ((aindexS 6 (getL T 0) (getL T 3)).bind fun v5 =>
((aload true 6 v5 (frzS s)).bind fun v12 =>
some (v12, (frzS s))).bind fun r6 =>
(aindexS 6 (getL T 1) (getL T 3)).bind fun v7 =>
((aload true 6 v7 (frzS s)).bind fun v11 =>
some (v11, (frzS s))).bind fun r8 =>
(abin Tryz.prog .neq 72 (.tmp 19) (.tmp 23) r6.1 r8.1).bind fun v9 =>
condV v9
 (some (.ret, [(.bool false)], s))
 ((abin Tryz.prog .add 3 (.tmp 13) (.const (.int .i64 1)) (getL T 3) (.int .i64 1)).bind fun v10 =>
some (.normal, [(getL T 0), (getL T 1), (getL T 2), v10], s)))
 (some (.exit 0, [], s))

noncomputable def ref04_SameOps (R : Caller) (x0 x1 : Value) (s : St) : Option (Value × St) :=
(alenV (.slice 72) x0 s).bind fun v0 =>
(alenV (.slice 72) x1 s).bind fun v1 =>
(abin Tryz.prog .neq 3 (.tmp 7) (.tmp 9) v0 v1).bind fun v2 =>
condV v2
 (retV [(.bool false)] s)
 ((alenV (.slice 72) x0 s).bind fun v3 =>
(loopL (ref04_SameOps.b0 R) [x0, x1, v3, (.int .i64 0)] s).bind fun r13 =>
exV r13.1 [(0, retV [(.bool true)] r13.2.2)]
 (retV [(getL r13.2.1 0)] r13.2.2))

theorem ref04_SameOps_of {lib : Lib} (hl : lib 80 = none) {x0 x1 : Value} {s : St} {r : Value × St} (h : ref04_SameOps (run Tryz.prog lib hints) x0 x1 s = some r) : run Tryz.prog lib hints 80 [x0, x1] s = some r :=
  run_of hl Tryz.func80 (Eq.trans (by kernel_rfl) h)

theorem ref04_SameOps_ok : funcOk Tryz.prog 80 = true := by kernel_rfl
theorem ref04_SameOps_call {R : Caller} {xs : List Value} {s : St} : callV Tryz.prog R (.func (.func 80) #[] #[]) xs s = R 80 xs s := callV_eq ref04_SameOps_ok

noncomputable def record_DecodeCoord_1 (R : Caller) (x0 x1 : Value) (s : St) : Option (Value × St) :=
(callV Tryz.prog R (.func (.func 70) #[] #[]) [x0] s).bind fun r0 =>
(afieldAddr 0 x1).bind fun v1 =>
(astore 1 v1 r0.1 r0.2).bind fun s2 =>
(afieldAddr 1 x1).bind fun v3 =>
(afieldAddr 2 x1).bind fun v4 =>
(afieldAddr 3 x1).bind fun v5 =>
(abuildSl 1 [(.pointer none)] 3 [(0, v3), (1, v4), (2, v5)] s2).bind fun r6 =>
(callV Tryz.prog R (.func (.func 71) #[] #[]) [x0, r6.1] r6.2).bind fun r7 =>
(amkFunc 73 [x0] []).bind fun v8 =>
(callV Tryz.prog R (.func (.func 72) #[] #[]) [x0, v8] r7.2).bind fun r9 =>
(amkFunc 83 [x0] []).bind fun v10 =>
(callV Tryz.prog R (.func (.func 82) #[] #[]) [x0, v10] r9.2).bind fun r11 =>
(amkFunc 85 [x0] []).bind fun v12 =>
(callV Tryz.prog R (.func (.func 84) #[] #[]) [x0, v12] r11.2).bind fun r13 =>
(afieldAddr 4 x1).bind fun v14 =>
(astore 1 v14 r9.1 r13.2).bind fun s15 =>
(afieldAddr 5 x1).bind fun v16 =>
(astore 1 v16 r11.1 s15).bind fun s17 =>
(afieldAddr 6 x1).bind fun v18 =>
(astore 1 v18 r13.1 s17).bind fun s19 =>
retV [] s19

theorem record_DecodeCoord_1_of {lib : Lib} (hl : lib 81 = none) {x0 x1 : Value} {s : St} {r : Value × St} (h : record_DecodeCoord_1 (run Tryz.prog lib hints) x0 x1 s = some r) : run Tryz.prog lib hints 81 [x0, x1] s = some r :=
  run_of hl Tryz.func81 (Eq.trans (by kernel_rfl) h)

theorem record_DecodeCoord_1_ok : funcOk Tryz.prog 81 = true := by kernel_rfl
noncomputable def record_many_api_Decision.b0 (R : Caller) (T : List Value) (s : St) : Res :=
(abin Tryz.prog .gtr 3 (.tmp 9) (.const (.int .i64 0)) (getL T 3) (.int .i64 0)).bind fun v1 =>
(guardV v1 true ((anilCheck (getL T 0)).bind fun v2 =>
(afieldAddr 1 v2).bind fun v3 =>
(aload false 1 v3 s).bind fun v4 =>
(abin Tryz.prog .eql 38 (.tmp 15) (.const (.int .i64 0)) v4 (.int .i64 0)).bind fun v5 =>
some ([v5], s)) (some ([undef], s))).bind fun q6 =>
(apick v1 (getL q6.1 0) (.bool false)).bind fun v7 =>
condV v7
 ((callV Tryz.prog R (getL T 1) [] q6.2).bind fun r8 =>
(abuildSl 5 [(.int .u64 0), (.int .i64 0), (.int .u64 0), (.int .u64 0), (.slice none 0 0)] 1 [(0, r8.1)] r8.2).bind fun r9 =>
(aappend 5 56 (getL T 2) r9.1 r9.2).bind fun r10 =>
(abin Tryz.prog .sub 3 (.tmp 18) (.const (.int .i64 1)) (getL T 3) (.int .i64 1)).bind fun v11 =>
some (.normal, [(getL T 0), (getL T 1), r10.1, v11], r10.2))
 (some (.exit 0, [(getL T 2)], q6.2))

noncomputable def record_many_api_Decision (R : Caller) (x0 x1 : Value) (s : St) : Option (Value × St) :=
(callV Tryz.prog R (.func (.func 70) #[] #[]) [x0] s).bind fun r0 =>
(loopL (record_many_api_Decision.b0 R) [x0, x1, (.slice none 0 0), r0.1] r0.2).bind fun r12 =>
exV r12.1 [(0, retV [(getL r12.2.1 0)] r12.2.2)]
 (none)

theorem record_many_api_Decision_of {lib : Lib} (hl : lib 82 = none) {x0 x1 : Value} {s : St} {r : Value × St} (h : record_many_api_Decision (run Tryz.prog lib hints) x0 x1 s = some r) : run Tryz.prog lib hints 82 [x0, x1] s = some r :=
  run_of hl Tryz.func82 (Eq.trans (by kernel_rfl) h)

theorem record_many_api_Decision_ok : funcOk Tryz.prog 82 = true := by kernel_rfl
theorem record_many_api_Decision_call {R : Caller} {xs : List Value} {s : St} : callV Tryz.prog R (.func (.func 82) #[] #[]) xs s = R 82 xs s := callV_eq record_many_api_Decision_ok

noncomputable def record_reader_decision (R : Caller) (x0 : Value) (s : St) : Option (Value × St) :=
(anew [(.int .u64 0), (.int .i64 0), (.int .u64 0), (.int .u64 0), (.slice none 0 0)] s).bind fun r0 =>
(callV Tryz.prog R (.func (.func 77) #[] #[]) [x0] r0.2).bind fun r1 =>
(callV Tryz.prog R (.func (.func 70) #[] #[]) [x0] r1.2).bind fun r2 =>
(afieldAddr 0 r0.1).bind fun v3 =>
(astore 1 v3 r1.1 r2.2).bind fun s4 =>
(afieldAddr 1 r0.1).bind fun v5 =>
(astore 1 v5 r2.1 s4).bind fun s6 =>
(afieldAddr 2 r0.1).bind fun v7 =>
(afieldAddr 3 r0.1).bind fun v8 =>
(abuildSl 1 [(.pointer none)] 2 [(0, v7), (1, v8)] s6).bind fun r9 =>
(callV Tryz.prog R (.func (.func 71) #[] #[]) [x0, r9.1] r9.2).bind fun r10 =>
(amkFunc 70 [x0] []).bind fun v11 =>
(callV Tryz.prog R (.func (.func 126) #[] #[]) [x0, v11] r10.2).bind fun r12 =>
(afieldAddr 4 r0.1).bind fun v13 =>
(astore 1 v13 r12.1 r12.2).bind fun s14 =>
(aload true 5 r0.1 s14).bind fun v15 =>
(lstore 5 lptr v15 (.agg #[(.int .u64 0), (.int .i64 0), (.int .u64 0), (.int .u64 0), (.slice none 0 0)])).bind fun v16 =>
(lload true 5 lptr v16).bind fun v17 =>
retV [v17] s14

theorem record_reader_decision_of {lib : Lib} (hl : lib 83 = none) {x0 : Value} {s : St} {r : Value × St} (h : record_reader_decision (run Tryz.prog lib hints) x0 s = some r) : run Tryz.prog lib hints 83 [x0] s = some r :=
  run_of hl Tryz.func83 (Eq.trans (by kernel_rfl) h)

theorem record_reader_decision_ok : funcOk Tryz.prog 83 = true := by kernel_rfl
noncomputable def record_many_api_Last.b0 (R : Caller) (T : List Value) (s : St) : Res :=
(abin Tryz.prog .gtr 3 (.tmp 9) (.const (.int .i64 0)) (getL T 3) (.int .i64 0)).bind fun v1 =>
(guardV v1 true ((anilCheck (getL T 0)).bind fun v2 =>
(afieldAddr 1 v2).bind fun v3 =>
(aload false 1 v3 s).bind fun v4 =>
(abin Tryz.prog .eql 38 (.tmp 15) (.const (.int .i64 0)) v4 (.int .i64 0)).bind fun v5 =>
some ([v5], s)) (some ([undef], s))).bind fun q6 =>
(apick v1 (getL q6.1 0) (.bool false)).bind fun v7 =>
condV v7
 ((callV Tryz.prog R (getL T 1) [] q6.2).bind fun r8 =>
(abuildSl 4 [(.int .i64 0), (.int .u64 0), (.int .u64 0), (.slice none 0 0)] 1 [(0, r8.1)] r8.2).bind fun r9 =>
(aappend 4 48 (getL T 2) r9.1 r9.2).bind fun r10 =>
(abin Tryz.prog .sub 3 (.tmp 18) (.const (.int .i64 1)) (getL T 3) (.int .i64 1)).bind fun v11 =>
some (.normal, [(getL T 0), (getL T 1), r10.1, v11], r10.2))
 (some (.exit 0, [(getL T 2)], q6.2))

noncomputable def record_many_api_Last (R : Caller) (x0 x1 : Value) (s : St) : Option (Value × St) :=
(callV Tryz.prog R (.func (.func 70) #[] #[]) [x0] s).bind fun r0 =>
(loopL (record_many_api_Last.b0 R) [x0, x1, (.slice none 0 0), r0.1] r0.2).bind fun r12 =>
exV r12.1 [(0, retV [(getL r12.2.1 0)] r12.2.2)]
 (none)

theorem record_many_api_Last_of {lib : Lib} (hl : lib 84 = none) {x0 x1 : Value} {s : St} {r : Value × St} (h : record_many_api_Last (run Tryz.prog lib hints) x0 x1 s = some r) : run Tryz.prog lib hints 84 [x0, x1] s = some r :=
  run_of hl Tryz.func84 (Eq.trans (by kernel_rfl) h)

theorem record_many_api_Last_ok : funcOk Tryz.prog 84 = true := by kernel_rfl
theorem record_many_api_Last_call {R : Caller} {xs : List Value} {s : St} : callV Tryz.prog R (.func (.func 84) #[] #[]) xs s = R 84 xs s := callV_eq record_many_api_Last_ok

noncomputable def record_reader_last (R : Caller) (x0 : Value) (s : St) : Option (Value × St) :=
(callV Tryz.prog R (.func (.func 70) #[] #[]) [x0] s).bind fun r0 =>
(abuild Tryz.prog 82 [(0, r0.1)]).bind fun v1 =>
(anew [(.int .i64 0), (.int .u64 0), (.int .u64 0), (.slice none 0 0)] r0.2).bind fun r2 =>
(astore 4 r2.1 v1 r2.2).bind fun s3 =>
(afieldAddr 1 r2.1).bind fun v4 =>
(afieldAddr 2 r2.1).bind fun v5 =>
(abuildSl 1 [(.pointer none)] 2 [(0, v4), (1, v5)] s3).bind fun r6 =>
(callV Tryz.prog R (.func (.func 71) #[] #[]) [x0, r6.1] r6.2).bind fun r7 =>
(amkFunc 128 [x0] []).bind fun v8 =>
(callV Tryz.prog R (.func (.func 127) #[] #[]) [x0, v8] r7.2).bind fun r9 =>
(afieldAddr 3 r2.1).bind fun v10 =>
(astore 1 v10 r9.1 r9.2).bind fun s11 =>
(aload true 4 r2.1 s11).bind fun v12 =>
(lstore 4 lptr v12 (.agg #[(.int .i64 0), (.int .u64 0), (.int .u64 0), (.slice none 0 0)])).bind fun v13 =>
(lload true 4 lptr v13).bind fun v14 =>
retV [v14] s11

theorem record_reader_last_of {lib : Lib} (hl : lib 85 = none) {x0 : Value} {s : St} {r : Value × St} (h : record_reader_last (run Tryz.prog lib hints) x0 s = some r) : run Tryz.prog lib hints 85 [x0] s = some r :=
  run_of hl Tryz.func85 (Eq.trans (by kernel_rfl) h)

theorem record_reader_last_ok : funcOk Tryz.prog 85 = true := by kernel_rfl
noncomputable def ref04_SameResults.b0 (R : Caller) (T : List Value) (s : St) : Res :=
(abin Tryz.prog .lss 3 (.tmp 13) (.tmp 12) (getL T 3) (getL T 2)).bind fun v4 =>
condV v4
 ((aindexS 3 (getL T 0) (getL T 3)).bind fun v5 =>
(afieldAddr 0 v5).bind fun v6 =>
((aload false 1 v6 (frzS s)).bind fun v54 =>
some (v54, (frzS s))).bind fun r7 =>
(aindexS 3 (getL T 1) (getL T 3)).bind fun v8 =>
(afieldAddr 0 v8).bind fun v9 =>
((aload false 1 v9 (frzS s)).bind fun v53 =>
some (v53, (frzS s))).bind fun r10 =>
(abin Tryz.prog .neq 4 (.tmp 20) (.tmp 25) r7.1 r10.1).bind fun v11 =>
(guardV v11 false (some ([(getL T 0)], s)) (some ([undef], s))).bind fun q12 =>
(guardV v11 false (some ([(getL T 3)], q12.2)) (some ([undef], q12.2))).bind fun q13 =>
(guardV v11 false ((aindexS 3 (getL q12.1 0) (getL q13.1 0)).bind fun v14 =>
some ([v14], q13.2)) (some ([undef], q13.2))).bind fun q15 =>
(guardV v11 false ((afieldAddr 1 (getL q15.1 0)).bind fun v16 =>
some ([v16], q15.2)) (some ([undef], q15.2))).bind fun q17 =>
(guardV v11 false ((aload false 1 (getL q17.1 0) (frzS q17.2)).bind fun v52 =>
some (v52, (frzS q17.2))) (some (undef, (frzS q17.2)))).bind fun r18 =>
(guardV v11 false (some ([(getL T 1)], q17.2)) (some ([undef], q17.2))).bind fun q19 =>
(guardV v11 false (some ([(getL T 3)], q19.2)) (some ([undef], q19.2))).bind fun q20 =>
(guardV v11 false ((aindexS 3 (getL q19.1 0) (getL q20.1 0)).bind fun v21 =>
some ([v21], q20.2)) (some ([undef], q20.2))).bind fun q22 =>
(guardV v11 false ((afieldAddr 1 (getL q22.1 0)).bind fun v23 =>
some ([v23], q22.2)) (some ([undef], q22.2))).bind fun q24 =>
(guardV v11 false ((aload false 1 (getL q24.1 0) (frzS q24.2)).bind fun v51 =>
some (v51, (frzS q24.2))) (some (undef, (frzS q24.2)))).bind fun r25 =>
(guardV v11 false ((abin Tryz.prog .neq 9 (.tmp 32) (.tmp 37) r18.1 r25.1).bind fun v26 =>
some ([v26], q24.2)) (some ([undef], q24.2))).bind fun q27 =>
(apick v11 (.bool true) (getL q27.1 0)).bind fun v28 =>
(guardV v28 false (some ([(getL T 0)], q27.2)) (some ([undef], q27.2))).bind fun q29 =>
(guardV v28 false (some ([(getL T 3)], q29.2)) (some ([undef], q29.2))).bind fun q30 =>
(guardV v28 false ((aindexS 3 (getL q29.1 0) (getL q30.1 0)).bind fun v31 =>
some ([v31], q30.2)) (some ([undef], q30.2))).bind fun q32 =>
(guardV v28 false ((afieldAddr 2 (getL q32.1 0)).bind fun v33 =>
some ([v33], q32.2)) (some ([undef], q32.2))).bind fun q34 =>
(guardV v28 false ((aload false 1 (getL q34.1 0) (frzS q34.2)).bind fun v50 =>
some (v50, (frzS q34.2))) (some (undef, (frzS q34.2)))).bind fun r35 =>
(guardV v28 false (some ([(getL T 1)], q34.2)) (some ([undef], q34.2))).bind fun q36 =>
(guardV v28 false (some ([(getL T 3)], q36.2)) (some ([undef], q36.2))).bind fun q37 =>
(guardV v28 false ((aindexS 3 (getL q36.1 0) (getL q37.1 0)).bind fun v38 =>
some ([v38], q37.2)) (some ([undef], q37.2))).bind fun q39 =>
(guardV v28 false ((afieldAddr 2 (getL q39.1 0)).bind fun v40 =>
some ([v40], q39.2)) (some ([undef], q39.2))).bind fun q41 =>
(guardV v28 false ((aload false 1 (getL q41.1 0) (frzS q41.2)).bind fun v49 =>
some (v49, (frzS q41.2))) (some (undef, (frzS q41.2)))).bind fun r42 =>
((guardV v28 false ((callV Tryz.prog R (.func (.func 129) #[] #[]) [r35.1, r42.1] q41.2).bind fun r48 =>
some (r48.1, r48.2)) (some (undef, q41.2))).bind (ownR q41.2)).bind fun r43 =>
(guardV v28 false ((aun .not r43.1).bind fun v44 =>
some ([v44], r43.2)) (some ([undef], r43.2))).bind fun q45 =>
(apick v28 (.bool true) (getL q45.1 0)).bind fun v46 =>
condV v46
 (some (.ret, [(.bool false)], q45.2))
 ((abin Tryz.prog .add 3 (.tmp 13) (.const (.int .i64 1)) (getL T 3) (.int .i64 1)).bind fun v47 =>
some (.normal, [(getL T 0), (getL T 1), (getL T 2), v47], q45.2)))
 (some (.exit 0, [], s))

noncomputable def ref04_SameResults (R : Caller) (x0 x1 : Value) (s : St) : Option (Value × St) :=
(alenV (.slice 146) x0 s).bind fun v0 =>
(alenV (.slice 146) x1 s).bind fun v1 =>
(abin Tryz.prog .neq 3 (.tmp 7) (.tmp 9) v0 v1).bind fun v2 =>
condV v2
 (retV [(.bool false)] s)
 ((alenV (.slice 146) x0 s).bind fun v3 =>
(loopL (ref04_SameResults.b0 R) [x0, x1, v3, (.int .i64 0)] s).bind fun r55 =>
exV r55.1 [(0, retV [(.bool true)] r55.2.2)]
 (retV [(getL r55.2.1 0)] r55.2.2))

theorem ref04_SameResults_of {lib : Lib} (hl : lib 86 = none) {x0 x1 : Value} {s : St} {r : Value × St} (h : ref04_SameResults (run Tryz.prog lib hints) x0 x1 s = some r) : run Tryz.prog lib hints 86 [x0, x1] s = some r :=
  run_of hl Tryz.func86 (Eq.trans (by kernel_rfl) h)

theorem ref04_SameResults_ok : funcOk Tryz.prog 86 = true := by kernel_rfl
theorem ref04_SameResults_call {R : Caller} {xs : List Value} {s : St} : callV Tryz.prog R (.func (.func 86) #[] #[]) xs s = R 86 xs s := callV_eq ref04_SameResults_ok

noncomputable def record_rows_uint64.b0 (R : Caller) (T : List Value) (s : St) : Res :=
(abin Tryz.prog .lss 3 (.tmp 10) (.tmp 9) (getL T 3) (getL T 2)).bind fun v1 =>
condV v1
 ((aindexS 1 (getL T 1) (getL T 3)).bind fun v2 =>
(aload false 1 v2 s).bind fun v3 =>
(callV Tryz.prog R (getL T 0) [v3] s).bind fun r4 =>
(abin Tryz.prog .add 3 (.tmp 10) (.const (.int .i64 1)) (getL T 3) (.int .i64 1)).bind fun v5 =>
some (.normal, [(getL T 0), (getL T 1), (getL T 2), v5], r4.2))
 (some (.exit 0, [], s))

noncomputable def record_rows_uint64 (R : Caller) (x0 x1 x2 : Value) (s : St) : Option (Value × St) :=
(alenV (.slice 22) x1 s).bind fun v0 =>
(loopL (record_rows_uint64.b0 R) [x2, x1, v0, (.int .i64 0)] s).bind fun r6 =>
exV r6.1 [(0, retV [] r6.2.2)]
 (none)

theorem record_rows_uint64_of {lib : Lib} (hl : lib 87 = none) {x0 x1 x2 : Value} {s : St} {r : Value × St} (h : record_rows_uint64 (run Tryz.prog lib hints) x0 x1 x2 s = some r) : run Tryz.prog lib hints 87 [x0, x1, x2] s = some r :=
  run_of hl Tryz.func87 (Eq.trans (by kernel_rfl) h)

theorem record_rows_uint64_ok : funcOk Tryz.prog 87 = true := by kernel_rfl
theorem record_rows_uint64_call {R : Caller} {xs : List Value} {s : St} : callV Tryz.prog R (.func (.func 87) #[] #[]) xs s = R 87 xs s := callV_eq record_rows_uint64_ok

noncomputable def record_writer_int (R : Caller) (x0 x1 : Value) (s : St) : Option (Value × St) :=
(convInt .u64 x1).bind fun v0 =>
(callV Tryz.prog R (.func (.func 25) #[] #[]) [x0, v0] s).bind fun r1 =>
retV [] r1.2

theorem record_writer_int_of {lib : Lib} (hl : lib 88 = none) {x0 x1 : Value} {s : St} {r : Value × St} (h : record_writer_int (run Tryz.prog lib hints) x0 x1 s = some r) : run Tryz.prog lib hints 88 [x0, x1] s = some r :=
  run_of hl Tryz.func88 (Eq.trans (by kernel_rfl) h)

theorem record_writer_int_ok : funcOk Tryz.prog 88 = true := by kernel_rfl
theorem record_writer_int_call {R : Caller} {xs : List Value} {s : St} : callV Tryz.prog R (.func (.func 88) #[] #[]) xs s = R 88 xs s := callV_eq record_writer_int_ok

noncomputable def record_rows_api_Owner.b0 (R : Caller) (T : List Value) (s : St) : Res :=
(abin Tryz.prog .lss 3 (.tmp 10) (.tmp 9) (getL T 3) (getL T 2)).bind fun v1 =>
condV v1
 ((aindexS 2 (getL T 1) (getL T 3)).bind fun v2 =>
(aload true 2 v2 s).bind fun v3 =>
(lstore 2 lptr v3 (.agg #[(.string ⟨#[]⟩), (.int .i64 0)])).bind fun v4 =>
(lload true 2 lptr v4).bind fun v5 =>
(callV Tryz.prog R (getL T 0) [v5] s).bind fun r6 =>
(abin Tryz.prog .add 3 (.tmp 10) (.const (.int .i64 1)) (getL T 3) (.int .i64 1)).bind fun v7 =>
some (.normal, [(getL T 0), (getL T 1), (getL T 2), v7], r6.2))
 (some (.exit 0, [], s))

noncomputable def record_rows_api_Owner (R : Caller) (x0 x1 x2 : Value) (s : St) : Option (Value × St) :=
(alenV (.slice 54) x1 s).bind fun v0 =>
(loopL (record_rows_api_Owner.b0 R) [x2, x1, v0, (.int .i64 0)] s).bind fun r8 =>
exV r8.1 [(0, retV [] r8.2.2)]
 (none)

theorem record_rows_api_Owner_of {lib : Lib} (hl : lib 89 = none) {x0 x1 x2 : Value} {s : St} {r : Value × St} (h : record_rows_api_Owner (run Tryz.prog lib hints) x0 x1 x2 s = some r) : run Tryz.prog lib hints 89 [x0, x1, x2] s = some r :=
  run_of hl Tryz.func89 (Eq.trans (by kernel_rfl) h)

theorem record_rows_api_Owner_ok : funcOk Tryz.prog 89 = true := by kernel_rfl
theorem record_rows_api_Owner_call {R : Caller} {xs : List Value} {s : St} : callV Tryz.prog R (.func (.func 89) #[] #[]) xs s = R 89 xs s := callV_eq record_rows_api_Owner_ok

noncomputable def record_writer_text (R : Caller) (x0 x1 : Value) (s : St) : Option (Value × St) :=
(anilCheck x0).bind fun v0 =>
(afieldAddr 0 v0).bind fun v1 =>
((aload false 1 v1 (frzS s)).bind fun v11 =>
some (v11, (frzS s))).bind fun r2 =>
(((callV Tryz.prog R (.func (.func 130) #[] #[]) [x1] (frzS s)).bind fun r10 =>
some (r10.1, r10.2)).map (quietR s)).bind fun r3 =>
(((aappend 1 1 r2.1 r3.1 r3.2).bind fun r9 =>
some (r9.1, r9.2)).bind (ownR r3.2)).bind fun r4 =>
(anilCheck x0).bind fun v5 =>
(afieldAddr 0 v5).bind fun v6 =>
(((astore 1 v6 r4.1 r4.2).bind fun s8 =>
some (undef, s8)).bind (ownR r4.2)).bind fun r7 =>
retV [] r7.2

theorem record_writer_text_of {lib : Lib} (hl : lib 90 = none) {x0 x1 : Value} {s : St} {r : Value × St} (h : record_writer_text (run Tryz.prog lib hints) x0 x1 s = some r) : run Tryz.prog lib hints 90 [x0, x1] s = some r :=
  run_of hl Tryz.func90 (Eq.trans (by kernel_rfl) h)

theorem record_writer_text_ok : funcOk Tryz.prog 90 = true := by kernel_rfl
theorem record_writer_text_call {R : Caller} {xs : List Value} {s : St} : callV Tryz.prog R (.func (.func 90) #[] #[]) xs s = R 90 xs s := callV_eq record_writer_text_ok

noncomputable def record_rows_api_Hold.b0 (R : Caller) (T : List Value) (s : St) : Res :=
(abin Tryz.prog .lss 3 (.tmp 10) (.tmp 9) (getL T 3) (getL T 2)).bind fun v1 =>
condV v1
 ((aindexS 2 (getL T 1) (getL T 3)).bind fun v2 =>
(aload true 2 v2 s).bind fun v3 =>
(lstore 2 lptr v3 (.agg #[(.int .u64 0), (.slice none 0 0)])).bind fun v4 =>
(lload true 2 lptr v4).bind fun v5 =>
(callV Tryz.prog R (getL T 0) [v5] s).bind fun r6 =>
(abin Tryz.prog .add 3 (.tmp 10) (.const (.int .i64 1)) (getL T 3) (.int .i64 1)).bind fun v7 =>
some (.normal, [(getL T 0), (getL T 1), (getL T 2), v7], r6.2))
 (some (.exit 0, [], s))

noncomputable def record_rows_api_Hold (R : Caller) (x0 x1 x2 : Value) (s : St) : Option (Value × St) :=
(alenV (.slice 64) x1 s).bind fun v0 =>
(loopL (record_rows_api_Hold.b0 R) [x2, x1, v0, (.int .i64 0)] s).bind fun r8 =>
exV r8.1 [(0, retV [] r8.2.2)]
 (none)

theorem record_rows_api_Hold_of {lib : Lib} (hl : lib 91 = none) {x0 x1 x2 : Value} {s : St} {r : Value × St} (h : record_rows_api_Hold (run Tryz.prog lib hints) x0 x1 x2 s = some r) : run Tryz.prog lib hints 91 [x0, x1, x2] s = some r :=
  run_of hl Tryz.func91 (Eq.trans (by kernel_rfl) h)

theorem record_rows_api_Hold_ok : funcOk Tryz.prog 91 = true := by kernel_rfl
theorem record_rows_api_Hold_call {R : Caller} {xs : List Value} {s : St} : callV Tryz.prog R (.func (.func 91) #[] #[]) xs s = R 91 xs s := callV_eq record_rows_api_Hold_ok

noncomputable def record_list_api_Op (R : Caller) (x0 x1 x2 : Value) (s : St) : Option (Value × St) :=
(alenV (.slice 72) x1 s).bind fun v0 =>
(callV Tryz.prog R (.func (.func 88) #[] #[]) [x0, v0] s).bind fun r1 =>
(callV Tryz.prog R (.func (.func 131) #[] #[]) [x0, x1, x2] r1.2).bind fun r2 =>
retV [] r2.2

theorem record_list_api_Op_of {lib : Lib} (hl : lib 92 = none) {x0 x1 x2 : Value} {s : St} {r : Value × St} (h : record_list_api_Op (run Tryz.prog lib hints) x0 x1 x2 s = some r) : run Tryz.prog lib hints 92 [x0, x1, x2] s = some r :=
  run_of hl Tryz.func92 (Eq.trans (by kernel_rfl) h)

theorem record_list_api_Op_ok : funcOk Tryz.prog 92 = true := by kernel_rfl
theorem record_list_api_Op_call {R : Caller} {xs : List Value} {s : St} : callV Tryz.prog R (.func (.func 92) #[] #[]) xs s = R 92 xs s := callV_eq record_list_api_Op_ok

noncomputable def record_writer_op.b0 (R : Caller) (T : List Value) (s : St) : Res :=
(abin Tryz.prog .lss 3 (.tmp 20) (.tmp 19) (getL T 4) (getL T 3)).bind fun v9 =>
condV v9
 ((aindexS 1 (getL T 2) (getL T 4)).bind fun v10 =>
(aload false 1 v10 s).bind fun v11 =>
(callV Tryz.prog R (.func (.func 90) #[] #[]) [(getL T 0), v11] s).bind fun r12 =>
(abin Tryz.prog .add 3 (.tmp 20) (.const (.int .i64 1)) (getL T 4) (.int .i64 1)).bind fun v13 =>
some (.normal, [(getL T 0), (getL T 1), (getL T 2), (getL T 3), v13, (getL T 5)], r12.2))
 (some (.exit 0, [(getL T 0), (getL T 1), (getL T 5)], s))

noncomputable def record_writer_op (R : Caller) (x0 x1 : Value) (s : St) : Option (Value × St) :=
(lbox x1).bind fun v0 =>
(lload false 1 lptr v0).bind fun v1 =>
(callV Tryz.prog R (.func (.func 88) #[] #[]) [x0, v1] s).bind fun r2 =>
(lload false 1 (.pointer (some ⟨0, 1, none⟩)) v0).bind fun v3 =>
(lload false 1 (.pointer (some ⟨0, 2, none⟩)) v0).bind fun v4 =>
(lload false 1 (.pointer (some ⟨0, 3, none⟩)) v0).bind fun v5 =>
(lload false 1 (.pointer (some ⟨0, 4, none⟩)) v0).bind fun v6 =>
(abuildSl 1 [(.string ⟨#[]⟩)] 4 [(0, v3), (1, v4), (2, v5), (3, v6)] r2.2).bind fun r7 =>
(alenV (.slice 9) r7.1 r7.2).bind fun v8 =>
(loopL (record_writer_op.b0 R) [x0, lptr, r7.1, v8, (.int .i64 0), v0] r7.2).bind fun r14 =>
exV r14.1 [(0, (afieldAddr 5 (getL r14.2.1 1)).bind fun v15 =>
(lload false 1 v15 (getL r14.2.1 2)).bind fun v16 =>
(callV Tryz.prog R (.func (.func 88) #[] #[]) [(getL r14.2.1 0), v16] r14.2.2).bind fun r17 =>
retV [] r17.2)]
 (none)

theorem record_writer_op_of {lib : Lib} (hl : lib 93 = none) {x0 x1 : Value} {s : St} {r : Value × St} (h : record_writer_op (run Tryz.prog lib hints) x0 x1 s = some r) : run Tryz.prog lib hints 93 [x0, x1] s = some r :=
  run_of hl Tryz.func93 (Eq.trans (by kernel_rfl) h)

theorem record_writer_op_ok : funcOk Tryz.prog 93 = true := by kernel_rfl
noncomputable def octet_Num.b0 (R : Caller) (T : List Value) (s : St) : Res :=
(abin Tryz.prog .geq 22 (.tmp 4) (.const (.int .u64 128)) (getL T 0) (.int .u64 128)).bind fun v0 =>
condV v0
 ((convInt .u8 (getL T 0)).bind fun v1 =>
(abin Tryz.prog .or 5 (.tmp 8) (.const (.int .u8 128)) v1 (.int .u8 128)).bind fun v2 =>
(abuildSl 1 [(.int .u8 0)] 1 [(0, v2)] s).bind fun r3 =>
(aappend 1 1 (getL T 1) r3.1 r3.2).bind fun r4 =>
(abin Tryz.prog .shr 22 (.tmp 12) (.const (.int .u64 7)) (getL T 0) (.int .u64 7)).bind fun v5 =>
some (.normal, [v5, r4.1], r4.2))
 (some (.exit 0, [(getL T 0), (getL T 1)], s))

noncomputable def octet_Num (R : Caller) (x0 : Value) (s : St) : Option (Value × St) :=
(loopL (octet_Num.b0 R) [x0, (.slice none 0 0)] s).bind fun r6 =>
exV r6.1 [(0, (convInt .u8 (getL r6.2.1 0)).bind fun v7 =>
(abuildSl 1 [(.int .u8 0)] 1 [(0, v7)] r6.2.2).bind fun r8 =>
(aappend 1 1 (getL r6.2.1 1) r8.1 r8.2).bind fun r9 =>
retV [r9.1] r9.2)]
 (none)

theorem octet_Num_of {lib : Lib} (hl : lib 94 = none) {x0 : Value} {s : St} {r : Value × St} (h : octet_Num (run Tryz.prog lib hints) x0 s = some r) : run Tryz.prog lib hints 94 [x0] s = some r :=
  run_of hl Tryz.func94 (Eq.trans (by kernel_rfl) h)

theorem octet_Num_ok : funcOk Tryz.prog 94 = true := by kernel_rfl
theorem octet_Num_call {R : Caller} {xs : List Value} {s : St} : callV Tryz.prog R (.func (.func 94) #[] #[]) xs s = R 94 xs s := callV_eq octet_Num_ok

noncomputable def ref01_Num (R : Caller) (x0 : Value) (s : St) : Option (Value × St) :=
(abin Tryz.prog .lss 22 (.tmp 3) (.const (.int .u64 128)) x0 (.int .u64 128)).bind fun v0 =>
condV v0
 ((convInt .u8 x0).bind fun v1 =>
(abuildSl 1 [(.int .u8 0)] 1 [(0, v1)] s).bind fun r2 =>
retV [r2.1] r2.2)
 ((abin Tryz.prog .rem 22 (.tmp 8) (.const (.int .u64 128)) x0 (.int .u64 128)).bind fun v3 =>
(convInt .u8 v3).bind fun v4 =>
(abin Tryz.prog .add 5 (.tmp 10) (.const (.int .u8 128)) v4 (.int .u8 128)).bind fun v5 =>
(abuildSl 1 [(.int .u8 0)] 1 [(0, v5)] s).bind fun r6 =>
(abin Tryz.prog .quo 22 (.tmp 13) (.const (.int .u64 128)) x0 (.int .u64 128)).bind fun v7 =>
(callV Tryz.prog R (.func (.func 95) #[] #[]) [v7] r6.2).bind fun r8 =>
(aappend 1 1 r6.1 r8.1 r8.2).bind fun r9 =>
retV [r9.1] r9.2)

theorem ref01_Num_of {lib : Lib} (hl : lib 95 = none) {x0 : Value} {s : St} {r : Value × St} (h : ref01_Num (run Tryz.prog lib hints) x0 s = some r) : run Tryz.prog lib hints 95 [x0] s = some r :=
  run_of hl Tryz.func95 (Eq.trans (by kernel_rfl) h)

theorem ref01_Num_ok : funcOk Tryz.prog 95 = true := by kernel_rfl
theorem ref01_Num_call {R : Caller} {xs : List Value} {s : St} : callV Tryz.prog R (.func (.func 95) #[] #[]) xs s = R 95 xs s := callV_eq ref01_Num_ok

noncomputable def ref01_Text (R : Caller) (x0 : Value) (s : St) : Option (Value × St) :=
(alenV .string x0 s).bind fun v0 =>
(convInt .u64 v0).bind fun v1 =>
(callV Tryz.prog R (.func (.func 95) #[] #[]) [v1] s).bind fun r2 =>
(aappend 1 1 r2.1 x0 r2.2).bind fun r3 =>
retV [r3.1] r3.2

theorem ref01_Text_of {lib : Lib} (hl : lib 96 = none) {x0 : Value} {s : St} {r : Value × St} (h : ref01_Text (run Tryz.prog lib hints) x0 s = some r) : run Tryz.prog lib hints 96 [x0] s = some r :=
  run_of hl Tryz.func96 (Eq.trans (by kernel_rfl) h)

theorem ref01_Text_ok : funcOk Tryz.prog 96 = true := by kernel_rfl
noncomputable def record_rows_api_Decision.b0 (R : Caller) (T : List Value) (s : St) : Res :=
(abin Tryz.prog .lss 3 (.tmp 10) (.tmp 9) (getL T 3) (getL T 2)).bind fun v1 =>
condV v1
 ((aindexS 5 (getL T 1) (getL T 3)).bind fun v2 =>
(aload true 5 v2 s).bind fun v3 =>
(lstore 5 lptr v3 (.agg #[(.int .u64 0), (.int .i64 0), (.int .u64 0), (.int .u64 0), (.slice none 0 0)])).bind fun v4 =>
(lload true 5 lptr v4).bind fun v5 =>
(callV Tryz.prog R (getL T 0) [v5] s).bind fun r6 =>
(abin Tryz.prog .add 3 (.tmp 10) (.const (.int .i64 1)) (getL T 3) (.int .i64 1)).bind fun v7 =>
some (.normal, [(getL T 0), (getL T 1), (getL T 2), v7], r6.2))
 (some (.exit 0, [], s))

noncomputable def record_rows_api_Decision (R : Caller) (x0 x1 x2 : Value) (s : St) : Option (Value × St) :=
(alenV (.slice 77) x1 s).bind fun v0 =>
(loopL (record_rows_api_Decision.b0 R) [x2, x1, v0, (.int .i64 0)] s).bind fun r8 =>
exV r8.1 [(0, retV [] r8.2.2)]
 (none)

theorem record_rows_api_Decision_of {lib : Lib} (hl : lib 97 = none) {x0 x1 x2 : Value} {s : St} {r : Value × St} (h : record_rows_api_Decision (run Tryz.prog lib hints) x0 x1 x2 s = some r) : run Tryz.prog lib hints 97 [x0, x1, x2] s = some r :=
  run_of hl Tryz.func97 (Eq.trans (by kernel_rfl) h)

theorem record_rows_api_Decision_ok : funcOk Tryz.prog 97 = true := by kernel_rfl
theorem record_rows_api_Decision_call {R : Caller} {xs : List Value} {s : St} : callV Tryz.prog R (.func (.func 97) #[] #[]) xs s = R 97 xs s := callV_eq record_rows_api_Decision_ok

noncomputable def record_list_int (R : Caller) (x0 x1 x2 : Value) (s : St) : Option (Value × St) :=
(alenV (.slice 3) x1 s).bind fun v0 =>
(callV Tryz.prog R (.func (.func 88) #[] #[]) [x0, v0] s).bind fun r1 =>
(callV Tryz.prog R (.func (.func 132) #[] #[]) [x0, x1, x2] r1.2).bind fun r2 =>
retV [] r2.2

theorem record_list_int_of {lib : Lib} (hl : lib 98 = none) {x0 x1 x2 : Value} {s : St} {r : Value × St} (h : record_list_int (run Tryz.prog lib hints) x0 x1 x2 s = some r) : run Tryz.prog lib hints 98 [x0, x1, x2] s = some r :=
  run_of hl Tryz.func98 (Eq.trans (by kernel_rfl) h)

theorem record_list_int_ok : funcOk Tryz.prog 98 = true := by kernel_rfl
theorem record_list_int_call {R : Caller} {xs : List Value} {s : St} : callV Tryz.prog R (.func (.func 98) #[] #[]) xs s = R 98 xs s := callV_eq record_list_int_ok

noncomputable def record_rows_api_Last.b0 (R : Caller) (T : List Value) (s : St) : Res :=
(abin Tryz.prog .lss 3 (.tmp 10) (.tmp 9) (getL T 3) (getL T 2)).bind fun v1 =>
condV v1
 ((aindexS 4 (getL T 1) (getL T 3)).bind fun v2 =>
(aload true 4 v2 s).bind fun v3 =>
(lstore 4 lptr v3 (.agg #[(.int .i64 0), (.int .u64 0), (.int .u64 0), (.slice none 0 0)])).bind fun v4 =>
(lload true 4 lptr v4).bind fun v5 =>
(callV Tryz.prog R (getL T 0) [v5] s).bind fun r6 =>
(abin Tryz.prog .add 3 (.tmp 10) (.const (.int .i64 1)) (getL T 3) (.int .i64 1)).bind fun v7 =>
some (.normal, [(getL T 0), (getL T 1), (getL T 2), v7], r6.2))
 (some (.exit 0, [], s))

noncomputable def record_rows_api_Last (R : Caller) (x0 x1 x2 : Value) (s : St) : Option (Value × St) :=
(alenV (.slice 82) x1 s).bind fun v0 =>
(loopL (record_rows_api_Last.b0 R) [x2, x1, v0, (.int .i64 0)] s).bind fun r8 =>
exV r8.1 [(0, retV [] r8.2.2)]
 (none)

theorem record_rows_api_Last_of {lib : Lib} (hl : lib 99 = none) {x0 x1 x2 : Value} {s : St} {r : Value × St} (h : record_rows_api_Last (run Tryz.prog lib hints) x0 x1 x2 s = some r) : run Tryz.prog lib hints 99 [x0, x1, x2] s = some r :=
  run_of hl Tryz.func99 (Eq.trans (by kernel_rfl) h)

theorem record_rows_api_Last_ok : funcOk Tryz.prog 99 = true := by kernel_rfl
theorem record_rows_api_Last_call {R : Caller} {xs : List Value} {s : St} : callV Tryz.prog R (.func (.func 99) #[] #[]) xs s = R 99 xs s := callV_eq record_rows_api_Last_ok

noncomputable def record_list_api_Result (R : Caller) (x0 x1 x2 : Value) (s : St) : Option (Value × St) :=
(alenV (.slice 146) x1 s).bind fun v0 =>
(callV Tryz.prog R (.func (.func 88) #[] #[]) [x0, v0] s).bind fun r1 =>
(callV Tryz.prog R (.func (.func 133) #[] #[]) [x0, x1, x2] r1.2).bind fun r2 =>
retV [] r2.2

theorem record_list_api_Result_of {lib : Lib} (hl : lib 100 = none) {x0 x1 x2 : Value} {s : St} {r : Value × St} (h : record_list_api_Result (run Tryz.prog lib hints) x0 x1 x2 s = some r) : run Tryz.prog lib hints 100 [x0, x1, x2] s = some r :=
  run_of hl Tryz.func100 (Eq.trans (by kernel_rfl) h)

theorem record_list_api_Result_ok : funcOk Tryz.prog 100 = true := by kernel_rfl
theorem record_list_api_Result_call {R : Caller} {xs : List Value} {s : St} : callV Tryz.prog R (.func (.func 100) #[] #[]) xs s = R 100 xs s := callV_eq record_list_api_Result_ok

noncomputable def record_writer_result (R : Caller) (x0 x1 : Value) (s : St) : Option (Value × St) :=
(lbox x1).bind fun v0 =>
(lload false 1 lptr v0).bind fun v1 =>
(callV Tryz.prog R (.func (.func 134) #[] #[]) [x0, v1] s).bind fun r2 =>
(lload false 1 (.pointer (some ⟨0, 1, none⟩)) v0).bind fun v3 =>
(callV Tryz.prog R (.func (.func 90) #[] #[]) [x0, v3] r2.2).bind fun r4 =>
(lload false 1 (.pointer (some ⟨0, 2, none⟩)) v0).bind fun v5 =>
(amkFunc 136 [x0] []).bind fun v6 =>
(callV Tryz.prog R (.func (.func 135) #[] #[]) [x0, v5, v6] r4.2).bind fun r7 =>
retV [] r7.2

theorem record_writer_result_of {lib : Lib} (hl : lib 101 = none) {x0 x1 : Value} {s : St} {r : Value × St} (h : record_writer_result (run Tryz.prog lib hints) x0 x1 s = some r) : run Tryz.prog lib hints 101 [x0, x1] s = some r :=
  run_of hl Tryz.func101 (Eq.trans (by kernel_rfl) h)

theorem record_writer_result_ok : funcOk Tryz.prog 101 = true := by kernel_rfl
noncomputable def span_CheckKey (R : Caller) (x0 : Value) (s : St) : Option (Value × St) :=
(abin Tryz.prog .eql 9 (.tmp 3) (.const (.string ⟨#[]⟩)) x0 (.string ⟨#[]⟩)).bind fun v0 =>
(guardV v0 false ((alenV .string x0 s).bind fun v1 =>
(abin Tryz.prog .gtr 3 (.tmp 7) (.const (.int .i64 12)) v1 (.int .i64 12)).bind fun v2 =>
some ([v2], s)) (some ([undef], s))).bind fun q3 =>
(apick v0 (.bool true) (getL q3.1 0)).bind fun v4 =>
condV v4
 (retV [(.int .i64 20)] q3.2)
 (retV [(.int .i64 0)] q3.2)

theorem span_CheckKey_of {lib : Lib} (hl : lib 103 = none) {x0 : Value} {s : St} {r : Value × St} (h : span_CheckKey (run Tryz.prog lib hints) x0 s = some r) : run Tryz.prog lib hints 103 [x0] s = some r :=
  run_of hl Tryz.func103 (Eq.trans (by kernel_rfl) h)

theorem span_CheckKey_ok : funcOk Tryz.prog 103 = true := by kernel_rfl
theorem span_CheckKey_call {R : Caller} {xs : List Value} {s : St} : callV Tryz.prog R (.func (.func 103) #[] #[]) xs s = R 103 xs s := callV_eq span_CheckKey_ok

noncomputable def span_all (R : Caller) (s : St) : Option (Value × St) :=
retV [(.agg #[(.string ⟨#[]⟩), (.string ⟨#[]⟩)])] s

theorem span_all_of {lib : Lib} (hl : lib 104 = none) {s : St} {r : Value × St} (h : span_all (run Tryz.prog lib hints)  s = some r) : run Tryz.prog lib hints 104 [] s = some r :=
  run_of hl Tryz.func104 (Eq.trans (by kernel_rfl) h)

theorem span_all_ok : funcOk Tryz.prog 104 = true := by kernel_rfl
theorem span_all_call {R : Caller} {xs : List Value} {s : St} : callV Tryz.prog R (.func (.func 104) #[] #[]) xs s = R 104 xs s := callV_eq span_all_ok

noncomputable def slices_Index_uint64_uint64.b0 (R : Caller) (T : List Value) (s : St) : Res :=
(abin Tryz.prog .lss 3 (.tmp 8) (.tmp 7) (getL T 3) (getL T 2)).bind fun v1 =>
condV v1
 ((aindexS 1 (getL T 0) (getL T 3)).bind fun v2 =>
(aload false 1 v2 s).bind fun v3 =>
(abin Tryz.prog .eql 22 (.tmp 11) (.tmp 15) (getL T 1) v3).bind fun v4 =>
condV v4
 (some (.ret, [(getL T 3)], s))
 ((abin Tryz.prog .add 3 (.tmp 8) (.const (.int .i64 1)) (getL T 3) (.int .i64 1)).bind fun v5 =>
some (.normal, [(getL T 0), (getL T 1), (getL T 2), v5], s)))
 (some (.exit 0, [], s))

noncomputable def slices_Index_uint64_uint64 (R : Caller) (x0 x1 : Value) (s : St) : Option (Value × St) :=
(alenV (.slice 22) x0 s).bind fun v0 =>
(loopL (slices_Index_uint64_uint64.b0 R) [x0, x1, v0, (.int .i64 0)] s).bind fun r6 =>
exV r6.1 [(0, retV [(.int .i64 (-1))] r6.2.2)]
 (retV [(getL r6.2.1 0)] r6.2.2)

theorem slices_Index_uint64_uint64_of {lib : Lib} (hl : lib 105 = none) {x0 x1 : Value} {s : St} {r : Value × St} (h : slices_Index_uint64_uint64 (run Tryz.prog lib hints) x0 x1 s = some r) : run Tryz.prog lib hints 105 [x0, x1] s = some r :=
  run_of hl Tryz.func105 (Eq.trans (by kernel_rfl) h)

theorem slices_Index_uint64_uint64_ok : funcOk Tryz.prog 105 = true := by kernel_rfl
theorem slices_Index_uint64_uint64_call {R : Caller} {xs : List Value} {s : St} : callV Tryz.prog R (.func (.func 105) #[] #[]) xs s = R 105 xs s := callV_eq slices_Index_uint64_uint64_ok

noncomputable def slices_IndexFunc_api_Op_api_Op.b0 (R : Caller) (T : List Value) (s : St) : Res :=
(abin Tryz.prog .lss 3 (.tmp 8) (.tmp 7) (getL T 3) (getL T 2)).bind fun v1 =>
condV v1
 ((aindexS 6 (getL T 0) (getL T 3)).bind fun v2 =>
(aload true 6 v2 s).bind fun v3 =>
(callV Tryz.prog R (getL T 1) [v3] s).bind fun r4 =>
condV r4.1
 (some (.ret, [(getL T 3)], r4.2))
 ((abin Tryz.prog .add 3 (.tmp 8) (.const (.int .i64 1)) (getL T 3) (.int .i64 1)).bind fun v5 =>
some (.normal, [(getL T 0), (getL T 1), (getL T 2), v5], r4.2)))
 (some (.exit 0, [], s))

noncomputable def slices_IndexFunc_api_Op_api_Op (R : Caller) (x0 x1 : Value) (s : St) : Option (Value × St) :=
(alenV (.slice 72) x0 s).bind fun v0 =>
(loopL (slices_IndexFunc_api_Op_api_Op.b0 R) [x0, x1, v0, (.int .i64 0)] s).bind fun r6 =>
exV r6.1 [(0, retV [(.int .i64 (-1))] r6.2.2)]
 (retV [(getL r6.2.1 0)] r6.2.2)

theorem slices_IndexFunc_api_Op_api_Op_of {lib : Lib} (hl : lib 106 = none) {x0 x1 : Value} {s : St} {r : Value × St} (h : slices_IndexFunc_api_Op_api_Op (run Tryz.prog lib hints) x0 x1 s = some r) : run Tryz.prog lib hints 106 [x0, x1] s = some r :=
  run_of hl Tryz.func106 (Eq.trans (by kernel_rfl) h)

theorem slices_IndexFunc_api_Op_api_Op_ok : funcOk Tryz.prog 106 = true := by kernel_rfl
theorem slices_IndexFunc_api_Op_api_Op_call {R : Caller} {xs : List Value} {s : St} : callV Tryz.prog R (.func (.func 106) #[] #[]) xs s = R 106 xs s := callV_eq slices_IndexFunc_api_Op_api_Op_ok

noncomputable def op_formOf (R : Caller) (x0 : Value) (s : St) : Option (Value × St) :=
(abin Tryz.prog .lss 3 (.tmp 4) (.const (.int .i64 1)) x0 (.int .i64 1)).bind fun v0 =>
(guardV v0 false ((abin Tryz.prog .gtr 3 (.tmp 7) (.const (.int .i64 5)) x0 (.int .i64 5)).bind fun v1 =>
some ([v1], s)) (some ([undef], s))).bind fun q2 =>
(apick v0 (.bool true) (getL q2.1 0)).bind fun v3 =>
condV v3
 (retV [(.agg #[(.bool false), (.bool false), (.bool false), (.bool false), (.bool false), .nilFunc]), (.bool false)] q2.2)
 ((callV Tryz.prog R (.func (.func 137) #[] #[]) [] q2.2).bind fun r4 =>
(aindexAgg true 6 6 r4.1 x0).bind fun v5 =>
(lstore 6 lptr v5 (.agg #[(.bool false), (.bool false), (.bool false), (.bool false), (.bool false), .nilFunc])).bind fun v6 =>
(lload true 6 lptr v6).bind fun v7 =>
retV [v7, (.bool true)] r4.2)

theorem op_formOf_of {lib : Lib} (hl : lib 107 = none) {x0 : Value} {s : St} {r : Value × St} (h : op_formOf (run Tryz.prog lib hints) x0 s = some r) : run Tryz.prog lib hints 107 [x0] s = some r :=
  run_of hl Tryz.func107 (Eq.trans (by kernel_rfl) h)

theorem op_formOf_ok : funcOk Tryz.prog 107 = true := by kernel_rfl
theorem op_formOf_call {R : Caller} {xs : List Value} {s : St} : callV Tryz.prog R (.func (.func 107) #[] #[]) xs s = R 107 xs s := callV_eq op_formOf_ok

noncomputable def op_of (R : Caller) (x0 : Value) (s : St) : Option (Value × St) :=
(lbox x0).bind fun v0 =>
(lload false 1 (.pointer (some ⟨0, 3, none⟩)) v0).bind fun v1 =>
(lload false 1 (.pointer (some ⟨0, 4, none⟩)) v0).bind fun v2 =>
(abuild Tryz.prog 27 [(0, v1), (1, v2)]).bind fun v3 =>
(lstore 2 lptr v3 (.agg #[(.string ⟨#[]⟩), (.string ⟨#[]⟩)])).bind fun v4 =>
(lload true 2 lptr v4).bind fun v5 =>
retV [v5] s

theorem op_of_of {lib : Lib} (hl : lib 108 = none) {x0 : Value} {s : St} {r : Value × St} (h : op_of (run Tryz.prog lib hints) x0 s = some r) : run Tryz.prog lib hints 108 [x0] s = some r :=
  run_of hl Tryz.func108 (Eq.trans (by kernel_rfl) h)

theorem op_of_ok : funcOk Tryz.prog 108 = true := by kernel_rfl
theorem op_of_call {R : Caller} {xs : List Value} {s : St} : callV Tryz.prog R (.func (.func 108) #[] #[]) xs s = R 108 xs s := callV_eq op_of_ok

noncomputable def slices_IndexFunc_api_Hold_api_Hold.b0 (R : Caller) (T : List Value) (s : St) : Res :=
(abin Tryz.prog .lss 3 (.tmp 8) (.tmp 7) (getL T 3) (getL T 2)).bind fun v1 =>
condV v1
 ((aindexS 2 (getL T 0) (getL T 3)).bind fun v2 =>
(aload true 2 v2 s).bind fun v3 =>
(callV Tryz.prog R (getL T 1) [v3] s).bind fun r4 =>
condV r4.1
 (some (.ret, [(getL T 3)], r4.2))
 ((abin Tryz.prog .add 3 (.tmp 8) (.const (.int .i64 1)) (getL T 3) (.int .i64 1)).bind fun v5 =>
some (.normal, [(getL T 0), (getL T 1), (getL T 2), v5], r4.2)))
 (some (.exit 0, [], s))

noncomputable def slices_IndexFunc_api_Hold_api_Hold (R : Caller) (x0 x1 : Value) (s : St) : Option (Value × St) :=
(alenV (.slice 64) x0 s).bind fun v0 =>
(loopL (slices_IndexFunc_api_Hold_api_Hold.b0 R) [x0, x1, v0, (.int .i64 0)] s).bind fun r6 =>
exV r6.1 [(0, retV [(.int .i64 (-1))] r6.2.2)]
 (retV [(getL r6.2.1 0)] r6.2.2)

theorem slices_IndexFunc_api_Hold_api_Hold_of {lib : Lib} (hl : lib 109 = none) {x0 x1 : Value} {s : St} {r : Value × St} (h : slices_IndexFunc_api_Hold_api_Hold (run Tryz.prog lib hints) x0 x1 s = some r) : run Tryz.prog lib hints 109 [x0, x1] s = some r :=
  run_of hl Tryz.func109 (Eq.trans (by kernel_rfl) h)

theorem slices_IndexFunc_api_Hold_api_Hold_ok : funcOk Tryz.prog 109 = true := by kernel_rfl
theorem slices_IndexFunc_api_Hold_api_Hold_call {R : Caller} {xs : List Value} {s : St} : callV Tryz.prog R (.func (.func 109) #[] #[]) xs s = R 109 xs s := callV_eq slices_IndexFunc_api_Hold_api_Hold_ok

noncomputable def ref02_CheckKey (R : Caller) (x0 : Value) (s : St) : Option (Value × St) :=
(alenV .string x0 s).bind fun v0 =>
(abin Tryz.prog .lss 3 (.tmp 4) (.const (.int .i64 1)) v0 (.int .i64 1)).bind fun v1 =>
(guardV v1 false ((alenV .string x0 s).bind fun v2 =>
(abin Tryz.prog .gtr 3 (.tmp 8) (.const (.int .i64 12)) v2 (.int .i64 12)).bind fun v3 =>
some ([v3], s)) (some ([undef], s))).bind fun q4 =>
(apick v1 (.bool true) (getL q4.1 0)).bind fun v5 =>
condV v5
 (retV [(.int .i64 20)] q4.2)
 (retV [(.int .i64 0)] q4.2)

theorem ref02_CheckKey_of {lib : Lib} (hl : lib 110 = none) {x0 : Value} {s : St} {r : Value × St} (h : ref02_CheckKey (run Tryz.prog lib hints) x0 s = some r) : run Tryz.prog lib hints 110 [x0] s = some r :=
  run_of hl Tryz.func110 (Eq.trans (by kernel_rfl) h)

theorem ref02_CheckKey_ok : funcOk Tryz.prog 110 = true := by kernel_rfl
theorem ref02_CheckKey_call {R : Caller} {xs : List Value} {s : St} : callV Tryz.prog R (.func (.func 110) #[] #[]) xs s = R 110 xs s := callV_eq ref02_CheckKey_ok

noncomputable def ref04_CheckOp (R : Caller) (x0 : Value) (s : St) : Option (Value × St) :=
(lbox x0).bind fun v0 =>
(lload false 1 lptr v0).bind fun v1 =>
(abin Tryz.prog .eql 3 (.tmp 6) (.const (.int .i64 1)) v1 (.int .i64 1)).bind fun v2 =>
(guardV v2 false ((lload false 1 lptr v0).bind fun v3 =>
(abin Tryz.prog .eql 3 (.tmp 10) (.const (.int .i64 2)) v3 (.int .i64 2)).bind fun v4 =>
some ([v4], s)) (some ([undef], s))).bind fun q5 =>
(apick v2 (.bool true) (getL q5.1 0)).bind fun v6 =>
(guardV v6 false ((lload false 1 lptr v0).bind fun v7 =>
(abin Tryz.prog .eql 3 (.tmp 15) (.const (.int .i64 3)) v7 (.int .i64 3)).bind fun v8 =>
some ([v8], q5.2)) (some ([undef], q5.2))).bind fun q9 =>
(apick v6 (.bool true) (getL q9.1 0)).bind fun v10 =>
(lload false 1 lptr v0).bind fun v11 =>
(abin Tryz.prog .eql 3 (.tmp 19) (.const (.int .i64 4)) v11 (.int .i64 4)).bind fun v12 =>
(guardV v12 false ((lload false 1 lptr v0).bind fun v13 =>
(abin Tryz.prog .eql 3 (.tmp 23) (.const (.int .i64 5)) v13 (.int .i64 5)).bind fun v14 =>
some ([v14], q9.2)) (some ([undef], q9.2))).bind fun q15 =>
(apick v12 (.bool true) (getL q15.1 0)).bind fun v16 =>
(aun .not v10).bind fun v17 =>
(guardV v17 true ((aun .not v16).bind fun v18 =>
some ([v18], q15.2)) (some ([undef], q15.2))).bind fun q19 =>
(apick v17 (getL q19.1 0) (.bool false)).bind fun v20 =>
(guardV v20 false (some ([v10], q19.2)) (some ([undef], q19.2))).bind fun q21 =>
(guardV (getL q21.1 0) true ((lload false 1 (.pointer (some ⟨0, 3, none⟩)) v0).bind fun v22 =>
(abin Tryz.prog .neq 9 (.tmp 36) (.const (.string ⟨#[]⟩)) v22 (.string ⟨#[]⟩)).bind fun v23 =>
some ([v23], q21.2)) (some ([undef], q21.2))).bind fun q24 =>
(guardV (getL q24.1 0) false ((lload false 1 (.pointer (some ⟨0, 4, none⟩)) v0).bind fun v25 =>
(abin Tryz.prog .neq 9 (.tmp 40) (.const (.string ⟨#[]⟩)) v25 (.string ⟨#[]⟩)).bind fun v26 =>
some ([v26], q24.2)) (some ([undef], q24.2))).bind fun q27 =>
(guardV (getL q21.1 0) true ((apick (getL q24.1 0) (.bool true) (getL q27.1 0)).bind fun v28 =>
some ([v28], q27.2)) (some ([undef], q27.2))).bind fun q29 =>
(guardV v20 false ((apick (getL q21.1 0) (getL q29.1 0) (.bool false)).bind fun v30 =>
some ([v30], q29.2)) (some ([undef], q29.2))).bind fun q31 =>
(apick v20 (.bool true) (getL q31.1 0)).bind fun v32 =>
(guardV v32 false (some ([v16], q31.2)) (some ([undef], q31.2))).bind fun q33 =>
(guardV (getL q33.1 0) true ((lload false 1 (.pointer (some ⟨0, 1, none⟩)) v0).bind fun v34 =>
(abin Tryz.prog .neq 9 (.tmp 49) (.const (.string ⟨#[]⟩)) v34 (.string ⟨#[]⟩)).bind fun v35 =>
some ([v35], q33.2)) (some ([undef], q33.2))).bind fun q36 =>
(guardV v32 false ((apick (getL q33.1 0) (getL q36.1 0) (.bool false)).bind fun v37 =>
some ([v37], q36.2)) (some ([undef], q36.2))).bind fun q38 =>
(apick v32 (.bool true) (getL q38.1 0)).bind fun v39 =>
(guardV v39 false ((lload false 1 lptr v0).bind fun v40 =>
(abin Tryz.prog .neq 3 (.tmp 55) (.const (.int .i64 2)) v40 (.int .i64 2)).bind fun v41 =>
some ([v41], q38.2)) (some ([undef], q38.2))).bind fun q42 =>
(guardV (getL q42.1 0) true ((lload false 1 (.pointer (some ⟨0, 2, none⟩)) v0).bind fun v43 =>
(abin Tryz.prog .neq 9 (.tmp 59) (.const (.string ⟨#[]⟩)) v43 (.string ⟨#[]⟩)).bind fun v44 =>
some ([v44], q42.2)) (some ([undef], q42.2))).bind fun q45 =>
(guardV v39 false ((apick (getL q42.1 0) (getL q45.1 0) (.bool false)).bind fun v46 =>
some ([v46], q45.2)) (some ([undef], q45.2))).bind fun q47 =>
(apick v39 (.bool true) (getL q47.1 0)).bind fun v48 =>
(guardV v48 false ((lload false 1 lptr v0).bind fun v49 =>
(abin Tryz.prog .neq 3 (.tmp 65) (.const (.int .i64 4)) v49 (.int .i64 4)).bind fun v50 =>
some ([v50], q47.2)) (some ([undef], q47.2))).bind fun q51 =>
(guardV (getL q51.1 0) true ((lload false 1 (.pointer (some ⟨0, 5, none⟩)) v0).bind fun v52 =>
(abin Tryz.prog .neq 3 (.tmp 69) (.const (.int .i64 0)) v52 (.int .i64 0)).bind fun v53 =>
some ([v53], q51.2)) (some ([undef], q51.2))).bind fun q54 =>
(guardV v48 false ((apick (getL q51.1 0) (getL q54.1 0) (.bool false)).bind fun v55 =>
some ([v55], q54.2)) (some ([undef], q54.2))).bind fun q56 =>
(apick v48 (.bool true) (getL q56.1 0)).bind fun v57 =>
condV v57
 (retV [(.int .i64 40)] q56.2)
 ((guardV v10 true ((lload false 1 (.pointer (some ⟨0, 1, none⟩)) v0).bind fun v58 =>
(callV Tryz.prog R (.func (.func 110) #[] #[]) [v58] q56.2).bind fun r59 =>
(abin Tryz.prog .neq 38 (.tmp 77) (.const (.int .i64 0)) r59.1 (.int .i64 0)).bind fun v60 =>
some ([v60], r59.2)) (some ([undef], q56.2))).bind fun q61 =>
(apick v10 (getL q61.1 0) (.bool false)).bind fun v62 =>
condV v62
 (retV [(.int .i64 20)] q61.2)
 ((lload false 1 (.pointer (some ⟨0, 2, none⟩)) v0).bind fun v63 =>
(alenV .string v63 q61.2).bind fun v64 =>
(abin Tryz.prog .gtr 3 (.tmp 82) (.const (.int .i64 16)) v64 (.int .i64 16)).bind fun v65 =>
condV v65
 (retV [(.int .i64 2)] q61.2)
 ((guardV v16 true ((lload false 1 (.pointer (some ⟨0, 3, none⟩)) v0).bind fun v66 =>
(lload false 1 (.pointer (some ⟨0, 4, none⟩)) v0).bind fun v67 =>
(abuild Tryz.prog 27 [(0, v66), (1, v67)]).bind fun v68 =>
(callV Tryz.prog R (.func (.func 49) #[] #[]) [v68] q61.2).bind fun r69 =>
(abin Tryz.prog .neq 38 (.tmp 91) (.const (.int .i64 0)) r69.1 (.int .i64 0)).bind fun v70 =>
some ([v70], r69.2)) (some ([undef], q61.2))).bind fun q71 =>
(apick v16 (getL q71.1 0) (.bool false)).bind fun v72 =>
condV v72
 (retV [(.int .i64 21)] q71.2)
 ((lload false 1 lptr v0).bind fun v73 =>
(abin Tryz.prog .eql 3 (.tmp 95) (.const (.int .i64 4)) v73 (.int .i64 4)).bind fun v74 =>
(guardV v74 true ((lload false 1 (.pointer (some ⟨0, 5, none⟩)) v0).bind fun v75 =>
(abin Tryz.prog .lss 3 (.tmp 99) (.const (.int .i64 1)) v75 (.int .i64 1)).bind fun v76 =>
some ([v76], q71.2)) (some ([undef], q71.2))).bind fun q77 =>
(guardV (getL q77.1 0) false ((lload false 1 (.pointer (some ⟨0, 5, none⟩)) v0).bind fun v78 =>
(abin Tryz.prog .gtr 3 (.tmp 103) (.const (.int .i64 4)) v78 (.int .i64 4)).bind fun v79 =>
some ([v79], q77.2)) (some ([undef], q77.2))).bind fun q80 =>
(guardV v74 true ((apick (getL q77.1 0) (.bool true) (getL q80.1 0)).bind fun v81 =>
some ([v81], q80.2)) (some ([undef], q80.2))).bind fun q82 =>
(apick v74 (getL q82.1 0) (.bool false)).bind fun v83 =>
condV v83
 (retV [(.int .i64 1)] q82.2)
 (retV [(.int .i64 0)] q82.2)))))

theorem ref04_CheckOp_of {lib : Lib} (hl : lib 111 = none) {x0 : Value} {s : St} {r : Value × St} (h : ref04_CheckOp (run Tryz.prog lib hints) x0 s = some r) : run Tryz.prog lib hints 111 [x0] s = some r :=
  run_of hl Tryz.func111 (Eq.trans (by kernel_rfl) h)

theorem ref04_CheckOp_ok : funcOk Tryz.prog 111 = true := by kernel_rfl
noncomputable def slices_IndexFunc_api_Owner_api_Owner.b0 (R : Caller) (T : List Value) (s : St) : Res :=
(abin Tryz.prog .lss 3 (.tmp 8) (.tmp 7) (getL T 3) (getL T 2)).bind fun v1 =>
condV v1
 ((aindexS 2 (getL T 0) (getL T 3)).bind fun v2 =>
(aload true 2 v2 s).bind fun v3 =>
(callV Tryz.prog R (getL T 1) [v3] s).bind fun r4 =>
condV r4.1
 (some (.ret, [(getL T 3)], r4.2))
 ((abin Tryz.prog .add 3 (.tmp 8) (.const (.int .i64 1)) (getL T 3) (.int .i64 1)).bind fun v5 =>
some (.normal, [(getL T 0), (getL T 1), (getL T 2), v5], r4.2)))
 (some (.exit 0, [], s))

noncomputable def slices_IndexFunc_api_Owner_api_Owner (R : Caller) (x0 x1 : Value) (s : St) : Option (Value × St) :=
(alenV (.slice 54) x0 s).bind fun v0 =>
(loopL (slices_IndexFunc_api_Owner_api_Owner.b0 R) [x0, x1, v0, (.int .i64 0)] s).bind fun r6 =>
exV r6.1 [(0, retV [(.int .i64 (-1))] r6.2.2)]
 (retV [(getL r6.2.1 0)] r6.2.2)

theorem slices_IndexFunc_api_Owner_api_Owner_of {lib : Lib} (hl : lib 112 = none) {x0 x1 : Value} {s : St} {r : Value × St} (h : slices_IndexFunc_api_Owner_api_Owner (run Tryz.prog lib hints) x0 x1 s = some r) : run Tryz.prog lib hints 112 [x0, x1] s = some r :=
  run_of hl Tryz.func112 (Eq.trans (by kernel_rfl) h)

theorem slices_IndexFunc_api_Owner_api_Owner_ok : funcOk Tryz.prog 112 = true := by kernel_rfl
theorem slices_IndexFunc_api_Owner_api_Owner_call {R : Caller} {xs : List Value} {s : St} : callV Tryz.prog R (.func (.func 112) #[] #[]) xs s = R 112 xs s := callV_eq slices_IndexFunc_api_Owner_api_Owner_ok

noncomputable def slices_IndexFunc_api_Decision_api_Decision.b0 (R : Caller) (T : List Value) (s : St) : Res :=
(abin Tryz.prog .lss 3 (.tmp 8) (.tmp 7) (getL T 3) (getL T 2)).bind fun v1 =>
condV v1
 ((aindexS 5 (getL T 0) (getL T 3)).bind fun v2 =>
(aload true 5 v2 s).bind fun v3 =>
(callV Tryz.prog R (getL T 1) [v3] s).bind fun r4 =>
condV r4.1
 (some (.ret, [(getL T 3)], r4.2))
 ((abin Tryz.prog .add 3 (.tmp 8) (.const (.int .i64 1)) (getL T 3) (.int .i64 1)).bind fun v5 =>
some (.normal, [(getL T 0), (getL T 1), (getL T 2), v5], r4.2)))
 (some (.exit 0, [], s))

noncomputable def slices_IndexFunc_api_Decision_api_Decision (R : Caller) (x0 x1 : Value) (s : St) : Option (Value × St) :=
(alenV (.slice 77) x0 s).bind fun v0 =>
(loopL (slices_IndexFunc_api_Decision_api_Decision.b0 R) [x0, x1, v0, (.int .i64 0)] s).bind fun r6 =>
exV r6.1 [(0, retV [(.int .i64 (-1))] r6.2.2)]
 (retV [(getL r6.2.1 0)] r6.2.2)

theorem slices_IndexFunc_api_Decision_api_Decision_of {lib : Lib} (hl : lib 113 = none) {x0 x1 : Value} {s : St} {r : Value × St} (h : slices_IndexFunc_api_Decision_api_Decision (run Tryz.prog lib hints) x0 x1 s = some r) : run Tryz.prog lib hints 113 [x0, x1] s = some r :=
  run_of hl Tryz.func113 (Eq.trans (by kernel_rfl) h)

theorem slices_IndexFunc_api_Decision_api_Decision_ok : funcOk Tryz.prog 113 = true := by kernel_rfl
theorem slices_IndexFunc_api_Decision_api_Decision_call {R : Caller} {xs : List Value} {s : St} : callV Tryz.prog R (.func (.func 113) #[] #[]) xs s = R 113 xs s := callV_eq slices_IndexFunc_api_Decision_api_Decision_ok

noncomputable def slices_IndexFunc_int_int.b0 (R : Caller) (T : List Value) (s : St) : Res :=
(abin Tryz.prog .lss 3 (.tmp 8) (.tmp 7) (getL T 3) (getL T 2)).bind fun v1 =>
condV v1
 ((aindexS 1 (getL T 0) (getL T 3)).bind fun v2 =>
(aload false 1 v2 s).bind fun v3 =>
(callV Tryz.prog R (getL T 1) [v3] s).bind fun r4 =>
condV r4.1
 (some (.ret, [(getL T 3)], r4.2))
 ((abin Tryz.prog .add 3 (.tmp 8) (.const (.int .i64 1)) (getL T 3) (.int .i64 1)).bind fun v5 =>
some (.normal, [(getL T 0), (getL T 1), (getL T 2), v5], r4.2)))
 (some (.exit 0, [], s))

noncomputable def slices_IndexFunc_int_int (R : Caller) (x0 x1 : Value) (s : St) : Option (Value × St) :=
(alenV (.slice 3) x0 s).bind fun v0 =>
(loopL (slices_IndexFunc_int_int.b0 R) [x0, x1, v0, (.int .i64 0)] s).bind fun r6 =>
exV r6.1 [(0, retV [(.int .i64 (-1))] r6.2.2)]
 (retV [(getL r6.2.1 0)] r6.2.2)

theorem slices_IndexFunc_int_int_of {lib : Lib} (hl : lib 114 = none) {x0 x1 : Value} {s : St} {r : Value × St} (h : slices_IndexFunc_int_int (run Tryz.prog lib hints) x0 x1 s = some r) : run Tryz.prog lib hints 114 [x0, x1] s = some r :=
  run_of hl Tryz.func114 (Eq.trans (by kernel_rfl) h)

theorem slices_IndexFunc_int_int_ok : funcOk Tryz.prog 114 = true := by kernel_rfl
theorem slices_IndexFunc_int_int_call {R : Caller} {xs : List Value} {s : St} : callV Tryz.prog R (.func (.func 114) #[] #[]) xs s = R 114 xs s := callV_eq slices_IndexFunc_int_int_ok

noncomputable def slices_IndexFunc_api_Last_api_Last.b0 (R : Caller) (T : List Value) (s : St) : Res :=
(abin Tryz.prog .lss 3 (.tmp 8) (.tmp 7) (getL T 3) (getL T 2)).bind fun v1 =>
condV v1
 ((aindexS 4 (getL T 0) (getL T 3)).bind fun v2 =>
(aload true 4 v2 s).bind fun v3 =>
(callV Tryz.prog R (getL T 1) [v3] s).bind fun r4 =>
condV r4.1
 (some (.ret, [(getL T 3)], r4.2))
 ((abin Tryz.prog .add 3 (.tmp 8) (.const (.int .i64 1)) (getL T 3) (.int .i64 1)).bind fun v5 =>
some (.normal, [(getL T 0), (getL T 1), (getL T 2), v5], r4.2)))
 (some (.exit 0, [], s))

noncomputable def slices_IndexFunc_api_Last_api_Last (R : Caller) (x0 x1 : Value) (s : St) : Option (Value × St) :=
(alenV (.slice 82) x0 s).bind fun v0 =>
(loopL (slices_IndexFunc_api_Last_api_Last.b0 R) [x0, x1, v0, (.int .i64 0)] s).bind fun r6 =>
exV r6.1 [(0, retV [(.int .i64 (-1))] r6.2.2)]
 (retV [(getL r6.2.1 0)] r6.2.2)

theorem slices_IndexFunc_api_Last_api_Last_of {lib : Lib} (hl : lib 115 = none) {x0 x1 : Value} {s : St} {r : Value × St} (h : slices_IndexFunc_api_Last_api_Last (run Tryz.prog lib hints) x0 x1 s = some r) : run Tryz.prog lib hints 115 [x0, x1] s = some r :=
  run_of hl Tryz.func115 (Eq.trans (by kernel_rfl) h)

theorem slices_IndexFunc_api_Last_api_Last_ok : funcOk Tryz.prog 115 = true := by kernel_rfl
theorem slices_IndexFunc_api_Last_api_Last_call {R : Caller} {xs : List Value} {s : St} : callV Tryz.prog R (.func (.func 115) #[] #[]) xs s = R 115 xs s := callV_eq slices_IndexFunc_api_Last_api_Last_ok

noncomputable def record_results_1 (R : Caller) (x0 : Value) (s : St) : Option (Value × St) :=
(lbox x0).bind fun v0 =>
(lload false 1 lptr v0).bind fun v1 =>
(callV Tryz.prog R (.func (.func 103) #[] #[]) [v1] s).bind fun r2 =>
(abin Tryz.prog .neq 38 (.tmp 5) (.const (.int .i64 0)) r2.1 (.int .i64 0)).bind fun v3 =>
(guardV v3 false ((lload false 1 (.pointer (some ⟨0, 1, none⟩)) v0).bind fun v4 =>
(alenV .string v4 r2.2).bind fun v5 =>
(abin Tryz.prog .gtr 3 (.tmp 10) (.const (.int .i64 16)) v5 (.int .i64 16)).bind fun v6 =>
some ([v6], r2.2)) (some ([undef], r2.2))).bind fun q7 =>
(apick v3 (.bool true) (getL q7.1 0)).bind fun v8 =>
retV [v8] q7.2

theorem record_results_1_of {lib : Lib} (hl : lib 116 = none) {x0 : Value} {s : St} {r : Value × St} (h : record_results_1 (run Tryz.prog lib hints) x0 s = some r) : run Tryz.prog lib hints 116 [x0] s = some r :=
  run_of hl Tryz.func116 (Eq.trans (by kernel_rfl) h)

theorem record_results_1_ok : funcOk Tryz.prog 116 = true := by kernel_rfl
theorem record_results_1_call {R : Caller} {xs : List Value} {s : St} : callV Tryz.prog R (.func (.func 116) #[] #[]) xs s = R 116 xs s := callV_eq record_results_1_ok

noncomputable def slices_ContainsFunc_api_Result_api_Result (R : Caller) (x0 x1 : Value) (s : St) : Option (Value × St) :=
(callV Tryz.prog R (.func (.func 138) #[] #[]) [x0, x1] s).bind fun r0 =>
(abin Tryz.prog .geq 3 (.tmp 7) (.const (.int .i64 0)) r0.1 (.int .i64 0)).bind fun v1 =>
retV [v1] r0.2

theorem slices_ContainsFunc_api_Result_api_Result_of {lib : Lib} (hl : lib 117 = none) {x0 x1 : Value} {s : St} {r : Value × St} (h : slices_ContainsFunc_api_Result_api_Result (run Tryz.prog lib hints) x0 x1 s = some r) : run Tryz.prog lib hints 117 [x0, x1] s = some r :=
  run_of hl Tryz.func117 (Eq.trans (by kernel_rfl) h)

theorem slices_ContainsFunc_api_Result_api_Result_ok : funcOk Tryz.prog 117 = true := by kernel_rfl
theorem slices_ContainsFunc_api_Result_api_Result_call {R : Caller} {xs : List Value} {s : St} : callV Tryz.prog R (.func (.func 117) #[] #[]) xs s = R 117 xs s := callV_eq slices_ContainsFunc_api_Result_api_Result_ok

noncomputable def record_results_2 (R : Caller) (x0 x1 : Value) (s : St) : Option (Value × St) :=
(lbox x0).bind fun v0 =>
(lload false 1 (.pointer (some ⟨0, 1, none⟩)) v0).bind fun v1 =>
(alenV .string v1 s).bind fun v2 =>
(abin Tryz.prog .gtr 3 (.tmp 6) (.const (.int .i64 16)) v2 (.int .i64 16)).bind fun v3 =>
(guardV v3 false ((lload false 1 (.pointer (some ⟨0, 2, none⟩)) v0).bind fun v4 =>
(alenV (.slice 150) v4 s).bind fun v5 =>
(abin Tryz.prog .gtr 3 (.tmp 11) (.const (.int .i64 4)) v5 (.int .i64 4)).bind fun v6 =>
some ([v6], s)) (some ([undef], s))).bind fun q7 =>
(apick v3 (.bool true) (getL q7.1 0)).bind fun v8 =>
(guardV v8 false ((lload false 1 (.pointer (some ⟨0, 2, none⟩)) v0).bind fun v9 =>
(aload false 1 x1 q7.2).bind fun v10 =>
(callV Tryz.prog R (.func (.func 119) #[] #[]) [v9, v10] q7.2).bind fun r11 =>
some ([r11.1], r11.2)) (some ([undef], q7.2))).bind fun q12 =>
(apick v8 (.bool true) (getL q12.1 0)).bind fun v13 =>
retV [v13] q12.2

theorem record_results_2_of {lib : Lib} (hl : lib 118 = none) {x0 x1 : Value} {s : St} {r : Value × St} (h : record_results_2 (run Tryz.prog lib hints) x0 x1 s = some r) : run Tryz.prog lib hints 118 [x0, x1] s = some r :=
  run_of hl Tryz.func118 (Eq.trans (by kernel_rfl) h)

theorem record_results_2_ok : funcOk Tryz.prog 118 = true := by kernel_rfl
noncomputable def slices_ContainsFunc_api_Pair_api_Pair (R : Caller) (x0 x1 : Value) (s : St) : Option (Value × St) :=
(callV Tryz.prog R (.func (.func 139) #[] #[]) [x0, x1] s).bind fun r0 =>
(abin Tryz.prog .geq 3 (.tmp 7) (.const (.int .i64 0)) r0.1 (.int .i64 0)).bind fun v1 =>
retV [v1] r0.2

theorem slices_ContainsFunc_api_Pair_api_Pair_of {lib : Lib} (hl : lib 119 = none) {x0 x1 : Value} {s : St} {r : Value × St} (h : slices_ContainsFunc_api_Pair_api_Pair (run Tryz.prog lib hints) x0 x1 s = some r) : run Tryz.prog lib hints 119 [x0, x1] s = some r :=
  run_of hl Tryz.func119 (Eq.trans (by kernel_rfl) h)

theorem slices_ContainsFunc_api_Pair_api_Pair_ok : funcOk Tryz.prog 119 = true := by kernel_rfl
theorem slices_ContainsFunc_api_Pair_api_Pair_call {R : Caller} {xs : List Value} {s : St} : callV Tryz.prog R (.func (.func 119) #[] #[]) xs s = R 119 xs s := callV_eq slices_ContainsFunc_api_Pair_api_Pair_ok

noncomputable def record_reader_mark (R : Caller) (x0 x1 : Value) (s : St) : Option (Value × St) :=
(anilCheck x0).bind fun v0 =>
(afieldAddr 0 v0).bind fun v1 =>
(aload false 1 v1 s).bind fun v2 =>
(alenV (.slice 5) v2 s).bind fun v3 =>
(abin Tryz.prog .eql 3 (.tmp 17) (.const (.int .i64 0)) v3 (.int .i64 0)).bind fun v4 =>
condV v4
 ((callV Tryz.prog R (.func (.func 121) #[] #[]) [x0, (.int .i64 10)] s).bind fun r5 =>
retV [] r5.2)
 ((anilCheck x0).bind fun v6 =>
(afieldAddr 0 v6).bind fun v7 =>
(aload false 1 v7 s).bind fun v8 =>
(aindexS 1 v8 (.int .i64 0)).bind fun v9 =>
(aload false 1 v9 s).bind fun v10 =>
(abin Tryz.prog .neq 5 (.tmp 27) (.tmp 28) v10 x1).bind fun v11 =>
condV v11
 ((callV Tryz.prog R (.func (.func 121) #[] #[]) [x0, (.int .i64 11)] s).bind fun r12 =>
retV [] r12.2)
 ((anilCheck x0).bind fun v13 =>
(afieldAddr 0 v13).bind fun v14 =>
(aload false 1 v14 s).bind fun v15 =>
(asliceV 1 v15 (some (.int .i64 1)) none none).bind fun v16 =>
(anilCheck x0).bind fun v17 =>
(afieldAddr 0 v17).bind fun v18 =>
(astore 1 v18 v16 s).bind fun s19 =>
retV [] s19))

theorem record_reader_mark_of {lib : Lib} (hl : lib 120 = none) {x0 x1 : Value} {s : St} {r : Value × St} (h : record_reader_mark (run Tryz.prog lib hints) x0 x1 s = some r) : run Tryz.prog lib hints 120 [x0, x1] s = some r :=
  run_of hl Tryz.func120 (Eq.trans (by kernel_rfl) h)

theorem record_reader_mark_ok : funcOk Tryz.prog 120 = true := by kernel_rfl
theorem record_reader_mark_call {R : Caller} {xs : List Value} {s : St} : callV Tryz.prog R (.func (.func 120) #[] #[]) xs s = R 120 xs s := callV_eq record_reader_mark_ok

noncomputable def record_reader_fail (R : Caller) (x0 x1 : Value) (s : St) : Option (Value × St) :=
(anilCheck x0).bind fun v0 =>
(afieldAddr 1 v0).bind fun v1 =>
(aload false 1 v1 s).bind fun v2 =>
(abin Tryz.prog .eql 38 (.tmp 7) (.const (.int .i64 0)) v2 (.int .i64 0)).bind fun v3 =>
condV v3
 ((anilCheck x0).bind fun v4 =>
(afieldAddr 1 v4).bind fun v5 =>
(astore 1 v5 x1 s).bind fun s6 =>
retV [] s6)
 (retV [] s)

theorem record_reader_fail_of {lib : Lib} (hl : lib 121 = none) {x0 x1 : Value} {s : St} {r : Value × St} (h : record_reader_fail (run Tryz.prog lib hints) x0 x1 s = some r) : run Tryz.prog lib hints 121 [x0, x1] s = some r :=
  run_of hl Tryz.func121 (Eq.trans (by kernel_rfl) h)

theorem record_reader_fail_ok : funcOk Tryz.prog 121 = true := by kernel_rfl
theorem record_reader_fail_call {R : Caller} {xs : List Value} {s : St} : callV Tryz.prog R (.func (.func 121) #[] #[]) xs s = R 121 xs s := callV_eq record_reader_fail_ok

noncomputable def record_reader_text.j0 (R : Caller) (T : List Value) (s : St) : Option (Value × St) :=
(abin Tryz.prog .neq 38 (.tmp 22) (.const (.int .i64 0)) (getL T 3) (.int .i64 0)).bind fun v13 =>
condV v13
 ((callV Tryz.prog R (.func (.func 121) #[] #[]) [(getL T 0), (getL T 3)] s).bind fun r14 =>
retV [(.string ⟨#[]⟩)] r14.2)
 ((anilCheck (getL T 0)).bind fun v15 =>
(afieldAddr 0 v15).bind fun v16 =>
(aload false 1 v16 s).bind fun v17 =>
(asliceV 1 v17 (some (getL T 2)) none none).bind fun v18 =>
(anilCheck (getL T 0)).bind fun v19 =>
(afieldAddr 0 v19).bind fun v20 =>
(astore 1 v20 v18 s).bind fun s21 =>
retV [(getL T 1)] s21)

noncomputable def record_reader_text (R : Caller) (x0 : Value) (s : St) : Option (Value × St) :=
(anilCheck x0).bind fun v0 =>
(afieldAddr 1 v0).bind fun v1 =>
(aload false 1 v1 s).bind fun v2 =>
(abin Tryz.prog .neq 38 (.tmp 9) (.const (.int .i64 0)) v2 (.int .i64 0)).bind fun v3 =>
condV v3
 (retV [(.string ⟨#[]⟩)] s)
 ((anilCheck x0).bind fun v4 =>
(afieldAddr 0 v4).bind fun v5 =>
(aload false 1 v5 s).bind fun v6 =>
(callV Tryz.prog R (.func (.func 140) #[] #[]) [v6, (.int .i64 255)] s).bind fun r7 =>
(aextract 0 r7.1).bind fun v8 =>
(aextract 1 r7.1).bind fun v9 =>
(aextract 2 r7.1).bind fun v10 =>
(abin Tryz.prog .eql 38 (.tmp 20) (.const (.int .i64 2)) v10 (.int .i64 2)).bind fun v12 =>
condV v12
 (joinK (record_reader_text.j0 R) [x0, v8, v9, (.int .i64 11)] r7.2)
 (joinK (record_reader_text.j0 R) [x0, v8, v9, v10] r7.2))

theorem record_reader_text_of {lib : Lib} (hl : lib 122 = none) {x0 : Value} {s : St} {r : Value × St} (h : record_reader_text (run Tryz.prog lib hints) x0 s = some r) : run Tryz.prog lib hints 122 [x0] s = some r :=
  run_of hl Tryz.func122 (Eq.trans (by kernel_rfl) h)

theorem record_reader_text_ok : funcOk Tryz.prog 122 = true := by kernel_rfl
theorem record_reader_text_call {R : Caller} {xs : List Value} {s : St} : callV Tryz.prog R (.func (.func 122) #[] #[]) xs s = R 122 xs s := callV_eq record_reader_text_ok

noncomputable def record_many_api_Op.b0 (R : Caller) (T : List Value) (s : St) : Res :=
(abin Tryz.prog .gtr 3 (.tmp 9) (.const (.int .i64 0)) (getL T 3) (.int .i64 0)).bind fun v1 =>
(guardV v1 true ((anilCheck (getL T 0)).bind fun v2 =>
(afieldAddr 1 v2).bind fun v3 =>
(aload false 1 v3 s).bind fun v4 =>
(abin Tryz.prog .eql 38 (.tmp 15) (.const (.int .i64 0)) v4 (.int .i64 0)).bind fun v5 =>
some ([v5], s)) (some ([undef], s))).bind fun q6 =>
(apick v1 (getL q6.1 0) (.bool false)).bind fun v7 =>
condV v7
 ((callV Tryz.prog R (getL T 1) [] q6.2).bind fun r8 =>
(abuildSl 6 [(.int .i64 0), (.string ⟨#[]⟩), (.string ⟨#[]⟩), (.string ⟨#[]⟩), (.string ⟨#[]⟩), (.int .i64 0)] 1 [(0, r8.1)] r8.2).bind fun r9 =>
(aappend 6 80 (getL T 2) r9.1 r9.2).bind fun r10 =>
(abin Tryz.prog .sub 3 (.tmp 18) (.const (.int .i64 1)) (getL T 3) (.int .i64 1)).bind fun v11 =>
some (.normal, [(getL T 0), (getL T 1), r10.1, v11], r10.2))
 (some (.exit 0, [(getL T 2)], q6.2))

noncomputable def record_many_api_Op (R : Caller) (x0 x1 : Value) (s : St) : Option (Value × St) :=
(callV Tryz.prog R (.func (.func 70) #[] #[]) [x0] s).bind fun r0 =>
(loopL (record_many_api_Op.b0 R) [x0, x1, (.slice none 0 0), r0.1] r0.2).bind fun r12 =>
exV r12.1 [(0, retV [(getL r12.2.1 0)] r12.2.2)]
 (none)

theorem record_many_api_Op_of {lib : Lib} (hl : lib 123 = none) {x0 x1 : Value} {s : St} {r : Value × St} (h : record_many_api_Op (run Tryz.prog lib hints) x0 x1 s = some r) : run Tryz.prog lib hints 123 [x0, x1] s = some r :=
  run_of hl Tryz.func123 (Eq.trans (by kernel_rfl) h)

theorem record_many_api_Op_ok : funcOk Tryz.prog 123 = true := by kernel_rfl
theorem record_many_api_Op_call {R : Caller} {xs : List Value} {s : St} : callV Tryz.prog R (.func (.func 123) #[] #[]) xs s = R 123 xs s := callV_eq record_many_api_Op_ok

noncomputable def record_reader_op.b0 (R : Caller) (T : List Value) (s : St) : Res :=
(abin Tryz.prog .lss 3 (.tmp 15) (.tmp 14) (getL T 5) (getL T 4)).bind fun v10 =>
condV v10
 ((aindexS 1 (getL T 3) (getL T 5)).bind fun v11 =>
(aload false 1 v11 s).bind fun v12 =>
(callV Tryz.prog R (.func (.func 122) #[] #[]) [(getL T 0)] s).bind fun r13 =>
(anilCheck v12).bind fun v14 =>
(astore 1 v14 r13.1 r13.2).bind fun s15 =>
(abin Tryz.prog .add 3 (.tmp 15) (.const (.int .i64 1)) (getL T 5) (.int .i64 1)).bind fun v16 =>
some (.normal, [(getL T 0), (getL T 1), (getL T 2), (getL T 3), (getL T 4), v16, (getL T 6)], s15))
 (some (.exit 0, [(getL T 0), (getL T 1), (getL T 2), (getL T 6)], s))

noncomputable def record_reader_op (R : Caller) (x0 : Value) (s : St) : Option (Value × St) :=
(callV Tryz.prog R (.func (.func 70) #[] #[]) [x0] s).bind fun r0 =>
(abuild Tryz.prog 72 [(0, r0.1)]).bind fun v1 =>
(anew [(.int .i64 0), (.string ⟨#[]⟩), (.string ⟨#[]⟩), (.string ⟨#[]⟩), (.string ⟨#[]⟩), (.int .i64 0)] r0.2).bind fun r2 =>
(astore 6 r2.1 v1 r2.2).bind fun s3 =>
(afieldAddr 1 r2.1).bind fun v4 =>
(afieldAddr 2 r2.1).bind fun v5 =>
(afieldAddr 3 r2.1).bind fun v6 =>
(afieldAddr 4 r2.1).bind fun v7 =>
(abuildSl 1 [(.pointer none)] 4 [(0, v4), (1, v5), (2, v6), (3, v7)] s3).bind fun r8 =>
(alenV (.slice 193) r8.1 r8.2).bind fun v9 =>
(loopL (record_reader_op.b0 R) [x0, lptr, r2.1, r8.1, v9, (.int .i64 0), (.agg #[(.int .i64 0), (.string ⟨#[]⟩), (.string ⟨#[]⟩), (.string ⟨#[]⟩), (.string ⟨#[]⟩), (.int .i64 0)])] r8.2).bind fun r17 =>
exV r17.1 [(0, (callV Tryz.prog R (.func (.func 70) #[] #[]) [(getL r17.2.1 0)] r17.2.2).bind fun r18 =>
(afieldAddr 5 (getL r17.2.1 2)).bind fun v19 =>
(astore 1 v19 r18.1 r18.2).bind fun s20 =>
(aload true 6 (getL r17.2.1 2) s20).bind fun v21 =>
(lstore 6 (getL r17.2.1 1) v21 (getL r17.2.1 3)).bind fun v22 =>
(lload true 6 (getL r17.2.1 1) v22).bind fun v23 =>
retV [v23] s20)]
 (none)

theorem record_reader_op_of {lib : Lib} (hl : lib 124 = none) {x0 : Value} {s : St} {r : Value × St} (h : record_reader_op (run Tryz.prog lib hints) x0 s = some r) : run Tryz.prog lib hints 124 [x0] s = some r :=
  run_of hl Tryz.func124 (Eq.trans (by kernel_rfl) h)

theorem record_reader_op_ok : funcOk Tryz.prog 124 = true := by kernel_rfl
noncomputable def octet_ReadNum.b0 (R : Caller) (T : List Value) (s : St) : Res :=
(abin Tryz.prog .lss 3 (.tmp 10) (.tmp 9) (getL T 3) (getL T 2)).bind fun v1 =>
condV v1
 ((aindexS 1 (getL T 1) (getL T 3)).bind fun v2 =>
(aload false 1 v2 s).bind fun v3 =>
(abin Tryz.prog .eql 3 (.tmp 15) (.const (.int .i64 9)) (getL T 3) (.int .i64 9)).bind fun v4 =>
(guardV v4 true ((abin Tryz.prog .gtr 5 (.tmp 18) (.const (.int .u8 1)) v3 (.int .u8 1)).bind fun v5 =>
some ([v5], s)) (some ([undef], s))).bind fun q6 =>
(apick v4 (getL q6.1 0) (.bool false)).bind fun v7 =>
condV v7
 (some (.ret, [(.int .u64 0), (.int .i64 0), (.int .i64 11)], q6.2))
 ((abin Tryz.prog .and 5 (.tmp 22) (.const (.int .u8 127)) v3 (.int .u8 127)).bind fun v8 =>
(convInt .u64 v8).bind fun v9 =>
(abin Tryz.prog .mul 3 (.const (.int .i64 7)) (.tmp 25) (.int .i64 7) (getL T 3)).bind fun v10 =>
(abin Tryz.prog .shl 22 (.tmp 24) (.tmp 26) v9 v10).bind fun v11 =>
(abin Tryz.prog .or 22 (.tmp 21) (.tmp 27) (getL T 0) v11).bind fun v12 =>
(abin Tryz.prog .lss 5 (.tmp 29) (.const (.int .u8 128)) v3 (.int .u8 128)).bind fun v13 =>
condV v13
 ((abin Tryz.prog .eql 5 (.tmp 31) (.const (.int .u8 0)) v3 (.int .u8 0)).bind fun v14 =>
(guardV v14 true ((abin Tryz.prog .gtr 3 (.tmp 34) (.const (.int .i64 0)) (getL T 3) (.int .i64 0)).bind fun v15 =>
some ([v15], q6.2)) (some ([undef], q6.2))).bind fun q16 =>
(apick v14 (getL q16.1 0) (.bool false)).bind fun v17 =>
condV v17
 (some (.ret, [(.int .u64 0), (.int .i64 0), (.int .i64 11)], q16.2))
 ((abin Tryz.prog .add 3 (.tmp 38) (.const (.int .i64 1)) (getL T 3) (.int .i64 1)).bind fun v18 =>
some (.ret, [v12, v18, (.int .i64 0)], q16.2)))
 ((abin Tryz.prog .add 3 (.tmp 10) (.const (.int .i64 1)) (getL T 3) (.int .i64 1)).bind fun v19 =>
some (.normal, [v12, (getL T 1), (getL T 2), v19], q6.2))))
 (some (.exit 0, [], s))

noncomputable def octet_ReadNum (R : Caller) (x0 : Value) (s : St) : Option (Value × St) :=
(alenV (.slice 5) x0 s).bind fun v0 =>
(loopL (octet_ReadNum.b0 R) [(.int .u64 0), x0, v0, (.int .i64 0)] s).bind fun r20 =>
exV r20.1 [(0, retV [(.int .u64 0), (.int .i64 0), (.int .i64 10)] r20.2.2)]
 (retV [(getL r20.2.1 0), (getL r20.2.1 1), (getL r20.2.1 2)] r20.2.2)

theorem octet_ReadNum_of {lib : Lib} (hl : lib 125 = none) {x0 : Value} {s : St} {r : Value × St} (h : octet_ReadNum (run Tryz.prog lib hints) x0 s = some r) : run Tryz.prog lib hints 125 [x0] s = some r :=
  run_of hl Tryz.func125 (Eq.trans (by kernel_rfl) h)

theorem octet_ReadNum_ok : funcOk Tryz.prog 125 = true := by kernel_rfl
theorem octet_ReadNum_call {R : Caller} {xs : List Value} {s : St} : callV Tryz.prog R (.func (.func 125) #[] #[]) xs s = R 125 xs s := callV_eq octet_ReadNum_ok

noncomputable def record_many_int.b0 (R : Caller) (T : List Value) (s : St) : Res :=
(abin Tryz.prog .gtr 3 (.tmp 9) (.const (.int .i64 0)) (getL T 3) (.int .i64 0)).bind fun v1 =>
(guardV v1 true ((anilCheck (getL T 0)).bind fun v2 =>
(afieldAddr 1 v2).bind fun v3 =>
(aload false 1 v3 s).bind fun v4 =>
(abin Tryz.prog .eql 38 (.tmp 15) (.const (.int .i64 0)) v4 (.int .i64 0)).bind fun v5 =>
some ([v5], s)) (some ([undef], s))).bind fun q6 =>
(apick v1 (getL q6.1 0) (.bool false)).bind fun v7 =>
condV v7
 ((callV Tryz.prog R (getL T 1) [] q6.2).bind fun r8 =>
(abuildSl 1 [(.int .i64 0)] 1 [(0, r8.1)] r8.2).bind fun r9 =>
(aappend 1 8 (getL T 2) r9.1 r9.2).bind fun r10 =>
(abin Tryz.prog .sub 3 (.tmp 18) (.const (.int .i64 1)) (getL T 3) (.int .i64 1)).bind fun v11 =>
some (.normal, [(getL T 0), (getL T 1), r10.1, v11], r10.2))
 (some (.exit 0, [(getL T 2)], q6.2))

noncomputable def record_many_int (R : Caller) (x0 x1 : Value) (s : St) : Option (Value × St) :=
(callV Tryz.prog R (.func (.func 70) #[] #[]) [x0] s).bind fun r0 =>
(loopL (record_many_int.b0 R) [x0, x1, (.slice none 0 0), r0.1] r0.2).bind fun r12 =>
exV r12.1 [(0, retV [(getL r12.2.1 0)] r12.2.2)]
 (none)

theorem record_many_int_of {lib : Lib} (hl : lib 126 = none) {x0 x1 : Value} {s : St} {r : Value × St} (h : record_many_int (run Tryz.prog lib hints) x0 x1 s = some r) : run Tryz.prog lib hints 126 [x0, x1] s = some r :=
  run_of hl Tryz.func126 (Eq.trans (by kernel_rfl) h)

theorem record_many_int_ok : funcOk Tryz.prog 126 = true := by kernel_rfl
theorem record_many_int_call {R : Caller} {xs : List Value} {s : St} : callV Tryz.prog R (.func (.func 126) #[] #[]) xs s = R 126 xs s := callV_eq record_many_int_ok

noncomputable def record_many_api_Result.b0 (R : Caller) (T : List Value) (s : St) : Res :=
(abin Tryz.prog .gtr 3 (.tmp 9) (.const (.int .i64 0)) (getL T 3) (.int .i64 0)).bind fun v1 =>
(guardV v1 true ((anilCheck (getL T 0)).bind fun v2 =>
(afieldAddr 1 v2).bind fun v3 =>
(aload false 1 v3 s).bind fun v4 =>
(abin Tryz.prog .eql 38 (.tmp 15) (.const (.int .i64 0)) v4 (.int .i64 0)).bind fun v5 =>
some ([v5], s)) (some ([undef], s))).bind fun q6 =>
(apick v1 (getL q6.1 0) (.bool false)).bind fun v7 =>
condV v7
 ((callV Tryz.prog R (getL T 1) [] q6.2).bind fun r8 =>
(abuildSl 3 [(.bool false), (.string ⟨#[]⟩), (.slice none 0 0)] 1 [(0, r8.1)] r8.2).bind fun r9 =>
(aappend 3 48 (getL T 2) r9.1 r9.2).bind fun r10 =>
(abin Tryz.prog .sub 3 (.tmp 18) (.const (.int .i64 1)) (getL T 3) (.int .i64 1)).bind fun v11 =>
some (.normal, [(getL T 0), (getL T 1), r10.1, v11], r10.2))
 (some (.exit 0, [(getL T 2)], q6.2))

noncomputable def record_many_api_Result (R : Caller) (x0 x1 : Value) (s : St) : Option (Value × St) :=
(callV Tryz.prog R (.func (.func 70) #[] #[]) [x0] s).bind fun r0 =>
(loopL (record_many_api_Result.b0 R) [x0, x1, (.slice none 0 0), r0.1] r0.2).bind fun r12 =>
exV r12.1 [(0, retV [(getL r12.2.1 0)] r12.2.2)]
 (none)

theorem record_many_api_Result_of {lib : Lib} (hl : lib 127 = none) {x0 x1 : Value} {s : St} {r : Value × St} (h : record_many_api_Result (run Tryz.prog lib hints) x0 x1 s = some r) : run Tryz.prog lib hints 127 [x0, x1] s = some r :=
  run_of hl Tryz.func127 (Eq.trans (by kernel_rfl) h)

theorem record_many_api_Result_ok : funcOk Tryz.prog 127 = true := by kernel_rfl
theorem record_many_api_Result_call {R : Caller} {xs : List Value} {s : St} : callV Tryz.prog R (.func (.func 127) #[] #[]) xs s = R 127 xs s := callV_eq record_many_api_Result_ok

noncomputable def record_reader_result (R : Caller) (x0 : Value) (s : St) : Option (Value × St) :=
(callV Tryz.prog R (.func (.func 141) #[] #[]) [x0] s).bind fun r0 =>
(callV Tryz.prog R (.func (.func 122) #[] #[]) [x0] r0.2).bind fun r1 =>
(lstore 1 lptr r0.1 (.agg #[(.bool false), (.string ⟨#[]⟩), (.slice none 0 0)])).bind fun v2 =>
(lstore 1 (.pointer (some ⟨0, 1, none⟩)) r1.1 v2).bind fun v3 =>
(amkFunc 143 [x0] []).bind fun v4 =>
(callV Tryz.prog R (.func (.func 142) #[] #[]) [x0, v4] r1.2).bind fun r5 =>
(lstore 1 (.pointer (some ⟨0, 2, none⟩)) r5.1 v3).bind fun v6 =>
(lload true 3 lptr v6).bind fun v7 =>
(lstore 3 lptr v7 (.agg #[(.bool false), (.string ⟨#[]⟩), (.slice none 0 0)])).bind fun v8 =>
(lload true 3 lptr v8).bind fun v9 =>
retV [v9] r5.2

theorem record_reader_result_of {lib : Lib} (hl : lib 128 = none) {x0 : Value} {s : St} {r : Value × St} (h : record_reader_result (run Tryz.prog lib hints) x0 s = some r) : run Tryz.prog lib hints 128 [x0] s = some r :=
  run_of hl Tryz.func128 (Eq.trans (by kernel_rfl) h)

theorem record_reader_result_ok : funcOk Tryz.prog 128 = true := by kernel_rfl
noncomputable def ref04_SameMap.b0 (R : Caller) (T : List Value) (s : St) : Res :=
(abin Tryz.prog .lss 3 (.tmp 13) (.tmp 12) (getL T 3) (getL T 2)).bind fun v4 =>
condV v4
 ((aindexS 2 (getL T 0) (getL T 3)).bind fun v5 =>
((aload true 2 v5 (frzS s)).bind fun v12 =>
some (v12, (frzS s))).bind fun r6 =>
(aindexS 2 (getL T 1) (getL T 3)).bind fun v7 =>
((aload true 2 v7 (frzS s)).bind fun v11 =>
some (v11, (frzS s))).bind fun r8 =>
(abin Tryz.prog .neq 150 (.tmp 19) (.tmp 23) r6.1 r8.1).bind fun v9 =>
condV v9
 (some (.ret, [(.bool false)], s))
 ((abin Tryz.prog .add 3 (.tmp 13) (.const (.int .i64 1)) (getL T 3) (.int .i64 1)).bind fun v10 =>
some (.normal, [(getL T 0), (getL T 1), (getL T 2), v10], s)))
 (some (.exit 0, [], s))

noncomputable def ref04_SameMap (R : Caller) (x0 x1 : Value) (s : St) : Option (Value × St) :=
(alenV (.slice 150) x0 s).bind fun v0 =>
(alenV (.slice 150) x1 s).bind fun v1 =>
(abin Tryz.prog .neq 3 (.tmp 7) (.tmp 9) v0 v1).bind fun v2 =>
condV v2
 (retV [(.bool false)] s)
 ((alenV (.slice 150) x0 s).bind fun v3 =>
(loopL (ref04_SameMap.b0 R) [x0, x1, v3, (.int .i64 0)] s).bind fun r13 =>
exV r13.1 [(0, retV [(.bool true)] r13.2.2)]
 (retV [(getL r13.2.1 0)] r13.2.2))

theorem ref04_SameMap_of {lib : Lib} (hl : lib 129 = none) {x0 x1 : Value} {s : St} {r : Value × St} (h : ref04_SameMap (run Tryz.prog lib hints) x0 x1 s = some r) : run Tryz.prog lib hints 129 [x0, x1] s = some r :=
  run_of hl Tryz.func129 (Eq.trans (by kernel_rfl) h)

theorem ref04_SameMap_ok : funcOk Tryz.prog 129 = true := by kernel_rfl
theorem ref04_SameMap_call {R : Caller} {xs : List Value} {s : St} : callV Tryz.prog R (.func (.func 129) #[] #[]) xs s = R 129 xs s := callV_eq ref04_SameMap_ok

noncomputable def octet_Text (R : Caller) (x0 : Value) (s : St) : Option (Value × St) :=
(alenV .string x0 s).bind fun v0 =>
(convInt .u64 v0).bind fun v1 =>
(callV Tryz.prog R (.func (.func 94) #[] #[]) [v1] s).bind fun r2 =>
(aappend 1 1 r2.1 x0 r2.2).bind fun r3 =>
retV [r3.1] r3.2

theorem octet_Text_of {lib : Lib} (hl : lib 130 = none) {x0 : Value} {s : St} {r : Value × St} (h : octet_Text (run Tryz.prog lib hints) x0 s = some r) : run Tryz.prog lib hints 130 [x0] s = some r :=
  run_of hl Tryz.func130 (Eq.trans (by kernel_rfl) h)

theorem octet_Text_ok : funcOk Tryz.prog 130 = true := by kernel_rfl
theorem octet_Text_call {R : Caller} {xs : List Value} {s : St} : callV Tryz.prog R (.func (.func 130) #[] #[]) xs s = R 130 xs s := callV_eq octet_Text_ok

noncomputable def record_rows_api_Op.b0 (R : Caller) (T : List Value) (s : St) : Res :=
(abin Tryz.prog .lss 3 (.tmp 10) (.tmp 9) (getL T 3) (getL T 2)).bind fun v1 =>
condV v1
 ((aindexS 6 (getL T 1) (getL T 3)).bind fun v2 =>
(aload true 6 v2 s).bind fun v3 =>
(lstore 6 lptr v3 (.agg #[(.int .i64 0), (.string ⟨#[]⟩), (.string ⟨#[]⟩), (.string ⟨#[]⟩), (.string ⟨#[]⟩), (.int .i64 0)])).bind fun v4 =>
(lload true 6 lptr v4).bind fun v5 =>
(callV Tryz.prog R (getL T 0) [v5] s).bind fun r6 =>
(abin Tryz.prog .add 3 (.tmp 10) (.const (.int .i64 1)) (getL T 3) (.int .i64 1)).bind fun v7 =>
some (.normal, [(getL T 0), (getL T 1), (getL T 2), v7], r6.2))
 (some (.exit 0, [], s))

noncomputable def record_rows_api_Op (R : Caller) (x0 x1 x2 : Value) (s : St) : Option (Value × St) :=
(alenV (.slice 72) x1 s).bind fun v0 =>
(loopL (record_rows_api_Op.b0 R) [x2, x1, v0, (.int .i64 0)] s).bind fun r8 =>
exV r8.1 [(0, retV [] r8.2.2)]
 (none)

theorem record_rows_api_Op_of {lib : Lib} (hl : lib 131 = none) {x0 x1 x2 : Value} {s : St} {r : Value × St} (h : record_rows_api_Op (run Tryz.prog lib hints) x0 x1 x2 s = some r) : run Tryz.prog lib hints 131 [x0, x1, x2] s = some r :=
  run_of hl Tryz.func131 (Eq.trans (by kernel_rfl) h)

theorem record_rows_api_Op_ok : funcOk Tryz.prog 131 = true := by kernel_rfl
theorem record_rows_api_Op_call {R : Caller} {xs : List Value} {s : St} : callV Tryz.prog R (.func (.func 131) #[] #[]) xs s = R 131 xs s := callV_eq record_rows_api_Op_ok

noncomputable def record_rows_int.b0 (R : Caller) (T : List Value) (s : St) : Res :=
(abin Tryz.prog .lss 3 (.tmp 10) (.tmp 9) (getL T 3) (getL T 2)).bind fun v1 =>
condV v1
 ((aindexS 1 (getL T 1) (getL T 3)).bind fun v2 =>
(aload false 1 v2 s).bind fun v3 =>
(callV Tryz.prog R (getL T 0) [v3] s).bind fun r4 =>
(abin Tryz.prog .add 3 (.tmp 10) (.const (.int .i64 1)) (getL T 3) (.int .i64 1)).bind fun v5 =>
some (.normal, [(getL T 0), (getL T 1), (getL T 2), v5], r4.2))
 (some (.exit 0, [], s))

noncomputable def record_rows_int (R : Caller) (x0 x1 x2 : Value) (s : St) : Option (Value × St) :=
(alenV (.slice 3) x1 s).bind fun v0 =>
(loopL (record_rows_int.b0 R) [x2, x1, v0, (.int .i64 0)] s).bind fun r6 =>
exV r6.1 [(0, retV [] r6.2.2)]
 (none)

theorem record_rows_int_of {lib : Lib} (hl : lib 132 = none) {x0 x1 x2 : Value} {s : St} {r : Value × St} (h : record_rows_int (run Tryz.prog lib hints) x0 x1 x2 s = some r) : run Tryz.prog lib hints 132 [x0, x1, x2] s = some r :=
  run_of hl Tryz.func132 (Eq.trans (by kernel_rfl) h)

theorem record_rows_int_ok : funcOk Tryz.prog 132 = true := by kernel_rfl
theorem record_rows_int_call {R : Caller} {xs : List Value} {s : St} : callV Tryz.prog R (.func (.func 132) #[] #[]) xs s = R 132 xs s := callV_eq record_rows_int_ok

noncomputable def record_rows_api_Result.b0 (R : Caller) (T : List Value) (s : St) : Res :=
(abin Tryz.prog .lss 3 (.tmp 10) (.tmp 9) (getL T 3) (getL T 2)).bind fun v1 =>
condV v1
 ((aindexS 3 (getL T 1) (getL T 3)).bind fun v2 =>
(aload true 3 v2 s).bind fun v3 =>
(lstore 3 lptr v3 (.agg #[(.bool false), (.string ⟨#[]⟩), (.slice none 0 0)])).bind fun v4 =>
(lload true 3 lptr v4).bind fun v5 =>
(callV Tryz.prog R (getL T 0) [v5] s).bind fun r6 =>
(abin Tryz.prog .add 3 (.tmp 10) (.const (.int .i64 1)) (getL T 3) (.int .i64 1)).bind fun v7 =>
some (.normal, [(getL T 0), (getL T 1), (getL T 2), v7], r6.2))
 (some (.exit 0, [], s))

noncomputable def record_rows_api_Result (R : Caller) (x0 x1 x2 : Value) (s : St) : Option (Value × St) :=
(alenV (.slice 146) x1 s).bind fun v0 =>
(loopL (record_rows_api_Result.b0 R) [x2, x1, v0, (.int .i64 0)] s).bind fun r8 =>
exV r8.1 [(0, retV [] r8.2.2)]
 (none)

theorem record_rows_api_Result_of {lib : Lib} (hl : lib 133 = none) {x0 x1 x2 : Value} {s : St} {r : Value × St} (h : record_rows_api_Result (run Tryz.prog lib hints) x0 x1 x2 s = some r) : run Tryz.prog lib hints 133 [x0, x1, x2] s = some r :=
  run_of hl Tryz.func133 (Eq.trans (by kernel_rfl) h)

theorem record_rows_api_Result_ok : funcOk Tryz.prog 133 = true := by kernel_rfl
theorem record_rows_api_Result_call {R : Caller} {xs : List Value} {s : St} : callV Tryz.prog R (.func (.func 133) #[] #[]) xs s = R 133 xs s := callV_eq record_rows_api_Result_ok

noncomputable def record_writer_flag (R : Caller) (x0 x1 : Value) (s : St) : Option (Value × St) :=
condV x1
 ((anilCheck x0).bind fun v0 =>
(afieldAddr 0 v0).bind fun v1 =>
(aload false 1 v1 s).bind fun v2 =>
(abuildSl 1 [(.int .u8 0)] 1 [(0, (.int .u8 1))] s).bind fun r3 =>
(aappend 1 1 v2 r3.1 r3.2).bind fun r4 =>
(anilCheck x0).bind fun v5 =>
(afieldAddr 0 v5).bind fun v6 =>
(astore 1 v6 r4.1 r4.2).bind fun s7 =>
retV [] s7)
 ((anilCheck x0).bind fun v8 =>
(afieldAddr 0 v8).bind fun v9 =>
(aload false 1 v9 s).bind fun v10 =>
(abuildSl 1 [(.int .u8 0)] 1 [(0, (.int .u8 0))] s).bind fun r11 =>
(aappend 1 1 v10 r11.1 r11.2).bind fun r12 =>
(anilCheck x0).bind fun v13 =>
(afieldAddr 0 v13).bind fun v14 =>
(astore 1 v14 r12.1 r12.2).bind fun s15 =>
retV [] s15)

theorem record_writer_flag_of {lib : Lib} (hl : lib 134 = none) {x0 x1 : Value} {s : St} {r : Value × St} (h : record_writer_flag (run Tryz.prog lib hints) x0 x1 s = some r) : run Tryz.prog lib hints 134 [x0, x1] s = some r :=
  run_of hl Tryz.func134 (Eq.trans (by kernel_rfl) h)

theorem record_writer_flag_ok : funcOk Tryz.prog 134 = true := by kernel_rfl
theorem record_writer_flag_call {R : Caller} {xs : List Value} {s : St} : callV Tryz.prog R (.func (.func 134) #[] #[]) xs s = R 134 xs s := callV_eq record_writer_flag_ok

noncomputable def record_list_api_Pair (R : Caller) (x0 x1 x2 : Value) (s : St) : Option (Value × St) :=
(alenV (.slice 150) x1 s).bind fun v0 =>
(callV Tryz.prog R (.func (.func 88) #[] #[]) [x0, v0] s).bind fun r1 =>
(callV Tryz.prog R (.func (.func 144) #[] #[]) [x0, x1, x2] r1.2).bind fun r2 =>
retV [] r2.2

theorem record_list_api_Pair_of {lib : Lib} (hl : lib 135 = none) {x0 x1 x2 : Value} {s : St} {r : Value × St} (h : record_list_api_Pair (run Tryz.prog lib hints) x0 x1 x2 s = some r) : run Tryz.prog lib hints 135 [x0, x1, x2] s = some r :=
  run_of hl Tryz.func135 (Eq.trans (by kernel_rfl) h)

theorem record_list_api_Pair_ok : funcOk Tryz.prog 135 = true := by kernel_rfl
theorem record_list_api_Pair_call {R : Caller} {xs : List Value} {s : St} : callV Tryz.prog R (.func (.func 135) #[] #[]) xs s = R 135 xs s := callV_eq record_list_api_Pair_ok

noncomputable def record_writer_pair (R : Caller) (x0 x1 : Value) (s : St) : Option (Value × St) :=
(lbox x1).bind fun v0 =>
(lload false 1 lptr v0).bind fun v1 =>
(callV Tryz.prog R (.func (.func 90) #[] #[]) [x0, v1] s).bind fun r2 =>
(lload false 1 (.pointer (some ⟨0, 1, none⟩)) v0).bind fun v3 =>
(callV Tryz.prog R (.func (.func 90) #[] #[]) [x0, v3] r2.2).bind fun r4 =>
retV [] r4.2

theorem record_writer_pair_of {lib : Lib} (hl : lib 136 = none) {x0 x1 : Value} {s : St} {r : Value × St} (h : record_writer_pair (run Tryz.prog lib hints) x0 x1 s = some r) : run Tryz.prog lib hints 136 [x0, x1] s = some r :=
  run_of hl Tryz.func136 (Eq.trans (by kernel_rfl) h)

theorem record_writer_pair_ok : funcOk Tryz.prog 136 = true := by kernel_rfl
noncomputable def op_forms (R : Caller) (s : St) : Option (Value × St) :=
(abuild Tryz.prog 156 [(0, (.bool true)), (5, (.func (.func 145) #[] #[]))]).bind fun v0 =>
(abuild Tryz.prog 156 [(0, (.bool true)), (1, (.bool true)), (4, (.bool true)), (5, (.func (.func 146) #[] #[]))]).bind fun v1 =>
(abuild Tryz.prog 156 [(0, (.bool true)), (4, (.bool true)), (5, (.func (.func 147) #[] #[]))]).bind fun v2 =>
(abuild Tryz.prog 156 [(2, (.bool true)), (3, (.bool true)), (5, (.func (.func 148) #[] #[]))]).bind fun v3 =>
(abuild Tryz.prog 156 [(2, (.bool true)), (4, (.bool true)), (5, (.func (.func 149) #[] #[]))]).bind fun v4 =>
(abuild Tryz.prog 187 [(1, v0), (2, v1), (3, v2), (4, v3), (5, v4)]).bind fun v5 =>
(lstore 36 lptr v5 (.agg #[(.bool false), (.bool false), (.bool false), (.bool false), (.bool false), .nilFunc, (.bool false), (.bool false), (.bool false), (.bool false), (.bool false), .nilFunc, (.bool false), (.bool false), (.bool false), (.bool false), (.bool false), .nilFunc, (.bool false), (.bool false), (.bool false), (.bool false), (.bool false), .nilFunc, (.bool false), (.bool false), (.bool false), (.bool false), (.bool false), .nilFunc, (.bool false), (.bool false), (.bool false), (.bool false), (.bool false), .nilFunc])).bind fun v6 =>
(lload true 36 lptr v6).bind fun v7 =>
retV [v7] s

theorem op_forms_of {lib : Lib} (hl : lib 137 = none) {s : St} {r : Value × St} (h : op_forms (run Tryz.prog lib hints)  s = some r) : run Tryz.prog lib hints 137 [] s = some r :=
  run_of hl Tryz.func137 (Eq.trans (by kernel_rfl) h)

theorem op_forms_ok : funcOk Tryz.prog 137 = true := by kernel_rfl
theorem op_forms_call {R : Caller} {xs : List Value} {s : St} : callV Tryz.prog R (.func (.func 137) #[] #[]) xs s = R 137 xs s := callV_eq op_forms_ok

noncomputable def slices_IndexFunc_api_Result_api_Result.b0 (R : Caller) (T : List Value) (s : St) : Res :=
(abin Tryz.prog .lss 3 (.tmp 8) (.tmp 7) (getL T 3) (getL T 2)).bind fun v1 =>
condV v1
 ((aindexS 3 (getL T 0) (getL T 3)).bind fun v2 =>
(aload true 3 v2 s).bind fun v3 =>
(callV Tryz.prog R (getL T 1) [v3] s).bind fun r4 =>
condV r4.1
 (some (.ret, [(getL T 3)], r4.2))
 ((abin Tryz.prog .add 3 (.tmp 8) (.const (.int .i64 1)) (getL T 3) (.int .i64 1)).bind fun v5 =>
some (.normal, [(getL T 0), (getL T 1), (getL T 2), v5], r4.2)))
 (some (.exit 0, [], s))

noncomputable def slices_IndexFunc_api_Result_api_Result (R : Caller) (x0 x1 : Value) (s : St) : Option (Value × St) :=
(alenV (.slice 146) x0 s).bind fun v0 =>
(loopL (slices_IndexFunc_api_Result_api_Result.b0 R) [x0, x1, v0, (.int .i64 0)] s).bind fun r6 =>
exV r6.1 [(0, retV [(.int .i64 (-1))] r6.2.2)]
 (retV [(getL r6.2.1 0)] r6.2.2)

theorem slices_IndexFunc_api_Result_api_Result_of {lib : Lib} (hl : lib 138 = none) {x0 x1 : Value} {s : St} {r : Value × St} (h : slices_IndexFunc_api_Result_api_Result (run Tryz.prog lib hints) x0 x1 s = some r) : run Tryz.prog lib hints 138 [x0, x1] s = some r :=
  run_of hl Tryz.func138 (Eq.trans (by kernel_rfl) h)

theorem slices_IndexFunc_api_Result_api_Result_ok : funcOk Tryz.prog 138 = true := by kernel_rfl
theorem slices_IndexFunc_api_Result_api_Result_call {R : Caller} {xs : List Value} {s : St} : callV Tryz.prog R (.func (.func 138) #[] #[]) xs s = R 138 xs s := callV_eq slices_IndexFunc_api_Result_api_Result_ok

noncomputable def slices_IndexFunc_api_Pair_api_Pair.b0 (R : Caller) (T : List Value) (s : St) : Res :=
(abin Tryz.prog .lss 3 (.tmp 8) (.tmp 7) (getL T 3) (getL T 2)).bind fun v1 =>
condV v1
 ((aindexS 2 (getL T 0) (getL T 3)).bind fun v2 =>
(aload true 2 v2 s).bind fun v3 =>
(callV Tryz.prog R (getL T 1) [v3] s).bind fun r4 =>
condV r4.1
 (some (.ret, [(getL T 3)], r4.2))
 ((abin Tryz.prog .add 3 (.tmp 8) (.const (.int .i64 1)) (getL T 3) (.int .i64 1)).bind fun v5 =>
some (.normal, [(getL T 0), (getL T 1), (getL T 2), v5], r4.2)))
 (some (.exit 0, [], s))

noncomputable def slices_IndexFunc_api_Pair_api_Pair (R : Caller) (x0 x1 : Value) (s : St) : Option (Value × St) :=
(alenV (.slice 150) x0 s).bind fun v0 =>
(loopL (slices_IndexFunc_api_Pair_api_Pair.b0 R) [x0, x1, v0, (.int .i64 0)] s).bind fun r6 =>
exV r6.1 [(0, retV [(.int .i64 (-1))] r6.2.2)]
 (retV [(getL r6.2.1 0)] r6.2.2)

theorem slices_IndexFunc_api_Pair_api_Pair_of {lib : Lib} (hl : lib 139 = none) {x0 x1 : Value} {s : St} {r : Value × St} (h : slices_IndexFunc_api_Pair_api_Pair (run Tryz.prog lib hints) x0 x1 s = some r) : run Tryz.prog lib hints 139 [x0, x1] s = some r :=
  run_of hl Tryz.func139 (Eq.trans (by kernel_rfl) h)

theorem slices_IndexFunc_api_Pair_api_Pair_ok : funcOk Tryz.prog 139 = true := by kernel_rfl
theorem slices_IndexFunc_api_Pair_api_Pair_call {R : Caller} {xs : List Value} {s : St} : callV Tryz.prog R (.func (.func 139) #[] #[]) xs s = R 139 xs s := callV_eq slices_IndexFunc_api_Pair_api_Pair_ok

noncomputable def octet_ReadText (R : Caller) (x0 x1 : Value) (s : St) : Option (Value × St) :=
(callV Tryz.prog R (.func (.func 125) #[] #[]) [x0] s).bind fun r0 =>
(aextract 0 r0.1).bind fun v1 =>
(aextract 1 r0.1).bind fun v2 =>
(aextract 2 r0.1).bind fun v3 =>
(abin Tryz.prog .neq 38 (.tmp 17) (.const (.int .i64 0)) v3 (.int .i64 0)).bind fun v4 =>
condV v4
 (retV [(.string ⟨#[]⟩), (.int .i64 0), v3] r0.2)
 ((abin Tryz.prog .lss 3 (.tmp 21) (.const (.int .i64 0)) x1 (.int .i64 0)).bind fun v5 =>
(guardV v5 false ((convInt .u64 x1).bind fun v6 =>
(abin Tryz.prog .gtr 22 (.tmp 24) (.tmp 26) v1 v6).bind fun v7 =>
some ([v7], r0.2)) (some ([undef], r0.2))).bind fun q8 =>
(apick v5 (.bool true) (getL q8.1 0)).bind fun v9 =>
condV v9
 (retV [(.string ⟨#[]⟩), (.int .i64 0), (.int .i64 2)] q8.2)
 ((alenV (.slice 5) x0 q8.2).bind fun v10 =>
(abin Tryz.prog .sub 3 (.tmp 32) (.tmp 33) v10 v2).bind fun v11 =>
(convInt .u64 v11).bind fun v12 =>
(abin Tryz.prog .gtr 22 (.tmp 30) (.tmp 35) v1 v12).bind fun v13 =>
condV v13
 (retV [(.string ⟨#[]⟩), (.int .i64 0), (.int .i64 10)] q8.2)
 ((convInt .i64 v1).bind fun v14 =>
(abin Tryz.prog .add 3 (.tmp 39) (.tmp 41) v2 v14).bind fun v15 =>
(asliceV 1 x0 (some v2) (some v15) none).bind fun v16 =>
(abytesToStr v16 q8.2).bind fun v17 =>
(convInt .i64 v1).bind fun v18 =>
(abin Tryz.prog .add 3 (.tmp 45) (.tmp 47) v2 v18).bind fun v19 =>
retV [v17, v19, (.int .i64 0)] q8.2)))

theorem octet_ReadText_of {lib : Lib} (hl : lib 140 = none) {x0 x1 : Value} {s : St} {r : Value × St} (h : octet_ReadText (run Tryz.prog lib hints) x0 x1 s = some r) : run Tryz.prog lib hints 140 [x0, x1] s = some r :=
  run_of hl Tryz.func140 (Eq.trans (by kernel_rfl) h)

theorem octet_ReadText_ok : funcOk Tryz.prog 140 = true := by kernel_rfl
theorem octet_ReadText_call {R : Caller} {xs : List Value} {s : St} : callV Tryz.prog R (.func (.func 140) #[] #[]) xs s = R 140 xs s := callV_eq octet_ReadText_ok

noncomputable def record_reader_flag.j0 (R : Caller) (T : List Value) (s : St) : Option (Value × St) :=
(abin Tryz.prog .eql 5 (.tmp 42) (.const (.int .u8 1)) (getL T 0) (.int .u8 1)).bind fun v32 =>
retV [v32] s

noncomputable def record_reader_flag.j1 (R : Caller) (T : List Value) (s : St) : Option (Value × St) :=
(anilCheck (getL T 0)).bind fun v13 =>
(afieldAddr 1 v13).bind fun v14 =>
(aload false 1 v14 s).bind fun v15 =>
(abin Tryz.prog .neq 38 (.tmp 22) (.const (.int .i64 0)) v15 (.int .i64 0)).bind fun v16 =>
condV v16
 (retV [(.bool false)] s)
 ((anilCheck (getL T 0)).bind fun v17 =>
(afieldAddr 0 v17).bind fun v18 =>
(aload false 1 v18 s).bind fun v19 =>
(aindexS 1 v19 (.int .i64 0)).bind fun v20 =>
(aload false 1 v20 s).bind fun v21 =>
(anilCheck (getL T 0)).bind fun v22 =>
(afieldAddr 0 v22).bind fun v23 =>
(aload false 1 v23 s).bind fun v24 =>
(asliceV 1 v24 (some (.int .i64 1)) none none).bind fun v25 =>
(anilCheck (getL T 0)).bind fun v26 =>
(afieldAddr 0 v26).bind fun v27 =>
(astore 1 v27 v25 s).bind fun s28 =>
(abin Tryz.prog .gtr 5 (.tmp 38) (.const (.int .u8 1)) v21 (.int .u8 1)).bind fun v30 =>
condV v30
 ((callV Tryz.prog R (.func (.func 121) #[] #[]) [(getL T 0), (.int .i64 11)] s28).bind fun r31 =>
joinK (record_reader_flag.j0 R) [v21] r31.2)
 (joinK (record_reader_flag.j0 R) [v21] s28))

noncomputable def record_reader_flag (R : Caller) (x0 : Value) (s : St) : Option (Value × St) :=
(anilCheck x0).bind fun v1 =>
(afieldAddr 1 v1).bind fun v2 =>
(aload false 1 v2 s).bind fun v3 =>
(abin Tryz.prog .eql 38 (.tmp 7) (.const (.int .i64 0)) v3 (.int .i64 0)).bind fun v4 =>
(guardV v4 true ((anilCheck x0).bind fun v5 =>
(afieldAddr 0 v5).bind fun v6 =>
(aload false 1 v6 s).bind fun v7 =>
(alenV (.slice 5) v7 s).bind fun v8 =>
(abin Tryz.prog .eql 3 (.tmp 14) (.const (.int .i64 0)) v8 (.int .i64 0)).bind fun v9 =>
some ([v9], s)) (some ([undef], s))).bind fun q10 =>
(apick v4 (getL q10.1 0) (.bool false)).bind fun v11 =>
condV v11
 ((callV Tryz.prog R (.func (.func 121) #[] #[]) [x0, (.int .i64 10)] q10.2).bind fun r12 =>
joinK (record_reader_flag.j1 R) [x0] r12.2)
 (joinK (record_reader_flag.j1 R) [x0] q10.2)

theorem record_reader_flag_of {lib : Lib} (hl : lib 141 = none) {x0 : Value} {s : St} {r : Value × St} (h : record_reader_flag (run Tryz.prog lib hints) x0 s = some r) : run Tryz.prog lib hints 141 [x0] s = some r :=
  run_of hl Tryz.func141 (Eq.trans (by kernel_rfl) h)

theorem record_reader_flag_ok : funcOk Tryz.prog 141 = true := by kernel_rfl
theorem record_reader_flag_call {R : Caller} {xs : List Value} {s : St} : callV Tryz.prog R (.func (.func 141) #[] #[]) xs s = R 141 xs s := callV_eq record_reader_flag_ok

noncomputable def record_many_api_Pair.b0 (R : Caller) (T : List Value) (s : St) : Res :=
(abin Tryz.prog .gtr 3 (.tmp 9) (.const (.int .i64 0)) (getL T 3) (.int .i64 0)).bind fun v1 =>
(guardV v1 true ((anilCheck (getL T 0)).bind fun v2 =>
(afieldAddr 1 v2).bind fun v3 =>
(aload false 1 v3 s).bind fun v4 =>
(abin Tryz.prog .eql 38 (.tmp 15) (.const (.int .i64 0)) v4 (.int .i64 0)).bind fun v5 =>
some ([v5], s)) (some ([undef], s))).bind fun q6 =>
(apick v1 (getL q6.1 0) (.bool false)).bind fun v7 =>
condV v7
 ((callV Tryz.prog R (getL T 1) [] q6.2).bind fun r8 =>
(abuildSl 2 [(.string ⟨#[]⟩), (.string ⟨#[]⟩)] 1 [(0, r8.1)] r8.2).bind fun r9 =>
(aappend 2 32 (getL T 2) r9.1 r9.2).bind fun r10 =>
(abin Tryz.prog .sub 3 (.tmp 18) (.const (.int .i64 1)) (getL T 3) (.int .i64 1)).bind fun v11 =>
some (.normal, [(getL T 0), (getL T 1), r10.1, v11], r10.2))
 (some (.exit 0, [(getL T 2)], q6.2))

noncomputable def record_many_api_Pair (R : Caller) (x0 x1 : Value) (s : St) : Option (Value × St) :=
(callV Tryz.prog R (.func (.func 70) #[] #[]) [x0] s).bind fun r0 =>
(loopL (record_many_api_Pair.b0 R) [x0, x1, (.slice none 0 0), r0.1] r0.2).bind fun r12 =>
exV r12.1 [(0, retV [(getL r12.2.1 0)] r12.2.2)]
 (none)

theorem record_many_api_Pair_of {lib : Lib} (hl : lib 142 = none) {x0 x1 : Value} {s : St} {r : Value × St} (h : record_many_api_Pair (run Tryz.prog lib hints) x0 x1 s = some r) : run Tryz.prog lib hints 142 [x0, x1] s = some r :=
  run_of hl Tryz.func142 (Eq.trans (by kernel_rfl) h)

theorem record_many_api_Pair_ok : funcOk Tryz.prog 142 = true := by kernel_rfl
theorem record_many_api_Pair_call {R : Caller} {xs : List Value} {s : St} : callV Tryz.prog R (.func (.func 142) #[] #[]) xs s = R 142 xs s := callV_eq record_many_api_Pair_ok

noncomputable def record_reader_pair (R : Caller) (x0 : Value) (s : St) : Option (Value × St) :=
(callV Tryz.prog R (.func (.func 122) #[] #[]) [x0] s).bind fun r0 =>
(callV Tryz.prog R (.func (.func 122) #[] #[]) [x0] r0.2).bind fun r1 =>
(abuild Tryz.prog 150 [(0, r0.1), (1, r1.1)]).bind fun v2 =>
(lstore 2 lptr v2 (.agg #[(.string ⟨#[]⟩), (.string ⟨#[]⟩)])).bind fun v3 =>
(lload true 2 lptr v3).bind fun v4 =>
retV [v4] r1.2

theorem record_reader_pair_of {lib : Lib} (hl : lib 143 = none) {x0 : Value} {s : St} {r : Value × St} (h : record_reader_pair (run Tryz.prog lib hints) x0 s = some r) : run Tryz.prog lib hints 143 [x0] s = some r :=
  run_of hl Tryz.func143 (Eq.trans (by kernel_rfl) h)

theorem record_reader_pair_ok : funcOk Tryz.prog 143 = true := by kernel_rfl
noncomputable def record_rows_api_Pair.b0 (R : Caller) (T : List Value) (s : St) : Res :=
(abin Tryz.prog .lss 3 (.tmp 10) (.tmp 9) (getL T 3) (getL T 2)).bind fun v1 =>
condV v1
 ((aindexS 2 (getL T 1) (getL T 3)).bind fun v2 =>
(aload true 2 v2 s).bind fun v3 =>
(lstore 2 lptr v3 (.agg #[(.string ⟨#[]⟩), (.string ⟨#[]⟩)])).bind fun v4 =>
(lload true 2 lptr v4).bind fun v5 =>
(callV Tryz.prog R (getL T 0) [v5] s).bind fun r6 =>
(abin Tryz.prog .add 3 (.tmp 10) (.const (.int .i64 1)) (getL T 3) (.int .i64 1)).bind fun v7 =>
some (.normal, [(getL T 0), (getL T 1), (getL T 2), v7], r6.2))
 (some (.exit 0, [], s))

noncomputable def record_rows_api_Pair (R : Caller) (x0 x1 x2 : Value) (s : St) : Option (Value × St) :=
(alenV (.slice 150) x1 s).bind fun v0 =>
(loopL (record_rows_api_Pair.b0 R) [x2, x1, v0, (.int .i64 0)] s).bind fun r8 =>
exV r8.1 [(0, retV [] r8.2.2)]
 (none)

theorem record_rows_api_Pair_of {lib : Lib} (hl : lib 144 = none) {x0 x1 x2 : Value} {s : St} {r : Value × St} (h : record_rows_api_Pair (run Tryz.prog lib hints) x0 x1 x2 s = some r) : run Tryz.prog lib hints 144 [x0, x1, x2] s = some r :=
  run_of hl Tryz.func144 (Eq.trans (by kernel_rfl) h)

theorem record_rows_api_Pair_ok : funcOk Tryz.prog 144 = true := by kernel_rfl
theorem record_rows_api_Pair_call {R : Caller} {xs : List Value} {s : St} : callV Tryz.prog R (.func (.func 144) #[] #[]) xs s = R 144 xs s := callV_eq record_rows_api_Pair_ok

end Go.Proofs.YtckpcelchhmjcaaGreat.Ab

/- Pairs of strings: as values, and compared. -/
namespace Go.Proofs.YtckpcelchhmjcaaGreat.Ab
open Go

theorem pr_bind {P : Program} {α β : Type} (m : Sem α) (f : α → Sem β) : pureRun P (m >>= f) = (pureRun P m).bind fun a => pureRun P (f a) := by
  show pureRun P (Sem.bind m f) = _
  induction m with
  | pure a => rfl
  | program k ih => simp only [Sem.bind, pureRun]; exact ih P
  | _ => rfl
theorem pr_pure {P : Program} {α : Type} (a : α) : pureRun P (Pure.pure a : Sem α) = some a := rfl
theorem pr_program {P : Program} : pureRun P (program : Sem Program) = some P := rfl
theorem pr_und {P : Program} {t : TypeId} {d : TypeDesc} (h : P.underlying t = some d) : pureRun P (underlying t) = some d := by
  unfold underlying
  rw [pr_bind, pr_program]
  simp only [Option.bind_some, h]
  rfl
theorem pr_str {P : Program} {d : Nat} {t : TypeId} {a b : ByteArray} (h : P.underlying t = some .string) : pureRun P (Op.equalIn (d + 1) t (.string a) (.string b)) = some (a == b) := by
  unfold Op.equalIn
  rw [pr_bind, pr_und h]
  simp only [Option.bind_some, pr_pure]

abbrev BL := List UInt8
abbrev Rg := BL × BL
def rv (r : Rg) : Value := .agg #[sv r.1, sv r.2]
def asBl : Value → Option BL
  | .string a => some a.data.toList
  | _ => none
def asRg : Value → Option Rg
  | .agg cs => match cs.toList with
    | [.string a, .string b] => some (a.data.toList, b.data.toList)
    | _ => none
  | _ => none
theorem asBl_some {v : Value} {l : BL} (h : asBl v = some l) : v = sv l := by
  unfold asBl at h
  split at h
  · cases h; exact sv_of _
  · cases h
theorem asRg_some {v : Value} {r : Rg} (h : asRg v = some r) : v = rv r := by
  unfold asRg at h
  split at h
  · rename_i cs
    split at h
    · rename_i a b e
      cases h
      obtain ⟨l⟩ := cs
      simp only at e
      subst e
      unfold rv
      rw [← sv_of, ← sv_of]
    · cases h
  · cases h

theorem bytes_beq {a b : BL} : ((⟨a.toArray⟩ : ByteArray) == ⟨b.toArray⟩) = (a == b) := by
  show (a.toArray == b.toArray) = (a == b)
  simp

theorem rv_eql (o1 o2 : Operand) (a b : Rg) : abin Tryz.prog .eql 27 o1 o2 (rv a) (rv b) = some (.bool (a.1 == b.1 && a.2 == b.2)) := by
  have hu := pr_und Tryz.underlying27
  have hg : pureRun Tryz.prog (eqGuard .eql 27 o1 o2 (.agg #[sv a.1, sv a.2]) (.agg #[sv b.1, sv b.2])) = some () := by kernel_rfl
  have hh : Tryz.prog.stoodInHeld 27 = false := by kernel_rfl
  have hp : ∀ x y : BL, pureRun Tryz.prog (part 9 #[sv x, sv y] 0) = some (sv x) ∧ pureRun Tryz.prog (part 9 #[sv x, sv y] 1) = some (sv y) := fun x y => by
    refine ⟨?_, ?_⟩ <;> kernel_rfl
  have he : ∀ (n : Nat) (x y : BL), pureRun Tryz.prog (Op.equalIn (n + 1) 9 (sv x) (sv y)) = some (x == y) := fun n x y => by
    unfold sv
    rw [pr_str Tryz.underlying9, bytes_beq]
  unfold abin aggBin rv
  simp only
  have hc : (constOk (.agg #[sv a.1, sv a.2]) && constOk (.agg #[sv b.1, sv b.2])) = true := rfl
  rw [if_pos hc, pr_bind, hg]
  simp only [Option.bind_some, binOp]
  rw [pr_bind]
  have key : pureRun Tryz.prog (Op.equal 27 (.agg #[sv a.1, sv a.2]) (.agg #[sv b.1, sv b.2])) = some (a.1 == b.1 && a.2 == b.2) := by
    unfold Op.equal Op.maxDepth Op.equalIn
    rw [pr_bind, hu]
    simp only [Option.bind_some]
    rw [pr_bind, pr_program]
    simp only [Option.bind_some, hh, Bool.false_eq_true, if_false, pr_bind]
    have hLo : ("Lo" ≠ "_") = True := by simp
    have hHi : ("Hi" ≠ "_") = True := by simp
    simp only [List.forIn_toArray, List.forIn_cons, List.forIn_nil]
    cases h1 : (a.1 == b.1)
    · simp only [Option.bind_some, pr_bind, pr_pure, Nat.reduceAdd, hLo, hHi, if_true, (hp _ _).1, (hp _ _).2, he, Bool.not_true, Bool.not_false, Bool.false_eq_true, if_false, Bool.true_and, Bool.false_and, Bool.and_true, h1]
    cases h2 : (a.2 == b.2)
    · simp only [Option.bind_some, pr_bind, pr_pure, Nat.reduceAdd, hLo, hHi, if_true, (hp _ _).1, (hp _ _).2, he, Bool.not_true, Bool.not_false, Bool.false_eq_true, if_false, Bool.true_and, Bool.false_and, Bool.and_true, h1, h2]
    · simp only [Option.bind_some, pr_bind, pr_pure, Nat.reduceAdd, hLo, hHi, if_true, (hp _ _).1, (hp _ _).2, he, Bool.not_true, Bool.not_false, Bool.false_eq_true, if_false, Bool.true_and, Bool.false_and, Bool.and_true, h1, h2]
  rw [key]
  rfl

theorem rv_neq (o1 o2 : Operand) (a b : Rg) : abin Tryz.prog .neq 27 o1 o2 (rv a) (rv b) = some (.bool (!(a.1 == b.1 && a.2 == b.2))) := by
  have hu := pr_und Tryz.underlying27
  have hg : pureRun Tryz.prog (eqGuard .neq 27 o1 o2 (.agg #[sv a.1, sv a.2]) (.agg #[sv b.1, sv b.2])) = some () := by kernel_rfl
  have h0 := rv_eql o1 o2 a b
  have hg0 : pureRun Tryz.prog (eqGuard .eql 27 o1 o2 (.agg #[sv a.1, sv a.2]) (.agg #[sv b.1, sv b.2])) = some () := by kernel_rfl
  unfold abin aggBin rv at h0 ⊢
  simp only at h0 ⊢
  have hc : (constOk (.agg #[sv a.1, sv a.2]) && constOk (.agg #[sv b.1, sv b.2])) = true := rfl
  rw [if_pos hc, pr_bind, hg0] at h0
  rw [if_pos hc, pr_bind, hg]
  simp only [Option.bind_some, binOp, pr_bind, pr_pure] at h0 ⊢
  cases e : pureRun Tryz.prog (Op.equal 27 (.agg #[sv a.1, sv a.2]) (.agg #[sv b.1, sv b.2])) with
  | none => rw [e] at h0; cases h0
  | some r =>
    rw [e] at h0
    simp only [Option.bind_some] at h0 ⊢
    cases h0
    rfl

end Go.Proofs.YtckpcelchhmjcaaGreat.Ab

/- Keys and ranges: what the functions do. -/
namespace Go.Proofs.YtckpcelchhmjcaaGreat.Ab
open Go

def ckK (k : BL) : Bool := k != [] && decide (k.length ≤ 12)
def ckR (r : Rg) : Bool := decide (r.1.length ≤ 12) && decide (r.2.length ≤ 12) && (r.2 == [] || bl r.1 r.2)
def eK (k : BL) : Int := if ckK k then 0 else 20
def eR (r : Rg) : Int := if ckR r then 0 else 21
def gP (G : List Value → Option Value) : Sum := fun xs s => (G xs).map fun v => (v, s)
theorem sumP {lib : Lib} {f : FuncId} {G : List Value → Option Value} (h : ∀ xs v s, G xs = some v → plainV v = true ∧ ∃ t, run Tryz.prog lib hints f xs s = some (v, t)) : SumOk Tryz.prog lib hints f (gP G) :=
  SumOk.plain (G := fun xs _ => G xs) fun xs s v hv => h xs v (frzS s) hv
def G1K (F : BL → Value) : List Value → Option Value
  | [v] => (asBl v).map F
  | _ => none
def G1R (F : Rg → Value) : List Value → Option Value
  | [v] => (asRg v).map F
  | _ => none
theorem sum1K {lib : Lib} {f : FuncId} {F : BL → Value} (h : ∀ k s, plainV (F k) = true ∧ ∃ t, run Tryz.prog lib hints f [sv k] s = some (F k, t)) : SumOk Tryz.prog lib hints f (gP (G1K F)) := sumP fun xs v s hv => by
  unfold G1K at hv
  split at hv
  · simp only [Option.map_eq_some_iff] at hv
    obtain ⟨k, h1, rfl⟩ := hv
    rw [asBl_some h1]
    exact h k s
  · cases hv
theorem sum1R {lib : Lib} {f : FuncId} {F : Rg → Value} (h : ∀ k s, plainV (F k) = true ∧ ∃ t, run Tryz.prog lib hints f [rv k] s = some (F k, t)) : SumOk Tryz.prog lib hints f (gP (G1R F)) := sumP fun xs v s hv => by
  unfold G1R at hv
  split at hv
  · simp only [Option.map_eq_some_iff] at hv
    obtain ⟨k, h1, rfl⟩ := hv
    rw [asRg_some h1]
    exact h k s
  · cases hv
theorem nil_sv : (Value.string ⟨#[]⟩) = sv [] := rfl
theorem len12 {k : BL} : decide (((k.length : Nat) : Int) > 12) = !decide (k.length ≤ 12) := by
  by_cases h : k.length ≤ 12
  · simp [h]; omega
  · simp [h]; omega
theorem CheckKey_run {R : Caller} (k : BL) (s : St) : span_CheckKey R (sv k) s = some (.int .i64 (eK k), s) := by
  unfold span_CheckKey eK ckK
  rw [nil_sv]
  simp only [e_seql, e_lenV, len12, n_bind, n_map, getL_0, getL_1, getL_2, getL_3, getL_4, getL_5, getL_6, getL_7, getL_8, getL_9, getL_10, getL_11, getL_12, condV_t, condV_f, guardV_tt, guardV_ff, guardV_tf, guardV_ft, guardV_u, apick_t, apick_f, exV_exit, exV_ret, lookE_same, joinK_eq, seqA_n, seqA_e, seqA_r, e_add, e_sub, e_mul, e_eql, e_neq, e_lss, e_leq, e_gtr, e_geq, e_conv, e_not, e_neg, and_guard, or_guard]
  cases h1 : (k == []) <;> cases h2 : decide (k.length ≤ 12) <;> simp only [bne, h1, h2, Bool.not_true, Bool.not_false, Bool.true_or, Bool.false_or, Bool.or_true, Bool.or_false, Bool.and_true, Bool.and_false, if_true, if_false, Bool.false_eq_true, n_bind, n_map, getL_0, getL_1, getL_2, getL_3, getL_4, getL_5, getL_6, getL_7, getL_8, getL_9, getL_10, getL_11, getL_12, condV_t, condV_f, guardV_tt, guardV_ff, guardV_tf, guardV_ft, guardV_u, apick_t, apick_f, exV_exit, exV_ret, lookE_same, joinK_eq, seqA_n, seqA_e, seqA_r, e_add, e_sub, e_mul, e_eql, e_neq, e_lss, e_leq, e_gtr, e_geq, e_conv, e_not, e_neg, and_guard, or_guard, retV] <;> rfl
theorem refCheckKey_run {R : Caller} (k : BL) (s : St) : ref02_CheckKey R (sv k) s = some (.int .i64 (eK k), s) := by
  unfold ref02_CheckKey eK ckK
  have h0 : decide (((k.length : Nat) : Int) < 1) = (k == []) := by
    cases k with
    | nil => rfl
    | cons x k => simp; omega
  simp only [e_lenV, h0, len12, n_bind, n_map, getL_0, getL_1, getL_2, getL_3, getL_4, getL_5, getL_6, getL_7, getL_8, getL_9, getL_10, getL_11, getL_12, condV_t, condV_f, guardV_tt, guardV_ff, guardV_tf, guardV_ft, guardV_u, apick_t, apick_f, exV_exit, exV_ret, lookE_same, joinK_eq, seqA_n, seqA_e, seqA_r, e_add, e_sub, e_mul, e_eql, e_neq, e_lss, e_leq, e_gtr, e_geq, e_conv, e_not, e_neg, and_guard, or_guard]
  cases h1 : (k == []) <;> cases h2 : decide (k.length ≤ 12) <;> simp only [bne, h1, h2, Bool.not_true, Bool.not_false, Bool.true_or, Bool.false_or, Bool.or_true, Bool.or_false, Bool.and_true, Bool.and_false, if_true, if_false, Bool.false_eq_true, n_bind, n_map, getL_0, getL_1, getL_2, getL_3, getL_4, getL_5, getL_6, getL_7, getL_8, getL_9, getL_10, getL_11, getL_12, condV_t, condV_f, guardV_tt, guardV_ff, guardV_tf, guardV_ft, guardV_u, apick_t, apick_f, exV_exit, exV_ret, lookE_same, joinK_eq, seqA_n, seqA_e, seqA_r, e_add, e_sub, e_mul, e_eql, e_neq, e_lss, e_leq, e_gtr, e_geq, e_conv, e_not, e_neg, and_guard, or_guard, retV] <;> rfl
end Go.Proofs.YtckpcelchhmjcaaGreat.Ab

/- Keys and ranges: what the functions do, further. -/
namespace Go.Proofs.YtckpcelchhmjcaaGreat.Ab
open Go

theorem z_rv : (Value.agg #[.string ⟨#[]⟩, .string ⟨#[]⟩]) = rv ([], []) := rfl
theorem box_rv (r : Rg) : lbox (rv r) = some (rv r) := rfl
theorem ld_rv (r : Rg) : lload true 2 lptr (rv r) = some (rv r) := rfl
theorem ad_0 : afieldAddr 0 lptr = some (.pointer (some ⟨0, 0, none⟩)) := rfl
theorem ad_1 : afieldAddr 1 lptr = some (.pointer (some ⟨0, 1, none⟩)) := rfl
theorem ld_0 (r : Rg) : lload false 1 lptr (rv r) = some (sv r.1) := rfl
theorem ld_00 (r : Rg) : lload false 1 (.pointer (some ⟨0, 0, none⟩)) (rv r) = some (sv r.1) := rfl
theorem z_rv2 : (Value.agg #[sv [], sv []]) = rv ([], []) := rfl
theorem ld_1 (r : Rg) : lload false 1 (.pointer (some ⟨0, 1, none⟩)) (rv r) = some (sv r.2) := rfl
theorem own_id {α : Type} {s : St} {a : α} : ownR s (a, s) = some (a, s) := by unfold ownR; rw [if_pos (Nat.le_refl _)]
theorem all_run {R : Caller} (s : St) : span_all R s = some (rv ([], []), s) := rfl

theorem geq_bl {P : Program} {t : TypeId} {o1 o2 : Operand} {a b : BL} : abin P .geq t o1 o2 (sv a) (sv b) = some (.bool (!bl a b)) := e_sgeq
theorem Check_run {R : Caller} (hR : ∀ s, R 104 [] s = some (rv ([], []), s)) (r : Rg) (s : St) : span_Check R (rv r) s = some (.int .i64 (eR r), s) := by
  obtain ⟨a, b⟩ := r
  unfold span_Check
  simp only [z_rv, z_rv2, box_rv, ld_rv, span_all_call, hR, own_id, rv_eql, ad_0, ad_1, ld_0, ld_1, nil_sv, e_lenV, len12, e_sneq, geq_bl, n_bind, n_map, getL_0, getL_1, getL_2, getL_3, getL_4, getL_5, getL_6, getL_7, getL_8, getL_9, getL_10, getL_11, getL_12, condV_t, condV_f, guardV_tt, guardV_ff, guardV_tf, guardV_ft, guardV_u, apick_t, apick_f, exV_exit, exV_ret, lookE_same, joinK_eq, seqA_n, seqA_e, seqA_r, e_add, e_sub, e_mul, e_eql, e_neq, e_lss, e_leq, e_gtr, e_geq, e_conv, e_not, e_neg, and_guard, or_guard]
  unfold eR ckR
  by_cases h0 : a = [] ∧ b = []
  · obtain ⟨rfl, rfl⟩ := h0
    rfl
  · have e0 : (a == [] && b == []) = false := by
      cases h1 : (a == []) <;> cases h2 : (b == []) <;> simp_all
    simp only [e0, n_bind, n_map, getL_0, getL_1, getL_2, getL_3, getL_4, getL_5, getL_6, getL_7, getL_8, getL_9, getL_10, getL_11, getL_12, condV_t, condV_f, guardV_tt, guardV_ff, guardV_tf, guardV_ft, guardV_u, apick_t, apick_f, exV_exit, exV_ret, lookE_same, joinK_eq, seqA_n, seqA_e, seqA_r, e_add, e_sub, e_mul, e_eql, e_neq, e_lss, e_leq, e_gtr, e_geq, e_conv, e_not, e_neg, and_guard, or_guard]
    cases h1 : decide (a.length ≤ 12) <;> cases h2 : decide (b.length ≤ 12) <;> cases h3 : (b == []) <;> cases h4 : bl a b <;> simp only [span_Check.j0, h1, h2, h3, h4, Bool.not_true, Bool.not_false, Bool.true_or, Bool.false_or, Bool.or_true, Bool.or_false, Bool.and_true, Bool.and_false, Bool.true_and, Bool.false_and, if_true, if_false, Bool.false_eq_true, z_rv, z_rv2, ld_rv, ld_0, ld_00, ld_1, n_bind, n_map, getL_0, getL_1, getL_2, getL_3, getL_4, getL_5, getL_6, getL_7, getL_8, getL_9, getL_10, getL_11, getL_12, condV_t, condV_f, guardV_tt, guardV_ff, guardV_tf, guardV_ft, guardV_u, apick_t, apick_f, exV_exit, exV_ret, lookE_same, joinK_eq, seqA_n, seqA_e, seqA_r, e_add, e_sub, e_mul, e_eql, e_neq, e_lss, e_leq, e_gtr, e_geq, e_conv, e_not, e_neg, and_guard, or_guard, retV] <;> rfl
theorem refCheck_run {R : Caller} (r : Rg) (s : St) : ref02_Check R (rv r) s = some (.int .i64 (eR r), s) := by
  obtain ⟨a, b⟩ := r
  unfold ref02_Check
  simp only [z_rv, z_rv2, box_rv, ld_rv, ad_0, ad_1, ld_0, ld_1, nil_sv, e_lenV, len12, e_sneq, geq_bl, n_bind, n_map, getL_0, getL_1, getL_2, getL_3, getL_4, getL_5, getL_6, getL_7, getL_8, getL_9, getL_10, getL_11, getL_12, condV_t, condV_f, guardV_tt, guardV_ff, guardV_tf, guardV_ft, guardV_u, apick_t, apick_f, exV_exit, exV_ret, lookE_same, joinK_eq, seqA_n, seqA_e, seqA_r, e_add, e_sub, e_mul, e_eql, e_neq, e_lss, e_leq, e_gtr, e_geq, e_conv, e_not, e_neg, and_guard, or_guard]
  unfold eR ckR
  cases h1 : decide (a.length ≤ 12) <;> cases h2 : decide (b.length ≤ 12) <;> cases h3 : (b == []) <;> cases h4 : bl a b <;> simp only [h1, h2, h3, h4, Bool.not_true, Bool.not_false, Bool.true_or, Bool.false_or, Bool.or_true, Bool.or_false, Bool.and_true, Bool.and_false, Bool.true_and, Bool.false_and, if_true, if_false, Bool.false_eq_true, z_rv, z_rv2, ld_rv, ld_0, ld_00, ld_1, n_bind, n_map, getL_0, getL_1, getL_2, getL_3, getL_4, getL_5, getL_6, getL_7, getL_8, getL_9, getL_10, getL_11, getL_12, condV_t, condV_f, guardV_tt, guardV_ff, guardV_tf, guardV_ft, guardV_u, apick_t, apick_f, exV_exit, exV_ret, lookE_same, joinK_eq, seqA_n, seqA_e, seqA_r, e_add, e_sub, e_mul, e_eql, e_neq, e_lss, e_leq, e_gtr, e_geq, e_conv, e_not, e_neg, and_guard, or_guard, retV] <;> rfl
end Go.Proofs.YtckpcelchhmjcaaGreat.Ab

/- Keys and ranges: Has, least, below. -/
namespace Go.Proofs.YtckpcelchhmjcaaGreat.Ab
open Go

end Go.Proofs.YtckpcelchhmjcaaGreat.Ab

/- Ranges: what two have in common, and what covers. -/
namespace Go.Proofs.YtckpcelchhmjcaaGreat.Ab
open Go

theorem ab2 (x y : BL) : abuild Tryz.prog 27 [(0, sv x), (1, sv y)] = some (rv (x, y)) := by kernel_rfl
theorem st_rv (x y : Rg) : lstore 2 lptr (rv x) (rv y) = some (rv x) := rfl
theorem eR_n {r : Rg} : (eR r != 0) = !ckR r := by unfold eR; cases ckR r <;> rfl
theorem eK_n {k : BL} : (eK k != 0) = !ckK k := by unfold eK; cases ckK k <;> rfl

end Go.Proofs.YtckpcelchhmjcaaGreat.Ab

/- Ranges: the reference's answers to what two have in common, and to what covers. -/
namespace Go.Proofs.YtckpcelchhmjcaaGreat.Ab
open Go

end Go.Proofs.YtckpcelchhmjcaaGreat.Ab

/- Ranges: a range in two. -/
namespace Go.Proofs.YtckpcelchhmjcaaGreat.Ab
open Go

end Go.Proofs.YtckpcelchhmjcaaGreat.Ab

/- What is known of the functions of keys and ranges: told as sums. -/
namespace Go.Proofs.YtckpcelchhmjcaaGreat.Ab
open Go

theorem progOk : progW Tryz.prog = true := by kernel_rfl
def gKey : Sum := gP (G1K fun k => .int .i64 (eK k))
def gChk : Sum := gP (G1R fun r => .int .i64 (eR r))
def G0 (v : Value) : List Value → Option Value
  | [] => some v
  | _ => none
def gAll : Sum := gP (G0 (rv ([], [])))
theorem key_eq {k : BL} {s : St} : gKey [sv k] s = some (.int .i64 (eK k), s) := rfl
theorem chk_eq {r : Rg} {s : St} : gChk [rv r] s = some (.int .i64 (eR r), s) := rfl
theorem all_eq {s : St} : gAll [] s = some (rv ([], []), s) := rfl
end Go.Proofs.YtckpcelchhmjcaaGreat.Ab

/- The range of a key: the reference's loop. -/
namespace Go.Proofs.YtckpcelchhmjcaaGreat.Ab
open Go

end Go.Proofs.YtckpcelchhmjcaaGreat.Ab

/- The range of a key: what both functions do. -/
namespace Go.Proofs.YtckpcelchhmjcaaGreat.Ab
open Go

end Go.Proofs.YtckpcelchhmjcaaGreat.Ab

/- Strings have ranks: what is plain of keys and ranges. -/
namespace Go.Proofs.YtckpcelchhmjcaaGreat.Ab
open Go

end Go.Proofs.YtckpcelchhmjcaaGreat.Ab

/- What is plain of keys and ranges, further. -/
namespace Go.Proofs.YtckpcelchhmjcaaGreat.Ab
open Go

theorem top_eq : ∀ {v o : BL}, (∀ c ∈ v, c = 255) → bl o v = false → o.length ≤ v.length → o = v
  | [], [], _, _, _ => rfl
  | [], _ :: _, _, _, h => by simp at h
  | _ :: _, [], _, h, _ => by cases h
  | c :: v, y :: o, hv, h, hl => by
    have hc := hv c (List.mem_cons_self ..)
    subst hc
    have h1 : ¬ (y.toNat < (255 : UInt8).toNat ∨ (y = 255 ∧ bl o v = true)) := fun g => by rw [bl_cons.2 g] at h; cases h
    have h2 : (255 : UInt8).toNat = 255 := rfl
    have h3 := y.toNat_lt
    have hy : y = 255 := UInt8.toNat_inj.1 (by omega)
    subst hy
    rw [top_eq (v := v) (o := o) (fun c hc => hv c (List.mem_cons_of_mem _ hc)) (by
      cases e : bl o v with
      | false => rfl
      | true => exact absurd (.inr ⟨rfl, e⟩) h1) (by simpa using hl)]
theorem between {x : UInt8} (hx : x ≠ 255) {v : BL} (hv : ∀ c ∈ v, c = 255) : ∀ {u o : BL}, bl o (u ++ x :: v) = false → bl o (u ++ [x + 1]) = true → o.length ≤ (u ++ x :: v).length → o = u ++ x :: v
  | [], [], h, _, _ => by cases h
  | [], y :: o, h, g, hl => by
    have hx1 : (x + 1).toNat = x.toNat + 1 := by
      have h1 := x.toNat_lt
      have h2 : x.toNat ≠ 255 := fun e => hx (UInt8.toNat_inj.1 e)
      rw [UInt8.toNat_add]
      have : (1 : UInt8).toNat = 1 := rfl
      omega
    have h1 : ¬ (y.toNat < x.toNat ∨ (y = x ∧ bl o v = true)) := fun g => by rw [List.nil_append, bl_cons.2 g] at h; cases h
    rw [List.nil_append, bl_cons] at g
    rw [bl_nil_r] at g
    have hy : y = x := UInt8.toNat_inj.1 (by
      rcases g with g | ⟨_, g⟩
      · omega
      · cases g)
    subst hy
    rw [top_eq (v := v) (o := o) hv (by
      cases e : bl o v with
      | false => rfl
      | true => exact absurd (.inr ⟨rfl, e⟩) h1) (by simpa using hl)]
    rfl
  | _ :: _, [], h, _, _ => by cases h
  | c :: u, y :: o, h, g, hl => by
    have h1 : ¬ (y.toNat < c.toNat ∨ (y = c ∧ bl o (u ++ x :: v) = true)) := fun g => by rw [List.cons_append, bl_cons.2 g] at h; cases h
    rw [List.cons_append, bl_cons] at g
    have hy : y = c := by
      rcases g with g | g
      · exact absurd (.inl g) h1
      · exact g.1
    subst hy
    have g2 : bl o (u ++ [x + 1]) = true := by
      rcases g with g | g
      · omega
      · exact g.2
    rw [between hx hv (u := u) (o := o) (by
      cases e : bl o (u ++ x :: v) with
      | false => rfl
      | true => exact absurd (.inr ⟨rfl, e⟩) h1) g2 (by simpa using hl)]
    rfl
theorem above {x : UInt8} (hx : x ≠ 255) {v : BL} : ∀ {u : BL}, bl (u ++ x :: v) (u ++ [x + 1]) = true
  | [] => by
    rw [List.nil_append, List.nil_append, bl_cons]
    left
    have h1 := x.toNat_lt
    have h2 : x.toNat ≠ 255 := fun e => hx (UInt8.toNat_inj.1 e)
    rw [UInt8.toNat_add]
    have : (1 : UInt8).toNat = 1 := rfl
    omega
  | c :: u => by
    rw [List.cons_append, List.cons_append, bl_cons]
    exact .inr ⟨rfl, above hx⟩
end Go.Proofs.YtckpcelchhmjcaaGreat.Ab

/- Compared strings: known by the kit's walk. -/
namespace Go.Proofs.YtckpcelchhmjcaaGreat.Ab
open Go Go.RowKit Go.Lib

theorem libOk_direct {P : Program} (hprog : progW P = true) {l : List (FuncId × Sum)} (hl : LibOk P (libL l)) {f : FuncId} {g : Sum} (hok : funcOk P f = true)
    (hg : LibOk P (libL l) → ∀ args s v s', g args s = some (v, s') → ∀ wb ι w (args' : Array Value), Sim wb ι s.heap w → All2 (VRel ι) args args'.toList → Calls P f args' w fun e w' => ∃ v', e = .returned v' ∧ After wb ι s.heap w s'.heap v v' w') : LibOk P (libL ((f, g) :: l)) := by
  intro f' g' hf' args s v s' h wb ι w args' hs ha
  simp only [libL] at hf'
  split at hf'
  · rename_i hff
    cases hf'
    subst hff
    exact hg hl args s v s' h wb ι w args' hs ha
  · exact hl f' g' hf' args s v s' h wb ι w args' hs ha

set_option maxHeartbeats 1000000 in
set_option maxRecDepth 100000 in
theorem CompareString_calls (a b : ByteArray) (w : World) :
    Calls Tryz.prog 160 #[.string a, .string b] w fun e w' => e = .returned (.int .i64 (Lib.compareBytes a.data.toList b.data.toList)) ∧ w' = w := by
  go_enter Tryz.func160, Tryz.ntmps160
  go_wp2
  rw [run_callFunc_extern Tryz.func162 (by kernel_rfl) (by kernel_rfl) (by kernel_rfl) (e := Extern.BytealgCompare.compare) (by kernel_rfl), Lib.run_compareString]
  simp only [Result.andThen]
  rw [Oper.upon_value]
  go_wp2
  go_ret
  exact ⟨rfl, rfl⟩
end Go.Proofs.YtckpcelchhmjcaaGreat.Ab

/- slices.Insert within a slice: what the kit's walk shows of the model, told of the abstract machine. -/
namespace Go.Proofs.YtckpcelchhmjcaaGreat.Ab
open Go

structure InsWalk (P : Program) (f : FuncId) (t e tI ov : TypeId) (nn wd : Nat) : Prop where
  ht : P.underlying t = some (.slice e)
  hI : P.underlying tI = some (.int .i64)
  hn : sizeT P e = some nn
  hw : bytesT P e = some wd
  hz : ∃ z, zeroT P e = some z ∧ (cellsV z).length = nn
  hn2 : 2 ≤ nn
  hw0 : 0 < wd
  hov : ∀ (w : World) (a b : Addr) (la ca lb cb : Nat), a.block ≠ b.block → ∀ tA tB kA kB, w.shape? a.block = some (tA, kA) → w.shape? b.block = some (tB, kB) → kB ≠ 0 → w.frozen? a = false → w.frozen? { block := a.block, off := kA } = false →
    (callFunc ov #[.slice (some a) la ca, .slice (some b) lb cb]).run P w = .ok (.value (.bool false)) w
  walkD : ∀ (b off n c i vb voff m vc : Nat) (w : World), i < n → 0 < m → n + m ≤ c → n + m ≤ 9223372036854775807 →
    (∀ lb cb, (callFunc ov #[.slice (some ⟨vb, voff, none⟩) m vc, .slice (some ⟨b, off + (i + m) * nn, none⟩) lb cb]).run P w = .ok (.value (.bool false)) w) →
    ∀ (W1 : World) (r1 : Value), (∀ ty dc sc, (Builtin.copy_ #[t, t] ty #[.slice (some ⟨b, off + (i + m) * nn, none⟩) (n + m - (i + m)) dc, .slice (some ⟨b, off + i * nn, none⟩) (n + m - i) sc]).run P w.drew = .ok r1 W1) →
    ∀ (W2 : World) (r2 : Value), (∀ ty dc, (Builtin.copy_ #[t, t] ty #[.slice (some ⟨b, off + i * nn, none⟩) (n + m - i) dc, .slice (some ⟨vb, voff, none⟩) m vc]).run P W1 = .ok r2 W2) →
    Calls P f #[.slice (some ⟨b, off, none⟩) n c, .int .i64 i, .slice (some ⟨vb, voff, none⟩) m vc] w fun e w' => e = .returned (.slice (some ⟨b, off, none⟩) (n + m) c) ∧ w' = W2
  walkE : ∀ (b off n c i vb voff m vc : Nat) (w : World), i < n → 0 < m → n ≤ c → c < n + m → n + m ≤ 9223372036854775807 →
    ∀ (W0 : World) (N cap : Nat), n + m ≤ cap → (∀ ty, (Builtin.append_ #[t, tI] ty #[.slice (some ⟨b, off, none⟩) i c, .int .i64 ((n : Int) + (m : Int) - (i : Int))]).run P w = .ok (.slice (some ⟨N, 0, none⟩) (n + m) cap) W0) →
    ∀ (W1 : World) (r1 : Value), (∀ ty dc, (Builtin.copy_ #[t, t] ty #[.slice (some ⟨N, i * nn, none⟩) (n + m - i) dc, .slice (some ⟨vb, voff, none⟩) m vc]).run P W0 = .ok r1 W1) →
    ∀ (W2 : World) (r2 : Value), (∀ ty dc sc, (Builtin.copy_ #[t, t] ty #[.slice (some ⟨N, (i + m) * nn, none⟩) (n + m - (i + m)) dc, .slice (some ⟨b, off + i * nn, none⟩) (n - i) sc]).run P W1.drew = .ok r2 W2) →
    Calls P f #[.slice (some ⟨b, off, none⟩) n c, .int .i64 i, .slice (some ⟨vb, voff, none⟩) m vc] w fun e w' => e = .returned (.slice (some ⟨N, 0, none⟩) (n + m) cap) ∧ w' = W2

end Go.Proofs.YtckpcelchhmjcaaGreat.Ab
