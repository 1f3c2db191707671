/- Texts of this proof, packed: Sh. -/
import Derived.Test.YtckpcelchhmjcaaGreatPk3
set_option linter.unusedVariables false
set_option linter.unusedSimpArgs false
set_option linter.unusedSectionVars false
/- The program's functions, as the abstract machine runs them: printed. -/
namespace Go.Proofs.YtckpcelchhmjcaaGreat.Ab
open Go
set_option maxRecDepth 100000

def hints : Hints := fun f => hintL f [(2, []), (3, [(2, 101), (3, 102)]), (4, [(3, 142), (4, 143), (10, 144), (14, 145), (16, 146), (18, 147)]), (5, [(4, 110), (5, 111), (15, 112), (17, 113), (20, 114), (22, 115)]), (6, [(6, 79), (8, 80), (10, 81), (58, 79), (67, 80)]), (7, [(1, 78), (15, 78), (18, 78), (20, 78), (22, 78), (24, 78), (29, 78), (35, 78), (41, 78), (47, 78), (49, 78), (54, 78), (58, 78), (59, 78), (61, 78), (62, 78), (64, 78), (65, 78), (70, 78), (71, 78)]), (8, [(1, 139), (7, 140), (9, 141), (16, 139), (19, 139), (21, 139), (23, 139), (25, 139), (30, 139), (33, 139), (39, 139), (47, 140), (49, 140), (55, 140), (63, 141), (69, 141), (72, 141), (75, 141), (78, 141), (82, 141), (90, 139), (97, 139), (101, 139), (103, 139), (108, 139), (109, 139), (112, 139), (113, 139), (117, 139), (118, 139), (120, 139), (121, 139), (123, 139), (124, 139), (129, 139), (130, 139), (131, 139), (134, 139), (135, 139), (136, 139)]), (9, [(1, 48), (15, 48), (18, 48), (20, 48), (22, 48), (27, 48), (33, 48), (39, 48)]), (10, [(1, 105), (7, 106), (11, 107), (18, 105), (21, 105), (23, 105), (25, 105), (30, 105), (33, 105), (39, 105), (47, 106), (49, 106), (52, 106), (54, 106), (56, 106), (62, 106), (77, 105), (83, 105), (91, 107), (94, 107), (96, 107), (100, 107)]), (11, []), (12, [(1, 161), (5, 162), (10, 161), (14, 161), (19, 161), (25, 161), (31, 161), (34, 161), (41, 161), (42, 161), (48, 161), (49, 161), (53, 161), (60, 161), (66, 161), (70, 161), (76, 161), (89, 161), (96, 162), (102, 162), (108, 162), (114, 162), (119, 161), (129, 162), (135, 161), (148, 161)]), (13, []), (14, [(1, 187), (5, 188), (7, 189), (11, 190), (12, 187), (16, 187), (21, 187), (26, 187), (32, 187), (38, 187), (43, 187), (52, 188), (54, 187), (59, 187), (72, 187), (79, 189), (85, 189), (87, 187), (94, 189), (99, 189), (104, 189), (109, 189), (124, 187), (132, 189), (144, 187), (157, 187), (164, 190), (170, 190), (175, 190), (180, 190)]), (15, [(2, 18)]), (16, [(2, 148), (3, 149), (7, 148), (9, 149), (13, 148), (15, 149), (20, 148), (22, 149), (27, 148), (29, 149), (34, 148), (36, 149), (41, 148), (43, 149), (49, 148), (52, 149), (58, 148), (61, 149), (67, 148), (69, 149), (74, 148), (76, 149), (81, 148), (83, 149), (88, 148), (90, 149), (94, 148), (100, 148), (106, 149), (114, 148), (120, 149), (130, 148), (136, 148), (141, 149)]), (17, [(2, 18)]), (18, [(2, 172), (3, 173), (6, 174), (7, 175), (10, 176), (11, 177), (12, 172), (14, 173), (18, 172), (20, 173), (25, 172), (27, 173), (32, 172), (34, 173), (39, 172), (41, 173), (47, 172), (50, 173), (56, 172), (59, 173), (64, 172), (72, 173), (77, 174), (79, 175), (83, 174), (85, 175), (90, 174), (92, 175), (97, 174), (99, 175), (104, 174), (107, 175), (112, 174), (118, 174), (123, 175), (131, 172), (139, 173), (144, 176), (146, 177), (150, 176), (152, 177), (157, 176), (159, 177), (164, 176), (166, 177)]), (19, []), (20, []), (21, [(3, 12), (5, 12), (9, 12)]), (22, []), (23, [(3, 14), (5, 14), (9, 14)]), (24, []), (25, []), (26, [(3, 12), (5, 12), (9, 12)]), (27, []), (28, [(6, 30), (20, 30), (23, 30)]), (29, []), (30, []), (31, [(3, 22), (5, 22), (7, 22), (10, 22), (12, 22), (17, 22)]), (32, []), (33, [(3, 20), (5, 20), (8, 20), (10, 20), (15, 20)]), (34, [(6, 52), (8, 53), (22, 52), (25, 52), (29, 52), (35, 52), (43, 53), (46, 53)]), (35, [(4, 57), (27, 57), (31, 57), (39, 57), (50, 57)]), (36, [(1, 28), (8, 28), (13, 28), (18, 28), (22, 28), (24, 28)]), (37, [(2, 26), (4, 26), (9, 26), (17, 26), (22, 26)]), (38, []), (39, []), (40, [(1, 6)]), (41, [(1, 83), (3, 84), (6, 83), (14, 84), (18, 83), (22, 84), (26, 83), (30, 84), (39, 84), (43, 83), (48, 84), (51, 83), (57, 83), (62, 84), (71, 84), (74, 83), (78, 83)]), (42, []), (43, []), (44, []), (45, [(1, 5), (3, 5)]), (46, []), (47, []), (48, [(4, 57), (27, 57), (31, 57), (39, 57), (50, 57)]), (49, [(1, 25), (3, 25), (8, 25), (14, 25), (18, 25), (20, 25)]), (50, [(4, 18)]), (51, []), (52, []), (53, [(2, 8), (5, 8)]), (54, []), (55, [(3, 36), (5, 36), (13, 36), (19, 36), (25, 36), (31, 36)]), (56, []), (57, []), (58, []), (59, []), (60, []), (61, [(1, 13), (3, 13), (8, 13)]), (62, []), (63, []), (64, [(1, 5), (3, 5)]), (65, []), (66, [(1, 6), (3, 6)]), (67, [(6, 48), (8, 49), (19, 48), (24, 48), (29, 48), (36, 49), (41, 49)]), (68, []), (69, []), (70, []), (71, []), (72, []), (73, [(2, 10)]), (74, []), (75, [(2, 12)]), (76, []), (77, []), (78, [(2, 10)]), (79, []), (80, []), (81, []), (82, []), (83, [(2, 21)]), (84, []), (85, [(2, 18)]), (86, []), (87, []), (88, []), (89, [(7, 18)]), (90, []), (91, [(7, 18)]), (92, []), (93, [(3, 32), (7, 32), (10, 32), (12, 32), (14, 32), (16, 32), (29, 32)]), (94, []), (95, []), (96, []), (97, [(7, 18)]), (98, []), (99, [(7, 18)]), (100, []), (101, [(3, 18), (5, 18), (9, 18), (13, 18)]), (102, []), (103, []), (104, [(0, 2)]), (105, []), (106, []), (107, [(2, 14)]), (108, [(1, 8), (2, 9), (3, 8), (5, 8)]), (109, []), (110, []), (111, [(1, 107), (5, 107), (9, 107), (14, 107), (18, 107), (22, 107), (35, 107), (39, 107), (48, 107), (54, 107), (58, 107), (64, 107), (68, 107), (75, 107), (80, 107), (86, 107), (88, 107), (94, 107), (98, 107), (102, 107)]), (112, []), (113, []), (114, []), (115, []), (116, [(1, 13), (3, 13), (8, 13)]), (117, []), (118, [(2, 20), (4, 20), (9, 20), (15, 20)]), (119, []), (120, []), (121, []), (122, []), (123, []), (124, [(2, 28)]), (125, []), (126, []), (127, []), (128, [(2, 16), (3, 17), (8, 17), (9, 17), (14, 17)]), (129, []), (130, []), (131, [(7, 18)]), (132, []), (133, [(7, 18)]), (134, []), (135, []), (136, [(3, 12), (5, 12), (9, 12)]), (137, [(0, 7)]), (138, []), (139, []), (140, []), (141, []), (142, []), (143, [(2, 10)]), (144, [(7, 18)]), (145, [(3, 26), (5, 27), (10, 26)]), (146, [(3, 35), (5, 36), (10, 35), (19, 35), (21, 35), (29, 35)]), (147, [(3, 23), (5, 24), (10, 23)]), (148, [(3, 27), (5, 28), (20, 27)]), (149, [(3, 20), (5, 21)]), (150, []), (151, []), (152, []), (153, [(3, 30), (11, 30), (18, 30), (23, 30)]), (154, []), (155, []), (156, [(2, 9), (5, 9)]), (157, []), (159, []), (160, []), (161, []), (163, [])]

/-! ### sumpter/sumpterlaw19.RecordWrites: 3 -/

noncomputable def law19_RecordWrites.b1 (R : Caller) (T : List Value) (s : St) : Res :=
(abin Tryz.prog .lss 3 (.tmp 77) (.tmp 76) (getL T 7) (getL T 6)).bind fun v59 =>
condV v59
 ((aindexS 1 (getL T 3) (getL T 7)).bind fun v60 =>
(aload false 1 v60 s).bind fun v61 =>
(abin Tryz.prog .add 5 (.tmp 83) (.const (.int .u8 1)) v61 (.int .u8 1)).bind fun v62 =>
(aindexS 1 (getL T 3) (getL T 7)).bind fun v63 =>
(astore 1 v63 v62 s).bind fun s64 =>
(abin Tryz.prog .add 3 (.tmp 77) (.const (.int .i64 1)) (getL T 7) (.int .i64 1)).bind fun v65 =>
some (.normal, [(getL T 0), (getL T 1), (getL T 2), (getL T 3), (getL T 4), (getL T 5), (getL T 6), v65, (getL T 8), (getL T 9)], s64))
 (some (.exit 2, [(getL T 0), (getL T 1), (getL T 2), (getL T 4), (getL T 5), (getL T 8), (getL T 9)], s))

noncomputable def law19_RecordWrites.b2 (R : Caller) (T : List Value) (s : St) : Res :=
(abin Tryz.prog .lss 3 (.tmp 89) (.tmp 88) (getL T 6) (getL T 5)).bind fun v68 =>
condV v68
 ((aindexS 1 (getL T 3) (getL T 6)).bind fun v69 =>
(aload false 1 v69 s).bind fun v70 =>
(abin Tryz.prog .add 5 (.tmp 95) (.const (.int .u8 1)) v70 (.int .u8 1)).bind fun v71 =>
(aindexS 1 (getL T 3) (getL T 6)).bind fun v72 =>
(astore 1 v72 v71 s).bind fun s73 =>
(abin Tryz.prog .add 3 (.tmp 89) (.const (.int .i64 1)) (getL T 6) (.int .i64 1)).bind fun v74 =>
some (.normal, [(getL T 0), (getL T 1), (getL T 2), (getL T 3), (getL T 4), (getL T 5), v74, (getL T 7), (getL T 8)], s73))
 (some (.exit 4, [(getL T 0), (getL T 1), (getL T 2), (getL T 4), (getL T 7), (getL T 8)], s))

noncomputable def law19_RecordWrites.b0 (R : Caller) (T : List Value) (s : St) : Res :=
(abin Tryz.prog .lss 3 (.tmp 17) (.const (.int .i64 2)) (getL T 3) (.int .i64 2)).bind fun v3 =>
condV v3
 ((lload true 17 (getL T 0) (getL T 4)).bind fun v4 =>
(callV Tryz.prog R (.func (.func 7) #[] #[]) [v4] s).bind fun r5 =>
(aextract 0 r5.1).bind fun v6 =>
(aextract 1 r5.1).bind fun v7 =>
(lload true 17 (getL T 0) (getL T 4)).bind fun v8 =>
(callV Tryz.prog R (.func (.func 8) #[] #[]) [v8] r5.2).bind fun r9 =>
(aextract 0 r9.1).bind fun v10 =>
(aextract 1 r9.1).bind fun v11 =>
(lload true 7 (getL T 1) (getL T 5)).bind fun v12 =>
(callV Tryz.prog R (.func (.func 9) #[] #[]) [v12] r9.2).bind fun r13 =>
(aextract 0 r13.1).bind fun v14 =>
(aextract 1 r13.1).bind fun v15 =>
(lload true 7 (getL T 1) (getL T 5)).bind fun v16 =>
(callV Tryz.prog R (.func (.func 10) #[] #[]) [v16] r13.2).bind fun r17 =>
(aextract 0 r17.1).bind fun v18 =>
(aextract 1 r17.1).bind fun v19 =>
((abytesToStr v6 (frzS r17.2)).bind fun v84 =>
some (v84, (frzS r17.2))).bind fun r20 =>
((abytesToStr v10 (frzS r17.2)).bind fun v83 =>
some (v83, (frzS r17.2))).bind fun r21 =>
(abin Tryz.prog .neq 9 (.tmp 40) (.tmp 42) r20.1 r21.1).bind fun v22 =>
(guardV v22 false (some ([v7], r17.2)) (some ([undef], r17.2))).bind fun q23 =>
(guardV v22 false (some ([v11], q23.2)) (some ([undef], q23.2))).bind fun q24 =>
(guardV v22 false ((abin Tryz.prog .neq 38 (.tmp 45) (.tmp 46) (getL q23.1 0) (getL q24.1 0)).bind fun v25 =>
some ([v25], q24.2)) (some ([undef], q24.2))).bind fun q26 =>
(apick v22 (.bool true) (getL q26.1 0)).bind fun v27 =>
(guardV v27 false (some ([v14], q26.2)) (some ([undef], q26.2))).bind fun q28 =>
(guardV v27 false ((abytesToStr (getL q28.1 0) (frzS q28.2)).bind fun v82 =>
some (v82, (frzS q28.2))) (some (undef, (frzS q28.2)))).bind fun r29 =>
(guardV v27 false (some ([v18], q28.2)) (some ([undef], q28.2))).bind fun q30 =>
(guardV v27 false ((abytesToStr (getL q30.1 0) (frzS q30.2)).bind fun v81 =>
some (v81, (frzS q30.2))) (some (undef, (frzS q30.2)))).bind fun r31 =>
(guardV v27 false ((abin Tryz.prog .neq 9 (.tmp 51) (.tmp 53) r29.1 r31.1).bind fun v32 =>
some ([v32], q30.2)) (some ([undef], q30.2))).bind fun q33 =>
(apick v27 (.bool true) (getL q33.1 0)).bind fun v34 =>
(guardV v34 false (some ([v15], q33.2)) (some ([undef], q33.2))).bind fun q35 =>
(guardV v34 false (some ([v19], q35.2)) (some ([undef], q35.2))).bind fun q36 =>
(guardV v34 false ((abin Tryz.prog .neq 38 (.tmp 57) (.tmp 58) (getL q35.1 0) (getL q36.1 0)).bind fun v37 =>
some ([v37], q36.2)) (some ([undef], q36.2))).bind fun q38 =>
(apick v34 (.bool true) (getL q38.1 0)).bind fun v39 =>
(guardV v39 false ((lload true 17 (getL T 0) (getL T 4)).bind fun v40 =>
some ([v40], q38.2)) (some ([undef], q38.2))).bind fun q41 =>
((guardV v39 false ((callV Tryz.prog R (.func (.func 11) #[] #[]) [(getL q41.1 0)] q41.2).bind fun r80 =>
some (r80.1, r80.2)) (some (undef, q41.2))).bind (ownR q41.2)).bind fun r42 =>
(guardV v39 false ((lload true 17 (getL T 0) (getL T 4)).bind fun v43 =>
some ([v43], r42.2)) (some ([undef], r42.2))).bind fun q44 =>
((guardV v39 false ((callV Tryz.prog R (.func (.func 12) #[] #[]) [(getL q44.1 0)] q44.2).bind fun r79 =>
some (r79.1, r79.2)) (some (undef, q44.2))).bind (ownR q44.2)).bind fun r45 =>
(guardV v39 false ((abin Tryz.prog .neq 38 (.tmp 63) (.tmp 65) r42.1 r45.1).bind fun v46 =>
some ([v46], r45.2)) (some ([undef], r45.2))).bind fun q47 =>
(apick v39 (.bool true) (getL q47.1 0)).bind fun v48 =>
(guardV v48 false ((lload true 7 (getL T 1) (getL T 5)).bind fun v49 =>
some ([v49], q47.2)) (some ([undef], q47.2))).bind fun q50 =>
((guardV v48 false ((callV Tryz.prog R (.func (.func 13) #[] #[]) [(getL q50.1 0)] q50.2).bind fun r78 =>
some (r78.1, r78.2)) (some (undef, q50.2))).bind (ownR q50.2)).bind fun r51 =>
(guardV v48 false ((lload true 7 (getL T 1) (getL T 5)).bind fun v52 =>
some ([v52], r51.2)) (some ([undef], r51.2))).bind fun q53 =>
((guardV v48 false ((callV Tryz.prog R (.func (.func 14) #[] #[]) [(getL q53.1 0)] q53.2).bind fun r77 =>
some (r77.1, r77.2)) (some (undef, q53.2))).bind (ownR q53.2)).bind fun r54 =>
(guardV v48 false ((abin Tryz.prog .neq 38 (.tmp 70) (.tmp 72) r51.1 r54.1).bind fun v55 =>
some ([v55], r54.2)) (some ([undef], r54.2))).bind fun q56 =>
(apick v48 (.bool true) (getL q56.1 0)).bind fun v57 =>
condV v57
 (some (.ret, [(.bool false)], q56.2))
 ((alenV (.slice 5) v6 q56.2).bind fun v58 =>
(loopL (law19_RecordWrites.b1 R) [(getL T 0), (getL T 1), (getL T 2), v6, v14, (getL T 3), v58, (.int .i64 0), (getL T 4), (getL T 5)] q56.2).bind fun r66 =>
exV r66.1 [(2, (alenV (.slice 5) (getL r66.2.1 3) r66.2.2).bind fun v67 =>
(loopL (law19_RecordWrites.b2 R) [(getL r66.2.1 0), (getL r66.2.1 1), (getL r66.2.1 2), (getL r66.2.1 3), (getL r66.2.1 4), v67, (.int .i64 0), (getL r66.2.1 5), (getL r66.2.1 6)] r66.2.2).bind fun r75 =>
exV r75.1 [(4, (abin Tryz.prog .add 3 (.tmp 17) (.const (.int .i64 1)) (getL r75.2.1 3) (.int .i64 1)).bind fun v76 =>
some (.normal, [(getL r75.2.1 0), (getL r75.2.1 1), (getL r75.2.1 2), v76, (getL r75.2.1 4), (getL r75.2.1 5)], r75.2.2))]
 (none))]
 (none)))
 (some (.exit 0, [(getL T 2)], s))

noncomputable def law19_RecordWrites (R : Caller) (x0 x1 : Value) (s : St) : Option (Value × St) :=
(lbox x0).bind fun v0 =>
(lbox x1).bind fun v1 =>
(callV Tryz.prog R (.func (.func 6) #[] #[]) [] s).bind fun r2 =>
(loopL (law19_RecordWrites.b0 R) [lptr, lptr, r2.1, (.int .i64 0), v0, v1] r2.2).bind fun r85 =>
exV r85.1 [(0, retV [(getL r85.2.1 0)] r85.2.2)]
 (retV [(getL r85.2.1 0)] r85.2.2)

theorem law19_RecordWrites_of {lib : Lib} (hl : lib 3 = none) {x0 x1 : Value} {s : St} {r : Value × St} (h : law19_RecordWrites (run Tryz.prog lib hints) x0 x1 s = some r) : run Tryz.prog lib hints 3 [x0, x1] s = some r :=
  run_of hl Tryz.func3 (Eq.trans (by kernel_rfl) h)

theorem law19_RecordWrites_ok : funcOk Tryz.prog 3 = true := by kernel_rfl
/-! ### sumpter/sumpterlaw19.live: 6 -/

theorem law19_live_ok : funcOk Tryz.prog 6 = true := by kernel_rfl
theorem law19_live_call {R : Caller} {xs : List Value} {s : St} : callV Tryz.prog R (.func (.func 6) #[] #[]) xs s = R 6 xs s := callV_eq law19_live_ok

/-! ### sumpter/record.EncodeShard: 7 -/

noncomputable def record_EncodeShard (R : Caller) (x0 : Value) (s : St) : Option (Value × St) :=
(lbox x0).bind fun v0 =>
(lload true 17 lptr v0).bind fun v1 =>
(callV Tryz.prog R (.func (.func 11) #[] #[]) [v1] s).bind fun r2 =>
(abin Tryz.prog .neq 38 (.tmp 8) (.const (.int .i64 0)) r2.1 (.int .i64 0)).bind fun v3 =>
condV v3
 (retV [(.slice none 0 0), r2.1] r2.2)
 ((abuildSl 1 [(.int .u8 0)] 1 [(0, (.int .u8 83))] r2.2).bind fun r4 =>
(abuild Tryz.prog 57 [(0, r4.1)]).bind fun v5 =>
(anew (cellsV v5) r4.2).bind fun r6 =>
(lload false 1 lptr v0).bind fun v7 =>
(convInt .u64 v7).bind fun v8 =>
(lload false 1 (.pointer (some ⟨0, 1, none⟩)) v0).bind fun v9 =>
(lload false 1 (.pointer (some ⟨0, 2, none⟩)) v0).bind fun v10 =>
(lload false 1 (.pointer (some ⟨0, 3, none⟩)) v0).bind fun v11 =>
(lload false 1 (.pointer (some ⟨0, 4, none⟩)) v0).bind fun v12 =>
(abuildSl 1 [(.int .u64 0)] 5 [(0, v8), (1, v9), (2, v10), (3, v11), (4, v12)] r6.2).bind fun r13 =>
(callV Tryz.prog R (.func (.func 19) #[] #[]) [r6.1, r13.1] r13.2).bind fun r14 =>
(lload false 1 (.pointer (some ⟨0, 5, none⟩)) v0).bind fun v15 =>
(amkFunc 21 [r6.1] []).bind fun v16 =>
(callV Tryz.prog R (.func (.func 20) #[] #[]) [r6.1, v15, v16] r14.2).bind fun r17 =>
(lload false 1 (.pointer (some ⟨0, 6, none⟩)) v0).bind fun v18 =>
(amkFunc 23 [r6.1] []).bind fun v19 =>
(callV Tryz.prog R (.func (.func 22) #[] #[]) [r6.1, v18, v19] r17.2).bind fun r20 =>
(lload false 1 (.pointer (some ⟨0, 7, none⟩)) v0).bind fun v21 =>
(amkFunc 25 [r6.1] []).bind fun v22 =>
(callV Tryz.prog R (.func (.func 24) #[] #[]) [r6.1, v21, v22] r20.2).bind fun r23 =>
(lload false 1 (.pointer (some ⟨0, 8, none⟩)) v0).bind fun v24 =>
(lload false 1 (.pointer (some ⟨0, 9, none⟩)) v0).bind fun v25 =>
(abuildSl 1 [(.int .u64 0)] 2 [(0, v24), (1, v25)] r23.2).bind fun r26 =>
(callV Tryz.prog R (.func (.func 19) #[] #[]) [r6.1, r26.1] r26.2).bind fun r27 =>
(lload true 2 (.pointer (some ⟨0, 10, none⟩)) v0).bind fun v28 =>
(callV Tryz.prog R (.func (.func 26) #[] #[]) [r6.1, v28] r27.2).bind fun r29 =>
(lload false 1 (.pointer (some ⟨0, 12, none⟩)) v0).bind fun v30 =>
(lload false 1 (.pointer (some ⟨0, 13, none⟩)) v0).bind fun v31 =>
(lload false 1 (.pointer (some ⟨0, 14, none⟩)) v0).bind fun v32 =>
(abuildSl 1 [(.int .u64 0)] 3 [(0, v30), (1, v31), (2, v32)] r29.2).bind fun r33 =>
(callV Tryz.prog R (.func (.func 19) #[] #[]) [r6.1, r33.1] r33.2).bind fun r34 =>
(lload true 2 (.pointer (some ⟨0, 15, none⟩)) v0).bind fun v35 =>
(callV Tryz.prog R (.func (.func 26) #[] #[]) [r6.1, v35] r34.2).bind fun r36 =>
(anilCheck r6.1).bind fun v37 =>
(afieldAddr 0 v37).bind fun v38 =>
(aload false 1 v38 r36.2).bind fun v39 =>
retV [v39, (.int .i64 0)] r36.2)

theorem record_EncodeShard_of {lib : Lib} (hl : lib 7 = none) {x0 : Value} {s : St} {r : Value × St} (h : record_EncodeShard (run Tryz.prog lib hints) x0 s = some r) : run Tryz.prog lib hints 7 [x0] s = some r :=
  run_of hl Tryz.func7 (Eq.trans (by kernel_rfl) h)

theorem record_EncodeShard_ok : funcOk Tryz.prog 7 = true := by kernel_rfl
theorem record_EncodeShard_call {R : Caller} {xs : List Value} {s : St} : callV Tryz.prog R (.func (.func 7) #[] #[]) xs s = R 7 xs s := callV_eq record_EncodeShard_ok

/-! ### sumpter/sumpterref19.EncodeShard: 8 -/

noncomputable def ref19_EncodeShard.b1 (R : Caller) (T : List Value) (s : St) : Res :=
(abin Tryz.prog .lss 3 (.tmp 58) (.tmp 57) (getL T 7) (getL T 6)).bind fun v42 =>
condV v42
 ((aindexS 6 (getL T 5) (getL T 7)).bind fun v43 =>
(aload true 6 v43 s).bind fun v44 =>
(lstore 6 lptr v44 (.agg #[(.int .i64 0), (.string ⟨#[]⟩), (.string ⟨#[]⟩), (.string ⟨#[]⟩), (.string ⟨#[]⟩), (.int .i64 0)])).bind fun v45 =>
(lload false 1 lptr v45).bind fun v46 =>
(convInt .u64 v46).bind fun v47 =>
(abuildSl 1 [(.int .u64 0)] 1 [(0, v47)] s).bind fun r48 =>
(callV Tryz.prog R (.func (.func 27) #[] #[]) [(getL T 1), r48.1] r48.2).bind fun r49 =>
(lload false 1 (.pointer (some ⟨0, 1, none⟩)) v45).bind fun v50 =>
(((callV Tryz.prog R (.func (.func 29) #[] #[]) [r49.1, v50] r49.2).bind fun r66 =>
some (r66.1, r66.2)).bind (ownR r49.2)).bind fun r51 =>
(lload false 1 (.pointer (some ⟨0, 2, none⟩)) v45).bind fun v52 =>
(((callV Tryz.prog R (.func (.func 29) #[] #[]) [r51.1, v52] r51.2).bind fun r65 =>
some (r65.1, r65.2)).bind (ownR r51.2)).bind fun r53 =>
(lload false 1 (.pointer (some ⟨0, 3, none⟩)) v45).bind fun v54 =>
(((callV Tryz.prog R (.func (.func 29) #[] #[]) [r53.1, v54] r53.2).bind fun r64 =>
some (r64.1, r64.2)).bind (ownR r53.2)).bind fun r55 =>
(lload false 1 (.pointer (some ⟨0, 4, none⟩)) v45).bind fun v56 =>
(((callV Tryz.prog R (.func (.func 29) #[] #[]) [r55.1, v56] r55.2).bind fun r63 =>
some (r63.1, r63.2)).bind (ownR r55.2)).bind fun r57 =>
(lload false 1 (.pointer (some ⟨0, 5, none⟩)) v45).bind fun v58 =>
(convInt .u64 v58).bind fun v59 =>
(abuildSl 1 [(.int .u64 0)] 1 [(0, v59)] r57.2).bind fun r60 =>
(callV Tryz.prog R (.func (.func 27) #[] #[]) [r57.1, r60.1] r60.2).bind fun r61 =>
(abin Tryz.prog .add 3 (.tmp 58) (.const (.int .i64 1)) (getL T 7) (.int .i64 1)).bind fun v62 =>
some (.normal, [(getL T 0), r61.1, (getL T 2), (getL T 3), (getL T 4), (getL T 5), (getL T 6), v62, (getL T 8)], r61.2))
 (some (.exit 2, [(getL T 0), (getL T 1), (getL T 2), (getL T 3), (getL T 4), (getL T 8)], s))

noncomputable def ref19_EncodeShard.b0 (R : Caller) (T : List Value) (s : St) : Res :=
(abin Tryz.prog .lss 3 (.tmp 42) (.tmp 41) (getL T 4) (getL T 3)).bind fun v30 =>
condV v30
 ((aindexS 2 (getL T 2) (getL T 4)).bind fun v31 =>
(aload true 2 v31 s).bind fun v32 =>
(lstore 2 lptr v32 (.agg #[(.int .u64 0), (.slice none 0 0)])).bind fun v33 =>
(lload false 1 lptr v33).bind fun v34 =>
(lload false 1 (.pointer (some ⟨0, 1, none⟩)) v33).bind fun v35 =>
(alenV (.slice 72) v35 s).bind fun v36 =>
(convInt .u64 v36).bind fun v37 =>
(abuildSl 1 [(.int .u64 0)] 2 [(0, v34), (1, v37)] s).bind fun r38 =>
(callV Tryz.prog R (.func (.func 27) #[] #[]) [(getL T 1), r38.1] r38.2).bind fun r39 =>
(lload false 1 (.pointer (some ⟨0, 1, none⟩)) v33).bind fun v40 =>
(alenV (.slice 72) v40 r39.2).bind fun v41 =>
(loopL (ref19_EncodeShard.b1 R) [(getL T 0), r39.1, (getL T 2), (getL T 3), (getL T 4), v40, v41, (.int .i64 0), (getL T 5)] r39.2).bind fun r67 =>
exV r67.1 [(2, (abin Tryz.prog .add 3 (.tmp 42) (.const (.int .i64 1)) (getL r67.2.1 4) (.int .i64 1)).bind fun v68 =>
some (.normal, [(getL r67.2.1 0), (getL r67.2.1 1), (getL r67.2.1 2), (getL r67.2.1 3), v68, (getL r67.2.1 5)], r67.2.2))]
 (none))
 (some (.exit 0, [(getL T 0), (getL T 1), (getL T 5)], s))

noncomputable def ref19_EncodeShard (R : Caller) (x0 : Value) (s : St) : Option (Value × St) :=
(lbox x0).bind fun v0 =>
(lload true 17 lptr v0).bind fun v1 =>
(callV Tryz.prog R (.func (.func 12) #[] #[]) [v1] s).bind fun r2 =>
(abin Tryz.prog .neq 38 (.tmp 12) (.const (.int .i64 0)) r2.1 (.int .i64 0)).bind fun v3 =>
condV v3
 (retV [(.slice none 0 0), r2.1] r2.2)
 ((abuildSl 1 [(.int .u8 0)] 1 [(0, (.int .u8 83))] r2.2).bind fun r4 =>
(lload false 1 lptr v0).bind fun v5 =>
(convInt .u64 v5).bind fun v6 =>
(lload false 1 (.pointer (some ⟨0, 1, none⟩)) v0).bind fun v7 =>
(lload false 1 (.pointer (some ⟨0, 2, none⟩)) v0).bind fun v8 =>
(lload false 1 (.pointer (some ⟨0, 3, none⟩)) v0).bind fun v9 =>
(lload false 1 (.pointer (some ⟨0, 4, none⟩)) v0).bind fun v10 =>
(abuildSl 1 [(.int .u64 0)] 5 [(0, v6), (1, v7), (2, v8), (3, v9), (4, v10)] r4.2).bind fun r11 =>
(callV Tryz.prog R (.func (.func 27) #[] #[]) [r4.1, r11.1] r11.2).bind fun r12 =>
((lload false 1 (.pointer (some ⟨0, 5, none⟩)) v0).bind fun v13 =>
(callV Tryz.prog R (.func (.func 28) #[] #[]) [r12.1, v13] r12.2).bind fun r14 =>
(lload false 1 (.pointer (some ⟨0, 6, none⟩)) v0).bind fun v15 =>
(alenV (.slice 64) v15 r14.2).bind fun v16 =>
(convInt .u64 v16).bind fun v17 =>
(abuildSl 1 [(.int .u64 0)] 1 [(0, v17)] r14.2).bind fun r18 =>
(callV Tryz.prog R (.func (.func 27) #[] #[]) [r14.1, r18.1] r18.2).bind fun r19 =>
some [r12.1, v13]).bind fun q20 =>
(lload false 1 (.pointer (some ⟨0, 5, none⟩)) v0).bind fun v21 =>
(((callV Tryz.prog R (.func (.func 28) #[] #[]) [r12.1, v21] (⟨onlyL (blksV [(getL q20 0), (getL q20 1)]) 0 (r12.2).heap⟩ : St)).bind fun r121 =>
some (r121.1, r121.2)).bind (appR (blksV [(getL q20 0), (getL q20 1)]) [] r12.2)).bind fun r22 =>
(lload false 1 (.pointer (some ⟨0, 6, none⟩)) v0).bind fun v23 =>
(((alenV (.slice 64) v23 (⟨frzK ((blksV [(getL q20 0), (getL q20 1)]) ++ []) 0 (r22.2).heap⟩ : St)).bind fun v120 =>
some (v120, (⟨frzK ((blksV [(getL q20 0), (getL q20 1)]) ++ []) 0 (r22.2).heap⟩ : St))).bind (apartR ((blksV [(getL q20 0), (getL q20 1)]) ++ []) r22.2)).bind fun r24 =>
(convInt .u64 r24.1).bind fun v25 =>
(((abuildSl 1 [(.int .u64 0)] 1 [(0, v25)] (⟨frzK ((blksV [(getL q20 0), (getL q20 1)]) ++ []) 0 (r24.2).heap⟩ : St)).bind fun r119 =>
some (r119.1, r119.2)).bind (apartR ((blksV [(getL q20 0), (getL q20 1)]) ++ []) r24.2)).bind fun r26 =>
(((callV Tryz.prog R (.func (.func 27) #[] #[]) [r22.1, r26.1] r26.2).bind fun r118 =>
some (r118.1, r118.2)).bind (ownR r26.2)).bind fun r27 =>
(lload false 1 (.pointer (some ⟨0, 6, none⟩)) v0).bind fun v28 =>
(alenV (.slice 64) v28 r27.2).bind fun v29 =>
(loopL (ref19_EncodeShard.b0 R) [lptr, r27.1, v28, v29, (.int .i64 0), v0] r27.2).bind fun r69 =>
exV r69.1 [(0, (afieldAddr 7 (getL r69.2.1 0)).bind fun v70 =>
(lload false 1 v70 (getL r69.2.1 2)).bind fun v71 =>
(alenV (.slice 22) v71 r69.2.2).bind fun v72 =>
(convInt .u64 v72).bind fun v73 =>
(abuildSl 1 [(.int .u64 0)] 1 [(0, v73)] r69.2.2).bind fun r74 =>
(callV Tryz.prog R (.func (.func 27) #[] #[]) [(getL r69.2.1 1), r74.1] r74.2).bind fun r75 =>
(afieldAddr 7 (getL r69.2.1 0)).bind fun v76 =>
(lload false 1 v76 (getL r69.2.1 2)).bind fun v77 =>
(callV Tryz.prog R (.func (.func 27) #[] #[]) [r75.1, v77] r75.2).bind fun r78 =>
(afieldAddr 8 (getL r69.2.1 0)).bind fun v79 =>
(lload false 1 v79 (getL r69.2.1 2)).bind fun v80 =>
(afieldAddr 9 (getL r69.2.1 0)).bind fun v81 =>
(lload false 1 v81 (getL r69.2.1 2)).bind fun v82 =>
(abuildSl 1 [(.int .u64 0)] 2 [(0, v80), (1, v82)] r78.2).bind fun r83 =>
(callV Tryz.prog R (.func (.func 27) #[] #[]) [r78.1, r83.1] r83.2).bind fun r84 =>
(afieldAddr 10 (getL r69.2.1 0)).bind fun v85 =>
(afieldAddr 0 v85).bind fun v86 =>
(lload false 1 v86 (getL r69.2.1 2)).bind fun v87 =>
(((callV Tryz.prog R (.func (.func 29) #[] #[]) [r84.1, v87] r84.2).bind fun r117 =>
some (r117.1, r117.2)).bind (ownR r84.2)).bind fun r88 =>
(afieldAddr 10 (getL r69.2.1 0)).bind fun v89 =>
(afieldAddr 1 v89).bind fun v90 =>
(lload false 1 v90 (getL r69.2.1 2)).bind fun v91 =>
(((callV Tryz.prog R (.func (.func 29) #[] #[]) [r88.1, v91] r88.2).bind fun r116 =>
some (r116.1, r116.2)).bind (ownR r88.2)).bind fun r92 =>
(afieldAddr 12 (getL r69.2.1 0)).bind fun v93 =>
(afieldAddr 0 v93).bind fun v94 =>
(lload false 1 v94 (getL r69.2.1 2)).bind fun v95 =>
(afieldAddr 12 (getL r69.2.1 0)).bind fun v96 =>
(afieldAddr 1 v96).bind fun v97 =>
(lload false 1 v97 (getL r69.2.1 2)).bind fun v98 =>
(afieldAddr 12 (getL r69.2.1 0)).bind fun v99 =>
(afieldAddr 2 v99).bind fun v100 =>
(lload false 1 v100 (getL r69.2.1 2)).bind fun v101 =>
(abuildSl 1 [(.int .u64 0)] 3 [(0, v95), (1, v98), (2, v101)] r92.2).bind fun r102 =>
(callV Tryz.prog R (.func (.func 27) #[] #[]) [r92.1, r102.1] r102.2).bind fun r103 =>
(afieldAddr 12 (getL r69.2.1 0)).bind fun v104 =>
(afieldAddr 3 v104).bind fun v105 =>
(afieldAddr 0 v105).bind fun v106 =>
(lload false 1 v106 (getL r69.2.1 2)).bind fun v107 =>
(((callV Tryz.prog R (.func (.func 29) #[] #[]) [r103.1, v107] r103.2).bind fun r115 =>
some (r115.1, r115.2)).bind (ownR r103.2)).bind fun r108 =>
(afieldAddr 12 (getL r69.2.1 0)).bind fun v109 =>
(afieldAddr 3 v109).bind fun v110 =>
(afieldAddr 1 v110).bind fun v111 =>
(lload false 1 v111 (getL r69.2.1 2)).bind fun v112 =>
(((callV Tryz.prog R (.func (.func 29) #[] #[]) [r108.1, v112] r108.2).bind fun r114 =>
some (r114.1, r114.2)).bind (ownR r108.2)).bind fun r113 =>
retV [r113.1, (.int .i64 0)] r113.2)]
 (none))

theorem ref19_EncodeShard_of {lib : Lib} (hl : lib 8 = none) {x0 : Value} {s : St} {r : Value × St} (h : ref19_EncodeShard (run Tryz.prog lib hints) x0 s = some r) : run Tryz.prog lib hints 8 [x0] s = some r :=
  run_of hl Tryz.func8 (Eq.trans (by kernel_rfl) h)

theorem ref19_EncodeShard_ok : funcOk Tryz.prog 8 = true := by kernel_rfl
theorem ref19_EncodeShard_call {R : Caller} {xs : List Value} {s : St} : callV Tryz.prog R (.func (.func 8) #[] #[]) xs s = R 8 xs s := callV_eq ref19_EncodeShard_ok

/-! ### sumpter/record.EncodeCoord: 9 -/

noncomputable def record_EncodeCoord (R : Caller) (x0 : Value) (s : St) : Option (Value × St) :=
(lbox x0).bind fun v0 =>
(lload true 7 lptr v0).bind fun v1 =>
(callV Tryz.prog R (.func (.func 13) #[] #[]) [v1] s).bind fun r2 =>
(abin Tryz.prog .neq 38 (.tmp 8) (.const (.int .i64 0)) r2.1 (.int .i64 0)).bind fun v3 =>
condV v3
 (retV [(.slice none 0 0), r2.1] r2.2)
 ((abuildSl 1 [(.int .u8 0)] 1 [(0, (.int .u8 67))] r2.2).bind fun r4 =>
(abuild Tryz.prog 57 [(0, r4.1)]).bind fun v5 =>
(anew (cellsV v5) r4.2).bind fun r6 =>
(lload false 1 lptr v0).bind fun v7 =>
(convInt .u64 v7).bind fun v8 =>
(lload false 1 (.pointer (some ⟨0, 1, none⟩)) v0).bind fun v9 =>
(lload false 1 (.pointer (some ⟨0, 2, none⟩)) v0).bind fun v10 =>
(lload false 1 (.pointer (some ⟨0, 3, none⟩)) v0).bind fun v11 =>
(abuildSl 1 [(.int .u64 0)] 4 [(0, v8), (1, v9), (2, v10), (3, v11)] r6.2).bind fun r12 =>
(callV Tryz.prog R (.func (.func 19) #[] #[]) [r6.1, r12.1] r12.2).bind fun r13 =>
(lload false 1 (.pointer (some ⟨0, 4, none⟩)) v0).bind fun v14 =>
(amkFunc 21 [r6.1] []).bind fun v15 =>
(callV Tryz.prog R (.func (.func 20) #[] #[]) [r6.1, v14, v15] r13.2).bind fun r16 =>
(lload false 1 (.pointer (some ⟨0, 5, none⟩)) v0).bind fun v17 =>
(amkFunc 31 [r6.1] []).bind fun v18 =>
(callV Tryz.prog R (.func (.func 30) #[] #[]) [r6.1, v17, v18] r16.2).bind fun r19 =>
(lload false 1 (.pointer (some ⟨0, 6, none⟩)) v0).bind fun v20 =>
(amkFunc 33 [r6.1] []).bind fun v21 =>
(callV Tryz.prog R (.func (.func 32) #[] #[]) [r6.1, v20, v21] r19.2).bind fun r22 =>
(anilCheck r6.1).bind fun v23 =>
(afieldAddr 0 v23).bind fun v24 =>
(aload false 1 v24 r22.2).bind fun v25 =>
retV [v25, (.int .i64 0)] r22.2)

theorem record_EncodeCoord_of {lib : Lib} (hl : lib 9 = none) {x0 : Value} {s : St} {r : Value × St} (h : record_EncodeCoord (run Tryz.prog lib hints) x0 s = some r) : run Tryz.prog lib hints 9 [x0] s = some r :=
  run_of hl Tryz.func9 (Eq.trans (by kernel_rfl) h)

theorem record_EncodeCoord_ok : funcOk Tryz.prog 9 = true := by kernel_rfl
theorem record_EncodeCoord_call {R : Caller} {xs : List Value} {s : St} : callV Tryz.prog R (.func (.func 9) #[] #[]) xs s = R 9 xs s := callV_eq record_EncodeCoord_ok

/-! ### sumpter/sumpterref19.EncodeCoord: 10 -/

noncomputable def ref19_EncodeCoord.b1 (R : Caller) (T : List Value) (s : St) : Res :=
(abin Tryz.prog .lss 3 (.tmp 65) (.tmp 64) (getL T 7) (getL T 6)).bind fun v45 =>
condV v45
 ((aindexS 1 (getL T 5) (getL T 7)).bind fun v46 =>
(aload false 1 v46 s).bind fun v47 =>
(convInt .u64 v47).bind fun v48 =>
(abuildSl 1 [(.int .u64 0)] 1 [(0, v48)] s).bind fun r49 =>
(callV Tryz.prog R (.func (.func 27) #[] #[]) [(getL T 1), r49.1] r49.2).bind fun r50 =>
(abin Tryz.prog .add 3 (.tmp 65) (.const (.int .i64 1)) (getL T 7) (.int .i64 1)).bind fun v51 =>
some (.normal, [(getL T 0), r50.1, (getL T 2), (getL T 3), (getL T 4), (getL T 5), (getL T 6), v51, (getL T 8)], r50.2))
 (some (.exit 2, [(getL T 0), (getL T 1), (getL T 2), (getL T 3), (getL T 4), (getL T 8)], s))

noncomputable def ref19_EncodeCoord.b0 (R : Caller) (T : List Value) (s : St) : Res :=
(abin Tryz.prog .lss 3 (.tmp 42) (.tmp 41) (getL T 4) (getL T 3)).bind fun v29 =>
condV v29
 ((aindexS 5 (getL T 2) (getL T 4)).bind fun v30 =>
(aload true 5 v30 s).bind fun v31 =>
(lstore 5 lptr v31 (.agg #[(.int .u64 0), (.int .i64 0), (.int .u64 0), (.int .u64 0), (.slice none 0 0)])).bind fun v32 =>
(lload false 1 lptr v32).bind fun v33 =>
(lload false 1 (.pointer (some ⟨0, 1, none⟩)) v32).bind fun v34 =>
(convInt .u64 v34).bind fun v35 =>
(lload false 1 (.pointer (some ⟨0, 2, none⟩)) v32).bind fun v36 =>
(lload false 1 (.pointer (some ⟨0, 3, none⟩)) v32).bind fun v37 =>
(lload false 1 (.pointer (some ⟨0, 4, none⟩)) v32).bind fun v38 =>
(alenV (.slice 3) v38 s).bind fun v39 =>
(convInt .u64 v39).bind fun v40 =>
(abuildSl 1 [(.int .u64 0)] 5 [(0, v33), (1, v35), (2, v36), (3, v37), (4, v40)] s).bind fun r41 =>
(callV Tryz.prog R (.func (.func 27) #[] #[]) [(getL T 1), r41.1] r41.2).bind fun r42 =>
(lload false 1 (.pointer (some ⟨0, 4, none⟩)) v32).bind fun v43 =>
(alenV (.slice 3) v43 r42.2).bind fun v44 =>
(loopL (ref19_EncodeCoord.b1 R) [(getL T 0), r42.1, (getL T 2), (getL T 3), (getL T 4), v43, v44, (.int .i64 0), (getL T 5)] r42.2).bind fun r52 =>
exV r52.1 [(2, (abin Tryz.prog .add 3 (.tmp 42) (.const (.int .i64 1)) (getL r52.2.1 4) (.int .i64 1)).bind fun v53 =>
some (.normal, [(getL r52.2.1 0), (getL r52.2.1 1), (getL r52.2.1 2), (getL r52.2.1 3), v53, (getL r52.2.1 5)], r52.2.2))]
 (none))
 (some (.exit 0, [(getL T 0), (getL T 1), (getL T 5)], s))

noncomputable def ref19_EncodeCoord.b2 (R : Caller) (T : List Value) (s : St) : Res :=
(abin Tryz.prog .lss 3 (.tmp 86) (.tmp 85) (getL T 3) (getL T 2)).bind fun v64 =>
condV v64
 ((aindexS 4 (getL T 1) (getL T 3)).bind fun v65 =>
(aload true 4 v65 s).bind fun v66 =>
(lstore 4 lptr v66 (.agg #[(.int .i64 0), (.int .u64 0), (.int .u64 0), (.slice none 0 0)])).bind fun v67 =>
(lload false 1 lptr v67).bind fun v68 =>
(convInt .u64 v68).bind fun v69 =>
(lload false 1 (.pointer (some ⟨0, 1, none⟩)) v67).bind fun v70 =>
(lload false 1 (.pointer (some ⟨0, 2, none⟩)) v67).bind fun v71 =>
(((abuildSl 1 [(.int .u64 0)] 3 [(0, v69), (1, v70), (2, v71)] s).bind fun r79 =>
some (r79.1, r79.2)).bind (ownR s)).bind fun r72 =>
(((callV Tryz.prog R (.func (.func 27) #[] #[]) [(getL T 0), r72.1] r72.2).bind fun r78 =>
some (r78.1, r78.2)).bind (ownR r72.2)).bind fun r73 =>
(lload false 1 (.pointer (some ⟨0, 3, none⟩)) v67).bind fun v74 =>
(((callV Tryz.prog R (.func (.func 34) #[] #[]) [r73.1, v74] r73.2).bind fun r77 =>
some (r77.1, r77.2)).bind (ownR r73.2)).bind fun r75 =>
(abin Tryz.prog .add 3 (.tmp 86) (.const (.int .i64 1)) (getL T 3) (.int .i64 1)).bind fun v76 =>
some (.normal, [r75.1, (getL T 1), (getL T 2), v76], r75.2))
 (some (.exit 4, [(getL T 0)], s))

noncomputable def ref19_EncodeCoord (R : Caller) (x0 : Value) (s : St) : Option (Value × St) :=
(lbox x0).bind fun v0 =>
(lload true 7 lptr v0).bind fun v1 =>
(callV Tryz.prog R (.func (.func 14) #[] #[]) [v1] s).bind fun r2 =>
(abin Tryz.prog .neq 38 (.tmp 14) (.const (.int .i64 0)) r2.1 (.int .i64 0)).bind fun v3 =>
condV v3
 (retV [(.slice none 0 0), r2.1] r2.2)
 ((abuildSl 1 [(.int .u8 0)] 1 [(0, (.int .u8 67))] r2.2).bind fun r4 =>
(lload false 1 lptr v0).bind fun v5 =>
(convInt .u64 v5).bind fun v6 =>
(lload false 1 (.pointer (some ⟨0, 1, none⟩)) v0).bind fun v7 =>
(lload false 1 (.pointer (some ⟨0, 2, none⟩)) v0).bind fun v8 =>
(lload false 1 (.pointer (some ⟨0, 3, none⟩)) v0).bind fun v9 =>
(abuildSl 1 [(.int .u64 0)] 4 [(0, v6), (1, v7), (2, v8), (3, v9)] r4.2).bind fun r10 =>
(callV Tryz.prog R (.func (.func 27) #[] #[]) [r4.1, r10.1] r10.2).bind fun r11 =>
((lload false 1 (.pointer (some ⟨0, 4, none⟩)) v0).bind fun v12 =>
(callV Tryz.prog R (.func (.func 28) #[] #[]) [r11.1, v12] r11.2).bind fun r13 =>
(lload false 1 (.pointer (some ⟨0, 5, none⟩)) v0).bind fun v14 =>
(alenV (.slice 77) v14 r13.2).bind fun v15 =>
(convInt .u64 v15).bind fun v16 =>
(abuildSl 1 [(.int .u64 0)] 1 [(0, v16)] r13.2).bind fun r17 =>
(callV Tryz.prog R (.func (.func 27) #[] #[]) [r13.1, r17.1] r17.2).bind fun r18 =>
some [r11.1, v12]).bind fun q19 =>
(lload false 1 (.pointer (some ⟨0, 4, none⟩)) v0).bind fun v20 =>
(((callV Tryz.prog R (.func (.func 28) #[] #[]) [r11.1, v20] (⟨onlyL (blksV [(getL q19 0), (getL q19 1)]) 0 (r11.2).heap⟩ : St)).bind fun r84 =>
some (r84.1, r84.2)).bind (appR (blksV [(getL q19 0), (getL q19 1)]) [] r11.2)).bind fun r21 =>
(lload false 1 (.pointer (some ⟨0, 5, none⟩)) v0).bind fun v22 =>
(((alenV (.slice 77) v22 (⟨frzK ((blksV [(getL q19 0), (getL q19 1)]) ++ []) 0 (r21.2).heap⟩ : St)).bind fun v83 =>
some (v83, (⟨frzK ((blksV [(getL q19 0), (getL q19 1)]) ++ []) 0 (r21.2).heap⟩ : St))).bind (apartR ((blksV [(getL q19 0), (getL q19 1)]) ++ []) r21.2)).bind fun r23 =>
(convInt .u64 r23.1).bind fun v24 =>
(((abuildSl 1 [(.int .u64 0)] 1 [(0, v24)] (⟨frzK ((blksV [(getL q19 0), (getL q19 1)]) ++ []) 0 (r23.2).heap⟩ : St)).bind fun r82 =>
some (r82.1, r82.2)).bind (apartR ((blksV [(getL q19 0), (getL q19 1)]) ++ []) r23.2)).bind fun r25 =>
(((callV Tryz.prog R (.func (.func 27) #[] #[]) [r21.1, r25.1] r25.2).bind fun r81 =>
some (r81.1, r81.2)).bind (ownR r25.2)).bind fun r26 =>
(lload false 1 (.pointer (some ⟨0, 5, none⟩)) v0).bind fun v27 =>
(alenV (.slice 77) v27 r26.2).bind fun v28 =>
(loopL (ref19_EncodeCoord.b0 R) [lptr, r26.1, v27, v28, (.int .i64 0), v0] r26.2).bind fun r54 =>
exV r54.1 [(0, (afieldAddr 6 (getL r54.2.1 0)).bind fun v55 =>
(lload false 1 v55 (getL r54.2.1 2)).bind fun v56 =>
(alenV (.slice 82) v56 r54.2.2).bind fun v57 =>
(convInt .u64 v57).bind fun v58 =>
(abuildSl 1 [(.int .u64 0)] 1 [(0, v58)] r54.2.2).bind fun r59 =>
(callV Tryz.prog R (.func (.func 27) #[] #[]) [(getL r54.2.1 1), r59.1] r59.2).bind fun r60 =>
(afieldAddr 6 (getL r54.2.1 0)).bind fun v61 =>
(lload false 1 v61 (getL r54.2.1 2)).bind fun v62 =>
(alenV (.slice 82) v62 r60.2).bind fun v63 =>
(loopL (ref19_EncodeCoord.b2 R) [r60.1, v62, v63, (.int .i64 0)] r60.2).bind fun r80 =>
exV r80.1 [(4, retV [(getL r80.2.1 0), (.int .i64 0)] r80.2.2)]
 (none))]
 (none))

theorem ref19_EncodeCoord_of {lib : Lib} (hl : lib 10 = none) {x0 : Value} {s : St} {r : Value × St} (h : ref19_EncodeCoord (run Tryz.prog lib hints) x0 s = some r) : run Tryz.prog lib hints 10 [x0] s = some r :=
  run_of hl Tryz.func10 (Eq.trans (by kernel_rfl) h)

theorem ref19_EncodeCoord_ok : funcOk Tryz.prog 10 = true := by kernel_rfl
theorem ref19_EncodeCoord_call {R : Caller} {xs : List Value} {s : St} : callV Tryz.prog R (.func (.func 10) #[] #[]) xs s = R 10 xs s := callV_eq ref19_EncodeCoord_ok

/-! ### sumpter/record.CheckShard: 11 -/

noncomputable def record_CheckShard (R : Caller) (x0 : Value) (s : St) : Option (Value × St) :=
(anew (cellsV x0) s).bind fun r0 =>
(afieldAddr 0 r0.1).bind fun v1 =>
(aload false 1 v1 r0.2).bind fun v2 =>
(abin Tryz.prog .lss 3 (.tmp 5) (.const (.int .i64 1)) v2 (.int .i64 1)).bind fun v3 =>
(guardV v3 false ((afieldAddr 0 r0.1).bind fun v4 =>
(aload false 1 v4 r0.2).bind fun v5 =>
(abin Tryz.prog .gtr 3 (.tmp 9) (.const (.int .i64 4)) v5 (.int .i64 4)).bind fun v6 =>
some ([v6], r0.2)) (some ([undef], r0.2))).bind fun q7 =>
(apick v3 (.bool true) (getL q7.1 0)).bind fun v8 =>
(guardV v8 false ((afieldAddr 5 r0.1).bind fun v9 =>
(aload false 1 v9 q7.2).bind fun v10 =>
(callV Tryz.prog R (.func (.func 35) #[] #[]) [v10] q7.2).bind fun r11 =>
(abin Tryz.prog .neq 38 (.tmp 15) (.const (.int .i64 0)) r11.1 (.int .i64 0)).bind fun v12 =>
some ([v12], r11.2)) (some ([undef], q7.2))).bind fun q13 =>
(apick v8 (.bool true) (getL q13.1 0)).bind fun v14 =>
(guardV v14 false ((afieldAddr 6 r0.1).bind fun v15 =>
(aload false 1 v15 q13.2).bind fun v16 =>
(alenV (.slice 64) v16 q13.2).bind fun v17 =>
(abin Tryz.prog .gtr 3 (.tmp 21) (.const (.int .i64 6)) v17 (.int .i64 6)).bind fun v18 =>
some ([v18], q13.2)) (some ([undef], q13.2))).bind fun q19 =>
(apick v14 (.bool true) (getL q19.1 0)).bind fun v20 =>
(guardV v20 false ((afieldAddr 6 r0.1).bind fun v21 =>
(aload false 1 v21 q19.2).bind fun v22 =>
(alenV (.slice 64) v22 q19.2).bind fun v23 =>
(afieldAddr 7 r0.1).bind fun v24 =>
(aload false 1 v24 q19.2).bind fun v25 =>
(alenV (.slice 22) v25 q19.2).bind fun v26 =>
(abin Tryz.prog .add 3 (.tmp 27) (.tmp 30) v23 v26).bind fun v27 =>
(abin Tryz.prog .gtr 3 (.tmp 31) (.const (.int .i64 64)) v27 (.int .i64 64)).bind fun v28 =>
some ([v28], q19.2)) (some ([undef], q19.2))).bind fun q29 =>
(apick v20 (.bool true) (getL q29.1 0)).bind fun v30 =>
(guardV v30 false ((afieldAddr 12 r0.1).bind fun v31 =>
(afieldAddr 3 v31).bind fun v32 =>
(aload true 2 v32 q29.2).bind fun v33 =>
(callV Tryz.prog R (.func (.func 36) #[] #[]) [v33] q29.2).bind fun r34 =>
(abin Tryz.prog .neq 38 (.tmp 38) (.const (.int .i64 0)) r34.1 (.int .i64 0)).bind fun v35 =>
some ([v35], r34.2)) (some ([undef], q29.2))).bind fun q36 =>
(apick v30 (.bool true) (getL q36.1 0)).bind fun v37 =>
(guardV v37 false ((afieldAddr 10 r0.1).bind fun v38 =>
(aload true 2 v38 q36.2).bind fun v39 =>
(callV Tryz.prog R (.func (.func 36) #[] #[]) [v39] q36.2).bind fun r40 =>
(abin Tryz.prog .neq 38 (.tmp 44) (.const (.int .i64 0)) r40.1 (.int .i64 0)).bind fun v41 =>
some ([v41], r40.2)) (some ([undef], q36.2))).bind fun q42 =>
(apick v37 (.bool true) (getL q42.1 0)).bind fun v43 =>
condV v43
 (retV [(.int .i64 1)] q42.2)
 ((amkFunc 37 [] [r0.1]).bind fun v44 =>
(afieldAddr 12 r0.1).bind fun v45 =>
(afieldAddr 0 v45).bind fun v46 =>
(aload false 1 v46 q42.2).bind fun v47 =>
(abin Tryz.prog .neq 22 (.tmp 50) (.const (.int .u64 0)) v47 (.int .u64 0)).bind fun v48 =>
(guardV v48 false ((afieldAddr 12 r0.1).bind fun v49 =>
(aload true 5 v49 q42.2).bind fun v50 =>
(abin Tryz.prog .eql 29 (.tmp 54) (.tmp 55) v50 (.agg #[(.int .u64 0), (.int .u64 0), (.int .u64 0), (.string ⟨#[]⟩), (.string ⟨#[]⟩)])).bind fun v51 =>
some ([v51], q42.2)) (some ([undef], q42.2))).bind fun q52 =>
(apick v48 (.bool true) (getL q52.1 0)).bind fun v53 =>
(guardV v53 true ((afieldAddr 9 r0.1).bind fun v54 =>
(aload false 1 v54 q52.2).bind fun v55 =>
(abin Tryz.prog .neq 22 (.tmp 60) (.const (.int .u64 0)) v55 (.int .u64 0)).bind fun v56 =>
some ([v56], q52.2)) (some ([undef], q52.2))).bind fun q57 =>
(guardV (getL q57.1 0) false ((afieldAddr 10 r0.1).bind fun v58 =>
(aload true 2 v58 q57.2).bind fun v59 =>
(abin Tryz.prog .eql 27 (.tmp 64) (.tmp 65) v59 (.agg #[(.string ⟨#[]⟩), (.string ⟨#[]⟩)])).bind fun v60 =>
some ([v60], q57.2)) (some ([undef], q57.2))).bind fun q61 =>
(guardV v53 true ((apick (getL q57.1 0) (.bool true) (getL q61.1 0)).bind fun v62 =>
some ([v62], q61.2)) (some ([undef], q61.2))).bind fun q63 =>
(apick v53 (getL q63.1 0) (.bool false)).bind fun v64 =>
(guardV v64 true ((afieldAddr 6 r0.1).bind fun v65 =>
(aload false 1 v65 q63.2).bind fun v66 =>
(callV Tryz.prog R (.func (.func 43) #[] #[]) [v66, v44] q63.2).bind fun r67 =>
(aun .not r67.1).bind fun v68 =>
some ([v68], r67.2)) (some ([undef], q63.2))).bind fun q69 =>
(apick v64 (getL q69.1 0) (.bool false)).bind fun v70 =>
(guardV v70 true ((afieldAddr 6 r0.1).bind fun v71 =>
(aload false 1 v71 q69.2).bind fun v72 =>
(callV Tryz.prog R (.func (.func 44) #[] #[]) [v72, (.func (.func 45) #[] #[])] q69.2).bind fun r73 =>
some ([r73.1], r73.2)) (some ([undef], q69.2))).bind fun q74 =>
(apick v70 (getL q74.1 0) (.bool false)).bind fun v75 =>
(guardV v75 true ((afieldAddr 7 r0.1).bind fun v76 =>
(aload false 1 v76 q74.2).bind fun v77 =>
(callV Tryz.prog R (.func (.func 46) #[] #[]) [v77, (.func (.func 47) #[] #[])] q74.2).bind fun r78 =>
some ([r78.1], r78.2)) (some ([undef], q74.2))).bind fun q79 =>
(apick v75 (getL q79.1 0) (.bool false)).bind fun v80 =>
(callV Tryz.prog R (.func (.func 42) #[] #[]) [v80] q79.2).bind fun r81 =>
retV [r81.1] r81.2)

theorem record_CheckShard_of {lib : Lib} (hl : lib 11 = none) {x0 : Value} {s : St} {r : Value × St} (h : record_CheckShard (run Tryz.prog lib hints) x0 s = some r) : run Tryz.prog lib hints 11 [x0] s = some r :=
  run_of hl Tryz.func11 (Eq.trans (by kernel_rfl) h)

theorem record_CheckShard_ok : funcOk Tryz.prog 11 = true := by kernel_rfl
theorem record_CheckShard_call {R : Caller} {xs : List Value} {s : St} : callV Tryz.prog R (.func (.func 11) #[] #[]) xs s = R 11 xs s := callV_eq record_CheckShard_ok

/-! ### sumpter/sumpterref19.CheckShard: 12 -/

noncomputable def ref19_CheckShard.b1 (R : Caller) (T : List Value) (s : St) : Res :=
(abin Tryz.prog .lss 3 (.tmp 122) (.tmp 121) (getL T 8) (getL T 7)).bind fun v107 =>
condV v107
 ((aindexS 1 (getL T 6) (getL T 8)).bind fun v108 =>
(aload false 1 v108 s).bind fun v109 =>
(guardV (getL T 1) true ((afieldAddr 0 (getL T 2)).bind fun v110 =>
(lload false 1 v110 (getL T 10)).bind fun v111 =>
(abin Tryz.prog .neq 22 (.tmp 128) (.tmp 130) v109 v111).bind fun v112 =>
some ([v112], s)) (some ([undef], s))).bind fun q113 =>
(apick (getL T 1) (getL q113.1 0) (.bool false)).bind fun v114 =>
(abin Tryz.prog .add 3 (.tmp 122) (.const (.int .i64 1)) (getL T 8) (.int .i64 1)).bind fun v115 =>
some (.normal, [(getL T 0), v114, (getL T 2), (getL T 3), (getL T 4), (getL T 5), (getL T 6), (getL T 7), v115, (getL T 9), (getL T 10)], q113.2))
 (some (.exit 2, [(getL T 0), (getL T 1), (getL T 3), (getL T 4), (getL T 5), (getL T 9)], s))

noncomputable def ref19_CheckShard.b0 (R : Caller) (T : List Value) (s : St) : Res :=
(abin Tryz.prog .lss 3 (.tmp 79) (.tmp 78) (getL T 4) (getL T 3)).bind fun v55 =>
condV v55
 ((aindexS 2 (getL T 2) (getL T 4)).bind fun v56 =>
(aload true 2 v56 s).bind fun v57 =>
(lstore 2 lptr v57 (.agg #[(.int .u64 0), (.slice none 0 0)])).bind fun v58 =>
(guardV (getL T 1) true (some ([(getL T 4)], s)) (some ([undef], s))).bind fun q59 =>
(guardV (getL T 1) true ((abin Tryz.prog .eql 3 (.tmp 86) (.const (.int .i64 0)) (getL q59.1 0) (.int .i64 0)).bind fun v60 =>
some ([v60], q59.2)) (some ([undef], q59.2))).bind fun q61 =>
(guardV (getL T 1) true (some ([(getL q61.1 0)], q61.2)) (some ([undef], q61.2))).bind fun q62 =>
(guardV (getL q62.1 0) false ((afieldAddr 6 (getL T 0)).bind fun v63 =>
some ([v63], q62.2)) (some ([undef], q62.2))).bind fun q64 =>
(guardV (getL q62.1 0) false ((lload false 1 (getL q64.1 0) (getL T 5)).bind fun v65 =>
some ([v65], q64.2)) (some ([undef], q64.2))).bind fun q66 =>
(guardV (getL q62.1 0) false (some ([(getL T 4)], q66.2)) (some ([undef], q66.2))).bind fun q67 =>
(guardV (getL q62.1 0) false ((abin Tryz.prog .sub 3 (.tmp 91) (.const (.int .i64 1)) (getL q67.1 0) (.int .i64 1)).bind fun v68 =>
some ([v68], q67.2)) (some ([undef], q67.2))).bind fun q69 =>
(guardV (getL q62.1 0) false ((aindexS 2 (getL q66.1 0) (getL q69.1 0)).bind fun v70 =>
some ([v70], q69.2)) (some ([undef], q69.2))).bind fun q71 =>
(guardV (getL q62.1 0) false ((afieldAddr 0 (getL q71.1 0)).bind fun v72 =>
some ([v72], q71.2)) (some ([undef], q71.2))).bind fun q73 =>
((guardV (getL q62.1 0) false ((aload false 1 (getL q73.1 0) q73.2).bind fun v121 =>
some (v121, q73.2)) (some (undef, q73.2))).bind (ownR q73.2)).bind fun r74 =>
(guardV (getL q62.1 0) false (some ([lptr], r74.2)) (some ([undef], r74.2))).bind fun q75 =>
(guardV (getL q62.1 0) false ((lload false 1 (getL q75.1 0) v58).bind fun v76 =>
some ([v76], q75.2)) (some ([undef], q75.2))).bind fun q77 =>
(guardV (getL q62.1 0) false ((abin Tryz.prog .lss 22 (.tmp 95) (.tmp 97) r74.1 (getL q77.1 0)).bind fun v78 =>
some ([v78], q77.2)) (some ([undef], q77.2))).bind fun q79 =>
(guardV (getL T 1) true ((apick (getL q62.1 0) (.bool true) (getL q79.1 0)).bind fun v80 =>
some ([v80], q79.2)) (some ([undef], q79.2))).bind fun q81 =>
(apick (getL T 1) (getL q81.1 0) (.bool false)).bind fun v82 =>
(guardV v82 true (some ([(.pointer (some ⟨0, 1, none⟩))], q81.2)) (some ([undef], q81.2))).bind fun q83 =>
(guardV v82 true ((lload false 1 (getL q83.1 0) v58).bind fun v84 =>
some ([v84], q83.2)) (some ([undef], q83.2))).bind fun q85 =>
((guardV v82 true ((alenV (.slice 72) (getL q85.1 0) q85.2).bind fun v120 =>
some (v120, q85.2)) (some (undef, q85.2))).bind (ownR q85.2)).bind fun r86 =>
(guardV v82 true ((abin Tryz.prog .geq 3 (.tmp 104) (.const (.int .i64 1)) r86.1 (.int .i64 1)).bind fun v87 =>
some ([v87], r86.2)) (some ([undef], r86.2))).bind fun q88 =>
(apick v82 (getL q88.1 0) (.bool false)).bind fun v89 =>
(guardV v89 true (some ([(.pointer (some ⟨0, 1, none⟩))], q88.2)) (some ([undef], q88.2))).bind fun q90 =>
(guardV v89 true ((lload false 1 (getL q90.1 0) v58).bind fun v91 =>
some ([v91], q90.2)) (some ([undef], q90.2))).bind fun q92 =>
((guardV v89 true ((alenV (.slice 72) (getL q92.1 0) q92.2).bind fun v119 =>
some (v119, q92.2)) (some (undef, q92.2))).bind (ownR q92.2)).bind fun r93 =>
(guardV v89 true ((abin Tryz.prog .leq 3 (.tmp 110) (.const (.int .i64 24)) r93.1 (.int .i64 24)).bind fun v94 =>
some ([v94], r93.2)) (some ([undef], r93.2))).bind fun q95 =>
(apick v89 (getL q95.1 0) (.bool false)).bind fun v96 =>
(guardV v96 true (some ([(.pointer (some ⟨0, 1, none⟩))], q95.2)) (some ([undef], q95.2))).bind fun q97 =>
(guardV v96 true ((lload false 1 (getL q97.1 0) v58).bind fun v98 =>
some ([v98], q97.2)) (some ([undef], q97.2))).bind fun q99 =>
((guardV v96 true ((callV Tryz.prog R (.func (.func 50) #[] #[]) [(getL q99.1 0)] q99.2).bind fun r118 =>
some (r118.1, r118.2)) (some (undef, q99.2))).bind (ownR q99.2)).bind fun r100 =>
(guardV v96 true ((abin Tryz.prog .eql 38 (.tmp 116) (.const (.int .i64 0)) r100.1 (.int .i64 0)).bind fun v101 =>
some ([v101], r100.2)) (some ([undef], r100.2))).bind fun q102 =>
(apick v96 (getL q102.1 0) (.bool false)).bind fun v103 =>
(afieldAddr 7 (getL T 0)).bind fun v104 =>
(lload false 1 v104 (getL T 5)).bind fun v105 =>
(alenV (.slice 22) v105 q102.2).bind fun v106 =>
(loopL (ref19_CheckShard.b1 R) [(getL T 0), v103, lptr, (getL T 2), (getL T 3), (getL T 4), v105, v106, (.int .i64 0), (getL T 5), v58] q102.2).bind fun r116 =>
exV r116.1 [(2, (abin Tryz.prog .add 3 (.tmp 79) (.const (.int .i64 1)) (getL r116.2.1 4) (.int .i64 1)).bind fun v117 =>
some (.normal, [(getL r116.2.1 0), (getL r116.2.1 1), (getL r116.2.1 2), (getL r116.2.1 3), v117, (getL r116.2.1 5)], r116.2.2))]
 (none))
 (some (.exit 0, [(getL T 0), (getL T 1), (getL T 5)], s))

noncomputable def ref19_CheckShard.b2 (R : Caller) (T : List Value) (s : St) : Res :=
(abin Tryz.prog .lss 3 (.tmp 138) (.tmp 137) (getL T 4) (getL T 3)).bind fun v126 =>
condV v126
 ((aindexS 1 (getL T 2) (getL T 4)).bind fun v127 =>
(aload false 1 v127 s).bind fun v128 =>
(guardV (getL T 1) true ((abin Tryz.prog .eql 3 (.tmp 145) (.const (.int .i64 0)) (getL T 4) (.int .i64 0)).bind fun v129 =>
some ([v129], s)) (some ([undef], s))).bind fun q130 =>
(guardV (getL q130.1 0) false ((afieldAddr 7 (getL T 0)).bind fun v131 =>
(lload false 1 v131 (getL T 5)).bind fun v132 =>
(abin Tryz.prog .sub 3 (.tmp 150) (.const (.int .i64 1)) (getL T 4) (.int .i64 1)).bind fun v133 =>
(aindexS 1 v132 v133).bind fun v134 =>
(aload false 1 v134 q130.2).bind fun v135 =>
(abin Tryz.prog .lss 22 (.tmp 153) (.tmp 154) v135 v128).bind fun v136 =>
some ([v136], q130.2)) (some ([undef], q130.2))).bind fun q137 =>
(guardV (getL T 1) true ((apick (getL q130.1 0) (.bool true) (getL q137.1 0)).bind fun v138 =>
some ([v138], q137.2)) (some ([undef], q137.2))).bind fun q139 =>
(apick (getL T 1) (getL q139.1 0) (.bool false)).bind fun v140 =>
(abin Tryz.prog .add 3 (.tmp 138) (.const (.int .i64 1)) (getL T 4) (.int .i64 1)).bind fun v141 =>
some (.normal, [(getL T 0), v140, (getL T 2), (getL T 3), v141, (getL T 5)], q139.2))
 (some (.exit 4, [(getL T 1)], s))

noncomputable def ref19_CheckShard (R : Caller) (x0 : Value) (s : St) : Option (Value × St) :=
(lbox x0).bind fun v0 =>
(lload false 1 lptr v0).bind fun v1 =>
(abin Tryz.prog .geq 3 (.tmp 11) (.const (.int .i64 1)) v1 (.int .i64 1)).bind fun v2 =>
(guardV v2 true ((lload false 1 lptr v0).bind fun v3 =>
(abin Tryz.prog .leq 3 (.tmp 15) (.const (.int .i64 4)) v3 (.int .i64 4)).bind fun v4 =>
some ([v4], s)) (some ([undef], s))).bind fun q5 =>
(apick v2 (getL q5.1 0) (.bool false)).bind fun v6 =>
(guardV v6 true ((lload false 1 (.pointer (some ⟨0, 5, none⟩)) v0).bind fun v7 =>
(callV Tryz.prog R (.func (.func 48) #[] #[]) [v7] q5.2).bind fun r8 =>
(abin Tryz.prog .eql 38 (.tmp 21) (.const (.int .i64 0)) r8.1 (.int .i64 0)).bind fun v9 =>
some ([v9], r8.2)) (some ([undef], q5.2))).bind fun q10 =>
(apick v6 (getL q10.1 0) (.bool false)).bind fun v11 =>
(guardV v11 true ((lload false 1 (.pointer (some ⟨0, 6, none⟩)) v0).bind fun v12 =>
(alenV (.slice 64) v12 q10.2).bind fun v13 =>
(abin Tryz.prog .leq 3 (.tmp 27) (.const (.int .i64 6)) v13 (.int .i64 6)).bind fun v14 =>
some ([v14], q10.2)) (some ([undef], q10.2))).bind fun q15 =>
(apick v11 (getL q15.1 0) (.bool false)).bind fun v16 =>
(guardV v16 true ((lload false 1 (.pointer (some ⟨0, 6, none⟩)) v0).bind fun v17 =>
(alenV (.slice 64) v17 q15.2).bind fun v18 =>
(lload false 1 (.pointer (some ⟨0, 7, none⟩)) v0).bind fun v19 =>
(alenV (.slice 22) v19 q15.2).bind fun v20 =>
(abin Tryz.prog .add 3 (.tmp 33) (.tmp 36) v18 v20).bind fun v21 =>
(abin Tryz.prog .leq 3 (.tmp 37) (.const (.int .i64 64)) v21 (.int .i64 64)).bind fun v22 =>
some ([v22], q15.2)) (some ([undef], q15.2))).bind fun q23 =>
(apick v16 (getL q23.1 0) (.bool false)).bind fun v24 =>
(guardV v24 true ((lload true 2 (.pointer (some ⟨0, 15, none⟩)) v0).bind fun v25 =>
(callV Tryz.prog R (.func (.func 49) #[] #[]) [v25] q23.2).bind fun r26 =>
(abin Tryz.prog .eql 38 (.tmp 44) (.const (.int .i64 0)) r26.1 (.int .i64 0)).bind fun v27 =>
some ([v27], r26.2)) (some ([undef], q23.2))).bind fun q28 =>
(apick v24 (getL q28.1 0) (.bool false)).bind fun v29 =>
(guardV v29 true ((lload false 1 (.pointer (some ⟨0, 12, none⟩)) v0).bind fun v30 =>
(abin Tryz.prog .neq 22 (.tmp 50) (.const (.int .u64 0)) v30 (.int .u64 0)).bind fun v31 =>
some ([v31], q28.2)) (some ([undef], q28.2))).bind fun q32 =>
(guardV (getL q32.1 0) false ((lload true 5 (.pointer (some ⟨0, 12, none⟩)) v0).bind fun v33 =>
(abin Tryz.prog .eql 29 (.tmp 54) (.tmp 55) v33 (.agg #[(.int .u64 0), (.int .u64 0), (.int .u64 0), (.string ⟨#[]⟩), (.string ⟨#[]⟩)])).bind fun v34 =>
some ([v34], q32.2)) (some ([undef], q32.2))).bind fun q35 =>
(guardV v29 true ((apick (getL q32.1 0) (.bool true) (getL q35.1 0)).bind fun v36 =>
some ([v36], q35.2)) (some ([undef], q35.2))).bind fun q37 =>
(apick v29 (getL q37.1 0) (.bool false)).bind fun v38 =>
(guardV v38 true ((lload true 2 (.pointer (some ⟨0, 10, none⟩)) v0).bind fun v39 =>
(callV Tryz.prog R (.func (.func 49) #[] #[]) [v39] q37.2).bind fun r40 =>
(abin Tryz.prog .eql 38 (.tmp 62) (.const (.int .i64 0)) r40.1 (.int .i64 0)).bind fun v41 =>
some ([v41], r40.2)) (some ([undef], q37.2))).bind fun q42 =>
(apick v38 (getL q42.1 0) (.bool false)).bind fun v43 =>
(guardV v43 true ((lload false 1 (.pointer (some ⟨0, 9, none⟩)) v0).bind fun v44 =>
(abin Tryz.prog .neq 22 (.tmp 67) (.const (.int .u64 0)) v44 (.int .u64 0)).bind fun v45 =>
some ([v45], q42.2)) (some ([undef], q42.2))).bind fun q46 =>
(guardV (getL q46.1 0) false ((lload true 2 (.pointer (some ⟨0, 10, none⟩)) v0).bind fun v47 =>
(abin Tryz.prog .eql 27 (.tmp 71) (.tmp 72) v47 (.agg #[(.string ⟨#[]⟩), (.string ⟨#[]⟩)])).bind fun v48 =>
some ([v48], q46.2)) (some ([undef], q46.2))).bind fun q49 =>
(guardV v43 true ((apick (getL q46.1 0) (.bool true) (getL q49.1 0)).bind fun v50 =>
some ([v50], q49.2)) (some ([undef], q49.2))).bind fun q51 =>
(apick v43 (getL q51.1 0) (.bool false)).bind fun v52 =>
(lload false 1 (.pointer (some ⟨0, 6, none⟩)) v0).bind fun v53 =>
(alenV (.slice 64) v53 q51.2).bind fun v54 =>
(loopL (ref19_CheckShard.b0 R) [lptr, v52, v53, v54, (.int .i64 0), v0] q51.2).bind fun r122 =>
exV r122.1 [(0, (afieldAddr 7 (getL r122.2.1 0)).bind fun v123 =>
(lload false 1 v123 (getL r122.2.1 2)).bind fun v124 =>
(alenV (.slice 22) v124 r122.2.2).bind fun v125 =>
(loopL (ref19_CheckShard.b2 R) [(getL r122.2.1 0), (getL r122.2.1 1), v124, v125, (.int .i64 0), (getL r122.2.1 2)] r122.2.2).bind fun r142 =>
exV r142.1 [(4, (aun .not (getL r142.2.1 0)).bind fun v143 =>
condV v143
 (retV [(.int .i64 1)] r142.2.2)
 (retV [(.int .i64 0)] r142.2.2))]
 (none))]
 (none)

theorem ref19_CheckShard_of {lib : Lib} (hl : lib 12 = none) {x0 : Value} {s : St} {r : Value × St} (h : ref19_CheckShard (run Tryz.prog lib hints) x0 s = some r) : run Tryz.prog lib hints 12 [x0] s = some r :=
  run_of hl Tryz.func12 (Eq.trans (by kernel_rfl) h)

theorem ref19_CheckShard_ok : funcOk Tryz.prog 12 = true := by kernel_rfl
theorem ref19_CheckShard_call {R : Caller} {xs : List Value} {s : St} : callV Tryz.prog R (.func (.func 12) #[] #[]) xs s = R 12 xs s := callV_eq ref19_CheckShard_ok

/-! ### sumpter/record.CheckCoord: 13 -/

noncomputable def record_CheckCoord (R : Caller) (x0 : Value) (s : St) : Option (Value × St) :=
(anew (cellsV x0) s).bind fun r0 =>
(afieldAddr 0 r0.1).bind fun v1 =>
(aload false 1 v1 r0.2).bind fun v2 =>
(abin Tryz.prog .lss 3 (.tmp 8) (.const (.int .i64 1)) v2 (.int .i64 1)).bind fun v3 =>
(guardV v3 false ((afieldAddr 0 r0.1).bind fun v4 =>
(aload false 1 v4 r0.2).bind fun v5 =>
(abin Tryz.prog .gtr 3 (.tmp 12) (.const (.int .i64 4)) v5 (.int .i64 4)).bind fun v6 =>
some ([v6], r0.2)) (some ([undef], r0.2))).bind fun q7 =>
(apick v3 (.bool true) (getL q7.1 0)).bind fun v8 =>
(guardV v8 false ((afieldAddr 1 r0.1).bind fun v9 =>
(aload false 1 v9 q7.2).bind fun v10 =>
(abin Tryz.prog .geq 22 (.tmp 17) (.const (.int .u64 2147483648)) v10 (.int .u64 2147483648)).bind fun v11 =>
some ([v11], q7.2)) (some ([undef], q7.2))).bind fun q12 =>
(apick v8 (.bool true) (getL q12.1 0)).bind fun v13 =>
(guardV v13 false ((afieldAddr 4 r0.1).bind fun v14 =>
(aload false 1 v14 q12.2).bind fun v15 =>
(callV Tryz.prog R (.func (.func 35) #[] #[]) [v15] q12.2).bind fun r16 =>
(abin Tryz.prog .neq 38 (.tmp 23) (.const (.int .i64 0)) r16.1 (.int .i64 0)).bind fun v17 =>
some ([v17], r16.2)) (some ([undef], q12.2))).bind fun q18 =>
(apick v13 (.bool true) (getL q18.1 0)).bind fun v19 =>
(guardV v19 false ((afieldAddr 5 r0.1).bind fun v20 =>
(aload false 1 v20 q18.2).bind fun v21 =>
(alenV (.slice 77) v21 q18.2).bind fun v22 =>
(abin Tryz.prog .gtr 3 (.tmp 29) (.const (.int .i64 8)) v22 (.int .i64 8)).bind fun v23 =>
some ([v23], q18.2)) (some ([undef], q18.2))).bind fun q24 =>
(apick v19 (.bool true) (getL q24.1 0)).bind fun v25 =>
(guardV v25 false ((afieldAddr 6 r0.1).bind fun v26 =>
(aload false 1 v26 q24.2).bind fun v27 =>
(alenV (.slice 82) v27 q24.2).bind fun v28 =>
(abin Tryz.prog .gtr 3 (.tmp 35) (.const (.int .i64 4)) v28 (.int .i64 4)).bind fun v29 =>
some ([v29], q24.2)) (some ([undef], q24.2))).bind fun q30 =>
(apick v25 (.bool true) (getL q30.1 0)).bind fun v31 =>
condV v31
 (retV [(.int .i64 1)] q30.2)
 ((amkFunc 51 [] [r0.1]).bind fun v32 =>
(anew [.nilFunc] q30.2).bind fun r33 =>
(astore 1 r33.1 v32 r33.2).bind fun s34 =>
(afieldAddr 4 r0.1).bind fun v35 =>
(aload false 1 v35 s34).bind fun v36 =>
(amkFunc 53 [] [r33.1]).bind fun v37 =>
(callV Tryz.prog R (.func (.func 52) #[] #[]) [v36, v37] s34).bind fun r38 =>
(afieldAddr 5 r0.1).bind fun v39 =>
(aload false 1 v39 r38.2).bind fun v40 =>
(amkFunc 55 [] [r0.1, r33.1]).bind fun v41 =>
(callV Tryz.prog R (.func (.func 54) #[] #[]) [v40, v41] r38.2).bind fun r42 =>
(afieldAddr 6 r0.1).bind fun v43 =>
(aload false 1 v43 r42.2).bind fun v44 =>
(callV Tryz.prog R (.func (.func 60) #[] #[]) [v44, (.func (.func 61) #[] #[])] r42.2).bind fun r45 =>
(aun .not r38.1).bind fun v46 =>
(guardV v46 true ((aun .not r42.1).bind fun v47 =>
some ([v47], r45.2)) (some ([undef], r45.2))).bind fun q48 =>
(apick v46 (getL q48.1 0) (.bool false)).bind fun v49 =>
(guardV v49 true ((aun .not r45.1).bind fun v50 =>
some ([v50], q48.2)) (some ([undef], q48.2))).bind fun q51 =>
(apick v49 (getL q51.1 0) (.bool false)).bind fun v52 =>
(guardV v52 true ((afieldAddr 5 r0.1).bind fun v53 =>
(aload false 1 v53 q51.2).bind fun v54 =>
(callV Tryz.prog R (.func (.func 63) #[] #[]) [v54, (.func (.func 64) #[] #[])] q51.2).bind fun r55 =>
some ([r55.1], r55.2)) (some ([undef], q51.2))).bind fun q56 =>
(apick v52 (getL q56.1 0) (.bool false)).bind fun v57 =>
(guardV v57 true ((afieldAddr 6 r0.1).bind fun v58 =>
(aload false 1 v58 q56.2).bind fun v59 =>
(callV Tryz.prog R (.func (.func 65) #[] #[]) [v59, (.func (.func 66) #[] #[])] q56.2).bind fun r60 =>
some ([r60.1], r60.2)) (some ([undef], q56.2))).bind fun q61 =>
(apick v57 (getL q61.1 0) (.bool false)).bind fun v62 =>
(callV Tryz.prog R (.func (.func 42) #[] #[]) [v62] q61.2).bind fun r63 =>
retV [r63.1] r63.2)

theorem record_CheckCoord_of {lib : Lib} (hl : lib 13 = none) {x0 : Value} {s : St} {r : Value × St} (h : record_CheckCoord (run Tryz.prog lib hints) x0 s = some r) : run Tryz.prog lib hints 13 [x0] s = some r :=
  run_of hl Tryz.func13 (Eq.trans (by kernel_rfl) h)

theorem record_CheckCoord_ok : funcOk Tryz.prog 13 = true := by kernel_rfl
theorem record_CheckCoord_call {R : Caller} {xs : List Value} {s : St} : callV Tryz.prog R (.func (.func 13) #[] #[]) xs s = R 13 xs s := callV_eq record_CheckCoord_ok

/-! ### sumpter/sumpterref19.CheckCoord: 14 -/

noncomputable def ref19_CheckCoord.b0 (R : Caller) (T : List Value) (s : St) : Res :=
(abin Tryz.prog .lss 3 (.tmp 46) (.tmp 45) (getL T 4) (getL T 3)).bind fun v28 =>
condV v28
 ((aindexS 2 (getL T 2) (getL T 4)).bind fun v29 =>
(aload true 2 v29 s).bind fun v30 =>
(lstore 2 lptr v30 (.agg #[(.string ⟨#[]⟩), (.int .i64 0)])).bind fun v31 =>
(guardV (getL T 1) true ((lload false 1 (.pointer (some ⟨0, 1, none⟩)) v31).bind fun v32 =>
(afieldAddr 0 (getL T 0)).bind fun v33 =>
(lload false 1 v33 (getL T 5)).bind fun v34 =>
(abin Tryz.prog .leq 3 (.tmp 53) (.tmp 55) v32 v34).bind fun v35 =>
some ([v35], s)) (some ([undef], s))).bind fun q36 =>
(apick (getL T 1) (getL q36.1 0) (.bool false)).bind fun v37 =>
(abin Tryz.prog .add 3 (.tmp 46) (.const (.int .i64 1)) (getL T 4) (.int .i64 1)).bind fun v38 =>
some (.normal, [(getL T 0), v37, (getL T 2), (getL T 3), v38, (getL T 5)], q36.2))
 (some (.exit 0, [(getL T 0), (getL T 1), (getL T 5)], s))

noncomputable def ref19_CheckCoord.b2 (R : Caller) (T : List Value) (s : St) : Res :=
(abin Tryz.prog .lss 3 (.tmp 112) (.tmp 111) (getL T 8) (getL T 7)).bind fun v106 =>
condV v106
 ((aindexS 1 (getL T 6) (getL T 8)).bind fun v107 =>
(aload false 1 v107 s).bind fun v108 =>
(guardV (getL T 1) true ((abin Tryz.prog .geq 3 (.tmp 119) (.const (.int .i64 1)) v108 (.int .i64 1)).bind fun v109 =>
some ([v109], s)) (some ([undef], s))).bind fun q110 =>
(apick (getL T 1) (getL q110.1 0) (.bool false)).bind fun v111 =>
(guardV v111 true ((afieldAddr 0 (getL T 0)).bind fun v112 =>
(lload false 1 v112 (getL T 9)).bind fun v113 =>
(abin Tryz.prog .leq 3 (.tmp 123) (.tmp 125) v108 v113).bind fun v114 =>
some ([v114], q110.2)) (some ([undef], q110.2))).bind fun q115 =>
(apick v111 (getL q115.1 0) (.bool false)).bind fun v116 =>
(guardV v116 true ((abin Tryz.prog .eql 3 (.tmp 129) (.const (.int .i64 0)) (getL T 8) (.int .i64 0)).bind fun v117 =>
some ([v117], q115.2)) (some ([undef], q115.2))).bind fun q118 =>
(guardV (getL q118.1 0) false ((afieldAddr 4 (getL T 2)).bind fun v119 =>
(lload false 1 v119 (getL T 10)).bind fun v120 =>
(abin Tryz.prog .sub 3 (.tmp 134) (.const (.int .i64 1)) (getL T 8) (.int .i64 1)).bind fun v121 =>
(aindexS 1 v120 v121).bind fun v122 =>
(aload false 1 v122 q118.2).bind fun v123 =>
(abin Tryz.prog .lss 3 (.tmp 137) (.tmp 138) v123 v108).bind fun v124 =>
some ([v124], q118.2)) (some ([undef], q118.2))).bind fun q125 =>
(guardV v116 true ((apick (getL q118.1 0) (.bool true) (getL q125.1 0)).bind fun v126 =>
some ([v126], q125.2)) (some ([undef], q125.2))).bind fun q127 =>
(apick v116 (getL q127.1 0) (.bool false)).bind fun v128 =>
(abin Tryz.prog .add 3 (.tmp 112) (.const (.int .i64 1)) (getL T 8) (.int .i64 1)).bind fun v129 =>
some (.normal, [(getL T 0), v128, (getL T 2), (getL T 3), (getL T 4), (getL T 5), (getL T 6), (getL T 7), v129, (getL T 9), (getL T 10)], q127.2))
 (some (.exit 4, [(getL T 0), (getL T 1), (getL T 3), (getL T 4), (getL T 5), (getL T 9)], s))

noncomputable def ref19_CheckCoord.b1 (R : Caller) (T : List Value) (s : St) : Res :=
(abin Tryz.prog .lss 3 (.tmp 62) (.tmp 61) (getL T 4) (getL T 3)).bind fun v43 =>
condV v43
 ((aindexS 5 (getL T 2) (getL T 4)).bind fun v44 =>
(aload true 5 v44 s).bind fun v45 =>
(lstore 5 lptr v45 (.agg #[(.int .u64 0), (.int .i64 0), (.int .u64 0), (.int .u64 0), (.slice none 0 0)])).bind fun v46 =>
(guardV (getL T 1) true (some ([(getL T 4)], s)) (some ([undef], s))).bind fun q47 =>
(guardV (getL T 1) true ((abin Tryz.prog .eql 3 (.tmp 69) (.const (.int .i64 0)) (getL q47.1 0) (.int .i64 0)).bind fun v48 =>
some ([v48], q47.2)) (some ([undef], q47.2))).bind fun q49 =>
(guardV (getL T 1) true (some ([(getL q49.1 0)], q49.2)) (some ([undef], q49.2))).bind fun q50 =>
(guardV (getL q50.1 0) false ((afieldAddr 5 (getL T 0)).bind fun v51 =>
some ([v51], q50.2)) (some ([undef], q50.2))).bind fun q52 =>
(guardV (getL q50.1 0) false ((lload false 1 (getL q52.1 0) (getL T 5)).bind fun v53 =>
some ([v53], q52.2)) (some ([undef], q52.2))).bind fun q54 =>
(guardV (getL q50.1 0) false (some ([(getL T 4)], q54.2)) (some ([undef], q54.2))).bind fun q55 =>
(guardV (getL q50.1 0) false ((abin Tryz.prog .sub 3 (.tmp 74) (.const (.int .i64 1)) (getL q55.1 0) (.int .i64 1)).bind fun v56 =>
some ([v56], q55.2)) (some ([undef], q55.2))).bind fun q57 =>
(guardV (getL q50.1 0) false ((aindexS 5 (getL q54.1 0) (getL q57.1 0)).bind fun v58 =>
some ([v58], q57.2)) (some ([undef], q57.2))).bind fun q59 =>
(guardV (getL q50.1 0) false ((afieldAddr 0 (getL q59.1 0)).bind fun v60 =>
some ([v60], q59.2)) (some ([undef], q59.2))).bind fun q61 =>
((guardV (getL q50.1 0) false ((aload false 1 (getL q61.1 0) q61.2).bind fun v133 =>
some (v133, q61.2)) (some (undef, q61.2))).bind (ownR q61.2)).bind fun r62 =>
(guardV (getL q50.1 0) false (some ([lptr], r62.2)) (some ([undef], r62.2))).bind fun q63 =>
(guardV (getL q50.1 0) false ((lload false 1 (getL q63.1 0) v46).bind fun v64 =>
some ([v64], q63.2)) (some ([undef], q63.2))).bind fun q65 =>
(guardV (getL q50.1 0) false ((abin Tryz.prog .lss 22 (.tmp 78) (.tmp 80) r62.1 (getL q65.1 0)).bind fun v66 =>
some ([v66], q65.2)) (some ([undef], q65.2))).bind fun q67 =>
(guardV (getL T 1) true ((apick (getL q50.1 0) (.bool true) (getL q67.1 0)).bind fun v68 =>
some ([v68], q67.2)) (some ([undef], q67.2))).bind fun q69 =>
(apick (getL T 1) (getL q69.1 0) (.bool false)).bind fun v70 =>
(guardV v70 true (some ([lptr], q69.2)) (some ([undef], q69.2))).bind fun q71 =>
(guardV v70 true ((lload false 1 (getL q71.1 0) v46).bind fun v72 =>
some ([v72], q71.2)) (some ([undef], q71.2))).bind fun q73 =>
(guardV v70 true ((afieldAddr 1 (getL T 0)).bind fun v74 =>
some ([v74], q73.2)) (some ([undef], q73.2))).bind fun q75 =>
(guardV v70 true ((lload false 1 (getL q75.1 0) (getL T 5)).bind fun v76 =>
some ([v76], q75.2)) (some ([undef], q75.2))).bind fun q77 =>
(guardV v70 true ((abin Tryz.prog .add 22 (.tmp 88) (.const (.int .u64 1)) (getL q77.1 0) (.int .u64 1)).bind fun v78 =>
some ([v78], q77.2)) (some ([undef], q77.2))).bind fun q79 =>
(guardV v70 true ((abin Tryz.prog .shl 22 (.tmp 89) (.const (.int .u64 32)) (getL q79.1 0) (.int .u64 32)).bind fun v80 =>
some ([v80], q79.2)) (some ([undef], q79.2))).bind fun q81 =>
(guardV v70 true ((abin Tryz.prog .lss 22 (.tmp 86) (.tmp 90) (getL q73.1 0) (getL q81.1 0)).bind fun v82 =>
some ([v82], q81.2)) (some ([undef], q81.2))).bind fun q83 =>
(apick v70 (getL q83.1 0) (.bool false)).bind fun v84 =>
(guardV v84 true (some ([(.pointer (some ⟨0, 1, none⟩))], q83.2)) (some ([undef], q83.2))).bind fun q85 =>
(guardV v84 true ((lload false 1 (getL q85.1 0) v46).bind fun v86 =>
some ([v86], q85.2)) (some ([undef], q85.2))).bind fun q87 =>
(guardV v84 true ((abin Tryz.prog .geq 3 (.tmp 95) (.const (.int .i64 1)) (getL q87.1 0) (.int .i64 1)).bind fun v88 =>
some ([v88], q87.2)) (some ([undef], q87.2))).bind fun q89 =>
(apick v84 (getL q89.1 0) (.bool false)).bind fun v90 =>
(guardV v90 true (some ([(.pointer (some ⟨0, 1, none⟩))], q89.2)) (some ([undef], q89.2))).bind fun q91 =>
(guardV v90 true ((lload false 1 (getL q91.1 0) v46).bind fun v92 =>
some ([v92], q91.2)) (some ([undef], q91.2))).bind fun q93 =>
(guardV v90 true ((abin Tryz.prog .leq 3 (.tmp 100) (.const (.int .i64 4)) (getL q93.1 0) (.int .i64 4)).bind fun v94 =>
some ([v94], q93.2)) (some ([undef], q93.2))).bind fun q95 =>
(apick v90 (getL q95.1 0) (.bool false)).bind fun v96 =>
(guardV v96 true (some ([(.pointer (some ⟨0, 4, none⟩))], q95.2)) (some ([undef], q95.2))).bind fun q97 =>
(guardV v96 true ((lload false 1 (getL q97.1 0) v46).bind fun v98 =>
some ([v98], q97.2)) (some ([undef], q97.2))).bind fun q99 =>
((guardV v96 true ((alenV (.slice 3) (getL q99.1 0) q99.2).bind fun v132 =>
some (v132, q99.2)) (some (undef, q99.2))).bind (ownR q99.2)).bind fun r100 =>
(guardV v96 true ((abin Tryz.prog .geq 3 (.tmp 106) (.const (.int .i64 1)) r100.1 (.int .i64 1)).bind fun v101 =>
some ([v101], r100.2)) (some ([undef], r100.2))).bind fun q102 =>
(apick v96 (getL q102.1 0) (.bool false)).bind fun v103 =>
(lload false 1 (.pointer (some ⟨0, 4, none⟩)) v46).bind fun v104 =>
(alenV (.slice 3) v104 q102.2).bind fun v105 =>
(loopL (ref19_CheckCoord.b2 R) [(getL T 0), v103, lptr, (getL T 2), (getL T 3), (getL T 4), v104, v105, (.int .i64 0), (getL T 5), v46] q102.2).bind fun r130 =>
exV r130.1 [(4, (abin Tryz.prog .add 3 (.tmp 62) (.const (.int .i64 1)) (getL r130.2.1 4) (.int .i64 1)).bind fun v131 =>
some (.normal, [(getL r130.2.1 0), (getL r130.2.1 1), (getL r130.2.1 2), (getL r130.2.1 3), v131, (getL r130.2.1 5)], r130.2.2))]
 (none))
 (some (.exit 2, [(getL T 0), (getL T 1), (getL T 5)], s))

noncomputable def ref19_CheckCoord.b3 (R : Caller) (T : List Value) (s : St) : Res :=
(abin Tryz.prog .lss 3 (.tmp 147) (.tmp 146) (getL T 4) (getL T 3)).bind fun v138 =>
condV v138
 ((aindexS 4 (getL T 2) (getL T 4)).bind fun v139 =>
(aload true 4 v139 s).bind fun v140 =>
(lstore 4 lptr v140 (.agg #[(.int .i64 0), (.int .u64 0), (.int .u64 0), (.slice none 0 0)])).bind fun v141 =>
(guardV (getL T 1) true (some ([(getL T 4)], s)) (some ([undef], s))).bind fun q142 =>
(guardV (getL T 1) true ((abin Tryz.prog .eql 3 (.tmp 154) (.const (.int .i64 0)) (getL q142.1 0) (.int .i64 0)).bind fun v143 =>
some ([v143], q142.2)) (some ([undef], q142.2))).bind fun q144 =>
(guardV (getL T 1) true (some ([(getL q144.1 0)], q144.2)) (some ([undef], q144.2))).bind fun q145 =>
(guardV (getL q145.1 0) false ((afieldAddr 6 (getL T 0)).bind fun v146 =>
some ([v146], q145.2)) (some ([undef], q145.2))).bind fun q147 =>
(guardV (getL q145.1 0) false ((lload false 1 (getL q147.1 0) (getL T 5)).bind fun v148 =>
some ([v148], q147.2)) (some ([undef], q147.2))).bind fun q149 =>
(guardV (getL q145.1 0) false (some ([(getL T 4)], q149.2)) (some ([undef], q149.2))).bind fun q150 =>
(guardV (getL q145.1 0) false ((abin Tryz.prog .sub 3 (.tmp 159) (.const (.int .i64 1)) (getL q150.1 0) (.int .i64 1)).bind fun v151 =>
some ([v151], q150.2)) (some ([undef], q150.2))).bind fun q152 =>
(guardV (getL q145.1 0) false ((aindexS 4 (getL q149.1 0) (getL q152.1 0)).bind fun v153 =>
some ([v153], q152.2)) (some ([undef], q152.2))).bind fun q154 =>
(guardV (getL q145.1 0) false ((afieldAddr 0 (getL q154.1 0)).bind fun v155 =>
some ([v155], q154.2)) (some ([undef], q154.2))).bind fun q156 =>
((guardV (getL q145.1 0) false ((aload false 1 (getL q156.1 0) q156.2).bind fun v185 =>
some (v185, q156.2)) (some (undef, q156.2))).bind (ownR q156.2)).bind fun r157 =>
(guardV (getL q145.1 0) false (some ([lptr], r157.2)) (some ([undef], r157.2))).bind fun q158 =>
(guardV (getL q145.1 0) false ((lload false 1 (getL q158.1 0) v141).bind fun v159 =>
some ([v159], q158.2)) (some ([undef], q158.2))).bind fun q160 =>
(guardV (getL q145.1 0) false ((abin Tryz.prog .lss 3 (.tmp 163) (.tmp 165) r157.1 (getL q160.1 0)).bind fun v161 =>
some ([v161], q160.2)) (some ([undef], q160.2))).bind fun q162 =>
(guardV (getL T 1) true ((apick (getL q145.1 0) (.bool true) (getL q162.1 0)).bind fun v163 =>
some ([v163], q162.2)) (some ([undef], q162.2))).bind fun q164 =>
(apick (getL T 1) (getL q164.1 0) (.bool false)).bind fun v165 =>
(guardV v165 true (some ([lptr], q164.2)) (some ([undef], q164.2))).bind fun q166 =>
(guardV v165 true ((lload false 1 (getL q166.1 0) v141).bind fun v167 =>
some ([v167], q166.2)) (some ([undef], q166.2))).bind fun q168 =>
(guardV v165 true ((abin Tryz.prog .geq 3 (.tmp 171) (.const (.int .i64 1)) (getL q168.1 0) (.int .i64 1)).bind fun v169 =>
some ([v169], q168.2)) (some ([undef], q168.2))).bind fun q170 =>
(apick v165 (getL q170.1 0) (.bool false)).bind fun v171 =>
(guardV v171 true (some ([lptr], q170.2)) (some ([undef], q170.2))).bind fun q172 =>
(guardV v171 true ((lload false 1 (getL q172.1 0) v141).bind fun v173 =>
some ([v173], q172.2)) (some ([undef], q172.2))).bind fun q174 =>
(guardV v171 true ((abin Tryz.prog .leq 3 (.tmp 176) (.const (.int .i64 4)) (getL q174.1 0) (.int .i64 4)).bind fun v175 =>
some ([v175], q174.2)) (some ([undef], q174.2))).bind fun q176 =>
(apick v171 (getL q176.1 0) (.bool false)).bind fun v177 =>
(guardV v177 true (some ([(.pointer (some ⟨0, 3, none⟩))], q176.2)) (some ([undef], q176.2))).bind fun q178 =>
(guardV v177 true ((lload false 1 (getL q178.1 0) v141).bind fun v179 =>
some ([v179], q178.2)) (some ([undef], q178.2))).bind fun q180 =>
((guardV v177 true ((callV Tryz.prog R (.func (.func 67) #[] #[]) [(getL q180.1 0), (.int .i64 4)] q180.2).bind fun r184 =>
some (r184.1, r184.2)) (some (undef, q180.2))).bind (ownR q180.2)).bind fun r181 =>
(apick v177 r181.1 (.bool false)).bind fun v182 =>
(abin Tryz.prog .add 3 (.tmp 147) (.const (.int .i64 1)) (getL T 4) (.int .i64 1)).bind fun v183 =>
some (.normal, [(getL T 0), v182, (getL T 2), (getL T 3), v183, (getL T 5)], r181.2))
 (some (.exit 6, [(getL T 1)], s))

noncomputable def ref19_CheckCoord (R : Caller) (x0 : Value) (s : St) : Option (Value × St) :=
(lbox x0).bind fun v0 =>
(lload false 1 lptr v0).bind fun v1 =>
(abin Tryz.prog .geq 3 (.tmp 13) (.const (.int .i64 1)) v1 (.int .i64 1)).bind fun v2 =>
(guardV v2 true ((lload false 1 lptr v0).bind fun v3 =>
(abin Tryz.prog .leq 3 (.tmp 17) (.const (.int .i64 4)) v3 (.int .i64 4)).bind fun v4 =>
some ([v4], s)) (some ([undef], s))).bind fun q5 =>
(apick v2 (getL q5.1 0) (.bool false)).bind fun v6 =>
(guardV v6 true ((lload false 1 (.pointer (some ⟨0, 1, none⟩)) v0).bind fun v7 =>
(abin Tryz.prog .lss 22 (.tmp 22) (.const (.int .u64 2147483648)) v7 (.int .u64 2147483648)).bind fun v8 =>
some ([v8], q5.2)) (some ([undef], q5.2))).bind fun q9 =>
(apick v6 (getL q9.1 0) (.bool false)).bind fun v10 =>
(guardV v10 true ((lload false 1 (.pointer (some ⟨0, 4, none⟩)) v0).bind fun v11 =>
(callV Tryz.prog R (.func (.func 48) #[] #[]) [v11] q9.2).bind fun r12 =>
(abin Tryz.prog .eql 38 (.tmp 28) (.const (.int .i64 0)) r12.1 (.int .i64 0)).bind fun v13 =>
some ([v13], r12.2)) (some ([undef], q9.2))).bind fun q14 =>
(apick v10 (getL q14.1 0) (.bool false)).bind fun v15 =>
(guardV v15 true ((lload false 1 (.pointer (some ⟨0, 5, none⟩)) v0).bind fun v16 =>
(alenV (.slice 77) v16 q14.2).bind fun v17 =>
(abin Tryz.prog .leq 3 (.tmp 34) (.const (.int .i64 8)) v17 (.int .i64 8)).bind fun v18 =>
some ([v18], q14.2)) (some ([undef], q14.2))).bind fun q19 =>
(apick v15 (getL q19.1 0) (.bool false)).bind fun v20 =>
(guardV v20 true ((lload false 1 (.pointer (some ⟨0, 6, none⟩)) v0).bind fun v21 =>
(alenV (.slice 82) v21 q19.2).bind fun v22 =>
(abin Tryz.prog .leq 3 (.tmp 40) (.const (.int .i64 4)) v22 (.int .i64 4)).bind fun v23 =>
some ([v23], q19.2)) (some ([undef], q19.2))).bind fun q24 =>
(apick v20 (getL q24.1 0) (.bool false)).bind fun v25 =>
(lload false 1 (.pointer (some ⟨0, 4, none⟩)) v0).bind fun v26 =>
(alenV (.slice 54) v26 q24.2).bind fun v27 =>
(loopL (ref19_CheckCoord.b0 R) [lptr, v25, v26, v27, (.int .i64 0), v0] q24.2).bind fun r39 =>
exV r39.1 [(0, (afieldAddr 5 (getL r39.2.1 0)).bind fun v40 =>
(lload false 1 v40 (getL r39.2.1 2)).bind fun v41 =>
(alenV (.slice 77) v41 r39.2.2).bind fun v42 =>
(loopL (ref19_CheckCoord.b1 R) [(getL r39.2.1 0), (getL r39.2.1 1), v41, v42, (.int .i64 0), (getL r39.2.1 2)] r39.2.2).bind fun r134 =>
exV r134.1 [(2, (afieldAddr 6 (getL r134.2.1 0)).bind fun v135 =>
(lload false 1 v135 (getL r134.2.1 2)).bind fun v136 =>
(alenV (.slice 82) v136 r134.2.2).bind fun v137 =>
(loopL (ref19_CheckCoord.b3 R) [(getL r134.2.1 0), (getL r134.2.1 1), v136, v137, (.int .i64 0), (getL r134.2.1 2)] r134.2.2).bind fun r186 =>
exV r186.1 [(6, (aun .not (getL r186.2.1 0)).bind fun v187 =>
condV v187
 (retV [(.int .i64 1)] r186.2.2)
 (retV [(.int .i64 0)] r186.2.2))]
 (none))]
 (none))]
 (none)

theorem ref19_CheckCoord_of {lib : Lib} (hl : lib 14 = none) {x0 : Value} {s : St} {r : Value × St} (h : ref19_CheckCoord (run Tryz.prog lib hints) x0 s = some r) : run Tryz.prog lib hints 14 [x0] s = some r :=
  run_of hl Tryz.func14 (Eq.trans (by kernel_rfl) h)

theorem ref19_CheckCoord_ok : funcOk Tryz.prog 14 = true := by kernel_rfl
theorem ref19_CheckCoord_call {R : Caller} {xs : List Value} {s : St} : callV Tryz.prog R (.func (.func 14) #[] #[]) xs s = R 14 xs s := callV_eq ref19_CheckCoord_ok

/-! ### sumpter/record.DecodeShard: 15 -/

noncomputable def record_DecodeShard.j0 (R : Caller) (T : List Value) (s : St) : Option (Value × St) :=
(abin Tryz.prog .neq 38 (.tmp 13) (.const (.int .i64 0)) (getL T 2) (.int .i64 0)).bind fun v7 =>
condV v7
 ((lstore 17 (getL T 0) (.agg #[(.int .i64 0), (.int .u64 0), (.int .u64 0), (.int .u64 0), (.int .u64 0), (.slice none 0 0), (.slice none 0 0), (.slice none 0 0), (.int .u64 0), (.int .u64 0), (.string ⟨#[]⟩), (.string ⟨#[]⟩), (.int .u64 0), (.int .u64 0), (.int .u64 0), (.string ⟨#[]⟩), (.string ⟨#[]⟩)]) (getL T 3)).bind fun v8 =>
(lload true 17 (getL T 0) v8).bind fun v9 =>
retV [v9, (getL T 2)] s)
 ((aload true 17 (getL T 1) s).bind fun v10 =>
(lstore 17 (getL T 0) v10 (getL T 3)).bind fun v11 =>
(lload true 17 (getL T 0) v11).bind fun v12 =>
retV [v12, (.int .i64 0)] s)

noncomputable def record_DecodeShard (R : Caller) (x0 : Value) (s : St) : Option (Value × St) :=
(anew [(.int .i64 0), (.int .u64 0), (.int .u64 0), (.int .u64 0), (.int .u64 0), (.slice none 0 0), (.slice none 0 0), (.slice none 0 0), (.int .u64 0), (.int .u64 0), (.string ⟨#[]⟩), (.string ⟨#[]⟩), (.int .u64 0), (.int .u64 0), (.int .u64 0), (.string ⟨#[]⟩), (.string ⟨#[]⟩)] s).bind fun r0 =>
(amkFunc 69 [] [r0.1]).bind fun v1 =>
(callV Tryz.prog R (.func (.func 68) #[] #[]) [x0, (.int .u8 83), v1] r0.2).bind fun r2 =>
(abin Tryz.prog .eql 38 (.tmp 9) (.const (.int .i64 0)) r2.1 (.int .i64 0)).bind fun v4 =>
condV v4
 ((aload true 17 r0.1 r2.2).bind fun v5 =>
(callV Tryz.prog R (.func (.func 11) #[] #[]) [v5] r2.2).bind fun r6 =>
joinK (record_DecodeShard.j0 R) [lptr, r0.1, r6.1, (.agg #[(.int .i64 0), (.int .u64 0), (.int .u64 0), (.int .u64 0), (.int .u64 0), (.slice none 0 0), (.slice none 0 0), (.slice none 0 0), (.int .u64 0), (.int .u64 0), (.string ⟨#[]⟩), (.string ⟨#[]⟩), (.int .u64 0), (.int .u64 0), (.int .u64 0), (.string ⟨#[]⟩), (.string ⟨#[]⟩)])] r6.2)
 (joinK (record_DecodeShard.j0 R) [lptr, r0.1, r2.1, (.agg #[(.int .i64 0), (.int .u64 0), (.int .u64 0), (.int .u64 0), (.int .u64 0), (.slice none 0 0), (.slice none 0 0), (.slice none 0 0), (.int .u64 0), (.int .u64 0), (.string ⟨#[]⟩), (.string ⟨#[]⟩), (.int .u64 0), (.int .u64 0), (.int .u64 0), (.string ⟨#[]⟩), (.string ⟨#[]⟩)])] r2.2)

/-! ### sumpter/record.DecodeCoord: 17 -/

noncomputable def record_DecodeCoord.j0 (R : Caller) (T : List Value) (s : St) : Option (Value × St) :=
(abin Tryz.prog .neq 38 (.tmp 13) (.const (.int .i64 0)) (getL T 2) (.int .i64 0)).bind fun v7 =>
condV v7
 ((lstore 7 (getL T 0) (.agg #[(.int .i64 0), (.int .u64 0), (.int .u64 0), (.int .u64 0), (.slice none 0 0), (.slice none 0 0), (.slice none 0 0)]) (getL T 3)).bind fun v8 =>
(lload true 7 (getL T 0) v8).bind fun v9 =>
retV [v9, (getL T 2)] s)
 ((aload true 7 (getL T 1) s).bind fun v10 =>
(lstore 7 (getL T 0) v10 (getL T 3)).bind fun v11 =>
(lload true 7 (getL T 0) v11).bind fun v12 =>
retV [v12, (.int .i64 0)] s)

noncomputable def record_DecodeCoord (R : Caller) (x0 : Value) (s : St) : Option (Value × St) :=
(anew [(.int .i64 0), (.int .u64 0), (.int .u64 0), (.int .u64 0), (.slice none 0 0), (.slice none 0 0), (.slice none 0 0)] s).bind fun r0 =>
(amkFunc 81 [] [r0.1]).bind fun v1 =>
(callV Tryz.prog R (.func (.func 68) #[] #[]) [x0, (.int .u8 67), v1] r0.2).bind fun r2 =>
(abin Tryz.prog .eql 38 (.tmp 9) (.const (.int .i64 0)) r2.1 (.int .i64 0)).bind fun v4 =>
condV v4
 ((aload true 7 r0.1 r2.2).bind fun v5 =>
(callV Tryz.prog R (.func (.func 13) #[] #[]) [v5] r2.2).bind fun r6 =>
joinK (record_DecodeCoord.j0 R) [lptr, r0.1, r6.1, (.agg #[(.int .i64 0), (.int .u64 0), (.int .u64 0), (.int .u64 0), (.slice none 0 0), (.slice none 0 0), (.slice none 0 0)])] r6.2)
 (joinK (record_DecodeCoord.j0 R) [lptr, r0.1, r2.1, (.agg #[(.int .i64 0), (.int .u64 0), (.int .u64 0), (.int .u64 0), (.slice none 0 0), (.slice none 0 0), (.slice none 0 0)])] r2.2)

/-! ### (*sumpter/record.writer).nums: 19 -/

noncomputable def record_writer_nums (R : Caller) (x0 x1 : Value) (s : St) : Option (Value × St) :=
(amkFunc 25 [x0] []).bind fun v0 =>
(callV Tryz.prog R (.func (.func 87) #[] #[]) [x0, x1, v0] s).bind fun r1 =>
retV [] r1.2

theorem record_writer_nums_of {lib : Lib} (hl : lib 19 = none) {x0 x1 : Value} {s : St} {r : Value × St} (h : record_writer_nums (run Tryz.prog lib hints) x0 x1 s = some r) : run Tryz.prog lib hints 19 [x0, x1] s = some r :=
  run_of hl Tryz.func19 (Eq.trans (by kernel_rfl) h)

theorem record_writer_nums_ok : funcOk Tryz.prog 19 = true := by kernel_rfl
theorem record_writer_nums_call {R : Caller} {xs : List Value} {s : St} : callV Tryz.prog R (.func (.func 19) #[] #[]) xs s = R 19 xs s := callV_eq record_writer_nums_ok

/-! ### sumpter/record.list[sumpter/api.Owner]: 20 -/

noncomputable def record_list_api_Owner (R : Caller) (x0 x1 x2 : Value) (s : St) : Option (Value × St) :=
(alenV (.slice 54) x1 s).bind fun v0 =>
(callV Tryz.prog R (.func (.func 88) #[] #[]) [x0, v0] s).bind fun r1 =>
(callV Tryz.prog R (.func (.func 89) #[] #[]) [x0, x1, x2] r1.2).bind fun r2 =>
retV [] r2.2

theorem record_list_api_Owner_of {lib : Lib} (hl : lib 20 = none) {x0 x1 x2 : Value} {s : St} {r : Value × St} (h : record_list_api_Owner (run Tryz.prog lib hints) x0 x1 x2 s = some r) : run Tryz.prog lib hints 20 [x0, x1, x2] s = some r :=
  run_of hl Tryz.func20 (Eq.trans (by kernel_rfl) h)

theorem record_list_api_Owner_ok : funcOk Tryz.prog 20 = true := by kernel_rfl
theorem record_list_api_Owner_call {R : Caller} {xs : List Value} {s : St} : callV Tryz.prog R (.func (.func 20) #[] #[]) xs s = R 20 xs s := callV_eq record_list_api_Owner_ok

/-! ### (*sumpter/record.writer).owner: 21 -/

noncomputable def record_writer_owner (R : Caller) (x0 x1 : Value) (s : St) : Option (Value × St) :=
(lbox x1).bind fun v0 =>
(lload false 1 lptr v0).bind fun v1 =>
(callV Tryz.prog R (.func (.func 90) #[] #[]) [x0, v1] s).bind fun r2 =>
(lload false 1 (.pointer (some ⟨0, 1, none⟩)) v0).bind fun v3 =>
(callV Tryz.prog R (.func (.func 88) #[] #[]) [x0, v3] r2.2).bind fun r4 =>
retV [] r4.2

theorem record_writer_owner_of {lib : Lib} (hl : lib 21 = none) {x0 x1 : Value} {s : St} {r : Value × St} (h : record_writer_owner (run Tryz.prog lib hints) x0 x1 s = some r) : run Tryz.prog lib hints 21 [x0, x1] s = some r :=
  run_of hl Tryz.func21 (Eq.trans (by kernel_rfl) h)

theorem record_writer_owner_ok : funcOk Tryz.prog 21 = true := by kernel_rfl
/-! ### sumpter/record.list[sumpter/api.Hold]: 22 -/

noncomputable def record_list_api_Hold (R : Caller) (x0 x1 x2 : Value) (s : St) : Option (Value × St) :=
(alenV (.slice 64) x1 s).bind fun v0 =>
(callV Tryz.prog R (.func (.func 88) #[] #[]) [x0, v0] s).bind fun r1 =>
(callV Tryz.prog R (.func (.func 91) #[] #[]) [x0, x1, x2] r1.2).bind fun r2 =>
retV [] r2.2

theorem record_list_api_Hold_of {lib : Lib} (hl : lib 22 = none) {x0 x1 x2 : Value} {s : St} {r : Value × St} (h : record_list_api_Hold (run Tryz.prog lib hints) x0 x1 x2 s = some r) : run Tryz.prog lib hints 22 [x0, x1, x2] s = some r :=
  run_of hl Tryz.func22 (Eq.trans (by kernel_rfl) h)

theorem record_list_api_Hold_ok : funcOk Tryz.prog 22 = true := by kernel_rfl
theorem record_list_api_Hold_call {R : Caller} {xs : List Value} {s : St} : callV Tryz.prog R (.func (.func 22) #[] #[]) xs s = R 22 xs s := callV_eq record_list_api_Hold_ok

/-! ### (*sumpter/record.writer).hold: 23 -/

noncomputable def record_writer_hold (R : Caller) (x0 x1 : Value) (s : St) : Option (Value × St) :=
(lbox x1).bind fun v0 =>
(lload false 1 lptr v0).bind fun v1 =>
(callV Tryz.prog R (.func (.func 25) #[] #[]) [x0, v1] s).bind fun r2 =>
(lload false 1 (.pointer (some ⟨0, 1, none⟩)) v0).bind fun v3 =>
(amkFunc 93 [x0] []).bind fun v4 =>
(callV Tryz.prog R (.func (.func 92) #[] #[]) [x0, v3, v4] r2.2).bind fun r5 =>
retV [] r5.2

theorem record_writer_hold_of {lib : Lib} (hl : lib 23 = none) {x0 x1 : Value} {s : St} {r : Value × St} (h : record_writer_hold (run Tryz.prog lib hints) x0 x1 s = some r) : run Tryz.prog lib hints 23 [x0, x1] s = some r :=
  run_of hl Tryz.func23 (Eq.trans (by kernel_rfl) h)

theorem record_writer_hold_ok : funcOk Tryz.prog 23 = true := by kernel_rfl
/-! ### sumpter/record.list[uint64]: 24 -/

noncomputable def record_list_uint64 (R : Caller) (x0 x1 x2 : Value) (s : St) : Option (Value × St) :=
(alenV (.slice 22) x1 s).bind fun v0 =>
(callV Tryz.prog R (.func (.func 88) #[] #[]) [x0, v0] s).bind fun r1 =>
(callV Tryz.prog R (.func (.func 87) #[] #[]) [x0, x1, x2] r1.2).bind fun r2 =>
retV [] r2.2

theorem record_list_uint64_of {lib : Lib} (hl : lib 24 = none) {x0 x1 x2 : Value} {s : St} {r : Value × St} (h : record_list_uint64 (run Tryz.prog lib hints) x0 x1 x2 s = some r) : run Tryz.prog lib hints 24 [x0, x1, x2] s = some r :=
  run_of hl Tryz.func24 (Eq.trans (by kernel_rfl) h)

theorem record_list_uint64_ok : funcOk Tryz.prog 24 = true := by kernel_rfl
theorem record_list_uint64_call {R : Caller} {xs : List Value} {s : St} : callV Tryz.prog R (.func (.func 24) #[] #[]) xs s = R 24 xs s := callV_eq record_list_uint64_ok

/-! ### (*sumpter/record.writer).num: 25 -/

noncomputable def record_writer_num (R : Caller) (x0 x1 : Value) (s : St) : Option (Value × St) :=
(anilCheck x0).bind fun v0 =>
(afieldAddr 0 v0).bind fun v1 =>
((aload false 1 v1 (frzS s)).bind fun v11 =>
some (v11, (frzS s))).bind fun r2 =>
(((callV Tryz.prog R (.func (.func 94) #[] #[]) [x1] (frzS s)).bind fun r10 =>
some (r10.1, r10.2)).map (quietR s)).bind fun r3 =>
(((aappend 1 1 r2.1 r3.1 r3.2).bind fun r9 =>
some (r9.1, r9.2)).bind (ownR r3.2)).bind fun r4 =>
(anilCheck x0).bind fun v5 =>
(afieldAddr 0 v5).bind fun v6 =>
(((astore 1 v6 r4.1 r4.2).bind fun s8 =>
some (undef, s8)).bind (ownR r4.2)).bind fun r7 =>
retV [] r7.2

theorem record_writer_num_of {lib : Lib} (hl : lib 25 = none) {x0 x1 : Value} {s : St} {r : Value × St} (h : record_writer_num (run Tryz.prog lib hints) x0 x1 s = some r) : run Tryz.prog lib hints 25 [x0, x1] s = some r :=
  run_of hl Tryz.func25 (Eq.trans (by kernel_rfl) h)

theorem record_writer_num_ok : funcOk Tryz.prog 25 = true := by kernel_rfl
theorem record_writer_num_call {R : Caller} {xs : List Value} {s : St} : callV Tryz.prog R (.func (.func 25) #[] #[]) xs s = R 25 xs s := callV_eq record_writer_num_ok

/-! ### (*sumpter/record.writer).span: 26 -/

noncomputable def record_writer_span (R : Caller) (x0 x1 : Value) (s : St) : Option (Value × St) :=
(lbox x1).bind fun v0 =>
(lload false 1 lptr v0).bind fun v1 =>
(callV Tryz.prog R (.func (.func 90) #[] #[]) [x0, v1] s).bind fun r2 =>
(lload false 1 (.pointer (some ⟨0, 1, none⟩)) v0).bind fun v3 =>
(callV Tryz.prog R (.func (.func 90) #[] #[]) [x0, v3] r2.2).bind fun r4 =>
retV [] r4.2

theorem record_writer_span_of {lib : Lib} (hl : lib 26 = none) {x0 x1 : Value} {s : St} {r : Value × St} (h : record_writer_span (run Tryz.prog lib hints) x0 x1 s = some r) : run Tryz.prog lib hints 26 [x0, x1] s = some r :=
  run_of hl Tryz.func26 (Eq.trans (by kernel_rfl) h)

theorem record_writer_span_ok : funcOk Tryz.prog 26 = true := by kernel_rfl
theorem record_writer_span_call {R : Caller} {xs : List Value} {s : St} : callV Tryz.prog R (.func (.func 26) #[] #[]) xs s = R 26 xs s := callV_eq record_writer_span_ok

/-! ### sumpter/sumpterref19.num: 27 -/

noncomputable def ref19_num.b0 (R : Caller) (T : List Value) (s : St) : Res :=
(abin Tryz.prog .lss 3 (.tmp 9) (.tmp 8) (getL T 3) (getL T 2)).bind fun v1 =>
condV v1
 ((aindexS 1 (getL T 1) (getL T 3)).bind fun v2 =>
(aload false 1 v2 s).bind fun v3 =>
(callV Tryz.prog R (.func (.func 95) #[] #[]) [v3] s).bind fun r4 =>
(aappend 1 1 (getL T 0) r4.1 r4.2).bind fun r5 =>
(abin Tryz.prog .add 3 (.tmp 9) (.const (.int .i64 1)) (getL T 3) (.int .i64 1)).bind fun v6 =>
some (.normal, [r5.1, (getL T 1), (getL T 2), v6], r5.2))
 (some (.exit 0, [(getL T 0)], s))

noncomputable def ref19_num (R : Caller) (x0 x1 : Value) (s : St) : Option (Value × St) :=
(alenV (.slice 22) x1 s).bind fun v0 =>
(loopL (ref19_num.b0 R) [x0, x1, v0, (.int .i64 0)] s).bind fun r7 =>
exV r7.1 [(0, retV [(getL r7.2.1 0)] r7.2.2)]
 (none)

theorem ref19_num_of {lib : Lib} (hl : lib 27 = none) {x0 x1 : Value} {s : St} {r : Value × St} (h : ref19_num (run Tryz.prog lib hints) x0 x1 s = some r) : run Tryz.prog lib hints 27 [x0, x1] s = some r :=
  run_of hl Tryz.func27 (Eq.trans (by kernel_rfl) h)

theorem ref19_num_ok : funcOk Tryz.prog 27 = true := by kernel_rfl
theorem ref19_num_call {R : Caller} {xs : List Value} {s : St} : callV Tryz.prog R (.func (.func 27) #[] #[]) xs s = R 27 xs s := callV_eq ref19_num_ok

/-! ### sumpter/sumpterref19.owners: 28 -/

noncomputable def ref19_owners.b0 (R : Caller) (T : List Value) (s : St) : Res :=
(abin Tryz.prog .lss 3 (.tmp 15) (.tmp 14) (getL T 3) (getL T 2)).bind fun v5 =>
condV v5
 ((aindexS 2 (getL T 1) (getL T 3)).bind fun v6 =>
(aload true 2 v6 s).bind fun v7 =>
(lstore 2 lptr v7 (.agg #[(.string ⟨#[]⟩), (.int .i64 0)])).bind fun v8 =>
((lload false 1 lptr v8).bind fun v9 =>
(callV Tryz.prog R (.func (.func 29) #[] #[]) [(getL T 0), v9] s).bind fun r10 =>
(lload false 1 (.pointer (some ⟨0, 1, none⟩)) v8).bind fun v11 =>
(convInt .u64 v11).bind fun v12 =>
(abuildSl 1 [(.int .u64 0)] 1 [(0, v12)] r10.2).bind fun r13 =>
(callV Tryz.prog R (.func (.func 27) #[] #[]) [r10.1, r13.1] r13.2).bind fun r14 =>
some [(getL T 0), v9]).bind fun q15 =>
(lload false 1 lptr v8).bind fun v16 =>
(((callV Tryz.prog R (.func (.func 29) #[] #[]) [(getL T 0), v16] (⟨onlyL (blksV [(getL q15 0), (getL q15 1)]) 0 (s).heap⟩ : St)).bind fun r25 =>
some (r25.1, r25.2)).bind (appR (blksV [(getL q15 0), (getL q15 1)]) [] s)).bind fun r17 =>
(lload false 1 (.pointer (some ⟨0, 1, none⟩)) v8).bind fun v18 =>
(convInt .u64 v18).bind fun v19 =>
(((abuildSl 1 [(.int .u64 0)] 1 [(0, v19)] (⟨frzK ((blksV [(getL q15 0), (getL q15 1)]) ++ []) 0 (r17.2).heap⟩ : St)).bind fun r24 =>
some (r24.1, r24.2)).bind (apartR ((blksV [(getL q15 0), (getL q15 1)]) ++ []) r17.2)).bind fun r20 =>
(((callV Tryz.prog R (.func (.func 27) #[] #[]) [r17.1, r20.1] r20.2).bind fun r23 =>
some (r23.1, r23.2)).bind (ownR r20.2)).bind fun r21 =>
(abin Tryz.prog .add 3 (.tmp 15) (.const (.int .i64 1)) (getL T 3) (.int .i64 1)).bind fun v22 =>
some (.normal, [r21.1, (getL T 1), (getL T 2), v22], r21.2))
 (some (.exit 0, [(getL T 0)], s))

noncomputable def ref19_owners (R : Caller) (x0 x1 : Value) (s : St) : Option (Value × St) :=
(alenV (.slice 54) x1 s).bind fun v0 =>
(convInt .u64 v0).bind fun v1 =>
(abuildSl 1 [(.int .u64 0)] 1 [(0, v1)] s).bind fun r2 =>
(callV Tryz.prog R (.func (.func 27) #[] #[]) [x0, r2.1] r2.2).bind fun r3 =>
(alenV (.slice 54) x1 r3.2).bind fun v4 =>
(loopL (ref19_owners.b0 R) [r3.1, x1, v4, (.int .i64 0)] r3.2).bind fun r26 =>
exV r26.1 [(0, retV [(getL r26.2.1 0)] r26.2.2)]
 (none)

theorem ref19_owners_of {lib : Lib} (hl : lib 28 = none) {x0 x1 : Value} {s : St} {r : Value × St} (h : ref19_owners (run Tryz.prog lib hints) x0 x1 s = some r) : run Tryz.prog lib hints 28 [x0, x1] s = some r :=
  run_of hl Tryz.func28 (Eq.trans (by kernel_rfl) h)

theorem ref19_owners_ok : funcOk Tryz.prog 28 = true := by kernel_rfl
theorem ref19_owners_call {R : Caller} {xs : List Value} {s : St} : callV Tryz.prog R (.func (.func 28) #[] #[]) xs s = R 28 xs s := callV_eq ref19_owners_ok

/-! ### sumpter/sumpterref18.Text: 29 -/

noncomputable def ref18_Text (R : Caller) (x0 x1 : Value) (s : St) : Option (Value × St) :=
(callV Tryz.prog R (.func (.func 96) #[] #[]) [x1] s).bind fun r0 =>
(aappend 1 1 x0 r0.1 r0.2).bind fun r1 =>
retV [r1.1] r1.2

theorem ref18_Text_of {lib : Lib} (hl : lib 29 = none) {x0 x1 : Value} {s : St} {r : Value × St} (h : ref18_Text (run Tryz.prog lib hints) x0 x1 s = some r) : run Tryz.prog lib hints 29 [x0, x1] s = some r :=
  run_of hl Tryz.func29 (Eq.trans (by kernel_rfl) h)

theorem ref18_Text_ok : funcOk Tryz.prog 29 = true := by kernel_rfl
theorem ref18_Text_call {R : Caller} {xs : List Value} {s : St} : callV Tryz.prog R (.func (.func 29) #[] #[]) xs s = R 29 xs s := callV_eq ref18_Text_ok

/-! ### sumpter/record.list[sumpter/api.Decision]: 30 -/

noncomputable def record_list_api_Decision (R : Caller) (x0 x1 x2 : Value) (s : St) : Option (Value × St) :=
(alenV (.slice 77) x1 s).bind fun v0 =>
(callV Tryz.prog R (.func (.func 88) #[] #[]) [x0, v0] s).bind fun r1 =>
(callV Tryz.prog R (.func (.func 97) #[] #[]) [x0, x1, x2] r1.2).bind fun r2 =>
retV [] r2.2

theorem record_list_api_Decision_of {lib : Lib} (hl : lib 30 = none) {x0 x1 x2 : Value} {s : St} {r : Value × St} (h : record_list_api_Decision (run Tryz.prog lib hints) x0 x1 x2 s = some r) : run Tryz.prog lib hints 30 [x0, x1, x2] s = some r :=
  run_of hl Tryz.func30 (Eq.trans (by kernel_rfl) h)

theorem record_list_api_Decision_ok : funcOk Tryz.prog 30 = true := by kernel_rfl
theorem record_list_api_Decision_call {R : Caller} {xs : List Value} {s : St} : callV Tryz.prog R (.func (.func 30) #[] #[]) xs s = R 30 xs s := callV_eq record_list_api_Decision_ok

/-! ### (*sumpter/record.writer).decision: 31 -/

noncomputable def record_writer_decision (R : Caller) (x0 x1 : Value) (s : St) : Option (Value × St) :=
(lbox x1).bind fun v0 =>
(lload false 1 lptr v0).bind fun v1 =>
(lload false 1 (.pointer (some ⟨0, 1, none⟩)) v0).bind fun v2 =>
(convInt .u64 v2).bind fun v3 =>
(lload false 1 (.pointer (some ⟨0, 2, none⟩)) v0).bind fun v4 =>
(lload false 1 (.pointer (some ⟨0, 3, none⟩)) v0).bind fun v5 =>
(abuildSl 1 [(.int .u64 0)] 4 [(0, v1), (1, v3), (2, v4), (3, v5)] s).bind fun r6 =>
(callV Tryz.prog R (.func (.func 19) #[] #[]) [x0, r6.1] r6.2).bind fun r7 =>
(lload false 1 (.pointer (some ⟨0, 4, none⟩)) v0).bind fun v8 =>
(amkFunc 88 [x0] []).bind fun v9 =>
(callV Tryz.prog R (.func (.func 98) #[] #[]) [x0, v8, v9] r7.2).bind fun r10 =>
retV [] r10.2

theorem record_writer_decision_of {lib : Lib} (hl : lib 31 = none) {x0 x1 : Value} {s : St} {r : Value × St} (h : record_writer_decision (run Tryz.prog lib hints) x0 x1 s = some r) : run Tryz.prog lib hints 31 [x0, x1] s = some r :=
  run_of hl Tryz.func31 (Eq.trans (by kernel_rfl) h)

theorem record_writer_decision_ok : funcOk Tryz.prog 31 = true := by kernel_rfl
/-! ### sumpter/record.list[sumpter/api.Last]: 32 -/

noncomputable def record_list_api_Last (R : Caller) (x0 x1 x2 : Value) (s : St) : Option (Value × St) :=
(alenV (.slice 82) x1 s).bind fun v0 =>
(callV Tryz.prog R (.func (.func 88) #[] #[]) [x0, v0] s).bind fun r1 =>
(callV Tryz.prog R (.func (.func 99) #[] #[]) [x0, x1, x2] r1.2).bind fun r2 =>
retV [] r2.2

theorem record_list_api_Last_of {lib : Lib} (hl : lib 32 = none) {x0 x1 x2 : Value} {s : St} {r : Value × St} (h : record_list_api_Last (run Tryz.prog lib hints) x0 x1 x2 s = some r) : run Tryz.prog lib hints 32 [x0, x1, x2] s = some r :=
  run_of hl Tryz.func32 (Eq.trans (by kernel_rfl) h)

theorem record_list_api_Last_ok : funcOk Tryz.prog 32 = true := by kernel_rfl
theorem record_list_api_Last_call {R : Caller} {xs : List Value} {s : St} : callV Tryz.prog R (.func (.func 32) #[] #[]) xs s = R 32 xs s := callV_eq record_list_api_Last_ok

/-! ### (*sumpter/record.writer).last: 33 -/

noncomputable def record_writer_last (R : Caller) (x0 x1 : Value) (s : St) : Option (Value × St) :=
(lbox x1).bind fun v0 =>
(lload false 1 lptr v0).bind fun v1 =>
(convInt .u64 v1).bind fun v2 =>
(lload false 1 (.pointer (some ⟨0, 1, none⟩)) v0).bind fun v3 =>
(lload false 1 (.pointer (some ⟨0, 2, none⟩)) v0).bind fun v4 =>
(abuildSl 1 [(.int .u64 0)] 3 [(0, v2), (1, v3), (2, v4)] s).bind fun r5 =>
(callV Tryz.prog R (.func (.func 19) #[] #[]) [x0, r5.1] r5.2).bind fun r6 =>
(lload false 1 (.pointer (some ⟨0, 3, none⟩)) v0).bind fun v7 =>
(amkFunc 101 [x0] []).bind fun v8 =>
(callV Tryz.prog R (.func (.func 100) #[] #[]) [x0, v7, v8] r6.2).bind fun r9 =>
retV [] r9.2

theorem record_writer_last_of {lib : Lib} (hl : lib 33 = none) {x0 x1 : Value} {s : St} {r : Value × St} (h : record_writer_last (run Tryz.prog lib hints) x0 x1 s = some r) : run Tryz.prog lib hints 33 [x0, x1] s = some r :=
  run_of hl Tryz.func33 (Eq.trans (by kernel_rfl) h)

theorem record_writer_last_ok : funcOk Tryz.prog 33 = true := by kernel_rfl
/-! ### sumpter/sumpterref18.Res: 34 -/

noncomputable def ref18_Res.b1 (R : Caller) (T : List Value) (s : St) : Res :=
(abin Tryz.prog .lss 3 (.tmp 38) (.tmp 37) (getL T 6) (getL T 5)).bind fun v20 =>
condV v20
 ((aindexS 2 (getL T 4) (getL T 6)).bind fun v21 =>
(aload true 2 v21 s).bind fun v22 =>
(lstore 2 lptr v22 (.agg #[(.string ⟨#[]⟩), (.string ⟨#[]⟩)])).bind fun v23 =>
(lload false 1 lptr v23).bind fun v24 =>
(((callV Tryz.prog R (.func (.func 29) #[] #[]) [(getL T 0), v24] s).bind fun r30 =>
some (r30.1, r30.2)).bind (ownR s)).bind fun r25 =>
(lload false 1 (.pointer (some ⟨0, 1, none⟩)) v23).bind fun v26 =>
(((callV Tryz.prog R (.func (.func 29) #[] #[]) [r25.1, v26] r25.2).bind fun r29 =>
some (r29.1, r29.2)).bind (ownR r25.2)).bind fun r27 =>
(abin Tryz.prog .add 3 (.tmp 38) (.const (.int .i64 1)) (getL T 6) (.int .i64 1)).bind fun v28 =>
some (.normal, [r27.1, (getL T 1), (getL T 2), (getL T 3), (getL T 4), (getL T 5), v28], r27.2))
 (some (.exit 2, [(getL T 0), (getL T 1), (getL T 2), (getL T 3)], s))

noncomputable def ref18_Res.b0 (R : Caller) (T : List Value) (s : St) : Res :=
(abin Tryz.prog .lss 3 (.tmp 17) (.tmp 16) (getL T 3) (getL T 2)).bind fun v5 =>
condV v5
 ((aindexS 3 (getL T 1) (getL T 3)).bind fun v6 =>
(aload true 3 v6 s).bind fun v7 =>
(lstore 3 lptr v7 (.agg #[(.bool false), (.string ⟨#[]⟩), (.slice none 0 0)])).bind fun v8 =>
(lload false 1 lptr v8).bind fun v9 =>
(((callV Tryz.prog R (.func (.func 102) #[] #[]) [(getL T 0), v9] s).bind fun r34 =>
some (r34.1, r34.2)).bind (ownR s)).bind fun r10 =>
(lload false 1 (.pointer (some ⟨0, 1, none⟩)) v8).bind fun v11 =>
(((callV Tryz.prog R (.func (.func 29) #[] #[]) [r10.1, v11] r10.2).bind fun r33 =>
some (r33.1, r33.2)).bind (ownR r10.2)).bind fun r12 =>
(lload false 1 (.pointer (some ⟨0, 2, none⟩)) v8).bind fun v13 =>
(alenV (.slice 150) v13 r12.2).bind fun v14 =>
(convInt .u64 v14).bind fun v15 =>
(callV Tryz.prog R (.func (.func 95) #[] #[]) [v15] r12.2).bind fun r16 =>
(aappend 1 1 r12.1 r16.1 r16.2).bind fun r17 =>
(lload false 1 (.pointer (some ⟨0, 2, none⟩)) v8).bind fun v18 =>
(alenV (.slice 150) v18 r17.2).bind fun v19 =>
(loopL (ref18_Res.b1 R) [r17.1, (getL T 1), (getL T 2), (getL T 3), v18, v19, (.int .i64 0)] r17.2).bind fun r31 =>
exV r31.1 [(2, (abin Tryz.prog .add 3 (.tmp 17) (.const (.int .i64 1)) (getL r31.2.1 3) (.int .i64 1)).bind fun v32 =>
some (.normal, [(getL r31.2.1 0), (getL r31.2.1 1), (getL r31.2.1 2), v32], r31.2.2))]
 (none))
 (some (.exit 0, [(getL T 0)], s))

noncomputable def ref18_Res (R : Caller) (x0 x1 : Value) (s : St) : Option (Value × St) :=
(alenV (.slice 146) x1 s).bind fun v0 =>
(convInt .u64 v0).bind fun v1 =>
(callV Tryz.prog R (.func (.func 95) #[] #[]) [v1] s).bind fun r2 =>
(aappend 1 1 x0 r2.1 r2.2).bind fun r3 =>
(alenV (.slice 146) x1 r3.2).bind fun v4 =>
(loopL (ref18_Res.b0 R) [r3.1, x1, v4, (.int .i64 0)] r3.2).bind fun r35 =>
exV r35.1 [(0, retV [(getL r35.2.1 0)] r35.2.2)]
 (none)

theorem ref18_Res_of {lib : Lib} (hl : lib 34 = none) {x0 x1 : Value} {s : St} {r : Value × St} (h : ref18_Res (run Tryz.prog lib hints) x0 x1 s = some r) : run Tryz.prog lib hints 34 [x0, x1] s = some r :=
  run_of hl Tryz.func34 (Eq.trans (by kernel_rfl) h)

theorem ref18_Res_ok : funcOk Tryz.prog 34 = true := by kernel_rfl
theorem ref18_Res_call {R : Caller} {xs : List Value} {s : St} : callV Tryz.prog R (.func (.func 34) #[] #[]) xs s = R 34 xs s := callV_eq ref18_Res_ok

/-! ### sumpter/owner.Check: 35 -/

noncomputable def owner_Check.b0 (R : Caller) (T : List Value) (s : St) : Res :=
(abin Tryz.prog .lss 3 (.tmp 22) (.tmp 21) (getL T 3) (getL T 2)).bind fun v13 =>
condV v13
 ((aindexS 2 (getL T 1) (getL T 3)).bind fun v14 =>
(aload true 2 v14 s).bind fun v15 =>
(lstore 2 lptr v15 (.agg #[(.string ⟨#[]⟩), (.int .i64 0)])).bind fun v16 =>
(lload false 1 (.pointer (some ⟨0, 1, none⟩)) v16).bind fun v17 =>
(abin Tryz.prog .lss 3 (.tmp 28) (.const (.int .i64 1)) v17 (.int .i64 1)).bind fun v18 =>
(guardV v18 false (some ([(.pointer (some ⟨0, 1, none⟩))], s)) (some ([undef], s))).bind fun q19 =>
(guardV v18 false ((lload false 1 (getL q19.1 0) v16).bind fun v20 =>
some ([v20], q19.2)) (some ([undef], q19.2))).bind fun q21 =>
(guardV v18 false ((abin Tryz.prog .gtr 3 (.tmp 32) (.const (.int .i64 4)) (getL q21.1 0) (.int .i64 4)).bind fun v22 =>
some ([v22], q21.2)) (some ([undef], q21.2))).bind fun q23 =>
(apick v18 (.bool true) (getL q23.1 0)).bind fun v24 =>
(guardV v24 false (some ([(getL T 3)], q23.2)) (some ([undef], q23.2))).bind fun q25 =>
(guardV v24 false ((abin Tryz.prog .gtr 3 (.tmp 36) (.const (.int .i64 0)) (getL q25.1 0) (.int .i64 0)).bind fun v26 =>
some ([v26], q25.2)) (some ([undef], q25.2))).bind fun q27 =>
(guardV v24 false (some ([(getL q27.1 0)], q27.2)) (some ([undef], q27.2))).bind fun q28 =>
(guardV (getL q28.1 0) true (some ([lptr], q28.2)) (some ([undef], q28.2))).bind fun q29 =>
(guardV (getL q28.1 0) true ((lload false 1 (getL q29.1 0) v16).bind fun v30 =>
some ([v30], q29.2)) (some ([undef], q29.2))).bind fun q31 =>
((guardV (getL q28.1 0) true ((callV Tryz.prog R (.func (.func 103) #[] #[]) [(getL q31.1 0)] q31.2).bind fun r57 =>
some (r57.1, r57.2)) (some (undef, q31.2))).bind (ownR q31.2)).bind fun r32 =>
(guardV (getL q28.1 0) true ((abin Tryz.prog .neq 38 (.tmp 41) (.const (.int .i64 0)) r32.1 (.int .i64 0)).bind fun v33 =>
some ([v33], r32.2)) (some ([undef], r32.2))).bind fun q34 =>
(guardV (getL q28.1 0) true (some ([(getL q34.1 0)], q34.2)) (some ([undef], q34.2))).bind fun q35 =>
(guardV (getL q35.1 0) false (some ([(getL T 0)], q35.2)) (some ([undef], q35.2))).bind fun q36 =>
(guardV (getL q35.1 0) false (some ([(getL T 3)], q36.2)) (some ([undef], q36.2))).bind fun q37 =>
(guardV (getL q35.1 0) false ((abin Tryz.prog .sub 3 (.tmp 45) (.const (.int .i64 1)) (getL q37.1 0) (.int .i64 1)).bind fun v38 =>
some ([v38], q37.2)) (some ([undef], q37.2))).bind fun q39 =>
(guardV (getL q35.1 0) false ((aindexS 2 (getL q36.1 0) (getL q39.1 0)).bind fun v40 =>
some ([v40], q39.2)) (some ([undef], q39.2))).bind fun q41 =>
(guardV (getL q35.1 0) false ((afieldAddr 0 (getL q41.1 0)).bind fun v42 =>
some ([v42], q41.2)) (some ([undef], q41.2))).bind fun q43 =>
((guardV (getL q35.1 0) false ((aload false 1 (getL q43.1 0) q43.2).bind fun v56 =>
some (v56, q43.2)) (some (undef, q43.2))).bind (ownR q43.2)).bind fun r44 =>
(guardV (getL q35.1 0) false (some ([lptr], r44.2)) (some ([undef], r44.2))).bind fun q45 =>
(guardV (getL q35.1 0) false ((lload false 1 (getL q45.1 0) v16).bind fun v46 =>
some ([v46], q45.2)) (some ([undef], q45.2))).bind fun q47 =>
(guardV (getL q35.1 0) false ((abin Tryz.prog .geq 9 (.tmp 49) (.tmp 51) r44.1 (getL q47.1 0)).bind fun v48 =>
some ([v48], q47.2)) (some ([undef], q47.2))).bind fun q49 =>
(guardV (getL q28.1 0) true ((apick (getL q35.1 0) (.bool true) (getL q49.1 0)).bind fun v50 =>
some ([v50], q49.2)) (some ([undef], q49.2))).bind fun q51 =>
(guardV v24 false ((apick (getL q28.1 0) (getL q51.1 0) (.bool false)).bind fun v52 =>
some ([v52], q51.2)) (some ([undef], q51.2))).bind fun q53 =>
(apick v24 (.bool true) (getL q53.1 0)).bind fun v54 =>
condV v54
 (some (.ret, [(.int .i64 170)], q53.2))
 ((abin Tryz.prog .add 3 (.tmp 22) (.const (.int .i64 1)) (getL T 3) (.int .i64 1)).bind fun v55 =>
some (.normal, [(getL T 0), (getL T 1), (getL T 2), v55], q53.2)))
 (some (.exit 0, [], s))

noncomputable def owner_Check (R : Caller) (x0 : Value) (s : St) : Option (Value × St) :=
(alenV (.slice 54) x0 s).bind fun v0 =>
(abin Tryz.prog .eql 3 (.tmp 6) (.const (.int .i64 0)) v0 (.int .i64 0)).bind fun v1 =>
(guardV v1 false ((alenV (.slice 54) x0 s).bind fun v2 =>
(abin Tryz.prog .gtr 3 (.tmp 10) (.const (.int .i64 6)) v2 (.int .i64 6)).bind fun v3 =>
some ([v3], s)) (some ([undef], s))).bind fun q4 =>
(apick v1 (.bool true) (getL q4.1 0)).bind fun v5 =>
(guardV v5 false ((aindexS 2 x0 (.int .i64 0)).bind fun v6 =>
(afieldAddr 0 v6).bind fun v7 =>
(aload false 1 v7 q4.2).bind fun v8 =>
(abin Tryz.prog .neq 9 (.tmp 17) (.const (.string ⟨#[]⟩)) v8 (.string ⟨#[]⟩)).bind fun v9 =>
some ([v9], q4.2)) (some ([undef], q4.2))).bind fun q10 =>
(apick v5 (.bool true) (getL q10.1 0)).bind fun v11 =>
condV v11
 (retV [(.int .i64 170)] q10.2)
 ((alenV (.slice 54) x0 q10.2).bind fun v12 =>
(loopL (owner_Check.b0 R) [x0, x0, v12, (.int .i64 0)] q10.2).bind fun r58 =>
exV r58.1 [(0, retV [(.int .i64 0)] r58.2.2)]
 (retV [(getL r58.2.1 0)] r58.2.2))

theorem owner_Check_of {lib : Lib} (hl : lib 35 = none) {x0 : Value} {s : St} {r : Value × St} (h : owner_Check (run Tryz.prog lib hints) x0 s = some r) : run Tryz.prog lib hints 35 [x0] s = some r :=
  run_of hl Tryz.func35 (Eq.trans (by kernel_rfl) h)

theorem owner_Check_ok : funcOk Tryz.prog 35 = true := by kernel_rfl
theorem owner_Check_call {R : Caller} {xs : List Value} {s : St} : callV Tryz.prog R (.func (.func 35) #[] #[]) xs s = R 35 xs s := callV_eq owner_Check_ok

/-! ### sumpter/span.Check: 36 -/

noncomputable def span_Check.j0 (R : Caller) (T : List Value) (s : St) : Option (Value × St) :=
condV (getL T 0)
 (retV [(.int .i64 21)] s)
 (retV [(.int .i64 0)] s)

noncomputable def span_Check (R : Caller) (x0 : Value) (s : St) : Option (Value × St) :=
(lbox x0).bind fun v0 =>
(lload true 2 lptr v0).bind fun v1 =>
(((callV Tryz.prog R (.func (.func 104) #[] #[]) [] s).bind fun r20 =>
some (r20.1, r20.2)).bind (ownR s)).bind fun r2 =>
(abin Tryz.prog .eql 27 (.tmp 4) (.tmp 5) v1 r2.1).bind fun v3 =>
condV v3
 (retV [(.int .i64 0)] r2.2)
 ((lload false 1 lptr v0).bind fun v5 =>
(alenV .string v5 r2.2).bind fun v6 =>
(abin Tryz.prog .gtr 3 (.tmp 10) (.const (.int .i64 12)) v6 (.int .i64 12)).bind fun v7 =>
(guardV v7 false ((lload false 1 (.pointer (some ⟨0, 1, none⟩)) v0).bind fun v8 =>
(alenV .string v8 r2.2).bind fun v9 =>
(abin Tryz.prog .gtr 3 (.tmp 15) (.const (.int .i64 12)) v9 (.int .i64 12)).bind fun v10 =>
some ([v10], r2.2)) (some ([undef], r2.2))).bind fun q11 =>
(apick v7 (.bool true) (getL q11.1 0)).bind fun v12 =>
condV v12
 (joinK (span_Check.j0 R) [v12] q11.2)
 ((lload false 1 (.pointer (some ⟨0, 1, none⟩)) v0).bind fun v13 =>
(abin Tryz.prog .neq 9 (.tmp 19) (.const (.string ⟨#[]⟩)) v13 (.string ⟨#[]⟩)).bind fun v14 =>
(guardV v14 true ((lload false 1 lptr v0).bind fun v15 =>
(lload false 1 (.pointer (some ⟨0, 1, none⟩)) v0).bind fun v16 =>
(abin Tryz.prog .geq 9 (.tmp 23) (.tmp 25) v15 v16).bind fun v17 =>
some ([v17], q11.2)) (some ([undef], q11.2))).bind fun q18 =>
(apick v14 (getL q18.1 0) (.bool false)).bind fun v19 =>
joinK (span_Check.j0 R) [v19] q18.2))

theorem span_Check_of {lib : Lib} (hl : lib 36 = none) {x0 : Value} {s : St} {r : Value × St} (h : span_Check (run Tryz.prog lib hints) x0 s = some r) : run Tryz.prog lib hints 36 [x0] s = some r :=
  run_of hl Tryz.func36 (Eq.trans (by kernel_rfl) h)

theorem span_Check_ok : funcOk Tryz.prog 36 = true := by kernel_rfl
theorem span_Check_call {R : Caller} {xs : List Value} {s : St} : callV Tryz.prog R (.func (.func 36) #[] #[]) xs s = R 36 xs s := callV_eq span_Check_ok

/-! ### sumpter/record.CheckShard$1: 37 -/

noncomputable def record_CheckShard_1 (R : Caller) (x0 x1 : Value) (s : St) : Option (Value × St) :=
(lbox x0).bind fun v0 =>
(lload false 1 (.pointer (some ⟨0, 1, none⟩)) v0).bind fun v1 =>
(alenV (.slice 72) v1 s).bind fun v2 =>
(abin Tryz.prog .eql 3 (.tmp 6) (.const (.int .i64 0)) v2 (.int .i64 0)).bind fun v3 =>
(guardV v3 false ((lload false 1 (.pointer (some ⟨0, 1, none⟩)) v0).bind fun v4 =>
(alenV (.slice 72) v4 s).bind fun v5 =>
(abin Tryz.prog .gtr 3 (.tmp 11) (.const (.int .i64 24)) v5 (.int .i64 24)).bind fun v6 =>
some ([v6], s)) (some ([undef], s))).bind fun q7 =>
(apick v3 (.bool true) (getL q7.1 0)).bind fun v8 =>
(guardV v8 false ((afieldAddr 7 x1).bind fun v9 =>
(aload false 1 v9 q7.2).bind fun v10 =>
(lload false 1 lptr v0).bind fun v11 =>
(callV Tryz.prog R (.func (.func 38) #[] #[]) [v10, v11] q7.2).bind fun r12 =>
some ([r12.1], r12.2)) (some ([undef], q7.2))).bind fun q13 =>
(apick v8 (.bool true) (getL q13.1 0)).bind fun v14 =>
(guardV v14 false ((lload false 1 (.pointer (some ⟨0, 1, none⟩)) v0).bind fun v15 =>
(callV Tryz.prog R (.func (.func 39) #[] #[]) [v15, (.func (.func 40) #[] #[])] q13.2).bind fun r16 =>
some ([r16.1], r16.2)) (some ([undef], q13.2))).bind fun q17 =>
(apick v14 (.bool true) (getL q17.1 0)).bind fun v18 =>
retV [v18] q17.2

theorem record_CheckShard_1_of {lib : Lib} (hl : lib 37 = none) {x0 x1 : Value} {s : St} {r : Value × St} (h : record_CheckShard_1 (run Tryz.prog lib hints) x0 x1 s = some r) : run Tryz.prog lib hints 37 [x0, x1] s = some r :=
  run_of hl Tryz.func37 (Eq.trans (by kernel_rfl) h)

theorem record_CheckShard_1_ok : funcOk Tryz.prog 37 = true := by kernel_rfl
/-! ### slices.Contains[[]uint64,uint64]: 38 -/

noncomputable def slices_Contains_uint64_uint64 (R : Caller) (x0 x1 : Value) (s : St) : Option (Value × St) :=
(callV Tryz.prog R (.func (.func 105) #[] #[]) [x0, x1] s).bind fun r0 =>
(abin Tryz.prog .geq 3 (.tmp 7) (.const (.int .i64 0)) r0.1 (.int .i64 0)).bind fun v1 =>
retV [v1] r0.2

theorem slices_Contains_uint64_uint64_of {lib : Lib} (hl : lib 38 = none) {x0 x1 : Value} {s : St} {r : Value × St} (h : slices_Contains_uint64_uint64 (run Tryz.prog lib hints) x0 x1 s = some r) : run Tryz.prog lib hints 38 [x0, x1] s = some r :=
  run_of hl Tryz.func38 (Eq.trans (by kernel_rfl) h)

theorem slices_Contains_uint64_uint64_ok : funcOk Tryz.prog 38 = true := by kernel_rfl
theorem slices_Contains_uint64_uint64_call {R : Caller} {xs : List Value} {s : St} : callV Tryz.prog R (.func (.func 38) #[] #[]) xs s = R 38 xs s := callV_eq slices_Contains_uint64_uint64_ok

/-! ### slices.ContainsFunc[[]sumpter/api.Op,sumpter/api.Op]: 39 -/

noncomputable def slices_ContainsFunc_api_Op_api_Op (R : Caller) (x0 x1 : Value) (s : St) : Option (Value × St) :=
(callV Tryz.prog R (.func (.func 106) #[] #[]) [x0, x1] s).bind fun r0 =>
(abin Tryz.prog .geq 3 (.tmp 7) (.const (.int .i64 0)) r0.1 (.int .i64 0)).bind fun v1 =>
retV [v1] r0.2

theorem slices_ContainsFunc_api_Op_api_Op_of {lib : Lib} (hl : lib 39 = none) {x0 x1 : Value} {s : St} {r : Value × St} (h : slices_ContainsFunc_api_Op_api_Op (run Tryz.prog lib hints) x0 x1 s = some r) : run Tryz.prog lib hints 39 [x0, x1] s = some r :=
  run_of hl Tryz.func39 (Eq.trans (by kernel_rfl) h)

theorem slices_ContainsFunc_api_Op_api_Op_ok : funcOk Tryz.prog 39 = true := by kernel_rfl
theorem slices_ContainsFunc_api_Op_api_Op_call {R : Caller} {xs : List Value} {s : St} : callV Tryz.prog R (.func (.func 39) #[] #[]) xs s = R 39 xs s := callV_eq slices_ContainsFunc_api_Op_api_Op_ok

/-! ### sumpter/record.CheckShard$1$1: 40 -/

noncomputable def record_CheckShard_1_1 (R : Caller) (x0 : Value) (s : St) : Option (Value × St) :=
(lbox x0).bind fun v0 =>
(lload true 6 lptr v0).bind fun v1 =>
(callV Tryz.prog R (.func (.func 41) #[] #[]) [v1] s).bind fun r2 =>
(abin Tryz.prog .neq 38 (.tmp 4) (.const (.int .i64 0)) r2.1 (.int .i64 0)).bind fun v3 =>
retV [v3] r2.2

theorem record_CheckShard_1_1_of {lib : Lib} (hl : lib 40 = none) {x0 : Value} {s : St} {r : Value × St} (h : record_CheckShard_1_1 (run Tryz.prog lib hints) x0 s = some r) : run Tryz.prog lib hints 40 [x0] s = some r :=
  run_of hl Tryz.func40 (Eq.trans (by kernel_rfl) h)

theorem record_CheckShard_1_1_ok : funcOk Tryz.prog 40 = true := by kernel_rfl
theorem record_CheckShard_1_1_call {R : Caller} {xs : List Value} {s : St} : callV Tryz.prog R (.func (.func 40) #[] #[]) xs s = R 40 xs s := callV_eq record_CheckShard_1_1_ok

/-! ### sumpter/op.CheckOp: 41 -/

noncomputable def op_CheckOp.j0 (R : Caller) (T : List Value) (s : St) : Option (Value × St) :=
condV (getL T 2)
 (retV [(.int .i64 40)] s)
 ((afieldAddr 0 (getL T 1)).bind fun v8 =>
(lload false 1 v8 (getL T 4)).bind fun v9 =>
(guardV v9 true ((afieldAddr 1 (getL T 0)).bind fun v10 =>
(lload false 1 v10 (getL T 3)).bind fun v11 =>
(callV Tryz.prog R (.func (.func 103) #[] #[]) [v11] s).bind fun r12 =>
(abin Tryz.prog .neq 38 (.tmp 53) (.const (.int .i64 0)) r12.1 (.int .i64 0)).bind fun v13 =>
some ([v13], r12.2)) (some ([undef], s))).bind fun q14 =>
(apick v9 (getL q14.1 0) (.bool false)).bind fun v15 =>
condV v15
 (retV [(.int .i64 20)] q14.2)
 ((afieldAddr 2 (getL T 0)).bind fun v16 =>
(lload false 1 v16 (getL T 3)).bind fun v17 =>
(alenV .string v17 q14.2).bind fun v18 =>
(abin Tryz.prog .gtr 3 (.tmp 59) (.const (.int .i64 16)) v18 (.int .i64 16)).bind fun v19 =>
condV v19
 (retV [(.int .i64 2)] q14.2)
 ((afieldAddr 2 (getL T 1)).bind fun v20 =>
(lload false 1 v20 (getL T 4)).bind fun v21 =>
(guardV v21 true ((lload true 6 (getL T 0) (getL T 3)).bind fun v22 =>
(callV Tryz.prog R (.func (.func 108) #[] #[]) [v22] q14.2).bind fun r23 =>
(callV Tryz.prog R (.func (.func 36) #[] #[]) [r23.1] r23.2).bind fun r24 =>
(abin Tryz.prog .neq 38 (.tmp 67) (.const (.int .i64 0)) r24.1 (.int .i64 0)).bind fun v25 =>
some ([v25], r24.2)) (some ([undef], q14.2))).bind fun q26 =>
(apick v21 (getL q26.1 0) (.bool false)).bind fun v27 =>
condV v27
 (retV [(.int .i64 21)] q26.2)
 ((afieldAddr 3 (getL T 1)).bind fun v28 =>
(lload false 1 v28 (getL T 4)).bind fun v29 =>
(guardV v29 true ((afieldAddr 5 (getL T 0)).bind fun v30 =>
(lload false 1 v30 (getL T 3)).bind fun v31 =>
(abin Tryz.prog .lss 3 (.tmp 75) (.const (.int .i64 1)) v31 (.int .i64 1)).bind fun v32 =>
some ([v32], q26.2)) (some ([undef], q26.2))).bind fun q33 =>
(guardV (getL q33.1 0) false ((afieldAddr 5 (getL T 0)).bind fun v34 =>
(lload false 1 v34 (getL T 3)).bind fun v35 =>
(abin Tryz.prog .gtr 3 (.tmp 79) (.const (.int .i64 4)) v35 (.int .i64 4)).bind fun v36 =>
some ([v36], q33.2)) (some ([undef], q33.2))).bind fun q37 =>
(guardV v29 true ((apick (getL q33.1 0) (.bool true) (getL q37.1 0)).bind fun v38 =>
some ([v38], q37.2)) (some ([undef], q37.2))).bind fun q39 =>
(apick v29 (getL q39.1 0) (.bool false)).bind fun v40 =>
condV v40
 (retV [(.int .i64 1)] q39.2)
 (retV [(.int .i64 0)] q39.2)))))

noncomputable def op_CheckOp (R : Caller) (x0 : Value) (s : St) : Option (Value × St) :=
(lbox x0).bind fun v0 =>
(lload false 1 lptr v0).bind fun v1 =>
(callV Tryz.prog R (.func (.func 107) #[] #[]) [v1] s).bind fun r2 =>
(aextract 0 r2.1).bind fun v3 =>
(aextract 1 r2.1).bind fun v4 =>
(lstore 6 lptr v3 (.agg #[(.bool false), (.bool false), (.bool false), (.bool false), (.bool false), .nilFunc])).bind fun v5 =>
(aun .not v4).bind fun v7 =>
condV v7
 (joinK (op_CheckOp.j0 R) [lptr, lptr, v7, v0, v5] r2.2)
 ((lload false 1 lptr v5).bind fun v41 =>
(aun .not v41).bind fun v42 =>
(guardV v42 true ((lload false 1 (.pointer (some ⟨0, 1, none⟩)) v0).bind fun v43 =>
(abin Tryz.prog .neq 9 (.tmp 19) (.const (.string ⟨#[]⟩)) v43 (.string ⟨#[]⟩)).bind fun v44 =>
some ([v44], r2.2)) (some ([undef], r2.2))).bind fun q45 =>
(apick v42 (getL q45.1 0) (.bool false)).bind fun v46 =>
condV v46
 (joinK (op_CheckOp.j0 R) [lptr, lptr, v46, v0, v5] q45.2)
 ((lload false 1 (.pointer (some ⟨0, 1, none⟩)) v5).bind fun v47 =>
(aun .not v47).bind fun v48 =>
(guardV v48 true ((lload false 1 (.pointer (some ⟨0, 2, none⟩)) v0).bind fun v49 =>
(abin Tryz.prog .neq 9 (.tmp 27) (.const (.string ⟨#[]⟩)) v49 (.string ⟨#[]⟩)).bind fun v50 =>
some ([v50], q45.2)) (some ([undef], q45.2))).bind fun q51 =>
(apick v48 (getL q51.1 0) (.bool false)).bind fun v52 =>
condV v52
 (joinK (op_CheckOp.j0 R) [lptr, lptr, v52, v0, v5] q51.2)
 ((lload false 1 (.pointer (some ⟨0, 2, none⟩)) v5).bind fun v53 =>
(aun .not v53).bind fun v54 =>
(guardV v54 true ((lload true 6 lptr v0).bind fun v55 =>
(callV Tryz.prog R (.func (.func 108) #[] #[]) [v55] q51.2).bind fun r56 =>
(abin Tryz.prog .neq 27 (.tmp 35) (.tmp 36) r56.1 (.agg #[(.string ⟨#[]⟩), (.string ⟨#[]⟩)])).bind fun v57 =>
some ([v57], r56.2)) (some ([undef], q51.2))).bind fun q58 =>
(apick v54 (getL q58.1 0) (.bool false)).bind fun v59 =>
condV v59
 (joinK (op_CheckOp.j0 R) [lptr, lptr, v59, v0, v5] q58.2)
 ((lload false 1 (.pointer (some ⟨0, 3, none⟩)) v5).bind fun v60 =>
(aun .not v60).bind fun v61 =>
(guardV v61 true ((lload false 1 (.pointer (some ⟨0, 5, none⟩)) v0).bind fun v62 =>
(abin Tryz.prog .neq 3 (.tmp 44) (.const (.int .i64 0)) v62 (.int .i64 0)).bind fun v63 =>
some ([v63], q58.2)) (some ([undef], q58.2))).bind fun q64 =>
(apick v61 (getL q64.1 0) (.bool false)).bind fun v65 =>
joinK (op_CheckOp.j0 R) [lptr, lptr, v65, v0, v5] q64.2))))

theorem op_CheckOp_of {lib : Lib} (hl : lib 41 = none) {x0 : Value} {s : St} {r : Value × St} (h : op_CheckOp (run Tryz.prog lib hints) x0 s = some r) : run Tryz.prog lib hints 41 [x0] s = some r :=
  run_of hl Tryz.func41 (Eq.trans (by kernel_rfl) h)

theorem op_CheckOp_ok : funcOk Tryz.prog 41 = true := by kernel_rfl
theorem op_CheckOp_call {R : Caller} {xs : List Value} {s : St} : callV Tryz.prog R (.func (.func 41) #[] #[]) xs s = R 41 xs s := callV_eq op_CheckOp_ok

/-! ### sumpter/record.want: 42 -/

noncomputable def record_want (R : Caller) (x0 : Value) (s : St) : Option (Value × St) :=
(aun .not x0).bind fun v0 =>
condV v0
 (retV [(.int .i64 1)] s)
 (retV [(.int .i64 0)] s)

theorem record_want_of {lib : Lib} (hl : lib 42 = none) {x0 : Value} {s : St} {r : Value × St} (h : record_want (run Tryz.prog lib hints) x0 s = some r) : run Tryz.prog lib hints 42 [x0] s = some r :=
  run_of hl Tryz.func42 (Eq.trans (by kernel_rfl) h)

theorem record_want_ok : funcOk Tryz.prog 42 = true := by kernel_rfl
theorem record_want_call {R : Caller} {xs : List Value} {s : St} : callV Tryz.prog R (.func (.func 42) #[] #[]) xs s = R 42 xs s := callV_eq record_want_ok

/-! ### slices.ContainsFunc[[]sumpter/api.Hold,sumpter/api.Hold]: 43 -/

noncomputable def slices_ContainsFunc_api_Hold_api_Hold (R : Caller) (x0 x1 : Value) (s : St) : Option (Value × St) :=
(callV Tryz.prog R (.func (.func 109) #[] #[]) [x0, x1] s).bind fun r0 =>
(abin Tryz.prog .geq 3 (.tmp 7) (.const (.int .i64 0)) r0.1 (.int .i64 0)).bind fun v1 =>
retV [v1] r0.2

theorem slices_ContainsFunc_api_Hold_api_Hold_of {lib : Lib} (hl : lib 43 = none) {x0 x1 : Value} {s : St} {r : Value × St} (h : slices_ContainsFunc_api_Hold_api_Hold (run Tryz.prog lib hints) x0 x1 s = some r) : run Tryz.prog lib hints 43 [x0, x1] s = some r :=
  run_of hl Tryz.func43 (Eq.trans (by kernel_rfl) h)

theorem slices_ContainsFunc_api_Hold_api_Hold_ok : funcOk Tryz.prog 43 = true := by kernel_rfl
theorem slices_ContainsFunc_api_Hold_api_Hold_call {R : Caller} {xs : List Value} {s : St} : callV Tryz.prog R (.func (.func 43) #[] #[]) xs s = R 43 xs s := callV_eq slices_ContainsFunc_api_Hold_api_Hold_ok

/-! ### sumpter/record.rising[sumpter/api.Hold]: 44 -/

noncomputable def record_rising_api_Hold.b0 (R : Caller) (T : List Value) (s : St) : Res :=
(abin Tryz.prog .lss 3 (.tmp 8) (.tmp 7) (getL T 3) (getL T 2)).bind fun v1 =>
condV v1
 ((abin Tryz.prog .gtr 3 (.tmp 11) (.const (.int .i64 0)) (getL T 3) (.int .i64 0)).bind fun v2 =>
(guardV v2 true (some ([(getL T 1)], s)) (some ([undef], s))).bind fun q3 =>
(guardV v2 true (some ([(getL T 0)], q3.2)) (some ([undef], q3.2))).bind fun q4 =>
(guardV v2 true (some ([(getL T 3)], q4.2)) (some ([undef], q4.2))).bind fun q5 =>
(guardV v2 true ((abin Tryz.prog .sub 3 (.tmp 16) (.const (.int .i64 1)) (getL q5.1 0) (.int .i64 1)).bind fun v6 =>
some ([v6], q5.2)) (some ([undef], q5.2))).bind fun q7 =>
(guardV v2 true ((aindexS 2 (getL q4.1 0) (getL q7.1 0)).bind fun v8 =>
some ([v8], q7.2)) (some ([undef], q7.2))).bind fun q9 =>
(guardV v2 true ((aload true 2 (getL q9.1 0) (frzS q9.2)).bind fun v26 =>
some (v26, (frzS q9.2))) (some (undef, (frzS q9.2)))).bind fun r10 =>
((guardV v2 true ((callV Tryz.prog R (getL q3.1 0) [r10.1] (frzS q9.2)).bind fun r25 =>
some (r25.1, r25.2)) (some (undef, (frzS q9.2)))).map (quietR q9.2)).bind fun r11 =>
(guardV v2 true (some ([(getL T 1)], r11.2)) (some ([undef], r11.2))).bind fun q12 =>
(guardV v2 true (some ([(getL T 0)], q12.2)) (some ([undef], q12.2))).bind fun q13 =>
(guardV v2 true (some ([(getL T 3)], q13.2)) (some ([undef], q13.2))).bind fun q14 =>
(guardV v2 true ((aindexS 2 (getL q13.1 0) (getL q14.1 0)).bind fun v15 =>
some ([v15], q14.2)) (some ([undef], q14.2))).bind fun q16 =>
(guardV v2 true ((aload true 2 (getL q16.1 0) (frzS q16.2)).bind fun v24 =>
some (v24, (frzS q16.2))) (some (undef, (frzS q16.2)))).bind fun r17 =>
((guardV v2 true ((callV Tryz.prog R (getL q12.1 0) [r17.1] q16.2).bind fun r23 =>
some (r23.1, r23.2)) (some (undef, q16.2))).bind (ownR q16.2)).bind fun r18 =>
(guardV v2 true ((abin Tryz.prog .geq 22 (.tmp 20) (.tmp 26) r11.1 r18.1).bind fun v19 =>
some ([v19], r18.2)) (some ([undef], r18.2))).bind fun q20 =>
(apick v2 (getL q20.1 0) (.bool false)).bind fun v21 =>
condV v21
 (some (.ret, [(.bool false)], q20.2))
 ((abin Tryz.prog .add 3 (.tmp 8) (.const (.int .i64 1)) (getL T 3) (.int .i64 1)).bind fun v22 =>
some (.normal, [(getL T 0), (getL T 1), (getL T 2), v22], q20.2)))
 (some (.exit 0, [], s))

noncomputable def record_rising_api_Hold (R : Caller) (x0 x1 : Value) (s : St) : Option (Value × St) :=
(alenV (.slice 64) x0 s).bind fun v0 =>
(loopL (record_rising_api_Hold.b0 R) [x0, x1, v0, (.int .i64 0)] s).bind fun r27 =>
exV r27.1 [(0, retV [(.bool true)] r27.2.2)]
 (retV [(getL r27.2.1 0)] r27.2.2)

theorem record_rising_api_Hold_of {lib : Lib} (hl : lib 44 = none) {x0 x1 : Value} {s : St} {r : Value × St} (h : record_rising_api_Hold (run Tryz.prog lib hints) x0 x1 s = some r) : run Tryz.prog lib hints 44 [x0, x1] s = some r :=
  run_of hl Tryz.func44 (Eq.trans (by kernel_rfl) h)

theorem record_rising_api_Hold_ok : funcOk Tryz.prog 44 = true := by kernel_rfl
theorem record_rising_api_Hold_call {R : Caller} {xs : List Value} {s : St} : callV Tryz.prog R (.func (.func 44) #[] #[]) xs s = R 44 xs s := callV_eq record_rising_api_Hold_ok

/-! ### sumpter/record.CheckShard$2: 45 -/

noncomputable def record_CheckShard_2 (R : Caller) (x0 : Value) (s : St) : Option (Value × St) :=
(lbox x0).bind fun v0 =>
(lload false 1 lptr v0).bind fun v1 =>
retV [v1] s

theorem record_CheckShard_2_of {lib : Lib} (hl : lib 45 = none) {x0 : Value} {s : St} {r : Value × St} (h : record_CheckShard_2 (run Tryz.prog lib hints) x0 s = some r) : run Tryz.prog lib hints 45 [x0] s = some r :=
  run_of hl Tryz.func45 (Eq.trans (by kernel_rfl) h)

theorem record_CheckShard_2_ok : funcOk Tryz.prog 45 = true := by kernel_rfl
theorem record_CheckShard_2_call {R : Caller} {xs : List Value} {s : St} : callV Tryz.prog R (.func (.func 45) #[] #[]) xs s = R 45 xs s := callV_eq record_CheckShard_2_ok

/-! ### sumpter/record.rising[uint64]: 46 -/

noncomputable def record_rising_uint64.b0 (R : Caller) (T : List Value) (s : St) : Res :=
(abin Tryz.prog .lss 3 (.tmp 8) (.tmp 7) (getL T 3) (getL T 2)).bind fun v1 =>
condV v1
 ((abin Tryz.prog .gtr 3 (.tmp 11) (.const (.int .i64 0)) (getL T 3) (.int .i64 0)).bind fun v2 =>
(guardV v2 true (some ([(getL T 1)], s)) (some ([undef], s))).bind fun q3 =>
(guardV v2 true (some ([(getL T 0)], q3.2)) (some ([undef], q3.2))).bind fun q4 =>
(guardV v2 true (some ([(getL T 3)], q4.2)) (some ([undef], q4.2))).bind fun q5 =>
(guardV v2 true ((abin Tryz.prog .sub 3 (.tmp 16) (.const (.int .i64 1)) (getL q5.1 0) (.int .i64 1)).bind fun v6 =>
some ([v6], q5.2)) (some ([undef], q5.2))).bind fun q7 =>
(guardV v2 true ((aindexS 1 (getL q4.1 0) (getL q7.1 0)).bind fun v8 =>
some ([v8], q7.2)) (some ([undef], q7.2))).bind fun q9 =>
(guardV v2 true ((aload false 1 (getL q9.1 0) (frzS q9.2)).bind fun v26 =>
some (v26, (frzS q9.2))) (some (undef, (frzS q9.2)))).bind fun r10 =>
((guardV v2 true ((callV Tryz.prog R (getL q3.1 0) [r10.1] (frzS q9.2)).bind fun r25 =>
some (r25.1, r25.2)) (some (undef, (frzS q9.2)))).map (quietR q9.2)).bind fun r11 =>
(guardV v2 true (some ([(getL T 1)], r11.2)) (some ([undef], r11.2))).bind fun q12 =>
(guardV v2 true (some ([(getL T 0)], q12.2)) (some ([undef], q12.2))).bind fun q13 =>
(guardV v2 true (some ([(getL T 3)], q13.2)) (some ([undef], q13.2))).bind fun q14 =>
(guardV v2 true ((aindexS 1 (getL q13.1 0) (getL q14.1 0)).bind fun v15 =>
some ([v15], q14.2)) (some ([undef], q14.2))).bind fun q16 =>
(guardV v2 true ((aload false 1 (getL q16.1 0) (frzS q16.2)).bind fun v24 =>
some (v24, (frzS q16.2))) (some (undef, (frzS q16.2)))).bind fun r17 =>
((guardV v2 true ((callV Tryz.prog R (getL q12.1 0) [r17.1] q16.2).bind fun r23 =>
some (r23.1, r23.2)) (some (undef, q16.2))).bind (ownR q16.2)).bind fun r18 =>
(guardV v2 true ((abin Tryz.prog .geq 22 (.tmp 20) (.tmp 26) r11.1 r18.1).bind fun v19 =>
some ([v19], r18.2)) (some ([undef], r18.2))).bind fun q20 =>
(apick v2 (getL q20.1 0) (.bool false)).bind fun v21 =>
condV v21
 (some (.ret, [(.bool false)], q20.2))
 ((abin Tryz.prog .add 3 (.tmp 8) (.const (.int .i64 1)) (getL T 3) (.int .i64 1)).bind fun v22 =>
some (.normal, [(getL T 0), (getL T 1), (getL T 2), v22], q20.2)))
 (some (.exit 0, [], s))

noncomputable def record_rising_uint64 (R : Caller) (x0 x1 : Value) (s : St) : Option (Value × St) :=
(alenV (.slice 22) x0 s).bind fun v0 =>
(loopL (record_rising_uint64.b0 R) [x0, x1, v0, (.int .i64 0)] s).bind fun r27 =>
exV r27.1 [(0, retV [(.bool true)] r27.2.2)]
 (retV [(getL r27.2.1 0)] r27.2.2)

theorem record_rising_uint64_of {lib : Lib} (hl : lib 46 = none) {x0 x1 : Value} {s : St} {r : Value × St} (h : record_rising_uint64 (run Tryz.prog lib hints) x0 x1 s = some r) : run Tryz.prog lib hints 46 [x0, x1] s = some r :=
  run_of hl Tryz.func46 (Eq.trans (by kernel_rfl) h)

theorem record_rising_uint64_ok : funcOk Tryz.prog 46 = true := by kernel_rfl
theorem record_rising_uint64_call {R : Caller} {xs : List Value} {s : St} : callV Tryz.prog R (.func (.func 46) #[] #[]) xs s = R 46 xs s := callV_eq record_rising_uint64_ok

/-! ### sumpter/record.CheckShard$3: 47 -/

noncomputable def record_CheckShard_3 (R : Caller) (x0 : Value) (s : St) : Option (Value × St) :=
retV [x0] s

theorem record_CheckShard_3_of {lib : Lib} (hl : lib 47 = none) {x0 : Value} {s : St} {r : Value × St} (h : record_CheckShard_3 (run Tryz.prog lib hints) x0 s = some r) : run Tryz.prog lib hints 47 [x0] s = some r :=
  run_of hl Tryz.func47 (Eq.trans (by kernel_rfl) h)

theorem record_CheckShard_3_ok : funcOk Tryz.prog 47 = true := by kernel_rfl
theorem record_CheckShard_3_call {R : Caller} {xs : List Value} {s : St} : callV Tryz.prog R (.func (.func 47) #[] #[]) xs s = R 47 xs s := callV_eq record_CheckShard_3_ok

/-! ### sumpter/sumpterref17.Check: 48 -/

noncomputable def ref17_Check.b0 (R : Caller) (T : List Value) (s : St) : Res :=
(abin Tryz.prog .lss 3 (.tmp 22) (.tmp 21) (getL T 3) (getL T 2)).bind fun v13 =>
condV v13
 ((aindexS 2 (getL T 1) (getL T 3)).bind fun v14 =>
(aload true 2 v14 s).bind fun v15 =>
(lstore 2 lptr v15 (.agg #[(.string ⟨#[]⟩), (.int .i64 0)])).bind fun v16 =>
(lload false 1 (.pointer (some ⟨0, 1, none⟩)) v16).bind fun v17 =>
(abin Tryz.prog .lss 3 (.tmp 28) (.const (.int .i64 1)) v17 (.int .i64 1)).bind fun v18 =>
(guardV v18 false (some ([(.pointer (some ⟨0, 1, none⟩))], s)) (some ([undef], s))).bind fun q19 =>
(guardV v18 false ((lload false 1 (getL q19.1 0) v16).bind fun v20 =>
some ([v20], q19.2)) (some ([undef], q19.2))).bind fun q21 =>
(guardV v18 false ((abin Tryz.prog .gtr 3 (.tmp 32) (.const (.int .i64 4)) (getL q21.1 0) (.int .i64 4)).bind fun v22 =>
some ([v22], q21.2)) (some ([undef], q21.2))).bind fun q23 =>
(apick v18 (.bool true) (getL q23.1 0)).bind fun v24 =>
(guardV v24 false (some ([(getL T 3)], q23.2)) (some ([undef], q23.2))).bind fun q25 =>
(guardV v24 false ((abin Tryz.prog .gtr 3 (.tmp 36) (.const (.int .i64 0)) (getL q25.1 0) (.int .i64 0)).bind fun v26 =>
some ([v26], q25.2)) (some ([undef], q25.2))).bind fun q27 =>
(guardV v24 false (some ([(getL q27.1 0)], q27.2)) (some ([undef], q27.2))).bind fun q28 =>
(guardV (getL q28.1 0) true (some ([lptr], q28.2)) (some ([undef], q28.2))).bind fun q29 =>
(guardV (getL q28.1 0) true ((lload false 1 (getL q29.1 0) v16).bind fun v30 =>
some ([v30], q29.2)) (some ([undef], q29.2))).bind fun q31 =>
((guardV (getL q28.1 0) true ((callV Tryz.prog R (.func (.func 110) #[] #[]) [(getL q31.1 0)] q31.2).bind fun r57 =>
some (r57.1, r57.2)) (some (undef, q31.2))).bind (ownR q31.2)).bind fun r32 =>
(guardV (getL q28.1 0) true ((abin Tryz.prog .neq 38 (.tmp 41) (.const (.int .i64 0)) r32.1 (.int .i64 0)).bind fun v33 =>
some ([v33], r32.2)) (some ([undef], r32.2))).bind fun q34 =>
(guardV (getL q28.1 0) true (some ([(getL q34.1 0)], q34.2)) (some ([undef], q34.2))).bind fun q35 =>
(guardV (getL q35.1 0) false (some ([(getL T 0)], q35.2)) (some ([undef], q35.2))).bind fun q36 =>
(guardV (getL q35.1 0) false (some ([(getL T 3)], q36.2)) (some ([undef], q36.2))).bind fun q37 =>
(guardV (getL q35.1 0) false ((abin Tryz.prog .sub 3 (.tmp 45) (.const (.int .i64 1)) (getL q37.1 0) (.int .i64 1)).bind fun v38 =>
some ([v38], q37.2)) (some ([undef], q37.2))).bind fun q39 =>
(guardV (getL q35.1 0) false ((aindexS 2 (getL q36.1 0) (getL q39.1 0)).bind fun v40 =>
some ([v40], q39.2)) (some ([undef], q39.2))).bind fun q41 =>
(guardV (getL q35.1 0) false ((afieldAddr 0 (getL q41.1 0)).bind fun v42 =>
some ([v42], q41.2)) (some ([undef], q41.2))).bind fun q43 =>
((guardV (getL q35.1 0) false ((aload false 1 (getL q43.1 0) q43.2).bind fun v56 =>
some (v56, q43.2)) (some (undef, q43.2))).bind (ownR q43.2)).bind fun r44 =>
(guardV (getL q35.1 0) false (some ([lptr], r44.2)) (some ([undef], r44.2))).bind fun q45 =>
(guardV (getL q35.1 0) false ((lload false 1 (getL q45.1 0) v16).bind fun v46 =>
some ([v46], q45.2)) (some ([undef], q45.2))).bind fun q47 =>
(guardV (getL q35.1 0) false ((abin Tryz.prog .geq 9 (.tmp 49) (.tmp 51) r44.1 (getL q47.1 0)).bind fun v48 =>
some ([v48], q47.2)) (some ([undef], q47.2))).bind fun q49 =>
(guardV (getL q28.1 0) true ((apick (getL q35.1 0) (.bool true) (getL q49.1 0)).bind fun v50 =>
some ([v50], q49.2)) (some ([undef], q49.2))).bind fun q51 =>
(guardV v24 false ((apick (getL q28.1 0) (getL q51.1 0) (.bool false)).bind fun v52 =>
some ([v52], q51.2)) (some ([undef], q51.2))).bind fun q53 =>
(apick v24 (.bool true) (getL q53.1 0)).bind fun v54 =>
condV v54
 (some (.ret, [(.int .i64 170)], q53.2))
 ((abin Tryz.prog .add 3 (.tmp 22) (.const (.int .i64 1)) (getL T 3) (.int .i64 1)).bind fun v55 =>
some (.normal, [(getL T 0), (getL T 1), (getL T 2), v55], q53.2)))
 (some (.exit 0, [], s))

noncomputable def ref17_Check (R : Caller) (x0 : Value) (s : St) : Option (Value × St) :=
(alenV (.slice 54) x0 s).bind fun v0 =>
(abin Tryz.prog .lss 3 (.tmp 6) (.const (.int .i64 1)) v0 (.int .i64 1)).bind fun v1 =>
(guardV v1 false ((alenV (.slice 54) x0 s).bind fun v2 =>
(abin Tryz.prog .gtr 3 (.tmp 10) (.const (.int .i64 6)) v2 (.int .i64 6)).bind fun v3 =>
some ([v3], s)) (some ([undef], s))).bind fun q4 =>
(apick v1 (.bool true) (getL q4.1 0)).bind fun v5 =>
(guardV v5 false ((aindexS 2 x0 (.int .i64 0)).bind fun v6 =>
(afieldAddr 0 v6).bind fun v7 =>
(aload false 1 v7 q4.2).bind fun v8 =>
(abin Tryz.prog .neq 9 (.tmp 17) (.const (.string ⟨#[]⟩)) v8 (.string ⟨#[]⟩)).bind fun v9 =>
some ([v9], q4.2)) (some ([undef], q4.2))).bind fun q10 =>
(apick v5 (.bool true) (getL q10.1 0)).bind fun v11 =>
condV v11
 (retV [(.int .i64 170)] q10.2)
 ((alenV (.slice 54) x0 q10.2).bind fun v12 =>
(loopL (ref17_Check.b0 R) [x0, x0, v12, (.int .i64 0)] q10.2).bind fun r58 =>
exV r58.1 [(0, retV [(.int .i64 0)] r58.2.2)]
 (retV [(getL r58.2.1 0)] r58.2.2))

theorem ref17_Check_of {lib : Lib} (hl : lib 48 = none) {x0 : Value} {s : St} {r : Value × St} (h : ref17_Check (run Tryz.prog lib hints) x0 s = some r) : run Tryz.prog lib hints 48 [x0] s = some r :=
  run_of hl Tryz.func48 (Eq.trans (by kernel_rfl) h)

theorem ref17_Check_ok : funcOk Tryz.prog 48 = true := by kernel_rfl
theorem ref17_Check_call {R : Caller} {xs : List Value} {s : St} : callV Tryz.prog R (.func (.func 48) #[] #[]) xs s = R 48 xs s := callV_eq ref17_Check_ok

/-! ### sumpter/sumpterref02.Check: 49 -/

noncomputable def ref02_Check (R : Caller) (x0 : Value) (s : St) : Option (Value × St) :=
(lbox x0).bind fun v0 =>
(lload false 1 lptr v0).bind fun v1 =>
(alenV .string v1 s).bind fun v2 =>
(abin Tryz.prog .gtr 3 (.tmp 5) (.const (.int .i64 12)) v2 (.int .i64 12)).bind fun v3 =>
(guardV v3 false ((lload false 1 (.pointer (some ⟨0, 1, none⟩)) v0).bind fun v4 =>
(alenV .string v4 s).bind fun v5 =>
(abin Tryz.prog .gtr 3 (.tmp 10) (.const (.int .i64 12)) v5 (.int .i64 12)).bind fun v6 =>
some ([v6], s)) (some ([undef], s))).bind fun q7 =>
(apick v3 (.bool true) (getL q7.1 0)).bind fun v8 =>
(guardV v8 false ((lload false 1 (.pointer (some ⟨0, 1, none⟩)) v0).bind fun v9 =>
(abin Tryz.prog .neq 9 (.tmp 15) (.const (.string ⟨#[]⟩)) v9 (.string ⟨#[]⟩)).bind fun v10 =>
some ([v10], q7.2)) (some ([undef], q7.2))).bind fun q11 =>
(guardV (getL q11.1 0) true ((lload false 1 lptr v0).bind fun v12 =>
(lload false 1 (.pointer (some ⟨0, 1, none⟩)) v0).bind fun v13 =>
(abin Tryz.prog .geq 9 (.tmp 19) (.tmp 21) v12 v13).bind fun v14 =>
some ([v14], q11.2)) (some ([undef], q11.2))).bind fun q15 =>
(guardV v8 false ((apick (getL q11.1 0) (getL q15.1 0) (.bool false)).bind fun v16 =>
some ([v16], q15.2)) (some ([undef], q15.2))).bind fun q17 =>
(apick v8 (.bool true) (getL q17.1 0)).bind fun v18 =>
condV v18
 (retV [(.int .i64 21)] q17.2)
 (retV [(.int .i64 0)] q17.2)

theorem ref02_Check_of {lib : Lib} (hl : lib 49 = none) {x0 : Value} {s : St} {r : Value × St} (h : ref02_Check (run Tryz.prog lib hints) x0 s = some r) : run Tryz.prog lib hints 49 [x0] s = some r :=
  run_of hl Tryz.func49 (Eq.trans (by kernel_rfl) h)

theorem ref02_Check_ok : funcOk Tryz.prog 49 = true := by kernel_rfl
theorem ref02_Check_call {R : Caller} {xs : List Value} {s : St} : callV Tryz.prog R (.func (.func 49) #[] #[]) xs s = R 49 xs s := callV_eq ref02_Check_ok

/-! ### sumpter/sumpterref04.All: 50 -/

noncomputable def ref04_All.b0 (R : Caller) (T : List Value) (s : St) : Res :=
(abin Tryz.prog .lss 3 (.tmp 8) (.tmp 7) (getL T 2) (getL T 1)).bind fun v1 =>
condV v1
 ((aindexS 6 (getL T 0) (getL T 2)).bind fun v2 =>
(aload true 6 v2 s).bind fun v3 =>
(lstore 6 lptr v3 (.agg #[(.int .i64 0), (.string ⟨#[]⟩), (.string ⟨#[]⟩), (.string ⟨#[]⟩), (.string ⟨#[]⟩), (.int .i64 0)])).bind fun v4 =>
(lload true 6 lptr v4).bind fun v5 =>
(callV Tryz.prog R (.func (.func 111) #[] #[]) [v5] s).bind fun r6 =>
(abin Tryz.prog .neq 38 (.tmp 14) (.const (.int .i64 0)) r6.1 (.int .i64 0)).bind fun v7 =>
condV v7
 (some (.ret, [r6.1], r6.2))
 ((abin Tryz.prog .add 3 (.tmp 8) (.const (.int .i64 1)) (getL T 2) (.int .i64 1)).bind fun v8 =>
some (.normal, [(getL T 0), (getL T 1), v8], r6.2)))
 (some (.exit 0, [], s))

noncomputable def ref04_All (R : Caller) (x0 : Value) (s : St) : Option (Value × St) :=
(alenV (.slice 72) x0 s).bind fun v0 =>
(loopL (ref04_All.b0 R) [x0, v0, (.int .i64 0)] s).bind fun r9 =>
exV r9.1 [(0, retV [(.int .i64 0)] r9.2.2)]
 (retV [(getL r9.2.1 0)] r9.2.2)

theorem ref04_All_of {lib : Lib} (hl : lib 50 = none) {x0 : Value} {s : St} {r : Value × St} (h : ref04_All (run Tryz.prog lib hints) x0 s = some r) : run Tryz.prog lib hints 50 [x0] s = some r :=
  run_of hl Tryz.func50 (Eq.trans (by kernel_rfl) h)

theorem ref04_All_ok : funcOk Tryz.prog 50 = true := by kernel_rfl
theorem ref04_All_call {R : Caller} {xs : List Value} {s : St} : callV Tryz.prog R (.func (.func 50) #[] #[]) xs s = R 50 xs s := callV_eq ref04_All_ok

/-! ### sumpter/record.CheckCoord$1: 51 -/

noncomputable def record_CheckCoord_1 (R : Caller) (x0 x1 : Value) (s : St) : Option (Value × St) :=
(abin Tryz.prog .lss 3 (.tmp 4) (.const (.int .i64 1)) x0 (.int .i64 1)).bind fun v0 =>
(guardV v0 false ((afieldAddr 0 x1).bind fun v1 =>
(aload false 1 v1 s).bind fun v2 =>
(abin Tryz.prog .gtr 3 (.tmp 7) (.tmp 9) x0 v2).bind fun v3 =>
some ([v3], s)) (some ([undef], s))).bind fun q4 =>
(apick v0 (.bool true) (getL q4.1 0)).bind fun v5 =>
retV [v5] q4.2

theorem record_CheckCoord_1_of {lib : Lib} (hl : lib 51 = none) {x0 x1 : Value} {s : St} {r : Value × St} (h : record_CheckCoord_1 (run Tryz.prog lib hints) x0 x1 s = some r) : run Tryz.prog lib hints 51 [x0, x1] s = some r :=
  run_of hl Tryz.func51 (Eq.trans (by kernel_rfl) h)

theorem record_CheckCoord_1_ok : funcOk Tryz.prog 51 = true := by kernel_rfl
/-! ### slices.ContainsFunc[[]sumpter/api.Owner,sumpter/api.Owner]: 52 -/

noncomputable def slices_ContainsFunc_api_Owner_api_Owner (R : Caller) (x0 x1 : Value) (s : St) : Option (Value × St) :=
(callV Tryz.prog R (.func (.func 112) #[] #[]) [x0, x1] s).bind fun r0 =>
(abin Tryz.prog .geq 3 (.tmp 7) (.const (.int .i64 0)) r0.1 (.int .i64 0)).bind fun v1 =>
retV [v1] r0.2

theorem slices_ContainsFunc_api_Owner_api_Owner_of {lib : Lib} (hl : lib 52 = none) {x0 x1 : Value} {s : St} {r : Value × St} (h : slices_ContainsFunc_api_Owner_api_Owner (run Tryz.prog lib hints) x0 x1 s = some r) : run Tryz.prog lib hints 52 [x0, x1] s = some r :=
  run_of hl Tryz.func52 (Eq.trans (by kernel_rfl) h)

theorem slices_ContainsFunc_api_Owner_api_Owner_ok : funcOk Tryz.prog 52 = true := by kernel_rfl
theorem slices_ContainsFunc_api_Owner_api_Owner_call {R : Caller} {xs : List Value} {s : St} : callV Tryz.prog R (.func (.func 52) #[] #[]) xs s = R 52 xs s := callV_eq slices_ContainsFunc_api_Owner_api_Owner_ok

/-! ### sumpter/record.CheckCoord$2: 53 -/

noncomputable def record_CheckCoord_2 (R : Caller) (x0 x1 : Value) (s : St) : Option (Value × St) :=
(lbox x0).bind fun v0 =>
(aload false 1 x1 s).bind fun v1 =>
(lload false 1 (.pointer (some ⟨0, 1, none⟩)) v0).bind fun v2 =>
(callV Tryz.prog R v1 [v2] s).bind fun r3 =>
retV [r3.1] r3.2

theorem record_CheckCoord_2_of {lib : Lib} (hl : lib 53 = none) {x0 x1 : Value} {s : St} {r : Value × St} (h : record_CheckCoord_2 (run Tryz.prog lib hints) x0 x1 s = some r) : run Tryz.prog lib hints 53 [x0, x1] s = some r :=
  run_of hl Tryz.func53 (Eq.trans (by kernel_rfl) h)

theorem record_CheckCoord_2_ok : funcOk Tryz.prog 53 = true := by kernel_rfl
/-! ### slices.ContainsFunc[[]sumpter/api.Decision,sumpter/api.Decision]: 54 -/

noncomputable def slices_ContainsFunc_api_Decision_api_Decision (R : Caller) (x0 x1 : Value) (s : St) : Option (Value × St) :=
(callV Tryz.prog R (.func (.func 113) #[] #[]) [x0, x1] s).bind fun r0 =>
(abin Tryz.prog .geq 3 (.tmp 7) (.const (.int .i64 0)) r0.1 (.int .i64 0)).bind fun v1 =>
retV [v1] r0.2

theorem slices_ContainsFunc_api_Decision_api_Decision_of {lib : Lib} (hl : lib 54 = none) {x0 x1 : Value} {s : St} {r : Value × St} (h : slices_ContainsFunc_api_Decision_api_Decision (run Tryz.prog lib hints) x0 x1 s = some r) : run Tryz.prog lib hints 54 [x0, x1] s = some r :=
  run_of hl Tryz.func54 (Eq.trans (by kernel_rfl) h)

theorem slices_ContainsFunc_api_Decision_api_Decision_ok : funcOk Tryz.prog 54 = true := by kernel_rfl
theorem slices_ContainsFunc_api_Decision_api_Decision_call {R : Caller} {xs : List Value} {s : St} : callV Tryz.prog R (.func (.func 54) #[] #[]) xs s = R 54 xs s := callV_eq slices_ContainsFunc_api_Decision_api_Decision_ok

/-! ### sumpter/record.CheckCoord$3: 55 -/

noncomputable def record_CheckCoord_3 (R : Caller) (x0 x1 x2 : Value) (s : St) : Option (Value × St) :=
(lbox x0).bind fun v0 =>
(lload false 1 lptr v0).bind fun v1 =>
(afieldAddr 1 x1).bind fun v2 =>
(aload false 1 v2 s).bind fun v3 =>
(abin Tryz.prog .add 22 (.tmp 8) (.const (.int .u64 1)) v3 (.int .u64 1)).bind fun v4 =>
(abin Tryz.prog .shl 22 (.tmp 9) (.const (.int .u64 32)) v4 (.int .u64 32)).bind fun v5 =>
(abin Tryz.prog .geq 22 (.tmp 6) (.tmp 10) v1 v5).bind fun v6 =>
(guardV v6 false ((lload false 1 (.pointer (some ⟨0, 1, none⟩)) v0).bind fun v7 =>
(callV Tryz.prog R (.func (.func 56) #[] #[]) [v7] s).bind fun r8 =>
(aun .not r8.1).bind fun v9 =>
some ([v9], r8.2)) (some ([undef], s))).bind fun q10 =>
(apick v6 (.bool true) (getL q10.1 0)).bind fun v11 =>
(guardV v11 false ((lload false 1 (.pointer (some ⟨0, 4, none⟩)) v0).bind fun v12 =>
(alenV (.slice 3) v12 q10.2).bind fun v13 =>
(abin Tryz.prog .eql 3 (.tmp 21) (.const (.int .i64 0)) v13 (.int .i64 0)).bind fun v14 =>
some ([v14], q10.2)) (some ([undef], q10.2))).bind fun q15 =>
(apick v11 (.bool true) (getL q15.1 0)).bind fun v16 =>
(guardV v16 false ((lload false 1 (.pointer (some ⟨0, 4, none⟩)) v0).bind fun v17 =>
(aload false 1 x2 q15.2).bind fun v18 =>
(callV Tryz.prog R (.func (.func 57) #[] #[]) [v17, v18] q15.2).bind fun r19 =>
some ([r19.1], r19.2)) (some ([undef], q15.2))).bind fun q20 =>
(apick v16 (.bool true) (getL q20.1 0)).bind fun v21 =>
(guardV v21 false ((lload false 1 (.pointer (some ⟨0, 4, none⟩)) v0).bind fun v22 =>
(callV Tryz.prog R (.func (.func 58) #[] #[]) [v22, (.func (.func 59) #[] #[])] q20.2).bind fun r23 =>
(aun .not r23.1).bind fun v24 =>
some ([v24], r23.2)) (some ([undef], q20.2))).bind fun q25 =>
(apick v21 (.bool true) (getL q25.1 0)).bind fun v26 =>
retV [v26] q25.2

theorem record_CheckCoord_3_of {lib : Lib} (hl : lib 55 = none) {x0 x1 x2 : Value} {s : St} {r : Value × St} (h : record_CheckCoord_3 (run Tryz.prog lib hints) x0 x1 x2 s = some r) : run Tryz.prog lib hints 55 [x0, x1, x2] s = some r :=
  run_of hl Tryz.func55 (Eq.trans (by kernel_rfl) h)

theorem record_CheckCoord_3_ok : funcOk Tryz.prog 55 = true := by kernel_rfl
/-! ### sumpter/record.client: 56 -/

noncomputable def record_client (R : Caller) (x0 : Value) (s : St) : Option (Value × St) :=
(abin Tryz.prog .geq 3 (.tmp 3) (.const (.int .i64 1)) x0 (.int .i64 1)).bind fun v0 =>
(guardV v0 true ((abin Tryz.prog .leq 3 (.tmp 6) (.const (.int .i64 4)) x0 (.int .i64 4)).bind fun v1 =>
some ([v1], s)) (some ([undef], s))).bind fun q2 =>
(apick v0 (getL q2.1 0) (.bool false)).bind fun v3 =>
retV [v3] q2.2

theorem record_client_of {lib : Lib} (hl : lib 56 = none) {x0 : Value} {s : St} {r : Value × St} (h : record_client (run Tryz.prog lib hints) x0 s = some r) : run Tryz.prog lib hints 56 [x0] s = some r :=
  run_of hl Tryz.func56 (Eq.trans (by kernel_rfl) h)

theorem record_client_ok : funcOk Tryz.prog 56 = true := by kernel_rfl
theorem record_client_call {R : Caller} {xs : List Value} {s : St} : callV Tryz.prog R (.func (.func 56) #[] #[]) xs s = R 56 xs s := callV_eq record_client_ok

/-! ### slices.ContainsFunc[[]int,int]: 57 -/

noncomputable def slices_ContainsFunc_int_int (R : Caller) (x0 x1 : Value) (s : St) : Option (Value × St) :=
(callV Tryz.prog R (.func (.func 114) #[] #[]) [x0, x1] s).bind fun r0 =>
(abin Tryz.prog .geq 3 (.tmp 7) (.const (.int .i64 0)) r0.1 (.int .i64 0)).bind fun v1 =>
retV [v1] r0.2

theorem slices_ContainsFunc_int_int_of {lib : Lib} (hl : lib 57 = none) {x0 x1 : Value} {s : St} {r : Value × St} (h : slices_ContainsFunc_int_int (run Tryz.prog lib hints) x0 x1 s = some r) : run Tryz.prog lib hints 57 [x0, x1] s = some r :=
  run_of hl Tryz.func57 (Eq.trans (by kernel_rfl) h)

theorem slices_ContainsFunc_int_int_ok : funcOk Tryz.prog 57 = true := by kernel_rfl
theorem slices_ContainsFunc_int_int_call {R : Caller} {xs : List Value} {s : St} : callV Tryz.prog R (.func (.func 57) #[] #[]) xs s = R 57 xs s := callV_eq slices_ContainsFunc_int_int_ok

/-! ### sumpter/record.rising[int]: 58 -/

noncomputable def record_rising_int.b0 (R : Caller) (T : List Value) (s : St) : Res :=
(abin Tryz.prog .lss 3 (.tmp 8) (.tmp 7) (getL T 3) (getL T 2)).bind fun v1 =>
condV v1
 ((abin Tryz.prog .gtr 3 (.tmp 11) (.const (.int .i64 0)) (getL T 3) (.int .i64 0)).bind fun v2 =>
(guardV v2 true (some ([(getL T 1)], s)) (some ([undef], s))).bind fun q3 =>
(guardV v2 true (some ([(getL T 0)], q3.2)) (some ([undef], q3.2))).bind fun q4 =>
(guardV v2 true (some ([(getL T 3)], q4.2)) (some ([undef], q4.2))).bind fun q5 =>
(guardV v2 true ((abin Tryz.prog .sub 3 (.tmp 16) (.const (.int .i64 1)) (getL q5.1 0) (.int .i64 1)).bind fun v6 =>
some ([v6], q5.2)) (some ([undef], q5.2))).bind fun q7 =>
(guardV v2 true ((aindexS 1 (getL q4.1 0) (getL q7.1 0)).bind fun v8 =>
some ([v8], q7.2)) (some ([undef], q7.2))).bind fun q9 =>
(guardV v2 true ((aload false 1 (getL q9.1 0) (frzS q9.2)).bind fun v26 =>
some (v26, (frzS q9.2))) (some (undef, (frzS q9.2)))).bind fun r10 =>
((guardV v2 true ((callV Tryz.prog R (getL q3.1 0) [r10.1] (frzS q9.2)).bind fun r25 =>
some (r25.1, r25.2)) (some (undef, (frzS q9.2)))).map (quietR q9.2)).bind fun r11 =>
(guardV v2 true (some ([(getL T 1)], r11.2)) (some ([undef], r11.2))).bind fun q12 =>
(guardV v2 true (some ([(getL T 0)], q12.2)) (some ([undef], q12.2))).bind fun q13 =>
(guardV v2 true (some ([(getL T 3)], q13.2)) (some ([undef], q13.2))).bind fun q14 =>
(guardV v2 true ((aindexS 1 (getL q13.1 0) (getL q14.1 0)).bind fun v15 =>
some ([v15], q14.2)) (some ([undef], q14.2))).bind fun q16 =>
(guardV v2 true ((aload false 1 (getL q16.1 0) (frzS q16.2)).bind fun v24 =>
some (v24, (frzS q16.2))) (some (undef, (frzS q16.2)))).bind fun r17 =>
((guardV v2 true ((callV Tryz.prog R (getL q12.1 0) [r17.1] q16.2).bind fun r23 =>
some (r23.1, r23.2)) (some (undef, q16.2))).bind (ownR q16.2)).bind fun r18 =>
(guardV v2 true ((abin Tryz.prog .geq 22 (.tmp 20) (.tmp 26) r11.1 r18.1).bind fun v19 =>
some ([v19], r18.2)) (some ([undef], r18.2))).bind fun q20 =>
(apick v2 (getL q20.1 0) (.bool false)).bind fun v21 =>
condV v21
 (some (.ret, [(.bool false)], q20.2))
 ((abin Tryz.prog .add 3 (.tmp 8) (.const (.int .i64 1)) (getL T 3) (.int .i64 1)).bind fun v22 =>
some (.normal, [(getL T 0), (getL T 1), (getL T 2), v22], q20.2)))
 (some (.exit 0, [], s))

noncomputable def record_rising_int (R : Caller) (x0 x1 : Value) (s : St) : Option (Value × St) :=
(alenV (.slice 3) x0 s).bind fun v0 =>
(loopL (record_rising_int.b0 R) [x0, x1, v0, (.int .i64 0)] s).bind fun r27 =>
exV r27.1 [(0, retV [(.bool true)] r27.2.2)]
 (retV [(getL r27.2.1 0)] r27.2.2)

theorem record_rising_int_of {lib : Lib} (hl : lib 58 = none) {x0 x1 : Value} {s : St} {r : Value × St} (h : record_rising_int (run Tryz.prog lib hints) x0 x1 s = some r) : run Tryz.prog lib hints 58 [x0, x1] s = some r :=
  run_of hl Tryz.func58 (Eq.trans (by kernel_rfl) h)

theorem record_rising_int_ok : funcOk Tryz.prog 58 = true := by kernel_rfl
theorem record_rising_int_call {R : Caller} {xs : List Value} {s : St} : callV Tryz.prog R (.func (.func 58) #[] #[]) xs s = R 58 xs s := callV_eq record_rising_int_ok

/-! ### sumpter/record.CheckCoord$3$1: 59 -/

noncomputable def record_CheckCoord_3_1 (R : Caller) (x0 : Value) (s : St) : Option (Value × St) :=
(convInt .u64 x0).bind fun v0 =>
retV [v0] s

theorem record_CheckCoord_3_1_of {lib : Lib} (hl : lib 59 = none) {x0 : Value} {s : St} {r : Value × St} (h : record_CheckCoord_3_1 (run Tryz.prog lib hints) x0 s = some r) : run Tryz.prog lib hints 59 [x0] s = some r :=
  run_of hl Tryz.func59 (Eq.trans (by kernel_rfl) h)

theorem record_CheckCoord_3_1_ok : funcOk Tryz.prog 59 = true := by kernel_rfl
theorem record_CheckCoord_3_1_call {R : Caller} {xs : List Value} {s : St} : callV Tryz.prog R (.func (.func 59) #[] #[]) xs s = R 59 xs s := callV_eq record_CheckCoord_3_1_ok

/-! ### slices.ContainsFunc[[]sumpter/api.Last,sumpter/api.Last]: 60 -/

noncomputable def slices_ContainsFunc_api_Last_api_Last (R : Caller) (x0 x1 : Value) (s : St) : Option (Value × St) :=
(callV Tryz.prog R (.func (.func 115) #[] #[]) [x0, x1] s).bind fun r0 =>
(abin Tryz.prog .geq 3 (.tmp 7) (.const (.int .i64 0)) r0.1 (.int .i64 0)).bind fun v1 =>
retV [v1] r0.2

theorem slices_ContainsFunc_api_Last_api_Last_of {lib : Lib} (hl : lib 60 = none) {x0 x1 : Value} {s : St} {r : Value × St} (h : slices_ContainsFunc_api_Last_api_Last (run Tryz.prog lib hints) x0 x1 s = some r) : run Tryz.prog lib hints 60 [x0, x1] s = some r :=
  run_of hl Tryz.func60 (Eq.trans (by kernel_rfl) h)

theorem slices_ContainsFunc_api_Last_api_Last_ok : funcOk Tryz.prog 60 = true := by kernel_rfl
theorem slices_ContainsFunc_api_Last_api_Last_call {R : Caller} {xs : List Value} {s : St} : callV Tryz.prog R (.func (.func 60) #[] #[]) xs s = R 60 xs s := callV_eq slices_ContainsFunc_api_Last_api_Last_ok

/-! ### sumpter/record.CheckCoord$4: 61 -/

noncomputable def record_CheckCoord_4 (R : Caller) (x0 : Value) (s : St) : Option (Value × St) :=
(lbox x0).bind fun v0 =>
(lload false 1 lptr v0).bind fun v1 =>
(callV Tryz.prog R (.func (.func 56) #[] #[]) [v1] s).bind fun r2 =>
(aun .not r2.1).bind fun v3 =>
(guardV v3 false ((lload false 1 (.pointer (some ⟨0, 3, none⟩)) v0).bind fun v4 =>
(callV Tryz.prog R (.func (.func 62) #[] #[]) [v4] r2.2).bind fun r5 =>
(aun .not r5.1).bind fun v6 =>
some ([v6], r5.2)) (some ([undef], r2.2))).bind fun q7 =>
(apick v3 (.bool true) (getL q7.1 0)).bind fun v8 =>
retV [v8] q7.2

theorem record_CheckCoord_4_of {lib : Lib} (hl : lib 61 = none) {x0 : Value} {s : St} {r : Value × St} (h : record_CheckCoord_4 (run Tryz.prog lib hints) x0 s = some r) : run Tryz.prog lib hints 61 [x0] s = some r :=
  run_of hl Tryz.func61 (Eq.trans (by kernel_rfl) h)

theorem record_CheckCoord_4_ok : funcOk Tryz.prog 61 = true := by kernel_rfl
theorem record_CheckCoord_4_call {R : Caller} {xs : List Value} {s : St} : callV Tryz.prog R (.func (.func 61) #[] #[]) xs s = R 61 xs s := callV_eq record_CheckCoord_4_ok

/-! ### sumpter/record.results: 62 -/

noncomputable def record_results (R : Caller) (x0 : Value) (s : St) : Option (Value × St) :=
(anew [.nilFunc] s).bind fun r0 =>
(astore 1 r0.1 (.func (.func 116) #[] #[]) r0.2).bind fun s1 =>
(alenV (.slice 146) x0 s1).bind fun v2 =>
(abin Tryz.prog .leq 3 (.tmp 5) (.const (.int .i64 4)) v2 (.int .i64 4)).bind fun v3 =>
(guardV v3 true ((amkFunc 118 [] [r0.1]).bind fun v4 =>
(callV Tryz.prog R (.func (.func 117) #[] #[]) [x0, v4] s1).bind fun r5 =>
(aun .not r5.1).bind fun v6 =>
some ([v6], r5.2)) (some ([undef], s1))).bind fun q7 =>
(apick v3 (getL q7.1 0) (.bool false)).bind fun v8 =>
retV [v8] q7.2

theorem record_results_of {lib : Lib} (hl : lib 62 = none) {x0 : Value} {s : St} {r : Value × St} (h : record_results (run Tryz.prog lib hints) x0 s = some r) : run Tryz.prog lib hints 62 [x0] s = some r :=
  run_of hl Tryz.func62 (Eq.trans (by kernel_rfl) h)

theorem record_results_ok : funcOk Tryz.prog 62 = true := by kernel_rfl
theorem record_results_call {R : Caller} {xs : List Value} {s : St} : callV Tryz.prog R (.func (.func 62) #[] #[]) xs s = R 62 xs s := callV_eq record_results_ok

/-! ### sumpter/record.rising[sumpter/api.Decision]: 63 -/

noncomputable def record_rising_api_Decision.b0 (R : Caller) (T : List Value) (s : St) : Res :=
(abin Tryz.prog .lss 3 (.tmp 8) (.tmp 7) (getL T 3) (getL T 2)).bind fun v1 =>
condV v1
 ((abin Tryz.prog .gtr 3 (.tmp 11) (.const (.int .i64 0)) (getL T 3) (.int .i64 0)).bind fun v2 =>
(guardV v2 true (some ([(getL T 1)], s)) (some ([undef], s))).bind fun q3 =>
(guardV v2 true (some ([(getL T 0)], q3.2)) (some ([undef], q3.2))).bind fun q4 =>
(guardV v2 true (some ([(getL T 3)], q4.2)) (some ([undef], q4.2))).bind fun q5 =>
(guardV v2 true ((abin Tryz.prog .sub 3 (.tmp 16) (.const (.int .i64 1)) (getL q5.1 0) (.int .i64 1)).bind fun v6 =>
some ([v6], q5.2)) (some ([undef], q5.2))).bind fun q7 =>
(guardV v2 true ((aindexS 5 (getL q4.1 0) (getL q7.1 0)).bind fun v8 =>
some ([v8], q7.2)) (some ([undef], q7.2))).bind fun q9 =>
(guardV v2 true ((aload true 5 (getL q9.1 0) (frzS q9.2)).bind fun v26 =>
some (v26, (frzS q9.2))) (some (undef, (frzS q9.2)))).bind fun r10 =>
((guardV v2 true ((callV Tryz.prog R (getL q3.1 0) [r10.1] (frzS q9.2)).bind fun r25 =>
some (r25.1, r25.2)) (some (undef, (frzS q9.2)))).map (quietR q9.2)).bind fun r11 =>
(guardV v2 true (some ([(getL T 1)], r11.2)) (some ([undef], r11.2))).bind fun q12 =>
(guardV v2 true (some ([(getL T 0)], q12.2)) (some ([undef], q12.2))).bind fun q13 =>
(guardV v2 true (some ([(getL T 3)], q13.2)) (some ([undef], q13.2))).bind fun q14 =>
(guardV v2 true ((aindexS 5 (getL q13.1 0) (getL q14.1 0)).bind fun v15 =>
some ([v15], q14.2)) (some ([undef], q14.2))).bind fun q16 =>
(guardV v2 true ((aload true 5 (getL q16.1 0) (frzS q16.2)).bind fun v24 =>
some (v24, (frzS q16.2))) (some (undef, (frzS q16.2)))).bind fun r17 =>
((guardV v2 true ((callV Tryz.prog R (getL q12.1 0) [r17.1] q16.2).bind fun r23 =>
some (r23.1, r23.2)) (some (undef, q16.2))).bind (ownR q16.2)).bind fun r18 =>
(guardV v2 true ((abin Tryz.prog .geq 22 (.tmp 20) (.tmp 26) r11.1 r18.1).bind fun v19 =>
some ([v19], r18.2)) (some ([undef], r18.2))).bind fun q20 =>
(apick v2 (getL q20.1 0) (.bool false)).bind fun v21 =>
condV v21
 (some (.ret, [(.bool false)], q20.2))
 ((abin Tryz.prog .add 3 (.tmp 8) (.const (.int .i64 1)) (getL T 3) (.int .i64 1)).bind fun v22 =>
some (.normal, [(getL T 0), (getL T 1), (getL T 2), v22], q20.2)))
 (some (.exit 0, [], s))

noncomputable def record_rising_api_Decision (R : Caller) (x0 x1 : Value) (s : St) : Option (Value × St) :=
(alenV (.slice 77) x0 s).bind fun v0 =>
(loopL (record_rising_api_Decision.b0 R) [x0, x1, v0, (.int .i64 0)] s).bind fun r27 =>
exV r27.1 [(0, retV [(.bool true)] r27.2.2)]
 (retV [(getL r27.2.1 0)] r27.2.2)

theorem record_rising_api_Decision_of {lib : Lib} (hl : lib 63 = none) {x0 x1 : Value} {s : St} {r : Value × St} (h : record_rising_api_Decision (run Tryz.prog lib hints) x0 x1 s = some r) : run Tryz.prog lib hints 63 [x0, x1] s = some r :=
  run_of hl Tryz.func63 (Eq.trans (by kernel_rfl) h)

theorem record_rising_api_Decision_ok : funcOk Tryz.prog 63 = true := by kernel_rfl
theorem record_rising_api_Decision_call {R : Caller} {xs : List Value} {s : St} : callV Tryz.prog R (.func (.func 63) #[] #[]) xs s = R 63 xs s := callV_eq record_rising_api_Decision_ok

/-! ### sumpter/record.CheckCoord$5: 64 -/

noncomputable def record_CheckCoord_5 (R : Caller) (x0 : Value) (s : St) : Option (Value × St) :=
(lbox x0).bind fun v0 =>
(lload false 1 lptr v0).bind fun v1 =>
retV [v1] s

theorem record_CheckCoord_5_of {lib : Lib} (hl : lib 64 = none) {x0 : Value} {s : St} {r : Value × St} (h : record_CheckCoord_5 (run Tryz.prog lib hints) x0 s = some r) : run Tryz.prog lib hints 64 [x0] s = some r :=
  run_of hl Tryz.func64 (Eq.trans (by kernel_rfl) h)

theorem record_CheckCoord_5_ok : funcOk Tryz.prog 64 = true := by kernel_rfl
theorem record_CheckCoord_5_call {R : Caller} {xs : List Value} {s : St} : callV Tryz.prog R (.func (.func 64) #[] #[]) xs s = R 64 xs s := callV_eq record_CheckCoord_5_ok

/-! ### sumpter/record.rising[sumpter/api.Last]: 65 -/

noncomputable def record_rising_api_Last.b0 (R : Caller) (T : List Value) (s : St) : Res :=
(abin Tryz.prog .lss 3 (.tmp 8) (.tmp 7) (getL T 3) (getL T 2)).bind fun v1 =>
condV v1
 ((abin Tryz.prog .gtr 3 (.tmp 11) (.const (.int .i64 0)) (getL T 3) (.int .i64 0)).bind fun v2 =>
(guardV v2 true (some ([(getL T 1)], s)) (some ([undef], s))).bind fun q3 =>
(guardV v2 true (some ([(getL T 0)], q3.2)) (some ([undef], q3.2))).bind fun q4 =>
(guardV v2 true (some ([(getL T 3)], q4.2)) (some ([undef], q4.2))).bind fun q5 =>
(guardV v2 true ((abin Tryz.prog .sub 3 (.tmp 16) (.const (.int .i64 1)) (getL q5.1 0) (.int .i64 1)).bind fun v6 =>
some ([v6], q5.2)) (some ([undef], q5.2))).bind fun q7 =>
(guardV v2 true ((aindexS 4 (getL q4.1 0) (getL q7.1 0)).bind fun v8 =>
some ([v8], q7.2)) (some ([undef], q7.2))).bind fun q9 =>
(guardV v2 true ((aload true 4 (getL q9.1 0) (frzS q9.2)).bind fun v26 =>
some (v26, (frzS q9.2))) (some (undef, (frzS q9.2)))).bind fun r10 =>
((guardV v2 true ((callV Tryz.prog R (getL q3.1 0) [r10.1] (frzS q9.2)).bind fun r25 =>
some (r25.1, r25.2)) (some (undef, (frzS q9.2)))).map (quietR q9.2)).bind fun r11 =>
(guardV v2 true (some ([(getL T 1)], r11.2)) (some ([undef], r11.2))).bind fun q12 =>
(guardV v2 true (some ([(getL T 0)], q12.2)) (some ([undef], q12.2))).bind fun q13 =>
(guardV v2 true (some ([(getL T 3)], q13.2)) (some ([undef], q13.2))).bind fun q14 =>
(guardV v2 true ((aindexS 4 (getL q13.1 0) (getL q14.1 0)).bind fun v15 =>
some ([v15], q14.2)) (some ([undef], q14.2))).bind fun q16 =>
(guardV v2 true ((aload true 4 (getL q16.1 0) (frzS q16.2)).bind fun v24 =>
some (v24, (frzS q16.2))) (some (undef, (frzS q16.2)))).bind fun r17 =>
((guardV v2 true ((callV Tryz.prog R (getL q12.1 0) [r17.1] q16.2).bind fun r23 =>
some (r23.1, r23.2)) (some (undef, q16.2))).bind (ownR q16.2)).bind fun r18 =>
(guardV v2 true ((abin Tryz.prog .geq 22 (.tmp 20) (.tmp 26) r11.1 r18.1).bind fun v19 =>
some ([v19], r18.2)) (some ([undef], r18.2))).bind fun q20 =>
(apick v2 (getL q20.1 0) (.bool false)).bind fun v21 =>
condV v21
 (some (.ret, [(.bool false)], q20.2))
 ((abin Tryz.prog .add 3 (.tmp 8) (.const (.int .i64 1)) (getL T 3) (.int .i64 1)).bind fun v22 =>
some (.normal, [(getL T 0), (getL T 1), (getL T 2), v22], q20.2)))
 (some (.exit 0, [], s))

noncomputable def record_rising_api_Last (R : Caller) (x0 x1 : Value) (s : St) : Option (Value × St) :=
(alenV (.slice 82) x0 s).bind fun v0 =>
(loopL (record_rising_api_Last.b0 R) [x0, x1, v0, (.int .i64 0)] s).bind fun r27 =>
exV r27.1 [(0, retV [(.bool true)] r27.2.2)]
 (retV [(getL r27.2.1 0)] r27.2.2)

theorem record_rising_api_Last_of {lib : Lib} (hl : lib 65 = none) {x0 x1 : Value} {s : St} {r : Value × St} (h : record_rising_api_Last (run Tryz.prog lib hints) x0 x1 s = some r) : run Tryz.prog lib hints 65 [x0, x1] s = some r :=
  run_of hl Tryz.func65 (Eq.trans (by kernel_rfl) h)

theorem record_rising_api_Last_ok : funcOk Tryz.prog 65 = true := by kernel_rfl
theorem record_rising_api_Last_call {R : Caller} {xs : List Value} {s : St} : callV Tryz.prog R (.func (.func 65) #[] #[]) xs s = R 65 xs s := callV_eq record_rising_api_Last_ok

/-! ### sumpter/record.CheckCoord$6: 66 -/

noncomputable def record_CheckCoord_6 (R : Caller) (x0 : Value) (s : St) : Option (Value × St) :=
(lbox x0).bind fun v0 =>
(lload false 1 lptr v0).bind fun v1 =>
(convInt .u64 v1).bind fun v2 =>
retV [v2] s

theorem record_CheckCoord_6_of {lib : Lib} (hl : lib 66 = none) {x0 : Value} {s : St} {r : Value × St} (h : record_CheckCoord_6 (run Tryz.prog lib hints) x0 s = some r) : run Tryz.prog lib hints 66 [x0] s = some r :=
  run_of hl Tryz.func66 (Eq.trans (by kernel_rfl) h)

theorem record_CheckCoord_6_ok : funcOk Tryz.prog 66 = true := by kernel_rfl
theorem record_CheckCoord_6_call {R : Caller} {xs : List Value} {s : St} : callV Tryz.prog R (.func (.func 66) #[] #[]) xs s = R 66 xs s := callV_eq record_CheckCoord_6_ok

/-! ### sumpter/sumpterref18.Results: 67 -/

noncomputable def ref18_Results.b1 (R : Caller) (T : List Value) (s : St) : Res :=
(abin Tryz.prog .lss 3 (.tmp 32) (.tmp 31) (getL T 5) (getL T 4)).bind fun v17 =>
condV v17
 ((aindexS 2 (getL T 3) (getL T 5)).bind fun v18 =>
(aload true 2 v18 s).bind fun v19 =>
(lstore 2 lptr v19 (.agg #[(.string ⟨#[]⟩), (.string ⟨#[]⟩)])).bind fun v20 =>
(lload false 1 lptr v20).bind fun v21 =>
(callV Tryz.prog R (.func (.func 110) #[] #[]) [v21] s).bind fun r22 =>
(abin Tryz.prog .neq 38 (.tmp 38) (.const (.int .i64 0)) r22.1 (.int .i64 0)).bind fun v23 =>
(guardV v23 false ((lload false 1 (.pointer (some ⟨0, 1, none⟩)) v20).bind fun v24 =>
(alenV .string v24 r22.2).bind fun v25 =>
(abin Tryz.prog .gtr 3 (.tmp 43) (.const (.int .i64 16)) v25 (.int .i64 16)).bind fun v26 =>
some ([v26], r22.2)) (some ([undef], r22.2))).bind fun q27 =>
(apick v23 (.bool true) (getL q27.1 0)).bind fun v28 =>
condV v28
 (some (.ret, [(.bool false)], q27.2))
 ((abin Tryz.prog .add 3 (.tmp 32) (.const (.int .i64 1)) (getL T 5) (.int .i64 1)).bind fun v29 =>
some (.normal, [(getL T 0), (getL T 1), (getL T 2), (getL T 3), (getL T 4), v29], q27.2)))
 (some (.exit 2, [(getL T 0), (getL T 1), (getL T 2)], s))

noncomputable def ref18_Results.b0 (R : Caller) (T : List Value) (s : St) : Res :=
(abin Tryz.prog .lss 3 (.tmp 15) (.tmp 14) (getL T 2) (getL T 1)).bind fun v3 =>
condV v3
 ((aindexS 3 (getL T 0) (getL T 2)).bind fun v4 =>
(aload true 3 v4 s).bind fun v5 =>
(lstore 3 lptr v5 (.agg #[(.bool false), (.string ⟨#[]⟩), (.slice none 0 0)])).bind fun v6 =>
(lload false 1 (.pointer (some ⟨0, 1, none⟩)) v6).bind fun v7 =>
(alenV .string v7 s).bind fun v8 =>
(abin Tryz.prog .gtr 3 (.tmp 21) (.const (.int .i64 16)) v8 (.int .i64 16)).bind fun v9 =>
(guardV v9 false ((lload false 1 (.pointer (some ⟨0, 2, none⟩)) v6).bind fun v10 =>
(alenV (.slice 150) v10 s).bind fun v11 =>
(abin Tryz.prog .gtr 3 (.tmp 26) (.const (.int .i64 4)) v11 (.int .i64 4)).bind fun v12 =>
some ([v12], s)) (some ([undef], s))).bind fun q13 =>
(apick v9 (.bool true) (getL q13.1 0)).bind fun v14 =>
condV v14
 (some (.ret, [(.bool false)], q13.2))
 ((lload false 1 (.pointer (some ⟨0, 2, none⟩)) v6).bind fun v15 =>
(alenV (.slice 150) v15 q13.2).bind fun v16 =>
(loopL (ref18_Results.b1 R) [(getL T 0), (getL T 1), (getL T 2), v15, v16, (.int .i64 0)] q13.2).bind fun r30 =>
exV r30.1 [(2, (abin Tryz.prog .add 3 (.tmp 15) (.const (.int .i64 1)) (getL r30.2.1 2) (.int .i64 1)).bind fun v31 =>
some (.normal, [(getL r30.2.1 0), (getL r30.2.1 1), v31], r30.2.2))]
 (some (.ret, [(getL r30.2.1 0)], r30.2.2))))
 (some (.exit 0, [], s))

noncomputable def ref18_Results (R : Caller) (x0 x1 : Value) (s : St) : Option (Value × St) :=
(alenV (.slice 146) x0 s).bind fun v0 =>
(abin Tryz.prog .gtr 3 (.tmp 10) (.tmp 11) v0 x1).bind fun v1 =>
condV v1
 (retV [(.bool false)] s)
 ((alenV (.slice 146) x0 s).bind fun v2 =>
(loopL (ref18_Results.b0 R) [x0, v2, (.int .i64 0)] s).bind fun r32 =>
exV r32.1 [(0, retV [(.bool true)] r32.2.2)]
 (retV [(getL r32.2.1 0)] r32.2.2))

theorem ref18_Results_of {lib : Lib} (hl : lib 67 = none) {x0 x1 : Value} {s : St} {r : Value × St} (h : ref18_Results (run Tryz.prog lib hints) x0 x1 s = some r) : run Tryz.prog lib hints 67 [x0, x1] s = some r :=
  run_of hl Tryz.func67 (Eq.trans (by kernel_rfl) h)

theorem ref18_Results_ok : funcOk Tryz.prog 67 = true := by kernel_rfl
theorem ref18_Results_call {R : Caller} {xs : List Value} {s : St} : callV Tryz.prog R (.func (.func 67) #[] #[]) xs s = R 67 xs s := callV_eq ref18_Results_ok

/-! ### sumpter/record.read: 68 -/

noncomputable def record_read.j0 (R : Caller) (T : List Value) (s : St) : Option (Value × St) :=
(anilCheck (getL T 0)).bind fun v13 =>
(afieldAddr 1 v13).bind fun v14 =>
(aload false 1 v14 s).bind fun v15 =>
retV [v15] s

noncomputable def record_read (R : Caller) (x0 x1 x2 : Value) (s : St) : Option (Value × St) :=
(alenV (.slice 5) x0 s).bind fun v0 =>
(abin Tryz.prog .gtr 3 (.tmp 9) (.const (.int .i64 8192)) v0 (.int .i64 8192)).bind fun v1 =>
condV v1
 (retV [(.int .i64 2)] s)
 ((abuild Tryz.prog 170 [(0, x0)]).bind fun v2 =>
(anew (cellsV v2) s).bind fun r3 =>
(callV Tryz.prog R (.func (.func 120) #[] #[]) [r3.1, x1] r3.2).bind fun r4 =>
(callV Tryz.prog R x2 [r3.1] r4.2).bind fun r5 =>
(anilCheck r3.1).bind fun v7 =>
(afieldAddr 0 v7).bind fun v8 =>
(aload false 1 v8 r5.2).bind fun v9 =>
(alenV (.slice 5) v9 r5.2).bind fun v10 =>
(abin Tryz.prog .gtr 3 (.tmp 24) (.const (.int .i64 0)) v10 (.int .i64 0)).bind fun v11 =>
condV v11
 ((callV Tryz.prog R (.func (.func 121) #[] #[]) [r3.1, (.int .i64 11)] r5.2).bind fun r12 =>
joinK (record_read.j0 R) [r3.1] r12.2)
 (joinK (record_read.j0 R) [r3.1] r5.2))

/-! ### sumpter/record.DecodeShard$1: 69 -/

/-! ### (*sumpter/record.reader).int: 70 -/

/-! ### (*sumpter/record.reader).nums: 71 -/

noncomputable def record_reader_nums.b0 (R : Caller) (T : List Value) (s : St) : Res :=
(abin Tryz.prog .lss 3 (.tmp 8) (.tmp 7) (getL T 3) (getL T 2)).bind fun v1 =>
condV v1
 ((aindexS 1 (getL T 1) (getL T 3)).bind fun v2 =>
(aload false 1 v2 s).bind fun v3 =>
(callV Tryz.prog R (.func (.func 77) #[] #[]) [(getL T 0)] s).bind fun r4 =>
(anilCheck v3).bind fun v5 =>
(astore 1 v5 r4.1 r4.2).bind fun s6 =>
(abin Tryz.prog .add 3 (.tmp 8) (.const (.int .i64 1)) (getL T 3) (.int .i64 1)).bind fun v7 =>
some (.normal, [(getL T 0), (getL T 1), (getL T 2), v7], s6))
 (some (.exit 0, [], s))

noncomputable def record_reader_nums (R : Caller) (x0 x1 : Value) (s : St) : Option (Value × St) :=
(alenV (.slice 120) x1 s).bind fun v0 =>
(loopL (record_reader_nums.b0 R) [x0, x1, v0, (.int .i64 0)] s).bind fun r8 =>
exV r8.1 [(0, retV [] r8.2.2)]
 (none)

/-! ### sumpter/record.many[sumpter/api.Owner]: 72 -/

noncomputable def record_many_api_Owner.b0 (R : Caller) (T : List Value) (s : St) : Res :=
(abin Tryz.prog .gtr 3 (.tmp 9) (.const (.int .i64 0)) (getL T 3) (.int .i64 0)).bind fun v1 =>
(guardV v1 true ((anilCheck (getL T 0)).bind fun v2 =>
(afieldAddr 1 v2).bind fun v3 =>
(aload false 1 v3 s).bind fun v4 =>
(abin Tryz.prog .eql 38 (.tmp 15) (.const (.int .i64 0)) v4 (.int .i64 0)).bind fun v5 =>
some ([v5], s)) (some ([undef], s))).bind fun q6 =>
(apick v1 (getL q6.1 0) (.bool false)).bind fun v7 =>
condV v7
 ((callV Tryz.prog R (getL T 1) [] q6.2).bind fun r8 =>
(abuildSl 2 [(.string ⟨#[]⟩), (.int .i64 0)] 1 [(0, r8.1)] r8.2).bind fun r9 =>
(aappend 2 24 (getL T 2) r9.1 r9.2).bind fun r10 =>
(abin Tryz.prog .sub 3 (.tmp 18) (.const (.int .i64 1)) (getL T 3) (.int .i64 1)).bind fun v11 =>
some (.normal, [(getL T 0), (getL T 1), r10.1, v11], r10.2))
 (some (.exit 0, [(getL T 2)], q6.2))

noncomputable def record_many_api_Owner (R : Caller) (x0 x1 : Value) (s : St) : Option (Value × St) :=
(callV Tryz.prog R (.func (.func 70) #[] #[]) [x0] s).bind fun r0 =>
(loopL (record_many_api_Owner.b0 R) [x0, x1, (.slice none 0 0), r0.1] r0.2).bind fun r12 =>
exV r12.1 [(0, retV [(getL r12.2.1 0)] r12.2.2)]
 (none)

/-! ### (*sumpter/record.reader).owner: 73 -/

/-! ### sumpter/record.many[sumpter/api.Hold]: 74 -/

noncomputable def record_many_api_Hold.b0 (R : Caller) (T : List Value) (s : St) : Res :=
(abin Tryz.prog .gtr 3 (.tmp 9) (.const (.int .i64 0)) (getL T 3) (.int .i64 0)).bind fun v1 =>
(guardV v1 true ((anilCheck (getL T 0)).bind fun v2 =>
(afieldAddr 1 v2).bind fun v3 =>
(aload false 1 v3 s).bind fun v4 =>
(abin Tryz.prog .eql 38 (.tmp 15) (.const (.int .i64 0)) v4 (.int .i64 0)).bind fun v5 =>
some ([v5], s)) (some ([undef], s))).bind fun q6 =>
(apick v1 (getL q6.1 0) (.bool false)).bind fun v7 =>
condV v7
 ((callV Tryz.prog R (getL T 1) [] q6.2).bind fun r8 =>
(abuildSl 2 [(.int .u64 0), (.slice none 0 0)] 1 [(0, r8.1)] r8.2).bind fun r9 =>
(aappend 2 32 (getL T 2) r9.1 r9.2).bind fun r10 =>
(abin Tryz.prog .sub 3 (.tmp 18) (.const (.int .i64 1)) (getL T 3) (.int .i64 1)).bind fun v11 =>
some (.normal, [(getL T 0), (getL T 1), r10.1, v11], r10.2))
 (some (.exit 0, [(getL T 2)], q6.2))

noncomputable def record_many_api_Hold (R : Caller) (x0 x1 : Value) (s : St) : Option (Value × St) :=
(callV Tryz.prog R (.func (.func 70) #[] #[]) [x0] s).bind fun r0 =>
(loopL (record_many_api_Hold.b0 R) [x0, x1, (.slice none 0 0), r0.1] r0.2).bind fun r12 =>
exV r12.1 [(0, retV [(getL r12.2.1 0)] r12.2.2)]
 (none)

/-! ### (*sumpter/record.reader).hold: 75 -/

/-! ### sumpter/record.many[uint64]: 76 -/

noncomputable def record_many_uint64.b0 (R : Caller) (T : List Value) (s : St) : Res :=
(abin Tryz.prog .gtr 3 (.tmp 9) (.const (.int .i64 0)) (getL T 3) (.int .i64 0)).bind fun v1 =>
(guardV v1 true ((anilCheck (getL T 0)).bind fun v2 =>
(afieldAddr 1 v2).bind fun v3 =>
(aload false 1 v3 s).bind fun v4 =>
(abin Tryz.prog .eql 38 (.tmp 15) (.const (.int .i64 0)) v4 (.int .i64 0)).bind fun v5 =>
some ([v5], s)) (some ([undef], s))).bind fun q6 =>
(apick v1 (getL q6.1 0) (.bool false)).bind fun v7 =>
condV v7
 ((callV Tryz.prog R (getL T 1) [] q6.2).bind fun r8 =>
(abuildSl 1 [(.int .u64 0)] 1 [(0, r8.1)] r8.2).bind fun r9 =>
(aappend 1 8 (getL T 2) r9.1 r9.2).bind fun r10 =>
(abin Tryz.prog .sub 3 (.tmp 18) (.const (.int .i64 1)) (getL T 3) (.int .i64 1)).bind fun v11 =>
some (.normal, [(getL T 0), (getL T 1), r10.1, v11], r10.2))
 (some (.exit 0, [(getL T 2)], q6.2))

noncomputable def record_many_uint64 (R : Caller) (x0 x1 : Value) (s : St) : Option (Value × St) :=
(callV Tryz.prog R (.func (.func 70) #[] #[]) [x0] s).bind fun r0 =>
(loopL (record_many_uint64.b0 R) [x0, x1, (.slice none 0 0), r0.1] r0.2).bind fun r12 =>
exV r12.1 [(0, retV [(getL r12.2.1 0)] r12.2.2)]
 (none)

/-! ### (*sumpter/record.reader).num: 77 -/

/-! ### (*sumpter/record.reader).span: 78 -/

/-! ### sumpter/record.DecodeCoord$1: 81 -/

/-! ### sumpter/record.many[sumpter/api.Decision]: 82 -/

noncomputable def record_many_api_Decision.b0 (R : Caller) (T : List Value) (s : St) : Res :=
(abin Tryz.prog .gtr 3 (.tmp 9) (.const (.int .i64 0)) (getL T 3) (.int .i64 0)).bind fun v1 =>
(guardV v1 true ((anilCheck (getL T 0)).bind fun v2 =>
(afieldAddr 1 v2).bind fun v3 =>
(aload false 1 v3 s).bind fun v4 =>
(abin Tryz.prog .eql 38 (.tmp 15) (.const (.int .i64 0)) v4 (.int .i64 0)).bind fun v5 =>
some ([v5], s)) (some ([undef], s))).bind fun q6 =>
(apick v1 (getL q6.1 0) (.bool false)).bind fun v7 =>
condV v7
 ((callV Tryz.prog R (getL T 1) [] q6.2).bind fun r8 =>
(abuildSl 5 [(.int .u64 0), (.int .i64 0), (.int .u64 0), (.int .u64 0), (.slice none 0 0)] 1 [(0, r8.1)] r8.2).bind fun r9 =>
(aappend 5 56 (getL T 2) r9.1 r9.2).bind fun r10 =>
(abin Tryz.prog .sub 3 (.tmp 18) (.const (.int .i64 1)) (getL T 3) (.int .i64 1)).bind fun v11 =>
some (.normal, [(getL T 0), (getL T 1), r10.1, v11], r10.2))
 (some (.exit 0, [(getL T 2)], q6.2))

noncomputable def record_many_api_Decision (R : Caller) (x0 x1 : Value) (s : St) : Option (Value × St) :=
(callV Tryz.prog R (.func (.func 70) #[] #[]) [x0] s).bind fun r0 =>
(loopL (record_many_api_Decision.b0 R) [x0, x1, (.slice none 0 0), r0.1] r0.2).bind fun r12 =>
exV r12.1 [(0, retV [(getL r12.2.1 0)] r12.2.2)]
 (none)

/-! ### (*sumpter/record.reader).decision: 83 -/

/-! ### sumpter/record.many[sumpter/api.Last]: 84 -/

noncomputable def record_many_api_Last.b0 (R : Caller) (T : List Value) (s : St) : Res :=
(abin Tryz.prog .gtr 3 (.tmp 9) (.const (.int .i64 0)) (getL T 3) (.int .i64 0)).bind fun v1 =>
(guardV v1 true ((anilCheck (getL T 0)).bind fun v2 =>
(afieldAddr 1 v2).bind fun v3 =>
(aload false 1 v3 s).bind fun v4 =>
(abin Tryz.prog .eql 38 (.tmp 15) (.const (.int .i64 0)) v4 (.int .i64 0)).bind fun v5 =>
some ([v5], s)) (some ([undef], s))).bind fun q6 =>
(apick v1 (getL q6.1 0) (.bool false)).bind fun v7 =>
condV v7
 ((callV Tryz.prog R (getL T 1) [] q6.2).bind fun r8 =>
(abuildSl 4 [(.int .i64 0), (.int .u64 0), (.int .u64 0), (.slice none 0 0)] 1 [(0, r8.1)] r8.2).bind fun r9 =>
(aappend 4 48 (getL T 2) r9.1 r9.2).bind fun r10 =>
(abin Tryz.prog .sub 3 (.tmp 18) (.const (.int .i64 1)) (getL T 3) (.int .i64 1)).bind fun v11 =>
some (.normal, [(getL T 0), (getL T 1), r10.1, v11], r10.2))
 (some (.exit 0, [(getL T 2)], q6.2))

noncomputable def record_many_api_Last (R : Caller) (x0 x1 : Value) (s : St) : Option (Value × St) :=
(callV Tryz.prog R (.func (.func 70) #[] #[]) [x0] s).bind fun r0 =>
(loopL (record_many_api_Last.b0 R) [x0, x1, (.slice none 0 0), r0.1] r0.2).bind fun r12 =>
exV r12.1 [(0, retV [(getL r12.2.1 0)] r12.2.2)]
 (none)

/-! ### (*sumpter/record.reader).last: 85 -/

/-! ### sumpter/record.rows[uint64]: 87 -/

noncomputable def record_rows_uint64.b0 (R : Caller) (T : List Value) (s : St) : Res :=
(abin Tryz.prog .lss 3 (.tmp 10) (.tmp 9) (getL T 3) (getL T 2)).bind fun v1 =>
condV v1
 ((aindexS 1 (getL T 1) (getL T 3)).bind fun v2 =>
(aload false 1 v2 s).bind fun v3 =>
(callV Tryz.prog R (getL T 0) [v3] s).bind fun r4 =>
(abin Tryz.prog .add 3 (.tmp 10) (.const (.int .i64 1)) (getL T 3) (.int .i64 1)).bind fun v5 =>
some (.normal, [(getL T 0), (getL T 1), (getL T 2), v5], r4.2))
 (some (.exit 0, [], s))

noncomputable def record_rows_uint64 (R : Caller) (x0 x1 x2 : Value) (s : St) : Option (Value × St) :=
(alenV (.slice 22) x1 s).bind fun v0 =>
(loopL (record_rows_uint64.b0 R) [x2, x1, v0, (.int .i64 0)] s).bind fun r6 =>
exV r6.1 [(0, retV [] r6.2.2)]
 (none)

theorem record_rows_uint64_of {lib : Lib} (hl : lib 87 = none) {x0 x1 x2 : Value} {s : St} {r : Value × St} (h : record_rows_uint64 (run Tryz.prog lib hints) x0 x1 x2 s = some r) : run Tryz.prog lib hints 87 [x0, x1, x2] s = some r :=
  run_of hl Tryz.func87 (Eq.trans (by kernel_rfl) h)

theorem record_rows_uint64_ok : funcOk Tryz.prog 87 = true := by kernel_rfl
theorem record_rows_uint64_call {R : Caller} {xs : List Value} {s : St} : callV Tryz.prog R (.func (.func 87) #[] #[]) xs s = R 87 xs s := callV_eq record_rows_uint64_ok

/-! ### (*sumpter/record.writer).int: 88 -/

noncomputable def record_writer_int (R : Caller) (x0 x1 : Value) (s : St) : Option (Value × St) :=
(convInt .u64 x1).bind fun v0 =>
(callV Tryz.prog R (.func (.func 25) #[] #[]) [x0, v0] s).bind fun r1 =>
retV [] r1.2

theorem record_writer_int_of {lib : Lib} (hl : lib 88 = none) {x0 x1 : Value} {s : St} {r : Value × St} (h : record_writer_int (run Tryz.prog lib hints) x0 x1 s = some r) : run Tryz.prog lib hints 88 [x0, x1] s = some r :=
  run_of hl Tryz.func88 (Eq.trans (by kernel_rfl) h)

theorem record_writer_int_ok : funcOk Tryz.prog 88 = true := by kernel_rfl
theorem record_writer_int_call {R : Caller} {xs : List Value} {s : St} : callV Tryz.prog R (.func (.func 88) #[] #[]) xs s = R 88 xs s := callV_eq record_writer_int_ok

/-! ### sumpter/record.rows[sumpter/api.Owner]: 89 -/

noncomputable def record_rows_api_Owner.b0 (R : Caller) (T : List Value) (s : St) : Res :=
(abin Tryz.prog .lss 3 (.tmp 10) (.tmp 9) (getL T 3) (getL T 2)).bind fun v1 =>
condV v1
 ((aindexS 2 (getL T 1) (getL T 3)).bind fun v2 =>
(aload true 2 v2 s).bind fun v3 =>
(lstore 2 lptr v3 (.agg #[(.string ⟨#[]⟩), (.int .i64 0)])).bind fun v4 =>
(lload true 2 lptr v4).bind fun v5 =>
(callV Tryz.prog R (getL T 0) [v5] s).bind fun r6 =>
(abin Tryz.prog .add 3 (.tmp 10) (.const (.int .i64 1)) (getL T 3) (.int .i64 1)).bind fun v7 =>
some (.normal, [(getL T 0), (getL T 1), (getL T 2), v7], r6.2))
 (some (.exit 0, [], s))

noncomputable def record_rows_api_Owner (R : Caller) (x0 x1 x2 : Value) (s : St) : Option (Value × St) :=
(alenV (.slice 54) x1 s).bind fun v0 =>
(loopL (record_rows_api_Owner.b0 R) [x2, x1, v0, (.int .i64 0)] s).bind fun r8 =>
exV r8.1 [(0, retV [] r8.2.2)]
 (none)

theorem record_rows_api_Owner_of {lib : Lib} (hl : lib 89 = none) {x0 x1 x2 : Value} {s : St} {r : Value × St} (h : record_rows_api_Owner (run Tryz.prog lib hints) x0 x1 x2 s = some r) : run Tryz.prog lib hints 89 [x0, x1, x2] s = some r :=
  run_of hl Tryz.func89 (Eq.trans (by kernel_rfl) h)

theorem record_rows_api_Owner_ok : funcOk Tryz.prog 89 = true := by kernel_rfl
theorem record_rows_api_Owner_call {R : Caller} {xs : List Value} {s : St} : callV Tryz.prog R (.func (.func 89) #[] #[]) xs s = R 89 xs s := callV_eq record_rows_api_Owner_ok

/-! ### (*sumpter/record.writer).text: 90 -/

noncomputable def record_writer_text (R : Caller) (x0 x1 : Value) (s : St) : Option (Value × St) :=
(anilCheck x0).bind fun v0 =>
(afieldAddr 0 v0).bind fun v1 =>
((aload false 1 v1 (frzS s)).bind fun v11 =>
some (v11, (frzS s))).bind fun r2 =>
(((callV Tryz.prog R (.func (.func 130) #[] #[]) [x1] (frzS s)).bind fun r10 =>
some (r10.1, r10.2)).map (quietR s)).bind fun r3 =>
(((aappend 1 1 r2.1 r3.1 r3.2).bind fun r9 =>
some (r9.1, r9.2)).bind (ownR r3.2)).bind fun r4 =>
(anilCheck x0).bind fun v5 =>
(afieldAddr 0 v5).bind fun v6 =>
(((astore 1 v6 r4.1 r4.2).bind fun s8 =>
some (undef, s8)).bind (ownR r4.2)).bind fun r7 =>
retV [] r7.2

theorem record_writer_text_of {lib : Lib} (hl : lib 90 = none) {x0 x1 : Value} {s : St} {r : Value × St} (h : record_writer_text (run Tryz.prog lib hints) x0 x1 s = some r) : run Tryz.prog lib hints 90 [x0, x1] s = some r :=
  run_of hl Tryz.func90 (Eq.trans (by kernel_rfl) h)

theorem record_writer_text_ok : funcOk Tryz.prog 90 = true := by kernel_rfl
theorem record_writer_text_call {R : Caller} {xs : List Value} {s : St} : callV Tryz.prog R (.func (.func 90) #[] #[]) xs s = R 90 xs s := callV_eq record_writer_text_ok

/-! ### sumpter/record.rows[sumpter/api.Hold]: 91 -/

noncomputable def record_rows_api_Hold.b0 (R : Caller) (T : List Value) (s : St) : Res :=
(abin Tryz.prog .lss 3 (.tmp 10) (.tmp 9) (getL T 3) (getL T 2)).bind fun v1 =>
condV v1
 ((aindexS 2 (getL T 1) (getL T 3)).bind fun v2 =>
(aload true 2 v2 s).bind fun v3 =>
(lstore 2 lptr v3 (.agg #[(.int .u64 0), (.slice none 0 0)])).bind fun v4 =>
(lload true 2 lptr v4).bind fun v5 =>
(callV Tryz.prog R (getL T 0) [v5] s).bind fun r6 =>
(abin Tryz.prog .add 3 (.tmp 10) (.const (.int .i64 1)) (getL T 3) (.int .i64 1)).bind fun v7 =>
some (.normal, [(getL T 0), (getL T 1), (getL T 2), v7], r6.2))
 (some (.exit 0, [], s))

noncomputable def record_rows_api_Hold (R : Caller) (x0 x1 x2 : Value) (s : St) : Option (Value × St) :=
(alenV (.slice 64) x1 s).bind fun v0 =>
(loopL (record_rows_api_Hold.b0 R) [x2, x1, v0, (.int .i64 0)] s).bind fun r8 =>
exV r8.1 [(0, retV [] r8.2.2)]
 (none)

theorem record_rows_api_Hold_of {lib : Lib} (hl : lib 91 = none) {x0 x1 x2 : Value} {s : St} {r : Value × St} (h : record_rows_api_Hold (run Tryz.prog lib hints) x0 x1 x2 s = some r) : run Tryz.prog lib hints 91 [x0, x1, x2] s = some r :=
  run_of hl Tryz.func91 (Eq.trans (by kernel_rfl) h)

theorem record_rows_api_Hold_ok : funcOk Tryz.prog 91 = true := by kernel_rfl
theorem record_rows_api_Hold_call {R : Caller} {xs : List Value} {s : St} : callV Tryz.prog R (.func (.func 91) #[] #[]) xs s = R 91 xs s := callV_eq record_rows_api_Hold_ok

/-! ### sumpter/record.list[sumpter/api.Op]: 92 -/

noncomputable def record_list_api_Op (R : Caller) (x0 x1 x2 : Value) (s : St) : Option (Value × St) :=
(alenV (.slice 72) x1 s).bind fun v0 =>
(callV Tryz.prog R (.func (.func 88) #[] #[]) [x0, v0] s).bind fun r1 =>
(callV Tryz.prog R (.func (.func 131) #[] #[]) [x0, x1, x2] r1.2).bind fun r2 =>
retV [] r2.2

theorem record_list_api_Op_of {lib : Lib} (hl : lib 92 = none) {x0 x1 x2 : Value} {s : St} {r : Value × St} (h : record_list_api_Op (run Tryz.prog lib hints) x0 x1 x2 s = some r) : run Tryz.prog lib hints 92 [x0, x1, x2] s = some r :=
  run_of hl Tryz.func92 (Eq.trans (by kernel_rfl) h)

theorem record_list_api_Op_ok : funcOk Tryz.prog 92 = true := by kernel_rfl
theorem record_list_api_Op_call {R : Caller} {xs : List Value} {s : St} : callV Tryz.prog R (.func (.func 92) #[] #[]) xs s = R 92 xs s := callV_eq record_list_api_Op_ok

/-! ### (*sumpter/record.writer).op: 93 -/

noncomputable def record_writer_op.b0 (R : Caller) (T : List Value) (s : St) : Res :=
(abin Tryz.prog .lss 3 (.tmp 20) (.tmp 19) (getL T 4) (getL T 3)).bind fun v9 =>
condV v9
 ((aindexS 1 (getL T 2) (getL T 4)).bind fun v10 =>
(aload false 1 v10 s).bind fun v11 =>
(callV Tryz.prog R (.func (.func 90) #[] #[]) [(getL T 0), v11] s).bind fun r12 =>
(abin Tryz.prog .add 3 (.tmp 20) (.const (.int .i64 1)) (getL T 4) (.int .i64 1)).bind fun v13 =>
some (.normal, [(getL T 0), (getL T 1), (getL T 2), (getL T 3), v13, (getL T 5)], r12.2))
 (some (.exit 0, [(getL T 0), (getL T 1), (getL T 5)], s))

noncomputable def record_writer_op (R : Caller) (x0 x1 : Value) (s : St) : Option (Value × St) :=
(lbox x1).bind fun v0 =>
(lload false 1 lptr v0).bind fun v1 =>
(callV Tryz.prog R (.func (.func 88) #[] #[]) [x0, v1] s).bind fun r2 =>
(lload false 1 (.pointer (some ⟨0, 1, none⟩)) v0).bind fun v3 =>
(lload false 1 (.pointer (some ⟨0, 2, none⟩)) v0).bind fun v4 =>
(lload false 1 (.pointer (some ⟨0, 3, none⟩)) v0).bind fun v5 =>
(lload false 1 (.pointer (some ⟨0, 4, none⟩)) v0).bind fun v6 =>
(abuildSl 1 [(.string ⟨#[]⟩)] 4 [(0, v3), (1, v4), (2, v5), (3, v6)] r2.2).bind fun r7 =>
(alenV (.slice 9) r7.1 r7.2).bind fun v8 =>
(loopL (record_writer_op.b0 R) [x0, lptr, r7.1, v8, (.int .i64 0), v0] r7.2).bind fun r14 =>
exV r14.1 [(0, (afieldAddr 5 (getL r14.2.1 1)).bind fun v15 =>
(lload false 1 v15 (getL r14.2.1 2)).bind fun v16 =>
(callV Tryz.prog R (.func (.func 88) #[] #[]) [(getL r14.2.1 0), v16] r14.2.2).bind fun r17 =>
retV [] r17.2)]
 (none)

theorem record_writer_op_of {lib : Lib} (hl : lib 93 = none) {x0 x1 : Value} {s : St} {r : Value × St} (h : record_writer_op (run Tryz.prog lib hints) x0 x1 s = some r) : run Tryz.prog lib hints 93 [x0, x1] s = some r :=
  run_of hl Tryz.func93 (Eq.trans (by kernel_rfl) h)

theorem record_writer_op_ok : funcOk Tryz.prog 93 = true := by kernel_rfl
/-! ### sumpter/octet.Num: 94 -/

noncomputable def octet_Num.b0 (R : Caller) (T : List Value) (s : St) : Res :=
(abin Tryz.prog .geq 22 (.tmp 4) (.const (.int .u64 128)) (getL T 0) (.int .u64 128)).bind fun v0 =>
condV v0
 ((convInt .u8 (getL T 0)).bind fun v1 =>
(abin Tryz.prog .or 5 (.tmp 8) (.const (.int .u8 128)) v1 (.int .u8 128)).bind fun v2 =>
(abuildSl 1 [(.int .u8 0)] 1 [(0, v2)] s).bind fun r3 =>
(aappend 1 1 (getL T 1) r3.1 r3.2).bind fun r4 =>
(abin Tryz.prog .shr 22 (.tmp 12) (.const (.int .u64 7)) (getL T 0) (.int .u64 7)).bind fun v5 =>
some (.normal, [v5, r4.1], r4.2))
 (some (.exit 0, [(getL T 0), (getL T 1)], s))

noncomputable def octet_Num (R : Caller) (x0 : Value) (s : St) : Option (Value × St) :=
(loopL (octet_Num.b0 R) [x0, (.slice none 0 0)] s).bind fun r6 =>
exV r6.1 [(0, (convInt .u8 (getL r6.2.1 0)).bind fun v7 =>
(abuildSl 1 [(.int .u8 0)] 1 [(0, v7)] r6.2.2).bind fun r8 =>
(aappend 1 1 (getL r6.2.1 1) r8.1 r8.2).bind fun r9 =>
retV [r9.1] r9.2)]
 (none)

theorem octet_Num_of {lib : Lib} (hl : lib 94 = none) {x0 : Value} {s : St} {r : Value × St} (h : octet_Num (run Tryz.prog lib hints) x0 s = some r) : run Tryz.prog lib hints 94 [x0] s = some r :=
  run_of hl Tryz.func94 (Eq.trans (by kernel_rfl) h)

theorem octet_Num_ok : funcOk Tryz.prog 94 = true := by kernel_rfl
theorem octet_Num_call {R : Caller} {xs : List Value} {s : St} : callV Tryz.prog R (.func (.func 94) #[] #[]) xs s = R 94 xs s := callV_eq octet_Num_ok

/-! ### sumpter/sumpterref01.Num: 95 -/

noncomputable def ref01_Num (R : Caller) (x0 : Value) (s : St) : Option (Value × St) :=
(abin Tryz.prog .lss 22 (.tmp 3) (.const (.int .u64 128)) x0 (.int .u64 128)).bind fun v0 =>
condV v0
 ((convInt .u8 x0).bind fun v1 =>
(abuildSl 1 [(.int .u8 0)] 1 [(0, v1)] s).bind fun r2 =>
retV [r2.1] r2.2)
 ((abin Tryz.prog .rem 22 (.tmp 8) (.const (.int .u64 128)) x0 (.int .u64 128)).bind fun v3 =>
(convInt .u8 v3).bind fun v4 =>
(abin Tryz.prog .add 5 (.tmp 10) (.const (.int .u8 128)) v4 (.int .u8 128)).bind fun v5 =>
(abuildSl 1 [(.int .u8 0)] 1 [(0, v5)] s).bind fun r6 =>
(abin Tryz.prog .quo 22 (.tmp 13) (.const (.int .u64 128)) x0 (.int .u64 128)).bind fun v7 =>
(callV Tryz.prog R (.func (.func 95) #[] #[]) [v7] r6.2).bind fun r8 =>
(aappend 1 1 r6.1 r8.1 r8.2).bind fun r9 =>
retV [r9.1] r9.2)

theorem ref01_Num_of {lib : Lib} (hl : lib 95 = none) {x0 : Value} {s : St} {r : Value × St} (h : ref01_Num (run Tryz.prog lib hints) x0 s = some r) : run Tryz.prog lib hints 95 [x0] s = some r :=
  run_of hl Tryz.func95 (Eq.trans (by kernel_rfl) h)

theorem ref01_Num_ok : funcOk Tryz.prog 95 = true := by kernel_rfl
theorem ref01_Num_call {R : Caller} {xs : List Value} {s : St} : callV Tryz.prog R (.func (.func 95) #[] #[]) xs s = R 95 xs s := callV_eq ref01_Num_ok

/-! ### sumpter/sumpterref01.Text: 96 -/

noncomputable def ref01_Text (R : Caller) (x0 : Value) (s : St) : Option (Value × St) :=
(alenV .string x0 s).bind fun v0 =>
(convInt .u64 v0).bind fun v1 =>
(callV Tryz.prog R (.func (.func 95) #[] #[]) [v1] s).bind fun r2 =>
(aappend 1 1 r2.1 x0 r2.2).bind fun r3 =>
retV [r3.1] r3.2

theorem ref01_Text_of {lib : Lib} (hl : lib 96 = none) {x0 : Value} {s : St} {r : Value × St} (h : ref01_Text (run Tryz.prog lib hints) x0 s = some r) : run Tryz.prog lib hints 96 [x0] s = some r :=
  run_of hl Tryz.func96 (Eq.trans (by kernel_rfl) h)

theorem ref01_Text_ok : funcOk Tryz.prog 96 = true := by kernel_rfl
theorem ref01_Text_call {R : Caller} {xs : List Value} {s : St} : callV Tryz.prog R (.func (.func 96) #[] #[]) xs s = R 96 xs s := callV_eq ref01_Text_ok

/-! ### sumpter/record.rows[sumpter/api.Decision]: 97 -/

noncomputable def record_rows_api_Decision.b0 (R : Caller) (T : List Value) (s : St) : Res :=
(abin Tryz.prog .lss 3 (.tmp 10) (.tmp 9) (getL T 3) (getL T 2)).bind fun v1 =>
condV v1
 ((aindexS 5 (getL T 1) (getL T 3)).bind fun v2 =>
(aload true 5 v2 s).bind fun v3 =>
(lstore 5 lptr v3 (.agg #[(.int .u64 0), (.int .i64 0), (.int .u64 0), (.int .u64 0), (.slice none 0 0)])).bind fun v4 =>
(lload true 5 lptr v4).bind fun v5 =>
(callV Tryz.prog R (getL T 0) [v5] s).bind fun r6 =>
(abin Tryz.prog .add 3 (.tmp 10) (.const (.int .i64 1)) (getL T 3) (.int .i64 1)).bind fun v7 =>
some (.normal, [(getL T 0), (getL T 1), (getL T 2), v7], r6.2))
 (some (.exit 0, [], s))

noncomputable def record_rows_api_Decision (R : Caller) (x0 x1 x2 : Value) (s : St) : Option (Value × St) :=
(alenV (.slice 77) x1 s).bind fun v0 =>
(loopL (record_rows_api_Decision.b0 R) [x2, x1, v0, (.int .i64 0)] s).bind fun r8 =>
exV r8.1 [(0, retV [] r8.2.2)]
 (none)

theorem record_rows_api_Decision_of {lib : Lib} (hl : lib 97 = none) {x0 x1 x2 : Value} {s : St} {r : Value × St} (h : record_rows_api_Decision (run Tryz.prog lib hints) x0 x1 x2 s = some r) : run Tryz.prog lib hints 97 [x0, x1, x2] s = some r :=
  run_of hl Tryz.func97 (Eq.trans (by kernel_rfl) h)

theorem record_rows_api_Decision_ok : funcOk Tryz.prog 97 = true := by kernel_rfl
theorem record_rows_api_Decision_call {R : Caller} {xs : List Value} {s : St} : callV Tryz.prog R (.func (.func 97) #[] #[]) xs s = R 97 xs s := callV_eq record_rows_api_Decision_ok

/-! ### sumpter/record.list[int]: 98 -/

noncomputable def record_list_int (R : Caller) (x0 x1 x2 : Value) (s : St) : Option (Value × St) :=
(alenV (.slice 3) x1 s).bind fun v0 =>
(callV Tryz.prog R (.func (.func 88) #[] #[]) [x0, v0] s).bind fun r1 =>
(callV Tryz.prog R (.func (.func 132) #[] #[]) [x0, x1, x2] r1.2).bind fun r2 =>
retV [] r2.2

theorem record_list_int_of {lib : Lib} (hl : lib 98 = none) {x0 x1 x2 : Value} {s : St} {r : Value × St} (h : record_list_int (run Tryz.prog lib hints) x0 x1 x2 s = some r) : run Tryz.prog lib hints 98 [x0, x1, x2] s = some r :=
  run_of hl Tryz.func98 (Eq.trans (by kernel_rfl) h)

theorem record_list_int_ok : funcOk Tryz.prog 98 = true := by kernel_rfl
theorem record_list_int_call {R : Caller} {xs : List Value} {s : St} : callV Tryz.prog R (.func (.func 98) #[] #[]) xs s = R 98 xs s := callV_eq record_list_int_ok

/-! ### sumpter/record.rows[sumpter/api.Last]: 99 -/

noncomputable def record_rows_api_Last.b0 (R : Caller) (T : List Value) (s : St) : Res :=
(abin Tryz.prog .lss 3 (.tmp 10) (.tmp 9) (getL T 3) (getL T 2)).bind fun v1 =>
condV v1
 ((aindexS 4 (getL T 1) (getL T 3)).bind fun v2 =>
(aload true 4 v2 s).bind fun v3 =>
(lstore 4 lptr v3 (.agg #[(.int .i64 0), (.int .u64 0), (.int .u64 0), (.slice none 0 0)])).bind fun v4 =>
(lload true 4 lptr v4).bind fun v5 =>
(callV Tryz.prog R (getL T 0) [v5] s).bind fun r6 =>
(abin Tryz.prog .add 3 (.tmp 10) (.const (.int .i64 1)) (getL T 3) (.int .i64 1)).bind fun v7 =>
some (.normal, [(getL T 0), (getL T 1), (getL T 2), v7], r6.2))
 (some (.exit 0, [], s))

noncomputable def record_rows_api_Last (R : Caller) (x0 x1 x2 : Value) (s : St) : Option (Value × St) :=
(alenV (.slice 82) x1 s).bind fun v0 =>
(loopL (record_rows_api_Last.b0 R) [x2, x1, v0, (.int .i64 0)] s).bind fun r8 =>
exV r8.1 [(0, retV [] r8.2.2)]
 (none)

theorem record_rows_api_Last_of {lib : Lib} (hl : lib 99 = none) {x0 x1 x2 : Value} {s : St} {r : Value × St} (h : record_rows_api_Last (run Tryz.prog lib hints) x0 x1 x2 s = some r) : run Tryz.prog lib hints 99 [x0, x1, x2] s = some r :=
  run_of hl Tryz.func99 (Eq.trans (by kernel_rfl) h)

theorem record_rows_api_Last_ok : funcOk Tryz.prog 99 = true := by kernel_rfl
theorem record_rows_api_Last_call {R : Caller} {xs : List Value} {s : St} : callV Tryz.prog R (.func (.func 99) #[] #[]) xs s = R 99 xs s := callV_eq record_rows_api_Last_ok

/-! ### sumpter/record.list[sumpter/api.Result]: 100 -/

noncomputable def record_list_api_Result (R : Caller) (x0 x1 x2 : Value) (s : St) : Option (Value × St) :=
(alenV (.slice 146) x1 s).bind fun v0 =>
(callV Tryz.prog R (.func (.func 88) #[] #[]) [x0, v0] s).bind fun r1 =>
(callV Tryz.prog R (.func (.func 133) #[] #[]) [x0, x1, x2] r1.2).bind fun r2 =>
retV [] r2.2

theorem record_list_api_Result_of {lib : Lib} (hl : lib 100 = none) {x0 x1 x2 : Value} {s : St} {r : Value × St} (h : record_list_api_Result (run Tryz.prog lib hints) x0 x1 x2 s = some r) : run Tryz.prog lib hints 100 [x0, x1, x2] s = some r :=
  run_of hl Tryz.func100 (Eq.trans (by kernel_rfl) h)

theorem record_list_api_Result_ok : funcOk Tryz.prog 100 = true := by kernel_rfl
theorem record_list_api_Result_call {R : Caller} {xs : List Value} {s : St} : callV Tryz.prog R (.func (.func 100) #[] #[]) xs s = R 100 xs s := callV_eq record_list_api_Result_ok

/-! ### (*sumpter/record.writer).result: 101 -/

noncomputable def record_writer_result (R : Caller) (x0 x1 : Value) (s : St) : Option (Value × St) :=
(lbox x1).bind fun v0 =>
(lload false 1 lptr v0).bind fun v1 =>
(callV Tryz.prog R (.func (.func 134) #[] #[]) [x0, v1] s).bind fun r2 =>
(lload false 1 (.pointer (some ⟨0, 1, none⟩)) v0).bind fun v3 =>
(callV Tryz.prog R (.func (.func 90) #[] #[]) [x0, v3] r2.2).bind fun r4 =>
(lload false 1 (.pointer (some ⟨0, 2, none⟩)) v0).bind fun v5 =>
(amkFunc 136 [x0] []).bind fun v6 =>
(callV Tryz.prog R (.func (.func 135) #[] #[]) [x0, v5, v6] r4.2).bind fun r7 =>
retV [] r7.2

theorem record_writer_result_of {lib : Lib} (hl : lib 101 = none) {x0 x1 : Value} {s : St} {r : Value × St} (h : record_writer_result (run Tryz.prog lib hints) x0 x1 s = some r) : run Tryz.prog lib hints 101 [x0, x1] s = some r :=
  run_of hl Tryz.func101 (Eq.trans (by kernel_rfl) h)

theorem record_writer_result_ok : funcOk Tryz.prog 101 = true := by kernel_rfl
/-! ### sumpter/sumpterref18.flag: 102 -/

noncomputable def ref18_flag (R : Caller) (x0 x1 : Value) (s : St) : Option (Value × St) :=
condV x1
 ((abuildSl 1 [(.int .u8 0)] 1 [(0, (.int .u8 1))] s).bind fun r0 =>
(aappend 1 1 x0 r0.1 r0.2).bind fun r1 =>
retV [r1.1] r1.2)
 ((abuildSl 1 [(.int .u8 0)] 1 [(0, (.int .u8 0))] s).bind fun r2 =>
(aappend 1 1 x0 r2.1 r2.2).bind fun r3 =>
retV [r3.1] r3.2)

theorem ref18_flag_of {lib : Lib} (hl : lib 102 = none) {x0 x1 : Value} {s : St} {r : Value × St} (h : ref18_flag (run Tryz.prog lib hints) x0 x1 s = some r) : run Tryz.prog lib hints 102 [x0, x1] s = some r :=
  run_of hl Tryz.func102 (Eq.trans (by kernel_rfl) h)

theorem ref18_flag_ok : funcOk Tryz.prog 102 = true := by kernel_rfl
theorem ref18_flag_call {R : Caller} {xs : List Value} {s : St} : callV Tryz.prog R (.func (.func 102) #[] #[]) xs s = R 102 xs s := callV_eq ref18_flag_ok

/-! ### sumpter/span.CheckKey: 103 -/

noncomputable def span_CheckKey (R : Caller) (x0 : Value) (s : St) : Option (Value × St) :=
(abin Tryz.prog .eql 9 (.tmp 3) (.const (.string ⟨#[]⟩)) x0 (.string ⟨#[]⟩)).bind fun v0 =>
(guardV v0 false ((alenV .string x0 s).bind fun v1 =>
(abin Tryz.prog .gtr 3 (.tmp 7) (.const (.int .i64 12)) v1 (.int .i64 12)).bind fun v2 =>
some ([v2], s)) (some ([undef], s))).bind fun q3 =>
(apick v0 (.bool true) (getL q3.1 0)).bind fun v4 =>
condV v4
 (retV [(.int .i64 20)] q3.2)
 (retV [(.int .i64 0)] q3.2)

theorem span_CheckKey_of {lib : Lib} (hl : lib 103 = none) {x0 : Value} {s : St} {r : Value × St} (h : span_CheckKey (run Tryz.prog lib hints) x0 s = some r) : run Tryz.prog lib hints 103 [x0] s = some r :=
  run_of hl Tryz.func103 (Eq.trans (by kernel_rfl) h)

theorem span_CheckKey_ok : funcOk Tryz.prog 103 = true := by kernel_rfl
theorem span_CheckKey_call {R : Caller} {xs : List Value} {s : St} : callV Tryz.prog R (.func (.func 103) #[] #[]) xs s = R 103 xs s := callV_eq span_CheckKey_ok

/-! ### sumpter/span.all: 104 -/

noncomputable def span_all (R : Caller) (s : St) : Option (Value × St) :=
retV [(.agg #[(.string ⟨#[]⟩), (.string ⟨#[]⟩)])] s

theorem span_all_of {lib : Lib} (hl : lib 104 = none) {s : St} {r : Value × St} (h : span_all (run Tryz.prog lib hints)  s = some r) : run Tryz.prog lib hints 104 [] s = some r :=
  run_of hl Tryz.func104 (Eq.trans (by kernel_rfl) h)

theorem span_all_ok : funcOk Tryz.prog 104 = true := by kernel_rfl
theorem span_all_call {R : Caller} {xs : List Value} {s : St} : callV Tryz.prog R (.func (.func 104) #[] #[]) xs s = R 104 xs s := callV_eq span_all_ok

/-! ### slices.Index[[]uint64,uint64]: 105 -/

noncomputable def slices_Index_uint64_uint64.b0 (R : Caller) (T : List Value) (s : St) : Res :=
(abin Tryz.prog .lss 3 (.tmp 8) (.tmp 7) (getL T 3) (getL T 2)).bind fun v1 =>
condV v1
 ((aindexS 1 (getL T 0) (getL T 3)).bind fun v2 =>
(aload false 1 v2 s).bind fun v3 =>
(abin Tryz.prog .eql 22 (.tmp 11) (.tmp 15) (getL T 1) v3).bind fun v4 =>
condV v4
 (some (.ret, [(getL T 3)], s))
 ((abin Tryz.prog .add 3 (.tmp 8) (.const (.int .i64 1)) (getL T 3) (.int .i64 1)).bind fun v5 =>
some (.normal, [(getL T 0), (getL T 1), (getL T 2), v5], s)))
 (some (.exit 0, [], s))

noncomputable def slices_Index_uint64_uint64 (R : Caller) (x0 x1 : Value) (s : St) : Option (Value × St) :=
(alenV (.slice 22) x0 s).bind fun v0 =>
(loopL (slices_Index_uint64_uint64.b0 R) [x0, x1, v0, (.int .i64 0)] s).bind fun r6 =>
exV r6.1 [(0, retV [(.int .i64 (-1))] r6.2.2)]
 (retV [(getL r6.2.1 0)] r6.2.2)

theorem slices_Index_uint64_uint64_of {lib : Lib} (hl : lib 105 = none) {x0 x1 : Value} {s : St} {r : Value × St} (h : slices_Index_uint64_uint64 (run Tryz.prog lib hints) x0 x1 s = some r) : run Tryz.prog lib hints 105 [x0, x1] s = some r :=
  run_of hl Tryz.func105 (Eq.trans (by kernel_rfl) h)

theorem slices_Index_uint64_uint64_ok : funcOk Tryz.prog 105 = true := by kernel_rfl
theorem slices_Index_uint64_uint64_call {R : Caller} {xs : List Value} {s : St} : callV Tryz.prog R (.func (.func 105) #[] #[]) xs s = R 105 xs s := callV_eq slices_Index_uint64_uint64_ok

/-! ### slices.IndexFunc[[]sumpter/api.Op,sumpter/api.Op]: 106 -/

noncomputable def slices_IndexFunc_api_Op_api_Op.b0 (R : Caller) (T : List Value) (s : St) : Res :=
(abin Tryz.prog .lss 3 (.tmp 8) (.tmp 7) (getL T 3) (getL T 2)).bind fun v1 =>
condV v1
 ((aindexS 6 (getL T 0) (getL T 3)).bind fun v2 =>
(aload true 6 v2 s).bind fun v3 =>
(callV Tryz.prog R (getL T 1) [v3] s).bind fun r4 =>
condV r4.1
 (some (.ret, [(getL T 3)], r4.2))
 ((abin Tryz.prog .add 3 (.tmp 8) (.const (.int .i64 1)) (getL T 3) (.int .i64 1)).bind fun v5 =>
some (.normal, [(getL T 0), (getL T 1), (getL T 2), v5], r4.2)))
 (some (.exit 0, [], s))

noncomputable def slices_IndexFunc_api_Op_api_Op (R : Caller) (x0 x1 : Value) (s : St) : Option (Value × St) :=
(alenV (.slice 72) x0 s).bind fun v0 =>
(loopL (slices_IndexFunc_api_Op_api_Op.b0 R) [x0, x1, v0, (.int .i64 0)] s).bind fun r6 =>
exV r6.1 [(0, retV [(.int .i64 (-1))] r6.2.2)]
 (retV [(getL r6.2.1 0)] r6.2.2)

theorem slices_IndexFunc_api_Op_api_Op_of {lib : Lib} (hl : lib 106 = none) {x0 x1 : Value} {s : St} {r : Value × St} (h : slices_IndexFunc_api_Op_api_Op (run Tryz.prog lib hints) x0 x1 s = some r) : run Tryz.prog lib hints 106 [x0, x1] s = some r :=
  run_of hl Tryz.func106 (Eq.trans (by kernel_rfl) h)

theorem slices_IndexFunc_api_Op_api_Op_ok : funcOk Tryz.prog 106 = true := by kernel_rfl
theorem slices_IndexFunc_api_Op_api_Op_call {R : Caller} {xs : List Value} {s : St} : callV Tryz.prog R (.func (.func 106) #[] #[]) xs s = R 106 xs s := callV_eq slices_IndexFunc_api_Op_api_Op_ok

/-! ### sumpter/op.formOf: 107 -/

noncomputable def op_formOf (R : Caller) (x0 : Value) (s : St) : Option (Value × St) :=
(abin Tryz.prog .lss 3 (.tmp 4) (.const (.int .i64 1)) x0 (.int .i64 1)).bind fun v0 =>
(guardV v0 false ((abin Tryz.prog .gtr 3 (.tmp 7) (.const (.int .i64 5)) x0 (.int .i64 5)).bind fun v1 =>
some ([v1], s)) (some ([undef], s))).bind fun q2 =>
(apick v0 (.bool true) (getL q2.1 0)).bind fun v3 =>
condV v3
 (retV [(.agg #[(.bool false), (.bool false), (.bool false), (.bool false), (.bool false), .nilFunc]), (.bool false)] q2.2)
 ((callV Tryz.prog R (.func (.func 137) #[] #[]) [] q2.2).bind fun r4 =>
(aindexAgg true 6 6 r4.1 x0).bind fun v5 =>
(lstore 6 lptr v5 (.agg #[(.bool false), (.bool false), (.bool false), (.bool false), (.bool false), .nilFunc])).bind fun v6 =>
(lload true 6 lptr v6).bind fun v7 =>
retV [v7, (.bool true)] r4.2)

theorem op_formOf_of {lib : Lib} (hl : lib 107 = none) {x0 : Value} {s : St} {r : Value × St} (h : op_formOf (run Tryz.prog lib hints) x0 s = some r) : run Tryz.prog lib hints 107 [x0] s = some r :=
  run_of hl Tryz.func107 (Eq.trans (by kernel_rfl) h)

theorem op_formOf_ok : funcOk Tryz.prog 107 = true := by kernel_rfl
theorem op_formOf_call {R : Caller} {xs : List Value} {s : St} : callV Tryz.prog R (.func (.func 107) #[] #[]) xs s = R 107 xs s := callV_eq op_formOf_ok

/-! ### sumpter/op.of: 108 -/

noncomputable def op_of (R : Caller) (x0 : Value) (s : St) : Option (Value × St) :=
(lbox x0).bind fun v0 =>
(lload false 1 (.pointer (some ⟨0, 3, none⟩)) v0).bind fun v1 =>
(lload false 1 (.pointer (some ⟨0, 4, none⟩)) v0).bind fun v2 =>
(abuild Tryz.prog 27 [(0, v1), (1, v2)]).bind fun v3 =>
(lstore 2 lptr v3 (.agg #[(.string ⟨#[]⟩), (.string ⟨#[]⟩)])).bind fun v4 =>
(lload true 2 lptr v4).bind fun v5 =>
retV [v5] s

theorem op_of_of {lib : Lib} (hl : lib 108 = none) {x0 : Value} {s : St} {r : Value × St} (h : op_of (run Tryz.prog lib hints) x0 s = some r) : run Tryz.prog lib hints 108 [x0] s = some r :=
  run_of hl Tryz.func108 (Eq.trans (by kernel_rfl) h)

theorem op_of_ok : funcOk Tryz.prog 108 = true := by kernel_rfl
theorem op_of_call {R : Caller} {xs : List Value} {s : St} : callV Tryz.prog R (.func (.func 108) #[] #[]) xs s = R 108 xs s := callV_eq op_of_ok

/-! ### slices.IndexFunc[[]sumpter/api.Hold,sumpter/api.Hold]: 109 -/

noncomputable def slices_IndexFunc_api_Hold_api_Hold.b0 (R : Caller) (T : List Value) (s : St) : Res :=
(abin Tryz.prog .lss 3 (.tmp 8) (.tmp 7) (getL T 3) (getL T 2)).bind fun v1 =>
condV v1
 ((aindexS 2 (getL T 0) (getL T 3)).bind fun v2 =>
(aload true 2 v2 s).bind fun v3 =>
(callV Tryz.prog R (getL T 1) [v3] s).bind fun r4 =>
condV r4.1
 (some (.ret, [(getL T 3)], r4.2))
 ((abin Tryz.prog .add 3 (.tmp 8) (.const (.int .i64 1)) (getL T 3) (.int .i64 1)).bind fun v5 =>
some (.normal, [(getL T 0), (getL T 1), (getL T 2), v5], r4.2)))
 (some (.exit 0, [], s))

noncomputable def slices_IndexFunc_api_Hold_api_Hold (R : Caller) (x0 x1 : Value) (s : St) : Option (Value × St) :=
(alenV (.slice 64) x0 s).bind fun v0 =>
(loopL (slices_IndexFunc_api_Hold_api_Hold.b0 R) [x0, x1, v0, (.int .i64 0)] s).bind fun r6 =>
exV r6.1 [(0, retV [(.int .i64 (-1))] r6.2.2)]
 (retV [(getL r6.2.1 0)] r6.2.2)

theorem slices_IndexFunc_api_Hold_api_Hold_of {lib : Lib} (hl : lib 109 = none) {x0 x1 : Value} {s : St} {r : Value × St} (h : slices_IndexFunc_api_Hold_api_Hold (run Tryz.prog lib hints) x0 x1 s = some r) : run Tryz.prog lib hints 109 [x0, x1] s = some r :=
  run_of hl Tryz.func109 (Eq.trans (by kernel_rfl) h)

theorem slices_IndexFunc_api_Hold_api_Hold_ok : funcOk Tryz.prog 109 = true := by kernel_rfl
theorem slices_IndexFunc_api_Hold_api_Hold_call {R : Caller} {xs : List Value} {s : St} : callV Tryz.prog R (.func (.func 109) #[] #[]) xs s = R 109 xs s := callV_eq slices_IndexFunc_api_Hold_api_Hold_ok

/-! ### sumpter/sumpterref02.CheckKey: 110 -/

noncomputable def ref02_CheckKey (R : Caller) (x0 : Value) (s : St) : Option (Value × St) :=
(alenV .string x0 s).bind fun v0 =>
(abin Tryz.prog .lss 3 (.tmp 4) (.const (.int .i64 1)) v0 (.int .i64 1)).bind fun v1 =>
(guardV v1 false ((alenV .string x0 s).bind fun v2 =>
(abin Tryz.prog .gtr 3 (.tmp 8) (.const (.int .i64 12)) v2 (.int .i64 12)).bind fun v3 =>
some ([v3], s)) (some ([undef], s))).bind fun q4 =>
(apick v1 (.bool true) (getL q4.1 0)).bind fun v5 =>
condV v5
 (retV [(.int .i64 20)] q4.2)
 (retV [(.int .i64 0)] q4.2)

theorem ref02_CheckKey_of {lib : Lib} (hl : lib 110 = none) {x0 : Value} {s : St} {r : Value × St} (h : ref02_CheckKey (run Tryz.prog lib hints) x0 s = some r) : run Tryz.prog lib hints 110 [x0] s = some r :=
  run_of hl Tryz.func110 (Eq.trans (by kernel_rfl) h)

theorem ref02_CheckKey_ok : funcOk Tryz.prog 110 = true := by kernel_rfl
theorem ref02_CheckKey_call {R : Caller} {xs : List Value} {s : St} : callV Tryz.prog R (.func (.func 110) #[] #[]) xs s = R 110 xs s := callV_eq ref02_CheckKey_ok

/-! ### sumpter/sumpterref04.CheckOp: 111 -/

noncomputable def ref04_CheckOp (R : Caller) (x0 : Value) (s : St) : Option (Value × St) :=
(lbox x0).bind fun v0 =>
(lload false 1 lptr v0).bind fun v1 =>
(abin Tryz.prog .eql 3 (.tmp 6) (.const (.int .i64 1)) v1 (.int .i64 1)).bind fun v2 =>
(guardV v2 false ((lload false 1 lptr v0).bind fun v3 =>
(abin Tryz.prog .eql 3 (.tmp 10) (.const (.int .i64 2)) v3 (.int .i64 2)).bind fun v4 =>
some ([v4], s)) (some ([undef], s))).bind fun q5 =>
(apick v2 (.bool true) (getL q5.1 0)).bind fun v6 =>
(guardV v6 false ((lload false 1 lptr v0).bind fun v7 =>
(abin Tryz.prog .eql 3 (.tmp 15) (.const (.int .i64 3)) v7 (.int .i64 3)).bind fun v8 =>
some ([v8], q5.2)) (some ([undef], q5.2))).bind fun q9 =>
(apick v6 (.bool true) (getL q9.1 0)).bind fun v10 =>
(lload false 1 lptr v0).bind fun v11 =>
(abin Tryz.prog .eql 3 (.tmp 19) (.const (.int .i64 4)) v11 (.int .i64 4)).bind fun v12 =>
(guardV v12 false ((lload false 1 lptr v0).bind fun v13 =>
(abin Tryz.prog .eql 3 (.tmp 23) (.const (.int .i64 5)) v13 (.int .i64 5)).bind fun v14 =>
some ([v14], q9.2)) (some ([undef], q9.2))).bind fun q15 =>
(apick v12 (.bool true) (getL q15.1 0)).bind fun v16 =>
(aun .not v10).bind fun v17 =>
(guardV v17 true ((aun .not v16).bind fun v18 =>
some ([v18], q15.2)) (some ([undef], q15.2))).bind fun q19 =>
(apick v17 (getL q19.1 0) (.bool false)).bind fun v20 =>
(guardV v20 false (some ([v10], q19.2)) (some ([undef], q19.2))).bind fun q21 =>
(guardV (getL q21.1 0) true ((lload false 1 (.pointer (some ⟨0, 3, none⟩)) v0).bind fun v22 =>
(abin Tryz.prog .neq 9 (.tmp 36) (.const (.string ⟨#[]⟩)) v22 (.string ⟨#[]⟩)).bind fun v23 =>
some ([v23], q21.2)) (some ([undef], q21.2))).bind fun q24 =>
(guardV (getL q24.1 0) false ((lload false 1 (.pointer (some ⟨0, 4, none⟩)) v0).bind fun v25 =>
(abin Tryz.prog .neq 9 (.tmp 40) (.const (.string ⟨#[]⟩)) v25 (.string ⟨#[]⟩)).bind fun v26 =>
some ([v26], q24.2)) (some ([undef], q24.2))).bind fun q27 =>
(guardV (getL q21.1 0) true ((apick (getL q24.1 0) (.bool true) (getL q27.1 0)).bind fun v28 =>
some ([v28], q27.2)) (some ([undef], q27.2))).bind fun q29 =>
(guardV v20 false ((apick (getL q21.1 0) (getL q29.1 0) (.bool false)).bind fun v30 =>
some ([v30], q29.2)) (some ([undef], q29.2))).bind fun q31 =>
(apick v20 (.bool true) (getL q31.1 0)).bind fun v32 =>
(guardV v32 false (some ([v16], q31.2)) (some ([undef], q31.2))).bind fun q33 =>
(guardV (getL q33.1 0) true ((lload false 1 (.pointer (some ⟨0, 1, none⟩)) v0).bind fun v34 =>
(abin Tryz.prog .neq 9 (.tmp 49) (.const (.string ⟨#[]⟩)) v34 (.string ⟨#[]⟩)).bind fun v35 =>
some ([v35], q33.2)) (some ([undef], q33.2))).bind fun q36 =>
(guardV v32 false ((apick (getL q33.1 0) (getL q36.1 0) (.bool false)).bind fun v37 =>
some ([v37], q36.2)) (some ([undef], q36.2))).bind fun q38 =>
(apick v32 (.bool true) (getL q38.1 0)).bind fun v39 =>
(guardV v39 false ((lload false 1 lptr v0).bind fun v40 =>
(abin Tryz.prog .neq 3 (.tmp 55) (.const (.int .i64 2)) v40 (.int .i64 2)).bind fun v41 =>
some ([v41], q38.2)) (some ([undef], q38.2))).bind fun q42 =>
(guardV (getL q42.1 0) true ((lload false 1 (.pointer (some ⟨0, 2, none⟩)) v0).bind fun v43 =>
(abin Tryz.prog .neq 9 (.tmp 59) (.const (.string ⟨#[]⟩)) v43 (.string ⟨#[]⟩)).bind fun v44 =>
some ([v44], q42.2)) (some ([undef], q42.2))).bind fun q45 =>
(guardV v39 false ((apick (getL q42.1 0) (getL q45.1 0) (.bool false)).bind fun v46 =>
some ([v46], q45.2)) (some ([undef], q45.2))).bind fun q47 =>
(apick v39 (.bool true) (getL q47.1 0)).bind fun v48 =>
(guardV v48 false ((lload false 1 lptr v0).bind fun v49 =>
(abin Tryz.prog .neq 3 (.tmp 65) (.const (.int .i64 4)) v49 (.int .i64 4)).bind fun v50 =>
some ([v50], q47.2)) (some ([undef], q47.2))).bind fun q51 =>
(guardV (getL q51.1 0) true ((lload false 1 (.pointer (some ⟨0, 5, none⟩)) v0).bind fun v52 =>
(abin Tryz.prog .neq 3 (.tmp 69) (.const (.int .i64 0)) v52 (.int .i64 0)).bind fun v53 =>
some ([v53], q51.2)) (some ([undef], q51.2))).bind fun q54 =>
(guardV v48 false ((apick (getL q51.1 0) (getL q54.1 0) (.bool false)).bind fun v55 =>
some ([v55], q54.2)) (some ([undef], q54.2))).bind fun q56 =>
(apick v48 (.bool true) (getL q56.1 0)).bind fun v57 =>
condV v57
 (retV [(.int .i64 40)] q56.2)
 ((guardV v10 true ((lload false 1 (.pointer (some ⟨0, 1, none⟩)) v0).bind fun v58 =>
(callV Tryz.prog R (.func (.func 110) #[] #[]) [v58] q56.2).bind fun r59 =>
(abin Tryz.prog .neq 38 (.tmp 77) (.const (.int .i64 0)) r59.1 (.int .i64 0)).bind fun v60 =>
some ([v60], r59.2)) (some ([undef], q56.2))).bind fun q61 =>
(apick v10 (getL q61.1 0) (.bool false)).bind fun v62 =>
condV v62
 (retV [(.int .i64 20)] q61.2)
 ((lload false 1 (.pointer (some ⟨0, 2, none⟩)) v0).bind fun v63 =>
(alenV .string v63 q61.2).bind fun v64 =>
(abin Tryz.prog .gtr 3 (.tmp 82) (.const (.int .i64 16)) v64 (.int .i64 16)).bind fun v65 =>
condV v65
 (retV [(.int .i64 2)] q61.2)
 ((guardV v16 true ((lload false 1 (.pointer (some ⟨0, 3, none⟩)) v0).bind fun v66 =>
(lload false 1 (.pointer (some ⟨0, 4, none⟩)) v0).bind fun v67 =>
(abuild Tryz.prog 27 [(0, v66), (1, v67)]).bind fun v68 =>
(callV Tryz.prog R (.func (.func 49) #[] #[]) [v68] q61.2).bind fun r69 =>
(abin Tryz.prog .neq 38 (.tmp 91) (.const (.int .i64 0)) r69.1 (.int .i64 0)).bind fun v70 =>
some ([v70], r69.2)) (some ([undef], q61.2))).bind fun q71 =>
(apick v16 (getL q71.1 0) (.bool false)).bind fun v72 =>
condV v72
 (retV [(.int .i64 21)] q71.2)
 ((lload false 1 lptr v0).bind fun v73 =>
(abin Tryz.prog .eql 3 (.tmp 95) (.const (.int .i64 4)) v73 (.int .i64 4)).bind fun v74 =>
(guardV v74 true ((lload false 1 (.pointer (some ⟨0, 5, none⟩)) v0).bind fun v75 =>
(abin Tryz.prog .lss 3 (.tmp 99) (.const (.int .i64 1)) v75 (.int .i64 1)).bind fun v76 =>
some ([v76], q71.2)) (some ([undef], q71.2))).bind fun q77 =>
(guardV (getL q77.1 0) false ((lload false 1 (.pointer (some ⟨0, 5, none⟩)) v0).bind fun v78 =>
(abin Tryz.prog .gtr 3 (.tmp 103) (.const (.int .i64 4)) v78 (.int .i64 4)).bind fun v79 =>
some ([v79], q77.2)) (some ([undef], q77.2))).bind fun q80 =>
(guardV v74 true ((apick (getL q77.1 0) (.bool true) (getL q80.1 0)).bind fun v81 =>
some ([v81], q80.2)) (some ([undef], q80.2))).bind fun q82 =>
(apick v74 (getL q82.1 0) (.bool false)).bind fun v83 =>
condV v83
 (retV [(.int .i64 1)] q82.2)
 (retV [(.int .i64 0)] q82.2)))))

theorem ref04_CheckOp_of {lib : Lib} (hl : lib 111 = none) {x0 : Value} {s : St} {r : Value × St} (h : ref04_CheckOp (run Tryz.prog lib hints) x0 s = some r) : run Tryz.prog lib hints 111 [x0] s = some r :=
  run_of hl Tryz.func111 (Eq.trans (by kernel_rfl) h)

theorem ref04_CheckOp_ok : funcOk Tryz.prog 111 = true := by kernel_rfl
theorem ref04_CheckOp_call {R : Caller} {xs : List Value} {s : St} : callV Tryz.prog R (.func (.func 111) #[] #[]) xs s = R 111 xs s := callV_eq ref04_CheckOp_ok

/-! ### slices.IndexFunc[[]sumpter/api.Owner,sumpter/api.Owner]: 112 -/

noncomputable def slices_IndexFunc_api_Owner_api_Owner.b0 (R : Caller) (T : List Value) (s : St) : Res :=
(abin Tryz.prog .lss 3 (.tmp 8) (.tmp 7) (getL T 3) (getL T 2)).bind fun v1 =>
condV v1
 ((aindexS 2 (getL T 0) (getL T 3)).bind fun v2 =>
(aload true 2 v2 s).bind fun v3 =>
(callV Tryz.prog R (getL T 1) [v3] s).bind fun r4 =>
condV r4.1
 (some (.ret, [(getL T 3)], r4.2))
 ((abin Tryz.prog .add 3 (.tmp 8) (.const (.int .i64 1)) (getL T 3) (.int .i64 1)).bind fun v5 =>
some (.normal, [(getL T 0), (getL T 1), (getL T 2), v5], r4.2)))
 (some (.exit 0, [], s))

noncomputable def slices_IndexFunc_api_Owner_api_Owner (R : Caller) (x0 x1 : Value) (s : St) : Option (Value × St) :=
(alenV (.slice 54) x0 s).bind fun v0 =>
(loopL (slices_IndexFunc_api_Owner_api_Owner.b0 R) [x0, x1, v0, (.int .i64 0)] s).bind fun r6 =>
exV r6.1 [(0, retV [(.int .i64 (-1))] r6.2.2)]
 (retV [(getL r6.2.1 0)] r6.2.2)

theorem slices_IndexFunc_api_Owner_api_Owner_of {lib : Lib} (hl : lib 112 = none) {x0 x1 : Value} {s : St} {r : Value × St} (h : slices_IndexFunc_api_Owner_api_Owner (run Tryz.prog lib hints) x0 x1 s = some r) : run Tryz.prog lib hints 112 [x0, x1] s = some r :=
  run_of hl Tryz.func112 (Eq.trans (by kernel_rfl) h)

theorem slices_IndexFunc_api_Owner_api_Owner_ok : funcOk Tryz.prog 112 = true := by kernel_rfl
theorem slices_IndexFunc_api_Owner_api_Owner_call {R : Caller} {xs : List Value} {s : St} : callV Tryz.prog R (.func (.func 112) #[] #[]) xs s = R 112 xs s := callV_eq slices_IndexFunc_api_Owner_api_Owner_ok

/-! ### slices.IndexFunc[[]sumpter/api.Decision,sumpter/api.Decision]: 113 -/

noncomputable def slices_IndexFunc_api_Decision_api_Decision.b0 (R : Caller) (T : List Value) (s : St) : Res :=
(abin Tryz.prog .lss 3 (.tmp 8) (.tmp 7) (getL T 3) (getL T 2)).bind fun v1 =>
condV v1
 ((aindexS 5 (getL T 0) (getL T 3)).bind fun v2 =>
(aload true 5 v2 s).bind fun v3 =>
(callV Tryz.prog R (getL T 1) [v3] s).bind fun r4 =>
condV r4.1
 (some (.ret, [(getL T 3)], r4.2))
 ((abin Tryz.prog .add 3 (.tmp 8) (.const (.int .i64 1)) (getL T 3) (.int .i64 1)).bind fun v5 =>
some (.normal, [(getL T 0), (getL T 1), (getL T 2), v5], r4.2)))
 (some (.exit 0, [], s))

noncomputable def slices_IndexFunc_api_Decision_api_Decision (R : Caller) (x0 x1 : Value) (s : St) : Option (Value × St) :=
(alenV (.slice 77) x0 s).bind fun v0 =>
(loopL (slices_IndexFunc_api_Decision_api_Decision.b0 R) [x0, x1, v0, (.int .i64 0)] s).bind fun r6 =>
exV r6.1 [(0, retV [(.int .i64 (-1))] r6.2.2)]
 (retV [(getL r6.2.1 0)] r6.2.2)

theorem slices_IndexFunc_api_Decision_api_Decision_of {lib : Lib} (hl : lib 113 = none) {x0 x1 : Value} {s : St} {r : Value × St} (h : slices_IndexFunc_api_Decision_api_Decision (run Tryz.prog lib hints) x0 x1 s = some r) : run Tryz.prog lib hints 113 [x0, x1] s = some r :=
  run_of hl Tryz.func113 (Eq.trans (by kernel_rfl) h)

theorem slices_IndexFunc_api_Decision_api_Decision_ok : funcOk Tryz.prog 113 = true := by kernel_rfl
theorem slices_IndexFunc_api_Decision_api_Decision_call {R : Caller} {xs : List Value} {s : St} : callV Tryz.prog R (.func (.func 113) #[] #[]) xs s = R 113 xs s := callV_eq slices_IndexFunc_api_Decision_api_Decision_ok

/-! ### slices.IndexFunc[[]int,int]: 114 -/

noncomputable def slices_IndexFunc_int_int.b0 (R : Caller) (T : List Value) (s : St) : Res :=
(abin Tryz.prog .lss 3 (.tmp 8) (.tmp 7) (getL T 3) (getL T 2)).bind fun v1 =>
condV v1
 ((aindexS 1 (getL T 0) (getL T 3)).bind fun v2 =>
(aload false 1 v2 s).bind fun v3 =>
(callV Tryz.prog R (getL T 1) [v3] s).bind fun r4 =>
condV r4.1
 (some (.ret, [(getL T 3)], r4.2))
 ((abin Tryz.prog .add 3 (.tmp 8) (.const (.int .i64 1)) (getL T 3) (.int .i64 1)).bind fun v5 =>
some (.normal, [(getL T 0), (getL T 1), (getL T 2), v5], r4.2)))
 (some (.exit 0, [], s))

noncomputable def slices_IndexFunc_int_int (R : Caller) (x0 x1 : Value) (s : St) : Option (Value × St) :=
(alenV (.slice 3) x0 s).bind fun v0 =>
(loopL (slices_IndexFunc_int_int.b0 R) [x0, x1, v0, (.int .i64 0)] s).bind fun r6 =>
exV r6.1 [(0, retV [(.int .i64 (-1))] r6.2.2)]
 (retV [(getL r6.2.1 0)] r6.2.2)

theorem slices_IndexFunc_int_int_of {lib : Lib} (hl : lib 114 = none) {x0 x1 : Value} {s : St} {r : Value × St} (h : slices_IndexFunc_int_int (run Tryz.prog lib hints) x0 x1 s = some r) : run Tryz.prog lib hints 114 [x0, x1] s = some r :=
  run_of hl Tryz.func114 (Eq.trans (by kernel_rfl) h)

theorem slices_IndexFunc_int_int_ok : funcOk Tryz.prog 114 = true := by kernel_rfl
theorem slices_IndexFunc_int_int_call {R : Caller} {xs : List Value} {s : St} : callV Tryz.prog R (.func (.func 114) #[] #[]) xs s = R 114 xs s := callV_eq slices_IndexFunc_int_int_ok

/-! ### slices.IndexFunc[[]sumpter/api.Last,sumpter/api.Last]: 115 -/

noncomputable def slices_IndexFunc_api_Last_api_Last.b0 (R : Caller) (T : List Value) (s : St) : Res :=
(abin Tryz.prog .lss 3 (.tmp 8) (.tmp 7) (getL T 3) (getL T 2)).bind fun v1 =>
condV v1
 ((aindexS 4 (getL T 0) (getL T 3)).bind fun v2 =>
(aload true 4 v2 s).bind fun v3 =>
(callV Tryz.prog R (getL T 1) [v3] s).bind fun r4 =>
condV r4.1
 (some (.ret, [(getL T 3)], r4.2))
 ((abin Tryz.prog .add 3 (.tmp 8) (.const (.int .i64 1)) (getL T 3) (.int .i64 1)).bind fun v5 =>
some (.normal, [(getL T 0), (getL T 1), (getL T 2), v5], r4.2)))
 (some (.exit 0, [], s))

noncomputable def slices_IndexFunc_api_Last_api_Last (R : Caller) (x0 x1 : Value) (s : St) : Option (Value × St) :=
(alenV (.slice 82) x0 s).bind fun v0 =>
(loopL (slices_IndexFunc_api_Last_api_Last.b0 R) [x0, x1, v0, (.int .i64 0)] s).bind fun r6 =>
exV r6.1 [(0, retV [(.int .i64 (-1))] r6.2.2)]
 (retV [(getL r6.2.1 0)] r6.2.2)

theorem slices_IndexFunc_api_Last_api_Last_of {lib : Lib} (hl : lib 115 = none) {x0 x1 : Value} {s : St} {r : Value × St} (h : slices_IndexFunc_api_Last_api_Last (run Tryz.prog lib hints) x0 x1 s = some r) : run Tryz.prog lib hints 115 [x0, x1] s = some r :=
  run_of hl Tryz.func115 (Eq.trans (by kernel_rfl) h)

theorem slices_IndexFunc_api_Last_api_Last_ok : funcOk Tryz.prog 115 = true := by kernel_rfl
theorem slices_IndexFunc_api_Last_api_Last_call {R : Caller} {xs : List Value} {s : St} : callV Tryz.prog R (.func (.func 115) #[] #[]) xs s = R 115 xs s := callV_eq slices_IndexFunc_api_Last_api_Last_ok

/-! ### sumpter/record.results$1: 116 -/

noncomputable def record_results_1 (R : Caller) (x0 : Value) (s : St) : Option (Value × St) :=
(lbox x0).bind fun v0 =>
(lload false 1 lptr v0).bind fun v1 =>
(callV Tryz.prog R (.func (.func 103) #[] #[]) [v1] s).bind fun r2 =>
(abin Tryz.prog .neq 38 (.tmp 5) (.const (.int .i64 0)) r2.1 (.int .i64 0)).bind fun v3 =>
(guardV v3 false ((lload false 1 (.pointer (some ⟨0, 1, none⟩)) v0).bind fun v4 =>
(alenV .string v4 r2.2).bind fun v5 =>
(abin Tryz.prog .gtr 3 (.tmp 10) (.const (.int .i64 16)) v5 (.int .i64 16)).bind fun v6 =>
some ([v6], r2.2)) (some ([undef], r2.2))).bind fun q7 =>
(apick v3 (.bool true) (getL q7.1 0)).bind fun v8 =>
retV [v8] q7.2

theorem record_results_1_of {lib : Lib} (hl : lib 116 = none) {x0 : Value} {s : St} {r : Value × St} (h : record_results_1 (run Tryz.prog lib hints) x0 s = some r) : run Tryz.prog lib hints 116 [x0] s = some r :=
  run_of hl Tryz.func116 (Eq.trans (by kernel_rfl) h)

theorem record_results_1_ok : funcOk Tryz.prog 116 = true := by kernel_rfl
theorem record_results_1_call {R : Caller} {xs : List Value} {s : St} : callV Tryz.prog R (.func (.func 116) #[] #[]) xs s = R 116 xs s := callV_eq record_results_1_ok

/-! ### slices.ContainsFunc[[]sumpter/api.Result,sumpter/api.Result]: 117 -/

noncomputable def slices_ContainsFunc_api_Result_api_Result (R : Caller) (x0 x1 : Value) (s : St) : Option (Value × St) :=
(callV Tryz.prog R (.func (.func 138) #[] #[]) [x0, x1] s).bind fun r0 =>
(abin Tryz.prog .geq 3 (.tmp 7) (.const (.int .i64 0)) r0.1 (.int .i64 0)).bind fun v1 =>
retV [v1] r0.2

theorem slices_ContainsFunc_api_Result_api_Result_of {lib : Lib} (hl : lib 117 = none) {x0 x1 : Value} {s : St} {r : Value × St} (h : slices_ContainsFunc_api_Result_api_Result (run Tryz.prog lib hints) x0 x1 s = some r) : run Tryz.prog lib hints 117 [x0, x1] s = some r :=
  run_of hl Tryz.func117 (Eq.trans (by kernel_rfl) h)

theorem slices_ContainsFunc_api_Result_api_Result_ok : funcOk Tryz.prog 117 = true := by kernel_rfl
theorem slices_ContainsFunc_api_Result_api_Result_call {R : Caller} {xs : List Value} {s : St} : callV Tryz.prog R (.func (.func 117) #[] #[]) xs s = R 117 xs s := callV_eq slices_ContainsFunc_api_Result_api_Result_ok

/-! ### sumpter/record.results$2: 118 -/

noncomputable def record_results_2 (R : Caller) (x0 x1 : Value) (s : St) : Option (Value × St) :=
(lbox x0).bind fun v0 =>
(lload false 1 (.pointer (some ⟨0, 1, none⟩)) v0).bind fun v1 =>
(alenV .string v1 s).bind fun v2 =>
(abin Tryz.prog .gtr 3 (.tmp 6) (.const (.int .i64 16)) v2 (.int .i64 16)).bind fun v3 =>
(guardV v3 false ((lload false 1 (.pointer (some ⟨0, 2, none⟩)) v0).bind fun v4 =>
(alenV (.slice 150) v4 s).bind fun v5 =>
(abin Tryz.prog .gtr 3 (.tmp 11) (.const (.int .i64 4)) v5 (.int .i64 4)).bind fun v6 =>
some ([v6], s)) (some ([undef], s))).bind fun q7 =>
(apick v3 (.bool true) (getL q7.1 0)).bind fun v8 =>
(guardV v8 false ((lload false 1 (.pointer (some ⟨0, 2, none⟩)) v0).bind fun v9 =>
(aload false 1 x1 q7.2).bind fun v10 =>
(callV Tryz.prog R (.func (.func 119) #[] #[]) [v9, v10] q7.2).bind fun r11 =>
some ([r11.1], r11.2)) (some ([undef], q7.2))).bind fun q12 =>
(apick v8 (.bool true) (getL q12.1 0)).bind fun v13 =>
retV [v13] q12.2

theorem record_results_2_of {lib : Lib} (hl : lib 118 = none) {x0 x1 : Value} {s : St} {r : Value × St} (h : record_results_2 (run Tryz.prog lib hints) x0 x1 s = some r) : run Tryz.prog lib hints 118 [x0, x1] s = some r :=
  run_of hl Tryz.func118 (Eq.trans (by kernel_rfl) h)

theorem record_results_2_ok : funcOk Tryz.prog 118 = true := by kernel_rfl
/-! ### slices.ContainsFunc[[]sumpter/api.Pair,sumpter/api.Pair]: 119 -/

noncomputable def slices_ContainsFunc_api_Pair_api_Pair (R : Caller) (x0 x1 : Value) (s : St) : Option (Value × St) :=
(callV Tryz.prog R (.func (.func 139) #[] #[]) [x0, x1] s).bind fun r0 =>
(abin Tryz.prog .geq 3 (.tmp 7) (.const (.int .i64 0)) r0.1 (.int .i64 0)).bind fun v1 =>
retV [v1] r0.2

theorem slices_ContainsFunc_api_Pair_api_Pair_of {lib : Lib} (hl : lib 119 = none) {x0 x1 : Value} {s : St} {r : Value × St} (h : slices_ContainsFunc_api_Pair_api_Pair (run Tryz.prog lib hints) x0 x1 s = some r) : run Tryz.prog lib hints 119 [x0, x1] s = some r :=
  run_of hl Tryz.func119 (Eq.trans (by kernel_rfl) h)

theorem slices_ContainsFunc_api_Pair_api_Pair_ok : funcOk Tryz.prog 119 = true := by kernel_rfl
theorem slices_ContainsFunc_api_Pair_api_Pair_call {R : Caller} {xs : List Value} {s : St} : callV Tryz.prog R (.func (.func 119) #[] #[]) xs s = R 119 xs s := callV_eq slices_ContainsFunc_api_Pair_api_Pair_ok

/-! ### (*sumpter/record.reader).mark: 120 -/

/-! ### (*sumpter/record.reader).fail: 121 -/

/-! ### (*sumpter/record.reader).text: 122 -/

noncomputable def record_reader_text.j0 (R : Caller) (T : List Value) (s : St) : Option (Value × St) :=
(abin Tryz.prog .neq 38 (.tmp 22) (.const (.int .i64 0)) (getL T 3) (.int .i64 0)).bind fun v13 =>
condV v13
 ((callV Tryz.prog R (.func (.func 121) #[] #[]) [(getL T 0), (getL T 3)] s).bind fun r14 =>
retV [(.string ⟨#[]⟩)] r14.2)
 ((anilCheck (getL T 0)).bind fun v15 =>
(afieldAddr 0 v15).bind fun v16 =>
(aload false 1 v16 s).bind fun v17 =>
(asliceV 1 v17 (some (getL T 2)) none none).bind fun v18 =>
(anilCheck (getL T 0)).bind fun v19 =>
(afieldAddr 0 v19).bind fun v20 =>
(astore 1 v20 v18 s).bind fun s21 =>
retV [(getL T 1)] s21)

noncomputable def record_reader_text (R : Caller) (x0 : Value) (s : St) : Option (Value × St) :=
(anilCheck x0).bind fun v0 =>
(afieldAddr 1 v0).bind fun v1 =>
(aload false 1 v1 s).bind fun v2 =>
(abin Tryz.prog .neq 38 (.tmp 9) (.const (.int .i64 0)) v2 (.int .i64 0)).bind fun v3 =>
condV v3
 (retV [(.string ⟨#[]⟩)] s)
 ((anilCheck x0).bind fun v4 =>
(afieldAddr 0 v4).bind fun v5 =>
(aload false 1 v5 s).bind fun v6 =>
(callV Tryz.prog R (.func (.func 140) #[] #[]) [v6, (.int .i64 255)] s).bind fun r7 =>
(aextract 0 r7.1).bind fun v8 =>
(aextract 1 r7.1).bind fun v9 =>
(aextract 2 r7.1).bind fun v10 =>
(abin Tryz.prog .eql 38 (.tmp 20) (.const (.int .i64 2)) v10 (.int .i64 2)).bind fun v12 =>
condV v12
 (joinK (record_reader_text.j0 R) [x0, v8, v9, (.int .i64 11)] r7.2)
 (joinK (record_reader_text.j0 R) [x0, v8, v9, v10] r7.2))

/-! ### sumpter/record.many[sumpter/api.Op]: 123 -/

noncomputable def record_many_api_Op.b0 (R : Caller) (T : List Value) (s : St) : Res :=
(abin Tryz.prog .gtr 3 (.tmp 9) (.const (.int .i64 0)) (getL T 3) (.int .i64 0)).bind fun v1 =>
(guardV v1 true ((anilCheck (getL T 0)).bind fun v2 =>
(afieldAddr 1 v2).bind fun v3 =>
(aload false 1 v3 s).bind fun v4 =>
(abin Tryz.prog .eql 38 (.tmp 15) (.const (.int .i64 0)) v4 (.int .i64 0)).bind fun v5 =>
some ([v5], s)) (some ([undef], s))).bind fun q6 =>
(apick v1 (getL q6.1 0) (.bool false)).bind fun v7 =>
condV v7
 ((callV Tryz.prog R (getL T 1) [] q6.2).bind fun r8 =>
(abuildSl 6 [(.int .i64 0), (.string ⟨#[]⟩), (.string ⟨#[]⟩), (.string ⟨#[]⟩), (.string ⟨#[]⟩), (.int .i64 0)] 1 [(0, r8.1)] r8.2).bind fun r9 =>
(aappend 6 80 (getL T 2) r9.1 r9.2).bind fun r10 =>
(abin Tryz.prog .sub 3 (.tmp 18) (.const (.int .i64 1)) (getL T 3) (.int .i64 1)).bind fun v11 =>
some (.normal, [(getL T 0), (getL T 1), r10.1, v11], r10.2))
 (some (.exit 0, [(getL T 2)], q6.2))

noncomputable def record_many_api_Op (R : Caller) (x0 x1 : Value) (s : St) : Option (Value × St) :=
(callV Tryz.prog R (.func (.func 70) #[] #[]) [x0] s).bind fun r0 =>
(loopL (record_many_api_Op.b0 R) [x0, x1, (.slice none 0 0), r0.1] r0.2).bind fun r12 =>
exV r12.1 [(0, retV [(getL r12.2.1 0)] r12.2.2)]
 (none)

/-! ### (*sumpter/record.reader).op: 124 -/

noncomputable def record_reader_op.b0 (R : Caller) (T : List Value) (s : St) : Res :=
(abin Tryz.prog .lss 3 (.tmp 15) (.tmp 14) (getL T 5) (getL T 4)).bind fun v10 =>
condV v10
 ((aindexS 1 (getL T 3) (getL T 5)).bind fun v11 =>
(aload false 1 v11 s).bind fun v12 =>
(callV Tryz.prog R (.func (.func 122) #[] #[]) [(getL T 0)] s).bind fun r13 =>
(anilCheck v12).bind fun v14 =>
(astore 1 v14 r13.1 r13.2).bind fun s15 =>
(abin Tryz.prog .add 3 (.tmp 15) (.const (.int .i64 1)) (getL T 5) (.int .i64 1)).bind fun v16 =>
some (.normal, [(getL T 0), (getL T 1), (getL T 2), (getL T 3), (getL T 4), v16, (getL T 6)], s15))
 (some (.exit 0, [(getL T 0), (getL T 1), (getL T 2), (getL T 6)], s))

noncomputable def record_reader_op (R : Caller) (x0 : Value) (s : St) : Option (Value × St) :=
(callV Tryz.prog R (.func (.func 70) #[] #[]) [x0] s).bind fun r0 =>
(abuild Tryz.prog 72 [(0, r0.1)]).bind fun v1 =>
(anew [(.int .i64 0), (.string ⟨#[]⟩), (.string ⟨#[]⟩), (.string ⟨#[]⟩), (.string ⟨#[]⟩), (.int .i64 0)] r0.2).bind fun r2 =>
(astore 6 r2.1 v1 r2.2).bind fun s3 =>
(afieldAddr 1 r2.1).bind fun v4 =>
(afieldAddr 2 r2.1).bind fun v5 =>
(afieldAddr 3 r2.1).bind fun v6 =>
(afieldAddr 4 r2.1).bind fun v7 =>
(abuildSl 1 [(.pointer none)] 4 [(0, v4), (1, v5), (2, v6), (3, v7)] s3).bind fun r8 =>
(alenV (.slice 193) r8.1 r8.2).bind fun v9 =>
(loopL (record_reader_op.b0 R) [x0, lptr, r2.1, r8.1, v9, (.int .i64 0), (.agg #[(.int .i64 0), (.string ⟨#[]⟩), (.string ⟨#[]⟩), (.string ⟨#[]⟩), (.string ⟨#[]⟩), (.int .i64 0)])] r8.2).bind fun r17 =>
exV r17.1 [(0, (callV Tryz.prog R (.func (.func 70) #[] #[]) [(getL r17.2.1 0)] r17.2.2).bind fun r18 =>
(afieldAddr 5 (getL r17.2.1 2)).bind fun v19 =>
(astore 1 v19 r18.1 r18.2).bind fun s20 =>
(aload true 6 (getL r17.2.1 2) s20).bind fun v21 =>
(lstore 6 (getL r17.2.1 1) v21 (getL r17.2.1 3)).bind fun v22 =>
(lload true 6 (getL r17.2.1 1) v22).bind fun v23 =>
retV [v23] s20)]
 (none)

/-! ### sumpter/octet.ReadNum: 125 -/

noncomputable def octet_ReadNum.b0 (R : Caller) (T : List Value) (s : St) : Res :=
(abin Tryz.prog .lss 3 (.tmp 10) (.tmp 9) (getL T 3) (getL T 2)).bind fun v1 =>
condV v1
 ((aindexS 1 (getL T 1) (getL T 3)).bind fun v2 =>
(aload false 1 v2 s).bind fun v3 =>
(abin Tryz.prog .eql 3 (.tmp 15) (.const (.int .i64 9)) (getL T 3) (.int .i64 9)).bind fun v4 =>
(guardV v4 true ((abin Tryz.prog .gtr 5 (.tmp 18) (.const (.int .u8 1)) v3 (.int .u8 1)).bind fun v5 =>
some ([v5], s)) (some ([undef], s))).bind fun q6 =>
(apick v4 (getL q6.1 0) (.bool false)).bind fun v7 =>
condV v7
 (some (.ret, [(.int .u64 0), (.int .i64 0), (.int .i64 11)], q6.2))
 ((abin Tryz.prog .and 5 (.tmp 22) (.const (.int .u8 127)) v3 (.int .u8 127)).bind fun v8 =>
(convInt .u64 v8).bind fun v9 =>
(abin Tryz.prog .mul 3 (.const (.int .i64 7)) (.tmp 25) (.int .i64 7) (getL T 3)).bind fun v10 =>
(abin Tryz.prog .shl 22 (.tmp 24) (.tmp 26) v9 v10).bind fun v11 =>
(abin Tryz.prog .or 22 (.tmp 21) (.tmp 27) (getL T 0) v11).bind fun v12 =>
(abin Tryz.prog .lss 5 (.tmp 29) (.const (.int .u8 128)) v3 (.int .u8 128)).bind fun v13 =>
condV v13
 ((abin Tryz.prog .eql 5 (.tmp 31) (.const (.int .u8 0)) v3 (.int .u8 0)).bind fun v14 =>
(guardV v14 true ((abin Tryz.prog .gtr 3 (.tmp 34) (.const (.int .i64 0)) (getL T 3) (.int .i64 0)).bind fun v15 =>
some ([v15], q6.2)) (some ([undef], q6.2))).bind fun q16 =>
(apick v14 (getL q16.1 0) (.bool false)).bind fun v17 =>
condV v17
 (some (.ret, [(.int .u64 0), (.int .i64 0), (.int .i64 11)], q16.2))
 ((abin Tryz.prog .add 3 (.tmp 38) (.const (.int .i64 1)) (getL T 3) (.int .i64 1)).bind fun v18 =>
some (.ret, [v12, v18, (.int .i64 0)], q16.2)))
 ((abin Tryz.prog .add 3 (.tmp 10) (.const (.int .i64 1)) (getL T 3) (.int .i64 1)).bind fun v19 =>
some (.normal, [v12, (getL T 1), (getL T 2), v19], q6.2))))
 (some (.exit 0, [], s))

noncomputable def octet_ReadNum (R : Caller) (x0 : Value) (s : St) : Option (Value × St) :=
(alenV (.slice 5) x0 s).bind fun v0 =>
(loopL (octet_ReadNum.b0 R) [(.int .u64 0), x0, v0, (.int .i64 0)] s).bind fun r20 =>
exV r20.1 [(0, retV [(.int .u64 0), (.int .i64 0), (.int .i64 10)] r20.2.2)]
 (retV [(getL r20.2.1 0), (getL r20.2.1 1), (getL r20.2.1 2)] r20.2.2)

theorem octet_ReadNum_of {lib : Lib} (hl : lib 125 = none) {x0 : Value} {s : St} {r : Value × St} (h : octet_ReadNum (run Tryz.prog lib hints) x0 s = some r) : run Tryz.prog lib hints 125 [x0] s = some r :=
  run_of hl Tryz.func125 (Eq.trans (by kernel_rfl) h)

theorem octet_ReadNum_ok : funcOk Tryz.prog 125 = true := by kernel_rfl
theorem octet_ReadNum_call {R : Caller} {xs : List Value} {s : St} : callV Tryz.prog R (.func (.func 125) #[] #[]) xs s = R 125 xs s := callV_eq octet_ReadNum_ok

/-! ### sumpter/record.many[int]: 126 -/

noncomputable def record_many_int.b0 (R : Caller) (T : List Value) (s : St) : Res :=
(abin Tryz.prog .gtr 3 (.tmp 9) (.const (.int .i64 0)) (getL T 3) (.int .i64 0)).bind fun v1 =>
(guardV v1 true ((anilCheck (getL T 0)).bind fun v2 =>
(afieldAddr 1 v2).bind fun v3 =>
(aload false 1 v3 s).bind fun v4 =>
(abin Tryz.prog .eql 38 (.tmp 15) (.const (.int .i64 0)) v4 (.int .i64 0)).bind fun v5 =>
some ([v5], s)) (some ([undef], s))).bind fun q6 =>
(apick v1 (getL q6.1 0) (.bool false)).bind fun v7 =>
condV v7
 ((callV Tryz.prog R (getL T 1) [] q6.2).bind fun r8 =>
(abuildSl 1 [(.int .i64 0)] 1 [(0, r8.1)] r8.2).bind fun r9 =>
(aappend 1 8 (getL T 2) r9.1 r9.2).bind fun r10 =>
(abin Tryz.prog .sub 3 (.tmp 18) (.const (.int .i64 1)) (getL T 3) (.int .i64 1)).bind fun v11 =>
some (.normal, [(getL T 0), (getL T 1), r10.1, v11], r10.2))
 (some (.exit 0, [(getL T 2)], q6.2))

noncomputable def record_many_int (R : Caller) (x0 x1 : Value) (s : St) : Option (Value × St) :=
(callV Tryz.prog R (.func (.func 70) #[] #[]) [x0] s).bind fun r0 =>
(loopL (record_many_int.b0 R) [x0, x1, (.slice none 0 0), r0.1] r0.2).bind fun r12 =>
exV r12.1 [(0, retV [(getL r12.2.1 0)] r12.2.2)]
 (none)

/-! ### sumpter/record.many[sumpter/api.Result]: 127 -/

noncomputable def record_many_api_Result.b0 (R : Caller) (T : List Value) (s : St) : Res :=
(abin Tryz.prog .gtr 3 (.tmp 9) (.const (.int .i64 0)) (getL T 3) (.int .i64 0)).bind fun v1 =>
(guardV v1 true ((anilCheck (getL T 0)).bind fun v2 =>
(afieldAddr 1 v2).bind fun v3 =>
(aload false 1 v3 s).bind fun v4 =>
(abin Tryz.prog .eql 38 (.tmp 15) (.const (.int .i64 0)) v4 (.int .i64 0)).bind fun v5 =>
some ([v5], s)) (some ([undef], s))).bind fun q6 =>
(apick v1 (getL q6.1 0) (.bool false)).bind fun v7 =>
condV v7
 ((callV Tryz.prog R (getL T 1) [] q6.2).bind fun r8 =>
(abuildSl 3 [(.bool false), (.string ⟨#[]⟩), (.slice none 0 0)] 1 [(0, r8.1)] r8.2).bind fun r9 =>
(aappend 3 48 (getL T 2) r9.1 r9.2).bind fun r10 =>
(abin Tryz.prog .sub 3 (.tmp 18) (.const (.int .i64 1)) (getL T 3) (.int .i64 1)).bind fun v11 =>
some (.normal, [(getL T 0), (getL T 1), r10.1, v11], r10.2))
 (some (.exit 0, [(getL T 2)], q6.2))

noncomputable def record_many_api_Result (R : Caller) (x0 x1 : Value) (s : St) : Option (Value × St) :=
(callV Tryz.prog R (.func (.func 70) #[] #[]) [x0] s).bind fun r0 =>
(loopL (record_many_api_Result.b0 R) [x0, x1, (.slice none 0 0), r0.1] r0.2).bind fun r12 =>
exV r12.1 [(0, retV [(getL r12.2.1 0)] r12.2.2)]
 (none)

/-! ### (*sumpter/record.reader).result: 128 -/

/-! ### sumpter/sumpterref04.SameMap: 129 -/

noncomputable def ref04_SameMap.b0 (R : Caller) (T : List Value) (s : St) : Res :=
(abin Tryz.prog .lss 3 (.tmp 13) (.tmp 12) (getL T 3) (getL T 2)).bind fun v4 =>
condV v4
 ((aindexS 2 (getL T 0) (getL T 3)).bind fun v5 =>
((aload true 2 v5 (frzS s)).bind fun v12 =>
some (v12, (frzS s))).bind fun r6 =>
(aindexS 2 (getL T 1) (getL T 3)).bind fun v7 =>
((aload true 2 v7 (frzS s)).bind fun v11 =>
some (v11, (frzS s))).bind fun r8 =>
(abin Tryz.prog .neq 150 (.tmp 19) (.tmp 23) r6.1 r8.1).bind fun v9 =>
condV v9
 (some (.ret, [(.bool false)], s))
 ((abin Tryz.prog .add 3 (.tmp 13) (.const (.int .i64 1)) (getL T 3) (.int .i64 1)).bind fun v10 =>
some (.normal, [(getL T 0), (getL T 1), (getL T 2), v10], s)))
 (some (.exit 0, [], s))

noncomputable def ref04_SameMap (R : Caller) (x0 x1 : Value) (s : St) : Option (Value × St) :=
(alenV (.slice 150) x0 s).bind fun v0 =>
(alenV (.slice 150) x1 s).bind fun v1 =>
(abin Tryz.prog .neq 3 (.tmp 7) (.tmp 9) v0 v1).bind fun v2 =>
condV v2
 (retV [(.bool false)] s)
 ((alenV (.slice 150) x0 s).bind fun v3 =>
(loopL (ref04_SameMap.b0 R) [x0, x1, v3, (.int .i64 0)] s).bind fun r13 =>
exV r13.1 [(0, retV [(.bool true)] r13.2.2)]
 (retV [(getL r13.2.1 0)] r13.2.2))

/-! ### sumpter/octet.Text: 130 -/

noncomputable def octet_Text (R : Caller) (x0 : Value) (s : St) : Option (Value × St) :=
(alenV .string x0 s).bind fun v0 =>
(convInt .u64 v0).bind fun v1 =>
(callV Tryz.prog R (.func (.func 94) #[] #[]) [v1] s).bind fun r2 =>
(aappend 1 1 r2.1 x0 r2.2).bind fun r3 =>
retV [r3.1] r3.2

theorem octet_Text_of {lib : Lib} (hl : lib 130 = none) {x0 : Value} {s : St} {r : Value × St} (h : octet_Text (run Tryz.prog lib hints) x0 s = some r) : run Tryz.prog lib hints 130 [x0] s = some r :=
  run_of hl Tryz.func130 (Eq.trans (by kernel_rfl) h)

theorem octet_Text_ok : funcOk Tryz.prog 130 = true := by kernel_rfl
theorem octet_Text_call {R : Caller} {xs : List Value} {s : St} : callV Tryz.prog R (.func (.func 130) #[] #[]) xs s = R 130 xs s := callV_eq octet_Text_ok

/-! ### sumpter/record.rows[sumpter/api.Op]: 131 -/

noncomputable def record_rows_api_Op.b0 (R : Caller) (T : List Value) (s : St) : Res :=
(abin Tryz.prog .lss 3 (.tmp 10) (.tmp 9) (getL T 3) (getL T 2)).bind fun v1 =>
condV v1
 ((aindexS 6 (getL T 1) (getL T 3)).bind fun v2 =>
(aload true 6 v2 s).bind fun v3 =>
(lstore 6 lptr v3 (.agg #[(.int .i64 0), (.string ⟨#[]⟩), (.string ⟨#[]⟩), (.string ⟨#[]⟩), (.string ⟨#[]⟩), (.int .i64 0)])).bind fun v4 =>
(lload true 6 lptr v4).bind fun v5 =>
(callV Tryz.prog R (getL T 0) [v5] s).bind fun r6 =>
(abin Tryz.prog .add 3 (.tmp 10) (.const (.int .i64 1)) (getL T 3) (.int .i64 1)).bind fun v7 =>
some (.normal, [(getL T 0), (getL T 1), (getL T 2), v7], r6.2))
 (some (.exit 0, [], s))

noncomputable def record_rows_api_Op (R : Caller) (x0 x1 x2 : Value) (s : St) : Option (Value × St) :=
(alenV (.slice 72) x1 s).bind fun v0 =>
(loopL (record_rows_api_Op.b0 R) [x2, x1, v0, (.int .i64 0)] s).bind fun r8 =>
exV r8.1 [(0, retV [] r8.2.2)]
 (none)

theorem record_rows_api_Op_of {lib : Lib} (hl : lib 131 = none) {x0 x1 x2 : Value} {s : St} {r : Value × St} (h : record_rows_api_Op (run Tryz.prog lib hints) x0 x1 x2 s = some r) : run Tryz.prog lib hints 131 [x0, x1, x2] s = some r :=
  run_of hl Tryz.func131 (Eq.trans (by kernel_rfl) h)

theorem record_rows_api_Op_ok : funcOk Tryz.prog 131 = true := by kernel_rfl
theorem record_rows_api_Op_call {R : Caller} {xs : List Value} {s : St} : callV Tryz.prog R (.func (.func 131) #[] #[]) xs s = R 131 xs s := callV_eq record_rows_api_Op_ok

/-! ### sumpter/record.rows[int]: 132 -/

noncomputable def record_rows_int.b0 (R : Caller) (T : List Value) (s : St) : Res :=
(abin Tryz.prog .lss 3 (.tmp 10) (.tmp 9) (getL T 3) (getL T 2)).bind fun v1 =>
condV v1
 ((aindexS 1 (getL T 1) (getL T 3)).bind fun v2 =>
(aload false 1 v2 s).bind fun v3 =>
(callV Tryz.prog R (getL T 0) [v3] s).bind fun r4 =>
(abin Tryz.prog .add 3 (.tmp 10) (.const (.int .i64 1)) (getL T 3) (.int .i64 1)).bind fun v5 =>
some (.normal, [(getL T 0), (getL T 1), (getL T 2), v5], r4.2))
 (some (.exit 0, [], s))

noncomputable def record_rows_int (R : Caller) (x0 x1 x2 : Value) (s : St) : Option (Value × St) :=
(alenV (.slice 3) x1 s).bind fun v0 =>
(loopL (record_rows_int.b0 R) [x2, x1, v0, (.int .i64 0)] s).bind fun r6 =>
exV r6.1 [(0, retV [] r6.2.2)]
 (none)

theorem record_rows_int_of {lib : Lib} (hl : lib 132 = none) {x0 x1 x2 : Value} {s : St} {r : Value × St} (h : record_rows_int (run Tryz.prog lib hints) x0 x1 x2 s = some r) : run Tryz.prog lib hints 132 [x0, x1, x2] s = some r :=
  run_of hl Tryz.func132 (Eq.trans (by kernel_rfl) h)

theorem record_rows_int_ok : funcOk Tryz.prog 132 = true := by kernel_rfl
theorem record_rows_int_call {R : Caller} {xs : List Value} {s : St} : callV Tryz.prog R (.func (.func 132) #[] #[]) xs s = R 132 xs s := callV_eq record_rows_int_ok

/-! ### sumpter/record.rows[sumpter/api.Result]: 133 -/

noncomputable def record_rows_api_Result.b0 (R : Caller) (T : List Value) (s : St) : Res :=
(abin Tryz.prog .lss 3 (.tmp 10) (.tmp 9) (getL T 3) (getL T 2)).bind fun v1 =>
condV v1
 ((aindexS 3 (getL T 1) (getL T 3)).bind fun v2 =>
(aload true 3 v2 s).bind fun v3 =>
(lstore 3 lptr v3 (.agg #[(.bool false), (.string ⟨#[]⟩), (.slice none 0 0)])).bind fun v4 =>
(lload true 3 lptr v4).bind fun v5 =>
(callV Tryz.prog R (getL T 0) [v5] s).bind fun r6 =>
(abin Tryz.prog .add 3 (.tmp 10) (.const (.int .i64 1)) (getL T 3) (.int .i64 1)).bind fun v7 =>
some (.normal, [(getL T 0), (getL T 1), (getL T 2), v7], r6.2))
 (some (.exit 0, [], s))

noncomputable def record_rows_api_Result (R : Caller) (x0 x1 x2 : Value) (s : St) : Option (Value × St) :=
(alenV (.slice 146) x1 s).bind fun v0 =>
(loopL (record_rows_api_Result.b0 R) [x2, x1, v0, (.int .i64 0)] s).bind fun r8 =>
exV r8.1 [(0, retV [] r8.2.2)]
 (none)

theorem record_rows_api_Result_of {lib : Lib} (hl : lib 133 = none) {x0 x1 x2 : Value} {s : St} {r : Value × St} (h : record_rows_api_Result (run Tryz.prog lib hints) x0 x1 x2 s = some r) : run Tryz.prog lib hints 133 [x0, x1, x2] s = some r :=
  run_of hl Tryz.func133 (Eq.trans (by kernel_rfl) h)

theorem record_rows_api_Result_ok : funcOk Tryz.prog 133 = true := by kernel_rfl
theorem record_rows_api_Result_call {R : Caller} {xs : List Value} {s : St} : callV Tryz.prog R (.func (.func 133) #[] #[]) xs s = R 133 xs s := callV_eq record_rows_api_Result_ok

/-! ### (*sumpter/record.writer).flag: 134 -/

noncomputable def record_writer_flag (R : Caller) (x0 x1 : Value) (s : St) : Option (Value × St) :=
condV x1
 ((anilCheck x0).bind fun v0 =>
(afieldAddr 0 v0).bind fun v1 =>
(aload false 1 v1 s).bind fun v2 =>
(abuildSl 1 [(.int .u8 0)] 1 [(0, (.int .u8 1))] s).bind fun r3 =>
(aappend 1 1 v2 r3.1 r3.2).bind fun r4 =>
(anilCheck x0).bind fun v5 =>
(afieldAddr 0 v5).bind fun v6 =>
(astore 1 v6 r4.1 r4.2).bind fun s7 =>
retV [] s7)
 ((anilCheck x0).bind fun v8 =>
(afieldAddr 0 v8).bind fun v9 =>
(aload false 1 v9 s).bind fun v10 =>
(abuildSl 1 [(.int .u8 0)] 1 [(0, (.int .u8 0))] s).bind fun r11 =>
(aappend 1 1 v10 r11.1 r11.2).bind fun r12 =>
(anilCheck x0).bind fun v13 =>
(afieldAddr 0 v13).bind fun v14 =>
(astore 1 v14 r12.1 r12.2).bind fun s15 =>
retV [] s15)

theorem record_writer_flag_of {lib : Lib} (hl : lib 134 = none) {x0 x1 : Value} {s : St} {r : Value × St} (h : record_writer_flag (run Tryz.prog lib hints) x0 x1 s = some r) : run Tryz.prog lib hints 134 [x0, x1] s = some r :=
  run_of hl Tryz.func134 (Eq.trans (by kernel_rfl) h)

theorem record_writer_flag_ok : funcOk Tryz.prog 134 = true := by kernel_rfl
theorem record_writer_flag_call {R : Caller} {xs : List Value} {s : St} : callV Tryz.prog R (.func (.func 134) #[] #[]) xs s = R 134 xs s := callV_eq record_writer_flag_ok

/-! ### sumpter/record.list[sumpter/api.Pair]: 135 -/

noncomputable def record_list_api_Pair (R : Caller) (x0 x1 x2 : Value) (s : St) : Option (Value × St) :=
(alenV (.slice 150) x1 s).bind fun v0 =>
(callV Tryz.prog R (.func (.func 88) #[] #[]) [x0, v0] s).bind fun r1 =>
(callV Tryz.prog R (.func (.func 144) #[] #[]) [x0, x1, x2] r1.2).bind fun r2 =>
retV [] r2.2

theorem record_list_api_Pair_of {lib : Lib} (hl : lib 135 = none) {x0 x1 x2 : Value} {s : St} {r : Value × St} (h : record_list_api_Pair (run Tryz.prog lib hints) x0 x1 x2 s = some r) : run Tryz.prog lib hints 135 [x0, x1, x2] s = some r :=
  run_of hl Tryz.func135 (Eq.trans (by kernel_rfl) h)

theorem record_list_api_Pair_ok : funcOk Tryz.prog 135 = true := by kernel_rfl
theorem record_list_api_Pair_call {R : Caller} {xs : List Value} {s : St} : callV Tryz.prog R (.func (.func 135) #[] #[]) xs s = R 135 xs s := callV_eq record_list_api_Pair_ok

/-! ### (*sumpter/record.writer).pair: 136 -/

noncomputable def record_writer_pair (R : Caller) (x0 x1 : Value) (s : St) : Option (Value × St) :=
(lbox x1).bind fun v0 =>
(lload false 1 lptr v0).bind fun v1 =>
(callV Tryz.prog R (.func (.func 90) #[] #[]) [x0, v1] s).bind fun r2 =>
(lload false 1 (.pointer (some ⟨0, 1, none⟩)) v0).bind fun v3 =>
(callV Tryz.prog R (.func (.func 90) #[] #[]) [x0, v3] r2.2).bind fun r4 =>
retV [] r4.2

theorem record_writer_pair_of {lib : Lib} (hl : lib 136 = none) {x0 x1 : Value} {s : St} {r : Value × St} (h : record_writer_pair (run Tryz.prog lib hints) x0 x1 s = some r) : run Tryz.prog lib hints 136 [x0, x1] s = some r :=
  run_of hl Tryz.func136 (Eq.trans (by kernel_rfl) h)

theorem record_writer_pair_ok : funcOk Tryz.prog 136 = true := by kernel_rfl
/-! ### sumpter/op.forms: 137 -/

noncomputable def op_forms (R : Caller) (s : St) : Option (Value × St) :=
(abuild Tryz.prog 156 [(0, (.bool true)), (5, (.func (.func 145) #[] #[]))]).bind fun v0 =>
(abuild Tryz.prog 156 [(0, (.bool true)), (1, (.bool true)), (4, (.bool true)), (5, (.func (.func 146) #[] #[]))]).bind fun v1 =>
(abuild Tryz.prog 156 [(0, (.bool true)), (4, (.bool true)), (5, (.func (.func 147) #[] #[]))]).bind fun v2 =>
(abuild Tryz.prog 156 [(2, (.bool true)), (3, (.bool true)), (5, (.func (.func 148) #[] #[]))]).bind fun v3 =>
(abuild Tryz.prog 156 [(2, (.bool true)), (4, (.bool true)), (5, (.func (.func 149) #[] #[]))]).bind fun v4 =>
(abuild Tryz.prog 187 [(1, v0), (2, v1), (3, v2), (4, v3), (5, v4)]).bind fun v5 =>
(lstore 36 lptr v5 (.agg #[(.bool false), (.bool false), (.bool false), (.bool false), (.bool false), .nilFunc, (.bool false), (.bool false), (.bool false), (.bool false), (.bool false), .nilFunc, (.bool false), (.bool false), (.bool false), (.bool false), (.bool false), .nilFunc, (.bool false), (.bool false), (.bool false), (.bool false), (.bool false), .nilFunc, (.bool false), (.bool false), (.bool false), (.bool false), (.bool false), .nilFunc, (.bool false), (.bool false), (.bool false), (.bool false), (.bool false), .nilFunc])).bind fun v6 =>
(lload true 36 lptr v6).bind fun v7 =>
retV [v7] s

theorem op_forms_of {lib : Lib} (hl : lib 137 = none) {s : St} {r : Value × St} (h : op_forms (run Tryz.prog lib hints)  s = some r) : run Tryz.prog lib hints 137 [] s = some r :=
  run_of hl Tryz.func137 (Eq.trans (by kernel_rfl) h)

theorem op_forms_ok : funcOk Tryz.prog 137 = true := by kernel_rfl
theorem op_forms_call {R : Caller} {xs : List Value} {s : St} : callV Tryz.prog R (.func (.func 137) #[] #[]) xs s = R 137 xs s := callV_eq op_forms_ok

/-! ### slices.IndexFunc[[]sumpter/api.Result,sumpter/api.Result]: 138 -/

noncomputable def slices_IndexFunc_api_Result_api_Result.b0 (R : Caller) (T : List Value) (s : St) : Res :=
(abin Tryz.prog .lss 3 (.tmp 8) (.tmp 7) (getL T 3) (getL T 2)).bind fun v1 =>
condV v1
 ((aindexS 3 (getL T 0) (getL T 3)).bind fun v2 =>
(aload true 3 v2 s).bind fun v3 =>
(callV Tryz.prog R (getL T 1) [v3] s).bind fun r4 =>
condV r4.1
 (some (.ret, [(getL T 3)], r4.2))
 ((abin Tryz.prog .add 3 (.tmp 8) (.const (.int .i64 1)) (getL T 3) (.int .i64 1)).bind fun v5 =>
some (.normal, [(getL T 0), (getL T 1), (getL T 2), v5], r4.2)))
 (some (.exit 0, [], s))

noncomputable def slices_IndexFunc_api_Result_api_Result (R : Caller) (x0 x1 : Value) (s : St) : Option (Value × St) :=
(alenV (.slice 146) x0 s).bind fun v0 =>
(loopL (slices_IndexFunc_api_Result_api_Result.b0 R) [x0, x1, v0, (.int .i64 0)] s).bind fun r6 =>
exV r6.1 [(0, retV [(.int .i64 (-1))] r6.2.2)]
 (retV [(getL r6.2.1 0)] r6.2.2)

theorem slices_IndexFunc_api_Result_api_Result_of {lib : Lib} (hl : lib 138 = none) {x0 x1 : Value} {s : St} {r : Value × St} (h : slices_IndexFunc_api_Result_api_Result (run Tryz.prog lib hints) x0 x1 s = some r) : run Tryz.prog lib hints 138 [x0, x1] s = some r :=
  run_of hl Tryz.func138 (Eq.trans (by kernel_rfl) h)

theorem slices_IndexFunc_api_Result_api_Result_ok : funcOk Tryz.prog 138 = true := by kernel_rfl
theorem slices_IndexFunc_api_Result_api_Result_call {R : Caller} {xs : List Value} {s : St} : callV Tryz.prog R (.func (.func 138) #[] #[]) xs s = R 138 xs s := callV_eq slices_IndexFunc_api_Result_api_Result_ok

/-! ### slices.IndexFunc[[]sumpter/api.Pair,sumpter/api.Pair]: 139 -/

noncomputable def slices_IndexFunc_api_Pair_api_Pair.b0 (R : Caller) (T : List Value) (s : St) : Res :=
(abin Tryz.prog .lss 3 (.tmp 8) (.tmp 7) (getL T 3) (getL T 2)).bind fun v1 =>
condV v1
 ((aindexS 2 (getL T 0) (getL T 3)).bind fun v2 =>
(aload true 2 v2 s).bind fun v3 =>
(callV Tryz.prog R (getL T 1) [v3] s).bind fun r4 =>
condV r4.1
 (some (.ret, [(getL T 3)], r4.2))
 ((abin Tryz.prog .add 3 (.tmp 8) (.const (.int .i64 1)) (getL T 3) (.int .i64 1)).bind fun v5 =>
some (.normal, [(getL T 0), (getL T 1), (getL T 2), v5], r4.2)))
 (some (.exit 0, [], s))

noncomputable def slices_IndexFunc_api_Pair_api_Pair (R : Caller) (x0 x1 : Value) (s : St) : Option (Value × St) :=
(alenV (.slice 150) x0 s).bind fun v0 =>
(loopL (slices_IndexFunc_api_Pair_api_Pair.b0 R) [x0, x1, v0, (.int .i64 0)] s).bind fun r6 =>
exV r6.1 [(0, retV [(.int .i64 (-1))] r6.2.2)]
 (retV [(getL r6.2.1 0)] r6.2.2)

theorem slices_IndexFunc_api_Pair_api_Pair_of {lib : Lib} (hl : lib 139 = none) {x0 x1 : Value} {s : St} {r : Value × St} (h : slices_IndexFunc_api_Pair_api_Pair (run Tryz.prog lib hints) x0 x1 s = some r) : run Tryz.prog lib hints 139 [x0, x1] s = some r :=
  run_of hl Tryz.func139 (Eq.trans (by kernel_rfl) h)

theorem slices_IndexFunc_api_Pair_api_Pair_ok : funcOk Tryz.prog 139 = true := by kernel_rfl
theorem slices_IndexFunc_api_Pair_api_Pair_call {R : Caller} {xs : List Value} {s : St} : callV Tryz.prog R (.func (.func 139) #[] #[]) xs s = R 139 xs s := callV_eq slices_IndexFunc_api_Pair_api_Pair_ok

/-! ### sumpter/octet.ReadText: 140 -/

noncomputable def octet_ReadText (R : Caller) (x0 x1 : Value) (s : St) : Option (Value × St) :=
(callV Tryz.prog R (.func (.func 125) #[] #[]) [x0] s).bind fun r0 =>
(aextract 0 r0.1).bind fun v1 =>
(aextract 1 r0.1).bind fun v2 =>
(aextract 2 r0.1).bind fun v3 =>
(abin Tryz.prog .neq 38 (.tmp 17) (.const (.int .i64 0)) v3 (.int .i64 0)).bind fun v4 =>
condV v4
 (retV [(.string ⟨#[]⟩), (.int .i64 0), v3] r0.2)
 ((abin Tryz.prog .lss 3 (.tmp 21) (.const (.int .i64 0)) x1 (.int .i64 0)).bind fun v5 =>
(guardV v5 false ((convInt .u64 x1).bind fun v6 =>
(abin Tryz.prog .gtr 22 (.tmp 24) (.tmp 26) v1 v6).bind fun v7 =>
some ([v7], r0.2)) (some ([undef], r0.2))).bind fun q8 =>
(apick v5 (.bool true) (getL q8.1 0)).bind fun v9 =>
condV v9
 (retV [(.string ⟨#[]⟩), (.int .i64 0), (.int .i64 2)] q8.2)
 ((alenV (.slice 5) x0 q8.2).bind fun v10 =>
(abin Tryz.prog .sub 3 (.tmp 32) (.tmp 33) v10 v2).bind fun v11 =>
(convInt .u64 v11).bind fun v12 =>
(abin Tryz.prog .gtr 22 (.tmp 30) (.tmp 35) v1 v12).bind fun v13 =>
condV v13
 (retV [(.string ⟨#[]⟩), (.int .i64 0), (.int .i64 10)] q8.2)
 ((convInt .i64 v1).bind fun v14 =>
(abin Tryz.prog .add 3 (.tmp 39) (.tmp 41) v2 v14).bind fun v15 =>
(asliceV 1 x0 (some v2) (some v15) none).bind fun v16 =>
(abytesToStr v16 q8.2).bind fun v17 =>
(convInt .i64 v1).bind fun v18 =>
(abin Tryz.prog .add 3 (.tmp 45) (.tmp 47) v2 v18).bind fun v19 =>
retV [v17, v19, (.int .i64 0)] q8.2)))

theorem octet_ReadText_of {lib : Lib} (hl : lib 140 = none) {x0 x1 : Value} {s : St} {r : Value × St} (h : octet_ReadText (run Tryz.prog lib hints) x0 x1 s = some r) : run Tryz.prog lib hints 140 [x0, x1] s = some r :=
  run_of hl Tryz.func140 (Eq.trans (by kernel_rfl) h)

theorem octet_ReadText_ok : funcOk Tryz.prog 140 = true := by kernel_rfl
/-! ### (*sumpter/record.reader).flag: 141 -/

noncomputable def record_reader_flag.j0 (R : Caller) (T : List Value) (s : St) : Option (Value × St) :=
(abin Tryz.prog .eql 5 (.tmp 42) (.const (.int .u8 1)) (getL T 0) (.int .u8 1)).bind fun v32 =>
retV [v32] s

noncomputable def record_reader_flag.j1 (R : Caller) (T : List Value) (s : St) : Option (Value × St) :=
(anilCheck (getL T 0)).bind fun v13 =>
(afieldAddr 1 v13).bind fun v14 =>
(aload false 1 v14 s).bind fun v15 =>
(abin Tryz.prog .neq 38 (.tmp 22) (.const (.int .i64 0)) v15 (.int .i64 0)).bind fun v16 =>
condV v16
 (retV [(.bool false)] s)
 ((anilCheck (getL T 0)).bind fun v17 =>
(afieldAddr 0 v17).bind fun v18 =>
(aload false 1 v18 s).bind fun v19 =>
(aindexS 1 v19 (.int .i64 0)).bind fun v20 =>
(aload false 1 v20 s).bind fun v21 =>
(anilCheck (getL T 0)).bind fun v22 =>
(afieldAddr 0 v22).bind fun v23 =>
(aload false 1 v23 s).bind fun v24 =>
(asliceV 1 v24 (some (.int .i64 1)) none none).bind fun v25 =>
(anilCheck (getL T 0)).bind fun v26 =>
(afieldAddr 0 v26).bind fun v27 =>
(astore 1 v27 v25 s).bind fun s28 =>
(abin Tryz.prog .gtr 5 (.tmp 38) (.const (.int .u8 1)) v21 (.int .u8 1)).bind fun v30 =>
condV v30
 ((callV Tryz.prog R (.func (.func 121) #[] #[]) [(getL T 0), (.int .i64 11)] s28).bind fun r31 =>
joinK (record_reader_flag.j0 R) [v21] r31.2)
 (joinK (record_reader_flag.j0 R) [v21] s28))

noncomputable def record_reader_flag (R : Caller) (x0 : Value) (s : St) : Option (Value × St) :=
(anilCheck x0).bind fun v1 =>
(afieldAddr 1 v1).bind fun v2 =>
(aload false 1 v2 s).bind fun v3 =>
(abin Tryz.prog .eql 38 (.tmp 7) (.const (.int .i64 0)) v3 (.int .i64 0)).bind fun v4 =>
(guardV v4 true ((anilCheck x0).bind fun v5 =>
(afieldAddr 0 v5).bind fun v6 =>
(aload false 1 v6 s).bind fun v7 =>
(alenV (.slice 5) v7 s).bind fun v8 =>
(abin Tryz.prog .eql 3 (.tmp 14) (.const (.int .i64 0)) v8 (.int .i64 0)).bind fun v9 =>
some ([v9], s)) (some ([undef], s))).bind fun q10 =>
(apick v4 (getL q10.1 0) (.bool false)).bind fun v11 =>
condV v11
 ((callV Tryz.prog R (.func (.func 121) #[] #[]) [x0, (.int .i64 10)] q10.2).bind fun r12 =>
joinK (record_reader_flag.j1 R) [x0] r12.2)
 (joinK (record_reader_flag.j1 R) [x0] q10.2)

/-! ### sumpter/record.many[sumpter/api.Pair]: 142 -/

noncomputable def record_many_api_Pair.b0 (R : Caller) (T : List Value) (s : St) : Res :=
(abin Tryz.prog .gtr 3 (.tmp 9) (.const (.int .i64 0)) (getL T 3) (.int .i64 0)).bind fun v1 =>
(guardV v1 true ((anilCheck (getL T 0)).bind fun v2 =>
(afieldAddr 1 v2).bind fun v3 =>
(aload false 1 v3 s).bind fun v4 =>
(abin Tryz.prog .eql 38 (.tmp 15) (.const (.int .i64 0)) v4 (.int .i64 0)).bind fun v5 =>
some ([v5], s)) (some ([undef], s))).bind fun q6 =>
(apick v1 (getL q6.1 0) (.bool false)).bind fun v7 =>
condV v7
 ((callV Tryz.prog R (getL T 1) [] q6.2).bind fun r8 =>
(abuildSl 2 [(.string ⟨#[]⟩), (.string ⟨#[]⟩)] 1 [(0, r8.1)] r8.2).bind fun r9 =>
(aappend 2 32 (getL T 2) r9.1 r9.2).bind fun r10 =>
(abin Tryz.prog .sub 3 (.tmp 18) (.const (.int .i64 1)) (getL T 3) (.int .i64 1)).bind fun v11 =>
some (.normal, [(getL T 0), (getL T 1), r10.1, v11], r10.2))
 (some (.exit 0, [(getL T 2)], q6.2))

noncomputable def record_many_api_Pair (R : Caller) (x0 x1 : Value) (s : St) : Option (Value × St) :=
(callV Tryz.prog R (.func (.func 70) #[] #[]) [x0] s).bind fun r0 =>
(loopL (record_many_api_Pair.b0 R) [x0, x1, (.slice none 0 0), r0.1] r0.2).bind fun r12 =>
exV r12.1 [(0, retV [(getL r12.2.1 0)] r12.2.2)]
 (none)

/-! ### (*sumpter/record.reader).pair: 143 -/

/-! ### sumpter/record.rows[sumpter/api.Pair]: 144 -/

noncomputable def record_rows_api_Pair.b0 (R : Caller) (T : List Value) (s : St) : Res :=
(abin Tryz.prog .lss 3 (.tmp 10) (.tmp 9) (getL T 3) (getL T 2)).bind fun v1 =>
condV v1
 ((aindexS 2 (getL T 1) (getL T 3)).bind fun v2 =>
(aload true 2 v2 s).bind fun v3 =>
(lstore 2 lptr v3 (.agg #[(.string ⟨#[]⟩), (.string ⟨#[]⟩)])).bind fun v4 =>
(lload true 2 lptr v4).bind fun v5 =>
(callV Tryz.prog R (getL T 0) [v5] s).bind fun r6 =>
(abin Tryz.prog .add 3 (.tmp 10) (.const (.int .i64 1)) (getL T 3) (.int .i64 1)).bind fun v7 =>
some (.normal, [(getL T 0), (getL T 1), (getL T 2), v7], r6.2))
 (some (.exit 0, [], s))

noncomputable def record_rows_api_Pair (R : Caller) (x0 x1 x2 : Value) (s : St) : Option (Value × St) :=
(alenV (.slice 150) x1 s).bind fun v0 =>
(loopL (record_rows_api_Pair.b0 R) [x2, x1, v0, (.int .i64 0)] s).bind fun r8 =>
exV r8.1 [(0, retV [] r8.2.2)]
 (none)

theorem record_rows_api_Pair_of {lib : Lib} (hl : lib 144 = none) {x0 x1 x2 : Value} {s : St} {r : Value × St} (h : record_rows_api_Pair (run Tryz.prog lib hints) x0 x1 x2 s = some r) : run Tryz.prog lib hints 144 [x0, x1, x2] s = some r :=
  run_of hl Tryz.func144 (Eq.trans (by kernel_rfl) h)

theorem record_rows_api_Pair_ok : funcOk Tryz.prog 144 = true := by kernel_rfl
theorem record_rows_api_Pair_call {R : Caller} {xs : List Value} {s : St} : callV Tryz.prog R (.func (.func 144) #[] #[]) xs s = R 144 xs s := callV_eq record_rows_api_Pair_ok

/-! ### slices.Insert[[]sumpter/api.Pair,sumpter/api.Pair]: 151 -/

/-! ### strings.Compare: 157 -/

/-! ### internal/bytealg.CompareString: 160 -/

end Go.Proofs.YtckpcelchhmjcaaGreat.Ab
