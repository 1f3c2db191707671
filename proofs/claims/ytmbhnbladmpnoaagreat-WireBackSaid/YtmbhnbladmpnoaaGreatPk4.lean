/- Texts of this proof, packed: Sh, SpAll, StrCmp, OwVal, OwArg, BIns, OpCmp, OpVal. -/
import Derived.Test.YtmbhnbladmpnoaaGreatPk3
import Derived.Lib.Strings
import Derived.Lib.Bytealg
import Derived.ChangeSame
import Derived.WideShapes
import Derived.Lib.Overlaps
import Derived.Lib.AppendZerosOnto
import Derived.Deep.DeepAppendWide
import Derived.Shelf.Spec.SlicesInsert
set_option linter.unusedVariables false
set_option linter.unusedSimpArgs false
set_option linter.unusedSectionVars false
/- The program's functions,as the abstract machine runs them: printed. -/
namespace Go.Proofs.YtmbhnbladmpnoaaGreat.Ab
open Go
set_option maxRecDepth 100000
def Ad : HC:=fun f=>ZeD f [(2,[]),(3,[(1,53)]),(4,[(5,48),(7,49)]),(5,[(6,44),(8,45)]),(6,[(2,74),(8,75),(10,76)]),(7,[(3,96),(13,97),(83,97)]),(8,[(3,76),(5,77),(7,78),(9,79),(46,76),(51,76),(56,76)]),(9,[(5,49),(33,49)]),(10,[(1,15)]),(12,[(1,131),(5,132),(6,131),(20,131),(24,131),(30,131),(34,131),(39,131),(45,131),(50,131),(56,131),(63,131),(67,131),(72,131),(77,131),(83,131),(89,131),(93,131),(100,131),(105,131),(111,131),(116,131)]),(13,[(2,93),(8,94),(45,94)]),(14,[(2,55),(7,56)]),(15,[]),(16,[(1,69),(6,69),(12,69),(18,69),(24,69),(34,69),(44,69),(47,69),(57,69),(63,69)]),(17,[]),(18,[]),(19,[(2,29),(4,30)]),(20,[]),(21,[(5,33),(23,33),(25,33),(27,33),(29,33)]),(22,[]),(23,[]),(24,[]),(25,[(1,64),(3,64),(7,64),(11,64),(17,64),(21,64),(30,64),(34,64),(41,64),(45,64),(50,64),(52,64),(56,64),(60,64)]),(26,[]),(27,[]),(28,[(6,48),(8,49),(19,48),(24,48),(29,48),(36,49),(41,49)]),(29,[(4,18)]),(30,[(4,57),(27,57),(31,57),(39,57),(50,57)]),(31,[]),(32,[(1,25),(3,25),(8,25),(14,25),(18,25),(20,25)]),(33,[(1,16),(3,16),(7,16),(12,16)]),(34,[]),(35,[]),(36,[]),(37,[]),(38,[(2,88)]),(39,[]),(40,[]),(41,[]),(42,[]),(43,[]),(44,[]),(45,[]),(46,[(2,17),(3,18),(14,18)]),(47,[(3,26),(20,26)]),(48,[]),(49,[]),(50,[(1,7),(3,7)]),(51,[]),(52,[(1,16),(3,16),(7,16),(12,16)]),(53,[]),(54,[]),(55,[(1,12),(3,12),(8,12)]),(56,[]),(57,[(1,16),(3,16),(7,16),(12,16)]),(58,[(1,3)]),(59,[(1,7),(3,7)]),(60,[(4,57),(27,57),(31,57),(39,57),(50,57)]),(61,[(1,12),(3,12),(7,12)]),(62,[(1,28),(8,28),(13,28),(18,28),(22,28),(24,28)]),(63,[(1,25),(3,25),(5,25),(9,25),(14,25),(20,25)]),(64,[]),(65,[(1,6)]),(66,[(1,13),(3,14),(6,13),(11,14)]),(67,[(1,8),(3,8),(5,8)]),(68,[(2,7)]),(69,[]),(70,[]),(71,[]),(72,[]),(73,[]),(74,[]),(75,[]),(76,[]),(77,[]),(78,[(2,7)]),(79,[]),(80,[]),(81,[]),(82,[]),(83,[]),(84,[]),(85,[]),(86,[]),(87,[]),(88,[]),(89,[]),(90,[]),(91,[(6,11)]),(92,[]),(93,[(3,26),(6,26),(11,26),(13,26),(15,26),(17,26),(21,26)]),(94,[(2,18)]),(95,[(6,11)]),(96,[]),(97,[(3,37),(6,38),(8,37),(11,37),(15,37),(21,37),(29,38),(31,38)]),(98,[(2,38)]),(99,[(6,11)]),(100,[]),(101,[(3,15),(6,15),(10,15)]),(102,[(2,12)]),(103,[]),(104,[(2,15)]),(105,[]),(106,[]),(107,[]),(108,[(6,46),(20,46),(26,46),(29,46),(32,46),(35,46),(39,46)]),(109,[(6,52),(8,53),(22,52),(25,52),(29,52),(35,52),(43,53),(46,53)]),(110,[(6,30),(20,30),(23,30)]),(111,[]),(112,[]),(113,[]),(114,[]),(115,[(1,107),(5,107),(9,107),(14,107),(18,107),(22,107),(35,107),(39,107),(48,107),(54,107),(58,107),(64,107),(68,107),(75,107),(80,107),(86,107),(88,107),(94,107),(98,107),(102,107)]),(116,[]),(117,[]),(118,[]),(119,[]),(120,[]),(121,[]),(122,[]),(123,[]),(124,[(5,43),(22,43),(25,43),(28,43),(31,43),(34,43),(37,43)]),(125,[(5,59),(7,60),(24,59),(27,59),(44,60),(47,60),(48,59),(53,59)]),(126,[(5,31),(22,31),(25,31)]),(127,[]),(128,[]),(129,[]),(130,[(0,24),(1,25),(21,25)]),(131,[(4,18)]),(132,[(1,13),(3,13),(8,13)]),(133,[]),(134,[]),(135,[(2,20),(4,20),(9,20),(15,20)]),(136,[]),(137,[(1,6)]),(138,[(1,83),(3,84),(6,83),(14,84),(18,83),(22,84),(26,83),(30,84),(39,84),(43,83),(48,84),(51,83),(57,83),(62,84),(71,84),(74,83),(78,83)]),(139,[(0,2)]),(140,[]),(141,[(2,14)]),(142,[]),(143,[]),(144,[]),(145,[]),(146,[]),(147,[]),(148,[]),(149,[]),(150,[]),(151,[(8,35)]),(152,[]),(153,[]),(154,[]),(155,[(8,35)]),(156,[]),(157,[]),(158,[(8,35)]),(159,[]),(160,[]),(161,[]),(162,[]),(163,[]),(164,[]),(165,[]),(166,[(1,8),(2,9),(3,8),(5,8)]),(167,[(0,7)]),(168,[(3,26),(5,27),(10,26)]),(169,[(3,35),(5,36),(10,35),(19,35),(21,35),(29,35)]),(170,[(3,23),(5,24),(10,23)]),(171,[(3,27),(5,28),(20,27)]),(172,[(3,20),(5,21)]),(173,[]),(174,[]),(175,[]),(176,[(3,30),(11,30),(18,30),(23,30)]),(177,[]),(178,[]),(179,[(2,9),(5,9)]),(180,[]),(182,[]),(183,[]),(184,[]),(186,[])]
noncomputable def BK.j0 (R : Aa) (T : List Value) (s : St) : Option (Value × St) :=
(Ag Tryz.prog R (.func (.func 13) #[] #[]) [(getL T 0)] s).bind fun r30 =>
(Al 0 r30.1).bind fun v31 =>
(Al 1 r30.1).bind fun v32 =>
(AO 21 lptr v31 (.agg #[(.int .i64 0),(.int .i64 0),(.int .i64 0),(.int .i64 0),(.int .i64 0),(.int .i64 0),(.int .u64 0),(.int .u64 0),(.int .u64 0),(.int .u64 0),(.int .u64 0),(.int .u64 0),(.int .u64 0),(.int .u64 0),(.int .u64 0),(.bool false),(.string ⟨#[]⟩),(.string ⟨#[]⟩),(.slice none 0 0),(.slice none 0 0),(.slice none 0 0)])).bind fun v33 =>
(abin Tryz.prog .neq 32 (.tmp 54) (.const (.int .i64 0)) v32 (.int .i64 0)).bind fun v34 =>
Ax v34
 (retV [(getL T 1)] r30.2)
 ((Ap true 21 lptr v33).bind fun v35 =>
(Ag Tryz.prog R (.func (.func 9) #[] #[]) [v35] r30.2).bind fun r36 =>
(Al 0 r36.1).bind fun v37 =>
(Al 1 r36.1).bind fun v38 =>
(Ai (getL T 1) true ((abin Tryz.prog .eql 32 (.tmp 64) (.const (.int .i64 0)) v38 (.int .i64 0)).bind fun v39 =>
some ([v39],r36.2)) (some ([undef],r36.2))).bind fun q40 =>
(AJ (getL T 1) (getL q40.1 0) (.bool false)).bind fun v41 =>
(Ai v41 true ((BE v37 q40.2).bind fun v42 =>
(BE (getL T 0) q40.2).bind fun v43 =>
(abin Tryz.prog .eql 9 (.tmp 69) (.tmp 71) v42 v43).bind fun v44 =>
some ([v44],q40.2)) (some ([undef],q40.2))).bind fun q45 =>
(AJ v41 (getL q45.1 0) (.bool false)).bind fun v46 =>
retV [v46] q45.2)
noncomputable def BK (R : Aa) (x0 x1 : Value) (s : St) : Option (Value × St) :=
(lbox x0).bind fun v0 =>
(Ag Tryz.prog R (.func (.func 8) #[] #[]) [] s).bind fun r1 =>
(AG (.slice 5) x1 r1.2).bind fun v2 =>
(abin Tryz.prog .gtr 3 (.tmp 16) (.const (.int .i64 100000)) v2 (.int .i64 100000)).bind fun v3 =>
Ax v3
 (retV [r1.1] r1.2)
 ((Ap true 21 lptr v0).bind fun v4 =>
(Ag Tryz.prog R (.func (.func 9) #[] #[]) [v4] r1.2).bind fun r5 =>
(Al 0 r5.1).bind fun v6 =>
(Al 1 r5.1).bind fun v7 =>
(Ap true 21 lptr v0).bind fun v9 =>
(Ag Tryz.prog R (.func (.func 11) #[] #[]) [v9] r5.2).bind fun r10 =>
(abin Tryz.prog .eql 32 (.tmp 25) (.const (.int .i64 0)) r10.1 (.int .i64 0)).bind fun v11 =>
Ax v11
 ((Ag Tryz.prog R (.func (.func 13) #[] #[]) [v6] r10.2).bind fun r12 =>
(Al 0 r12.1).bind fun v13 =>
(Al 1 r12.1).bind fun v14 =>
(AO 21 lptr v13 (.agg #[(.int .i64 0),(.int .i64 0),(.int .i64 0),(.int .i64 0),(.int .i64 0),(.int .i64 0),(.int .u64 0),(.int .u64 0),(.int .u64 0),(.int .u64 0),(.int .u64 0),(.int .u64 0),(.int .u64 0),(.int .u64 0),(.int .u64 0),(.bool false),(.string ⟨#[]⟩),(.string ⟨#[]⟩),(.slice none 0 0),(.slice none 0 0),(.slice none 0 0)])).bind fun v15 =>
(abin Tryz.prog .neq 32 (.tmp 32) (.const (.int .i64 0)) v7 (.int .i64 0)).bind fun v16 =>
(Ai v16 false ((abin Tryz.prog .neq 32 (.tmp 35) (.const (.int .i64 0)) v14 (.int .i64 0)).bind fun v17 =>
some ([v17],r12.2)) (some ([undef],r12.2))).bind fun q18 =>
(AJ v16 (.bool true) (getL q18.1 0)).bind fun v19 =>
(Ai v19 false ((Ap true 21 lptr v15).bind fun v20 =>
(Ap true 21 lptr v0).bind fun v21 =>
(Ag Tryz.prog R (.func (.func 15) #[] #[]) [v20,v21] q18.2).bind fun r22 =>
(aun .not r22.1).bind fun v23 =>
some ([v23],r22.2)) (some ([undef],q18.2))).bind fun q24 =>
(AJ v19 (.bool true) (getL q24.1 0)).bind fun v25 =>
(Ai v25 false ((AG (.slice 5) v6 q24.2).bind fun v26 =>
(abin Tryz.prog .gtr 3 (.tmp 46) (.const (.int .i64 4103)) v26 (.int .i64 4103)).bind fun v27 =>
some ([v27],q24.2)) (some ([undef],q24.2))).bind fun q28 =>
(AJ v25 (.bool true) (getL q28.1 0)).bind fun v29 =>
Ax v29
 (retV [(.bool false)] q28.2)
 (Dh (BK.j0 R) [x1,r1.1] q28.2))
 (Dh (BK.j0 R) [x1,r1.1] r10.2))
theorem Lt {lib : Lib} (hl : lib 6 = none) {x0 x1 : Value} {s : St} {r : Value × St} (h : BK (run Tryz.prog lib Ad) x0 x1 s = some r) : run Tryz.prog lib Ad 6 [x0,x1] s = some r :=
  At hl Tryz.func6 (Eq.trans (by kernel_rfl) h)
theorem law18_WireBack_ok : Aq Tryz.prog 6 = true:=by kernel_rfl
theorem G7 : Aq Tryz.prog 8 = true:=by kernel_rfl
theorem Ft {R : Aa} {xs : List Value} {s : St} : Ag Tryz.prog R (.func (.func 8) #[] #[]) xs s = R 8 xs s:=Ak G7
noncomputable def C4.b0 (R : Aa) (T : List Value) (s : St) : Res :=
(Ka (getL T 3) s).bind fun r23 =>
(Al 0 r23.1).bind fun v24 =>
Ax v24
 ((Al 2 r23.1).bind fun v25 =>
(Fi Tryz.prog 21 (.agg #[.nilFunc,.nilFunc,.nilFunc]) (getL T 1) v25 false r23.2).bind fun v26 =>
(HM false 0 1 v26).bind fun v27 =>
(Ag Tryz.prog R v27 [(getL T 2),(getL T 0)] r23.2).bind fun r28 =>
some (.normal,[(getL T 0),(getL T 1),r28.1,(getL T 3)],r28.2))
 (some (.exit 0,[(getL T 2)],r23.2))
noncomputable def C4 (R : Aa) (x0 : Value) (s : St) : Option (Value × St) :=
(anew (Ao x0) s).bind fun r0 =>
(Aj true 21 r0.1 r0.2).bind fun v1 =>
(Ag Tryz.prog R (.func (.func 11) #[] #[]) [v1] r0.2).bind fun r2 =>
(abin Tryz.prog .neq 32 (.tmp 13) (.const (.int .i64 0)) r2.1 (.int .i64 0)).bind fun v3 =>
Ax v3
 (retV [(.slice none 0 0),r2.1] r2.2)
 ((Ac 0 r0.1).bind fun v4 =>
(Aj false 1 v4 r2.2).bind fun v5 =>
(Ag Tryz.prog R (.func (.func 19) #[] #[]) [v5] r2.2).bind fun r6 =>
(Al 0 r6.1).bind fun v7 =>
(Al 1 r6.1).bind fun v8 =>
(AO 4 lptr v7 (.agg #[(.string ⟨#[]⟩),.nilFunc,.nilFunc,.nilFunc])).bind fun v9 =>
(Ag Tryz.prog R (.func (.func 20) #[] #[]) [] r6.2).bind fun r10 =>
(Ac 0 r0.1).bind fun v11 =>
(Aj false 1 v11 r10.2).bind fun v12 =>
(AM .u8 v12).bind fun v13 =>
(Ac 1 r0.1).bind fun v14 =>
(Aj false 1 v14 r10.2).bind fun v15 =>
(AM .u8 v15).bind fun v16 =>
(Ac 2 r0.1).bind fun v17 =>
(Aj false 1 v17 r10.2).bind fun v18 =>
(AM .u8 v18).bind fun v19 =>
(As 1 [(.int .u8 0)] 3 [(0,v13),(1,v16),(2,v19)] r10.2).bind fun r20 =>
(Ap false 1 lptr v9).bind fun v21 =>
(Jq v21 r20.2).bind fun r22 =>
(AS (C4.b0 R) [r0.1,r10.1,r20.1,r22.1] r22.2).bind fun r29 =>
exV r29.1 [(0,(Ag Tryz.prog R (.func (.func 17) #[] #[]) [(getL r29.2.1 0)] r29.2.2).bind fun r30 =>
(Al 0 r30.1).bind fun v31 =>
(Al 1 r30.1).bind fun v32 =>
retV [v31,v32] r30.2)]
 (none))
theorem I8 {lib : Lib} (hl : lib 9 = none) {x0 : Value} {s : St} {r : Value × St} (h : C4 (run Tryz.prog lib Ad) x0 s = some r) : run Tryz.prog lib Ad 9 [x0] s = some r :=
  At hl Tryz.func9 (Eq.trans (by kernel_rfl) h)
theorem PT : Aq Tryz.prog 9 = true:=by kernel_rfl
theorem EK {R : Aa} {xs : List Value} {s : St} : Ag Tryz.prog R (.func (.func 9) #[] #[]) xs s = R 9 xs s:=Ak PT
noncomputable def wire_Check.A (R : Aa) (T : List Value) (s : St) : Res :=
(anew (Ao (getL T 0)) s).bind fun r0 =>
some (.normal,[r0.1,(.int .i64 0)],r0.2)
theorem wire_Check.A_eq (R : Aa) (T : List Value) (s : St) : Cj Tryz.prog R [] AS 62 (sel [0] (GD Tryz.f11)) ⟨6,[],6⟩ (ofL [0] 0 T noT) s (fun e T s=>some (e,toL [1,2] T,s)) = wire_Check.A R T s:=by kernel_rfl
theorem wire_Check.A_w : EW 62 (sel [0] (GD Tryz.f11)) = true:=by kernel_rfl
noncomputable def wire_Check.B (R : Aa) (T : List Value) (s : St) : Res :=
(Ac 0 (getL T 0)).bind fun v0 =>
(Aj false 1 v0 s).bind fun v1 =>
(Ag Tryz.prog R (.func (.func 19) #[] #[]) [v1] s).bind fun r2 =>
(Al 0 r2.1).bind fun v3 =>
(Al 1 r2.1).bind fun v4 =>
(anew [(.string ⟨#[]⟩),.nilFunc,.nilFunc,.nilFunc] r2.2).bind fun r5 =>
(A4 4 r5.1 v3 r5.2).bind fun s6 =>
some (.normal,[(getL T 0),(getL T 1),r5.1,v4],s6)
theorem wire_Check.B_eq (R : Aa) (T : List Value) (s : St) : Cj Tryz.prog R [] AS 62 (sel [1,0] (GD Tryz.f11)) ⟨30,[],30⟩ (ofL [1,2] 0 T noT) s (fun e T s=>some (e,toL [1,2,3,4] T,s)) = wire_Check.B R T s:=by kernel_rfl
theorem wire_Check.B_w : EW 62 (sel [1,0] (GD Tryz.f11)) = true:=by kernel_rfl
noncomputable def wire_Check.C (R : Aa) (T : List Value) (s : St) : Res :=
(aun .not (getL T 3)).bind fun v0 =>
(Ai v0 false ((Ac 1 (getL T 2)).bind fun v1 =>
(Aj false 1 v1 s).bind fun v2 =>
(Ac 1 (getL T 0)).bind fun v3 =>
(Aj false 1 v3 s).bind fun v4 =>
(Ag Tryz.prog R v2 [v4] s).bind fun r5 =>
(aun .not r5.1).bind fun v6 =>
some ([v6],r5.2)) (some ([undef],s))).bind fun q7 =>
(AJ v0 (.bool true) (getL q7.1 0)).bind fun v8 =>
(Ai v8 false ((Ac 2 (getL T 2)).bind fun v9 =>
(Aj false 1 v9 q7.2).bind fun v10 =>
(Ac 2 (getL T 0)).bind fun v11 =>
(Aj false 1 v11 q7.2).bind fun v12 =>
(Ag Tryz.prog R v10 [v12] q7.2).bind fun r13 =>
(aun .not r13.1).bind fun v14 =>
some ([v14],r13.2)) (some ([undef],q7.2))).bind fun q15 =>
(AJ v8 (.bool true) (getL q15.1 0)).bind fun v16 =>
(Ai v16 false ((Ac 3 (getL T 0)).bind fun v17 =>
(Aj false 1 v17 q15.2).bind fun v18 =>
(abin Tryz.prog .neq 3 (.tmp 33) (.const (.int .i64 0)) v18 (.int .i64 0)).bind fun v19 =>
some ([v19],q15.2)) (some ([undef],q15.2))).bind fun q20 =>
(AJ v16 (.bool true) (getL q20.1 0)).bind fun v21 =>
(Ai v21 false ((Ac 3 (getL T 2)).bind fun v22 =>
(Aj false 1 v22 q20.2).bind fun v23 =>
(Aj true 21 (getL T 0) q20.2).bind fun v24 =>
(Ag Tryz.prog R v23 [v24] q20.2).bind fun r25 =>
(aun .not r25.1).bind fun v26 =>
some ([v26],r25.2)) (some ([undef],q20.2))).bind fun q27 =>
(AJ v21 (.bool true) (getL q27.1 0)).bind fun v28 =>
Ax v28
 (some (.ret,[(getL T 0),(.int .i64 180),(getL T 2)],q27.2))
 (some (.normal,[(getL T 0),(getL T 1),(getL T 2)],q27.2))
theorem wire_Check.C_eq (R : Aa) (T : List Value) (s : St) : Cj Tryz.prog R [] AS 62 (sel [1,1,0] (GD Tryz.f11)) ⟨14,[],14⟩ (ofL [1,2,3,4] 0 T noT) s (fun e T s=>some (e,toL [1,2,3] T,s)) = wire_Check.C R T s:=by kernel_rfl
theorem wire_Check.C_w : EW 62 (sel [1,1,0] (GD Tryz.f11)) = true:=by kernel_rfl
noncomputable def wire_Check.D (R : Aa) (T : List Value) (s : St) : Res :=
(Ag Tryz.prog R (.func (.func 20) #[] #[]) [] s).bind fun r0 =>
(Lb r0.1 r0.2).bind fun r1 =>
some (.normal,[(getL T 0),(getL T 1),(getL T 2),r1.1],r1.2)
theorem wire_Check.D_eq (R : Aa) (T : List Value) (s : St) : Cj Tryz.prog R [] AS 62 (sel [1,1,1,0,0] (GD Tryz.f11)) ⟨17592186044430,[],17592186044430⟩ (ofL [1,2,3] 0 T noT) s (fun e T s=>some (e,toL [1,2,3,44] T,s)) = wire_Check.D R T s:=by kernel_rfl
theorem wire_Check.D_w : EW 62 (sel [1,1,1,0,0] (GD Tryz.f11)) = true:=by kernel_rfl
noncomputable def wire_Check.bd (R : Aa) (T : List Value) (s : St) : Res :=
(Ac 0 (getL T 2)).bind fun v0 =>
(Aj false 1 v0 s).bind fun v1 =>
(J9 v1 s).bind fun r2 =>
(Ag Tryz.prog R (.func (.func 23) #[] #[]) [r2.1,(getL T 3)] r2.2).bind fun r3 =>
(aun .not r3.1).bind fun v4 =>
(Ai v4 true ((Ac 2 (getL T 4)).bind fun v5 =>
(Aj false 1 v5 r3.2).bind fun v6 =>
(Ag Tryz.prog R v6 [(getL T 0)] r3.2).bind fun r7 =>
(aun .not r7.1).bind fun v8 =>
some ([v8],r7.2)) (some ([undef],r3.2))).bind fun q9 =>
(AJ v4 (getL q9.1 0) (.bool false)).bind fun v10 =>
Ax v10
 (some (.ret,[(getL T 0),(.int .i64 180),(getL T 2),(getL T 5)],q9.2))
 (some (.normal,[(getL T 0),(getL T 1),(getL T 2),(getL T 5)],q9.2))
theorem wire_Check.bd_eq (R : Aa) (T : List Value) (s : St) : Cj Tryz.prog R [] AS 62 (sel [1,1,1,0,1,2,2,1,1,2,1] (GD Tryz.f11)) ⟨17592186044430,[],17592186044430⟩ (ofL [1,2,3,5,6,44] 0 T noT) s (fun e T s=>some (e,toL [1,2,3,44] T,s)) = wire_Check.bd R T s:=by kernel_rfl
theorem wire_Check.bd_w : EW 62 (sel [1,1,1,0,1,2,2,1,1,2,1] (GD Tryz.f11)) = true:=by kernel_rfl
noncomputable def wire_Check.E (R : Aa) (T : List Value) (s : St) : Res :=
some (.ret,[(.int .i64 0)],s)
theorem wire_Check.E_eq (R : Aa) (T : List Value) (s : St) : Cj Tryz.prog R [] AS 62 (sel [1,1,1,1] (GD Tryz.f11)) ⟨4,[],4⟩ (ofL [] 0 T noT) s (fun e T s=>some (e,toL [2] T,s)) = wire_Check.E R T s:=by kernel_rfl
theorem wire_Check.E_w : EW 62 (sel [1,1,1,1] (GD Tryz.f11)) = true:=by kernel_rfl
theorem G8 : Aq Tryz.prog 11 = true:=by kernel_rfl
theorem Cu {R : Aa} {xs : List Value} {s : St} : Ag Tryz.prog R (.func (.func 11) #[] #[]) xs s = R 11 xs s:=Ak G8
noncomputable def AB.b0 (R : Aa) (T : List Value) (s : St) : Res :=
(Ka (getL T 4) s).bind fun r29 =>
(Al 0 r29.1).bind fun v30 =>
Ax v30
 ((Al 2 r29.1).bind fun v31 =>
(Fi Tryz.prog 21 (.agg #[.nilFunc,.nilFunc,.nilFunc]) (getL T 3) v31 false r29.2).bind fun v32 =>
(HM false 1 1 v32).bind fun v33 =>
(Ag Tryz.prog R v33 [(getL T 1),(getL T 2)] r29.2).bind fun r34 =>
some (.normal,[(getL T 0),(getL T 1),(getL T 2),(getL T 3),(getL T 4),(getL T 5)],r34.2))
 (some (.exit 0,[(getL T 0),(getL T 1),(getL T 2),(getL T 5)],r29.2))
noncomputable def AB.j0 (R : Aa) (T : List Value) (s : St) : Option (Value × St) :=
(Ah (getL T 1)).bind fun v59 =>
(Ac 1 v59).bind fun v60 =>
(Aj false 1 v60 s).bind fun v61 =>
(abin Tryz.prog .neq 32 (.tmp 85) (.const (.int .i64 0)) v61 (.int .i64 0)).bind fun v62 =>
Ax v62
 ((Ah (getL T 1)).bind fun v63 =>
(Ac 1 v63).bind fun v64 =>
(((Aj false 1 v64 s).bind fun v68 =>
some (v68,s)).bind (ownR s)).bind fun r65 =>
(AO 21 (getL T 0) (.agg #[(.int .i64 0),(.int .i64 0),(.int .i64 0),(.int .i64 0),(.int .i64 0),(.int .i64 0),(.int .u64 0),(.int .u64 0),(.int .u64 0),(.int .u64 0),(.int .u64 0),(.int .u64 0),(.int .u64 0),(.int .u64 0),(.int .u64 0),(.bool false),(.string ⟨#[]⟩),(.string ⟨#[]⟩),(.slice none 0 0),(.slice none 0 0),(.slice none 0 0)]) (getL T 3)).bind fun v66 =>
(Ap true 21 (getL T 0) v66).bind fun v67 =>
retV [v67,r65.1] r65.2)
 ((Aj true 21 (getL T 2) s).bind fun v69 =>
(AO 21 (getL T 0) v69 (getL T 3)).bind fun v70 =>
(Ap true 21 (getL T 0) v70).bind fun v71 =>
retV [v71,(.int .i64 0)] s)
noncomputable def AB.j1 (R : Aa) (T : List Value) (s : St) : Option (Value × St) :=
(Ah (getL T 1)).bind fun v50 =>
(Ac 1 v50).bind fun v51 =>
(Aj false 1 v51 s).bind fun v52 =>
(abin Tryz.prog .eql 32 (.tmp 75) (.const (.int .i64 0)) v52 (.int .i64 0)).bind fun v53 =>
Ax v53
 ((Aj true 21 (getL T 2) s).bind fun v54 =>
(Ag Tryz.prog R (.func (.func 11) #[] #[]) [v54] s).bind fun r55 =>
(Ah (getL T 1)).bind fun v56 =>
(Ac 1 v56).bind fun v57 =>
(A4 1 v57 r55.1 r55.2).bind fun s58 =>
Dh (AB.j0 R) [(getL T 0),(getL T 1),(getL T 2),(getL T 3)] s58)
 (Dh (AB.j0 R) [(getL T 0),(getL T 1),(getL T 2),(getL T 3)] s)
noncomputable def AB.j2 (R : Aa) (T : List Value) (s : St) : Option (Value × St) :=
(Ag Tryz.prog R (.func (.func 35) #[] #[]) [(getL T 1)] s).bind fun r19 =>
(Ag Tryz.prog R (.func (.func 35) #[] #[]) [(getL T 1)] r19.2).bind fun r20 =>
(Ac 1 (getL T 2)).bind fun v21 =>
(A4 1 v21 r19.1 r20.2).bind fun s22 =>
(Ac 2 (getL T 2)).bind fun v23 =>
(A4 1 v23 r20.1 s22).bind fun s24 =>
(Ag Tryz.prog R (.func (.func 20) #[] #[]) [] s24).bind fun r25 =>
(Ac 0 (getL T 3)).bind fun v26 =>
(Ap false 1 v26 (getL T 5)).bind fun v27 =>
(Jq v27 r25.2).bind fun r28 =>
(AS (AB.b0 R) [(getL T 0),(getL T 1),(getL T 2),r25.1,r28.1,(getL T 4)] r28.2).bind fun r35 =>
exV r35.1 [(0,(Ah (getL r35.2.1 1)).bind fun v37 =>
(Ac 1 v37).bind fun v38 =>
(Aj false 1 v38 r35.2.2).bind fun v39 =>
(abin Tryz.prog .eql 32 (.tmp 60) (.const (.int .i64 0)) v39 (.int .i64 0)).bind fun v40 =>
(Ai v40 true ((Ah (getL r35.2.1 1)).bind fun v41 =>
(Ac 0 v41).bind fun v42 =>
(Aj false 1 v42 r35.2.2).bind fun v43 =>
(AG (.slice 5) v43 r35.2.2).bind fun v44 =>
(abin Tryz.prog .gtr 3 (.tmp 67) (.const (.int .i64 0)) v44 (.int .i64 0)).bind fun v45 =>
some ([v45],r35.2.2)) (some ([undef],r35.2.2))).bind fun q46 =>
(AJ v40 (getL q46.1 0) (.bool false)).bind fun v47 =>
Ax v47
 ((Ag Tryz.prog R (.func (.func 36) #[] #[]) [(getL r35.2.1 1),(.int .i64 11)] q46.2).bind fun r48 =>
Dh (AB.j1 R) [(getL r35.2.1 0),(getL r35.2.1 1),(getL r35.2.1 2),(getL r35.2.1 3)] r48.2)
 (Dh (AB.j1 R) [(getL r35.2.1 0),(getL r35.2.1 1),(getL r35.2.1 2),(getL r35.2.1 3)] q46.2))]
 (none)
noncomputable def AB (R : Aa) (x0 : Value) (s : St) : Option (Value × St) :=
(Ag Tryz.prog R (.func (.func 34) #[] #[]) [x0] s).bind fun r0 =>
(Al 0 r0.1).bind fun v1 =>
(Al 1 r0.1).bind fun v2 =>
(abin Tryz.prog .neq 32 (.tmp 18) (.const (.int .i64 0)) v2 (.int .i64 0)).bind fun v3 =>
Ax v3
 (retV [(.agg #[(.int .i64 0),(.int .i64 0),(.int .i64 0),(.int .i64 0),(.int .i64 0),(.int .i64 0),(.int .u64 0),(.int .u64 0),(.int .u64 0),(.int .u64 0),(.int .u64 0),(.int .u64 0),(.int .u64 0),(.int .u64 0),(.int .u64 0),(.bool false),(.string ⟨#[]⟩),(.string ⟨#[]⟩),(.slice none 0 0),(.slice none 0 0),(.slice none 0 0)]),v2] r0.2)
 ((AV Tryz.prog 73 [(0,v1)]).bind fun v4 =>
(anew (Ao v4) r0.2).bind fun r5 =>
(Ag Tryz.prog R (.func (.func 35) #[] #[]) [r5.1] r5.2).bind fun r6 =>
(AV Tryz.prog 29 [(0,r6.1)]).bind fun v7 =>
(anew [(.int .i64 0),(.int .i64 0),(.int .i64 0),(.int .i64 0),(.int .i64 0),(.int .i64 0),(.int .u64 0),(.int .u64 0),(.int .u64 0),(.int .u64 0),(.int .u64 0),(.int .u64 0),(.int .u64 0),(.int .u64 0),(.int .u64 0),(.bool false),(.string ⟨#[]⟩),(.string ⟨#[]⟩),(.slice none 0 0),(.slice none 0 0),(.slice none 0 0)] r6.2).bind fun r8 =>
(A4 21 r8.1 v7 r8.2).bind fun s9 =>
(Ac 0 r8.1).bind fun v10 =>
(Aj false 1 v10 s9).bind fun v11 =>
(Ag Tryz.prog R (.func (.func 19) #[] #[]) [v11] s9).bind fun r12 =>
(Al 0 r12.1).bind fun v13 =>
(Al 1 r12.1).bind fun v14 =>
(AO 4 lptr v13 (.agg #[(.string ⟨#[]⟩),.nilFunc,.nilFunc,.nilFunc])).bind fun v15 =>
(aun .not v14).bind fun v17 =>
Ax v17
 ((Ag Tryz.prog R (.func (.func 36) #[] #[]) [r5.1,(.int .i64 11)] r12.2).bind fun r18 =>
Dh (AB.j2 R) [lptr,r5.1,r8.1,lptr,(.agg #[(.int .i64 0),(.int .i64 0),(.int .i64 0),(.int .i64 0),(.int .i64 0),(.int .i64 0),(.int .u64 0),(.int .u64 0),(.int .u64 0),(.int .u64 0),(.int .u64 0),(.int .u64 0),(.int .u64 0),(.int .u64 0),(.int .u64 0),(.bool false),(.string ⟨#[]⟩),(.string ⟨#[]⟩),(.slice none 0 0),(.slice none 0 0),(.slice none 0 0)]),v15] r18.2)
 (Dh (AB.j2 R) [lptr,r5.1,r8.1,lptr,(.agg #[(.int .i64 0),(.int .i64 0),(.int .i64 0),(.int .i64 0),(.int .i64 0),(.int .i64 0),(.int .u64 0),(.int .u64 0),(.int .u64 0),(.int .u64 0),(.int .u64 0),(.int .u64 0),(.int .u64 0),(.int .u64 0),(.int .u64 0),(.bool false),(.string ⟨#[]⟩),(.string ⟨#[]⟩),(.slice none 0 0),(.slice none 0 0),(.slice none 0 0)]),v15] r12.2))
theorem I9 {lib : Lib} (hl : lib 13 = none) {x0 : Value} {s : St} {r : Value × St} (h : AB (run Tryz.prog lib Ad) x0 s = some r) : run Tryz.prog lib Ad 13 [x0] s = some r :=
  At hl Tryz.func13 (Eq.trans (by kernel_rfl) h)
theorem PU : Aq Tryz.prog 13 = true:=by kernel_rfl
theorem EL {R : Aa} {xs : List Value} {s : St} : Ag Tryz.prog R (.func (.func 13) #[] #[]) xs s = R 13 xs s:=Ak PU
noncomputable def Eg.b0 (R : Aa) (T : List Value) (s : St) : Res :=
(abin Tryz.prog .lss 3 (.tmp 10) (.tmp 9) (getL T 4) (getL T 3)).bind fun v5 =>
Ax v5
 ((Az 1 (getL T 2) (getL T 4)).bind fun v6 =>
(Aj false 1 v6 s).bind fun v7 =>
(((Ag Tryz.prog R (.func (.func 40) #[] #[]) [(getL T 0),v7] s).bind fun r19 =>
some (r19.1,r19.2)).bind (ownR s)).bind fun r8 =>
(Ah r8.1).bind fun v9 =>
((Aj false 1 v9 (frzS r8.2)).bind fun v18 =>
some (v18,(frzS r8.2))).bind fun r10 =>
(((Ag Tryz.prog R (.func (.func 40) #[] #[]) [(getL T 1),v7] (frzS r8.2)).bind fun r17 =>
some (r17.1,r17.2)).map (Dp r8.2)).bind fun r11 =>
(Ah r11.1).bind fun v12 =>
((Aj false 1 v12 (frzS r11.2)).bind fun v16 =>
some (v16,(frzS r11.2))).bind fun r13 =>
(abin Tryz.prog .neq 22 (.tmp 17) (.tmp 21) r10.1 r13.1).bind fun v14 =>
Ax v14
 (some (.ret,[(.bool false)],r11.2))
 ((abin Tryz.prog .add 3 (.tmp 10) (.const (.int .i64 1)) (getL T 4) (.int .i64 1)).bind fun v15 =>
some (.normal,[(getL T 0),(getL T 1),(getL T 2),(getL T 3),v15],r11.2)))
 (some (.exit 0,[(getL T 0),(getL T 1)],s))
noncomputable def Eg (R : Aa) (x0 x1 : Value) (s : St) : Option (Value × St) :=
(anew (Ao x0) s).bind fun r0 =>
(anew (Ao x1) r0.2).bind fun r1 =>
(As 1 [(.int .u8 0)] 9 [(0,(.int .u8 113)),(1,(.int .u8 98)),(2,(.int .u8 116)),(3,(.int .u8 108)),(4,(.int .u8 118)),(5,(.int .u8 101)),(6,(.int .u8 109)),(7,(.int .u8 97)),(8,(.int .u8 110))] r1.2).bind fun r2 =>
(SQ r2.1 r2.2).bind fun v3 =>
(AG (.slice 5) v3 r2.2).bind fun v4 =>
(AS (Eg.b0 R) [r0.1,r1.1,v3,v4,(.int .i64 0)] r2.2).bind fun r20 =>
exV r20.1 [(0,(Ac 0 (getL r20.2.1 0)).bind fun v21 =>
(Aj false 1 v21 r20.2.2).bind fun v22 =>
(Ac 0 (getL r20.2.1 1)).bind fun v23 =>
(Aj false 1 v23 r20.2.2).bind fun v24 =>
(abin Tryz.prog .eql 3 (.tmp 25) (.tmp 27) v22 v24).bind fun v25 =>
(Ai v25 true ((Ac 1 (getL r20.2.1 0)).bind fun v26 =>
(Aj false 1 v26 r20.2.2).bind fun v27 =>
(Ac 1 (getL r20.2.1 1)).bind fun v28 =>
(Aj false 1 v28 r20.2.2).bind fun v29 =>
(abin Tryz.prog .eql 3 (.tmp 31) (.tmp 33) v27 v29).bind fun v30 =>
some ([v30],r20.2.2)) (some ([undef],r20.2.2))).bind fun q31 =>
(AJ v25 (getL q31.1 0) (.bool false)).bind fun v32 =>
(Ai v32 true ((Ac 2 (getL r20.2.1 0)).bind fun v33 =>
(Aj false 1 v33 q31.2).bind fun v34 =>
(Ac 2 (getL r20.2.1 1)).bind fun v35 =>
(Aj false 1 v35 q31.2).bind fun v36 =>
(abin Tryz.prog .eql 3 (.tmp 38) (.tmp 40) v34 v36).bind fun v37 =>
some ([v37],q31.2)) (some ([undef],q31.2))).bind fun q38 =>
(AJ v32 (getL q38.1 0) (.bool false)).bind fun v39 =>
(Ai v39 true ((Ac 3 (getL r20.2.1 0)).bind fun v40 =>
(Aj false 1 v40 q38.2).bind fun v41 =>
(Ac 3 (getL r20.2.1 1)).bind fun v42 =>
(Aj false 1 v42 q38.2).bind fun v43 =>
(abin Tryz.prog .eql 3 (.tmp 45) (.tmp 47) v41 v43).bind fun v44 =>
some ([v44],q38.2)) (some ([undef],q38.2))).bind fun q45 =>
(AJ v39 (getL q45.1 0) (.bool false)).bind fun v46 =>
(Ai v46 true ((Ac 4 (getL r20.2.1 0)).bind fun v47 =>
(Aj false 1 v47 q45.2).bind fun v48 =>
(Ac 4 (getL r20.2.1 1)).bind fun v49 =>
(Aj false 1 v49 q45.2).bind fun v50 =>
(abin Tryz.prog .eql 3 (.tmp 52) (.tmp 54) v48 v50).bind fun v51 =>
some ([v51],q45.2)) (some ([undef],q45.2))).bind fun q52 =>
(AJ v46 (getL q52.1 0) (.bool false)).bind fun v53 =>
(Ai v53 true ((Ac 5 (getL r20.2.1 0)).bind fun v54 =>
(Aj false 1 v54 q52.2).bind fun v55 =>
(Ac 5 (getL r20.2.1 1)).bind fun v56 =>
(Aj false 1 v56 q52.2).bind fun v57 =>
(abin Tryz.prog .eql 3 (.tmp 59) (.tmp 61) v55 v57).bind fun v58 =>
some ([v58],q52.2)) (some ([undef],q52.2))).bind fun q59 =>
(AJ v53 (getL q59.1 0) (.bool false)).bind fun v60 =>
(Ai v60 true ((Ac 15 (getL r20.2.1 0)).bind fun v61 =>
(Aj false 1 v61 q59.2).bind fun v62 =>
(Ac 15 (getL r20.2.1 1)).bind fun v63 =>
(Aj false 1 v63 q59.2).bind fun v64 =>
(abin Tryz.prog .eql 4 (.tmp 66) (.tmp 68) v62 v64).bind fun v65 =>
some ([v65],q59.2)) (some ([undef],q59.2))).bind fun q66 =>
(AJ v60 (getL q66.1 0) (.bool false)).bind fun v67 =>
(Ai v67 true ((Ac 16 (getL r20.2.1 0)).bind fun v68 =>
(Aj true 2 v68 q66.2).bind fun v69 =>
(Ac 16 (getL r20.2.1 1)).bind fun v70 =>
(Aj true 2 v70 q66.2).bind fun v71 =>
(abin Tryz.prog .eql 24 (.tmp 73) (.tmp 75) v69 v71).bind fun v72 =>
some ([v72],q66.2)) (some ([undef],q66.2))).bind fun q73 =>
(AJ v67 (getL q73.1 0) (.bool false)).bind fun v74 =>
(Ai v74 true ((Ac 18 (getL r20.2.1 0)).bind fun v75 =>
(Aj false 1 v75 q73.2).bind fun v76 =>
(Ac 18 (getL r20.2.1 1)).bind fun v77 =>
(Aj false 1 v77 q73.2).bind fun v78 =>
(Ag Tryz.prog R (.func (.func 41) #[] #[]) [v76,v78] q73.2).bind fun r79 =>
some ([r79.1],r79.2)) (some ([undef],q73.2))).bind fun q80 =>
(AJ v74 (getL q80.1 0) (.bool false)).bind fun v81 =>
(Ai v81 true ((Ac 19 (getL r20.2.1 0)).bind fun v82 =>
(Aj false 1 v82 q80.2).bind fun v83 =>
(Ac 19 (getL r20.2.1 1)).bind fun v84 =>
(Aj false 1 v84 q80.2).bind fun v85 =>
(Ag Tryz.prog R (.func (.func 42) #[] #[]) [v83,v85] q80.2).bind fun r86 =>
some ([r86.1],r86.2)) (some ([undef],q80.2))).bind fun q87 =>
(AJ v81 (getL q87.1 0) (.bool false)).bind fun v88 =>
(Ai v88 true ((Ac 20 (getL r20.2.1 0)).bind fun v89 =>
(Aj false 1 v89 q87.2).bind fun v90 =>
(Ac 20 (getL r20.2.1 1)).bind fun v91 =>
(Aj false 1 v91 q87.2).bind fun v92 =>
(Ag Tryz.prog R (.func (.func 43) #[] #[]) [v90,v92] q87.2).bind fun r93 =>
some ([r93.1],r93.2)) (some ([undef],q87.2))).bind fun q94 =>
(AJ v88 (getL q94.1 0) (.bool false)).bind fun v95 =>
retV [v95] q94.2)]
 (retV [(getL r20.2.1 0)] r20.2.2)
theorem RH {lib : Lib} (hl : lib 15 = none) {x0 x1 : Value} {s : St} {r : Value × St} (h : Eg (run Tryz.prog lib Ad) x0 x1 s = some r) : run Tryz.prog lib Ad 15 [x0,x1] s = some r :=
  At hl Tryz.func15 (Eq.trans (by kernel_rfl) h)
theorem RI : Aq Tryz.prog 15 = true:=by kernel_rfl
theorem Oo {R : Aa} {xs : List Value} {s : St} : Ag Tryz.prog R (.func (.func 15) #[] #[]) xs s = R 15 xs s:=Ak RI
noncomputable def IE (R : Aa) (x0 : Value) (s : St) : Option (Value × St) :=
(AG (.slice 5) x0 s).bind fun v0 =>
(abin Tryz.prog .gtr 3 (.tmp 7) (.const (.int .i64 4096)) v0 (.int .i64 4096)).bind fun v1 =>
Ax v1
 (retV [(.slice none 0 0),(.int .i64 2)] s)
 ((As 1 [(.int .u8 0)] 1 [(0,(.int .u8 83))] s).bind fun r2 =>
(AG (.slice 5) x0 r2.2).bind fun v3 =>
(AM .u64 v3).bind fun v4 =>
(Ag Tryz.prog R (.func (.func 45) #[] #[]) [v4] r2.2).bind fun r5 =>
(As 1 [(.slice none 0 0)] 3 [(0,r2.1),(1,r5.1),(2,x0)] r5.2).bind fun r6 =>
(Ag Tryz.prog R (.func (.func 44) #[] #[]) [r6.1] r6.2).bind fun r7 =>
(Ag Tryz.prog R (.func (.func 47) #[] #[]) [r7.1] r7.2).bind fun r8 =>
(Ag Tryz.prog R (.func (.func 46) #[] #[]) [r8.1] r8.2).bind fun r9 =>
(anew [(.int .u8 0),(.int .u8 0),(.int .u8 0),(.int .u8 0)] r9.2).bind fun r10 =>
(A4 4 r10.1 r9.1 r10.2).bind fun s11 =>
(Ff 4 1 r10.1 none none none s11).bind fun v12 =>
(As 1 [(.slice none 0 0)] 2 [(0,r7.1),(1,v12)] s11).bind fun r13 =>
(Ag Tryz.prog R (.func (.func 44) #[] #[]) [r13.1] r13.2).bind fun r14 =>
retV [r14.1,(.int .i64 0)] r14.2)
theorem Kr {lib : Lib} (hl : lib 17 = none) {x0 : Value} {s : St} {r : Value × St} (h : IE (run Tryz.prog lib Ad) x0 s = some r) : run Tryz.prog lib Ad 17 [x0] s = some r :=
  At hl Tryz.func17 (Eq.trans (by kernel_rfl) h)
theorem Ks : Aq Tryz.prog 17 = true:=by kernel_rfl
theorem Oq {R : Aa} {xs : List Value} {s : St} : Ag Tryz.prog R (.func (.func 17) #[] #[]) xs s = R 17 xs s:=Ak Ks
noncomputable def JJ (R : Aa) (x0 : Value) (s : St) : Option (Value × St) :=
(GW none s).bind fun r0 =>
(AV Tryz.prog 49 [(0,(.string ⟨#[113,98,111]⟩)),(1,(.func (.func 48) #[] #[])),(2,(.func (.func 49) #[] #[])),(3,(.func (.func 50) #[] #[]))]).bind fun v1 =>
(An Tryz.prog 3 r0.1 (.int .i64 1) v1 r0.2).bind fun s2 =>
(AV Tryz.prog 49 [(0,(.string ⟨#[113,98,99,115]⟩)),(1,(.func (.func 49) #[] #[])),(2,(.func (.func 48) #[] #[])),(3,(.func (.func 52) #[] #[]))]).bind fun v3 =>
(An Tryz.prog 3 r0.1 (.int .i64 2) v3 s2).bind fun s4 =>
(AV Tryz.prog 49 [(0,(.string ⟨#[116,108,101,111]⟩)),(1,(.func (.func 49) #[] #[])),(2,(.func (.func 54) #[] #[])),(3,(.func (.func 55) #[] #[]))]).bind fun v5 =>
(An Tryz.prog 3 r0.1 (.int .i64 3) v5 s4).bind fun s6 =>
(AV Tryz.prog 49 [(0,(.string ⟨#[116,99,115]⟩)),(1,(.func (.func 54) #[] #[])),(2,(.func (.func 49) #[] #[])),(3,(.func (.func 57) #[] #[]))]).bind fun v7 =>
(An Tryz.prog 3 r0.1 (.int .i64 4) v7 s6).bind fun s8 =>
(AV Tryz.prog 49 [(0,(.string ⟨#[116,102]⟩)),(1,(.func (.func 49) #[] #[])),(2,(.func (.func 54) #[] #[])),(3,(.func (.func 58) #[] #[]))]).bind fun v9 =>
(An Tryz.prog 3 r0.1 (.int .i64 5) v9 s8).bind fun s10 =>
(AV Tryz.prog 49 [(0,(.string ⟨#[116]⟩)),(1,(.func (.func 54) #[] #[])),(2,(.func (.func 49) #[] #[])),(3,(.func (.func 58) #[] #[]))]).bind fun v11 =>
(An Tryz.prog 3 r0.1 (.int .i64 6) v11 s10).bind fun s12 =>
(AV Tryz.prog 49 [(0,(.string ⟨#[116]⟩)),(1,(.func (.func 54) #[] #[])),(2,(.func (.func 49) #[] #[])),(3,(.func (.func 58) #[] #[]))]).bind fun v13 =>
(An Tryz.prog 3 r0.1 (.int .i64 7) v13 s12).bind fun s14 =>
(AV Tryz.prog 49 [(0,(.string ⟨#[118,101,109,119]⟩)),(1,(.func (.func 49) #[] #[])),(2,(.func (.func 54) #[] #[])),(3,(.func (.func 59) #[] #[]))]).bind fun v15 =>
(An Tryz.prog 3 r0.1 (.int .i64 8) v15 s14).bind fun s16 =>
(AV Tryz.prog 49 [(0,(.string ⟨#[118]⟩)),(1,(.func (.func 54) #[] #[])),(2,(.func (.func 49) #[] #[])),(3,(.func (.func 58) #[] #[]))]).bind fun v17 =>
(An Tryz.prog 3 r0.1 (.int .i64 9) v17 s16).bind fun s18 =>
(AV Tryz.prog 49 [(0,(.string ⟨#[118,109,112,102,114]⟩)),(1,(.func (.func 49) #[] #[])),(2,(.func (.func 54) #[] #[])),(3,(.func (.func 61) #[] #[]))]).bind fun v19 =>
(An Tryz.prog 3 r0.1 (.int .i64 10) v19 s18).bind fun s20 =>
(AV Tryz.prog 49 [(0,(.string ⟨#[109,97,110,114,111]⟩)),(1,(.func (.func 54) #[] #[])),(2,(.func (.func 54) #[] #[])),(3,(.func (.func 63) #[] #[]))]).bind fun v21 =>
(An Tryz.prog 3 r0.1 (.int .i64 11) v21 s20).bind fun s22 =>
(AV Tryz.prog 49 [(0,(.string ⟨#[109,97,110]⟩)),(1,(.func (.func 54) #[] #[])),(2,(.func (.func 54) #[] #[])),(3,(.func (.func 67) #[] #[]))]).bind fun v23 =>
(An Tryz.prog 3 r0.1 (.int .i64 12) v23 s22).bind fun s24 =>
(AV Tryz.prog 49 [(0,(.string ⟨#[109]⟩)),(1,(.func (.func 54) #[] #[])),(2,(.func (.func 49) #[] #[])),(3,(.func (.func 58) #[] #[]))]).bind fun v25 =>
(An Tryz.prog 3 r0.1 (.int .i64 13) v25 s24).bind fun s26 =>
(AV Tryz.prog 49 [(0,(.string ⟨#[109]⟩)),(1,(.func (.func 54) #[] #[])),(2,(.func (.func 49) #[] #[])),(3,(.func (.func 58) #[] #[]))]).bind fun v27 =>
(An Tryz.prog 3 r0.1 (.int .i64 14) v27 s26).bind fun s28 =>
(Fi Tryz.prog 3 (.agg #[(.string ⟨#[]⟩),.nilFunc,.nilFunc,.nilFunc]) r0.1 x0 true s28).bind fun v29 =>
(Al 0 v29).bind fun v30 =>
(Al 1 v29).bind fun v31 =>
(AO 4 lptr v30 (.agg #[(.string ⟨#[]⟩),.nilFunc,.nilFunc,.nilFunc])).bind fun v32 =>
(Ap true 4 lptr v32).bind fun v33 =>
(AO 4 lptr v33 (.agg #[(.string ⟨#[]⟩),.nilFunc,.nilFunc,.nilFunc])).bind fun v34 =>
(Ap true 4 lptr v34).bind fun v35 =>
retV [v35,v31] s28
theorem PV {lib : Lib} (hl : lib 19 = none) {x0 : Value} {s : St} {r : Value × St} (h : JJ (run Tryz.prog lib Ad) x0 s = some r) : run Tryz.prog lib Ad 19 [x0] s = some r :=
  At hl Tryz.func19 (Eq.trans (by kernel_rfl) h)
theorem Ja : Aq Tryz.prog 19 = true:=by kernel_rfl
theorem DA {R : Aa} {xs : List Value} {s : St} : Ag Tryz.prog R (.func (.func 19) #[] #[]) xs s = R 19 xs s:=Ak Ja
noncomputable def wire_all (R : Aa) (s : St) : Option (Value × St) :=
(GW none s).bind fun r0 =>
(Ag Tryz.prog R (.func (.func 68) #[] #[]) [(.func (.func 69) #[] #[])] r0.2).bind fun r1 =>
(An Tryz.prog 21 r0.1 (.int .i32 113) r1.1 r1.2).bind fun s2 =>
(Ag Tryz.prog R (.func (.func 68) #[] #[]) [(.func (.func 70) #[] #[])] s2).bind fun r3 =>
(An Tryz.prog 21 r0.1 (.int .i32 98) r3.1 r3.2).bind fun s4 =>
(Ag Tryz.prog R (.func (.func 68) #[] #[]) [(.func (.func 71) #[] #[])] s4).bind fun r5 =>
(An Tryz.prog 21 r0.1 (.int .i32 116) r5.1 r5.2).bind fun s6 =>
(Ag Tryz.prog R (.func (.func 68) #[] #[]) [(.func (.func 72) #[] #[])] s6).bind fun r7 =>
(An Tryz.prog 21 r0.1 (.int .i32 108) r7.1 r7.2).bind fun s8 =>
(Ag Tryz.prog R (.func (.func 68) #[] #[]) [(.func (.func 73) #[] #[])] s8).bind fun r9 =>
(An Tryz.prog 21 r0.1 (.int .i32 118) r9.1 r9.2).bind fun s10 =>
(Ag Tryz.prog R (.func (.func 68) #[] #[]) [(.func (.func 74) #[] #[])] s10).bind fun r11 =>
(An Tryz.prog 21 r0.1 (.int .i32 101) r11.1 r11.2).bind fun s12 =>
(Ag Tryz.prog R (.func (.func 68) #[] #[]) [(.func (.func 75) #[] #[])] s12).bind fun r13 =>
(An Tryz.prog 21 r0.1 (.int .i32 109) r13.1 r13.2).bind fun s14 =>
(Ag Tryz.prog R (.func (.func 68) #[] #[]) [(.func (.func 76) #[] #[])] s14).bind fun r15 =>
(An Tryz.prog 21 r0.1 (.int .i32 97) r15.1 r15.2).bind fun s16 =>
(Ag Tryz.prog R (.func (.func 68) #[] #[]) [(.func (.func 77) #[] #[])] s16).bind fun r17 =>
(An Tryz.prog 21 r0.1 (.int .i32 110) r17.1 r17.2).bind fun s18 =>
(Ag Tryz.prog R (.func (.func 78) #[] #[]) [(.func (.func 79) #[] #[])] s18).bind fun r19 =>
(An Tryz.prog 21 r0.1 (.int .i32 99) r19.1 r19.2).bind fun s20 =>
(Ag Tryz.prog R (.func (.func 78) #[] #[]) [(.func (.func 80) #[] #[])] s20).bind fun r21 =>
(An Tryz.prog 21 r0.1 (.int .i32 112) r21.1 r21.2).bind fun s22 =>
(AV Tryz.prog 58 [(0,(.func (.func 81) #[] #[])),(1,(.func (.func 83) #[] #[])),(2,(.func (.func 85) #[] #[]))]).bind fun v23 =>
(An Tryz.prog 21 r0.1 (.int .i32 102) v23 s22).bind fun s24 =>
(AV Tryz.prog 58 [(0,(.func (.func 86) #[] #[])),(1,(.func (.func 88) #[] #[])),(2,(.func (.func 90) #[] #[]))]).bind fun v25 =>
(An Tryz.prog 21 r0.1 (.int .i32 114) v25 s24).bind fun s26 =>
(Ag Tryz.prog R (.func (.func 91) #[] #[]) [(.func (.func 92) #[] #[]),(.func (.func 93) #[] #[]),(.func (.func 94) #[] #[])] s26).bind fun r27 =>
(An Tryz.prog 21 r0.1 (.int .i32 111) r27.1 r27.2).bind fun s28 =>
(Ag Tryz.prog R (.func (.func 95) #[] #[]) [(.func (.func 96) #[] #[]),(.func (.func 97) #[] #[]),(.func (.func 98) #[] #[])] s28).bind fun r29 =>
(An Tryz.prog 21 r0.1 (.int .i32 115) r29.1 r29.2).bind fun s30 =>
(Ag Tryz.prog R (.func (.func 99) #[] #[]) [(.func (.func 100) #[] #[]),(.func (.func 101) #[] #[]),(.func (.func 102) #[] #[])] s30).bind fun r31 =>
(An Tryz.prog 21 r0.1 (.int .i32 119) r31.1 r31.2).bind fun s32 =>
retV [r0.1] s32
theorem UW {lib : Lib} (hl : lib 20 = none) {s : St} {r : Value × St} (h : wire_all (run Tryz.prog lib Ad)  s = some r) : run Tryz.prog lib Ad 20 [] s = some r :=
  At hl Tryz.func20 (Eq.trans (by kernel_rfl) h)
theorem UX : Aq Tryz.prog 20 = true:=by kernel_rfl
theorem G9 {R : Aa} {xs : List Value} {s : St} : Ag Tryz.prog R (.func (.func 20) #[] #[]) xs s = R 20 xs s:=Ak UX
noncomputable def IF (R : Aa) (x0 : Value) (s : St) : Option (Value × St) :=
(AG (.slice 5) x0 s).bind fun v0 =>
(abin Tryz.prog .gtr 3 (.tmp 7) (.const (.int .i64 4096)) v0 (.int .i64 4096)).bind fun v1 =>
Ax v1
 (retV [(.slice none 0 0),(.int .i64 2)] s)
 ((As 1 [(.int .u8 0)] 1 [(0,(.int .u8 83))] s).bind fun r2 =>
(AG (.slice 5) x0 r2.2).bind fun v3 =>
(AM .u64 v3).bind fun v4 =>
(Ag Tryz.prog R (.func (.func 103) #[] #[]) [v4] r2.2).bind fun r5 =>
(AD 1 1 r2.1 r5.1 r5.2).bind fun r6 =>
(AD 1 1 r6.1 x0 r6.2).bind fun r7 =>
(Ag Tryz.prog R (.func (.func 105) #[] #[]) [r7.1] r7.2).bind fun r8 =>
(Ag Tryz.prog R (.func (.func 104) #[] #[]) [r8.1] r8.2).bind fun r9 =>
(AO 4 lptr r9.1 (.agg #[(.int .u8 0),(.int .u8 0),(.int .u8 0),(.int .u8 0)])).bind fun v10 =>
(Ap false 1 lptr v10).bind fun v11 =>
(Ap false 1 (.pointer (some ⟨0,1,none⟩)) v10).bind fun v12 =>
(Ap false 1 (.pointer (some ⟨0,2,none⟩)) v10).bind fun v13 =>
(Ap false 1 (.pointer (some ⟨0,3,none⟩)) v10).bind fun v14 =>
(As 1 [(.int .u8 0)] 4 [(0,v11),(1,v12),(2,v13),(3,v14)] r9.2).bind fun r15 =>
(AD 1 1 r7.1 r15.1 r15.2).bind fun r16 =>
retV [r16.1,(.int .i64 0)] r16.2)
theorem Kt {lib : Lib} (hl : lib 21 = none) {x0 : Value} {s : St} {r : Value × St} (h : IF (run Tryz.prog lib Ad) x0 s = some r) : run Tryz.prog lib Ad 21 [x0] s = some r :=
  At hl Tryz.func21 (Eq.trans (by kernel_rfl) h)
theorem RJ : Aq Tryz.prog 21 = true:=by kernel_rfl
noncomputable def slices_Contains_rune_rune (R : Aa) (x0 x1 : Value) (s : St) : Option (Value × St) :=
(Ag Tryz.prog R (.func (.func 111) #[] #[]) [x0,x1] s).bind fun r0 =>
(abin Tryz.prog .geq 3 (.tmp 7) (.const (.int .i64 0)) r0.1 (.int .i64 0)).bind fun v1 =>
retV [v1] r0.2
theorem EX {lib : Lib} (hl : lib 23 = none) {x0 x1 : Value} {s : St} {r : Value × St} (h : slices_Contains_rune_rune (run Tryz.prog lib Ad) x0 x1 s = some r) : run Tryz.prog lib Ad 23 [x0,x1] s = some r :=
  At hl Tryz.func23 (Eq.trans (by kernel_rfl) h)
theorem EY : Aq Tryz.prog 23 = true:=by kernel_rfl
theorem Ew {R : Aa} {xs : List Value} {s : St} : Ag Tryz.prog R (.func (.func 23) #[] #[]) xs s = R 23 xs s:=Ak EY
noncomputable def JK (R : Aa) (x0 : Value) (s : St) : Option (Value × St) :=
(AG (.slice 69) x0 s).bind fun v0 =>
(abin Tryz.prog .lss 3 (.tmp 4) (.const (.int .i64 1)) v0 (.int .i64 1)).bind fun v1 =>
(Ai v1 false ((AG (.slice 69) x0 s).bind fun v2 =>
(abin Tryz.prog .gtr 3 (.tmp 8) (.const (.int .i64 4)) v2 (.int .i64 4)).bind fun v3 =>
some ([v3],s)) (some ([undef],s))).bind fun q4 =>
(AJ v1 (.bool true) (getL q4.1 0)).bind fun v5 =>
Ax v5
 (retV [(.int .i64 3)] q4.2)
 ((Ag Tryz.prog R (.func (.func 29) #[] #[]) [x0] q4.2).bind fun r6 =>
retV [r6.1] r6.2)
theorem PW {lib : Lib} (hl : lib 27 = none) {x0 : Value} {s : St} {r : Value × St} (h : JK (run Tryz.prog lib Ad) x0 s = some r) : run Tryz.prog lib Ad 27 [x0] s = some r :=
  At hl Tryz.func27 (Eq.trans (by kernel_rfl) h)
theorem PX : Aq Tryz.prog 27 = true:=by kernel_rfl
noncomputable def Ey.b0 (R : Aa) (T : List Value) (s : St) : Res :=
(abin Tryz.prog .lss 3 (.tmp 8) (.tmp 7) (getL T 2) (getL T 1)).bind fun v1 =>
Ax v1
 ((Az 6 (getL T 0) (getL T 2)).bind fun v2 =>
(Aj true 6 v2 s).bind fun v3 =>
(AO 6 lptr v3 (.agg #[(.int .i64 0),(.string ⟨#[]⟩),(.string ⟨#[]⟩),(.string ⟨#[]⟩),(.string ⟨#[]⟩),(.int .i64 0)])).bind fun v4 =>
(Ap true 6 lptr v4).bind fun v5 =>
(Ag Tryz.prog R (.func (.func 115) #[] #[]) [v5] s).bind fun r6 =>
(abin Tryz.prog .neq 32 (.tmp 14) (.const (.int .i64 0)) r6.1 (.int .i64 0)).bind fun v7 =>
Ax v7
 (some (.ret,[r6.1],r6.2))
 ((abin Tryz.prog .add 3 (.tmp 8) (.const (.int .i64 1)) (getL T 2) (.int .i64 1)).bind fun v8 =>
some (.normal,[(getL T 0),(getL T 1),v8],r6.2)))
 (some (.exit 0,[],s))
noncomputable def Ey (R : Aa) (x0 : Value) (s : St) : Option (Value × St) :=
(AG (.slice 69) x0 s).bind fun v0 =>
(AS (Ey.b0 R) [x0,v0,(.int .i64 0)] s).bind fun r9 =>
exV r9.1 [(0,retV [(.int .i64 0)] r9.2.2)]
 (retV [(getL r9.2.1 0)] r9.2.2)
theorem Tq {lib : Lib} (hl : lib 29 = none) {x0 : Value} {s : St} {r : Value × St} (h : Ey (run Tryz.prog lib Ad) x0 s = some r) : run Tryz.prog lib Ad 29 [x0] s = some r :=
  At hl Tryz.func29 (Eq.trans (by kernel_rfl) h)
theorem Mh : Aq Tryz.prog 29 = true:=by kernel_rfl
theorem PY {R : Aa} {xs : List Value} {s : St} : Ag Tryz.prog R (.func (.func 29) #[] #[]) xs s = R 29 xs s:=Ak Mh
noncomputable def CE.b0 (R : Aa) (T : List Value) (s : St) : Res :=
(abin Tryz.prog .lss 3 (.tmp 22) (.tmp 21) (getL T 3) (getL T 2)).bind fun v13 =>
Ax v13
 ((Az 2 (getL T 1) (getL T 3)).bind fun v14 =>
(Aj true 2 v14 s).bind fun v15 =>
(AO 2 lptr v15 (.agg #[(.string ⟨#[]⟩),(.int .i64 0)])).bind fun v16 =>
(Ap false 1 (.pointer (some ⟨0,1,none⟩)) v16).bind fun v17 =>
(abin Tryz.prog .lss 3 (.tmp 28) (.const (.int .i64 1)) v17 (.int .i64 1)).bind fun v18 =>
(Ai v18 false (some ([(.pointer (some ⟨0,1,none⟩))],s)) (some ([undef],s))).bind fun q19 =>
(Ai v18 false ((Ap false 1 (getL q19.1 0) v16).bind fun v20 =>
some ([v20],q19.2)) (some ([undef],q19.2))).bind fun q21 =>
(Ai v18 false ((abin Tryz.prog .gtr 3 (.tmp 32) (.const (.int .i64 4)) (getL q21.1 0) (.int .i64 4)).bind fun v22 =>
some ([v22],q21.2)) (some ([undef],q21.2))).bind fun q23 =>
(AJ v18 (.bool true) (getL q23.1 0)).bind fun v24 =>
(Ai v24 false (some ([(getL T 3)],q23.2)) (some ([undef],q23.2))).bind fun q25 =>
(Ai v24 false ((abin Tryz.prog .gtr 3 (.tmp 36) (.const (.int .i64 0)) (getL q25.1 0) (.int .i64 0)).bind fun v26 =>
some ([v26],q25.2)) (some ([undef],q25.2))).bind fun q27 =>
(Ai v24 false (some ([(getL q27.1 0)],q27.2)) (some ([undef],q27.2))).bind fun q28 =>
(Ai (getL q28.1 0) true (some ([lptr],q28.2)) (some ([undef],q28.2))).bind fun q29 =>
(Ai (getL q28.1 0) true ((Ap false 1 (getL q29.1 0) v16).bind fun v30 =>
some ([v30],q29.2)) (some ([undef],q29.2))).bind fun q31 =>
((Ai (getL q28.1 0) true ((Ag Tryz.prog R (.func (.func 114) #[] #[]) [(getL q31.1 0)] q31.2).bind fun r57 =>
some (r57.1,r57.2)) (some (undef,q31.2))).bind (ownR q31.2)).bind fun r32 =>
(Ai (getL q28.1 0) true ((abin Tryz.prog .neq 32 (.tmp 41) (.const (.int .i64 0)) r32.1 (.int .i64 0)).bind fun v33 =>
some ([v33],r32.2)) (some ([undef],r32.2))).bind fun q34 =>
(Ai (getL q28.1 0) true (some ([(getL q34.1 0)],q34.2)) (some ([undef],q34.2))).bind fun q35 =>
(Ai (getL q35.1 0) false (some ([(getL T 0)],q35.2)) (some ([undef],q35.2))).bind fun q36 =>
(Ai (getL q35.1 0) false (some ([(getL T 3)],q36.2)) (some ([undef],q36.2))).bind fun q37 =>
(Ai (getL q35.1 0) false ((abin Tryz.prog .sub 3 (.tmp 45) (.const (.int .i64 1)) (getL q37.1 0) (.int .i64 1)).bind fun v38 =>
some ([v38],q37.2)) (some ([undef],q37.2))).bind fun q39 =>
(Ai (getL q35.1 0) false ((Az 2 (getL q36.1 0) (getL q39.1 0)).bind fun v40 =>
some ([v40],q39.2)) (some ([undef],q39.2))).bind fun q41 =>
(Ai (getL q35.1 0) false ((Ac 0 (getL q41.1 0)).bind fun v42 =>
some ([v42],q41.2)) (some ([undef],q41.2))).bind fun q43 =>
((Ai (getL q35.1 0) false ((Aj false 1 (getL q43.1 0) q43.2).bind fun v56 =>
some (v56,q43.2)) (some (undef,q43.2))).bind (ownR q43.2)).bind fun r44 =>
(Ai (getL q35.1 0) false (some ([lptr],r44.2)) (some ([undef],r44.2))).bind fun q45 =>
(Ai (getL q35.1 0) false ((Ap false 1 (getL q45.1 0) v16).bind fun v46 =>
some ([v46],q45.2)) (some ([undef],q45.2))).bind fun q47 =>
(Ai (getL q35.1 0) false ((abin Tryz.prog .geq 9 (.tmp 49) (.tmp 51) r44.1 (getL q47.1 0)).bind fun v48 =>
some ([v48],q47.2)) (some ([undef],q47.2))).bind fun q49 =>
(Ai (getL q28.1 0) true ((AJ (getL q35.1 0) (.bool true) (getL q49.1 0)).bind fun v50 =>
some ([v50],q49.2)) (some ([undef],q49.2))).bind fun q51 =>
(Ai v24 false ((AJ (getL q28.1 0) (getL q51.1 0) (.bool false)).bind fun v52 =>
some ([v52],q51.2)) (some ([undef],q51.2))).bind fun q53 =>
(AJ v24 (.bool true) (getL q53.1 0)).bind fun v54 =>
Ax v54
 (some (.ret,[(.int .i64 170)],q53.2))
 ((abin Tryz.prog .add 3 (.tmp 22) (.const (.int .i64 1)) (getL T 3) (.int .i64 1)).bind fun v55 =>
some (.normal,[(getL T 0),(getL T 1),(getL T 2),v55],q53.2)))
 (some (.exit 0,[],s))
noncomputable def CE (R : Aa) (x0 : Value) (s : St) : Option (Value × St) :=
(AG (.slice 91) x0 s).bind fun v0 =>
(abin Tryz.prog .lss 3 (.tmp 6) (.const (.int .i64 1)) v0 (.int .i64 1)).bind fun v1 =>
(Ai v1 false ((AG (.slice 91) x0 s).bind fun v2 =>
(abin Tryz.prog .gtr 3 (.tmp 10) (.const (.int .i64 6)) v2 (.int .i64 6)).bind fun v3 =>
some ([v3],s)) (some ([undef],s))).bind fun q4 =>
(AJ v1 (.bool true) (getL q4.1 0)).bind fun v5 =>
(Ai v5 false ((Az 2 x0 (.int .i64 0)).bind fun v6 =>
(Ac 0 v6).bind fun v7 =>
(Aj false 1 v7 q4.2).bind fun v8 =>
(abin Tryz.prog .neq 9 (.tmp 17) (.const (.string ⟨#[]⟩)) v8 (.string ⟨#[]⟩)).bind fun v9 =>
some ([v9],q4.2)) (some ([undef],q4.2))).bind fun q10 =>
(AJ v5 (.bool true) (getL q10.1 0)).bind fun v11 =>
Ax v11
 (retV [(.int .i64 170)] q10.2)
 ((AG (.slice 91) x0 q10.2).bind fun v12 =>
(AS (CE.b0 R) [x0,x0,v12,(.int .i64 0)] q10.2).bind fun r58 =>
exV r58.1 [(0,retV [(.int .i64 0)] r58.2.2)]
 (retV [(getL r58.2.1 0)] r58.2.2))
theorem PZ {lib : Lib} (hl : lib 30 = none) {x0 : Value} {s : St} {r : Value × St} (h : CE (run Tryz.prog lib Ad) x0 s = some r) : run Tryz.prog lib Ad 30 [x0] s = some r :=
  At hl Tryz.func30 (Eq.trans (by kernel_rfl) h)
theorem P0 : Aq Tryz.prog 30 = true:=by kernel_rfl
noncomputable def JL (R : Aa) (x0 : Value) (s : St) : Option (Value × St) :=
(lbox x0).bind fun v0 =>
(Ap false 1 lptr v0).bind fun v1 =>
(AG .string v1 s).bind fun v2 =>
(abin Tryz.prog .gtr 3 (.tmp 5) (.const (.int .i64 12)) v2 (.int .i64 12)).bind fun v3 =>
(Ai v3 false ((Ap false 1 (.pointer (some ⟨0,1,none⟩)) v0).bind fun v4 =>
(AG .string v4 s).bind fun v5 =>
(abin Tryz.prog .gtr 3 (.tmp 10) (.const (.int .i64 12)) v5 (.int .i64 12)).bind fun v6 =>
some ([v6],s)) (some ([undef],s))).bind fun q7 =>
(AJ v3 (.bool true) (getL q7.1 0)).bind fun v8 =>
(Ai v8 false ((Ap false 1 (.pointer (some ⟨0,1,none⟩)) v0).bind fun v9 =>
(abin Tryz.prog .neq 9 (.tmp 15) (.const (.string ⟨#[]⟩)) v9 (.string ⟨#[]⟩)).bind fun v10 =>
some ([v10],q7.2)) (some ([undef],q7.2))).bind fun q11 =>
(Ai (getL q11.1 0) true ((Ap false 1 lptr v0).bind fun v12 =>
(Ap false 1 (.pointer (some ⟨0,1,none⟩)) v0).bind fun v13 =>
(abin Tryz.prog .geq 9 (.tmp 19) (.tmp 21) v12 v13).bind fun v14 =>
some ([v14],q11.2)) (some ([undef],q11.2))).bind fun q15 =>
(Ai v8 false ((AJ (getL q11.1 0) (getL q15.1 0) (.bool false)).bind fun v16 =>
some ([v16],q15.2)) (some ([undef],q15.2))).bind fun q17 =>
(AJ v8 (.bool true) (getL q17.1 0)).bind fun v18 =>
Ax v18
 (retV [(.int .i64 21)] q17.2)
 (retV [(.int .i64 0)] q17.2)
theorem P1 {lib : Lib} (hl : lib 32 = none) {x0 : Value} {s : St} {r : Value × St} (h : JL (run Tryz.prog lib Ad) x0 s = some r) : run Tryz.prog lib Ad 32 [x0] s = some r :=
  At hl Tryz.func32 (Eq.trans (by kernel_rfl) h)
theorem Jb : Aq Tryz.prog 32 = true:=by kernel_rfl
theorem MF {R : Aa} {xs : List Value} {s : St} : Ag Tryz.prog R (.func (.func 32) #[] #[]) xs s = R 32 xs s:=Ak Jb
noncomputable def H6 (R : Aa) (x0 : Value) (s : St) : Option (Value × St) :=
(lbox x0).bind fun v0 =>
(Ap false 1 lptr v0).bind fun v1 =>
(abin Tryz.prog .eql 3 (.tmp 4) (.const (.int .i64 2)) v1 (.int .i64 2)).bind fun v2 =>
(Ai v2 false ((Ap false 1 lptr v0).bind fun v3 =>
(abin Tryz.prog .eql 3 (.tmp 8) (.const (.int .i64 3)) v3 (.int .i64 3)).bind fun v4 =>
some ([v4],s)) (some ([undef],s))).bind fun q5 =>
(AJ v2 (.bool true) (getL q5.1 0)).bind fun v6 =>
(Ai v6 false ((Ap false 1 lptr v0).bind fun v7 =>
(abin Tryz.prog .eql 3 (.tmp 13) (.const (.int .i64 5)) v7 (.int .i64 5)).bind fun v8 =>
some ([v8],q5.2)) (some ([undef],q5.2))).bind fun q9 =>
(AJ v6 (.bool true) (getL q9.1 0)).bind fun v10 =>
retV [v10] q9.2
theorem Or {lib : Lib} (hl : lib 33 = none) {x0 : Value} {s : St} {r : Value × St} (h : H6 (run Tryz.prog lib Ad) x0 s = some r) : run Tryz.prog lib Ad 33 [x0] s = some r :=
  At hl Tryz.func33 (Eq.trans (by kernel_rfl) h)
theorem Ot : Aq Tryz.prog 33 = true:=by kernel_rfl
noncomputable def IG (R : Aa) (x0 : Value) (s : St) : Option (Value × St) :=
(AG (.slice 5) x0 s).bind fun v0 =>
(abin Tryz.prog .gtr 3 (.tmp 13) (.const (.int .i64 4103)) v0 (.int .i64 4103)).bind fun v1 =>
Ax v1
 (retV [(.slice none 0 0),(.int .i64 2)] s)
 ((AG (.slice 5) x0 s).bind fun v2 =>
(abin Tryz.prog .lss 3 (.tmp 16) (.const (.int .i64 6)) v2 (.int .i64 6)).bind fun v3 =>
Ax v3
 (retV [(.slice none 0 0),(.int .i64 10)] s)
 ((AG (.slice 5) x0 s).bind fun v4 =>
(abin Tryz.prog .sub 3 (.tmp 19) (.const (.int .i64 4)) v4 (.int .i64 4)).bind fun v5 =>
(Bn 1 x0 none (some v5) (some v5)).bind fun v6 =>
(Bn 1 x0 (some v5) none none).bind fun v7 =>
(Ag Tryz.prog R (.func (.func 116) #[] #[]) [v7] s).bind fun r8 =>
(Al 0 r8.1).bind fun v9 =>
(Al 1 r8.1).bind fun v10 =>
(abin Tryz.prog .neq 32 (.tmp 33) (.const (.int .i64 0)) v10 (.int .i64 0)).bind fun v11 =>
(Ai v11 false ((Ag Tryz.prog R (.func (.func 47) #[] #[]) [v6] r8.2).bind fun r12 =>
(abin Tryz.prog .neq 44 (.tmp 36) (.tmp 38) v9 r12.1).bind fun v13 =>
some ([v13],r12.2)) (some ([undef],r8.2))).bind fun q14 =>
(AJ v11 (.bool true) (getL q14.1 0)).bind fun v15 =>
Ax v15
 (retV [(.slice none 0 0),(.int .i64 50)] q14.2)
 ((Bn 1 v6 (some (.int .i64 1)) none none).bind fun v16 =>
(Ag Tryz.prog R (.func (.func 117) #[] #[]) [v16] q14.2).bind fun r17 =>
(Al 0 r17.1).bind fun v18 =>
(Al 1 r17.1).bind fun v19 =>
(Al 2 r17.1).bind fun v20 =>
(Az 1 v6 (.int .i64 0)).bind fun v21 =>
(Aj false 1 v21 r17.2).bind fun v22 =>
(abin Tryz.prog .neq 5 (.tmp 50) (.const (.int .u8 83)) v22 (.int .u8 83)).bind fun v23 =>
(Ai v23 false ((abin Tryz.prog .neq 32 (.tmp 53) (.const (.int .i64 0)) v20 (.int .i64 0)).bind fun v24 =>
some ([v24],r17.2)) (some ([undef],r17.2))).bind fun q25 =>
(AJ v23 (.bool true) (getL q25.1 0)).bind fun v26 =>
(Ai v26 false ((abin Tryz.prog .gtr 22 (.tmp 57) (.const (.int .u64 4096)) v18 (.int .u64 4096)).bind fun v27 =>
some ([v27],q25.2)) (some ([undef],q25.2))).bind fun q28 =>
(AJ v26 (.bool true) (getL q28.1 0)).bind fun v29 =>
(Ai v29 false ((AG (.slice 5) v6 q28.2).bind fun v30 =>
(abin Tryz.prog .add 3 (.const (.int .i64 1)) (.tmp 63) (.int .i64 1) v19).bind fun v31 =>
(AM .i64 v18).bind fun v32 =>
(abin Tryz.prog .add 3 (.tmp 64) (.tmp 66) v31 v32).bind fun v33 =>
(abin Tryz.prog .neq 3 (.tmp 62) (.tmp 67) v30 v33).bind fun v34 =>
some ([v34],q28.2)) (some ([undef],q28.2))).bind fun q35 =>
(AJ v29 (.bool true) (getL q35.1 0)).bind fun v36 =>
Ax v36
 (retV [(.slice none 0 0),(.int .i64 11)] q35.2)
 ((abin Tryz.prog .add 3 (.const (.int .i64 1)) (.tmp 71) (.int .i64 1) v19).bind fun v37 =>
(Bn 1 v6 (some v37) none none).bind fun v38 =>
(Ag Tryz.prog R (.func (.func 118) #[] #[]) [v38] q35.2).bind fun r39 =>
retV [r39.1,(.int .i64 0)] r39.2))))
theorem Ku {lib : Lib} (hl : lib 34 = none) {x0 : Value} {s : St} {r : Value × St} (h : IG (run Tryz.prog lib Ad) x0 s = some r) : run Tryz.prog lib Ad 34 [x0] s = some r :=
  At hl Tryz.func34 (Eq.trans (by kernel_rfl) h)
theorem Kv : Aq Tryz.prog 34 = true:=by kernel_rfl
theorem H7 {R : Aa} {xs : List Value} {s : St} : Ag Tryz.prog R (.func (.func 34) #[] #[]) xs s = R 34 xs s:=Ak Kv
noncomputable def Bh.j0 (R : Aa) (T : List Value) (s : St) : Option (Value × St) :=
(Ah (getL T 0)).bind fun v13 =>
(Ac 1 v13).bind fun v14 =>
(Aj false 1 v14 s).bind fun v15 =>
(abin Tryz.prog .neq 32 (.tmp 22) (.const (.int .i64 0)) v15 (.int .i64 0)).bind fun v16 =>
Ax v16
 (retV [(.int .i64 0)] s)
 ((Ah (getL T 0)).bind fun v17 =>
(Ac 0 v17).bind fun v18 =>
(Aj false 1 v18 s).bind fun v19 =>
(Az 1 v19 (.int .i64 0)).bind fun v20 =>
(Aj false 1 v20 s).bind fun v21 =>
(Ah (getL T 0)).bind fun v22 =>
(Ac 0 v22).bind fun v23 =>
(Aj false 1 v23 s).bind fun v24 =>
(Bn 1 v24 (some (.int .i64 1)) none none).bind fun v25 =>
(Ah (getL T 0)).bind fun v26 =>
(Ac 0 v26).bind fun v27 =>
(A4 1 v27 v25 s).bind fun s28 =>
(AM .i64 v21).bind fun v29 =>
retV [v29] s28)
noncomputable def Bh (R : Aa) (x0 : Value) (s : St) : Option (Value × St) :=
(Ah x0).bind fun v1 =>
(Ac 1 v1).bind fun v2 =>
(Aj false 1 v2 s).bind fun v3 =>
(abin Tryz.prog .eql 32 (.tmp 7) (.const (.int .i64 0)) v3 (.int .i64 0)).bind fun v4 =>
(Ai v4 true ((Ah x0).bind fun v5 =>
(Ac 0 v5).bind fun v6 =>
(Aj false 1 v6 s).bind fun v7 =>
(AG (.slice 5) v7 s).bind fun v8 =>
(abin Tryz.prog .eql 3 (.tmp 14) (.const (.int .i64 0)) v8 (.int .i64 0)).bind fun v9 =>
some ([v9],s)) (some ([undef],s))).bind fun q10 =>
(AJ v4 (getL q10.1 0) (.bool false)).bind fun v11 =>
Ax v11
 ((Ag Tryz.prog R (.func (.func 36) #[] #[]) [x0,(.int .i64 10)] q10.2).bind fun r12 =>
Dh (Bh.j0 R) [x0] r12.2)
 (Dh (Bh.j0 R) [x0] q10.2)
theorem DF {lib : Lib} (hl : lib 35 = none) {x0 : Value} {s : St} {r : Value × St} (h : Bh (run Tryz.prog lib Ad) x0 s = some r) : run Tryz.prog lib Ad 35 [x0] s = some r :=
  At hl Tryz.func35 (Eq.trans (by kernel_rfl) h)
theorem JM : Aq Tryz.prog 35 = true:=by kernel_rfl
theorem Be {R : Aa} {xs : List Value} {s : St} : Ag Tryz.prog R (.func (.func 35) #[] #[]) xs s = R 35 xs s:=Ak JM
noncomputable def EM (R : Aa) (x0 x1 : Value) (s : St) : Option (Value × St) :=
(Ah x0).bind fun v0 =>
(Ac 1 v0).bind fun v1 =>
(Aj false 1 v1 s).bind fun v2 =>
(abin Tryz.prog .eql 32 (.tmp 7) (.const (.int .i64 0)) v2 (.int .i64 0)).bind fun v3 =>
Ax v3
 ((Ah x0).bind fun v4 =>
(Ac 1 v4).bind fun v5 =>
(A4 1 v5 x1 s).bind fun s6 =>
retV [] s6)
 (retV [] s)
theorem Fu {lib : Lib} (hl : lib 36 = none) {x0 x1 : Value} {s : St} {r : Value × St} (h : EM (run Tryz.prog lib Ad) x0 x1 s = some r) : run Tryz.prog lib Ad 36 [x0,x1] s = some r :=
  At hl Tryz.func36 (Eq.trans (by kernel_rfl) h)
theorem JN : Aq Tryz.prog 36 = true:=by kernel_rfl
theorem A6 {R : Aa} {xs : List Value} {s : St} : Ag Tryz.prog R (.func (.func 36) #[] #[]) xs s = R 36 xs s:=Ak JN
noncomputable def II (R : Aa) (x0 : Value) (s : St) : Option (Value × St) :=
(AG (.slice 5) x0 s).bind fun v0 =>
(abin Tryz.prog .gtr 3 (.tmp 11) (.const (.int .i64 4103)) v0 (.int .i64 4103)).bind fun v1 =>
Ax v1
 (retV [(.slice none 0 0),(.int .i64 2)] s)
 ((AG (.slice 5) x0 s).bind fun v2 =>
(abin Tryz.prog .lss 3 (.tmp 14) (.const (.int .i64 6)) v2 (.int .i64 6)).bind fun v3 =>
Ax v3
 (retV [(.slice none 0 0),(.int .i64 10)] s)
 ((AG (.slice 5) x0 s).bind fun v4 =>
(abin Tryz.prog .sub 3 (.tmp 17) (.const (.int .i64 4)) v4 (.int .i64 4)).bind fun v5 =>
(Bn 1 x0 (some v5) none none).bind fun v6 =>
(Ag Tryz.prog R (.func (.func 119) #[] #[]) [v6] s).bind fun r7 =>
(Al 0 r7.1).bind fun v8 =>
(Al 1 r7.1).bind fun v9 =>
(Bn 1 x0 none (some v5) none).bind fun v10 =>
(Ag Tryz.prog R (.func (.func 105) #[] #[]) [v10] r7.2).bind fun r11 =>
(abin Tryz.prog .neq 44 (.tmp 26) (.tmp 30) v8 r11.1).bind fun v12 =>
Ax v12
 (retV [(.slice none 0 0),(.int .i64 50)] r11.2)
 ((Bn 1 x0 (some (.int .i64 1)) (some v5) none).bind fun v13 =>
(Ag Tryz.prog R (.func (.func 120) #[] #[]) [v13] r11.2).bind fun r14 =>
(Al 0 r14.1).bind fun v15 =>
(Al 1 r14.1).bind fun v16 =>
(Al 2 r14.1).bind fun v17 =>
(Az 1 x0 (.int .i64 0)).bind fun v18 =>
(Aj false 1 v18 r14.2).bind fun v19 =>
(abin Tryz.prog .neq 5 (.tmp 42) (.const (.int .u8 83)) v19 (.int .u8 83)).bind fun v20 =>
(Ai v20 false ((abin Tryz.prog .neq 32 (.tmp 45) (.const (.int .i64 0)) v17 (.int .i64 0)).bind fun v21 =>
some ([v21],r14.2)) (some ([undef],r14.2))).bind fun q22 =>
(AJ v20 (.bool true) (getL q22.1 0)).bind fun v23 =>
(Ai v23 false ((abin Tryz.prog .gtr 22 (.tmp 49) (.const (.int .u64 4096)) v15 (.int .u64 4096)).bind fun v24 =>
some ([v24],q22.2)) (some ([undef],q22.2))).bind fun q25 =>
(AJ v23 (.bool true) (getL q25.1 0)).bind fun v26 =>
(Ai v26 false ((AM .i64 v15).bind fun v27 =>
(abin Tryz.prog .sub 3 (.tmp 55) (.const (.int .i64 1)) v5 (.int .i64 1)).bind fun v28 =>
(abin Tryz.prog .sub 3 (.tmp 56) (.tmp 57) v28 v16).bind fun v29 =>
(abin Tryz.prog .neq 3 (.tmp 54) (.tmp 58) v27 v29).bind fun v30 =>
some ([v30],q25.2)) (some ([undef],q25.2))).bind fun q31 =>
(AJ v26 (.bool true) (getL q31.1 0)).bind fun v32 =>
Ax v32
 (retV [(.slice none 0 0),(.int .i64 11)] q31.2)
 ((abin Tryz.prog .add 3 (.const (.int .i64 1)) (.tmp 62) (.int .i64 1) v16).bind fun v33 =>
(Bn 1 x0 (some v33) (some v5) none).bind fun v34 =>
(AD 1 1 (.slice none 0 0) v34 q31.2).bind fun r35 =>
retV [r35.1,(.int .i64 0)] r35.2))))
theorem Ha {lib : Lib} (hl : lib 37 = none) {x0 : Value} {s : St} {r : Value × St} (h : II (run Tryz.prog lib Ad) x0 s = some r) : run Tryz.prog lib Ad 37 [x0] s = some r :=
  At hl Tryz.func37 (Eq.trans (by kernel_rfl) h)
theorem RK : Aq Tryz.prog 37 = true:=by kernel_rfl
noncomputable def BQ (R : Aa) (x0 x1 : Value) (s : St) : Option (Value × St) :=
(abin Tryz.prog .eql 5 (.tmp 5) (.const (.int .u8 113)) x1 (.int .u8 113)).bind fun v0 =>
Ax v0
 ((Ah x0).bind fun v1 =>
(Ac 6 v1).bind fun v2 =>
retV [v2] s)
 ((abin Tryz.prog .eql 5 (.tmp 5) (.const (.int .u8 98)) x1 (.int .u8 98)).bind fun v3 =>
Ax v3
 ((Ah x0).bind fun v4 =>
(Ac 7 v4).bind fun v5 =>
retV [v5] s)
 ((abin Tryz.prog .eql 5 (.tmp 5) (.const (.int .u8 116)) x1 (.int .u8 116)).bind fun v6 =>
Ax v6
 ((Ah x0).bind fun v7 =>
(Ac 8 v7).bind fun v8 =>
retV [v8] s)
 ((abin Tryz.prog .eql 5 (.tmp 5) (.const (.int .u8 108)) x1 (.int .u8 108)).bind fun v9 =>
Ax v9
 ((Ah x0).bind fun v10 =>
(Ac 9 v10).bind fun v11 =>
retV [v11] s)
 ((abin Tryz.prog .eql 5 (.tmp 5) (.const (.int .u8 118)) x1 (.int .u8 118)).bind fun v12 =>
Ax v12
 ((Ah x0).bind fun v13 =>
(Ac 10 v13).bind fun v14 =>
retV [v14] s)
 ((abin Tryz.prog .eql 5 (.tmp 5) (.const (.int .u8 101)) x1 (.int .u8 101)).bind fun v15 =>
Ax v15
 ((Ah x0).bind fun v16 =>
(Ac 11 v16).bind fun v17 =>
retV [v17] s)
 ((abin Tryz.prog .eql 5 (.tmp 5) (.const (.int .u8 109)) x1 (.int .u8 109)).bind fun v18 =>
Ax v18
 ((Ah x0).bind fun v19 =>
(Ac 12 v19).bind fun v20 =>
retV [v20] s)
 ((abin Tryz.prog .eql 5 (.tmp 5) (.const (.int .u8 97)) x1 (.int .u8 97)).bind fun v21 =>
Ax v21
 ((Ah x0).bind fun v22 =>
(Ac 13 v22).bind fun v23 =>
retV [v23] s)
 ((abin Tryz.prog .eql 5 (.tmp 5) (.const (.int .u8 110)) x1 (.int .u8 110)).bind fun v24 =>
Ax v24
 ((Ah x0).bind fun v25 =>
(Ac 14 v25).bind fun v26 =>
retV [v26] s)
 (retV [(.pointer none)] s)))))))))
theorem Ou {lib : Lib} (hl : lib 40 = none) {x0 x1 : Value} {s : St} {r : Value × St} (h : BQ (run Tryz.prog lib Ad) x0 x1 s = some r) : run Tryz.prog lib Ad 40 [x0,x1] s = some r :=
  At hl Tryz.func40 (Eq.trans (by kernel_rfl) h)
theorem Ov : Aq Tryz.prog 40 = true:=by kernel_rfl
theorem Lv {R : Aa} {xs : List Value} {s : St} : Ag Tryz.prog R (.func (.func 40) #[] #[]) xs s = R 40 xs s:=Ak Ov
noncomputable def Cc.b0 (R : Aa) (T : List Value) (s : St) : Res :=
(abin Tryz.prog .lss 3 (.tmp 13) (.tmp 12) (getL T 3) (getL T 2)).bind fun v4 =>
Ax v4
 ((Az 6 (getL T 0) (getL T 3)).bind fun v5 =>
((Aj true 6 v5 (frzS s)).bind fun v12 =>
some (v12,(frzS s))).bind fun r6 =>
(Az 6 (getL T 1) (getL T 3)).bind fun v7 =>
((Aj true 6 v7 (frzS s)).bind fun v11 =>
some (v11,(frzS s))).bind fun r8 =>
(abin Tryz.prog .neq 69 (.tmp 19) (.tmp 23) r6.1 r8.1).bind fun v9 =>
Ax v9
 (some (.ret,[(.bool false)],s))
 ((abin Tryz.prog .add 3 (.tmp 13) (.const (.int .i64 1)) (getL T 3) (.int .i64 1)).bind fun v10 =>
some (.normal,[(getL T 0),(getL T 1),(getL T 2),v10],s)))
 (some (.exit 0,[],s))
noncomputable def Cc (R : Aa) (x0 x1 : Value) (s : St) : Option (Value × St) :=
(AG (.slice 69) x0 s).bind fun v0 =>
(AG (.slice 69) x1 s).bind fun v1 =>
(abin Tryz.prog .neq 3 (.tmp 7) (.tmp 9) v0 v1).bind fun v2 =>
Ax v2
 (retV [(.bool false)] s)
 ((AG (.slice 69) x0 s).bind fun v3 =>
(AS (Cc.b0 R) [x0,x1,v3,(.int .i64 0)] s).bind fun r13 =>
exV r13.1 [(0,retV [(.bool true)] r13.2.2)]
 (retV [(getL r13.2.1 0)] r13.2.2))
theorem MG {lib : Lib} (hl : lib 41 = none) {x0 x1 : Value} {s : St} {r : Value × St} (h : Cc (run Tryz.prog lib Ad) x0 x1 s = some r) : run Tryz.prog lib Ad 41 [x0,x1] s = some r :=
  At hl Tryz.func41 (Eq.trans (by kernel_rfl) h)
theorem MH : Aq Tryz.prog 41 = true:=by kernel_rfl
theorem Kw {R : Aa} {xs : List Value} {s : St} : Ag Tryz.prog R (.func (.func 41) #[] #[]) xs s = R 41 xs s:=Ak MH
noncomputable def Bs.b0 (R : Aa) (T : List Value) (s : St) : Res :=
(abin Tryz.prog .lss 3 (.tmp 13) (.tmp 12) (getL T 3) (getL T 2)).bind fun v4 =>
Ax v4
 ((Az 3 (getL T 0) (getL T 3)).bind fun v5 =>
(Ac 0 v5).bind fun v6 =>
((Aj false 1 v6 (frzS s)).bind fun v54 =>
some (v54,(frzS s))).bind fun r7 =>
(Az 3 (getL T 1) (getL T 3)).bind fun v8 =>
(Ac 0 v8).bind fun v9 =>
((Aj false 1 v9 (frzS s)).bind fun v53 =>
some (v53,(frzS s))).bind fun r10 =>
(abin Tryz.prog .neq 4 (.tmp 20) (.tmp 25) r7.1 r10.1).bind fun v11 =>
(Ai v11 false (some ([(getL T 0)],s)) (some ([undef],s))).bind fun q12 =>
(Ai v11 false (some ([(getL T 3)],q12.2)) (some ([undef],q12.2))).bind fun q13 =>
(Ai v11 false ((Az 3 (getL q12.1 0) (getL q13.1 0)).bind fun v14 =>
some ([v14],q13.2)) (some ([undef],q13.2))).bind fun q15 =>
(Ai v11 false ((Ac 1 (getL q15.1 0)).bind fun v16 =>
some ([v16],q15.2)) (some ([undef],q15.2))).bind fun q17 =>
(Ai v11 false ((Aj false 1 (getL q17.1 0) (frzS q17.2)).bind fun v52 =>
some (v52,(frzS q17.2))) (some (undef,(frzS q17.2)))).bind fun r18 =>
(Ai v11 false (some ([(getL T 1)],q17.2)) (some ([undef],q17.2))).bind fun q19 =>
(Ai v11 false (some ([(getL T 3)],q19.2)) (some ([undef],q19.2))).bind fun q20 =>
(Ai v11 false ((Az 3 (getL q19.1 0) (getL q20.1 0)).bind fun v21 =>
some ([v21],q20.2)) (some ([undef],q20.2))).bind fun q22 =>
(Ai v11 false ((Ac 1 (getL q22.1 0)).bind fun v23 =>
some ([v23],q22.2)) (some ([undef],q22.2))).bind fun q24 =>
(Ai v11 false ((Aj false 1 (getL q24.1 0) (frzS q24.2)).bind fun v51 =>
some (v51,(frzS q24.2))) (some (undef,(frzS q24.2)))).bind fun r25 =>
(Ai v11 false ((abin Tryz.prog .neq 9 (.tmp 32) (.tmp 37) r18.1 r25.1).bind fun v26 =>
some ([v26],q24.2)) (some ([undef],q24.2))).bind fun q27 =>
(AJ v11 (.bool true) (getL q27.1 0)).bind fun v28 =>
(Ai v28 false (some ([(getL T 0)],q27.2)) (some ([undef],q27.2))).bind fun q29 =>
(Ai v28 false (some ([(getL T 3)],q29.2)) (some ([undef],q29.2))).bind fun q30 =>
(Ai v28 false ((Az 3 (getL q29.1 0) (getL q30.1 0)).bind fun v31 =>
some ([v31],q30.2)) (some ([undef],q30.2))).bind fun q32 =>
(Ai v28 false ((Ac 2 (getL q32.1 0)).bind fun v33 =>
some ([v33],q32.2)) (some ([undef],q32.2))).bind fun q34 =>
(Ai v28 false ((Aj false 1 (getL q34.1 0) (frzS q34.2)).bind fun v50 =>
some (v50,(frzS q34.2))) (some (undef,(frzS q34.2)))).bind fun r35 =>
(Ai v28 false (some ([(getL T 1)],q34.2)) (some ([undef],q34.2))).bind fun q36 =>
(Ai v28 false (some ([(getL T 3)],q36.2)) (some ([undef],q36.2))).bind fun q37 =>
(Ai v28 false ((Az 3 (getL q36.1 0) (getL q37.1 0)).bind fun v38 =>
some ([v38],q37.2)) (some ([undef],q37.2))).bind fun q39 =>
(Ai v28 false ((Ac 2 (getL q39.1 0)).bind fun v40 =>
some ([v40],q39.2)) (some ([undef],q39.2))).bind fun q41 =>
(Ai v28 false ((Aj false 1 (getL q41.1 0) (frzS q41.2)).bind fun v49 =>
some (v49,(frzS q41.2))) (some (undef,(frzS q41.2)))).bind fun r42 =>
((Ai v28 false ((Ag Tryz.prog R (.func (.func 128) #[] #[]) [r35.1,r42.1] q41.2).bind fun r48 =>
some (r48.1,r48.2)) (some (undef,q41.2))).bind (ownR q41.2)).bind fun r43 =>
(Ai v28 false ((aun .not r43.1).bind fun v44 =>
some ([v44],r43.2)) (some ([undef],r43.2))).bind fun q45 =>
(AJ v28 (.bool true) (getL q45.1 0)).bind fun v46 =>
Ax v46
 (some (.ret,[(.bool false)],q45.2))
 ((abin Tryz.prog .add 3 (.tmp 13) (.const (.int .i64 1)) (getL T 3) (.int .i64 1)).bind fun v47 =>
some (.normal,[(getL T 0),(getL T 1),(getL T 2),v47],q45.2)))
 (some (.exit 0,[],s))
noncomputable def Bs (R : Aa) (x0 x1 : Value) (s : St) : Option (Value × St) :=
(AG (.slice 87) x0 s).bind fun v0 =>
(AG (.slice 87) x1 s).bind fun v1 =>
(abin Tryz.prog .neq 3 (.tmp 7) (.tmp 9) v0 v1).bind fun v2 =>
Ax v2
 (retV [(.bool false)] s)
 ((AG (.slice 87) x0 s).bind fun v3 =>
(AS (Bs.b0 R) [x0,x1,v3,(.int .i64 0)] s).bind fun r55 =>
exV r55.1 [(0,retV [(.bool true)] r55.2.2)]
 (retV [(getL r55.2.1 0)] r55.2.2))
theorem IT {lib : Lib} (hl : lib 42 = none) {x0 x1 : Value} {s : St} {r : Value × St} (h : Bs (run Tryz.prog lib Ad) x0 x1 s = some r) : run Tryz.prog lib Ad 42 [x0,x1] s = some r :=
  At hl Tryz.func42 (Eq.trans (by kernel_rfl) h)
theorem IU : Aq Tryz.prog 42 = true:=by kernel_rfl
theorem HE {R : Aa} {xs : List Value} {s : St} : Ag Tryz.prog R (.func (.func 42) #[] #[]) xs s = R 42 xs s:=Ak IU
noncomputable def DQ.b0 (R : Aa) (T : List Value) (s : St) : Res :=
(abin Tryz.prog .lss 3 (.tmp 13) (.tmp 12) (getL T 3) (getL T 2)).bind fun v4 =>
Ax v4
 ((Az 2 (getL T 0) (getL T 3)).bind fun v5 =>
((Aj true 2 v5 (frzS s)).bind fun v12 =>
some (v12,(frzS s))).bind fun r6 =>
(Az 2 (getL T 1) (getL T 3)).bind fun v7 =>
((Aj true 2 v7 (frzS s)).bind fun v11 =>
some (v11,(frzS s))).bind fun r8 =>
(abin Tryz.prog .neq 91 (.tmp 19) (.tmp 23) r6.1 r8.1).bind fun v9 =>
Ax v9
 (some (.ret,[(.bool false)],s))
 ((abin Tryz.prog .add 3 (.tmp 13) (.const (.int .i64 1)) (getL T 3) (.int .i64 1)).bind fun v10 =>
some (.normal,[(getL T 0),(getL T 1),(getL T 2),v10],s)))
 (some (.exit 0,[],s))
noncomputable def DQ (R : Aa) (x0 x1 : Value) (s : St) : Option (Value × St) :=
(AG (.slice 91) x0 s).bind fun v0 =>
(AG (.slice 91) x1 s).bind fun v1 =>
(abin Tryz.prog .neq 3 (.tmp 7) (.tmp 9) v0 v1).bind fun v2 =>
Ax v2
 (retV [(.bool false)] s)
 ((AG (.slice 91) x0 s).bind fun v3 =>
(AS (DQ.b0 R) [x0,x1,v3,(.int .i64 0)] s).bind fun r13 =>
exV r13.1 [(0,retV [(.bool true)] r13.2.2)]
 (retV [(getL r13.2.1 0)] r13.2.2))
theorem RL {lib : Lib} (hl : lib 43 = none) {x0 x1 : Value} {s : St} {r : Value × St} (h : DQ (run Tryz.prog lib Ad) x0 x1 s = some r) : run Tryz.prog lib Ad 43 [x0,x1] s = some r :=
  At hl Tryz.func43 (Eq.trans (by kernel_rfl) h)
theorem RM : Aq Tryz.prog 43 = true:=by kernel_rfl
theorem Ox {R : Aa} {xs : List Value} {s : St} : Ag Tryz.prog R (.func (.func 43) #[] #[]) xs s = R 43 xs s:=Ak RM
noncomputable def Av.j0 (R : Aa) (T : List Value) (s : St) : Res :=
(abin Tryz.prog .add 3 (.tmp 11) (.const (.int .i64 1)) (getL T 4) (.int .i64 1)).bind fun v9 =>
some (.normal,[(getL T 0),(getL T 1),(getL T 2),(getL T 3),v9],s)
noncomputable def Av.b0 (R : Aa) (T : List Value) (s : St) : Res :=
(abin Tryz.prog .lss 3 (.tmp 11) (.tmp 10) (getL T 4) (getL T 3)).bind fun v1 =>
Ax v1
 ((Az 1 (getL T 2) (getL T 4)).bind fun v3 =>
(Aj false 1 v3 s).bind fun v4 =>
(AG (.slice 5) v4 s).bind fun v5 =>
(abin Tryz.prog .add 3 (.tmp 15) (.tmp 17) (getL T 1) v5).bind fun v6 =>
(abin Tryz.prog .lss 3 (.tmp 19) (.const (.int .i64 0)) v6 (.int .i64 0)).bind fun v7 =>
Ax v7
 ((VE 9 (.string ⟨#[108,101,110,32,111,117,116,32,111,102,32,114,97,110,103,101]⟩)).bind fun v8 =>
none)
 (Dh (Av.j0 R) [(getL T 0),v6,(getL T 2),(getL T 3),(getL T 4)] s))
 (some (.exit 0,[(getL T 0),(getL T 1)],s))
noncomputable def Av.b1 (R : Aa) (T : List Value) (s : St) : Res :=
(abin Tryz.prog .lss 3 (.tmp 27) (.tmp 26) (getL T 3) (getL T 2)).bind fun v13 =>
Ax v13
 ((Az 1 (getL T 1) (getL T 3)).bind fun v14 =>
(Aj false 1 v14 s).bind fun v15 =>
(AD 1 1 (getL T 0) v15 s).bind fun r16 =>
(abin Tryz.prog .add 3 (.tmp 27) (.const (.int .i64 1)) (getL T 3) (.int .i64 1)).bind fun v17 =>
some (.normal,[r16.1,(getL T 1),(getL T 2),v17],r16.2))
 (some (.exit 2,[(getL T 0)],s))
noncomputable def Av (R : Aa) (x0 : Value) (s : St) : Option (Value × St) :=
(AG (.slice 31) x0 s).bind fun v0 =>
(AS (Av.b0 R) [x0,(.int .i64 0),x0,v0,(.int .i64 0)] s).bind fun r10 =>
exV r10.1 [(0,(Ag Tryz.prog R (.func (.func 129) #[] #[]) [(.slice none 0 0),(getL r10.2.1 1)] r10.2.2).bind fun r11 =>
(AG (.slice 31) (getL r10.2.1 0) r11.2).bind fun v12 =>
(AS (Av.b1 R) [r11.1,(getL r10.2.1 0),v12,(.int .i64 0)] r11.2).bind fun r18 =>
exV r18.1 [(2,retV [(getL r18.2.1 0)] r18.2.2)]
 (none))]
 (none)
theorem FK {lib : Lib} (hl : lib 44 = none) {x0 : Value} {s : St} {r : Value × St} (h : Av (run Tryz.prog lib Ad) x0 s = some r) : run Tryz.prog lib Ad 44 [x0] s = some r :=
  At hl Tryz.func44 (Eq.trans (by kernel_rfl) h)
theorem Dg : Aq Tryz.prog 44 = true:=by kernel_rfl
theorem CV {R : Aa} {xs : List Value} {s : St} : Ag Tryz.prog R (.func (.func 44) #[] #[]) xs s = R 44 xs s:=Ak Dg
noncomputable def D0.b0 (R : Aa) (T : List Value) (s : St) : Res :=
(abin Tryz.prog .geq 22 (.tmp 4) (.const (.int .u64 128)) (getL T 0) (.int .u64 128)).bind fun v0 =>
Ax v0
 ((AM .u8 (getL T 0)).bind fun v1 =>
(abin Tryz.prog .or 5 (.tmp 8) (.const (.int .u8 128)) v1 (.int .u8 128)).bind fun v2 =>
(As 1 [(.int .u8 0)] 1 [(0,v2)] s).bind fun r3 =>
(AD 1 1 (getL T 1) r3.1 r3.2).bind fun r4 =>
(abin Tryz.prog .shr 22 (.tmp 12) (.const (.int .u64 7)) (getL T 0) (.int .u64 7)).bind fun v5 =>
some (.normal,[v5,r4.1],r4.2))
 (some (.exit 0,[(getL T 0),(getL T 1)],s))
noncomputable def D0 (R : Aa) (x0 : Value) (s : St) : Option (Value × St) :=
(AS (D0.b0 R) [x0,(.slice none 0 0)] s).bind fun r6 =>
exV r6.1 [(0,(AM .u8 (getL r6.2.1 0)).bind fun v7 =>
(As 1 [(.int .u8 0)] 1 [(0,v7)] r6.2.2).bind fun r8 =>
(AD 1 1 (getL r6.2.1 1) r8.1 r8.2).bind fun r9 =>
retV [r9.1] r9.2)]
 (none)
theorem Ts {lib : Lib} (hl : lib 45 = none) {x0 : Value} {s : St} {r : Value × St} (h : D0 (run Tryz.prog lib Ad) x0 s = some r) : run Tryz.prog lib Ad 45 [x0] s = some r :=
  At hl Tryz.func45 (Eq.trans (by kernel_rfl) h)
theorem Mi : Aq Tryz.prog 45 = true:=by kernel_rfl
theorem Ck {R : Aa} {xs : List Value} {s : St} : Ag Tryz.prog R (.func (.func 45) #[] #[]) xs s = R 45 xs s:=Ak Mi
noncomputable def C5.b0 (R : Aa) (T : List Value) (s : St) : Res :=
(abin Tryz.prog .lss 3 (.tmp 5) (.const (.int .i64 4)) (getL T 3) (.int .i64 4)).bind fun v0 =>
Ax v0
 ((abin Tryz.prog .mul 3 (.const (.int .i64 8)) (.tmp 10) (.int .i64 8) (getL T 3)).bind fun v1 =>
(abin Tryz.prog .shr 44 (.tmp 9) (.tmp 11) (getL T 0) v1).bind fun v2 =>
(AM .u8 v2).bind fun v3 =>
(GU 4 1 (getL T 2) (getL T 3)).bind fun v4 =>
(AO 1 v4 v3 (getL T 5)).bind fun v5 =>
(abin Tryz.prog .add 3 (.tmp 5) (.const (.int .i64 1)) (getL T 3) (.int .i64 1)).bind fun v6 =>
some (.normal,[(getL T 0),(getL T 1),(getL T 2),v6,(getL T 4),v5],s))
 (some (.exit 0,[(getL T 1),(getL T 2),(getL T 4),(getL T 5)],s))
noncomputable def C5 (R : Aa) (x0 : Value) (s : St) : Option (Value × St) :=
(AS (C5.b0 R) [x0,lptr,lptr,(.int .i64 0),(.agg #[(.int .u8 0),(.int .u8 0),(.int .u8 0),(.int .u8 0)]),(.agg #[(.int .u8 0),(.int .u8 0),(.int .u8 0),(.int .u8 0)])] s).bind fun r7 =>
exV r7.1 [(0,(Ap true 4 (getL r7.2.1 1) (getL r7.2.1 3)).bind fun v8 =>
(AO 4 (getL r7.2.1 0) v8 (getL r7.2.1 2)).bind fun v9 =>
(Ap true 4 (getL r7.2.1 0) v9).bind fun v10 =>
retV [v10] r7.2.2)]
 (none)
theorem P2 {lib : Lib} (hl : lib 46 = none) {x0 : Value} {s : St} {r : Value × St} (h : C5 (run Tryz.prog lib Ad) x0 s = some r) : run Tryz.prog lib Ad 46 [x0] s = some r :=
  At hl Tryz.func46 (Eq.trans (by kernel_rfl) h)
theorem Jc : Aq Tryz.prog 46 = true:=by kernel_rfl
theorem MI {R : Aa} {xs : List Value} {s : St} : Ag Tryz.prog R (.func (.func 46) #[] #[]) xs s = R 46 xs s:=Ak Jc
noncomputable def D1.b0 (R : Aa) (T : List Value) (s : St) : Res :=
(abin Tryz.prog .lss 3 (.tmp 10) (.tmp 9) (getL T 4) (getL T 3)).bind fun v3 =>
Ax v3
 ((Az 1 (getL T 2) (getL T 4)).bind fun v4 =>
(Aj false 1 v4 s).bind fun v5 =>
(abin Tryz.prog .shr 44 (.tmp 14) (.const (.int .u64 8)) (getL T 1) (.int .u64 8)).bind fun v6 =>
(AM .u8 (getL T 1)).bind fun v7 =>
(abin Tryz.prog .xor 5 (.tmp 17) (.tmp 18) v7 v5).bind fun v8 =>
(GU 256 1 (getL T 0) v8).bind fun v9 =>
(Ap false 1 v9 (getL T 5)).bind fun v10 =>
(abin Tryz.prog .xor 44 (.tmp 15) (.tmp 21) v6 v10).bind fun v11 =>
(abin Tryz.prog .add 3 (.tmp 10) (.const (.int .i64 1)) (getL T 4) (.int .i64 1)).bind fun v12 =>
some (.normal,[(getL T 0),v11,(getL T 2),(getL T 3),v12,(getL T 5)],s))
 (some (.exit 0,[(getL T 1)],s))
noncomputable def D1 (R : Aa) (x0 : Value) (s : St) : Option (Value × St) :=
(Ag Tryz.prog R (.func (.func 130) #[] #[]) [] s).bind fun r0 =>
(AO 256 lptr r0.1 (.agg (List.replicate 256 (.int .u32 0)).toArray)).bind fun v1 =>
(AG (.slice 5) x0 r0.2).bind fun v2 =>
(AS (D1.b0 R) [lptr,(.int .u32 4294967295),x0,v2,(.int .i64 0),v1] r0.2).bind fun r13 =>
exV r13.1 [(0,(aun .xor (getL r13.2.1 0)).bind fun v14 =>
retV [v14] r13.2.2)]
 (none)
theorem Tt {lib : Lib} (hl : lib 47 = none) {x0 : Value} {s : St} {r : Value × St} (h : D1 (run Tryz.prog lib Ad) x0 s = some r) : run Tryz.prog lib Ad 47 [x0] s = some r :=
  At hl Tryz.func47 (Eq.trans (by kernel_rfl) h)
theorem Mj : Aq Tryz.prog 47 = true:=by kernel_rfl
theorem Jd {R : Aa} {xs : List Value} {s : St} : Ag Tryz.prog R (.func (.func 47) #[] #[]) xs s = R 47 xs s:=Ak Mj
noncomputable def wire_client (R : Aa) (x0 : Value) (s : St) : Option (Value × St) :=
(abin Tryz.prog .gtr 3 (.tmp 3) (.const (.int .i64 10)) x0 (.int .i64 10)).bind fun v0 =>
(Ai v0 true ((abin Tryz.prog .leq 3 (.tmp 6) (.const (.int .i64 14)) x0 (.int .i64 14)).bind fun v1 =>
some ([v1],s)) (some ([undef],s))).bind fun q2 =>
(AJ v0 (getL q2.1 0) (.bool false)).bind fun v3 =>
retV [v3] q2.2
theorem P3 {lib : Lib} (hl : lib 48 = none) {x0 : Value} {s : St} {r : Value × St} (h : wire_client (run Tryz.prog lib Ad) x0 s = some r) : run Tryz.prog lib Ad 48 [x0] s = some r :=
  At hl Tryz.func48 (Eq.trans (by kernel_rfl) h)
theorem P4 : Aq Tryz.prog 48 = true:=by kernel_rfl
theorem MJ {R : Aa} {xs : List Value} {s : St} : Ag Tryz.prog R (.func (.func 48) #[] #[]) xs s = R 48 xs s:=Ak P4
noncomputable def wire_coord (R : Aa) (x0 : Value) (s : St) : Option (Value × St) :=
(abin Tryz.prog .eql 3 (.tmp 3) (.const (.int .i64 0)) x0 (.int .i64 0)).bind fun v0 =>
retV [v0] s
theorem RN {lib : Lib} (hl : lib 49 = none) {x0 : Value} {s : St} {r : Value × St} (h : wire_coord (run Tryz.prog lib Ad) x0 s = some r) : run Tryz.prog lib Ad 49 [x0] s = some r :=
  At hl Tryz.func49 (Eq.trans (by kernel_rfl) h)
theorem RO : Aq Tryz.prog 49 = true:=by kernel_rfl
theorem Oy {R : Aa} {xs : List Value} {s : St} : Ag Tryz.prog R (.func (.func 49) #[] #[]) xs s = R 49 xs s:=Ak RO
noncomputable def wire_formOf_1 (R : Aa) (x0 : Value) (s : St) : Option (Value × St) :=
(lbox x0).bind fun v0 =>
(Ap false 1 (.pointer (some ⟨0,18,none⟩)) v0).bind fun v1 =>
(Ag Tryz.prog R (.func (.func 51) #[] #[]) [v1] s).bind fun r2 =>
(abin Tryz.prog .eql 32 (.tmp 5) (.const (.int .i64 0)) r2.1 (.int .i64 0)).bind fun v3 =>
retV [v3] r2.2
theorem MK {lib : Lib} (hl : lib 50 = none) {x0 : Value} {s : St} {r : Value × St} (h : wire_formOf_1 (run Tryz.prog lib Ad) x0 s = some r) : run Tryz.prog lib Ad 50 [x0] s = some r :=
  At hl Tryz.func50 (Eq.trans (by kernel_rfl) h)
theorem ML : Aq Tryz.prog 50 = true:=by kernel_rfl
theorem Kx {R : Aa} {xs : List Value} {s : St} : Ag Tryz.prog R (.func (.func 50) #[] #[]) xs s = R 50 xs s:=Ak ML
noncomputable def RP (R : Aa) (x0 : Value) (s : St) : Option (Value × St) :=
(AG (.slice 69) x0 s).bind fun v0 =>
(abin Tryz.prog .eql 3 (.tmp 4) (.const (.int .i64 0)) v0 (.int .i64 0)).bind fun v1 =>
(Ai v1 false ((AG (.slice 69) x0 s).bind fun v2 =>
(abin Tryz.prog .gtr 3 (.tmp 8) (.const (.int .i64 4)) v2 (.int .i64 4)).bind fun v3 =>
some ([v3],s)) (some ([undef],s))).bind fun q4 =>
(AJ v1 (.bool true) (getL q4.1 0)).bind fun v5 =>
Ax v5
 (retV [(.int .i64 3)] q4.2)
 ((Ag Tryz.prog R (.func (.func 131) #[] #[]) [x0] q4.2).bind fun r6 =>
retV [r6.1] r6.2)
theorem UY {lib : Lib} (hl : lib 51 = none) {x0 : Value} {s : St} {r : Value × St} (h : RP (run Tryz.prog lib Ad) x0 s = some r) : run Tryz.prog lib Ad 51 [x0] s = some r :=
  At hl Tryz.func51 (Eq.trans (by kernel_rfl) h)
theorem Oz : Aq Tryz.prog 51 = true:=by kernel_rfl
theorem RQ {R : Aa} {xs : List Value} {s : St} : Ag Tryz.prog R (.func (.func 51) #[] #[]) xs s = R 51 xs s:=Ak Oz
noncomputable def wire_formOf_2 (R : Aa) (x0 : Value) (s : St) : Option (Value × St) :=
(lbox x0).bind fun v0 =>
(Ap false 1 (.pointer (some ⟨0,4,none⟩)) v0).bind fun v1 =>
(abin Tryz.prog .eql 3 (.tmp 4) (.const (.int .i64 1)) v1 (.int .i64 1)).bind fun v2 =>
(Ai v2 false ((Ap false 1 (.pointer (some ⟨0,4,none⟩)) v0).bind fun v3 =>
(abin Tryz.prog .eql 3 (.tmp 8) (.const (.int .i64 2)) v3 (.int .i64 2)).bind fun v4 =>
some ([v4],s)) (some ([undef],s))).bind fun q5 =>
(AJ v2 (.bool true) (getL q5.1 0)).bind fun v6 =>
(Ai v6 true ((Ap false 1 (.pointer (some ⟨0,19,none⟩)) v0).bind fun v7 =>
(Ag Tryz.prog R (.func (.func 53) #[] #[]) [v7,(.int .i64 4)] q5.2).bind fun r8 =>
some ([r8.1],r8.2)) (some ([undef],q5.2))).bind fun q9 =>
(AJ v6 (getL q9.1 0) (.bool false)).bind fun v10 =>
retV [v10] q9.2
theorem MM {lib : Lib} (hl : lib 52 = none) {x0 : Value} {s : St} {r : Value × St} (h : wire_formOf_2 (run Tryz.prog lib Ad) x0 s = some r) : run Tryz.prog lib Ad 52 [x0] s = some r :=
  At hl Tryz.func52 (Eq.trans (by kernel_rfl) h)
theorem MN : Aq Tryz.prog 52 = true:=by kernel_rfl
theorem Ky {R : Aa} {xs : List Value} {s : St} : Ag Tryz.prog R (.func (.func 52) #[] #[]) xs s = R 52 xs s:=Ak MN
noncomputable def wire_results (R : Aa) (x0 x1 : Value) (s : St) : Option (Value × St) :=
(anew [.nilFunc] s).bind fun r0 =>
(A4 1 r0.1 (.func (.func 132) #[] #[]) r0.2).bind fun s1 =>
(AG (.slice 87) x0 s1).bind fun v2 =>
(abin Tryz.prog .leq 3 (.tmp 7) (.tmp 8) v2 x1).bind fun v3 =>
(Ai v3 true ((BF 135 [] [r0.1]).bind fun v4 =>
(Ag Tryz.prog R (.func (.func 134) #[] #[]) [x0,v4] s1).bind fun r5 =>
(aun .not r5.1).bind fun v6 =>
some ([v6],r5.2)) (some ([undef],s1))).bind fun q7 =>
(AJ v3 (getL q7.1 0) (.bool false)).bind fun v8 =>
retV [v8] q7.2
theorem OA {lib : Lib} (hl : lib 53 = none) {x0 x1 : Value} {s : St} {r : Value × St} (h : wire_results (run Tryz.prog lib Ad) x0 x1 s = some r) : run Tryz.prog lib Ad 53 [x0,x1] s = some r :=
  At hl Tryz.func53 (Eq.trans (by kernel_rfl) h)
theorem OB : Aq Tryz.prog 53 = true:=by kernel_rfl
theorem GE {R : Aa} {xs : List Value} {s : St} : Ag Tryz.prog R (.func (.func 53) #[] #[]) xs s = R 53 xs s:=Ak OB
noncomputable def wire_shard (R : Aa) (x0 : Value) (s : St) : Option (Value × St) :=
(abin Tryz.prog .geq 3 (.tmp 3) (.const (.int .i64 1)) x0 (.int .i64 1)).bind fun v0 =>
(Ai v0 true ((abin Tryz.prog .leq 3 (.tmp 6) (.const (.int .i64 4)) x0 (.int .i64 4)).bind fun v1 =>
some ([v1],s)) (some ([undef],s))).bind fun q2 =>
(AJ v0 (getL q2.1 0) (.bool false)).bind fun v3 =>
retV [v3] q2.2
theorem RR {lib : Lib} (hl : lib 54 = none) {x0 : Value} {s : St} {r : Value × St} (h : wire_shard (run Tryz.prog lib Ad) x0 s = some r) : run Tryz.prog lib Ad 54 [x0] s = some r :=
  At hl Tryz.func54 (Eq.trans (by kernel_rfl) h)
theorem RS : Aq Tryz.prog 54 = true:=by kernel_rfl
theorem Fv {R : Aa} {xs : List Value} {s : St} : Ag Tryz.prog R (.func (.func 54) #[] #[]) xs s = R 54 xs s:=Ak RS
noncomputable def wire_formOf_3 (R : Aa) (x0 : Value) (s : St) : Option (Value × St) :=
(lbox x0).bind fun v0 =>
(Ap false 1 (.pointer (some ⟨0,18,none⟩)) v0).bind fun v1 =>
(AG (.slice 69) v1 s).bind fun v2 =>
(abin Tryz.prog .gtr 3 (.tmp 5) (.const (.int .i64 0)) v2 (.int .i64 0)).bind fun v3 =>
(Ai v3 true ((Ap false 1 (.pointer (some ⟨0,18,none⟩)) v0).bind fun v4 =>
(Ag Tryz.prog R (.func (.func 56) #[] #[]) [v4,(.int .i64 24)] s).bind fun r5 =>
some ([r5.1],r5.2)) (some ([undef],s))).bind fun q6 =>
(AJ v3 (getL q6.1 0) (.bool false)).bind fun v7 =>
retV [v7] q6.2
theorem MO {lib : Lib} (hl : lib 55 = none) {x0 : Value} {s : St} {r : Value × St} (h : wire_formOf_3 (run Tryz.prog lib Ad) x0 s = some r) : run Tryz.prog lib Ad 55 [x0] s = some r :=
  At hl Tryz.func55 (Eq.trans (by kernel_rfl) h)
theorem MP : Aq Tryz.prog 55 = true:=by kernel_rfl
theorem Kz {R : Aa} {xs : List Value} {s : St} : Ag Tryz.prog R (.func (.func 55) #[] #[]) xs s = R 55 xs s:=Ak MP
noncomputable def wire_ops (R : Aa) (x0 x1 : Value) (s : St) : Option (Value × St) :=
(AG (.slice 69) x0 s).bind fun v0 =>
(abin Tryz.prog .leq 3 (.tmp 6) (.tmp 7) v0 x1).bind fun v1 =>
(Ai v1 true ((Ag Tryz.prog R (.func (.func 64) #[] #[]) [x0,(.func (.func 137) #[] #[])] s).bind fun r2 =>
(aun .not r2.1).bind fun v3 =>
some ([v3],r2.2)) (some ([undef],s))).bind fun q4 =>
(AJ v1 (getL q4.1 0) (.bool false)).bind fun v5 =>
retV [v5] q4.2
theorem UZ {lib : Lib} (hl : lib 56 = none) {x0 x1 : Value} {s : St} {r : Value × St} (h : wire_ops (run Tryz.prog lib Ad) x0 x1 s = some r) : run Tryz.prog lib Ad 56 [x0,x1] s = some r :=
  At hl Tryz.func56 (Eq.trans (by kernel_rfl) h)
theorem U0 : Aq Tryz.prog 56 = true:=by kernel_rfl
theorem EZ {R : Aa} {xs : List Value} {s : St} : Ag Tryz.prog R (.func (.func 56) #[] #[]) xs s = R 56 xs s:=Ak U0
noncomputable def wire_formOf_4 (R : Aa) (x0 : Value) (s : St) : Option (Value × St) :=
(lbox x0).bind fun v0 =>
(Ap false 1 (.pointer (some ⟨0,4,none⟩)) v0).bind fun v1 =>
(abin Tryz.prog .geq 3 (.tmp 4) (.const (.int .i64 3)) v1 (.int .i64 3)).bind fun v2 =>
(Ai v2 true ((Ap false 1 (.pointer (some ⟨0,4,none⟩)) v0).bind fun v3 =>
(abin Tryz.prog .leq 3 (.tmp 8) (.const (.int .i64 5)) v3 (.int .i64 5)).bind fun v4 =>
some ([v4],s)) (some ([undef],s))).bind fun q5 =>
(AJ v2 (getL q5.1 0) (.bool false)).bind fun v6 =>
(Ai v6 true ((Ap false 1 (.pointer (some ⟨0,19,none⟩)) v0).bind fun v7 =>
(Ag Tryz.prog R (.func (.func 53) #[] #[]) [v7,(.int .i64 24)] q5.2).bind fun r8 =>
some ([r8.1],r8.2)) (some ([undef],q5.2))).bind fun q9 =>
(AJ v6 (getL q9.1 0) (.bool false)).bind fun v10 =>
retV [v10] q9.2
theorem MQ {lib : Lib} (hl : lib 57 = none) {x0 : Value} {s : St} {r : Value × St} (h : wire_formOf_4 (run Tryz.prog lib Ad) x0 s = some r) : run Tryz.prog lib Ad 57 [x0] s = some r :=
  At hl Tryz.func57 (Eq.trans (by kernel_rfl) h)
theorem MR : Aq Tryz.prog 57 = true:=by kernel_rfl
theorem KA {R : Aa} {xs : List Value} {s : St} : Ag Tryz.prog R (.func (.func 57) #[] #[]) xs s = R 57 xs s:=Ak MR
noncomputable def wire_whatever (R : Aa) (x0 : Value) (s : St) : Option (Value × St) :=
(lbox x0).bind fun v0 =>
retV [(.bool true)] s
theorem MS {lib : Lib} (hl : lib 58 = none) {x0 : Value} {s : St} {r : Value × St} (h : wire_whatever (run Tryz.prog lib Ad) x0 s = some r) : run Tryz.prog lib Ad 58 [x0] s = some r :=
  At hl Tryz.func58 (Eq.trans (by kernel_rfl) h)
theorem MT : Aq Tryz.prog 58 = true:=by kernel_rfl
theorem KB {R : Aa} {xs : List Value} {s : St} : Ag Tryz.prog R (.func (.func 58) #[] #[]) xs s = R 58 xs s:=Ak MT
noncomputable def wire_formOf_5 (R : Aa) (x0 : Value) (s : St) : Option (Value × St) :=
(lbox x0).bind fun v0 =>
(Ap false 1 (.pointer (some ⟨0,20,none⟩)) v0).bind fun v1 =>
(Ag Tryz.prog R (.func (.func 60) #[] #[]) [v1] s).bind fun r2 =>
(abin Tryz.prog .eql 32 (.tmp 5) (.const (.int .i64 0)) r2.1 (.int .i64 0)).bind fun v3 =>
retV [v3] r2.2
theorem MU {lib : Lib} (hl : lib 59 = none) {x0 : Value} {s : St} {r : Value × St} (h : wire_formOf_5 (run Tryz.prog lib Ad) x0 s = some r) : run Tryz.prog lib Ad 59 [x0] s = some r :=
  At hl Tryz.func59 (Eq.trans (by kernel_rfl) h)
theorem MV : Aq Tryz.prog 59 = true:=by kernel_rfl
theorem KC {R : Aa} {xs : List Value} {s : St} : Ag Tryz.prog R (.func (.func 59) #[] #[]) xs s = R 59 xs s:=Ak MV
noncomputable def CF.b0 (R : Aa) (T : List Value) (s : St) : Res :=
(abin Tryz.prog .lss 3 (.tmp 22) (.tmp 21) (getL T 3) (getL T 2)).bind fun v13 =>
Ax v13
 ((Az 2 (getL T 1) (getL T 3)).bind fun v14 =>
(Aj true 2 v14 s).bind fun v15 =>
(AO 2 lptr v15 (.agg #[(.string ⟨#[]⟩),(.int .i64 0)])).bind fun v16 =>
(Ap false 1 (.pointer (some ⟨0,1,none⟩)) v16).bind fun v17 =>
(abin Tryz.prog .lss 3 (.tmp 28) (.const (.int .i64 1)) v17 (.int .i64 1)).bind fun v18 =>
(Ai v18 false (some ([(.pointer (some ⟨0,1,none⟩))],s)) (some ([undef],s))).bind fun q19 =>
(Ai v18 false ((Ap false 1 (getL q19.1 0) v16).bind fun v20 =>
some ([v20],q19.2)) (some ([undef],q19.2))).bind fun q21 =>
(Ai v18 false ((abin Tryz.prog .gtr 3 (.tmp 32) (.const (.int .i64 4)) (getL q21.1 0) (.int .i64 4)).bind fun v22 =>
some ([v22],q21.2)) (some ([undef],q21.2))).bind fun q23 =>
(AJ v18 (.bool true) (getL q23.1 0)).bind fun v24 =>
(Ai v24 false (some ([(getL T 3)],q23.2)) (some ([undef],q23.2))).bind fun q25 =>
(Ai v24 false ((abin Tryz.prog .gtr 3 (.tmp 36) (.const (.int .i64 0)) (getL q25.1 0) (.int .i64 0)).bind fun v26 =>
some ([v26],q25.2)) (some ([undef],q25.2))).bind fun q27 =>
(Ai v24 false (some ([(getL q27.1 0)],q27.2)) (some ([undef],q27.2))).bind fun q28 =>
(Ai (getL q28.1 0) true (some ([lptr],q28.2)) (some ([undef],q28.2))).bind fun q29 =>
(Ai (getL q28.1 0) true ((Ap false 1 (getL q29.1 0) v16).bind fun v30 =>
some ([v30],q29.2)) (some ([undef],q29.2))).bind fun q31 =>
((Ai (getL q28.1 0) true ((Ag Tryz.prog R (.func (.func 133) #[] #[]) [(getL q31.1 0)] q31.2).bind fun r57 =>
some (r57.1,r57.2)) (some (undef,q31.2))).bind (ownR q31.2)).bind fun r32 =>
(Ai (getL q28.1 0) true ((abin Tryz.prog .neq 32 (.tmp 41) (.const (.int .i64 0)) r32.1 (.int .i64 0)).bind fun v33 =>
some ([v33],r32.2)) (some ([undef],r32.2))).bind fun q34 =>
(Ai (getL q28.1 0) true (some ([(getL q34.1 0)],q34.2)) (some ([undef],q34.2))).bind fun q35 =>
(Ai (getL q35.1 0) false (some ([(getL T 0)],q35.2)) (some ([undef],q35.2))).bind fun q36 =>
(Ai (getL q35.1 0) false (some ([(getL T 3)],q36.2)) (some ([undef],q36.2))).bind fun q37 =>
(Ai (getL q35.1 0) false ((abin Tryz.prog .sub 3 (.tmp 45) (.const (.int .i64 1)) (getL q37.1 0) (.int .i64 1)).bind fun v38 =>
some ([v38],q37.2)) (some ([undef],q37.2))).bind fun q39 =>
(Ai (getL q35.1 0) false ((Az 2 (getL q36.1 0) (getL q39.1 0)).bind fun v40 =>
some ([v40],q39.2)) (some ([undef],q39.2))).bind fun q41 =>
(Ai (getL q35.1 0) false ((Ac 0 (getL q41.1 0)).bind fun v42 =>
some ([v42],q41.2)) (some ([undef],q41.2))).bind fun q43 =>
((Ai (getL q35.1 0) false ((Aj false 1 (getL q43.1 0) q43.2).bind fun v56 =>
some (v56,q43.2)) (some (undef,q43.2))).bind (ownR q43.2)).bind fun r44 =>
(Ai (getL q35.1 0) false (some ([lptr],r44.2)) (some ([undef],r44.2))).bind fun q45 =>
(Ai (getL q35.1 0) false ((Ap false 1 (getL q45.1 0) v16).bind fun v46 =>
some ([v46],q45.2)) (some ([undef],q45.2))).bind fun q47 =>
(Ai (getL q35.1 0) false ((abin Tryz.prog .geq 9 (.tmp 49) (.tmp 51) r44.1 (getL q47.1 0)).bind fun v48 =>
some ([v48],q47.2)) (some ([undef],q47.2))).bind fun q49 =>
(Ai (getL q28.1 0) true ((AJ (getL q35.1 0) (.bool true) (getL q49.1 0)).bind fun v50 =>
some ([v50],q49.2)) (some ([undef],q49.2))).bind fun q51 =>
(Ai v24 false ((AJ (getL q28.1 0) (getL q51.1 0) (.bool false)).bind fun v52 =>
some ([v52],q51.2)) (some ([undef],q51.2))).bind fun q53 =>
(AJ v24 (.bool true) (getL q53.1 0)).bind fun v54 =>
Ax v54
 (some (.ret,[(.int .i64 170)],q53.2))
 ((abin Tryz.prog .add 3 (.tmp 22) (.const (.int .i64 1)) (getL T 3) (.int .i64 1)).bind fun v55 =>
some (.normal,[(getL T 0),(getL T 1),(getL T 2),v55],q53.2)))
 (some (.exit 0,[],s))
noncomputable def CF (R : Aa) (x0 : Value) (s : St) : Option (Value × St) :=
(AG (.slice 91) x0 s).bind fun v0 =>
(abin Tryz.prog .eql 3 (.tmp 6) (.const (.int .i64 0)) v0 (.int .i64 0)).bind fun v1 =>
(Ai v1 false ((AG (.slice 91) x0 s).bind fun v2 =>
(abin Tryz.prog .gtr 3 (.tmp 10) (.const (.int .i64 6)) v2 (.int .i64 6)).bind fun v3 =>
some ([v3],s)) (some ([undef],s))).bind fun q4 =>
(AJ v1 (.bool true) (getL q4.1 0)).bind fun v5 =>
(Ai v5 false ((Az 2 x0 (.int .i64 0)).bind fun v6 =>
(Ac 0 v6).bind fun v7 =>
(Aj false 1 v7 q4.2).bind fun v8 =>
(abin Tryz.prog .neq 9 (.tmp 17) (.const (.string ⟨#[]⟩)) v8 (.string ⟨#[]⟩)).bind fun v9 =>
some ([v9],q4.2)) (some ([undef],q4.2))).bind fun q10 =>
(AJ v5 (.bool true) (getL q10.1 0)).bind fun v11 =>
Ax v11
 (retV [(.int .i64 170)] q10.2)
 ((AG (.slice 91) x0 q10.2).bind fun v12 =>
(AS (CF.b0 R) [x0,x0,v12,(.int .i64 0)] q10.2).bind fun r58 =>
exV r58.1 [(0,retV [(.int .i64 0)] r58.2.2)]
 (retV [(getL r58.2.1 0)] r58.2.2))
theorem P5 {lib : Lib} (hl : lib 60 = none) {x0 : Value} {s : St} {r : Value × St} (h : CF (run Tryz.prog lib Ad) x0 s = some r) : run Tryz.prog lib Ad 60 [x0] s = some r :=
  At hl Tryz.func60 (Eq.trans (by kernel_rfl) h)
theorem Je : Aq Tryz.prog 60 = true:=by kernel_rfl
theorem MW {R : Aa} {xs : List Value} {s : St} : Ag Tryz.prog R (.func (.func 60) #[] #[]) xs s = R 60 xs s:=Ak Je
noncomputable def wire_formOf_6 (R : Aa) (x0 : Value) (s : St) : Option (Value × St) :=
(lbox x0).bind fun v0 =>
(Ap false 1 (.pointer (some ⟨0,5,none⟩)) v0).bind fun v1 =>
(Ag Tryz.prog R (.func (.func 54) #[] #[]) [v1] s).bind fun r2 =>
(Ai r2.1 true ((Ap true 2 (.pointer (some ⟨0,16,none⟩)) v0).bind fun v3 =>
(Ag Tryz.prog R (.func (.func 62) #[] #[]) [v3] r2.2).bind fun r4 =>
(abin Tryz.prog .eql 32 (.tmp 9) (.const (.int .i64 0)) r4.1 (.int .i64 0)).bind fun v5 =>
some ([v5],r4.2)) (some ([undef],r2.2))).bind fun q6 =>
(AJ r2.1 (getL q6.1 0) (.bool false)).bind fun v7 =>
retV [v7] q6.2
theorem MX {lib : Lib} (hl : lib 61 = none) {x0 : Value} {s : St} {r : Value × St} (h : wire_formOf_6 (run Tryz.prog lib Ad) x0 s = some r) : run Tryz.prog lib Ad 61 [x0] s = some r :=
  At hl Tryz.func61 (Eq.trans (by kernel_rfl) h)
theorem MY : Aq Tryz.prog 61 = true:=by kernel_rfl
theorem KD {R : Aa} {xs : List Value} {s : St} : Ag Tryz.prog R (.func (.func 61) #[] #[]) xs s = R 61 xs s:=Ak MY
noncomputable def Eh.j0 (R : Aa) (T : List Value) (s : St) : Option (Value × St) :=
Ax (getL T 0)
 (retV [(.int .i64 21)] s)
 (retV [(.int .i64 0)] s)
noncomputable def Eh (R : Aa) (x0 : Value) (s : St) : Option (Value × St) :=
(lbox x0).bind fun v0 =>
(Ap true 2 lptr v0).bind fun v1 =>
(((Ag Tryz.prog R (.func (.func 139) #[] #[]) [] s).bind fun r20 =>
some (r20.1,r20.2)).bind (ownR s)).bind fun r2 =>
(abin Tryz.prog .eql 24 (.tmp 4) (.tmp 5) v1 r2.1).bind fun v3 =>
Ax v3
 (retV [(.int .i64 0)] r2.2)
 ((Ap false 1 lptr v0).bind fun v5 =>
(AG .string v5 r2.2).bind fun v6 =>
(abin Tryz.prog .gtr 3 (.tmp 10) (.const (.int .i64 12)) v6 (.int .i64 12)).bind fun v7 =>
(Ai v7 false ((Ap false 1 (.pointer (some ⟨0,1,none⟩)) v0).bind fun v8 =>
(AG .string v8 r2.2).bind fun v9 =>
(abin Tryz.prog .gtr 3 (.tmp 15) (.const (.int .i64 12)) v9 (.int .i64 12)).bind fun v10 =>
some ([v10],r2.2)) (some ([undef],r2.2))).bind fun q11 =>
(AJ v7 (.bool true) (getL q11.1 0)).bind fun v12 =>
Ax v12
 (Dh (Eh.j0 R) [v12] q11.2)
 ((Ap false 1 (.pointer (some ⟨0,1,none⟩)) v0).bind fun v13 =>
(abin Tryz.prog .neq 9 (.tmp 19) (.const (.string ⟨#[]⟩)) v13 (.string ⟨#[]⟩)).bind fun v14 =>
(Ai v14 true ((Ap false 1 lptr v0).bind fun v15 =>
(Ap false 1 (.pointer (some ⟨0,1,none⟩)) v0).bind fun v16 =>
(abin Tryz.prog .geq 9 (.tmp 23) (.tmp 25) v15 v16).bind fun v17 =>
some ([v17],q11.2)) (some ([undef],q11.2))).bind fun q18 =>
(AJ v14 (getL q18.1 0) (.bool false)).bind fun v19 =>
Dh (Eh.j0 R) [v19] q18.2))
theorem RT {lib : Lib} (hl : lib 62 = none) {x0 : Value} {s : St} {r : Value × St} (h : Eh (run Tryz.prog lib Ad) x0 s = some r) : run Tryz.prog lib Ad 62 [x0] s = some r :=
  At hl Tryz.func62 (Eq.trans (by kernel_rfl) h)
theorem KE : Aq Tryz.prog 62 = true:=by kernel_rfl
theorem C6 {R : Aa} {xs : List Value} {s : St} : Ag Tryz.prog R (.func (.func 62) #[] #[]) xs s = R 62 xs s:=Ak KE
noncomputable def wire_formOf_7 (R : Aa) (x0 : Value) (s : St) : Option (Value × St) :=
(lbox x0).bind fun v0 =>
(Ap false 1 (.pointer (some ⟨0,1,none⟩)) v0).bind fun v1 =>
(Ap false 1 (.pointer (some ⟨0,2,none⟩)) v0).bind fun v2 =>
(abin Tryz.prog .neq 3 (.tmp 4) (.tmp 6) v1 v2).bind fun v3 =>
(Ai v3 true ((Ap false 1 (.pointer (some ⟨0,18,none⟩)) v0).bind fun v4 =>
(Ag Tryz.prog R (.func (.func 56) #[] #[]) [v4,(.int .i64 6)] s).bind fun r5 =>
some ([r5.1],r5.2)) (some ([undef],s))).bind fun q6 =>
(AJ v3 (getL q6.1 0) (.bool false)).bind fun v7 =>
(Ai v7 true ((Ap true 2 (.pointer (some ⟨0,16,none⟩)) v0).bind fun v8 =>
(Ag Tryz.prog R (.func (.func 62) #[] #[]) [v8] q6.2).bind fun r9 =>
(abin Tryz.prog .eql 32 (.tmp 16) (.const (.int .i64 0)) r9.1 (.int .i64 0)).bind fun v10 =>
some ([v10],r9.2)) (some ([undef],q6.2))).bind fun q11 =>
(AJ v7 (getL q11.1 0) (.bool false)).bind fun v12 =>
(Ai v12 true ((Ap false 1 (.pointer (some ⟨0,18,none⟩)) v0).bind fun v13 =>
(Ag Tryz.prog R (.func (.func 64) #[] #[]) [v13,(.func (.func 65) #[] #[])] q11.2).bind fun r14 =>
(aun .not r14.1).bind fun v15 =>
some ([v15],r14.2)) (some ([undef],q11.2))).bind fun q16 =>
(AJ v12 (getL q16.1 0) (.bool false)).bind fun v17 =>
retV [v17] q16.2
theorem MZ {lib : Lib} (hl : lib 63 = none) {x0 : Value} {s : St} {r : Value × St} (h : wire_formOf_7 (run Tryz.prog lib Ad) x0 s = some r) : run Tryz.prog lib Ad 63 [x0] s = some r :=
  At hl Tryz.func63 (Eq.trans (by kernel_rfl) h)
theorem M0 : Aq Tryz.prog 63 = true:=by kernel_rfl
theorem KF {R : Aa} {xs : List Value} {s : St} : Ag Tryz.prog R (.func (.func 63) #[] #[]) xs s = R 63 xs s:=Ak M0
noncomputable def slices_ContainsFunc_api_Op_api_Op (R : Aa) (x0 x1 : Value) (s : St) : Option (Value × St) :=
(Ag Tryz.prog R (.func (.func 140) #[] #[]) [x0,x1] s).bind fun r0 =>
(abin Tryz.prog .geq 3 (.tmp 7) (.const (.int .i64 0)) r0.1 (.int .i64 0)).bind fun v1 =>
retV [v1] r0.2
theorem Dr {lib : Lib} (hl : lib 64 = none) {x0 x1 : Value} {s : St} {r : Value × St} (h : slices_ContainsFunc_api_Op_api_Op (run Tryz.prog lib Ad) x0 x1 s = some r) : run Tryz.prog lib Ad 64 [x0,x1] s = some r :=
  At hl Tryz.func64 (Eq.trans (by kernel_rfl) h)
theorem Ds : Aq Tryz.prog 64 = true:=by kernel_rfl
theorem BU {R : Aa} {xs : List Value} {s : St} : Ag Tryz.prog R (.func (.func 64) #[] #[]) xs s = R 64 xs s:=Ak Ds
noncomputable def wire_formOf_7_1 (R : Aa) (x0 : Value) (s : St) : Option (Value × St) :=
(lbox x0).bind fun v0 =>
(Ap true 6 lptr v0).bind fun v1 =>
(Ag Tryz.prog R (.func (.func 66) #[] #[]) [v1] s).bind fun r2 =>
(aun .not r2.1).bind fun v3 =>
retV [v3] r2.2
theorem KG {lib : Lib} (hl : lib 65 = none) {x0 : Value} {s : St} {r : Value × St} (h : wire_formOf_7_1 (run Tryz.prog lib Ad) x0 s = some r) : run Tryz.prog lib Ad 65 [x0] s = some r :=
  At hl Tryz.func65 (Eq.trans (by kernel_rfl) h)
theorem KH : Aq Tryz.prog 65 = true:=by kernel_rfl
theorem IV {R : Aa} {xs : List Value} {s : St} : Ag Tryz.prog R (.func (.func 65) #[] #[]) xs s = R 65 xs s:=Ak KH
noncomputable def OC (R : Aa) (x0 : Value) (s : St) : Option (Value × St) :=
(lbox x0).bind fun v0 =>
(Ap false 1 lptr v0).bind fun v1 =>
(Ag Tryz.prog R (.func (.func 141) #[] #[]) [v1] s).bind fun r2 =>
(Al 0 r2.1).bind fun v3 =>
(Al 1 r2.1).bind fun v4 =>
(AO 6 lptr v3 (.agg #[(.bool false),(.bool false),(.bool false),(.bool false),(.bool false),.nilFunc])).bind fun v5 =>
(Ap false 1 (.pointer (some ⟨0,4,none⟩)) v5).bind fun v6 =>
retV [v6] r2.2
theorem Tu {lib : Lib} (hl : lib 66 = none) {x0 : Value} {s : St} {r : Value × St} (h : OC (run Tryz.prog lib Ad) x0 s = some r) : run Tryz.prog lib Ad 66 [x0] s = some r :=
  At hl Tryz.func66 (Eq.trans (by kernel_rfl) h)
theorem Mk : Aq Tryz.prog 66 = true:=by kernel_rfl
theorem P6 {R : Aa} {xs : List Value} {s : St} : Ag Tryz.prog R (.func (.func 66) #[] #[]) xs s = R 66 xs s:=Ak Mk
noncomputable def wire_formOf_8 (R : Aa) (x0 : Value) (s : St) : Option (Value × St) :=
(lbox x0).bind fun v0 =>
(Ap false 1 (.pointer (some ⟨0,1,none⟩)) v0).bind fun v1 =>
(Ap false 1 (.pointer (some ⟨0,2,none⟩)) v0).bind fun v2 =>
(abin Tryz.prog .neq 3 (.tmp 4) (.tmp 6) v1 v2).bind fun v3 =>
retV [v3] s
theorem M1 {lib : Lib} (hl : lib 67 = none) {x0 : Value} {s : St} {r : Value × St} (h : wire_formOf_8 (run Tryz.prog lib Ad) x0 s = some r) : run Tryz.prog lib Ad 67 [x0] s = some r :=
  At hl Tryz.func67 (Eq.trans (by kernel_rfl) h)
theorem M2 : Aq Tryz.prog 67 = true:=by kernel_rfl
theorem KI {R : Aa} {xs : List Value} {s : St} : Ag Tryz.prog R (.func (.func 67) #[] #[]) xs s = R 67 xs s:=Ak M2
noncomputable def wire_num (R : Aa) (x0 : Value) (s : St) : Option (Value × St) :=
(anew (Ao x0) s).bind fun r0 =>
(BF 142 [] [r0.1]).bind fun v1 =>
(BF 143 [] [r0.1]).bind fun v2 =>
(BF 145 [] [r0.1]).bind fun v3 =>
(AV Tryz.prog 58 [(0,v1),(1,v2),(2,v3)]).bind fun v4 =>
(AO 3 lptr v4 (.agg #[.nilFunc,.nilFunc,.nilFunc])).bind fun v5 =>
(Ap true 3 lptr v5).bind fun v6 =>
retV [v6] r0.2
theorem U1 {lib : Lib} (hl : lib 68 = none) {x0 : Value} {s : St} {r : Value × St} (h : wire_num (run Tryz.prog lib Ad) x0 s = some r) : run Tryz.prog lib Ad 68 [x0] s = some r :=
  At hl Tryz.func68 (Eq.trans (by kernel_rfl) h)
theorem U2 : Aq Tryz.prog 68 = true:=by kernel_rfl
theorem RU {R : Aa} {xs : List Value} {s : St} : Ag Tryz.prog R (.func (.func 68) #[] #[]) xs s = R 68 xs s:=Ak U2
noncomputable def wire_all_1 (R : Aa) (x0 : Value) (s : St) : Option (Value × St) :=
(Ah x0).bind fun v0 =>
(Ac 6 v0).bind fun v1 =>
retV [v1] s
theorem RV {lib : Lib} (hl : lib 69 = none) {x0 : Value} {s : St} {r : Value × St} (h : wire_all_1 (run Tryz.prog lib Ad) x0 s = some r) : run Tryz.prog lib Ad 69 [x0] s = some r :=
  At hl Tryz.func69 (Eq.trans (by kernel_rfl) h)
theorem RW : Aq Tryz.prog 69 = true:=by kernel_rfl
theorem OD {R : Aa} {xs : List Value} {s : St} : Ag Tryz.prog R (.func (.func 69) #[] #[]) xs s = R 69 xs s:=Ak RW
noncomputable def wire_all_2 (R : Aa) (x0 : Value) (s : St) : Option (Value × St) :=
(Ah x0).bind fun v0 =>
(Ac 7 v0).bind fun v1 =>
retV [v1] s
theorem RX {lib : Lib} (hl : lib 70 = none) {x0 : Value} {s : St} {r : Value × St} (h : wire_all_2 (run Tryz.prog lib Ad) x0 s = some r) : run Tryz.prog lib Ad 70 [x0] s = some r :=
  At hl Tryz.func70 (Eq.trans (by kernel_rfl) h)
theorem RY : Aq Tryz.prog 70 = true:=by kernel_rfl
theorem OE {R : Aa} {xs : List Value} {s : St} : Ag Tryz.prog R (.func (.func 70) #[] #[]) xs s = R 70 xs s:=Ak RY
noncomputable def wire_all_3 (R : Aa) (x0 : Value) (s : St) : Option (Value × St) :=
(Ah x0).bind fun v0 =>
(Ac 8 v0).bind fun v1 =>
retV [v1] s
theorem RZ {lib : Lib} (hl : lib 71 = none) {x0 : Value} {s : St} {r : Value × St} (h : wire_all_3 (run Tryz.prog lib Ad) x0 s = some r) : run Tryz.prog lib Ad 71 [x0] s = some r :=
  At hl Tryz.func71 (Eq.trans (by kernel_rfl) h)
theorem R0 : Aq Tryz.prog 71 = true:=by kernel_rfl
theorem OF {R : Aa} {xs : List Value} {s : St} : Ag Tryz.prog R (.func (.func 71) #[] #[]) xs s = R 71 xs s:=Ak R0
noncomputable def wire_all_4 (R : Aa) (x0 : Value) (s : St) : Option (Value × St) :=
(Ah x0).bind fun v0 =>
(Ac 9 v0).bind fun v1 =>
retV [v1] s
theorem R1 {lib : Lib} (hl : lib 72 = none) {x0 : Value} {s : St} {r : Value × St} (h : wire_all_4 (run Tryz.prog lib Ad) x0 s = some r) : run Tryz.prog lib Ad 72 [x0] s = some r :=
  At hl Tryz.func72 (Eq.trans (by kernel_rfl) h)
theorem R2 : Aq Tryz.prog 72 = true:=by kernel_rfl
theorem OG {R : Aa} {xs : List Value} {s : St} : Ag Tryz.prog R (.func (.func 72) #[] #[]) xs s = R 72 xs s:=Ak R2
noncomputable def wire_all_5 (R : Aa) (x0 : Value) (s : St) : Option (Value × St) :=
(Ah x0).bind fun v0 =>
(Ac 10 v0).bind fun v1 =>
retV [v1] s
theorem R3 {lib : Lib} (hl : lib 73 = none) {x0 : Value} {s : St} {r : Value × St} (h : wire_all_5 (run Tryz.prog lib Ad) x0 s = some r) : run Tryz.prog lib Ad 73 [x0] s = some r :=
  At hl Tryz.func73 (Eq.trans (by kernel_rfl) h)
theorem R4 : Aq Tryz.prog 73 = true:=by kernel_rfl
theorem OH {R : Aa} {xs : List Value} {s : St} : Ag Tryz.prog R (.func (.func 73) #[] #[]) xs s = R 73 xs s:=Ak R4
noncomputable def wire_all_6 (R : Aa) (x0 : Value) (s : St) : Option (Value × St) :=
(Ah x0).bind fun v0 =>
(Ac 11 v0).bind fun v1 =>
retV [v1] s
theorem R5 {lib : Lib} (hl : lib 74 = none) {x0 : Value} {s : St} {r : Value × St} (h : wire_all_6 (run Tryz.prog lib Ad) x0 s = some r) : run Tryz.prog lib Ad 74 [x0] s = some r :=
  At hl Tryz.func74 (Eq.trans (by kernel_rfl) h)
theorem R6 : Aq Tryz.prog 74 = true:=by kernel_rfl
theorem OI {R : Aa} {xs : List Value} {s : St} : Ag Tryz.prog R (.func (.func 74) #[] #[]) xs s = R 74 xs s:=Ak R6
noncomputable def wire_all_7 (R : Aa) (x0 : Value) (s : St) : Option (Value × St) :=
(Ah x0).bind fun v0 =>
(Ac 12 v0).bind fun v1 =>
retV [v1] s
theorem R7 {lib : Lib} (hl : lib 75 = none) {x0 : Value} {s : St} {r : Value × St} (h : wire_all_7 (run Tryz.prog lib Ad) x0 s = some r) : run Tryz.prog lib Ad 75 [x0] s = some r :=
  At hl Tryz.func75 (Eq.trans (by kernel_rfl) h)
theorem R8 : Aq Tryz.prog 75 = true:=by kernel_rfl
theorem OJ {R : Aa} {xs : List Value} {s : St} : Ag Tryz.prog R (.func (.func 75) #[] #[]) xs s = R 75 xs s:=Ak R8
noncomputable def wire_all_8 (R : Aa) (x0 : Value) (s : St) : Option (Value × St) :=
(Ah x0).bind fun v0 =>
(Ac 13 v0).bind fun v1 =>
retV [v1] s
theorem R9 {lib : Lib} (hl : lib 76 = none) {x0 : Value} {s : St} {r : Value × St} (h : wire_all_8 (run Tryz.prog lib Ad) x0 s = some r) : run Tryz.prog lib Ad 76 [x0] s = some r :=
  At hl Tryz.func76 (Eq.trans (by kernel_rfl) h)
theorem Sa : Aq Tryz.prog 76 = true:=by kernel_rfl
theorem OK {R : Aa} {xs : List Value} {s : St} : Ag Tryz.prog R (.func (.func 76) #[] #[]) xs s = R 76 xs s:=Ak Sa
noncomputable def wire_all_9 (R : Aa) (x0 : Value) (s : St) : Option (Value × St) :=
(Ah x0).bind fun v0 =>
(Ac 14 v0).bind fun v1 =>
retV [v1] s
theorem Sb {lib : Lib} (hl : lib 77 = none) {x0 : Value} {s : St} {r : Value × St} (h : wire_all_9 (run Tryz.prog lib Ad) x0 s = some r) : run Tryz.prog lib Ad 77 [x0] s = some r :=
  At hl Tryz.func77 (Eq.trans (by kernel_rfl) h)
theorem Sc : Aq Tryz.prog 77 = true:=by kernel_rfl
theorem OL {R : Aa} {xs : List Value} {s : St} : Ag Tryz.prog R (.func (.func 77) #[] #[]) xs s = R 77 xs s:=Ak Sc
noncomputable def wire_small (R : Aa) (x0 : Value) (s : St) : Option (Value × St) :=
(anew (Ao x0) s).bind fun r0 =>
(BF 146 [] [r0.1]).bind fun v1 =>
(BF 147 [] [r0.1]).bind fun v2 =>
(BF 148 [] [r0.1]).bind fun v3 =>
(AV Tryz.prog 58 [(0,v1),(1,v2),(2,v3)]).bind fun v4 =>
(AO 3 lptr v4 (.agg #[.nilFunc,.nilFunc,.nilFunc])).bind fun v5 =>
(Ap true 3 lptr v5).bind fun v6 =>
retV [v6] r0.2
theorem Sd {lib : Lib} (hl : lib 78 = none) {x0 : Value} {s : St} {r : Value × St} (h : wire_small (run Tryz.prog lib Ad) x0 s = some r) : run Tryz.prog lib Ad 78 [x0] s = some r :=
  At hl Tryz.func78 (Eq.trans (by kernel_rfl) h)
theorem Se : Aq Tryz.prog 78 = true:=by kernel_rfl
theorem OM {R : Aa} {xs : List Value} {s : St} : Ag Tryz.prog R (.func (.func 78) #[] #[]) xs s = R 78 xs s:=Ak Se
noncomputable def wire_all_10 (R : Aa) (x0 : Value) (s : St) : Option (Value × St) :=
(Ah x0).bind fun v0 =>
(Ac 4 v0).bind fun v1 =>
retV [v1] s
theorem P7 {lib : Lib} (hl : lib 79 = none) {x0 : Value} {s : St} {r : Value × St} (h : wire_all_10 (run Tryz.prog lib Ad) x0 s = some r) : run Tryz.prog lib Ad 79 [x0] s = some r :=
  At hl Tryz.func79 (Eq.trans (by kernel_rfl) h)
theorem P8 : Aq Tryz.prog 79 = true:=by kernel_rfl
theorem M3 {R : Aa} {xs : List Value} {s : St} : Ag Tryz.prog R (.func (.func 79) #[] #[]) xs s = R 79 xs s:=Ak P8
noncomputable def wire_all_11 (R : Aa) (x0 : Value) (s : St) : Option (Value × St) :=
(Ah x0).bind fun v0 =>
(Ac 5 v0).bind fun v1 =>
retV [v1] s
theorem P9 {lib : Lib} (hl : lib 80 = none) {x0 : Value} {s : St} {r : Value × St} (h : wire_all_11 (run Tryz.prog lib Ad) x0 s = some r) : run Tryz.prog lib Ad 80 [x0] s = some r :=
  At hl Tryz.func80 (Eq.trans (by kernel_rfl) h)
theorem Qa : Aq Tryz.prog 80 = true:=by kernel_rfl
theorem M4 {R : Aa} {xs : List Value} {s : St} : Ag Tryz.prog R (.func (.func 80) #[] #[]) xs s = R 80 xs s:=Ak Qa
noncomputable def ON (R : Aa) (x0 x1 : Value) (s : St) : Option (Value × St) :=
(Ah x1).bind fun v0 =>
(Ac 15 v0).bind fun v1 =>
(Aj false 1 v1 s).bind fun v2 =>
(Ag Tryz.prog R (.func (.func 82) #[] #[]) [x0,v2] s).bind fun r3 =>
retV [r3.1] r3.2
theorem Qb {lib : Lib} (hl : lib 81 = none) {x0 x1 : Value} {s : St} {r : Value × St} (h : ON (run Tryz.prog lib Ad) x0 x1 s = some r) : run Tryz.prog lib Ad 81 [x0,x1] s = some r :=
  At hl Tryz.func81 (Eq.trans (by kernel_rfl) h)
theorem Qc : Aq Tryz.prog 81 = true:=by kernel_rfl
theorem M5 {R : Aa} {xs : List Value} {s : St} : Ag Tryz.prog R (.func (.func 81) #[] #[]) xs s = R 81 xs s:=Ak Qc
noncomputable def OO (R : Aa) (x0 x1 : Value) (s : St) : Option (Value × St) :=
Ax x1
 ((As 1 [(.int .u8 0)] 1 [(0,(.int .u8 1))] s).bind fun r0 =>
(AD 1 1 x0 r0.1 r0.2).bind fun r1 =>
retV [r1.1] r1.2)
 ((As 1 [(.int .u8 0)] 1 [(0,(.int .u8 0))] s).bind fun r2 =>
(AD 1 1 x0 r2.1 r2.2).bind fun r3 =>
retV [r3.1] r3.2)
theorem Ml {lib : Lib} (hl : lib 82 = none) {x0 x1 : Value} {s : St} {r : Value × St} (h : OO (run Tryz.prog lib Ad) x0 x1 s = some r) : run Tryz.prog lib Ad 82 [x0,x1] s = some r :=
  At hl Tryz.func82 (Eq.trans (by kernel_rfl) h)
theorem Tv : Aq Tryz.prog 82 = true:=by kernel_rfl
theorem Jf {R : Aa} {xs : List Value} {s : St} : Ag Tryz.prog R (.func (.func 82) #[] #[]) xs s = R 82 xs s:=Ak Tv
noncomputable def OP (R : Aa) (x0 x1 : Value) (s : St) : Option (Value × St) :=
(Ag Tryz.prog R (.func (.func 84) #[] #[]) [x0] s).bind fun r0 =>
(Ah x1).bind fun v1 =>
(Ac 15 v1).bind fun v2 =>
(A4 1 v2 r0.1 r0.2).bind fun s3 =>
retV [] s3
theorem Qd {lib : Lib} (hl : lib 83 = none) {x0 x1 : Value} {s : St} {r : Value × St} (h : OP (run Tryz.prog lib Ad) x0 x1 s = some r) : run Tryz.prog lib Ad 83 [x0,x1] s = some r :=
  At hl Tryz.func83 (Eq.trans (by kernel_rfl) h)
theorem Qe : Aq Tryz.prog 83 = true:=by kernel_rfl
theorem M6 {R : Aa} {xs : List Value} {s : St} : Ag Tryz.prog R (.func (.func 83) #[] #[]) xs s = R 83 xs s:=Ak Qe
noncomputable def BA.j0 (R : Aa) (T : List Value) (s : St) : Option (Value × St) :=
(abin Tryz.prog .eql 3 (.tmp 10) (.const (.int .i64 1)) (getL T 0) (.int .i64 1)).bind fun v4 =>
retV [v4] s
noncomputable def BA (R : Aa) (x0 : Value) (s : St) : Option (Value × St) :=
(Ag Tryz.prog R (.func (.func 35) #[] #[]) [x0] s).bind fun r0 =>
(abin Tryz.prog .gtr 3 (.tmp 6) (.const (.int .i64 1)) r0.1 (.int .i64 1)).bind fun v2 =>
Ax v2
 ((Ag Tryz.prog R (.func (.func 36) #[] #[]) [x0,(.int .i64 11)] r0.2).bind fun r3 =>
Dh (BA.j0 R) [r0.1] r3.2)
 (Dh (BA.j0 R) [r0.1] r0.2)
theorem Fw {lib : Lib} (hl : lib 84 = none) {x0 : Value} {s : St} {r : Value × St} (h : BA (run Tryz.prog lib Ad) x0 s = some r) : run Tryz.prog lib Ad 84 [x0] s = some r :=
  At hl Tryz.func84 (Eq.trans (by kernel_rfl) h)
theorem JO : Aq Tryz.prog 84 = true:=by kernel_rfl
theorem Ez {R : Aa} {xs : List Value} {s : St} : Ag Tryz.prog R (.func (.func 84) #[] #[]) xs s = R 84 xs s:=Ak JO
noncomputable def wire_all_14 (R : Aa) (x0 : Value) (s : St) : Option (Value × St) :=
(Ah x0).bind fun v0 =>
(Ac 15 v0).bind fun v1 =>
(Aj false 1 v1 s).bind fun v2 =>
(aun .not v2).bind fun v3 =>
retV [v3] s
theorem Qf {lib : Lib} (hl : lib 85 = none) {x0 : Value} {s : St} {r : Value × St} (h : wire_all_14 (run Tryz.prog lib Ad) x0 s = some r) : run Tryz.prog lib Ad 85 [x0] s = some r :=
  At hl Tryz.func85 (Eq.trans (by kernel_rfl) h)
theorem Qg : Aq Tryz.prog 85 = true:=by kernel_rfl
theorem M7 {R : Aa} {xs : List Value} {s : St} : Ag Tryz.prog R (.func (.func 85) #[] #[]) xs s = R 85 xs s:=Ak Qg
noncomputable def OQ (R : Aa) (x0 x1 : Value) (s : St) : Option (Value × St) :=
(Ah x1).bind fun v0 =>
(Ac 16 v0).bind fun v1 =>
(Ac 0 v1).bind fun v2 =>
((Aj false 1 v2 (frzS s)).bind fun v13 =>
some (v13,(frzS s))).bind fun r3 =>
(Ah x1).bind fun v4 =>
(Ac 16 v4).bind fun v5 =>
(Ac 1 v5).bind fun v6 =>
((Aj false 1 v6 (frzS s)).bind fun v12 =>
some (v12,(frzS s))).bind fun r7 =>
(((As 1 [(.string ⟨#[]⟩)] 2 [(0,r3.1),(1,r7.1)] s).bind fun r11 =>
some (r11.1,r11.2)).bind (ownR s)).bind fun r8 =>
(((Ag Tryz.prog R (.func (.func 87) #[] #[]) [x0,r8.1] r8.2).bind fun r10 =>
some (r10.1,r10.2)).bind (ownR r8.2)).bind fun r9 =>
retV [r9.1] r9.2
theorem Qh {lib : Lib} (hl : lib 86 = none) {x0 x1 : Value} {s : St} {r : Value × St} (h : OQ (run Tryz.prog lib Ad) x0 x1 s = some r) : run Tryz.prog lib Ad 86 [x0,x1] s = some r :=
  At hl Tryz.func86 (Eq.trans (by kernel_rfl) h)
theorem Qi : Aq Tryz.prog 86 = true:=by kernel_rfl
theorem M8 {R : Aa} {xs : List Value} {s : St} : Ag Tryz.prog R (.func (.func 86) #[] #[]) xs s = R 86 xs s:=Ak Qi
noncomputable def Fx.b0 (R : Aa) (T : List Value) (s : St) : Res :=
(abin Tryz.prog .lss 3 (.tmp 9) (.tmp 8) (getL T 3) (getL T 2)).bind fun v1 =>
Ax v1
 ((Az 1 (getL T 1) (getL T 3)).bind fun v2 =>
(Aj false 1 v2 s).bind fun v3 =>
(Ag Tryz.prog R (.func (.func 149) #[] #[]) [v3] s).bind fun r4 =>
(AD 1 1 (getL T 0) r4.1 r4.2).bind fun r5 =>
(abin Tryz.prog .add 3 (.tmp 9) (.const (.int .i64 1)) (getL T 3) (.int .i64 1)).bind fun v6 =>
some (.normal,[r5.1,(getL T 1),(getL T 2),v6],r5.2))
 (some (.exit 0,[(getL T 0)],s))
noncomputable def Fx (R : Aa) (x0 x1 : Value) (s : St) : Option (Value × St) :=
(AG (.slice 9) x1 s).bind fun v0 =>
(AS (Fx.b0 R) [x0,x1,v0,(.int .i64 0)] s).bind fun r7 =>
exV r7.1 [(0,retV [(getL r7.2.1 0)] r7.2.2)]
 (none)
theorem Tw {lib : Lib} (hl : lib 87 = none) {x0 x1 : Value} {s : St} {r : Value × St} (h : Fx (run Tryz.prog lib Ad) x0 x1 s = some r) : run Tryz.prog lib Ad 87 [x0,x1] s = some r :=
  At hl Tryz.func87 (Eq.trans (by kernel_rfl) h)
theorem Tx : Aq Tryz.prog 87 = true:=by kernel_rfl
theorem Dt {R : Aa} {xs : List Value} {s : St} : Ag Tryz.prog R (.func (.func 87) #[] #[]) xs s = R 87 xs s:=Ak Tx
noncomputable def OR (R : Aa) (x0 x1 : Value) (s : St) : Option (Value × St) :=
(Ah x1).bind fun v0 =>
(Ac 16 v0).bind fun v1 =>
(Ac 0 v1).bind fun v2 =>
(Ah x1).bind fun v3 =>
(Ac 16 v3).bind fun v4 =>
(Ac 1 v4).bind fun v5 =>
(((As 1 [(.pointer none)] 2 [(0,v2),(1,v5)] s).bind fun r9 =>
some (r9.1,r9.2)).bind (ownR s)).bind fun r6 =>
(((Ag Tryz.prog R (.func (.func 89) #[] #[]) [x0,r6.1] r6.2).bind fun r8 =>
some (r8.1,r8.2)).bind (ownR r6.2)).bind fun r7 =>
retV [] r7.2
theorem Qj {lib : Lib} (hl : lib 88 = none) {x0 x1 : Value} {s : St} {r : Value × St} (h : OR (run Tryz.prog lib Ad) x0 x1 s = some r) : run Tryz.prog lib Ad 88 [x0,x1] s = some r :=
  At hl Tryz.func88 (Eq.trans (by kernel_rfl) h)
theorem Qk : Aq Tryz.prog 88 = true:=by kernel_rfl
theorem M9 {R : Aa} {xs : List Value} {s : St} : Ag Tryz.prog R (.func (.func 88) #[] #[]) xs s = R 88 xs s:=Ak Qk
noncomputable def AH.j0 (R : Aa) (T : List Value) (s : St) : Res :=
(abin Tryz.prog .neq 32 (.tmp 31) (.const (.int .i64 0)) (getL T 4) (.int .i64 0)).bind fun v17 =>
Ax v17
 ((Ag Tryz.prog R (.func (.func 36) #[] #[]) [(getL T 0),(getL T 4)] s).bind fun r18 =>
some (.ret,[],r18.2))
 ((Ah (getL T 0)).bind fun v19 =>
(Ac 0 v19).bind fun v20 =>
(((Aj false 1 v20 s).bind fun v31 =>
some (v31,s)).bind (ownR s)).bind fun r21 =>
(Bn 1 r21.1 (some (getL T 3)) none none).bind fun v22 =>
(Ah (getL T 1)).bind fun v23 =>
(((A4 1 v23 (getL T 2) r21.2).bind fun s30 =>
some (undef,s30)).bind (ownR r21.2)).bind fun r24 =>
(Ah (getL T 0)).bind fun v25 =>
(Ac 0 v25).bind fun v26 =>
(((A4 1 v26 v22 r24.2).bind fun s29 =>
some (undef,s29)).bind (ownR r24.2)).bind fun r27 =>
(abin Tryz.prog .add 3 (.tmp 11) (.const (.int .i64 1)) (getL T 7) (.int .i64 1)).bind fun v28 =>
some (.normal,[(getL T 0),(getL T 5),(getL T 6),v28],r27.2))
noncomputable def AH.b0 (R : Aa) (T : List Value) (s : St) : Res :=
(abin Tryz.prog .lss 3 (.tmp 11) (.tmp 10) (getL T 3) (getL T 2)).bind fun v1 =>
Ax v1
 ((Az 1 (getL T 1) (getL T 3)).bind fun v2 =>
(Aj false 1 v2 s).bind fun v3 =>
(Ah (getL T 0)).bind fun v4 =>
(Ac 1 v4).bind fun v5 =>
(Aj false 1 v5 s).bind fun v6 =>
(abin Tryz.prog .neq 32 (.tmp 18) (.const (.int .i64 0)) v6 (.int .i64 0)).bind fun v7 =>
Ax v7
 (some (.ret,[],s))
 ((Ah (getL T 0)).bind fun v8 =>
(Ac 0 v8).bind fun v9 =>
(Aj false 1 v9 s).bind fun v10 =>
(Ag Tryz.prog R (.func (.func 150) #[] #[]) [v10,(.int .i64 255)] s).bind fun r11 =>
(Al 0 r11.1).bind fun v12 =>
(Al 1 r11.1).bind fun v13 =>
(Al 2 r11.1).bind fun v14 =>
(abin Tryz.prog .eql 32 (.tmp 29) (.const (.int .i64 2)) v14 (.int .i64 2)).bind fun v16 =>
Ax v16
 (Dh (AH.j0 R) [(getL T 0),v3,v12,v13,(.int .i64 11),(getL T 1),(getL T 2),(getL T 3)] r11.2)
 (Dh (AH.j0 R) [(getL T 0),v3,v12,v13,v14,(getL T 1),(getL T 2),(getL T 3)] r11.2)))
 (some (.exit 0,[],s))
noncomputable def AH (R : Aa) (x0 x1 : Value) (s : St) : Option (Value × St) :=
(AG (.slice 108) x1 s).bind fun v0 =>
(AS (AH.b0 R) [x0,x1,v0,(.int .i64 0)] s).bind fun r32 =>
exV r32.1 [(0,retV [] r32.2.2)]
 (retV [] r32.2.2)
theorem IW {lib : Lib} (hl : lib 89 = none) {x0 x1 : Value} {s : St} {r : Value × St} (h : AH (run Tryz.prog lib Ad) x0 x1 s = some r) : run Tryz.prog lib Ad 89 [x0,x1] s = some r :=
  At hl Tryz.func89 (Eq.trans (by kernel_rfl) h)
theorem IX : Aq Tryz.prog 89 = true:=by kernel_rfl
theorem BD {R : Aa} {xs : List Value} {s : St} : Ag Tryz.prog R (.func (.func 89) #[] #[]) xs s = R 89 xs s:=Ak IX
noncomputable def wire_all_17 (R : Aa) (x0 : Value) (s : St) : Option (Value × St) :=
(Ah x0).bind fun v0 =>
(Ac 16 v0).bind fun v1 =>
(Aj true 2 v1 s).bind fun v2 =>
(abin Tryz.prog .eql 24 (.tmp 6) (.tmp 7) v2 (.agg #[(.string ⟨#[]⟩),(.string ⟨#[]⟩)])).bind fun v3 =>
retV [v3] s
theorem Ql {lib : Lib} (hl : lib 90 = none) {x0 : Value} {s : St} {r : Value × St} (h : wire_all_17 (run Tryz.prog lib Ad) x0 s = some r) : run Tryz.prog lib Ad 90 [x0] s = some r :=
  At hl Tryz.func90 (Eq.trans (by kernel_rfl) h)
theorem Qm : Aq Tryz.prog 90 = true:=by kernel_rfl
theorem Na {R : Aa} {xs : List Value} {s : St} : Ag Tryz.prog R (.func (.func 90) #[] #[]) xs s = R 90 xs s:=Ak Qm
noncomputable def wire_list_api_Op (R : Aa) (x0 x1 x2 : Value) (s : St) : Option (Value × St) :=
(anew (Ao x0) s).bind fun r0 =>
(anew (Ao x1) r0.2).bind fun r1 =>
(anew (Ao x2) r1.2).bind fun r2 =>
(BF 151 [] [r0.1,r1.1]).bind fun v3 =>
(BF 152 [] [r0.1,r2.1]).bind fun v4 =>
(BF 154 [] [r0.1]).bind fun v5 =>
(AV Tryz.prog 58 [(0,v3),(1,v4),(2,v5)]).bind fun v6 =>
(AO 3 lptr v6 (.agg #[.nilFunc,.nilFunc,.nilFunc])).bind fun v7 =>
(Ap true 3 lptr v7).bind fun v8 =>
retV [v8] r2.2
theorem JP {lib : Lib} (hl : lib 91 = none) {x0 x1 x2 : Value} {s : St} {r : Value × St} (h : wire_list_api_Op (run Tryz.prog lib Ad) x0 x1 x2 s = some r) : run Tryz.prog lib Ad 91 [x0,x1,x2] s = some r :=
  At hl Tryz.func91 (Eq.trans (by kernel_rfl) h)
theorem JQ : Aq Tryz.prog 91 = true:=by kernel_rfl
theorem H8 {R : Aa} {xs : List Value} {s : St} : Ag Tryz.prog R (.func (.func 91) #[] #[]) xs s = R 91 xs s:=Ak JQ
noncomputable def wire_all_18 (R : Aa) (x0 : Value) (s : St) : Option (Value × St) :=
(Ah x0).bind fun v0 =>
(Ac 18 v0).bind fun v1 =>
retV [v1] s
theorem Qn {lib : Lib} (hl : lib 92 = none) {x0 : Value} {s : St} {r : Value × St} (h : wire_all_18 (run Tryz.prog lib Ad) x0 s = some r) : run Tryz.prog lib Ad 92 [x0] s = some r :=
  At hl Tryz.func92 (Eq.trans (by kernel_rfl) h)
theorem Qo : Aq Tryz.prog 92 = true:=by kernel_rfl
theorem Nb {R : Aa} {xs : List Value} {s : St} : Ag Tryz.prog R (.func (.func 92) #[] #[]) xs s = R 92 xs s:=Ak Qo
noncomputable def Mm (R : Aa) (x0 x1 : Value) (s : St) : Option (Value × St) :=
(lbox x1).bind fun v0 =>
((Ap false 1 lptr v0).bind fun v1 =>
(AM .u8 v1).bind fun v2 =>
(As 1 [(.int .u8 0)] 1 [(0,v2)] s).bind fun r3 =>
(AD 1 1 x0 r3.1 r3.2).bind fun r4 =>
(Ap false 1 (.pointer (some ⟨0,1,none⟩)) v0).bind fun v5 =>
(Ap false 1 (.pointer (some ⟨0,2,none⟩)) v0).bind fun v6 =>
(Ap false 1 (.pointer (some ⟨0,3,none⟩)) v0).bind fun v7 =>
(Ap false 1 (.pointer (some ⟨0,4,none⟩)) v0).bind fun v8 =>
(As 1 [(.string ⟨#[]⟩)] 4 [(0,v5),(1,v6),(2,v7),(3,v8)] r4.2).bind fun r9 =>
(Ag Tryz.prog R (.func (.func 87) #[] #[]) [r4.1,r9.1] r9.2).bind fun r10 =>
(Ap false 1 (.pointer (some ⟨0,5,none⟩)) v0).bind fun v11 =>
(AM .u8 v11).bind fun v12 =>
(As 1 [(.int .u8 0)] 1 [(0,v12)] r10.2).bind fun r13 =>
(AD 1 1 r10.1 r13.1 r13.2).bind fun r14 =>
some [x0,r3.1,r4.1,r9.1]).bind fun q15 =>
(Ap false 1 lptr v0).bind fun v16 =>
(AM .u8 v16).bind fun v17 =>
(((As 1 [(.int .u8 0)] 1 [(0,v17)] (⟨frzK [] 0 (s).heap⟩ : St)).bind fun r35 =>
some (r35.1,r35.2)).bind (Bz [] s)).bind fun r18 =>
(((AD 1 1 x0 r18.1 (⟨Er (BN [(getL q15 0),(getL q15 1)]) 0 (r18.2).heap⟩ : St)).bind fun r34 =>
some (r34.1,r34.2)).bind (appR (BN [(getL q15 0),(getL q15 1)]) [] r18.2)).bind fun r19 =>
(Ap false 1 (.pointer (some ⟨0,1,none⟩)) v0).bind fun v20 =>
(Ap false 1 (.pointer (some ⟨0,2,none⟩)) v0).bind fun v21 =>
(Ap false 1 (.pointer (some ⟨0,3,none⟩)) v0).bind fun v22 =>
(Ap false 1 (.pointer (some ⟨0,4,none⟩)) v0).bind fun v23 =>
(((As 1 [(.string ⟨#[]⟩)] 4 [(0,v20),(1,v21),(2,v22),(3,v23)] (⟨frzK ((BN [(getL q15 0),(getL q15 1)]) ++ []) 0 (r19.2).heap⟩ : St)).bind fun r33 =>
some (r33.1,r33.2)).bind (Bz ((BN [(getL q15 0),(getL q15 1)]) ++ []) r19.2)).bind fun r24 =>
(((Ag Tryz.prog R (.func (.func 87) #[] #[]) [r19.1,r24.1] (⟨Er (BN [(getL q15 2),(getL q15 3)]) 0 (r24.2).heap⟩ : St)).bind fun r32 =>
some (r32.1,r32.2)).bind (appR (BN [(getL q15 2),(getL q15 3)]) [] r24.2)).bind fun r25 =>
(Ap false 1 (.pointer (some ⟨0,5,none⟩)) v0).bind fun v26 =>
(AM .u8 v26).bind fun v27 =>
(((As 1 [(.int .u8 0)] 1 [(0,v27)] (⟨frzK ((BN [(getL q15 0),(getL q15 1)]) ++ ((BN [(getL q15 2),(getL q15 3)]) ++ [])) 0 (r25.2).heap⟩ : St)).bind fun r31 =>
some (r31.1,r31.2)).bind (Bz ((BN [(getL q15 0),(getL q15 1)]) ++ ((BN [(getL q15 2),(getL q15 3)]) ++ [])) r25.2)).bind fun r28 =>
(((AD 1 1 r25.1 r28.1 r28.2).bind fun r30 =>
some (r30.1,r30.2)).bind (ownR r28.2)).bind fun r29 =>
retV [r29.1] r29.2
theorem OS {lib : Lib} (hl : lib 93 = none) {x0 x1 : Value} {s : St} {r : Value × St} (h : Mm (run Tryz.prog lib Ad) x0 x1 s = some r) : run Tryz.prog lib Ad 93 [x0,x1] s = some r :=
  At hl Tryz.func93 (Eq.trans (by kernel_rfl) h)
theorem OT : Aq Tryz.prog 93 = true:=by kernel_rfl
theorem Lw {R : Aa} {xs : List Value} {s : St} : Ag Tryz.prog R (.func (.func 93) #[] #[]) xs s = R 93 xs s:=Ak OT
noncomputable def Jg (R : Aa) (x0 : Value) (s : St) : Option (Value × St) :=
(Ag Tryz.prog R (.func (.func 35) #[] #[]) [x0] s).bind fun r0 =>
(AV Tryz.prog 69 [(0,r0.1)]).bind fun v1 =>
(anew [(.int .i64 0),(.string ⟨#[]⟩),(.string ⟨#[]⟩),(.string ⟨#[]⟩),(.string ⟨#[]⟩),(.int .i64 0)] r0.2).bind fun r2 =>
(A4 6 r2.1 v1 r2.2).bind fun s3 =>
(Ac 1 r2.1).bind fun v4 =>
(Ac 2 r2.1).bind fun v5 =>
(Ac 3 r2.1).bind fun v6 =>
(Ac 4 r2.1).bind fun v7 =>
(As 1 [(.pointer none)] 4 [(0,v4),(1,v5),(2,v6),(3,v7)] s3).bind fun r8 =>
(Ag Tryz.prog R (.func (.func 89) #[] #[]) [x0,r8.1] r8.2).bind fun r9 =>
(Ag Tryz.prog R (.func (.func 35) #[] #[]) [x0] r9.2).bind fun r10 =>
(Ac 5 r2.1).bind fun v11 =>
(A4 1 v11 r10.1 r10.2).bind fun s12 =>
(Aj true 6 r2.1 s12).bind fun v13 =>
(AO 6 lptr v13 (.agg #[(.int .i64 0),(.string ⟨#[]⟩),(.string ⟨#[]⟩),(.string ⟨#[]⟩),(.string ⟨#[]⟩),(.int .i64 0)])).bind fun v14 =>
(Ap true 6 lptr v14).bind fun v15 =>
retV [v15] s12
theorem Lx {lib : Lib} (hl : lib 94 = none) {x0 : Value} {s : St} {r : Value × St} (h : Jg (run Tryz.prog lib Ad) x0 s = some r) : run Tryz.prog lib Ad 94 [x0] s = some r :=
  At hl Tryz.func94 (Eq.trans (by kernel_rfl) h)
theorem Ly : Aq Tryz.prog 94 = true:=by kernel_rfl
theorem JR {R : Aa} {xs : List Value} {s : St} : Ag Tryz.prog R (.func (.func 94) #[] #[]) xs s = R 94 xs s:=Ak Ly
noncomputable def wire_list_api_Result (R : Aa) (x0 x1 x2 : Value) (s : St) : Option (Value × St) :=
(anew (Ao x0) s).bind fun r0 =>
(anew (Ao x1) r0.2).bind fun r1 =>
(anew (Ao x2) r1.2).bind fun r2 =>
(BF 155 [] [r0.1,r1.1]).bind fun v3 =>
(BF 156 [] [r0.1,r2.1]).bind fun v4 =>
(BF 157 [] [r0.1]).bind fun v5 =>
(AV Tryz.prog 58 [(0,v3),(1,v4),(2,v5)]).bind fun v6 =>
(AO 3 lptr v6 (.agg #[.nilFunc,.nilFunc,.nilFunc])).bind fun v7 =>
(Ap true 3 lptr v7).bind fun v8 =>
retV [v8] r2.2
theorem Hb {lib : Lib} (hl : lib 95 = none) {x0 x1 x2 : Value} {s : St} {r : Value × St} (h : wire_list_api_Result (run Tryz.prog lib Ad) x0 x1 x2 s = some r) : run Tryz.prog lib Ad 95 [x0,x1,x2] s = some r :=
  At hl Tryz.func95 (Eq.trans (by kernel_rfl) h)
theorem Hc : Aq Tryz.prog 95 = true:=by kernel_rfl
theorem Ga {R : Aa} {xs : List Value} {s : St} : Ag Tryz.prog R (.func (.func 95) #[] #[]) xs s = R 95 xs s:=Ak Hc
noncomputable def wire_all_19 (R : Aa) (x0 : Value) (s : St) : Option (Value × St) :=
(Ah x0).bind fun v0 =>
(Ac 19 v0).bind fun v1 =>
retV [v1] s
theorem Qp {lib : Lib} (hl : lib 96 = none) {x0 : Value} {s : St} {r : Value × St} (h : wire_all_19 (run Tryz.prog lib Ad) x0 s = some r) : run Tryz.prog lib Ad 96 [x0] s = some r :=
  At hl Tryz.func96 (Eq.trans (by kernel_rfl) h)
theorem Qq : Aq Tryz.prog 96 = true:=by kernel_rfl
theorem Nc {R : Aa} {xs : List Value} {s : St} : Ag Tryz.prog R (.func (.func 96) #[] #[]) xs s = R 96 xs s:=Ak Qq
noncomputable def BV.b0 (R : Aa) (T : List Value) (s : St) : Res :=
(abin Tryz.prog .lss 3 (.tmp 24) (.tmp 23) (getL T 3) (getL T 2)).bind fun v24 =>
Ax v24
 ((Az 2 (getL T 1) (getL T 3)).bind fun v25 =>
(Aj true 2 v25 s).bind fun v26 =>
(AO 2 lptr v26 (.agg #[(.string ⟨#[]⟩),(.string ⟨#[]⟩)])).bind fun v27 =>
(Ap false 1 lptr v27).bind fun v28 =>
(Ap false 1 (.pointer (some ⟨0,1,none⟩)) v27).bind fun v29 =>
(As 1 [(.string ⟨#[]⟩)] 2 [(0,v28),(1,v29)] s).bind fun r30 =>
(Ag Tryz.prog R (.func (.func 87) #[] #[]) [(getL T 0),r30.1] r30.2).bind fun r31 =>
(abin Tryz.prog .add 3 (.tmp 24) (.const (.int .i64 1)) (getL T 3) (.int .i64 1)).bind fun v32 =>
some (.normal,[r31.1,(getL T 1),(getL T 2),v32],r31.2))
 (some (.exit 0,[(getL T 0)],s))
noncomputable def BV (R : Aa) (x0 x1 : Value) (s : St) : Option (Value × St) :=
(lbox x1).bind fun v0 =>
((Ap false 1 lptr v0).bind fun v1 =>
(Ag Tryz.prog R (.func (.func 82) #[] #[]) [x0,v1] s).bind fun r2 =>
(Ap false 1 (.pointer (some ⟨0,1,none⟩)) v0).bind fun v3 =>
(As 1 [(.string ⟨#[]⟩)] 1 [(0,v3)] r2.2).bind fun r4 =>
(Ag Tryz.prog R (.func (.func 87) #[] #[]) [r2.1,r4.1] r4.2).bind fun r5 =>
(Ap false 1 (.pointer (some ⟨0,2,none⟩)) v0).bind fun v6 =>
(AG (.slice 89) v6 r5.2).bind fun v7 =>
(AM .u64 v7).bind fun v8 =>
(Ag Tryz.prog R (.func (.func 45) #[] #[]) [v8] r5.2).bind fun r9 =>
(AD 1 1 r5.1 r9.1 r9.2).bind fun r10 =>
some [x0,v1,r2.1,r4.1]).bind fun q11 =>
(Ap false 1 lptr v0).bind fun v12 =>
(((Ag Tryz.prog R (.func (.func 82) #[] #[]) [x0,v12] (⟨Er (BN [(getL q11 0),(getL q11 1)]) 0 (s).heap⟩ : St)).bind fun r39 =>
some (r39.1,r39.2)).bind (appR (BN [(getL q11 0),(getL q11 1)]) [] s)).bind fun r13 =>
(Ap false 1 (.pointer (some ⟨0,1,none⟩)) v0).bind fun v14 =>
(((As 1 [(.string ⟨#[]⟩)] 1 [(0,v14)] (⟨frzK ((BN [(getL q11 0),(getL q11 1)]) ++ []) 0 (r13.2).heap⟩ : St)).bind fun r38 =>
some (r38.1,r38.2)).bind (Bz ((BN [(getL q11 0),(getL q11 1)]) ++ []) r13.2)).bind fun r15 =>
(((Ag Tryz.prog R (.func (.func 87) #[] #[]) [r13.1,r15.1] (⟨Er (BN [(getL q11 2),(getL q11 3)]) 0 (r15.2).heap⟩ : St)).bind fun r37 =>
some (r37.1,r37.2)).bind (appR (BN [(getL q11 2),(getL q11 3)]) [] r15.2)).bind fun r16 =>
(Ap false 1 (.pointer (some ⟨0,2,none⟩)) v0).bind fun v17 =>
(((AG (.slice 89) v17 (⟨frzK ((BN [(getL q11 0),(getL q11 1)]) ++ ((BN [(getL q11 2),(getL q11 3)]) ++ [])) 0 (r16.2).heap⟩ : St)).bind fun v36 =>
some (v36,(⟨frzK ((BN [(getL q11 0),(getL q11 1)]) ++ ((BN [(getL q11 2),(getL q11 3)]) ++ [])) 0 (r16.2).heap⟩ : St))).bind (Bz ((BN [(getL q11 0),(getL q11 1)]) ++ ((BN [(getL q11 2),(getL q11 3)]) ++ [])) r16.2)).bind fun r18 =>
(AM .u64 r18.1).bind fun v19 =>
(((Ag Tryz.prog R (.func (.func 45) #[] #[]) [v19] r18.2).bind fun r35 =>
some (r35.1,r35.2)).bind (ownR r18.2)).bind fun r20 =>
(((AD 1 1 r16.1 r20.1 r20.2).bind fun r34 =>
some (r34.1,r34.2)).bind (ownR r20.2)).bind fun r21 =>
(Ap false 1 (.pointer (some ⟨0,2,none⟩)) v0).bind fun v22 =>
(AG (.slice 89) v22 r21.2).bind fun v23 =>
(AS (BV.b0 R) [r21.1,v22,v23,(.int .i64 0)] r21.2).bind fun r33 =>
exV r33.1 [(0,retV [(getL r33.2.1 0)] r33.2.2)]
 (none)
theorem JS {lib : Lib} (hl : lib 97 = none) {x0 x1 : Value} {s : St} {r : Value × St} (h : BV (run Tryz.prog lib Ad) x0 x1 s = some r) : run Tryz.prog lib Ad 97 [x0,x1] s = some r :=
  At hl Tryz.func97 (Eq.trans (by kernel_rfl) h)
theorem JT : Aq Tryz.prog 97 = true:=by kernel_rfl
theorem H9 {R : Aa} {xs : List Value} {s : St} : Ag Tryz.prog R (.func (.func 97) #[] #[]) xs s = R 97 xs s:=Ak JT
noncomputable def Bl.b0 (R : Aa) (T : List Value) (s : St) : Res :=
(abin Tryz.prog .gtr 3 (.tmp 15) (.const (.int .i64 0)) (getL T 3) (.int .i64 0)).bind fun v8 =>
(Ai v8 true ((Ah (getL T 0)).bind fun v9 =>
(Ac 1 v9).bind fun v10 =>
(Aj false 1 v10 s).bind fun v11 =>
(abin Tryz.prog .eql 32 (.tmp 21) (.const (.int .i64 0)) v11 (.int .i64 0)).bind fun v12 =>
some ([v12],s)) (some ([undef],s))).bind fun q13 =>
(AJ v8 (getL q13.1 0) (.bool false)).bind fun v14 =>
Ax v14
 ((anew [(.string ⟨#[]⟩),(.string ⟨#[]⟩)] q13.2).bind fun r15 =>
(Ac 0 r15.1).bind fun v16 =>
(Ac 1 r15.1).bind fun v17 =>
(As 1 [(.pointer none)] 2 [(0,v16),(1,v17)] r15.2).bind fun r18 =>
(Ag Tryz.prog R (.func (.func 89) #[] #[]) [(getL T 0),r18.1] r18.2).bind fun r19 =>
(Ac 2 (getL T 2)).bind fun v20 =>
(Aj false 1 v20 r19.2).bind fun v21 =>
(Aj true 2 r15.1 r19.2).bind fun v22 =>
(As 2 [(.string ⟨#[]⟩),(.string ⟨#[]⟩)] 1 [(0,v22)] r19.2).bind fun r23 =>
(AD 2 32 v21 r23.1 r23.2).bind fun r24 =>
(Ac 2 (getL T 2)).bind fun v25 =>
(A4 1 v25 r24.1 r24.2).bind fun s26 =>
(abin Tryz.prog .sub 3 (.tmp 24) (.const (.int .i64 1)) (getL T 3) (.int .i64 1)).bind fun v27 =>
some (.normal,[(getL T 0),(getL T 1),(getL T 2),v27,(getL T 4)],s26))
 (some (.exit 0,[(getL T 1),(getL T 2),(getL T 4)],q13.2))
noncomputable def Bl (R : Aa) (x0 : Value) (s : St) : Option (Value × St) :=
(Ag Tryz.prog R (.func (.func 84) #[] #[]) [x0] s).bind fun r0 =>
(AV Tryz.prog 87 [(0,r0.1)]).bind fun v1 =>
(anew [(.bool false),(.string ⟨#[]⟩),(.slice none 0 0)] r0.2).bind fun r2 =>
(A4 3 r2.1 v1 r2.2).bind fun s3 =>
(Ac 1 r2.1).bind fun v4 =>
(As 1 [(.pointer none)] 1 [(0,v4)] s3).bind fun r5 =>
(Ag Tryz.prog R (.func (.func 89) #[] #[]) [x0,r5.1] r5.2).bind fun r6 =>
(Ag Tryz.prog R (.func (.func 153) #[] #[]) [x0] r6.2).bind fun r7 =>
(AS (Bl.b0 R) [x0,lptr,r2.1,r7.1,(.agg #[(.bool false),(.string ⟨#[]⟩),(.slice none 0 0)])] r7.2).bind fun r28 =>
exV r28.1 [(0,(Aj true 3 (getL r28.2.1 1) r28.2.2).bind fun v29 =>
(AO 3 (getL r28.2.1 0) v29 (getL r28.2.1 2)).bind fun v30 =>
(Ap true 3 (getL r28.2.1 0) v30).bind fun v31 =>
retV [v31] r28.2.2)]
 (none)
theorem Ia {lib : Lib} (hl : lib 98 = none) {x0 : Value} {s : St} {r : Value × St} (h : Bl (run Tryz.prog lib Ad) x0 s = some r) : run Tryz.prog lib Ad 98 [x0] s = some r :=
  At hl Tryz.func98 (Eq.trans (by kernel_rfl) h)
theorem Ib : Aq Tryz.prog 98 = true:=by kernel_rfl
theorem Hd {R : Aa} {xs : List Value} {s : St} : Ag Tryz.prog R (.func (.func 98) #[] #[]) xs s = R 98 xs s:=Ak Ib
noncomputable def wire_list_api_Owner (R : Aa) (x0 x1 x2 : Value) (s : St) : Option (Value × St) :=
(anew (Ao x0) s).bind fun r0 =>
(anew (Ao x1) r0.2).bind fun r1 =>
(anew (Ao x2) r1.2).bind fun r2 =>
(BF 158 [] [r0.1,r1.1]).bind fun v3 =>
(BF 159 [] [r0.1,r2.1]).bind fun v4 =>
(BF 160 [] [r0.1]).bind fun v5 =>
(AV Tryz.prog 58 [(0,v3),(1,v4),(2,v5)]).bind fun v6 =>
(AO 3 lptr v6 (.agg #[.nilFunc,.nilFunc,.nilFunc])).bind fun v7 =>
(Ap true 3 lptr v7).bind fun v8 =>
retV [v8] r2.2
theorem HF {lib : Lib} (hl : lib 99 = none) {x0 x1 x2 : Value} {s : St} {r : Value × St} (h : wire_list_api_Owner (run Tryz.prog lib Ad) x0 x1 x2 s = some r) : run Tryz.prog lib Ad 99 [x0,x1,x2] s = some r :=
  At hl Tryz.func99 (Eq.trans (by kernel_rfl) h)
theorem HG : Aq Tryz.prog 99 = true:=by kernel_rfl
theorem GF {R : Aa} {xs : List Value} {s : St} : Ag Tryz.prog R (.func (.func 99) #[] #[]) xs s = R 99 xs s:=Ak HG
noncomputable def wire_all_20 (R : Aa) (x0 : Value) (s : St) : Option (Value × St) :=
(Ah x0).bind fun v0 =>
(Ac 20 v0).bind fun v1 =>
retV [v1] s
theorem Qr {lib : Lib} (hl : lib 100 = none) {x0 : Value} {s : St} {r : Value × St} (h : wire_all_20 (run Tryz.prog lib Ad) x0 s = some r) : run Tryz.prog lib Ad 100 [x0] s = some r :=
  At hl Tryz.func100 (Eq.trans (by kernel_rfl) h)
theorem Qs : Aq Tryz.prog 100 = true:=by kernel_rfl
theorem Nd {R : Aa} {xs : List Value} {s : St} : Ag Tryz.prog R (.func (.func 100) #[] #[]) xs s = R 100 xs s:=Ak Qs
noncomputable def Ic (R : Aa) (x0 x1 : Value) (s : St) : Option (Value × St) :=
(lbox x1).bind fun v0 =>
((Ap false 1 lptr v0).bind fun v1 =>
(As 1 [(.string ⟨#[]⟩)] 1 [(0,v1)] s).bind fun r2 =>
(Ag Tryz.prog R (.func (.func 87) #[] #[]) [x0,r2.1] r2.2).bind fun r3 =>
(Ap false 1 (.pointer (some ⟨0,1,none⟩)) v0).bind fun v4 =>
(AM .u8 v4).bind fun v5 =>
(As 1 [(.int .u8 0)] 1 [(0,v5)] r3.2).bind fun r6 =>
(AD 1 1 r3.1 r6.1 r6.2).bind fun r7 =>
some [x0,r2.1]).bind fun q8 =>
(Ap false 1 lptr v0).bind fun v9 =>
(((As 1 [(.string ⟨#[]⟩)] 1 [(0,v9)] (⟨frzK [] 0 (s).heap⟩ : St)).bind fun r19 =>
some (r19.1,r19.2)).bind (Bz [] s)).bind fun r10 =>
(((Ag Tryz.prog R (.func (.func 87) #[] #[]) [x0,r10.1] (⟨Er (BN [(getL q8 0),(getL q8 1)]) 0 (r10.2).heap⟩ : St)).bind fun r18 =>
some (r18.1,r18.2)).bind (appR (BN [(getL q8 0),(getL q8 1)]) [] r10.2)).bind fun r11 =>
(Ap false 1 (.pointer (some ⟨0,1,none⟩)) v0).bind fun v12 =>
(AM .u8 v12).bind fun v13 =>
(((As 1 [(.int .u8 0)] 1 [(0,v13)] (⟨frzK ((BN [(getL q8 0),(getL q8 1)]) ++ []) 0 (r11.2).heap⟩ : St)).bind fun r17 =>
some (r17.1,r17.2)).bind (Bz ((BN [(getL q8 0),(getL q8 1)]) ++ []) r11.2)).bind fun r14 =>
(((AD 1 1 r11.1 r14.1 r14.2).bind fun r16 =>
some (r16.1,r16.2)).bind (ownR r14.2)).bind fun r15 =>
retV [r15.1] r15.2
theorem KJ {lib : Lib} (hl : lib 101 = none) {x0 x1 : Value} {s : St} {r : Value × St} (h : Ic (run Tryz.prog lib Ad) x0 x1 s = some r) : run Tryz.prog lib Ad 101 [x0,x1] s = some r :=
  At hl Tryz.func101 (Eq.trans (by kernel_rfl) h)
theorem KK : Aq Tryz.prog 101 = true:=by kernel_rfl
theorem IY {R : Aa} {xs : List Value} {s : St} : Ag Tryz.prog R (.func (.func 101) #[] #[]) xs s = R 101 xs s:=Ak KK
noncomputable def GG (R : Aa) (x0 : Value) (s : St) : Option (Value × St) :=
(anew [(.string ⟨#[]⟩),(.int .i64 0)] s).bind fun r0 =>
(Ac 0 r0.1).bind fun v1 =>
(As 1 [(.pointer none)] 1 [(0,v1)] r0.2).bind fun r2 =>
(Ag Tryz.prog R (.func (.func 89) #[] #[]) [x0,r2.1] r2.2).bind fun r3 =>
(Ag Tryz.prog R (.func (.func 35) #[] #[]) [x0] r3.2).bind fun r4 =>
(Ac 1 r0.1).bind fun v5 =>
(A4 1 v5 r4.1 r4.2).bind fun s6 =>
(Aj true 2 r0.1 s6).bind fun v7 =>
(AO 2 lptr v7 (.agg #[(.string ⟨#[]⟩),(.int .i64 0)])).bind fun v8 =>
(Ap true 2 lptr v8).bind fun v9 =>
retV [v9] s6
theorem IZ {lib : Lib} (hl : lib 102 = none) {x0 : Value} {s : St} {r : Value × St} (h : GG (run Tryz.prog lib Ad) x0 s = some r) : run Tryz.prog lib Ad 102 [x0] s = some r :=
  At hl Tryz.func102 (Eq.trans (by kernel_rfl) h)
theorem I0 : Aq Tryz.prog 102 = true:=by kernel_rfl
theorem HH {R : Aa} {xs : List Value} {s : St} : Ag Tryz.prog R (.func (.func 102) #[] #[]) xs s = R 102 xs s:=Ak I0
noncomputable def KL (R : Aa) (x0 : Value) (s : St) : Option (Value × St) :=
(abin Tryz.prog .lss 22 (.tmp 3) (.const (.int .u64 128)) x0 (.int .u64 128)).bind fun v0 =>
Ax v0
 ((AM .u8 x0).bind fun v1 =>
(As 1 [(.int .u8 0)] 1 [(0,v1)] s).bind fun r2 =>
retV [r2.1] r2.2)
 ((abin Tryz.prog .rem 22 (.tmp 8) (.const (.int .u64 128)) x0 (.int .u64 128)).bind fun v3 =>
(AM .u8 v3).bind fun v4 =>
(abin Tryz.prog .add 5 (.tmp 10) (.const (.int .u8 128)) v4 (.int .u8 128)).bind fun v5 =>
(As 1 [(.int .u8 0)] 1 [(0,v5)] s).bind fun r6 =>
(abin Tryz.prog .quo 22 (.tmp 13) (.const (.int .u64 128)) x0 (.int .u64 128)).bind fun v7 =>
(Ag Tryz.prog R (.func (.func 103) #[] #[]) [v7] r6.2).bind fun r8 =>
(AD 1 1 r6.1 r8.1 r8.2).bind fun r9 =>
retV [r9.1] r9.2)
theorem Id {lib : Lib} (hl : lib 103 = none) {x0 : Value} {s : St} {r : Value × St} (h : KL (run Tryz.prog lib Ad) x0 s = some r) : run Tryz.prog lib Ad 103 [x0] s = some r :=
  At hl Tryz.func103 (Eq.trans (by kernel_rfl) h)
theorem Mn : Aq Tryz.prog 103 = true:=by kernel_rfl
theorem En {R : Aa} {xs : List Value} {s : St} : Ag Tryz.prog R (.func (.func 103) #[] #[]) xs s = R 103 xs s:=Ak Mn
noncomputable def JU (R : Aa) (x0 : Value) (s : St) : Option (Value × St) :=
(AM .u8 x0).bind fun v0 =>
(abin Tryz.prog .shr 44 (.tmp 5) (.const (.int .u64 8)) x0 (.int .u64 8)).bind fun v1 =>
(AM .u8 v1).bind fun v2 =>
(abin Tryz.prog .shr 44 (.tmp 8) (.const (.int .u64 16)) x0 (.int .u64 16)).bind fun v3 =>
(AM .u8 v3).bind fun v4 =>
(abin Tryz.prog .shr 44 (.tmp 11) (.const (.int .u64 24)) x0 (.int .u64 24)).bind fun v5 =>
(AM .u8 v5).bind fun v6 =>
(AV Tryz.prog 94 [(0,v0),(1,v2),(2,v4),(3,v6)]).bind fun v7 =>
(AO 4 lptr v7 (.agg #[(.int .u8 0),(.int .u8 0),(.int .u8 0),(.int .u8 0)])).bind fun v8 =>
(Ap true 4 lptr v8).bind fun v9 =>
retV [v9] s
theorem Qt {lib : Lib} (hl : lib 104 = none) {x0 : Value} {s : St} {r : Value × St} (h : JU (run Tryz.prog lib Ad) x0 s = some r) : run Tryz.prog lib Ad 104 [x0] s = some r :=
  At hl Tryz.func104 (Eq.trans (by kernel_rfl) h)
theorem Jh : Aq Tryz.prog 104 = true:=by kernel_rfl
theorem Nf {R : Aa} {xs : List Value} {s : St} : Ag Tryz.prog R (.func (.func 104) #[] #[]) xs s = R 104 xs s:=Ak Jh
noncomputable def Bt.j0 (R : Aa) (T : List Value) (s : St) : Res :=
(abin Tryz.prog .add 3 (.tmp 19) (.const (.int .i64 1)) (getL T 1) (.int .i64 1)).bind fun v12 =>
some (.normal,[(getL T 0),v12,(getL T 2),(getL T 3),(getL T 4)],s)
noncomputable def Bt.b1 (R : Aa) (T : List Value) (s : St) : Res :=
(abin Tryz.prog .lss 3 (.tmp 17) (.const (.int .i64 8)) (getL T 1) (.int .i64 8)).bind fun v6 =>
Ax v6
 ((abin Tryz.prog .rem 44 (.tmp 21) (.const (.int .u32 2)) (getL T 0) (.int .u32 2)).bind fun v8 =>
(abin Tryz.prog .eql 44 (.tmp 22) (.const (.int .u32 1)) v8 (.int .u32 1)).bind fun v9 =>
Ax v9
 ((abin Tryz.prog .shr 44 (.tmp 24) (.const (.int .u64 1)) (getL T 0) (.int .u64 1)).bind fun v10 =>
(abin Tryz.prog .xor 44 (.tmp 25) (.const (.int .u32 3988292384)) v10 (.int .u32 3988292384)).bind fun v11 =>
Dh (Bt.j0 R) [v11,(getL T 1),(getL T 2),(getL T 3),(getL T 4)] s)
 ((abin Tryz.prog .shr 44 (.tmp 27) (.const (.int .u64 1)) (getL T 0) (.int .u64 1)).bind fun v13 =>
Dh (Bt.j0 R) [v13,(getL T 1),(getL T 2),(getL T 3),(getL T 4)] s))
 (some (.exit 2,[(getL T 0),(getL T 2),(getL T 3),(getL T 4)],s))
noncomputable def Bt.b0 (R : Aa) (T : List Value) (s : St) : Res :=
(abin Tryz.prog .lss 3 (.tmp 9) (.tmp 8) (getL T 3) (getL T 2)).bind fun v1 =>
Ax v1
 ((Az 1 (getL T 1) (getL T 3)).bind fun v2 =>
(Aj false 1 v2 s).bind fun v3 =>
(AM .u32 v3).bind fun v4 =>
(abin Tryz.prog .xor 44 (.tmp 13) (.tmp 15) (getL T 0) v4).bind fun v5 =>
(AS (Bt.b1 R) [v5,(.int .i64 0),(getL T 1),(getL T 2),(getL T 3)] s).bind fun r14 =>
exV r14.1 [(2,(abin Tryz.prog .add 3 (.tmp 9) (.const (.int .i64 1)) (getL r14.2.1 3) (.int .i64 1)).bind fun v15 =>
some (.normal,[(getL r14.2.1 0),(getL r14.2.1 1),(getL r14.2.1 2),v15],r14.2.2))]
 (none))
 (some (.exit 0,[(getL T 0)],s))
noncomputable def Bt (R : Aa) (x0 : Value) (s : St) : Option (Value × St) :=
(AG (.slice 5) x0 s).bind fun v0 =>
(AS (Bt.b0 R) [(.int .u32 4294967295),x0,v0,(.int .i64 0)] s).bind fun r16 =>
exV r16.1 [(0,(abin Tryz.prog .xor 44 (.tmp 30) (.const (.int .u32 4294967295)) (getL r16.2.1 0) (.int .u32 4294967295)).bind fun v17 =>
retV [v17] r16.2.2)]
 (none)
theorem Ty {lib : Lib} (hl : lib 105 = none) {x0 : Value} {s : St} {r : Value × St} (h : Bt (run Tryz.prog lib Ad) x0 s = some r) : run Tryz.prog lib Ad 105 [x0] s = some r :=
  At hl Tryz.func105 (Eq.trans (by kernel_rfl) h)
theorem Mo : Aq Tryz.prog 105 = true:=by kernel_rfl
theorem Ji {R : Aa} {xs : List Value} {s : St} : Ag Tryz.prog R (.func (.func 105) #[] #[]) xs s = R 105 xs s:=Ak Mo
noncomputable def slices_Index_rune_rune.b0 (R : Aa) (T : List Value) (s : St) : Res :=
(abin Tryz.prog .lss 3 (.tmp 8) (.tmp 7) (getL T 3) (getL T 2)).bind fun v1 =>
Ax v1
 ((Az 1 (getL T 0) (getL T 3)).bind fun v2 =>
(Aj false 1 v2 s).bind fun v3 =>
(abin Tryz.prog .eql 21 (.tmp 11) (.tmp 15) (getL T 1) v3).bind fun v4 =>
Ax v4
 (some (.ret,[(getL T 3)],s))
 ((abin Tryz.prog .add 3 (.tmp 8) (.const (.int .i64 1)) (getL T 3) (.int .i64 1)).bind fun v5 =>
some (.normal,[(getL T 0),(getL T 1),(getL T 2),v5],s)))
 (some (.exit 0,[],s))
noncomputable def slices_Index_rune_rune (R : Aa) (x0 x1 : Value) (s : St) : Option (Value × St) :=
(AG (.slice 21) x0 s).bind fun v0 =>
(AS (slices_Index_rune_rune.b0 R) [x0,x1,v0,(.int .i64 0)] s).bind fun r6 =>
exV r6.1 [(0,retV [(.int .i64 (-1))] r6.2.2)]
 (retV [(getL r6.2.1 0)] r6.2.2)
theorem Gb {lib : Lib} (hl : lib 111 = none) {x0 x1 : Value} {s : St} {r : Value × St} (h : slices_Index_rune_rune (run Tryz.prog lib Ad) x0 x1 s = some r) : run Tryz.prog lib Ad 111 [x0,x1] s = some r :=
  At hl Tryz.func111 (Eq.trans (by kernel_rfl) h)
theorem Gc : Aq Tryz.prog 111 = true:=by kernel_rfl
theorem Fy {R : Aa} {xs : List Value} {s : St} : Ag Tryz.prog R (.func (.func 111) #[] #[]) xs s = R 111 xs s:=Ak Gc
noncomputable def Gd (R : Aa) (x0 : Value) (s : St) : Option (Value × St) :=
(AG .string x0 s).bind fun v0 =>
(abin Tryz.prog .lss 3 (.tmp 4) (.const (.int .i64 1)) v0 (.int .i64 1)).bind fun v1 =>
(Ai v1 false ((AG .string x0 s).bind fun v2 =>
(abin Tryz.prog .gtr 3 (.tmp 8) (.const (.int .i64 12)) v2 (.int .i64 12)).bind fun v3 =>
some ([v3],s)) (some ([undef],s))).bind fun q4 =>
(AJ v1 (.bool true) (getL q4.1 0)).bind fun v5 =>
Ax v5
 (retV [(.int .i64 20)] q4.2)
 (retV [(.int .i64 0)] q4.2)
theorem Lz {lib : Lib} (hl : lib 114 = none) {x0 : Value} {s : St} {r : Value × St} (h : Gd (run Tryz.prog lib Ad) x0 s = some r) : run Tryz.prog lib Ad 114 [x0] s = some r :=
  At hl Tryz.func114 (Eq.trans (by kernel_rfl) h)
theorem GH : Aq Tryz.prog 114 = true:=by kernel_rfl
theorem CG {R : Aa} {xs : List Value} {s : St} : Ag Tryz.prog R (.func (.func 114) #[] #[]) xs s = R 114 xs s:=Ak GH
noncomputable def E0 (R : Aa) (x0 : Value) (s : St) : Option (Value × St) :=
(lbox x0).bind fun v0 =>
(Ap false 1 lptr v0).bind fun v1 =>
(abin Tryz.prog .eql 3 (.tmp 6) (.const (.int .i64 1)) v1 (.int .i64 1)).bind fun v2 =>
(Ai v2 false ((Ap false 1 lptr v0).bind fun v3 =>
(abin Tryz.prog .eql 3 (.tmp 10) (.const (.int .i64 2)) v3 (.int .i64 2)).bind fun v4 =>
some ([v4],s)) (some ([undef],s))).bind fun q5 =>
(AJ v2 (.bool true) (getL q5.1 0)).bind fun v6 =>
(Ai v6 false ((Ap false 1 lptr v0).bind fun v7 =>
(abin Tryz.prog .eql 3 (.tmp 15) (.const (.int .i64 3)) v7 (.int .i64 3)).bind fun v8 =>
some ([v8],q5.2)) (some ([undef],q5.2))).bind fun q9 =>
(AJ v6 (.bool true) (getL q9.1 0)).bind fun v10 =>
(Ap false 1 lptr v0).bind fun v11 =>
(abin Tryz.prog .eql 3 (.tmp 19) (.const (.int .i64 4)) v11 (.int .i64 4)).bind fun v12 =>
(Ai v12 false ((Ap false 1 lptr v0).bind fun v13 =>
(abin Tryz.prog .eql 3 (.tmp 23) (.const (.int .i64 5)) v13 (.int .i64 5)).bind fun v14 =>
some ([v14],q9.2)) (some ([undef],q9.2))).bind fun q15 =>
(AJ v12 (.bool true) (getL q15.1 0)).bind fun v16 =>
(aun .not v10).bind fun v17 =>
(Ai v17 true ((aun .not v16).bind fun v18 =>
some ([v18],q15.2)) (some ([undef],q15.2))).bind fun q19 =>
(AJ v17 (getL q19.1 0) (.bool false)).bind fun v20 =>
(Ai v20 false (some ([v10],q19.2)) (some ([undef],q19.2))).bind fun q21 =>
(Ai (getL q21.1 0) true ((Ap false 1 (.pointer (some ⟨0,3,none⟩)) v0).bind fun v22 =>
(abin Tryz.prog .neq 9 (.tmp 36) (.const (.string ⟨#[]⟩)) v22 (.string ⟨#[]⟩)).bind fun v23 =>
some ([v23],q21.2)) (some ([undef],q21.2))).bind fun q24 =>
(Ai (getL q24.1 0) false ((Ap false 1 (.pointer (some ⟨0,4,none⟩)) v0).bind fun v25 =>
(abin Tryz.prog .neq 9 (.tmp 40) (.const (.string ⟨#[]⟩)) v25 (.string ⟨#[]⟩)).bind fun v26 =>
some ([v26],q24.2)) (some ([undef],q24.2))).bind fun q27 =>
(Ai (getL q21.1 0) true ((AJ (getL q24.1 0) (.bool true) (getL q27.1 0)).bind fun v28 =>
some ([v28],q27.2)) (some ([undef],q27.2))).bind fun q29 =>
(Ai v20 false ((AJ (getL q21.1 0) (getL q29.1 0) (.bool false)).bind fun v30 =>
some ([v30],q29.2)) (some ([undef],q29.2))).bind fun q31 =>
(AJ v20 (.bool true) (getL q31.1 0)).bind fun v32 =>
(Ai v32 false (some ([v16],q31.2)) (some ([undef],q31.2))).bind fun q33 =>
(Ai (getL q33.1 0) true ((Ap false 1 (.pointer (some ⟨0,1,none⟩)) v0).bind fun v34 =>
(abin Tryz.prog .neq 9 (.tmp 49) (.const (.string ⟨#[]⟩)) v34 (.string ⟨#[]⟩)).bind fun v35 =>
some ([v35],q33.2)) (some ([undef],q33.2))).bind fun q36 =>
(Ai v32 false ((AJ (getL q33.1 0) (getL q36.1 0) (.bool false)).bind fun v37 =>
some ([v37],q36.2)) (some ([undef],q36.2))).bind fun q38 =>
(AJ v32 (.bool true) (getL q38.1 0)).bind fun v39 =>
(Ai v39 false ((Ap false 1 lptr v0).bind fun v40 =>
(abin Tryz.prog .neq 3 (.tmp 55) (.const (.int .i64 2)) v40 (.int .i64 2)).bind fun v41 =>
some ([v41],q38.2)) (some ([undef],q38.2))).bind fun q42 =>
(Ai (getL q42.1 0) true ((Ap false 1 (.pointer (some ⟨0,2,none⟩)) v0).bind fun v43 =>
(abin Tryz.prog .neq 9 (.tmp 59) (.const (.string ⟨#[]⟩)) v43 (.string ⟨#[]⟩)).bind fun v44 =>
some ([v44],q42.2)) (some ([undef],q42.2))).bind fun q45 =>
(Ai v39 false ((AJ (getL q42.1 0) (getL q45.1 0) (.bool false)).bind fun v46 =>
some ([v46],q45.2)) (some ([undef],q45.2))).bind fun q47 =>
(AJ v39 (.bool true) (getL q47.1 0)).bind fun v48 =>
(Ai v48 false ((Ap false 1 lptr v0).bind fun v49 =>
(abin Tryz.prog .neq 3 (.tmp 65) (.const (.int .i64 4)) v49 (.int .i64 4)).bind fun v50 =>
some ([v50],q47.2)) (some ([undef],q47.2))).bind fun q51 =>
(Ai (getL q51.1 0) true ((Ap false 1 (.pointer (some ⟨0,5,none⟩)) v0).bind fun v52 =>
(abin Tryz.prog .neq 3 (.tmp 69) (.const (.int .i64 0)) v52 (.int .i64 0)).bind fun v53 =>
some ([v53],q51.2)) (some ([undef],q51.2))).bind fun q54 =>
(Ai v48 false ((AJ (getL q51.1 0) (getL q54.1 0) (.bool false)).bind fun v55 =>
some ([v55],q54.2)) (some ([undef],q54.2))).bind fun q56 =>
(AJ v48 (.bool true) (getL q56.1 0)).bind fun v57 =>
Ax v57
 (retV [(.int .i64 40)] q56.2)
 ((Ai v10 true ((Ap false 1 (.pointer (some ⟨0,1,none⟩)) v0).bind fun v58 =>
(Ag Tryz.prog R (.func (.func 114) #[] #[]) [v58] q56.2).bind fun r59 =>
(abin Tryz.prog .neq 32 (.tmp 77) (.const (.int .i64 0)) r59.1 (.int .i64 0)).bind fun v60 =>
some ([v60],r59.2)) (some ([undef],q56.2))).bind fun q61 =>
(AJ v10 (getL q61.1 0) (.bool false)).bind fun v62 =>
Ax v62
 (retV [(.int .i64 20)] q61.2)
 ((Ap false 1 (.pointer (some ⟨0,2,none⟩)) v0).bind fun v63 =>
(AG .string v63 q61.2).bind fun v64 =>
(abin Tryz.prog .gtr 3 (.tmp 82) (.const (.int .i64 16)) v64 (.int .i64 16)).bind fun v65 =>
Ax v65
 (retV [(.int .i64 2)] q61.2)
 ((Ai v16 true ((Ap false 1 (.pointer (some ⟨0,3,none⟩)) v0).bind fun v66 =>
(Ap false 1 (.pointer (some ⟨0,4,none⟩)) v0).bind fun v67 =>
(AV Tryz.prog 24 [(0,v66),(1,v67)]).bind fun v68 =>
(Ag Tryz.prog R (.func (.func 32) #[] #[]) [v68] q61.2).bind fun r69 =>
(abin Tryz.prog .neq 32 (.tmp 91) (.const (.int .i64 0)) r69.1 (.int .i64 0)).bind fun v70 =>
some ([v70],r69.2)) (some ([undef],q61.2))).bind fun q71 =>
(AJ v16 (getL q71.1 0) (.bool false)).bind fun v72 =>
Ax v72
 (retV [(.int .i64 21)] q71.2)
 ((Ap false 1 lptr v0).bind fun v73 =>
(abin Tryz.prog .eql 3 (.tmp 95) (.const (.int .i64 4)) v73 (.int .i64 4)).bind fun v74 =>
(Ai v74 true ((Ap false 1 (.pointer (some ⟨0,5,none⟩)) v0).bind fun v75 =>
(abin Tryz.prog .lss 3 (.tmp 99) (.const (.int .i64 1)) v75 (.int .i64 1)).bind fun v76 =>
some ([v76],q71.2)) (some ([undef],q71.2))).bind fun q77 =>
(Ai (getL q77.1 0) false ((Ap false 1 (.pointer (some ⟨0,5,none⟩)) v0).bind fun v78 =>
(abin Tryz.prog .gtr 3 (.tmp 103) (.const (.int .i64 4)) v78 (.int .i64 4)).bind fun v79 =>
some ([v79],q77.2)) (some ([undef],q77.2))).bind fun q80 =>
(Ai v74 true ((AJ (getL q77.1 0) (.bool true) (getL q80.1 0)).bind fun v81 =>
some ([v81],q80.2)) (some ([undef],q80.2))).bind fun q82 =>
(AJ v74 (getL q82.1 0) (.bool false)).bind fun v83 =>
Ax v83
 (retV [(.int .i64 1)] q82.2)
 (retV [(.int .i64 0)] q82.2)))))
theorem Ng {lib : Lib} (hl : lib 115 = none) {x0 : Value} {s : St} {r : Value × St} (h : E0 (run Tryz.prog lib Ad) x0 s = some r) : run Tryz.prog lib Ad 115 [x0] s = some r :=
  At hl Tryz.func115 (Eq.trans (by kernel_rfl) h)
theorem Hw : Aq Tryz.prog 115 = true:=by kernel_rfl
theorem KM {R : Aa} {xs : List Value} {s : St} : Ag Tryz.prog R (.func (.func 115) #[] #[]) xs s = R 115 xs s:=Ak Hw
noncomputable def BR.b0 (R : Aa) (T : List Value) (s : St) : Res :=
(abin Tryz.prog .lss 3 (.tmp 13) (.tmp 12) (getL T 3) (getL T 2)).bind fun v4 =>
Ax v4
 ((Az 1 (getL T 1) (getL T 3)).bind fun v5 =>
(Aj false 1 v5 s).bind fun v6 =>
(AM .u32 v6).bind fun v7 =>
(abin Tryz.prog .mul 3 (.const (.int .i64 8)) (.tmp 21) (.int .i64 8) (getL T 3)).bind fun v8 =>
(abin Tryz.prog .shl 44 (.tmp 20) (.tmp 22) v7 v8).bind fun v9 =>
(abin Tryz.prog .or 44 (.tmp 18) (.tmp 23) (getL T 0) v9).bind fun v10 =>
(abin Tryz.prog .add 3 (.tmp 13) (.const (.int .i64 1)) (getL T 3) (.int .i64 1)).bind fun v11 =>
some (.normal,[v10,(getL T 1),(getL T 2),v11],s))
 (some (.exit 0,[(getL T 0)],s))
noncomputable def BR (R : Aa) (x0 : Value) (s : St) : Option (Value × St) :=
(AG (.slice 5) x0 s).bind fun v0 =>
(abin Tryz.prog .lss 3 (.tmp 8) (.const (.int .i64 4)) v0 (.int .i64 4)).bind fun v1 =>
Ax v1
 (retV [(.int .u32 0),(.int .i64 10)] s)
 ((Bn 1 x0 none (some (.int .i64 4)) none).bind fun v2 =>
(AG (.slice 5) v2 s).bind fun v3 =>
(AS (BR.b0 R) [(.int .u32 0),v2,v3,(.int .i64 0)] s).bind fun r12 =>
exV r12.1 [(0,retV [(getL r12.2.1 0),(.int .i64 0)] r12.2.2)]
 (none))
theorem KN {lib : Lib} (hl : lib 116 = none) {x0 : Value} {s : St} {r : Value × St} (h : BR (run Tryz.prog lib Ad) x0 s = some r) : run Tryz.prog lib Ad 116 [x0] s = some r :=
  At hl Tryz.func116 (Eq.trans (by kernel_rfl) h)
theorem F0 : Aq Tryz.prog 116 = true:=by kernel_rfl
theorem I1 {R : Aa} {xs : List Value} {s : St} : Ag Tryz.prog R (.func (.func 116) #[] #[]) xs s = R 116 xs s:=Ak F0
noncomputable def Cd.b0 (R : Aa) (T : List Value) (s : St) : Res :=
(abin Tryz.prog .lss 3 (.tmp 10) (.tmp 9) (getL T 3) (getL T 2)).bind fun v1 =>
Ax v1
 ((Az 1 (getL T 1) (getL T 3)).bind fun v2 =>
(Aj false 1 v2 s).bind fun v3 =>
(abin Tryz.prog .eql 3 (.tmp 15) (.const (.int .i64 9)) (getL T 3) (.int .i64 9)).bind fun v4 =>
(Ai v4 true ((abin Tryz.prog .gtr 5 (.tmp 18) (.const (.int .u8 1)) v3 (.int .u8 1)).bind fun v5 =>
some ([v5],s)) (some ([undef],s))).bind fun q6 =>
(AJ v4 (getL q6.1 0) (.bool false)).bind fun v7 =>
Ax v7
 (some (.ret,[(.int .u64 0),(.int .i64 0),(.int .i64 11)],q6.2))
 ((abin Tryz.prog .and 5 (.tmp 22) (.const (.int .u8 127)) v3 (.int .u8 127)).bind fun v8 =>
(AM .u64 v8).bind fun v9 =>
(abin Tryz.prog .mul 3 (.const (.int .i64 7)) (.tmp 25) (.int .i64 7) (getL T 3)).bind fun v10 =>
(abin Tryz.prog .shl 22 (.tmp 24) (.tmp 26) v9 v10).bind fun v11 =>
(abin Tryz.prog .or 22 (.tmp 21) (.tmp 27) (getL T 0) v11).bind fun v12 =>
(abin Tryz.prog .lss 5 (.tmp 29) (.const (.int .u8 128)) v3 (.int .u8 128)).bind fun v13 =>
Ax v13
 ((abin Tryz.prog .eql 5 (.tmp 31) (.const (.int .u8 0)) v3 (.int .u8 0)).bind fun v14 =>
(Ai v14 true ((abin Tryz.prog .gtr 3 (.tmp 34) (.const (.int .i64 0)) (getL T 3) (.int .i64 0)).bind fun v15 =>
some ([v15],q6.2)) (some ([undef],q6.2))).bind fun q16 =>
(AJ v14 (getL q16.1 0) (.bool false)).bind fun v17 =>
Ax v17
 (some (.ret,[(.int .u64 0),(.int .i64 0),(.int .i64 11)],q16.2))
 ((abin Tryz.prog .add 3 (.tmp 38) (.const (.int .i64 1)) (getL T 3) (.int .i64 1)).bind fun v18 =>
some (.ret,[v12,v18,(.int .i64 0)],q16.2)))
 ((abin Tryz.prog .add 3 (.tmp 10) (.const (.int .i64 1)) (getL T 3) (.int .i64 1)).bind fun v19 =>
some (.normal,[v12,(getL T 1),(getL T 2),v19],q6.2))))
 (some (.exit 0,[],s))
noncomputable def Cd (R : Aa) (x0 : Value) (s : St) : Option (Value × St) :=
(AG (.slice 5) x0 s).bind fun v0 =>
(AS (Cd.b0 R) [(.int .u64 0),x0,v0,(.int .i64 0)] s).bind fun r20 =>
exV r20.1 [(0,retV [(.int .u64 0),(.int .i64 0),(.int .i64 10)] r20.2.2)]
 (retV [(getL r20.2.1 0),(getL r20.2.1 1),(getL r20.2.1 2)] r20.2.2)
theorem Nh {lib : Lib} (hl : lib 117 = none) {x0 : Value} {s : St} {r : Value × St} (h : Cd (run Tryz.prog lib Ad) x0 s = some r) : run Tryz.prog lib Ad 117 [x0] s = some r :=
  At hl Tryz.func117 (Eq.trans (by kernel_rfl) h)
theorem Hx : Aq Tryz.prog 117 = true:=by kernel_rfl
theorem CW {R : Aa} {xs : List Value} {s : St} : Ag Tryz.prog R (.func (.func 117) #[] #[]) xs s = R 117 xs s:=Ak Hx
noncomputable def B5 (R : Aa) (x0 : Value) (s : St) : Option (Value × St) :=
(abin Tryz.prog .eql 31 (.tmp 3) (.const (.slice none 0 0)) x0 (.slice none 0 0)).bind fun v0 =>
Ax v0
 (retV [(.slice none 0 0)] s)
 ((As 1 [(.int .u8 0)] 0 [] s).bind fun r1 =>
(AD 1 1 r1.1 x0 r1.2).bind fun r2 =>
retV [r2.1] r2.2)
theorem Du {lib : Lib} (hl : lib 118 = none) {x0 : Value} {s : St} {r : Value × St} (h : B5 (run Tryz.prog lib Ad) x0 s = some r) : run Tryz.prog lib Ad 118 [x0] s = some r :=
  At hl Tryz.func118 (Eq.trans (by kernel_rfl) h)
theorem Dv : Aq Tryz.prog 118 = true:=by kernel_rfl
theorem Fz {R : Aa} {xs : List Value} {s : St} : Ag Tryz.prog R (.func (.func 118) #[] #[]) xs s = R 118 xs s:=Ak Dv
noncomputable def FA (R : Aa) (x0 : Value) (s : St) : Option (Value × St) :=
(AG (.slice 5) x0 s).bind fun v0 =>
(abin Tryz.prog .lss 3 (.tmp 5) (.const (.int .i64 4)) v0 (.int .i64 4)).bind fun v1 =>
Ax v1
 (retV [(.int .u32 0),(.int .i64 10)] s)
 ((Az 1 x0 (.int .i64 0)).bind fun v2 =>
((Aj false 1 v2 (frzS s)).bind fun v23 =>
some (v23,(frzS s))).bind fun r3 =>
(AM .u32 r3.1).bind fun v4 =>
(Az 1 x0 (.int .i64 1)).bind fun v5 =>
((Aj false 1 v5 (frzS s)).bind fun v22 =>
some (v22,(frzS s))).bind fun r6 =>
(AM .u32 r6.1).bind fun v7 =>
(abin Tryz.prog .shl 44 (.tmp 14) (.const (.int .u64 8)) v7 (.int .u64 8)).bind fun v8 =>
(abin Tryz.prog .or 44 (.tmp 10) (.tmp 15) v4 v8).bind fun v9 =>
(Az 1 x0 (.int .i64 2)).bind fun v10 =>
((Aj false 1 v10 (frzS s)).bind fun v21 =>
some (v21,(frzS s))).bind fun r11 =>
(AM .u32 r11.1).bind fun v12 =>
(abin Tryz.prog .shl 44 (.tmp 20) (.const (.int .u64 16)) v12 (.int .u64 16)).bind fun v13 =>
(abin Tryz.prog .or 44 (.tmp 16) (.tmp 21) v9 v13).bind fun v14 =>
(Az 1 x0 (.int .i64 3)).bind fun v15 =>
((Aj false 1 v15 (frzS s)).bind fun v20 =>
some (v20,(frzS s))).bind fun r16 =>
(AM .u32 r16.1).bind fun v17 =>
(abin Tryz.prog .shl 44 (.tmp 26) (.const (.int .u64 24)) v17 (.int .u64 24)).bind fun v18 =>
(abin Tryz.prog .or 44 (.tmp 22) (.tmp 27) v14 v18).bind fun v19 =>
retV [v19,(.int .i64 0)] s)
theorem KO {lib : Lib} (hl : lib 119 = none) {x0 : Value} {s : St} {r : Value × St} (h : FA (run Tryz.prog lib Ad) x0 s = some r) : run Tryz.prog lib Ad 119 [x0] s = some r :=
  At hl Tryz.func119 (Eq.trans (by kernel_rfl) h)
theorem F1 : Aq Tryz.prog 119 = true:=by kernel_rfl
theorem I2 {R : Aa} {xs : List Value} {s : St} : Ag Tryz.prog R (.func (.func 119) #[] #[]) xs s = R 119 xs s:=Ak F1
noncomputable def A2.b1 (R : Aa) (T : List Value) (s : St) : Res :=
(abin Tryz.prog .geq 3 (.tmp 24) (.const (.int .i64 0)) (getL T 3) (.int .i64 0)).bind fun v9 =>
Ax v9
 ((abin Tryz.prog .mul 22 (.tmp 28) (.const (.int .u64 128)) (getL T 2) (.int .u64 128)).bind fun v10 =>
(Az 1 (getL T 0) (getL T 3)).bind fun v11 =>
(Aj false 1 v11 s).bind fun v12 =>
(abin Tryz.prog .rem 5 (.tmp 33) (.const (.int .u8 128)) v12 (.int .u8 128)).bind fun v13 =>
(AM .u64 v13).bind fun v14 =>
(abin Tryz.prog .add 22 (.tmp 29) (.tmp 35) v10 v14).bind fun v15 =>
(abin Tryz.prog .sub 3 (.tmp 26) (.const (.int .i64 1)) (getL T 3) (.int .i64 1)).bind fun v16 =>
some (.normal,[(getL T 0),(getL T 1),v15,v16],s))
 (some (.exit 2,[(getL T 0),(getL T 1),(getL T 2)],s))
noncomputable def A2.b0 (R : Aa) (T : List Value) (s : St) : Res :=
(AG (.slice 5) (getL T 0) s).bind fun v0 =>
(abin Tryz.prog .lss 3 (.tmp 8) (.tmp 10) (getL T 1) v0).bind fun v1 =>
(Ai v1 true ((abin Tryz.prog .lss 3 (.tmp 13) (.const (.int .i64 10)) (getL T 1) (.int .i64 10)).bind fun v2 =>
some ([v2],s)) (some ([undef],s))).bind fun q3 =>
(AJ v1 (getL q3.1 0) (.bool false)).bind fun v4 =>
Ax v4
 ((Az 1 (getL T 0) (getL T 1)).bind fun v5 =>
(Aj false 1 v5 q3.2).bind fun v6 =>
(abin Tryz.prog .geq 5 (.tmp 21) (.const (.int .u8 128)) v6 (.int .u8 128)).bind fun v7 =>
Ax v7
 ((abin Tryz.prog .add 3 (.tmp 16) (.const (.int .i64 1)) (getL T 1) (.int .i64 1)).bind fun v8 =>
some (.normal,[(getL T 0),v8],q3.2))
 ((AS (A2.b1 R) [(getL T 0),(getL T 1),(.int .u64 0),(getL T 1)] q3.2).bind fun r17 =>
exV r17.1 [(2,(((Ag Tryz.prog R (.func (.func 103) #[] #[]) [(getL r17.2.1 2)] (frzS r17.2.2)).bind fun r27 =>
some (r27.1,r27.2)).map (Dp r17.2.2)).bind fun r18 =>
((BE r18.1 (frzS r18.2)).bind fun v26 =>
some (v26,(frzS r18.2))).bind fun r19 =>
(abin Tryz.prog .add 3 (.tmp 41) (.const (.int .i64 1)) (getL r17.2.1 1) (.int .i64 1)).bind fun v20 =>
(Bn 1 (getL r17.2.1 0) none (some v20) none).bind fun v21 =>
((BE v21 (frzS r18.2)).bind fun v25 =>
some (v25,(frzS r18.2))).bind fun r22 =>
(abin Tryz.prog .neq 9 (.tmp 39) (.tmp 44) r19.1 r22.1).bind fun v23 =>
Ax v23
 (some (.ret,[(.int .u64 0),(.int .i64 0),(.int .i64 11)],r18.2))
 ((abin Tryz.prog .add 3 (.tmp 47) (.const (.int .i64 1)) (getL r17.2.1 1) (.int .i64 1)).bind fun v24 =>
some (.ret,[(getL r17.2.1 2),v24,(.int .i64 0)],r18.2)))]
 (none)))
 (some (.exit 0,[(getL T 0)],q3.2))
noncomputable def A2 (R : Aa) (x0 : Value) (s : St) : Option (Value × St) :=
(AS (A2.b0 R) [x0,(.int .i64 0)] s).bind fun r28 =>
exV r28.1 [(0,(AG (.slice 5) (getL r28.2.1 0) r28.2.2).bind fun v29 =>
(abin Tryz.prog .geq 3 (.tmp 50) (.const (.int .i64 10)) v29 (.int .i64 10)).bind fun v30 =>
Ax v30
 (retV [(.int .u64 0),(.int .i64 0),(.int .i64 11)] r28.2.2)
 (retV [(.int .u64 0),(.int .i64 0),(.int .i64 10)] r28.2.2))]
 (retV [(getL r28.2.1 0),(getL r28.2.1 1),(getL r28.2.1 2)] r28.2.2)
theorem Ni {lib : Lib} (hl : lib 120 = none) {x0 : Value} {s : St} {r : Value × St} (h : A2 (run Tryz.prog lib Ad) x0 s = some r) : run Tryz.prog lib Ad 120 [x0] s = some r :=
  At hl Tryz.func120 (Eq.trans (by kernel_rfl) h)
theorem Hy : Aq Tryz.prog 120 = true:=by kernel_rfl
theorem F2 {R : Aa} {xs : List Value} {s : St} : Ag Tryz.prog R (.func (.func 120) #[] #[]) xs s = R 120 xs s:=Ak Hy
noncomputable def Ie.j0 (R : Aa) (T : List Value) (s : St) : Option (Value × St) :=
(abin Tryz.prog .eql 3 (.tmp 10) (.const (.int .i64 1)) (getL T 0) (.int .i64 1)).bind fun v4 =>
retV [v4] s
noncomputable def Ie (R : Aa) (x0 : Value) (s : St) : Option (Value × St) :=
(Ag Tryz.prog R (.func (.func 121) #[] #[]) [x0] s).bind fun r0 =>
(abin Tryz.prog .gtr 3 (.tmp 6) (.const (.int .i64 1)) r0.1 (.int .i64 1)).bind fun v2 =>
Ax v2
 ((Ag Tryz.prog R (.func (.func 39) #[] #[]) [x0,(.int .i64 11)] r0.2).bind fun r3 =>
Dh (Ie.j0 R) [r0.1] r3.2)
 (Dh (Ie.j0 R) [r0.1] r0.2)
noncomputable def Ce.b0 (R : Aa) (T : List Value) (s : St) : Res :=
(abin Tryz.prog .lss 3 (.tmp 13) (.tmp 12) (getL T 3) (getL T 2)).bind fun v4 =>
Ax v4
 ((Az 2 (getL T 0) (getL T 3)).bind fun v5 =>
((Aj true 2 v5 (frzS s)).bind fun v12 =>
some (v12,(frzS s))).bind fun r6 =>
(Az 2 (getL T 1) (getL T 3)).bind fun v7 =>
((Aj true 2 v7 (frzS s)).bind fun v11 =>
some (v11,(frzS s))).bind fun r8 =>
(abin Tryz.prog .neq 89 (.tmp 19) (.tmp 23) r6.1 r8.1).bind fun v9 =>
Ax v9
 (some (.ret,[(.bool false)],s))
 ((abin Tryz.prog .add 3 (.tmp 13) (.const (.int .i64 1)) (getL T 3) (.int .i64 1)).bind fun v10 =>
some (.normal,[(getL T 0),(getL T 1),(getL T 2),v10],s)))
 (some (.exit 0,[],s))
noncomputable def Ce (R : Aa) (x0 x1 : Value) (s : St) : Option (Value × St) :=
(AG (.slice 89) x0 s).bind fun v0 =>
(AG (.slice 89) x1 s).bind fun v1 =>
(abin Tryz.prog .neq 3 (.tmp 7) (.tmp 9) v0 v1).bind fun v2 =>
Ax v2
 (retV [(.bool false)] s)
 ((AG (.slice 89) x0 s).bind fun v3 =>
(AS (Ce.b0 R) [x0,x1,v3,(.int .i64 0)] s).bind fun r13 =>
exV r13.1 [(0,retV [(.bool true)] r13.2.2)]
 (retV [(getL r13.2.1 0)] r13.2.2))
theorem Nj {lib : Lib} (hl : lib 128 = none) {x0 x1 : Value} {s : St} {r : Value × St} (h : Ce (run Tryz.prog lib Ad) x0 x1 s = some r) : run Tryz.prog lib Ad 128 [x0,x1] s = some r :=
  At hl Tryz.func128 (Eq.trans (by kernel_rfl) h)
theorem Nk : Aq Tryz.prog 128 = true:=by kernel_rfl
theorem KP {R : Aa} {xs : List Value} {s : St} : Ag Tryz.prog R (.func (.func 128) #[] #[]) xs s = R 128 xs s:=Ak Nk
noncomputable def AU.j0 (R : Aa) (T : List Value) (s : St) : Option (Value × St) :=
retV [(getL T 0)] s
noncomputable def AU.j1 (R : Aa) (T : List Value) (s : St) : Option (Value × St) :=
(acap (getL T 0)).bind fun v4 =>
(AG (.slice 5) (getL T 0) s).bind fun v5 =>
(abin Tryz.prog .sub 3 (.tmp 10) (.tmp 12) v4 v5).bind fun v6 =>
(abin Tryz.prog .sub 3 (.tmp 8) (.tmp 13) (getL T 1) v6).bind fun v7 =>
(abin Tryz.prog .gtr 3 (.tmp 15) (.const (.int .i64 0)) v7 (.int .i64 0)).bind fun v8 =>
Ax v8
 ((acap (getL T 0)).bind fun v9 =>
(Bn 1 (getL T 0) none (some v9) none).bind fun v10 =>
(Iv 1 1 [(.int .u8 0)] v10 v7 s).bind fun r11 =>
(AG (.slice 5) (getL T 0) r11.2).bind fun v12 =>
(Bn 1 r11.1 none (some v12) none).bind fun v13 =>
Dh (AU.j0 R) [v13] r11.2)
 (Dh (AU.j0 R) [(getL T 0)] s)
noncomputable def AU (R : Aa) (x0 x1 : Value) (s : St) : Option (Value × St) :=
(abin Tryz.prog .lss 3 (.tmp 5) (.const (.int .i64 0)) x1 (.int .i64 0)).bind fun v1 =>
Ax v1
 ((VE 9 (.string ⟨#[99,97,110,110,111,116,32,98,101,32,110,101,103,97,116,105,118,101]⟩)).bind fun v2 =>
none)
 (Dh (AU.j1 R) [x0,x1] s)
theorem GI {lib : Lib} (hl : lib 129 = none) {x0 x1 : Value} {s : St} {r : Value × St} (h : AU (run Tryz.prog lib Ad) x0 x1 s = some r) : run Tryz.prog lib Ad 129 [x0,x1] s = some r :=
  At hl Tryz.func129 (Eq.trans (by kernel_rfl) h)
theorem DR : Aq Tryz.prog 129 = true:=by kernel_rfl
theorem FL {R : Aa} {xs : List Value} {s : St} : Ag Tryz.prog R (.func (.func 129) #[] #[]) xs s = R 129 xs s:=Ak DR
noncomputable def BI.b1 (R : Aa) (T : List Value) (s : St) : Res :=
(abin Tryz.prog .lss 3 (.tmp 9) (.const (.int .i64 8)) (getL T 5) (.int .i64 8)).bind fun v2 =>
Ax v2
 ((abin Tryz.prog .shr 44 (.tmp 11) (.const (.int .u64 1)) (getL T 3) (.int .u64 1)).bind fun v3 =>
(abin Tryz.prog .and 44 (.tmp 13) (.const (.int .u32 1)) (getL T 3) (.int .u32 1)).bind fun v4 =>
(aun .neg v4).bind fun v5 =>
(abin Tryz.prog .and 44 (.const (.int .u32 3988292384)) (.tmp 15) (.int .u32 3988292384) v5).bind fun v6 =>
(abin Tryz.prog .xor 44 (.tmp 12) (.tmp 16) v3 v6).bind fun v7 =>
(abin Tryz.prog .add 3 (.tmp 9) (.const (.int .i64 1)) (getL T 5) (.int .i64 1)).bind fun v8 =>
some (.normal,[(getL T 0),(getL T 1),(getL T 2),v7,(getL T 4),v8,(getL T 6),(getL T 7)],s))
 (some (.exit 2,[(getL T 0),(getL T 1),(getL T 2),(getL T 3),(getL T 4),(getL T 6),(getL T 7)],s))
noncomputable def BI.b0 (R : Aa) (T : List Value) (s : St) : Res :=
(abin Tryz.prog .lss 3 (.tmp 4) (.const (.int .i64 256)) (getL T 2) (.int .i64 256)).bind fun v0 =>
Ax v0
 ((AM .u32 (getL T 2)).bind fun v1 =>
(AS (BI.b1 R) [(getL T 0),(getL T 1),(getL T 2),v1,(getL T 2),(.int .i64 0),(getL T 3),(getL T 4)] s).bind fun r9 =>
exV r9.1 [(2,(GU 256 1 (getL r9.2.1 1) (getL r9.2.1 2)).bind fun v10 =>
(AO 1 v10 (getL r9.2.1 3) (getL r9.2.1 6)).bind fun v11 =>
(abin Tryz.prog .add 3 (.tmp 4) (.const (.int .i64 1)) (getL r9.2.1 4) (.int .i64 1)).bind fun v12 =>
some (.normal,[(getL r9.2.1 0),(getL r9.2.1 1),v12,(getL r9.2.1 5),v11],r9.2.2))]
 (none))
 (some (.exit 0,[(getL T 0),(getL T 1),(getL T 3),(getL T 4)],s))
noncomputable def BI (R : Aa) (s : St) : Option (Value × St) :=
(AS (BI.b0 R) [lptr,lptr,(.int .i64 0),(.agg (List.replicate 256 (.int .u32 0)).toArray),(.agg (List.replicate 256 (.int .u32 0)).toArray)] s).bind fun r13 =>
exV r13.1 [(0,(Ap true 256 (getL r13.2.1 1) (getL r13.2.1 3)).bind fun v14 =>
(AO 256 (getL r13.2.1 0) v14 (getL r13.2.1 2)).bind fun v15 =>
(Ap true 256 (getL r13.2.1 0) v15).bind fun v16 =>
retV [v16] r13.2.2)]
 (none)
theorem Qu {lib : Lib} (hl : lib 130 = none) {s : St} {r : Value × St} (h : BI (run Tryz.prog lib Ad)  s = some r) : run Tryz.prog lib Ad 130 [] s = some r :=
  At hl Tryz.func130 (Eq.trans (by kernel_rfl) h)
theorem Jj : Aq Tryz.prog 130 = true:=by kernel_rfl
theorem Nl {R : Aa} {xs : List Value} {s : St} : Ag Tryz.prog R (.func (.func 130) #[] #[]) xs s = R 130 xs s:=Ak Jj
noncomputable def Mp.b0 (R : Aa) (T : List Value) (s : St) : Res :=
(abin Tryz.prog .lss 3 (.tmp 8) (.tmp 7) (getL T 2) (getL T 1)).bind fun v1 =>
Ax v1
 ((Az 6 (getL T 0) (getL T 2)).bind fun v2 =>
(Aj true 6 v2 s).bind fun v3 =>
(AO 6 lptr v3 (.agg #[(.int .i64 0),(.string ⟨#[]⟩),(.string ⟨#[]⟩),(.string ⟨#[]⟩),(.string ⟨#[]⟩),(.int .i64 0)])).bind fun v4 =>
(Ap true 6 lptr v4).bind fun v5 =>
(Ag Tryz.prog R (.func (.func 138) #[] #[]) [v5] s).bind fun r6 =>
(abin Tryz.prog .neq 32 (.tmp 14) (.const (.int .i64 0)) r6.1 (.int .i64 0)).bind fun v7 =>
Ax v7
 (some (.ret,[r6.1],r6.2))
 ((abin Tryz.prog .add 3 (.tmp 8) (.const (.int .i64 1)) (getL T 2) (.int .i64 1)).bind fun v8 =>
some (.normal,[(getL T 0),(getL T 1),v8],r6.2)))
 (some (.exit 0,[],s))
noncomputable def Mp (R : Aa) (x0 : Value) (s : St) : Option (Value × St) :=
(AG (.slice 69) x0 s).bind fun v0 =>
(AS (Mp.b0 R) [x0,v0,(.int .i64 0)] s).bind fun r9 =>
exV r9.1 [(0,retV [(.int .i64 0)] r9.2.2)]
 (retV [(getL r9.2.1 0)] r9.2.2)
theorem YA {lib : Lib} (hl : lib 131 = none) {x0 : Value} {s : St} {r : Value × St} (h : Mp (run Tryz.prog lib Ad) x0 s = some r) : run Tryz.prog lib Ad 131 [x0] s = some r :=
  At hl Tryz.func131 (Eq.trans (by kernel_rfl) h)
theorem Tz : Aq Tryz.prog 131 = true:=by kernel_rfl
theorem U3 {R : Aa} {xs : List Value} {s : St} : Ag Tryz.prog R (.func (.func 131) #[] #[]) xs s = R 131 xs s:=Ak Tz
noncomputable def wire_results_1 (R : Aa) (x0 : Value) (s : St) : Option (Value × St) :=
(lbox x0).bind fun v0 =>
(Ap false 1 lptr v0).bind fun v1 =>
(Ag Tryz.prog R (.func (.func 133) #[] #[]) [v1] s).bind fun r2 =>
(abin Tryz.prog .neq 32 (.tmp 5) (.const (.int .i64 0)) r2.1 (.int .i64 0)).bind fun v3 =>
(Ai v3 false ((Ap false 1 (.pointer (some ⟨0,1,none⟩)) v0).bind fun v4 =>
(AG .string v4 r2.2).bind fun v5 =>
(abin Tryz.prog .gtr 3 (.tmp 10) (.const (.int .i64 16)) v5 (.int .i64 16)).bind fun v6 =>
some ([v6],r2.2)) (some ([undef],r2.2))).bind fun q7 =>
(AJ v3 (.bool true) (getL q7.1 0)).bind fun v8 =>
retV [v8] q7.2
theorem LA {lib : Lib} (hl : lib 132 = none) {x0 : Value} {s : St} {r : Value × St} (h : wire_results_1 (run Tryz.prog lib Ad) x0 s = some r) : run Tryz.prog lib Ad 132 [x0] s = some r :=
  At hl Tryz.func132 (Eq.trans (by kernel_rfl) h)
theorem LB : Aq Tryz.prog 132 = true:=by kernel_rfl
theorem JV {R : Aa} {xs : List Value} {s : St} : Ag Tryz.prog R (.func (.func 132) #[] #[]) xs s = R 132 xs s:=Ak LB
noncomputable def He (R : Aa) (x0 : Value) (s : St) : Option (Value × St) :=
(abin Tryz.prog .eql 9 (.tmp 3) (.const (.string ⟨#[]⟩)) x0 (.string ⟨#[]⟩)).bind fun v0 =>
(Ai v0 false ((AG .string x0 s).bind fun v1 =>
(abin Tryz.prog .gtr 3 (.tmp 7) (.const (.int .i64 12)) v1 (.int .i64 12)).bind fun v2 =>
some ([v2],s)) (some ([undef],s))).bind fun q3 =>
(AJ v0 (.bool true) (getL q3.1 0)).bind fun v4 =>
Ax v4
 (retV [(.int .i64 20)] q3.2)
 (retV [(.int .i64 0)] q3.2)
theorem Nm {lib : Lib} (hl : lib 133 = none) {x0 : Value} {s : St} {r : Value × St} (h : He (run Tryz.prog lib Ad) x0 s = some r) : run Tryz.prog lib Ad 133 [x0] s = some r :=
  At hl Tryz.func133 (Eq.trans (by kernel_rfl) h)
theorem Hz : Aq Tryz.prog 133 = true:=by kernel_rfl
theorem Cf {R : Aa} {xs : List Value} {s : St} : Ag Tryz.prog R (.func (.func 133) #[] #[]) xs s = R 133 xs s:=Ak Hz
noncomputable def slices_ContainsFunc_api_Result_api_Result (R : Aa) (x0 x1 : Value) (s : St) : Option (Value × St) :=
(Ag Tryz.prog R (.func (.func 164) #[] #[]) [x0,x1] s).bind fun r0 =>
(abin Tryz.prog .geq 3 (.tmp 7) (.const (.int .i64 0)) r0.1 (.int .i64 0)).bind fun v1 =>
retV [v1] r0.2
theorem Cx {lib : Lib} (hl : lib 134 = none) {x0 x1 : Value} {s : St} {r : Value × St} (h : slices_ContainsFunc_api_Result_api_Result (run Tryz.prog lib Ad) x0 x1 s = some r) : run Tryz.prog lib Ad 134 [x0,x1] s = some r :=
  At hl Tryz.func134 (Eq.trans (by kernel_rfl) h)
theorem Cy : Aq Tryz.prog 134 = true:=by kernel_rfl
theorem Co {R : Aa} {xs : List Value} {s : St} : Ag Tryz.prog R (.func (.func 134) #[] #[]) xs s = R 134 xs s:=Ak Cy
noncomputable def wire_results_2 (R : Aa) (x0 x1 : Value) (s : St) : Option (Value × St) :=
(lbox x0).bind fun v0 =>
(Ap false 1 (.pointer (some ⟨0,1,none⟩)) v0).bind fun v1 =>
(AG .string v1 s).bind fun v2 =>
(abin Tryz.prog .gtr 3 (.tmp 6) (.const (.int .i64 16)) v2 (.int .i64 16)).bind fun v3 =>
(Ai v3 false ((Ap false 1 (.pointer (some ⟨0,2,none⟩)) v0).bind fun v4 =>
(AG (.slice 89) v4 s).bind fun v5 =>
(abin Tryz.prog .gtr 3 (.tmp 11) (.const (.int .i64 4)) v5 (.int .i64 4)).bind fun v6 =>
some ([v6],s)) (some ([undef],s))).bind fun q7 =>
(AJ v3 (.bool true) (getL q7.1 0)).bind fun v8 =>
(Ai v8 false ((Ap false 1 (.pointer (some ⟨0,2,none⟩)) v0).bind fun v9 =>
(Aj false 1 x1 q7.2).bind fun v10 =>
(Ag Tryz.prog R (.func (.func 136) #[] #[]) [v9,v10] q7.2).bind fun r11 =>
some ([r11.1],r11.2)) (some ([undef],q7.2))).bind fun q12 =>
(AJ v8 (.bool true) (getL q12.1 0)).bind fun v13 =>
retV [v13] q12.2
theorem LC {lib : Lib} (hl : lib 135 = none) {x0 x1 : Value} {s : St} {r : Value × St} (h : wire_results_2 (run Tryz.prog lib Ad) x0 x1 s = some r) : run Tryz.prog lib Ad 135 [x0,x1] s = some r :=
  At hl Tryz.func135 (Eq.trans (by kernel_rfl) h)
theorem LD : Aq Tryz.prog 135 = true:=by kernel_rfl
noncomputable def slices_ContainsFunc_api_Pair_api_Pair (R : Aa) (x0 x1 : Value) (s : St) : Option (Value × St) :=
(Ag Tryz.prog R (.func (.func 165) #[] #[]) [x0,x1] s).bind fun r0 =>
(abin Tryz.prog .geq 3 (.tmp 7) (.const (.int .i64 0)) r0.1 (.int .i64 0)).bind fun v1 =>
retV [v1] r0.2
theorem CZ {lib : Lib} (hl : lib 136 = none) {x0 x1 : Value} {s : St} {r : Value × St} (h : slices_ContainsFunc_api_Pair_api_Pair (run Tryz.prog lib Ad) x0 x1 s = some r) : run Tryz.prog lib Ad 136 [x0,x1] s = some r :=
  At hl Tryz.func136 (Eq.trans (by kernel_rfl) h)
theorem C0 : Aq Tryz.prog 136 = true:=by kernel_rfl
theorem CL {R : Aa} {xs : List Value} {s : St} : Ag Tryz.prog R (.func (.func 136) #[] #[]) xs s = R 136 xs s:=Ak C0
noncomputable def wire_ops_1 (R : Aa) (x0 : Value) (s : St) : Option (Value × St) :=
(lbox x0).bind fun v0 =>
(Ap true 6 lptr v0).bind fun v1 =>
(Ag Tryz.prog R (.func (.func 138) #[] #[]) [v1] s).bind fun r2 =>
(abin Tryz.prog .neq 32 (.tmp 4) (.const (.int .i64 0)) r2.1 (.int .i64 0)).bind fun v3 =>
retV [v3] r2.2
theorem Sf {lib : Lib} (hl : lib 137 = none) {x0 : Value} {s : St} {r : Value × St} (h : wire_ops_1 (run Tryz.prog lib Ad) x0 s = some r) : run Tryz.prog lib Ad 137 [x0] s = some r :=
  At hl Tryz.func137 (Eq.trans (by kernel_rfl) h)
theorem Sg : Aq Tryz.prog 137 = true:=by kernel_rfl
theorem OU {R : Aa} {xs : List Value} {s : St} : Ag Tryz.prog R (.func (.func 137) #[] #[]) xs s = R 137 xs s:=Ak Sg
noncomputable def Ca.j0 (R : Aa) (T : List Value) (s : St) : Option (Value × St) :=
Ax (getL T 2)
 (retV [(.int .i64 40)] s)
 ((Ac 0 (getL T 1)).bind fun v8 =>
(Ap false 1 v8 (getL T 4)).bind fun v9 =>
(Ai v9 true ((Ac 1 (getL T 0)).bind fun v10 =>
(Ap false 1 v10 (getL T 3)).bind fun v11 =>
(Ag Tryz.prog R (.func (.func 133) #[] #[]) [v11] s).bind fun r12 =>
(abin Tryz.prog .neq 32 (.tmp 53) (.const (.int .i64 0)) r12.1 (.int .i64 0)).bind fun v13 =>
some ([v13],r12.2)) (some ([undef],s))).bind fun q14 =>
(AJ v9 (getL q14.1 0) (.bool false)).bind fun v15 =>
Ax v15
 (retV [(.int .i64 20)] q14.2)
 ((Ac 2 (getL T 0)).bind fun v16 =>
(Ap false 1 v16 (getL T 3)).bind fun v17 =>
(AG .string v17 q14.2).bind fun v18 =>
(abin Tryz.prog .gtr 3 (.tmp 59) (.const (.int .i64 16)) v18 (.int .i64 16)).bind fun v19 =>
Ax v19
 (retV [(.int .i64 2)] q14.2)
 ((Ac 2 (getL T 1)).bind fun v20 =>
(Ap false 1 v20 (getL T 4)).bind fun v21 =>
(Ai v21 true ((Ap true 6 (getL T 0) (getL T 3)).bind fun v22 =>
(Ag Tryz.prog R (.func (.func 166) #[] #[]) [v22] q14.2).bind fun r23 =>
(Ag Tryz.prog R (.func (.func 62) #[] #[]) [r23.1] r23.2).bind fun r24 =>
(abin Tryz.prog .neq 32 (.tmp 67) (.const (.int .i64 0)) r24.1 (.int .i64 0)).bind fun v25 =>
some ([v25],r24.2)) (some ([undef],q14.2))).bind fun q26 =>
(AJ v21 (getL q26.1 0) (.bool false)).bind fun v27 =>
Ax v27
 (retV [(.int .i64 21)] q26.2)
 ((Ac 3 (getL T 1)).bind fun v28 =>
(Ap false 1 v28 (getL T 4)).bind fun v29 =>
(Ai v29 true ((Ac 5 (getL T 0)).bind fun v30 =>
(Ap false 1 v30 (getL T 3)).bind fun v31 =>
(abin Tryz.prog .lss 3 (.tmp 75) (.const (.int .i64 1)) v31 (.int .i64 1)).bind fun v32 =>
some ([v32],q26.2)) (some ([undef],q26.2))).bind fun q33 =>
(Ai (getL q33.1 0) false ((Ac 5 (getL T 0)).bind fun v34 =>
(Ap false 1 v34 (getL T 3)).bind fun v35 =>
(abin Tryz.prog .gtr 3 (.tmp 79) (.const (.int .i64 4)) v35 (.int .i64 4)).bind fun v36 =>
some ([v36],q33.2)) (some ([undef],q33.2))).bind fun q37 =>
(Ai v29 true ((AJ (getL q33.1 0) (.bool true) (getL q37.1 0)).bind fun v38 =>
some ([v38],q37.2)) (some ([undef],q37.2))).bind fun q39 =>
(AJ v29 (getL q39.1 0) (.bool false)).bind fun v40 =>
Ax v40
 (retV [(.int .i64 1)] q39.2)
 (retV [(.int .i64 0)] q39.2)))))
noncomputable def Ca (R : Aa) (x0 : Value) (s : St) : Option (Value × St) :=
(lbox x0).bind fun v0 =>
(Ap false 1 lptr v0).bind fun v1 =>
(Ag Tryz.prog R (.func (.func 141) #[] #[]) [v1] s).bind fun r2 =>
(Al 0 r2.1).bind fun v3 =>
(Al 1 r2.1).bind fun v4 =>
(AO 6 lptr v3 (.agg #[(.bool false),(.bool false),(.bool false),(.bool false),(.bool false),.nilFunc])).bind fun v5 =>
(aun .not v4).bind fun v7 =>
Ax v7
 (Dh (Ca.j0 R) [lptr,lptr,v7,v0,v5] r2.2)
 ((Ap false 1 lptr v5).bind fun v41 =>
(aun .not v41).bind fun v42 =>
(Ai v42 true ((Ap false 1 (.pointer (some ⟨0,1,none⟩)) v0).bind fun v43 =>
(abin Tryz.prog .neq 9 (.tmp 19) (.const (.string ⟨#[]⟩)) v43 (.string ⟨#[]⟩)).bind fun v44 =>
some ([v44],r2.2)) (some ([undef],r2.2))).bind fun q45 =>
(AJ v42 (getL q45.1 0) (.bool false)).bind fun v46 =>
Ax v46
 (Dh (Ca.j0 R) [lptr,lptr,v46,v0,v5] q45.2)
 ((Ap false 1 (.pointer (some ⟨0,1,none⟩)) v5).bind fun v47 =>
(aun .not v47).bind fun v48 =>
(Ai v48 true ((Ap false 1 (.pointer (some ⟨0,2,none⟩)) v0).bind fun v49 =>
(abin Tryz.prog .neq 9 (.tmp 27) (.const (.string ⟨#[]⟩)) v49 (.string ⟨#[]⟩)).bind fun v50 =>
some ([v50],q45.2)) (some ([undef],q45.2))).bind fun q51 =>
(AJ v48 (getL q51.1 0) (.bool false)).bind fun v52 =>
Ax v52
 (Dh (Ca.j0 R) [lptr,lptr,v52,v0,v5] q51.2)
 ((Ap false 1 (.pointer (some ⟨0,2,none⟩)) v5).bind fun v53 =>
(aun .not v53).bind fun v54 =>
(Ai v54 true ((Ap true 6 lptr v0).bind fun v55 =>
(Ag Tryz.prog R (.func (.func 166) #[] #[]) [v55] q51.2).bind fun r56 =>
(abin Tryz.prog .neq 24 (.tmp 35) (.tmp 36) r56.1 (.agg #[(.string ⟨#[]⟩),(.string ⟨#[]⟩)])).bind fun v57 =>
some ([v57],r56.2)) (some ([undef],q51.2))).bind fun q58 =>
(AJ v54 (getL q58.1 0) (.bool false)).bind fun v59 =>
Ax v59
 (Dh (Ca.j0 R) [lptr,lptr,v59,v0,v5] q58.2)
 ((Ap false 1 (.pointer (some ⟨0,3,none⟩)) v5).bind fun v60 =>
(aun .not v60).bind fun v61 =>
(Ai v61 true ((Ap false 1 (.pointer (some ⟨0,5,none⟩)) v0).bind fun v62 =>
(abin Tryz.prog .neq 3 (.tmp 44) (.const (.int .i64 0)) v62 (.int .i64 0)).bind fun v63 =>
some ([v63],q58.2)) (some ([undef],q58.2))).bind fun q64 =>
(AJ v61 (getL q64.1 0) (.bool false)).bind fun v65 =>
Dh (Ca.j0 R) [lptr,lptr,v65,v0,v5] q64.2))))
theorem Sh {lib : Lib} (hl : lib 138 = none) {x0 : Value} {s : St} {r : Value × St} (h : Ca (run Tryz.prog lib Ad) x0 s = some r) : run Tryz.prog lib Ad 138 [x0] s = some r :=
  At hl Tryz.func138 (Eq.trans (by kernel_rfl) h)
theorem KQ : Aq Tryz.prog 138 = true:=by kernel_rfl
theorem If {R : Aa} {xs : List Value} {s : St} : Ag Tryz.prog R (.func (.func 138) #[] #[]) xs s = R 138 xs s:=Ak KQ
noncomputable def V5 (R : Aa) (s : St) : Option (Value × St) :=
retV [(.agg #[(.string ⟨#[]⟩),(.string ⟨#[]⟩)])] s
theorem U4 {lib : Lib} (hl : lib 139 = none) {s : St} {r : Value × St} (h : V5 (run Tryz.prog lib Ad)  s = some r) : run Tryz.prog lib Ad 139 [] s = some r :=
  At hl Tryz.func139 (Eq.trans (by kernel_rfl) h)
theorem OV : Aq Tryz.prog 139 = true:=by kernel_rfl
theorem Si {R : Aa} {xs : List Value} {s : St} : Ag Tryz.prog R (.func (.func 139) #[] #[]) xs s = R 139 xs s:=Ak OV
noncomputable def slices_IndexFunc_api_Op_api_Op.b0 (R : Aa) (T : List Value) (s : St) : Res :=
(abin Tryz.prog .lss 3 (.tmp 8) (.tmp 7) (getL T 3) (getL T 2)).bind fun v1 =>
Ax v1
 ((Az 6 (getL T 0) (getL T 3)).bind fun v2 =>
(Aj true 6 v2 s).bind fun v3 =>
(Ag Tryz.prog R (getL T 1) [v3] s).bind fun r4 =>
Ax r4.1
 (some (.ret,[(getL T 3)],r4.2))
 ((abin Tryz.prog .add 3 (.tmp 8) (.const (.int .i64 1)) (getL T 3) (.int .i64 1)).bind fun v5 =>
some (.normal,[(getL T 0),(getL T 1),(getL T 2),v5],r4.2)))
 (some (.exit 0,[],s))
noncomputable def slices_IndexFunc_api_Op_api_Op (R : Aa) (x0 x1 : Value) (s : St) : Option (Value × St) :=
(AG (.slice 69) x0 s).bind fun v0 =>
(AS (slices_IndexFunc_api_Op_api_Op.b0 R) [x0,x1,v0,(.int .i64 0)] s).bind fun r6 =>
exV r6.1 [(0,retV [(.int .i64 (-1))] r6.2.2)]
 (retV [(getL r6.2.1 0)] r6.2.2)
theorem D2 {lib : Lib} (hl : lib 140 = none) {x0 x1 : Value} {s : St} {r : Value × St} (h : slices_IndexFunc_api_Op_api_Op (run Tryz.prog lib Ad) x0 x1 s = some r) : run Tryz.prog lib Ad 140 [x0,x1] s = some r :=
  At hl Tryz.func140 (Eq.trans (by kernel_rfl) h)
theorem D3 : Aq Tryz.prog 140 = true:=by kernel_rfl
theorem DG {R : Aa} {xs : List Value} {s : St} : Ag Tryz.prog R (.func (.func 140) #[] #[]) xs s = R 140 xs s:=Ak D3
noncomputable def OW (R : Aa) (x0 : Value) (s : St) : Option (Value × St) :=
(abin Tryz.prog .lss 3 (.tmp 4) (.const (.int .i64 1)) x0 (.int .i64 1)).bind fun v0 =>
(Ai v0 false ((abin Tryz.prog .gtr 3 (.tmp 7) (.const (.int .i64 5)) x0 (.int .i64 5)).bind fun v1 =>
some ([v1],s)) (some ([undef],s))).bind fun q2 =>
(AJ v0 (.bool true) (getL q2.1 0)).bind fun v3 =>
Ax v3
 (retV [(.agg #[(.bool false),(.bool false),(.bool false),(.bool false),(.bool false),.nilFunc]),(.bool false)] q2.2)
 ((Ag Tryz.prog R (.func (.func 167) #[] #[]) [] q2.2).bind fun r4 =>
(HN true 6 6 r4.1 x0).bind fun v5 =>
(AO 6 lptr v5 (.agg #[(.bool false),(.bool false),(.bool false),(.bool false),(.bool false),.nilFunc])).bind fun v6 =>
(Ap true 6 lptr v6).bind fun v7 =>
retV [v7,(.bool true)] r4.2)
theorem TA {lib : Lib} (hl : lib 141 = none) {x0 : Value} {s : St} {r : Value × St} (h : OW (run Tryz.prog lib Ad) x0 s = some r) : run Tryz.prog lib Ad 141 [x0] s = some r :=
  At hl Tryz.func141 (Eq.trans (by kernel_rfl) h)
theorem Mq : Aq Tryz.prog 141 = true:=by kernel_rfl
theorem Jk {R : Aa} {xs : List Value} {s : St} : Ag Tryz.prog R (.func (.func 141) #[] #[]) xs s = R 141 xs s:=Ak Mq
noncomputable def QS (R : Aa) (x0 x1 x2 : Value) (s : St) : Option (Value × St) :=
(Aj false 1 x2 s).bind fun v0 =>
(Ag Tryz.prog R v0 [x1] s).bind fun r1 =>
(Ah r1.1).bind fun v2 =>
(Aj false 1 v2 r1.2).bind fun v3 =>
(Ag Tryz.prog R (.func (.func 45) #[] #[]) [v3] r1.2).bind fun r4 =>
(AD 1 1 x0 r4.1 r4.2).bind fun r5 =>
retV [r5.1] r5.2
theorem Sj {lib : Lib} (hl : lib 142 = none) {x0 x1 x2 : Value} {s : St} {r : Value × St} (h : QS (run Tryz.prog lib Ad) x0 x1 x2 s = some r) : run Tryz.prog lib Ad 142 [x0,x1,x2] s = some r :=
  At hl Tryz.func142 (Eq.trans (by kernel_rfl) h)
theorem Sk : Aq Tryz.prog 142 = true:=by kernel_rfl
noncomputable def QT (R : Aa) (x0 x1 x2 : Value) (s : St) : Option (Value × St) :=
(Aj false 1 x2 s).bind fun v0 =>
(Ag Tryz.prog R v0 [x1] s).bind fun r1 =>
(Ag Tryz.prog R (.func (.func 144) #[] #[]) [x0] r1.2).bind fun r2 =>
(Ah r1.1).bind fun v3 =>
(A4 1 v3 r2.1 r2.2).bind fun s4 =>
retV [] s4
theorem Sl {lib : Lib} (hl : lib 143 = none) {x0 x1 x2 : Value} {s : St} {r : Value × St} (h : QT (run Tryz.prog lib Ad) x0 x1 x2 s = some r) : run Tryz.prog lib Ad 143 [x0,x1,x2] s = some r :=
  At hl Tryz.func143 (Eq.trans (by kernel_rfl) h)
theorem Sm : Aq Tryz.prog 143 = true:=by kernel_rfl
noncomputable def D4 (R : Aa) (x0 : Value) (s : St) : Option (Value × St) :=
(Ah x0).bind fun v0 =>
(Ac 1 v0).bind fun v1 =>
(Aj false 1 v1 s).bind fun v2 =>
(abin Tryz.prog .neq 32 (.tmp 9) (.const (.int .i64 0)) v2 (.int .i64 0)).bind fun v3 =>
Ax v3
 (retV [(.int .u64 0)] s)
 ((Ah x0).bind fun v4 =>
(Ac 0 v4).bind fun v5 =>
(Aj false 1 v5 s).bind fun v6 =>
(Ag Tryz.prog R (.func (.func 117) #[] #[]) [v6] s).bind fun r7 =>
(Al 0 r7.1).bind fun v8 =>
(Al 1 r7.1).bind fun v9 =>
(Al 2 r7.1).bind fun v10 =>
(abin Tryz.prog .neq 32 (.tmp 20) (.const (.int .i64 0)) v10 (.int .i64 0)).bind fun v11 =>
Ax v11
 ((Ag Tryz.prog R (.func (.func 36) #[] #[]) [x0,v10] r7.2).bind fun r12 =>
retV [(.int .u64 0)] r12.2)
 ((Ah x0).bind fun v13 =>
(Ac 0 v13).bind fun v14 =>
(Aj false 1 v14 r7.2).bind fun v15 =>
(Bn 1 v15 (some v9) none none).bind fun v16 =>
(Ah x0).bind fun v17 =>
(Ac 0 v17).bind fun v18 =>
(A4 1 v18 v16 r7.2).bind fun s19 =>
retV [v8] s19))
theorem D5 {lib : Lib} (hl : lib 144 = none) {x0 : Value} {s : St} {r : Value × St} (h : D4 (run Tryz.prog lib Ad) x0 s = some r) : run Tryz.prog lib Ad 144 [x0] s = some r :=
  At hl Tryz.func144 (Eq.trans (by kernel_rfl) h)
theorem KR : Aq Tryz.prog 144 = true:=by kernel_rfl
theorem Dj {R : Aa} {xs : List Value} {s : St} : Ag Tryz.prog R (.func (.func 144) #[] #[]) xs s = R 144 xs s:=Ak KR
noncomputable def wire_num_3 (R : Aa) (x0 x1 : Value) (s : St) : Option (Value × St) :=
(Aj false 1 x1 s).bind fun v0 =>
(Ag Tryz.prog R v0 [x0] s).bind fun r1 =>
(Ah r1.1).bind fun v2 =>
(Aj false 1 v2 r1.2).bind fun v3 =>
(abin Tryz.prog .eql 22 (.tmp 8) (.const (.int .u64 0)) v3 (.int .u64 0)).bind fun v4 =>
retV [v4] r1.2
theorem Sn {lib : Lib} (hl : lib 145 = none) {x0 x1 : Value} {s : St} {r : Value × St} (h : wire_num_3 (run Tryz.prog lib Ad) x0 x1 s = some r) : run Tryz.prog lib Ad 145 [x0,x1] s = some r :=
  At hl Tryz.func145 (Eq.trans (by kernel_rfl) h)
theorem So : Aq Tryz.prog 145 = true:=by kernel_rfl
noncomputable def Mr (R : Aa) (x0 x1 x2 : Value) (s : St) : Option (Value × St) :=
(Aj false 1 x2 s).bind fun v0 =>
(Ag Tryz.prog R v0 [x1] s).bind fun r1 =>
(Ah r1.1).bind fun v2 =>
(Aj false 1 v2 r1.2).bind fun v3 =>
(AM .u8 v3).bind fun v4 =>
(As 1 [(.int .u8 0)] 1 [(0,v4)] r1.2).bind fun r5 =>
(AD 1 1 x0 r5.1 r5.2).bind fun r6 =>
retV [r6.1] r6.2
theorem OX {lib : Lib} (hl : lib 146 = none) {x0 x1 x2 : Value} {s : St} {r : Value × St} (h : Mr (run Tryz.prog lib Ad) x0 x1 x2 s = some r) : run Tryz.prog lib Ad 146 [x0,x1,x2] s = some r :=
  At hl Tryz.func146 (Eq.trans (by kernel_rfl) h)
theorem OY : Aq Tryz.prog 146 = true:=by kernel_rfl
noncomputable def Mt (R : Aa) (x0 x1 x2 : Value) (s : St) : Option (Value × St) :=
(Aj false 1 x2 s).bind fun v0 =>
(Ag Tryz.prog R v0 [x1] s).bind fun r1 =>
(Ag Tryz.prog R (.func (.func 35) #[] #[]) [x0] r1.2).bind fun r2 =>
(Ah r1.1).bind fun v3 =>
(A4 1 v3 r2.1 r2.2).bind fun s4 =>
retV [] s4
theorem OZ {lib : Lib} (hl : lib 147 = none) {x0 x1 x2 : Value} {s : St} {r : Value × St} (h : Mt (run Tryz.prog lib Ad) x0 x1 x2 s = some r) : run Tryz.prog lib Ad 147 [x0,x1,x2] s = some r :=
  At hl Tryz.func147 (Eq.trans (by kernel_rfl) h)
theorem O0 : Aq Tryz.prog 147 = true:=by kernel_rfl
noncomputable def wire_small_3 (R : Aa) (x0 x1 : Value) (s : St) : Option (Value × St) :=
(Aj false 1 x1 s).bind fun v0 =>
(Ag Tryz.prog R v0 [x0] s).bind fun r1 =>
(Ah r1.1).bind fun v2 =>
(Aj false 1 v2 r1.2).bind fun v3 =>
(abin Tryz.prog .eql 3 (.tmp 8) (.const (.int .i64 0)) v3 (.int .i64 0)).bind fun v4 =>
retV [v4] r1.2
theorem O1 {lib : Lib} (hl : lib 148 = none) {x0 x1 : Value} {s : St} {r : Value × St} (h : wire_small_3 (run Tryz.prog lib Ad) x0 x1 s = some r) : run Tryz.prog lib Ad 148 [x0,x1] s = some r :=
  At hl Tryz.func148 (Eq.trans (by kernel_rfl) h)
theorem O2 : Aq Tryz.prog 148 = true:=by kernel_rfl
noncomputable def LE (R : Aa) (x0 : Value) (s : St) : Option (Value × St) :=
(AG .string x0 s).bind fun v0 =>
(AM .u64 v0).bind fun v1 =>
(Ag Tryz.prog R (.func (.func 45) #[] #[]) [v1] s).bind fun r2 =>
(AD 1 1 r2.1 x0 r2.2).bind fun r3 =>
retV [r3.1] r3.2
theorem Sp {lib : Lib} (hl : lib 149 = none) {x0 : Value} {s : St} {r : Value × St} (h : LE (run Tryz.prog lib Ad) x0 s = some r) : run Tryz.prog lib Ad 149 [x0] s = some r :=
  At hl Tryz.func149 (Eq.trans (by kernel_rfl) h)
theorem KS : Aq Tryz.prog 149 = true:=by kernel_rfl
theorem O3 {R : Aa} {xs : List Value} {s : St} : Ag Tryz.prog R (.func (.func 149) #[] #[]) xs s = R 149 xs s:=Ak KS
noncomputable def Ge (R : Aa) (x0 x1 : Value) (s : St) : Option (Value × St) :=
(Ag Tryz.prog R (.func (.func 117) #[] #[]) [x0] s).bind fun r0 =>
(Al 0 r0.1).bind fun v1 =>
(Al 1 r0.1).bind fun v2 =>
(Al 2 r0.1).bind fun v3 =>
(abin Tryz.prog .neq 32 (.tmp 17) (.const (.int .i64 0)) v3 (.int .i64 0)).bind fun v4 =>
Ax v4
 (retV [(.string ⟨#[]⟩),(.int .i64 0),v3] r0.2)
 ((abin Tryz.prog .lss 3 (.tmp 21) (.const (.int .i64 0)) x1 (.int .i64 0)).bind fun v5 =>
(Ai v5 false ((AM .u64 x1).bind fun v6 =>
(abin Tryz.prog .gtr 22 (.tmp 24) (.tmp 26) v1 v6).bind fun v7 =>
some ([v7],r0.2)) (some ([undef],r0.2))).bind fun q8 =>
(AJ v5 (.bool true) (getL q8.1 0)).bind fun v9 =>
Ax v9
 (retV [(.string ⟨#[]⟩),(.int .i64 0),(.int .i64 2)] q8.2)
 ((AG (.slice 5) x0 q8.2).bind fun v10 =>
(abin Tryz.prog .sub 3 (.tmp 32) (.tmp 33) v10 v2).bind fun v11 =>
(AM .u64 v11).bind fun v12 =>
(abin Tryz.prog .gtr 22 (.tmp 30) (.tmp 35) v1 v12).bind fun v13 =>
Ax v13
 (retV [(.string ⟨#[]⟩),(.int .i64 0),(.int .i64 10)] q8.2)
 ((AM .i64 v1).bind fun v14 =>
(abin Tryz.prog .add 3 (.tmp 39) (.tmp 41) v2 v14).bind fun v15 =>
(Bn 1 x0 (some v2) (some v15) none).bind fun v16 =>
(BE v16 q8.2).bind fun v17 =>
(AM .i64 v1).bind fun v18 =>
(abin Tryz.prog .add 3 (.tmp 45) (.tmp 47) v2 v18).bind fun v19 =>
retV [v17,v19,(.int .i64 0)] q8.2)))
theorem LF {lib : Lib} (hl : lib 150 = none) {x0 x1 : Value} {s : St} {r : Value × St} (h : Ge (run Tryz.prog lib Ad) x0 x1 s = some r) : run Tryz.prog lib Ad 150 [x0,x1] s = some r :=
  At hl Tryz.func150 (Eq.trans (by kernel_rfl) h)
theorem GJ : Aq Tryz.prog 150 = true:=by kernel_rfl
theorem DH {R : Aa} {xs : List Value} {s : St} : Ag Tryz.prog R (.func (.func 150) #[] #[]) xs s = R 150 xs s:=Ak GJ
noncomputable def Bw.b0 (R : Aa) (T : List Value) (s : St) : Res :=
(abin Tryz.prog .lss 3 (.tmp 25) (.tmp 24) (getL T 4) (getL T 3)).bind fun v13 =>
Ax v13
 ((Az 6 (getL T 2) (getL T 4)).bind fun v14 =>
(Aj true 6 v14 s).bind fun v15 =>
(AO 6 lptr v15 (.agg #[(.int .i64 0),(.string ⟨#[]⟩),(.string ⟨#[]⟩),(.string ⟨#[]⟩),(.string ⟨#[]⟩),(.int .i64 0)])).bind fun v16 =>
(Aj false 1 (getL T 1) s).bind fun v17 =>
(Ap true 6 lptr v16).bind fun v18 =>
(Ag Tryz.prog R v17 [(getL T 0),v18] s).bind fun r19 =>
(abin Tryz.prog .add 3 (.tmp 25) (.const (.int .i64 1)) (getL T 4) (.int .i64 1)).bind fun v20 =>
some (.normal,[r19.1,(getL T 1),(getL T 2),(getL T 3),v20],r19.2))
 (some (.exit 0,[(getL T 0)],s))
noncomputable def Bw (R : Aa) (x0 x1 x2 x3 : Value) (s : St) : Option (Value × St) :=
(Aj false 1 x2 s).bind fun v0 =>
(Ag Tryz.prog R v0 [x1] s).bind fun r1 =>
(Ah r1.1).bind fun v2 =>
(Aj false 1 v2 r1.2).bind fun v3 =>
(AG (.slice 69) v3 r1.2).bind fun v4 =>
(AM .u64 v4).bind fun v5 =>
(Ag Tryz.prog R (.func (.func 45) #[] #[]) [v5] r1.2).bind fun r6 =>
(AD 1 1 x0 r6.1 r6.2).bind fun r7 =>
(Aj false 1 x2 r7.2).bind fun v8 =>
(Ag Tryz.prog R v8 [x1] r7.2).bind fun r9 =>
(Ah r9.1).bind fun v10 =>
(Aj false 1 v10 r9.2).bind fun v11 =>
(AG (.slice 69) v11 r9.2).bind fun v12 =>
(AS (Bw.b0 R) [r7.1,x3,v11,v12,(.int .i64 0)] r9.2).bind fun r21 =>
exV r21.1 [(0,retV [(getL r21.2.1 0)] r21.2.2)]
 (none)
theorem Ig {lib : Lib} (hl : lib 151 = none) {x0 x1 x2 x3 : Value} {s : St} {r : Value × St} (h : Bw (run Tryz.prog lib Ad) x0 x1 x2 x3 s = some r) : run Tryz.prog lib Ad 151 [x0,x1,x2,x3] s = some r :=
  At hl Tryz.func151 (Eq.trans (by kernel_rfl) h)
theorem Ih : Aq Tryz.prog 151 = true:=by kernel_rfl
noncomputable def Bm.b0 (R : Aa) (T : List Value) (s : St) : Res :=
(abin Tryz.prog .gtr 3 (.tmp 9) (.const (.int .i64 0)) (getL T 4) (.int .i64 0)).bind fun v1 =>
(Ai v1 true ((Ah (getL T 0)).bind fun v2 =>
(Ac 1 v2).bind fun v3 =>
(Aj false 1 v3 s).bind fun v4 =>
(abin Tryz.prog .eql 32 (.tmp 15) (.const (.int .i64 0)) v4 (.int .i64 0)).bind fun v5 =>
some ([v5],s)) (some ([undef],s))).bind fun q6 =>
(AJ v1 (getL q6.1 0) (.bool false)).bind fun v7 =>
Ax v7
 (((Aj false 1 (getL T 2) q6.2).bind fun v8 =>
(Ag Tryz.prog R v8 [(getL T 1)] q6.2).bind fun r9 =>
(Aj false 1 (getL T 2) r9.2).bind fun v10 =>
(Ag Tryz.prog R v10 [(getL T 1)] r9.2).bind fun r11 =>
(Ah r11.1).bind fun v12 =>
(Aj false 1 v12 r11.2).bind fun v13 =>
(Aj false 1 (getL T 3) r11.2).bind fun v14 =>
(Ag Tryz.prog R v14 [(getL T 0)] r11.2).bind fun r15 =>
(As 6 [(.int .i64 0),(.string ⟨#[]⟩),(.string ⟨#[]⟩),(.string ⟨#[]⟩),(.string ⟨#[]⟩),(.int .i64 0)] 1 [(0,r15.1)] r15.2).bind fun r16 =>
(AD 6 80 v13 r16.1 r16.2).bind fun r17 =>
(Ah r9.1).bind fun v18 =>
(A4 1 v18 r17.1 r17.2).bind fun s19 =>
some [v12]).bind fun q20 =>
(((Aj false 1 (getL T 2) (⟨frzK [] 0 (q6.2).heap⟩ : St)).bind fun v43 =>
some (v43,(⟨frzK [] 0 (q6.2).heap⟩ : St))).bind (Bz [] q6.2)).bind fun r21 =>
(((Ag Tryz.prog R r21.1 [(getL T 1)] (⟨frzK [] 0 (r21.2).heap⟩ : St)).bind fun r42 =>
some (r42.1,r42.2)).bind (Bz [] r21.2)).bind fun r22 =>
(((Aj false 1 (getL T 2) (⟨frzK [] 0 (r22.2).heap⟩ : St)).bind fun v41 =>
some (v41,(⟨frzK [] 0 (r22.2).heap⟩ : St))).bind (Bz [] r22.2)).bind fun r23 =>
(((Ag Tryz.prog R r23.1 [(getL T 1)] (⟨frzK [] 0 (r23.2).heap⟩ : St)).bind fun r40 =>
some (r40.1,r40.2)).bind (Bz [] r23.2)).bind fun r24 =>
(Ah r24.1).bind fun v25 =>
(((Aj false 1 v25 (⟨frzK ((CT (q6.2).heap.length (q20.drop 0)) ++ []) 0 (r24.2).heap⟩ : St)).bind fun v39 =>
some (v39,(⟨frzK ((CT (q6.2).heap.length (q20.drop 0)) ++ []) 0 (r24.2).heap⟩ : St))).bind (Bz ((CT (q6.2).heap.length (q20.drop 0)) ++ []) r24.2)).bind fun r26 =>
(((Aj false 1 (getL T 3) (⟨frzK [] 0 (r26.2).heap⟩ : St)).bind fun v38 =>
some (v38,(⟨frzK [] 0 (r26.2).heap⟩ : St))).bind (Bz [] r26.2)).bind fun r27 =>
(((Ag Tryz.prog R r27.1 [(getL T 0)] (⟨Er (CT (q6.2).heap.length (q20.drop 0)) 0 (r27.2).heap⟩ : St)).bind fun r37 =>
some (r37.1,r37.2)).bind (appR (CT (q6.2).heap.length (q20.drop 0)) [] r27.2)).bind fun r28 =>
(((As 6 [(.int .i64 0),(.string ⟨#[]⟩),(.string ⟨#[]⟩),(.string ⟨#[]⟩),(.string ⟨#[]⟩),(.int .i64 0)] 1 [(0,r28.1)] (⟨frzK [] 0 (r28.2).heap⟩ : St)).bind fun r36 =>
some (r36.1,r36.2)).bind (Bz [] r28.2)).bind fun r29 =>
(((AD 6 80 r26.1 r29.1 r29.2).bind fun r35 =>
some (r35.1,r35.2)).bind (ownR r29.2)).bind fun r30 =>
(Ah r22.1).bind fun v31 =>
(((A4 1 v31 r30.1 r30.2).bind fun s34 =>
some (undef,s34)).bind (ownR r30.2)).bind fun r32 =>
(abin Tryz.prog .sub 3 (.tmp 18) (.const (.int .i64 1)) (getL T 4) (.int .i64 1)).bind fun v33 =>
some (.normal,[(getL T 0),(getL T 1),(getL T 2),(getL T 3),v33],r32.2))
 (some (.exit 0,[],q6.2))
noncomputable def Bm (R : Aa) (x0 x1 x2 x3 : Value) (s : St) : Option (Value × St) :=
(Ag Tryz.prog R (.func (.func 153) #[] #[]) [x0] s).bind fun r0 =>
(AS (Bm.b0 R) [x0,x1,x2,x3,r0.1] r0.2).bind fun r44 =>
exV r44.1 [(0,retV [] r44.2.2)]
 (none)
theorem Ii {lib : Lib} (hl : lib 152 = none) {x0 x1 x2 x3 : Value} {s : St} {r : Value × St} (h : Bm (run Tryz.prog lib Ad) x0 x1 x2 x3 s = some r) : run Tryz.prog lib Ad 152 [x0,x1,x2,x3] s = some r :=
  At hl Tryz.func152 (Eq.trans (by kernel_rfl) h)
theorem Ij : Aq Tryz.prog 152 = true:=by kernel_rfl
noncomputable def EN (R : Aa) (x0 : Value) (s : St) : Option (Value × St) :=
(Ag Tryz.prog R (.func (.func 144) #[] #[]) [x0] s).bind fun r0 =>
(abin Tryz.prog .gtr 22 (.tmp 6) (.const (.int .u64 255)) r0.1 (.int .u64 255)).bind fun v1 =>
Ax v1
 ((Ag Tryz.prog R (.func (.func 36) #[] #[]) [x0,(.int .i64 11)] r0.2).bind fun r2 =>
retV [(.int .i64 0)] r2.2)
 ((AM .i64 r0.1).bind fun v3 =>
retV [v3] r0.2)
theorem FB {lib : Lib} (hl : lib 153 = none) {x0 : Value} {s : St} {r : Value × St} (h : EN (run Tryz.prog lib Ad) x0 s = some r) : run Tryz.prog lib Ad 153 [x0] s = some r :=
  At hl Tryz.func153 (Eq.trans (by kernel_rfl) h)
theorem JW : Aq Tryz.prog 153 = true:=by kernel_rfl
theorem Cg {R : Aa} {xs : List Value} {s : St} : Ag Tryz.prog R (.func (.func 153) #[] #[]) xs s = R 153 xs s:=Ak JW
noncomputable def wire_list_api_Op_3 (R : Aa) (x0 x1 : Value) (s : St) : Option (Value × St) :=
(Aj false 1 x1 s).bind fun v0 =>
(Ag Tryz.prog R v0 [x0] s).bind fun r1 =>
(Ah r1.1).bind fun v2 =>
(Aj false 1 v2 r1.2).bind fun v3 =>
(AG (.slice 69) v3 r1.2).bind fun v4 =>
(abin Tryz.prog .eql 3 (.tmp 9) (.const (.int .i64 0)) v4 (.int .i64 0)).bind fun v5 =>
retV [v5] r1.2
theorem Ik {lib : Lib} (hl : lib 154 = none) {x0 x1 : Value} {s : St} {r : Value × St} (h : wire_list_api_Op_3 (run Tryz.prog lib Ad) x0 x1 s = some r) : run Tryz.prog lib Ad 154 [x0,x1] s = some r :=
  At hl Tryz.func154 (Eq.trans (by kernel_rfl) h)
theorem Il : Aq Tryz.prog 154 = true:=by kernel_rfl
noncomputable def Bc.b0 (R : Aa) (T : List Value) (s : St) : Res :=
(abin Tryz.prog .lss 3 (.tmp 25) (.tmp 24) (getL T 4) (getL T 3)).bind fun v13 =>
Ax v13
 ((Az 3 (getL T 2) (getL T 4)).bind fun v14 =>
(Aj true 3 v14 s).bind fun v15 =>
(AO 3 lptr v15 (.agg #[(.bool false),(.string ⟨#[]⟩),(.slice none 0 0)])).bind fun v16 =>
(Aj false 1 (getL T 1) s).bind fun v17 =>
(Ap true 3 lptr v16).bind fun v18 =>
(Ag Tryz.prog R v17 [(getL T 0),v18] s).bind fun r19 =>
(abin Tryz.prog .add 3 (.tmp 25) (.const (.int .i64 1)) (getL T 4) (.int .i64 1)).bind fun v20 =>
some (.normal,[r19.1,(getL T 1),(getL T 2),(getL T 3),v20],r19.2))
 (some (.exit 0,[(getL T 0)],s))
noncomputable def Bc (R : Aa) (x0 x1 x2 x3 : Value) (s : St) : Option (Value × St) :=
(Aj false 1 x2 s).bind fun v0 =>
(Ag Tryz.prog R v0 [x1] s).bind fun r1 =>
(Ah r1.1).bind fun v2 =>
(Aj false 1 v2 r1.2).bind fun v3 =>
(AG (.slice 87) v3 r1.2).bind fun v4 =>
(AM .u64 v4).bind fun v5 =>
(Ag Tryz.prog R (.func (.func 45) #[] #[]) [v5] r1.2).bind fun r6 =>
(AD 1 1 x0 r6.1 r6.2).bind fun r7 =>
(Aj false 1 x2 r7.2).bind fun v8 =>
(Ag Tryz.prog R v8 [x1] r7.2).bind fun r9 =>
(Ah r9.1).bind fun v10 =>
(Aj false 1 v10 r9.2).bind fun v11 =>
(AG (.slice 87) v11 r9.2).bind fun v12 =>
(AS (Bc.b0 R) [r7.1,x3,v11,v12,(.int .i64 0)] r9.2).bind fun r21 =>
exV r21.1 [(0,retV [(getL r21.2.1 0)] r21.2.2)]
 (none)
theorem Gf {lib : Lib} (hl : lib 155 = none) {x0 x1 x2 x3 : Value} {s : St} {r : Value × St} (h : Bc (run Tryz.prog lib Ad) x0 x1 x2 x3 s = some r) : run Tryz.prog lib Ad 155 [x0,x1,x2,x3] s = some r :=
  At hl Tryz.func155 (Eq.trans (by kernel_rfl) h)
theorem Gg : Aq Tryz.prog 155 = true:=by kernel_rfl
noncomputable def A1.b0 (R : Aa) (T : List Value) (s : St) : Res :=
(abin Tryz.prog .gtr 3 (.tmp 9) (.const (.int .i64 0)) (getL T 4) (.int .i64 0)).bind fun v1 =>
(Ai v1 true ((Ah (getL T 0)).bind fun v2 =>
(Ac 1 v2).bind fun v3 =>
(Aj false 1 v3 s).bind fun v4 =>
(abin Tryz.prog .eql 32 (.tmp 15) (.const (.int .i64 0)) v4 (.int .i64 0)).bind fun v5 =>
some ([v5],s)) (some ([undef],s))).bind fun q6 =>
(AJ v1 (getL q6.1 0) (.bool false)).bind fun v7 =>
Ax v7
 (((Aj false 1 (getL T 2) q6.2).bind fun v8 =>
(Ag Tryz.prog R v8 [(getL T 1)] q6.2).bind fun r9 =>
(Aj false 1 (getL T 2) r9.2).bind fun v10 =>
(Ag Tryz.prog R v10 [(getL T 1)] r9.2).bind fun r11 =>
(Ah r11.1).bind fun v12 =>
(Aj false 1 v12 r11.2).bind fun v13 =>
(Aj false 1 (getL T 3) r11.2).bind fun v14 =>
(Ag Tryz.prog R v14 [(getL T 0)] r11.2).bind fun r15 =>
(As 3 [(.bool false),(.string ⟨#[]⟩),(.slice none 0 0)] 1 [(0,r15.1)] r15.2).bind fun r16 =>
(AD 3 48 v13 r16.1 r16.2).bind fun r17 =>
(Ah r9.1).bind fun v18 =>
(A4 1 v18 r17.1 r17.2).bind fun s19 =>
some [v12]).bind fun q20 =>
(((Aj false 1 (getL T 2) (⟨frzK [] 0 (q6.2).heap⟩ : St)).bind fun v43 =>
some (v43,(⟨frzK [] 0 (q6.2).heap⟩ : St))).bind (Bz [] q6.2)).bind fun r21 =>
(((Ag Tryz.prog R r21.1 [(getL T 1)] (⟨frzK [] 0 (r21.2).heap⟩ : St)).bind fun r42 =>
some (r42.1,r42.2)).bind (Bz [] r21.2)).bind fun r22 =>
(((Aj false 1 (getL T 2) (⟨frzK [] 0 (r22.2).heap⟩ : St)).bind fun v41 =>
some (v41,(⟨frzK [] 0 (r22.2).heap⟩ : St))).bind (Bz [] r22.2)).bind fun r23 =>
(((Ag Tryz.prog R r23.1 [(getL T 1)] (⟨frzK [] 0 (r23.2).heap⟩ : St)).bind fun r40 =>
some (r40.1,r40.2)).bind (Bz [] r23.2)).bind fun r24 =>
(Ah r24.1).bind fun v25 =>
(((Aj false 1 v25 (⟨frzK ((CT (q6.2).heap.length (q20.drop 0)) ++ []) 0 (r24.2).heap⟩ : St)).bind fun v39 =>
some (v39,(⟨frzK ((CT (q6.2).heap.length (q20.drop 0)) ++ []) 0 (r24.2).heap⟩ : St))).bind (Bz ((CT (q6.2).heap.length (q20.drop 0)) ++ []) r24.2)).bind fun r26 =>
(((Aj false 1 (getL T 3) (⟨frzK [] 0 (r26.2).heap⟩ : St)).bind fun v38 =>
some (v38,(⟨frzK [] 0 (r26.2).heap⟩ : St))).bind (Bz [] r26.2)).bind fun r27 =>
(((Ag Tryz.prog R r27.1 [(getL T 0)] (⟨Er (CT (q6.2).heap.length (q20.drop 0)) 0 (r27.2).heap⟩ : St)).bind fun r37 =>
some (r37.1,r37.2)).bind (appR (CT (q6.2).heap.length (q20.drop 0)) [] r27.2)).bind fun r28 =>
(((As 3 [(.bool false),(.string ⟨#[]⟩),(.slice none 0 0)] 1 [(0,r28.1)] (⟨frzK [] 0 (r28.2).heap⟩ : St)).bind fun r36 =>
some (r36.1,r36.2)).bind (Bz [] r28.2)).bind fun r29 =>
(((AD 3 48 r26.1 r29.1 r29.2).bind fun r35 =>
some (r35.1,r35.2)).bind (ownR r29.2)).bind fun r30 =>
(Ah r22.1).bind fun v31 =>
(((A4 1 v31 r30.1 r30.2).bind fun s34 =>
some (undef,s34)).bind (ownR r30.2)).bind fun r32 =>
(abin Tryz.prog .sub 3 (.tmp 18) (.const (.int .i64 1)) (getL T 4) (.int .i64 1)).bind fun v33 =>
some (.normal,[(getL T 0),(getL T 1),(getL T 2),(getL T 3),v33],r32.2))
 (some (.exit 0,[],q6.2))
noncomputable def A1 (R : Aa) (x0 x1 x2 x3 : Value) (s : St) : Option (Value × St) :=
(Ag Tryz.prog R (.func (.func 153) #[] #[]) [x0] s).bind fun r0 =>
(AS (A1.b0 R) [x0,x1,x2,x3,r0.1] r0.2).bind fun r44 =>
exV r44.1 [(0,retV [] r44.2.2)]
 (none)
theorem Gh {lib : Lib} (hl : lib 156 = none) {x0 x1 x2 x3 : Value} {s : St} {r : Value × St} (h : A1 (run Tryz.prog lib Ad) x0 x1 x2 x3 s = some r) : run Tryz.prog lib Ad 156 [x0,x1,x2,x3] s = some r :=
  At hl Tryz.func156 (Eq.trans (by kernel_rfl) h)
theorem Gi : Aq Tryz.prog 156 = true:=by kernel_rfl
noncomputable def wire_list_api_Result_3 (R : Aa) (x0 x1 : Value) (s : St) : Option (Value × St) :=
(Aj false 1 x1 s).bind fun v0 =>
(Ag Tryz.prog R v0 [x0] s).bind fun r1 =>
(Ah r1.1).bind fun v2 =>
(Aj false 1 v2 r1.2).bind fun v3 =>
(AG (.slice 87) v3 r1.2).bind fun v4 =>
(abin Tryz.prog .eql 3 (.tmp 9) (.const (.int .i64 0)) v4 (.int .i64 0)).bind fun v5 =>
retV [v5] r1.2
theorem Gj {lib : Lib} (hl : lib 157 = none) {x0 x1 : Value} {s : St} {r : Value × St} (h : wire_list_api_Result_3 (run Tryz.prog lib Ad) x0 x1 s = some r) : run Tryz.prog lib Ad 157 [x0,x1] s = some r :=
  At hl Tryz.func157 (Eq.trans (by kernel_rfl) h)
theorem Gk : Aq Tryz.prog 157 = true:=by kernel_rfl
noncomputable def Bf.b0 (R : Aa) (T : List Value) (s : St) : Res :=
(abin Tryz.prog .lss 3 (.tmp 25) (.tmp 24) (getL T 4) (getL T 3)).bind fun v13 =>
Ax v13
 ((Az 2 (getL T 2) (getL T 4)).bind fun v14 =>
(Aj true 2 v14 s).bind fun v15 =>
(AO 2 lptr v15 (.agg #[(.string ⟨#[]⟩),(.int .i64 0)])).bind fun v16 =>
(Aj false 1 (getL T 1) s).bind fun v17 =>
(Ap true 2 lptr v16).bind fun v18 =>
(Ag Tryz.prog R v17 [(getL T 0),v18] s).bind fun r19 =>
(abin Tryz.prog .add 3 (.tmp 25) (.const (.int .i64 1)) (getL T 4) (.int .i64 1)).bind fun v20 =>
some (.normal,[r19.1,(getL T 1),(getL T 2),(getL T 3),v20],r19.2))
 (some (.exit 0,[(getL T 0)],s))
noncomputable def Bf (R : Aa) (x0 x1 x2 x3 : Value) (s : St) : Option (Value × St) :=
(Aj false 1 x2 s).bind fun v0 =>
(Ag Tryz.prog R v0 [x1] s).bind fun r1 =>
(Ah r1.1).bind fun v2 =>
(Aj false 1 v2 r1.2).bind fun v3 =>
(AG (.slice 91) v3 r1.2).bind fun v4 =>
(AM .u64 v4).bind fun v5 =>
(Ag Tryz.prog R (.func (.func 45) #[] #[]) [v5] r1.2).bind fun r6 =>
(AD 1 1 x0 r6.1 r6.2).bind fun r7 =>
(Aj false 1 x2 r7.2).bind fun v8 =>
(Ag Tryz.prog R v8 [x1] r7.2).bind fun r9 =>
(Ah r9.1).bind fun v10 =>
(Aj false 1 v10 r9.2).bind fun v11 =>
(AG (.slice 91) v11 r9.2).bind fun v12 =>
(AS (Bf.b0 R) [r7.1,x3,v11,v12,(.int .i64 0)] r9.2).bind fun r21 =>
exV r21.1 [(0,retV [(getL r21.2.1 0)] r21.2.2)]
 (none)
theorem GK {lib : Lib} (hl : lib 158 = none) {x0 x1 x2 x3 : Value} {s : St} {r : Value × St} (h : Bf (run Tryz.prog lib Ad) x0 x1 x2 x3 s = some r) : run Tryz.prog lib Ad 158 [x0,x1,x2,x3] s = some r :=
  At hl Tryz.func158 (Eq.trans (by kernel_rfl) h)
theorem GL : Aq Tryz.prog 158 = true:=by kernel_rfl
noncomputable def A7.b0 (R : Aa) (T : List Value) (s : St) : Res :=
(abin Tryz.prog .gtr 3 (.tmp 9) (.const (.int .i64 0)) (getL T 4) (.int .i64 0)).bind fun v1 =>
(Ai v1 true ((Ah (getL T 0)).bind fun v2 =>
(Ac 1 v2).bind fun v3 =>
(Aj false 1 v3 s).bind fun v4 =>
(abin Tryz.prog .eql 32 (.tmp 15) (.const (.int .i64 0)) v4 (.int .i64 0)).bind fun v5 =>
some ([v5],s)) (some ([undef],s))).bind fun q6 =>
(AJ v1 (getL q6.1 0) (.bool false)).bind fun v7 =>
Ax v7
 (((Aj false 1 (getL T 2) q6.2).bind fun v8 =>
(Ag Tryz.prog R v8 [(getL T 1)] q6.2).bind fun r9 =>
(Aj false 1 (getL T 2) r9.2).bind fun v10 =>
(Ag Tryz.prog R v10 [(getL T 1)] r9.2).bind fun r11 =>
(Ah r11.1).bind fun v12 =>
(Aj false 1 v12 r11.2).bind fun v13 =>
(Aj false 1 (getL T 3) r11.2).bind fun v14 =>
(Ag Tryz.prog R v14 [(getL T 0)] r11.2).bind fun r15 =>
(As 2 [(.string ⟨#[]⟩),(.int .i64 0)] 1 [(0,r15.1)] r15.2).bind fun r16 =>
(AD 2 24 v13 r16.1 r16.2).bind fun r17 =>
(Ah r9.1).bind fun v18 =>
(A4 1 v18 r17.1 r17.2).bind fun s19 =>
some [v12]).bind fun q20 =>
(((Aj false 1 (getL T 2) (⟨frzK [] 0 (q6.2).heap⟩ : St)).bind fun v43 =>
some (v43,(⟨frzK [] 0 (q6.2).heap⟩ : St))).bind (Bz [] q6.2)).bind fun r21 =>
(((Ag Tryz.prog R r21.1 [(getL T 1)] (⟨frzK [] 0 (r21.2).heap⟩ : St)).bind fun r42 =>
some (r42.1,r42.2)).bind (Bz [] r21.2)).bind fun r22 =>
(((Aj false 1 (getL T 2) (⟨frzK [] 0 (r22.2).heap⟩ : St)).bind fun v41 =>
some (v41,(⟨frzK [] 0 (r22.2).heap⟩ : St))).bind (Bz [] r22.2)).bind fun r23 =>
(((Ag Tryz.prog R r23.1 [(getL T 1)] (⟨frzK [] 0 (r23.2).heap⟩ : St)).bind fun r40 =>
some (r40.1,r40.2)).bind (Bz [] r23.2)).bind fun r24 =>
(Ah r24.1).bind fun v25 =>
(((Aj false 1 v25 (⟨frzK ((CT (q6.2).heap.length (q20.drop 0)) ++ []) 0 (r24.2).heap⟩ : St)).bind fun v39 =>
some (v39,(⟨frzK ((CT (q6.2).heap.length (q20.drop 0)) ++ []) 0 (r24.2).heap⟩ : St))).bind (Bz ((CT (q6.2).heap.length (q20.drop 0)) ++ []) r24.2)).bind fun r26 =>
(((Aj false 1 (getL T 3) (⟨frzK [] 0 (r26.2).heap⟩ : St)).bind fun v38 =>
some (v38,(⟨frzK [] 0 (r26.2).heap⟩ : St))).bind (Bz [] r26.2)).bind fun r27 =>
(((Ag Tryz.prog R r27.1 [(getL T 0)] (⟨Er (CT (q6.2).heap.length (q20.drop 0)) 0 (r27.2).heap⟩ : St)).bind fun r37 =>
some (r37.1,r37.2)).bind (appR (CT (q6.2).heap.length (q20.drop 0)) [] r27.2)).bind fun r28 =>
(((As 2 [(.string ⟨#[]⟩),(.int .i64 0)] 1 [(0,r28.1)] (⟨frzK [] 0 (r28.2).heap⟩ : St)).bind fun r36 =>
some (r36.1,r36.2)).bind (Bz [] r28.2)).bind fun r29 =>
(((AD 2 24 r26.1 r29.1 r29.2).bind fun r35 =>
some (r35.1,r35.2)).bind (ownR r29.2)).bind fun r30 =>
(Ah r22.1).bind fun v31 =>
(((A4 1 v31 r30.1 r30.2).bind fun s34 =>
some (undef,s34)).bind (ownR r30.2)).bind fun r32 =>
(abin Tryz.prog .sub 3 (.tmp 18) (.const (.int .i64 1)) (getL T 4) (.int .i64 1)).bind fun v33 =>
some (.normal,[(getL T 0),(getL T 1),(getL T 2),(getL T 3),v33],r32.2))
 (some (.exit 0,[],q6.2))
noncomputable def A7 (R : Aa) (x0 x1 x2 x3 : Value) (s : St) : Option (Value × St) :=
(Ag Tryz.prog R (.func (.func 153) #[] #[]) [x0] s).bind fun r0 =>
(AS (A7.b0 R) [x0,x1,x2,x3,r0.1] r0.2).bind fun r44 =>
exV r44.1 [(0,retV [] r44.2.2)]
 (none)
theorem GM {lib : Lib} (hl : lib 159 = none) {x0 x1 x2 x3 : Value} {s : St} {r : Value × St} (h : A7 (run Tryz.prog lib Ad) x0 x1 x2 x3 s = some r) : run Tryz.prog lib Ad 159 [x0,x1,x2,x3] s = some r :=
  At hl Tryz.func159 (Eq.trans (by kernel_rfl) h)
theorem GN : Aq Tryz.prog 159 = true:=by kernel_rfl
noncomputable def wire_list_api_Owner_3 (R : Aa) (x0 x1 : Value) (s : St) : Option (Value × St) :=
(Aj false 1 x1 s).bind fun v0 =>
(Ag Tryz.prog R v0 [x0] s).bind fun r1 =>
(Ah r1.1).bind fun v2 =>
(Aj false 1 v2 r1.2).bind fun v3 =>
(AG (.slice 91) v3 r1.2).bind fun v4 =>
(abin Tryz.prog .eql 3 (.tmp 9) (.const (.int .i64 0)) v4 (.int .i64 0)).bind fun v5 =>
retV [v5] r1.2
theorem GO {lib : Lib} (hl : lib 160 = none) {x0 x1 : Value} {s : St} {r : Value × St} (h : wire_list_api_Owner_3 (run Tryz.prog lib Ad) x0 x1 s = some r) : run Tryz.prog lib Ad 160 [x0,x1] s = some r :=
  At hl Tryz.func160 (Eq.trans (by kernel_rfl) h)
theorem GP : Aq Tryz.prog 160 = true:=by kernel_rfl
noncomputable def LG (R : Aa) (x0 : Value) (s : St) : Option (Value × St) :=
(AG .string x0 s).bind fun v0 =>
(AM .u64 v0).bind fun v1 =>
(Ag Tryz.prog R (.func (.func 103) #[] #[]) [v1] s).bind fun r2 =>
(AD 1 1 r2.1 x0 r2.2).bind fun r3 =>
retV [r3.1] r3.2
theorem Sq {lib : Lib} (hl : lib 161 = none) {x0 : Value} {s : St} {r : Value × St} (h : LG (run Tryz.prog lib Ad) x0 s = some r) : run Tryz.prog lib Ad 161 [x0] s = some r :=
  At hl Tryz.func161 (Eq.trans (by kernel_rfl) h)
theorem Ss : Aq Tryz.prog 161 = true:=by kernel_rfl
noncomputable def Gl (R : Aa) (x0 x1 : Value) (s : St) : Option (Value × St) :=
(Ag Tryz.prog R (.func (.func 120) #[] #[]) [x0] s).bind fun r0 =>
(Al 0 r0.1).bind fun v1 =>
(Al 1 r0.1).bind fun v2 =>
(Al 2 r0.1).bind fun v3 =>
(abin Tryz.prog .neq 32 (.tmp 16) (.const (.int .i64 0)) v3 (.int .i64 0)).bind fun v4 =>
Ax v4
 (retV [(.string ⟨#[]⟩),(.int .i64 0),v3] r0.2)
 ((abin Tryz.prog .lss 3 (.tmp 19) (.const (.int .i64 0)) x1 (.int .i64 0)).bind fun v5 =>
(Ai v5 false ((AM .u64 x1).bind fun v6 =>
(abin Tryz.prog .gtr 22 (.tmp 22) (.tmp 24) v1 v6).bind fun v7 =>
some ([v7],r0.2)) (some ([undef],r0.2))).bind fun q8 =>
(AJ v5 (.bool true) (getL q8.1 0)).bind fun v9 =>
Ax v9
 (retV [(.string ⟨#[]⟩),(.int .i64 0),(.int .i64 2)] q8.2)
 ((AG (.slice 5) x0 q8.2).bind fun v10 =>
(abin Tryz.prog .sub 3 (.tmp 29) (.tmp 30) v10 v2).bind fun v11 =>
(AM .u64 v11).bind fun v12 =>
(abin Tryz.prog .gtr 22 (.tmp 27) (.tmp 32) v1 v12).bind fun v13 =>
Ax v13
 (retV [(.string ⟨#[]⟩),(.int .i64 0),(.int .i64 10)] q8.2)
 ((AM .i64 v1).bind fun v14 =>
(abin Tryz.prog .add 3 (.tmp 36) (.tmp 38) v2 v14).bind fun v15 =>
(Bn 1 x0 (some v2) (some v15) none).bind fun v16 =>
(BE v16 q8.2).bind fun v17 =>
(AM .i64 v1).bind fun v18 =>
(abin Tryz.prog .add 3 (.tmp 42) (.tmp 44) v2 v18).bind fun v19 =>
retV [v17,v19,(.int .i64 0)] q8.2)))
theorem LH {lib : Lib} (hl : lib 162 = none) {x0 x1 : Value} {s : St} {r : Value × St} (h : Gl (run Tryz.prog lib Ad) x0 x1 s = some r) : run Tryz.prog lib Ad 162 [x0,x1] s = some r :=
  At hl Tryz.func162 (Eq.trans (by kernel_rfl) h)
theorem LI : Aq Tryz.prog 162 = true:=by kernel_rfl
noncomputable def slices_IndexFunc_api_Result_api_Result.b0 (R : Aa) (T : List Value) (s : St) : Res :=
(abin Tryz.prog .lss 3 (.tmp 8) (.tmp 7) (getL T 3) (getL T 2)).bind fun v1 =>
Ax v1
 ((Az 3 (getL T 0) (getL T 3)).bind fun v2 =>
(Aj true 3 v2 s).bind fun v3 =>
(Ag Tryz.prog R (getL T 1) [v3] s).bind fun r4 =>
Ax r4.1
 (some (.ret,[(getL T 3)],r4.2))
 ((abin Tryz.prog .add 3 (.tmp 8) (.const (.int .i64 1)) (getL T 3) (.int .i64 1)).bind fun v5 =>
some (.normal,[(getL T 0),(getL T 1),(getL T 2),v5],r4.2)))
 (some (.exit 0,[],s))
noncomputable def slices_IndexFunc_api_Result_api_Result (R : Aa) (x0 x1 : Value) (s : St) : Option (Value × St) :=
(AG (.slice 87) x0 s).bind fun v0 =>
(AS (slices_IndexFunc_api_Result_api_Result.b0 R) [x0,x1,v0,(.int .i64 0)] s).bind fun r6 =>
exV r6.1 [(0,retV [(.int .i64 (-1))] r6.2.2)]
 (retV [(getL r6.2.1 0)] r6.2.2)
theorem CR {lib : Lib} (hl : lib 164 = none) {x0 x1 : Value} {s : St} {r : Value × St} (h : slices_IndexFunc_api_Result_api_Result (run Tryz.prog lib Ad) x0 x1 s = some r) : run Tryz.prog lib Ad 164 [x0,x1] s = some r :=
  At hl Tryz.func164 (Eq.trans (by kernel_rfl) h)
theorem CS : Aq Tryz.prog 164 = true:=by kernel_rfl
theorem CH {R : Aa} {xs : List Value} {s : St} : Ag Tryz.prog R (.func (.func 164) #[] #[]) xs s = R 164 xs s:=Ak CS
noncomputable def slices_IndexFunc_api_Pair_api_Pair.b0 (R : Aa) (T : List Value) (s : St) : Res :=
(abin Tryz.prog .lss 3 (.tmp 8) (.tmp 7) (getL T 3) (getL T 2)).bind fun v1 =>
Ax v1
 ((Az 2 (getL T 0) (getL T 3)).bind fun v2 =>
(Aj true 2 v2 s).bind fun v3 =>
(Ag Tryz.prog R (getL T 1) [v3] s).bind fun r4 =>
Ax r4.1
 (some (.ret,[(getL T 3)],r4.2))
 ((abin Tryz.prog .add 3 (.tmp 8) (.const (.int .i64 1)) (getL T 3) (.int .i64 1)).bind fun v5 =>
some (.normal,[(getL T 0),(getL T 1),(getL T 2),v5],r4.2)))
 (some (.exit 0,[],s))
noncomputable def slices_IndexFunc_api_Pair_api_Pair (R : Aa) (x0 x1 : Value) (s : St) : Option (Value × St) :=
(AG (.slice 89) x0 s).bind fun v0 =>
(AS (slices_IndexFunc_api_Pair_api_Pair.b0 R) [x0,x1,v0,(.int .i64 0)] s).bind fun r6 =>
exV r6.1 [(0,retV [(.int .i64 (-1))] r6.2.2)]
 (retV [(getL r6.2.1 0)] r6.2.2)
theorem Dk {lib : Lib} (hl : lib 165 = none) {x0 x1 : Value} {s : St} {r : Value × St} (h : slices_IndexFunc_api_Pair_api_Pair (run Tryz.prog lib Ad) x0 x1 s = some r) : run Tryz.prog lib Ad 165 [x0,x1] s = some r :=
  At hl Tryz.func165 (Eq.trans (by kernel_rfl) h)
theorem Dl : Aq Tryz.prog 165 = true:=by kernel_rfl
theorem C7 {R : Aa} {xs : List Value} {s : St} : Ag Tryz.prog R (.func (.func 165) #[] #[]) xs s = R 165 xs s:=Ak Dl
noncomputable def ZcX (R : Aa) (x0 : Value) (s : St) : Option (Value × St) :=
(lbox x0).bind fun v0 =>
(Ap false 1 (.pointer (some ⟨0,3,none⟩)) v0).bind fun v1 =>
(Ap false 1 (.pointer (some ⟨0,4,none⟩)) v0).bind fun v2 =>
(AV Tryz.prog 24 [(0,v1),(1,v2)]).bind fun v3 =>
(AO 2 lptr v3 (.agg #[(.string ⟨#[]⟩),(.string ⟨#[]⟩)])).bind fun v4 =>
(Ap true 2 lptr v4).bind fun v5 =>
retV [v5] s
theorem ZaB {lib : Lib} (hl : lib 166 = none) {x0 : Value} {s : St} {r : Value × St} (h : ZcX (run Tryz.prog lib Ad) x0 s = some r) : run Tryz.prog lib Ad 166 [x0] s = some r :=
  At hl Tryz.func166 (Eq.trans (by kernel_rfl) h)
theorem V6 : Aq Tryz.prog 166 = true:=by kernel_rfl
theorem IJ {R : Aa} {xs : List Value} {s : St} : Ag Tryz.prog R (.func (.func 166) #[] #[]) xs s = R 166 xs s:=Ak V6
noncomputable def V7 (R : Aa) (s : St) : Option (Value × St) :=
(AV Tryz.prog 159 [(0,(.bool true)),(5,(.func (.func 168) #[] #[]))]).bind fun v0 =>
(AV Tryz.prog 159 [(0,(.bool true)),(1,(.bool true)),(4,(.bool true)),(5,(.func (.func 169) #[] #[]))]).bind fun v1 =>
(AV Tryz.prog 159 [(0,(.bool true)),(4,(.bool true)),(5,(.func (.func 170) #[] #[]))]).bind fun v2 =>
(AV Tryz.prog 159 [(2,(.bool true)),(3,(.bool true)),(5,(.func (.func 171) #[] #[]))]).bind fun v3 =>
(AV Tryz.prog 159 [(2,(.bool true)),(4,(.bool true)),(5,(.func (.func 172) #[] #[]))]).bind fun v4 =>
(AV Tryz.prog 169 [(1,v0),(2,v1),(3,v2),(4,v3),(5,v4)]).bind fun v5 =>
(AO 36 lptr v5 (.agg #[(.bool false),(.bool false),(.bool false),(.bool false),(.bool false),.nilFunc,(.bool false),(.bool false),(.bool false),(.bool false),(.bool false),.nilFunc,(.bool false),(.bool false),(.bool false),(.bool false),(.bool false),.nilFunc,(.bool false),(.bool false),(.bool false),(.bool false),(.bool false),.nilFunc,(.bool false),(.bool false),(.bool false),(.bool false),(.bool false),.nilFunc,(.bool false),(.bool false),(.bool false),(.bool false),(.bool false),.nilFunc])).bind fun v6 =>
(Ap true 36 lptr v6).bind fun v7 =>
retV [v7] s
theorem U5 {lib : Lib} (hl : lib 167 = none) {s : St} {r : Value × St} (h : V7 (run Tryz.prog lib Ad)  s = some r) : run Tryz.prog lib Ad 167 [] s = some r :=
  At hl Tryz.func167 (Eq.trans (by kernel_rfl) h)
theorem O4 : Aq Tryz.prog 167 = true:=by kernel_rfl
theorem Su {R : Aa} {xs : List Value} {s : St} : Ag Tryz.prog R (.func (.func 167) #[] #[]) xs s = R 167 xs s:=Ak O4
end Go.Proofs.YtmbhnbladmpnoaaGreat.Ab

/- Pairs of strings: as values,and compared. -/
namespace Go.Proofs.YtmbhnbladmpnoaaGreat.Ab
open Go
theorem Bd {P : Program} {α β : Type} (m : Sem α) (f : α→Sem β) : AP P (m >>= f) = (AP P m).bind fun a=>AP P (f a):=by
  show AP P (Sem.bind m f) = _
  induction m with
  | pure a=>rfl
  | program k ih=>simp only [Sem.bind,AP]; exact ih P
  | _=>rfl
theorem Ei {P : Program} {α : Type} (a : α) : AP P (Pure.pure a : Sem α) = some a:=rfl
theorem IK {P : Program} : AP P (program : Sem Program) = some P:=rfl
theorem O5 {P : Program} {t : TypeId} {d : TypeDesc} (h : P.underlying t = some d) : AP P (underlying t) = some d:=by
  unfold underlying
  rw [Bd,IK]
  simp only [Option.bind_some,h]
  rfl
theorem YB {P : Program} {d : Nat} {t : TypeId} {a b : ByteArray} (h : P.underlying t = some .string) : AP P (Op.equalIn (d + 1) t (.string a) (.string b)) = some (a == b):=by
  unfold Op.equalIn
  rw [Bd,O5 h]
  simp only [Option.bind_some,Ei]
abbrev BL:=List UInt8
abbrev Rg:=BL × BL
def rv (r : Rg) : Value:=.agg #[sv r.1,sv r.2]
def asBl : Value→Option BL
  | .string a=>some a.data.toList
  | _=>none
def asRg : Value→Option Rg
  | .agg cs=>match cs.toList with
    | [.string a,.string b]=>some (a.data.toList,b.data.toList)
    | _=>none
  | _=>none
theorem YC {v : Value} {l : BL} (h : asBl v = some l) : v = sv l:=by
  unfold asBl at h
  split at h
  · cases h; exact JG _
  · cases h
theorem YD {v : Value} {r : Rg} (h : asRg v = some r) : v = rv r:=by
  unfold asRg at h
  split at h
  · rename_i cs
    split at h
    · rename_i a b e
      cases h
      obtain ⟨l⟩:=cs
      simp only at e
      subst e
      unfold rv
      rw [← JG,← JG]
    · cases h
  · cases h
theorem O6 {a b : BL} : ((⟨a.toArray⟩ : ByteArray) == ⟨b.toArray⟩) = (a == b):=by
  show (a.toArray == b.toArray) = (a == b)
  simp
theorem Zca (o1 o2 : Operand) (a b : Rg) : abin Tryz.prog .eql 24 o1 o2 (rv a) (rv b) = some (.bool (a.1 == b.1 && a.2 == b.2)):=by
  have hu:=O5 Tryz.underlying24
  have hg : AP Tryz.prog (eqGuard .eql 24 o1 o2 (.agg #[sv a.1,sv a.2]) (.agg #[sv b.1,sv b.2])) = some ():=by kernel_rfl
  have hh : Tryz.prog.stoodInHeld 24 = false:=by kernel_rfl
  have hp : ∀ x y : BL,AP Tryz.prog (part 9 #[sv x,sv y] 0) = some (sv x)∧AP Tryz.prog (part 9 #[sv x,sv y] 1) = some (sv y):=fun x y=>by
    refine ⟨?_,?_⟩ <;> kernel_rfl
  have he : ∀ (n : Nat) (x y : BL),AP Tryz.prog (Op.equalIn (n + 1) 9 (sv x) (sv y)) = some (x == y):=fun n x y=>by
    unfold sv
    rw [YB Tryz.underlying9,O6]
  unfold abin LU rv
  simp only
  have hc : (A0 (.agg #[sv a.1,sv a.2]) && A0 (.agg #[sv b.1,sv b.2])) = true:=rfl
  rw [if_pos hc,Bd,hg]
  simp only [Option.bind_some,binOp]
  rw [Bd]
  have key : AP Tryz.prog (Op.equal 24 (.agg #[sv a.1,sv a.2]) (.agg #[sv b.1,sv b.2])) = some (a.1 == b.1 && a.2 == b.2):=by
    unfold Op.equal Op.maxDepth Op.equalIn
    rw [Bd,hu]
    simp only [Option.bind_some]
    rw [Bd,IK]
    simp only [Option.bind_some,hh,Bool.false_eq_true,if_false,Bd]
    have hLo : ("Lo" ≠ "_") = True:=by simp
    have hHi : ("Hi" ≠ "_") = True:=by simp
    simp only [List.forIn_toArray,List.forIn_cons,List.forIn_nil]
    cases h1 : (a.1 == b.1)
    · simp only [Option.bind_some,Bd,Ei,Nat.reduceAdd,hLo,hHi,if_true,(hp _ _).1,(hp _ _).2,he,Bool.not_true,Bool.not_false,Bool.false_eq_true,if_false,Bool.true_and,Bool.false_and,Bool.and_true,h1]
    cases h2 : (a.2 == b.2)
    · simp only [Option.bind_some,Bd,Ei,Nat.reduceAdd,hLo,hHi,if_true,(hp _ _).1,(hp _ _).2,he,Bool.not_true,Bool.not_false,Bool.false_eq_true,if_false,Bool.true_and,Bool.false_and,Bool.and_true,h1,h2]
    · simp only [Option.bind_some,Bd,Ei,Nat.reduceAdd,hLo,hHi,if_true,(hp _ _).1,(hp _ _).2,he,Bool.not_true,Bool.not_false,Bool.false_eq_true,if_false,Bool.true_and,Bool.false_and,Bool.and_true,h1,h2]
  rw [key]
  rfl
theorem ZeE (o1 o2 : Operand) (a b : Rg) : abin Tryz.prog .neq 24 o1 o2 (rv a) (rv b) = some (.bool (!(a.1 == b.1 && a.2 == b.2))):=by
  have hu:=O5 Tryz.underlying24
  have hg : AP Tryz.prog (eqGuard .neq 24 o1 o2 (.agg #[sv a.1,sv a.2]) (.agg #[sv b.1,sv b.2])) = some ():=by kernel_rfl
  have h0:=Zca o1 o2 a b
  have hg0 : AP Tryz.prog (eqGuard .eql 24 o1 o2 (.agg #[sv a.1,sv a.2]) (.agg #[sv b.1,sv b.2])) = some ():=by kernel_rfl
  unfold abin LU rv at h0 ⊢
  simp only at h0 ⊢
  have hc : (A0 (.agg #[sv a.1,sv a.2]) && A0 (.agg #[sv b.1,sv b.2])) = true:=rfl
  rw [if_pos hc,Bd,hg0] at h0
  rw [if_pos hc,Bd,hg]
  simp only [Option.bind_some,binOp,Bd,Ei] at h0 ⊢
  cases e : AP Tryz.prog (Op.equal 24 (.agg #[sv a.1,sv a.2]) (.agg #[sv b.1,sv b.2])) with
  | none=>rw [e] at h0; cases h0
  | some r =>
    rw [e] at h0
    simp only [Option.bind_some] at h0 ⊢
    cases h0
    rfl
end Go.Proofs.YtmbhnbladmpnoaaGreat.Ab
/- Keys and ranges: what the functions do. -/
namespace Go.Proofs.YtmbhnbladmpnoaaGreat.Ab
open Go
def ckK (k : BL) : Bool:=k != [] && decide (k.length ≤ 12)
def ckR (r : Rg) : Bool:=decide (r.1.length ≤ 12) && decide (r.2.length ≤ 12) && (r.2 == [] || bl r.1 r.2)
def eK (k : BL) : Int:=if ckK k then 0 else 20
def eR (r : Rg) : Int:=if ckR r then 0 else 21
def gP (G : List Value→Option Value) : Sum:=fun xs s=>(G xs).map fun v=>(v,s)
theorem sumP {lib : Lib} {f : FuncId} {G : List Value→Option Value} (h : ∀ xs v s,G xs = some v→FZ v = true∧∃ t,run Tryz.prog lib Ad f xs s = some (v,t)) : BO Tryz.prog lib Ad f (gP G) :=
  BO.plain (G:=fun xs _=>G xs) fun xs s v hv=>h xs v (frzS s) hv
def G1K (F : BL→Value) : List Value→Option Value
  | [v]=>(asBl v).map F
  | _=>none
def G1R (F : Rg→Value) : List Value→Option Value
  | [v]=>(asRg v).map F
  | _=>none
theorem ZeF {lib : Lib} {f : FuncId} {F : BL→Value} (h : ∀ k s,FZ (F k) = true∧∃ t,run Tryz.prog lib Ad f [sv k] s = some (F k,t)) : BO Tryz.prog lib Ad f (gP (G1K F)):=sumP fun xs v s hv=>by
  unfold G1K at hv
  split at hv
  · simp only [Option.map_eq_some_iff] at hv
    obtain ⟨k,h1,rfl⟩:=hv
    rw [YC h1]
    exact h k s
  · cases hv
theorem ZeG {lib : Lib} {f : FuncId} {F : Rg→Value} (h : ∀ k s,FZ (F k) = true∧∃ t,run Tryz.prog lib Ad f [rv k] s = some (F k,t)) : BO Tryz.prog lib Ad f (gP (G1R F)):=sumP fun xs v s hv=>by
  unfold G1R at hv
  split at hv
  · simp only [Option.map_eq_some_iff] at hv
    obtain ⟨k,h1,rfl⟩:=hv
    rw [YD h1]
    exact h k s
  · cases hv
theorem KT : (Value.string ⟨#[]⟩) = sv []:=rfl
theorem ZaC {k : BL} : decide (((k.length : Nat) : Int) > 12) = !decide (k.length ≤ 12):=by
  by_cases h : k.length ≤ 12
  · simp [h]; omega
  · simp [h]; omega
theorem TB {R : Aa} (k : BL) (s : St) : He R (sv k) s = some (.int .i64 (eK k),s):=by
  unfold He eK ckK
  rw [KT]
  simp only [Zb7,Ok,ZaC,EVs]
  cases h1 : (k == []) <;> cases h2 : decide (k.length ≤ 12) <;> simp only [bne,h1,h2,Bool.not_true,Bool.not_false,Bool.true_or,Bool.false_or,Bool.or_true,Bool.or_false,Bool.and_true,Bool.and_false,if_true,if_false,Bool.false_eq_true,EVs,retV] <;> rfl
theorem O7 {R : Aa} (k : BL) (s : St) : Gd R (sv k) s = some (.int .i64 (eK k),s):=by
  unfold Gd eK ckK
  have h0 : decide (((k.length : Nat) : Int) < 1) = (k == []):=by
    cases k with
    | nil=>rfl
    | cons x k=>simp; omega
  simp only [Ok,h0,ZaC,EVs]
  cases h1 : (k == []) <;> cases h2 : decide (k.length ≤ 12) <;> simp only [bne,h1,h2,Bool.not_true,Bool.not_false,Bool.true_or,Bool.false_or,Bool.or_true,Bool.or_false,Bool.and_true,Bool.and_false,if_true,if_false,Bool.false_eq_true,EVs,retV] <;> rfl
end Go.Proofs.YtmbhnbladmpnoaaGreat.Ab
/- Keys and ranges: what the functions do,further. -/
namespace Go.Proofs.YtmbhnbladmpnoaaGreat.Ab
open Go
theorem z_rv : (Value.agg #[.string ⟨#[]⟩,.string ⟨#[]⟩]) = rv ([],[]):=rfl
theorem Zcb (r : Rg) : lbox (rv r) = some (rv r):=rfl
theorem ZaD (r : Rg) : Ap true 2 lptr (rv r) = some (rv r):=rfl
theorem ad_0 : Ac 0 lptr = some (.pointer (some ⟨0,0,none⟩)):=rfl
theorem ad_1 : Ac 1 lptr = some (.pointer (some ⟨0,1,none⟩)):=rfl
theorem ld_0 (r : Rg) : Ap false 1 lptr (rv r) = some (sv r.1):=rfl
theorem ZeH (r : Rg) : Ap false 1 (.pointer (some ⟨0,0,none⟩)) (rv r) = some (sv r.1):=rfl
theorem YE : (Value.agg #[sv [],sv []]) = rv ([],[]):=rfl
theorem ld_1 (r : Rg) : Ap false 1 (.pointer (some ⟨0,1,none⟩)) (rv r) = some (sv r.2):=rfl
theorem GQ {α : Type} {s : St} {a : α} : ownR s (a,s) = some (a,s):=by unfold ownR; rw [if_pos (Nat.le_refl _)]
theorem ZcY {R : Aa} (s : St) : V5 R s = some (rv ([],[]),s):=rfl
theorem QU {P : Program} {t : TypeId} {o1 o2 : Operand} {a b : BL} : abin P .geq t o1 o2 (sv a) (sv b) = some (.bool (!bl a b)):=ZeA
theorem YF {R : Aa} (hR : ∀ s,R 139 [] s = some (rv ([],[]),s)) (r : Rg) (s : St) : Eh R (rv r) s = some (.int .i64 (eR r),s):=by
  obtain ⟨a,b⟩:=r
  unfold Eh
  simp only [z_rv,YE,Zcb,ZaD,Si,hR,GQ,Zca,ad_0,ad_1,ld_0,ld_1,KT,Ok,ZaC,H3,QU,EVs]
  unfold eR ckR
  by_cases h0 : a = []∧b = []
  · obtain ⟨rfl,rfl⟩:=h0
    rfl
  · have e0 : (a == [] && b == []) = false:=by
      cases h1 : (a == []) <;> cases h2 : (b == []) <;> simp_all
    simp only [e0,EVs]
    cases h1 : decide (a.length ≤ 12) <;> cases h2 : decide (b.length ≤ 12) <;> cases h3 : (b == []) <;> cases h4 : bl a b <;> simp only [Eh.j0,h1,h2,h3,h4,Bool.not_true,Bool.not_false,Bool.true_or,Bool.false_or,Bool.or_true,Bool.or_false,Bool.and_true,Bool.and_false,Bool.true_and,Bool.false_and,if_true,if_false,Bool.false_eq_true,z_rv,YE,ZaD,ld_0,ZeH,ld_1,EVs,retV] <;> rfl
theorem TC {R : Aa} (r : Rg) (s : St) : JL R (rv r) s = some (.int .i64 (eR r),s):=by
  obtain ⟨a,b⟩:=r
  unfold JL
  simp only [z_rv,YE,Zcb,ZaD,ad_0,ad_1,ld_0,ld_1,KT,Ok,ZaC,H3,QU,EVs]
  unfold eR ckR
  cases h1 : decide (a.length ≤ 12) <;> cases h2 : decide (b.length ≤ 12) <;> cases h3 : (b == []) <;> cases h4 : bl a b <;> simp only [h1,h2,h3,h4,Bool.not_true,Bool.not_false,Bool.true_or,Bool.false_or,Bool.or_true,Bool.or_false,Bool.and_true,Bool.and_false,Bool.true_and,Bool.false_and,if_true,if_false,Bool.false_eq_true,z_rv,YE,ZaD,ld_0,ZeH,ld_1,EVs,retV] <;> rfl
end Go.Proofs.YtmbhnbladmpnoaaGreat.Ab
/- Keys and ranges: Has,least,below. -/
namespace Go.Proofs.YtmbhnbladmpnoaaGreat.Ab
open Go
end Go.Proofs.YtmbhnbladmpnoaaGreat.Ab
/- Ranges: what two have in common,and what covers. -/
namespace Go.Proofs.YtmbhnbladmpnoaaGreat.Ab
open Go
theorem ab2 (x y : BL) : AV Tryz.prog 24 [(0,sv x),(1,sv y)] = some (rv (x,y)):=by kernel_rfl
theorem eR_n {r : Rg} : (eR r != 0) = !ckR r:=by unfold eR; cases ckR r <;> rfl
theorem eK_n {k : BL} : (eK k != 0) = !ckK k:=by unfold eK; cases ckK k <;> rfl
end Go.Proofs.YtmbhnbladmpnoaaGreat.Ab
/- Ranges: the reference's answers to what two have in common,and to what covers. -/
namespace Go.Proofs.YtmbhnbladmpnoaaGreat.Ab
open Go
end Go.Proofs.YtmbhnbladmpnoaaGreat.Ab
/- Ranges: a range in two. -/
namespace Go.Proofs.YtmbhnbladmpnoaaGreat.Ab
open Go
end Go.Proofs.YtmbhnbladmpnoaaGreat.Ab
/- What is Bq of the functions of keys and ranges: told as sums. -/
namespace Go.Proofs.YtmbhnbladmpnoaaGreat.Ab
open Go
theorem progOk : RC Tryz.prog = true:=by kernel_rfl
def gKey : Sum:=gP (G1K fun k=>.int .i64 (eK k))
def gChk : Sum:=gP (G1R fun r=>.int .i64 (eR r))
def G0 (v : Value) : List Value→Option Value
  | []=>some v
  | _=>none
def gAll : Sum:=gP (G0 (rv ([],[])))
theorem TD {k : BL} {s : St} : gKey [sv k] s = some (.int .i64 (eK k),s):=rfl
theorem YG {r : Rg} {s : St} : gChk [rv r] s = some (.int .i64 (eR r),s):=rfl
theorem ZeI {s : St} : gAll [] s = some (rv ([],[]),s):=rfl
end Go.Proofs.YtmbhnbladmpnoaaGreat.Ab
/- The range of a key: the reference's loop. -/
namespace Go.Proofs.YtmbhnbladmpnoaaGreat.Ab
open Go
end Go.Proofs.YtmbhnbladmpnoaaGreat.Ab
/- The range of a key: what both functions do. -/
namespace Go.Proofs.YtmbhnbladmpnoaaGreat.Ab
open Go
end Go.Proofs.YtmbhnbladmpnoaaGreat.Ab
/- Strings have ranks: what is plain of keys and ranges. -/
namespace Go.Proofs.YtmbhnbladmpnoaaGreat.Ab
open Go
end Go.Proofs.YtmbhnbladmpnoaaGreat.Ab
/- What is plain of keys and ranges,further. -/
namespace Go.Proofs.YtmbhnbladmpnoaaGreat.Ab
open Go
theorem Zcc : ∀ {v o : BL},(∀ c ∈ v,c = 255)→bl o v = false→o.length ≤ v.length→o = v
  | [],[],_,_,_=>rfl
  | [],_ :: _,_,_,h=>by simp at h
  | _ :: _,[],_,h,_=>by cases h
  | c :: v,y :: o,hv,h,hl=>by
    have hc:=hv c (List.mem_cons_self ..)
    subst hc
    have h1 : ¬ (y.toNat < (255 : UInt8).toNat ∨ (y = 255∧bl o v = true)):=fun g=>by rw [JI.2 g] at h; cases h
    have h2 : (255 : UInt8).toNat = 255:=rfl
    have h3:=y.toNat_lt
    have hy : y = 255:=UInt8.toNat_inj.1 (by omega)
    subst hy
    rw [Zcc (v:=v) (o:=o) (fun c hc=>hv c (List.mem_cons_of_mem _ hc)) (by
      cases e : bl o v with
      | false=>rfl
      | true=>exact absurd (.inr ⟨rfl,e⟩) h1) (by simpa using hl)]
theorem ZcZ {x : UInt8} (hx : x ≠ 255) {v : BL} (hv : ∀ c ∈ v,c = 255) : ∀ {u o : BL},bl o (u ++ x :: v) = false→bl o (u ++ [x + 1]) = true→o.length ≤ (u ++ x :: v).length→o = u ++ x :: v
  | [],[],h,_,_=>by cases h
  | [],y :: o,h,g,hl=>by
    have hx1 : (x + 1).toNat = x.toNat + 1:=by
      have h1:=x.toNat_lt
      have h2 : x.toNat ≠ 255:=fun e=>hx (UInt8.toNat_inj.1 e)
      rw [UInt8.toNat_add]
      have : (1 : UInt8).toNat = 1:=rfl
      omega
    have h1 : ¬ (y.toNat < x.toNat ∨ (y = x∧bl o v = true)):=fun g=>by rw [List.nil_append,JI.2 g] at h; cases h
    rw [List.nil_append,JI] at g
    rw [ZaA] at g
    have hy : y = x:=UInt8.toNat_inj.1 (by
      rcases g with g | ⟨_,g⟩
      · omega
      · cases g)
    subst hy
    rw [Zcc (v:=v) (o:=o) hv (by
      cases e : bl o v with
      | false=>rfl
      | true=>exact absurd (.inr ⟨rfl,e⟩) h1) (by simpa using hl)]
    rfl
  | _ :: _,[],h,_,_=>by cases h
  | c :: u,y :: o,h,g,hl=>by
    have h1 : ¬ (y.toNat < c.toNat ∨ (y = c∧bl o (u ++ x :: v) = true)):=fun g=>by rw [List.cons_append,JI.2 g] at h; cases h
    rw [List.cons_append,JI] at g
    have hy : y = c:=by
      rcases g with g | g
      · exact absurd (.inl g) h1
      · exact g.1
    subst hy
    have g2 : bl o (u ++ [x + 1]) = true:=by
      rcases g with g | g
      · omega
      · exact g.2
    rw [ZcZ hx hv (u:=u) (o:=o) (by
      cases e : bl o (u ++ x :: v) with
      | false=>rfl
      | true=>exact absurd (.inr ⟨rfl,e⟩) h1) g2 (by simpa using hl)]
    rfl
theorem Zga {x : UInt8} (hx : x ≠ 255) {v : BL} : ∀ {u : BL},bl (u ++ x :: v) (u ++ [x + 1]) = true
  | []=>by
    rw [List.nil_append,List.nil_append,JI]
    left
    have h1:=x.toNat_lt
    have h2 : x.toNat ≠ 255:=fun e=>hx (UInt8.toNat_inj.1 e)
    rw [UInt8.toNat_add]
    have : (1 : UInt8).toNat = 1:=rfl
    omega
  | c :: u=>by
    rw [List.cons_append,List.cons_append,JI]
    exact .inr ⟨rfl,Zga hx⟩
end Go.Proofs.YtmbhnbladmpnoaaGreat.Ab

/- Compared strings: Bq by the kit's walk. -/
namespace Go.Proofs.YtmbhnbladmpnoaaGreat.Ab
open Go Go.RowKit Go.Lib
theorem Im {P : Program} (hprog : RC P = true) {l : List (FuncId × Sum)} (hl : Br P (libL l)) {f : FuncId} {g : Sum} (hok : Aq P f = true)
    (hg : Br P (libL l)→∀ args s v s',g args s = some (v,s')→∀ wb ι w (args' : Array Value),Sim wb ι s.heap w→All2 (VRel ι) args args'.toList→Calls P f args' w fun e w'=>∃ v',e = .returned v'∧Ba wb ι s.heap w s'.heap v v' w') : Br P (libL ((f,g) :: l)):=by
  intro f' g' hf' args s v s' h wb ι w args' hs ha
  simp only [libL] at hf'
  split at hf'
  · rename_i hff
    cases hf'
    subst hff
    exact hg hl args s v s' h wb ι w args' hs ha
  · exact hl f' g' hf' args s v s' h wb ι w args' hs ha
set_option maxHeartbeats 1000000 in
set_option maxRecDepth 100000 in
theorem U6 (a b : ByteArray) (w : World) :
    Calls Tryz.prog 183 #[.string a,.string b] w fun e w'=>e = .returned (.int .i64 (Lib.compareBytes a.data.toList b.data.toList))∧w' = w:=by
  go_enter Tryz.func183,Tryz.ntmps183
  go_wp2
  rw [run_callFunc_extern Tryz.func185 (by kernel_rfl) (by kernel_rfl) (by kernel_rfl) (e:=Extern.BytealgCompare.compare) (by kernel_rfl),Lib.run_compareString]
  simp only [Result.andThen]
  rw [Oper.upon_value]
  go_wp2
  go_ret
  exact ⟨rfl,rfl⟩
end Go.Proofs.YtmbhnbladmpnoaaGreat.Ab

/- Owners: as values; which may be; what one has. -/
namespace Go.Proofs.YtmbhnbladmpnoaaGreat.Ab
open Go
theorem ZaE {v : Value} {s : St} (h : Fk v = true:=by rfl) : retV [v] s = some (v,s):=by simp [retV,h,F5]
theorem YH {u v : Value} {s : St} (h : Fk u = true:=by rfl) (g : Fk v = true:=by rfl) : retV [u,v] s = some (.tuple #[u,v],s):=by simp [retV,h,g,F5]
theorem Xf {i : Nat} (h : i < 140737488355328) : IntKind.wrap .i64 ((i : Int) + 1) = ((i + 1 : Nat) : Int):=by rw [wrap_i64 (by omega) (by omega)]; omega
theorem ZaF {i : Nat} (h : i < 140737488355328) : IntKind.wrap .i64 (((i + 1 : Nat) : Int) - 1) = ((i : Nat) : Int):=by rw [wrap_i64 (by omega) (by omega)]; omega
abbrev Ow:=BL × Int
def owV (o : Ow) : Value:=.agg #[sv o.1,.int .i64 o.2]
def owC : Cod Ow where
  n:=2
  enc o:=[sv o.1,.int .i64 o.2]
  pos:=by decide
  len _:=rfl
  inj:=by
    rintro ⟨a,i⟩ ⟨b,j⟩ h
    simp only [sv,List.cons.injEq,Value.string.injEq,Value.int.injEq,true_and,and_true,ByteArray.mk.injEq,true_and] at h
    have:=congrArg Array.toList h.1
    simp only at this
    rw [Prod.mk.injEq]
    exact ⟨this,h.2⟩
  leaf _:=rfl
theorem Zcd (o : Ow) : Value.agg (owC.enc o).toArray = owV o:=rfl
theorem w_st (o p : Ow) : AO 2 lptr (owV o) (owV p) = some (owV o):=rfl
theorem w_z : (Value.agg #[(.string ⟨#[]⟩),(.int .i64 0)]) = owV ([],0):=rfl
theorem w_z2 : (Value.agg #[sv [],(.int .i64 0)]) = owV ([],0):=rfl
theorem w_1 (o : Ow) : Ap false 1 (.pointer (some ⟨0,1,none⟩)) (owV o) = some (.int .i64 o.2):=rfl
theorem w_0 (o : Ow) : Ap false 1 lptr (owV o) = some (sv o.1):=rfl
theorem Zgb (o : Ow) : lbox (owV o) = some (owV o):=rfl
def shOk (n : Int) : Bool:=!(decide (n < 1)) && !(decide (n > 4))
def okF : Option BL→List Ow→Bool
  | _,[]=>true
  | none,o :: l=>shOk o.2 && okF (some o.1) l
  | some p,o :: l=>shOk o.2 && (ckK o.1 && bl p o.1) && okF (some o.1) l
def okO (l : List Ow) : Bool:=match l with
  | []=>false
  | o :: r=>decide (r.length < 6) && o.1 == [] && okF none (o :: r)
def eO (l : List Ow) : Int:=if okO l then 0 else 170
theorem eO_0 {l : List Ow} : (eO l == 0) = okO l:=by unfold eO; cases okO l <;> rfl
def HI (l : List Ow) : Nat→Option BL
  | 0=>none
  | i + 1=>l[i]?.map (·.1)
theorem Sv {α : Type} {l rest : List α} {o : α} {i : Nat} (h : l.drop i = o :: rest) : ∃ hi : i < l.length,l[i] = o∧l.drop (i + 1) = rest:=by
  have hi : i < l.length:=by
    rcases Nat.lt_or_ge i l.length with g | g
    · exact g
    · rw [List.drop_eq_nil_of_le g] at h; cases h
  rw [← List.getElem_cons_drop (h:=hi)] at h
  exact ⟨hi,(List.cons.inj h).1,(List.cons.inj h).2⟩
theorem O8 {R : Aa} (hK : ∀ k s,R 133 [sv k] s = some (.int .i64 (eK k),s)) {v : Value} {s : St} {l : List Ow} (h : Bj owC v s = some l) {i : Nat} (hi : i < l.length) (hl : l.length < 140737488355328) :
    CF.b0 R [v,v,.int .i64 ((l.length : Nat) : Int),.int .i64 (i : Int)] s = if (shOk l[i].2 && (match HI l i with | none=>true | some p=>ckK l[i].1 && bl p l[i].1)) = true then some (.normal,[v,v,.int .i64 ((l.length : Nat) : Int),.int .i64 ((i + 1 : Nat) : Int)],s) else some (.ret,[.int .i64 170],s):=by
  have h1 : decide ((i : Int) < ((l.length : Nat) : Int)) = true:=by simp; omega
  obtain ⟨p,g1,g2⟩:=Lr h hi (k:=.i64) (n:=2) rfl
  rw [Zcd] at g2
  unfold CF.b0
  simp only [BP,CJ,Dq,DO,PS,h1,VX,C2,g1,g2,KT,w_z,w_z2,w_st,w_1]
  have hsh : shOk l[i].2 = (!(decide (l[i].2 < 1)) && !(decide (l[i].2 > 4))):=rfl
  rw [hsh]
  cases c1 : decide (l[i].2 < 1)
  · cases c2 : decide (l[i].2 > 4)
    · cases i with
      | zero =>
        have c3 : decide (((0 : Nat) : Int) > 0) = false:=rfl
        simp only [HI,w_1,EJ,c1,c2,c3,EVs,GQ,Xf (show 0 < 140737488355328 by omega),Bool.not_false,Bool.and_self,if_true]
      | succ j =>
        have c3 : decide (((j + 1 : Nat) : Int) > 0) = true:=decide_eq_true (by omega)
        have hj : j < l.length:=by omega
        obtain ⟨q,f1,q2,f2,f3⟩:=GC h hj (j:=0) (c:=sv l[j].1) rfl (k:=.i64) (n:=2) rfl
        have hp : HI l (j + 1) = some l[j].1:=by simp only [HI,List.getElem?_eq_getElem hj,Option.map_some]
        rw [hp]
        cases c4 : ckK l[j + 1].1
        · simp only [w_0,w_1,EJ,c1,c2,c3,EVs,GQ,Cf,hK,eK_n,c4,Bool.not_false,Bool.not_true,Bool.and_self,Bool.false_and,Bool.and_false,Bool.false_eq_true,if_false]
        · cases c5 : bl l[j].1 l[j + 1].1
          · simp only [w_0,w_1,EJ,c1,c2,c3,c4,c5,EVs,GQ,Cf,hK,eK_n,ZaF (show j < 140737488355328 by omega),f1,f2,f3,QU,Bool.not_false,Bool.not_true,Bool.and_self,Bool.false_and,Bool.and_false,Bool.false_eq_true,if_false]
          · simp only [w_0,w_1,EJ,c1,c2,c3,c4,c5,EVs,GQ,Cf,hK,eK_n,ZaF (show j < 140737488355328 by omega),f1,f2,f3,QU,Xf (show j + 1 < 140737488355328 by omega),Bool.not_false,Bool.not_true,Bool.and_self,Bool.false_and,Bool.and_false,Bool.false_eq_true,if_true]
    · simp only [w_1,EJ,c1,c2,EVs,GQ,Bool.not_false,Bool.not_true,Bool.and_false,Bool.false_and,Bool.false_eq_true,if_false]
  · simp only [c1,EVs,GQ,Bool.not_true,Bool.false_and,Bool.false_eq_true,if_false]
theorem Nn {R : Aa} (hK : ∀ k s,R 133 [sv k] s = some (.int .i64 (eK k),s)) {v : Value} {s : St} {l : List Ow} (h : Bj owC v s = some l) (hl : l.length < 140737488355328) : ∀ (rest : List Ow) (i : Nat),l.drop i = rest→i ≤ l.length →
    AS (CF.b0 R) [v,v,.int .i64 ((l.length : Nat) : Int),.int .i64 (i : Int)] s = if okF (HI l i) rest = true then some (.exit 0,[],s) else some (.ret,[.int .i64 170],s):=by
  intro rest
  induction rest with
  | nil =>
    intro i hi hle
    have h1 : decide ((i : Int) < ((l.length : Nat) : Int)) = false:=by
      have:=List.drop_eq_nil_iff.1 hi
      simp; omega
    rw [Ar]
    simp only [CF.b0,h1,EVs,okF,if_true]
  | cons o rest ih =>
    intro i hi hle
    obtain ⟨hlt,he,hd⟩:=Sv hi
    rw [Ar,O8 hK h hlt hl,he]
    have hn : HI l (i + 1) = some o.1:=by simp only [HI,List.getElem?_eq_getElem hlt,he,Option.map_some]
    have key:=ih (i + 1) hd (by omega)
    rw [hn] at key
    cases hp : HI l i with
    | none =>
      simp only [okF,Bool.and_true]
      by_cases c : shOk o.2 = true
      · simp only [c,Bool.true_and,if_true,QM,key]
      · have c2 : shOk o.2 = false:=by simpa using c
        simp only [c2,Bool.false_and,Bool.false_eq_true,if_false,QN]
    | some p =>
      simp only [okF]
      by_cases c : (shOk o.2 && (ckK o.1 && bl p o.1)) = true
      · simp only [c,Bool.true_and,if_true,QM,key]
      · have c2 : (shOk o.2 && (ckK o.1 && bl p o.1)) = false:=by simpa using c
        simp only [c2,Bool.false_and,Bool.false_eq_true,if_false,QN]
theorem O9 {R : Aa} (hK : ∀ k s,R 133 [sv k] s = some (.int .i64 (eK k),s)) {v : Value} {s : St} {l : List Ow} (h : Bj owC v s = some l) (hl : l.length < 140737488355328) : CF R v s = some (.int .i64 (eO l),s):=by
  have key:=Nn hK h hl l 0 rfl (Nat.zero_le _)
  rw [show ((0 : Nat) : Int) = 0 from rfl] at key
  unfold CF eO okO
  cases l with
  | nil =>
    have c1 : ∀ e s2,AG (.slice e) v s2 = some (.int .i64 0):=fun e s2=>Dd h
    have z0 : decide ((0 : Int) < 1) = true:=rfl
    have z1 : ((0 : Int) == 0) = true:=rfl
    simp only [c1,z0,z1,EVs,retV]
    rfl
  | cons o r =>
    have c1 : (((o :: r).length : Int) == 0) = false:=by simp only [List.length_cons,beq_eq_false_iff_ne]; omega
    have c1b : decide (((o :: r).length : Int) < 1) = false:=by simp only [List.length_cons,decide_eq_false_iff_not]; omega
    have c2 : decide (((o :: r).length : Int) > 6) = !decide (r.length < 6):=by
      by_cases g : r.length < 6
      · simp only [g,decide_true,Bool.not_true,decide_eq_false_iff_not,List.length_cons]; omega
      · simp only [g,decide_false,Bool.not_false,decide_eq_true_eq,List.length_cons]; omega
    obtain ⟨p,f1,q,f2,f3⟩:=GC h (i:=0) (by simp) (j:=0) (c:=sv o.1) rfl (k:=.i64) (n:=2) rfl
    have f1' : Az 2 v (.int .i64 0) = some p:=f1
    simp only [Dd h,c1,c1b,c2,KT,EVs]
    rcases Bool.eq_false_or_eq_true (decide (r.length < 6)) with g1 | g1
    · rcases Bool.eq_false_or_eq_true (o.1 == []) with g2 | g2
      · simp only [g1,Bool.not_true,EVs,f1',f2,f3,H3,g2,Dd h,key]
        simp only [HI,Bool.true_and]
        rcases Bool.eq_false_or_eq_true (okF none (o :: r)) with g3 | g3
        · simp only [g3,if_true,EVs,retV]
          rfl
        · simp only [g3,Bool.false_eq_true,if_false,EVs,retV]
          rfl
      · simp only [g1,Bool.not_true,EVs,f1',f2,f3,H3,g2,Bool.not_false,Bool.and_false,Bool.false_and,Bool.false_eq_true,if_false,retV]
        rfl
    · simp only [g1,Bool.not_false,EVs,Bool.false_and,Bool.false_eq_true,if_false,retV]
      rfl
theorem Pa {R : Aa} (hK : ∀ k s,R 114 [sv k] s = some (.int .i64 (eK k),s)) {v : Value} {s : St} {l : List Ow} (h : Bj owC v s = some l) {i : Nat} (hi : i < l.length) (hl : l.length < 140737488355328) :
    CE.b0 R [v,v,.int .i64 ((l.length : Nat) : Int),.int .i64 (i : Int)] s = if (shOk l[i].2 && (match HI l i with | none=>true | some p=>ckK l[i].1 && bl p l[i].1)) = true then some (.normal,[v,v,.int .i64 ((l.length : Nat) : Int),.int .i64 ((i + 1 : Nat) : Int)],s) else some (.ret,[.int .i64 170],s):=by
  have h1 : decide ((i : Int) < ((l.length : Nat) : Int)) = true:=by simp; omega
  obtain ⟨p,g1,g2⟩:=Lr h hi (k:=.i64) (n:=2) rfl
  rw [Zcd] at g2
  unfold CE.b0
  simp only [BP,CJ,Dq,DO,PS,h1,VX,C2,g1,g2,KT,w_z,w_z2,w_st,w_1]
  have hsh : shOk l[i].2 = (!(decide (l[i].2 < 1)) && !(decide (l[i].2 > 4))):=rfl
  rw [hsh]
  cases c1 : decide (l[i].2 < 1)
  · cases c2 : decide (l[i].2 > 4)
    · cases i with
      | zero =>
        have c3 : decide (((0 : Nat) : Int) > 0) = false:=rfl
        simp only [HI,w_1,EJ,c1,c2,c3,EVs,GQ,Xf (show 0 < 140737488355328 by omega),Bool.not_false,Bool.and_self,if_true]
      | succ j =>
        have c3 : decide (((j + 1 : Nat) : Int) > 0) = true:=decide_eq_true (by omega)
        have hj : j < l.length:=by omega
        obtain ⟨q,f1,q2,f2,f3⟩:=GC h hj (j:=0) (c:=sv l[j].1) rfl (k:=.i64) (n:=2) rfl
        have hp : HI l (j + 1) = some l[j].1:=by simp only [HI,List.getElem?_eq_getElem hj,Option.map_some]
        rw [hp]
        cases c4 : ckK l[j + 1].1
        · simp only [w_0,w_1,EJ,c1,c2,c3,EVs,GQ,CG,hK,eK_n,c4,Bool.not_false,Bool.not_true,Bool.and_self,Bool.false_and,Bool.and_false,Bool.false_eq_true,if_false]
        · cases c5 : bl l[j].1 l[j + 1].1
          · simp only [w_0,w_1,EJ,c1,c2,c3,c4,c5,EVs,GQ,CG,hK,eK_n,ZaF (show j < 140737488355328 by omega),f1,f2,f3,QU,Bool.not_false,Bool.not_true,Bool.and_self,Bool.false_and,Bool.and_false,Bool.false_eq_true,if_false]
          · simp only [w_0,w_1,EJ,c1,c2,c3,c4,c5,EVs,GQ,CG,hK,eK_n,ZaF (show j < 140737488355328 by omega),f1,f2,f3,QU,Xf (show j + 1 < 140737488355328 by omega),Bool.not_false,Bool.not_true,Bool.and_self,Bool.false_and,Bool.and_false,Bool.false_eq_true,if_true]
    · simp only [w_1,EJ,c1,c2,EVs,GQ,Bool.not_false,Bool.not_true,Bool.and_false,Bool.false_and,Bool.false_eq_true,if_false]
  · simp only [c1,EVs,GQ,Bool.not_true,Bool.false_and,Bool.false_eq_true,if_false]
theorem No {R : Aa} (hK : ∀ k s,R 114 [sv k] s = some (.int .i64 (eK k),s)) {v : Value} {s : St} {l : List Ow} (h : Bj owC v s = some l) (hl : l.length < 140737488355328) : ∀ (rest : List Ow) (i : Nat),l.drop i = rest→i ≤ l.length →
    AS (CE.b0 R) [v,v,.int .i64 ((l.length : Nat) : Int),.int .i64 (i : Int)] s = if okF (HI l i) rest = true then some (.exit 0,[],s) else some (.ret,[.int .i64 170],s):=by
  intro rest
  induction rest with
  | nil =>
    intro i hi hle
    have h1 : decide ((i : Int) < ((l.length : Nat) : Int)) = false:=by
      have:=List.drop_eq_nil_iff.1 hi
      simp; omega
    rw [Ar]
    simp only [CE.b0,h1,EVs,okF,if_true]
  | cons o rest ih =>
    intro i hi hle
    obtain ⟨hlt,he,hd⟩:=Sv hi
    rw [Ar,Pa hK h hlt hl,he]
    have hn : HI l (i + 1) = some o.1:=by simp only [HI,List.getElem?_eq_getElem hlt,he,Option.map_some]
    have key:=ih (i + 1) hd (by omega)
    rw [hn] at key
    cases hp : HI l i with
    | none =>
      simp only [okF,Bool.and_true]
      by_cases c : shOk o.2 = true
      · simp only [c,Bool.true_and,if_true,QM,key]
      · have c2 : shOk o.2 = false:=by simpa using c
        simp only [c2,Bool.false_and,Bool.false_eq_true,if_false,QN]
    | some p =>
      simp only [okF]
      by_cases c : (shOk o.2 && (ckK o.1 && bl p o.1)) = true
      · simp only [c,Bool.true_and,if_true,QM,key]
      · have c2 : (shOk o.2 && (ckK o.1 && bl p o.1)) = false:=by simpa using c
        simp only [c2,Bool.false_and,Bool.false_eq_true,if_false,QN]
theorem Pb {R : Aa} (hK : ∀ k s,R 114 [sv k] s = some (.int .i64 (eK k),s)) {v : Value} {s : St} {l : List Ow} (h : Bj owC v s = some l) (hl : l.length < 140737488355328) : CE R v s = some (.int .i64 (eO l),s):=by
  have key:=No hK h hl l 0 rfl (Nat.zero_le _)
  rw [show ((0 : Nat) : Int) = 0 from rfl] at key
  unfold CE eO okO
  cases l with
  | nil =>
    have c1 : ∀ e s2,AG (.slice e) v s2 = some (.int .i64 0):=fun e s2=>Dd h
    have z0 : decide ((0 : Int) < 1) = true:=rfl
    have z1 : ((0 : Int) == 0) = true:=rfl
    simp only [c1,z0,z1,EVs,retV]
    rfl
  | cons o r =>
    have c1 : (((o :: r).length : Int) == 0) = false:=by simp only [List.length_cons,beq_eq_false_iff_ne]; omega
    have c1b : decide (((o :: r).length : Int) < 1) = false:=by simp only [List.length_cons,decide_eq_false_iff_not]; omega
    have c2 : decide (((o :: r).length : Int) > 6) = !decide (r.length < 6):=by
      by_cases g : r.length < 6
      · simp only [g,decide_true,Bool.not_true,decide_eq_false_iff_not,List.length_cons]; omega
      · simp only [g,decide_false,Bool.not_false,decide_eq_true_eq,List.length_cons]; omega
    obtain ⟨p,f1,q,f2,f3⟩:=GC h (i:=0) (by simp) (j:=0) (c:=sv o.1) rfl (k:=.i64) (n:=2) rfl
    have f1' : Az 2 v (.int .i64 0) = some p:=f1
    simp only [Dd h,c1,c1b,c2,KT,EVs]
    rcases Bool.eq_false_or_eq_true (decide (r.length < 6)) with g1 | g1
    · rcases Bool.eq_false_or_eq_true (o.1 == []) with g2 | g2
      · simp only [g1,Bool.not_true,EVs,f1',f2,f3,H3,g2,Dd h,key]
        simp only [HI,Bool.true_and]
        rcases Bool.eq_false_or_eq_true (okF none (o :: r)) with g3 | g3
        · simp only [g3,if_true,EVs,retV]
          rfl
        · simp only [g3,Bool.false_eq_true,if_false,EVs,retV]
          rfl
      · simp only [g1,Bool.not_true,EVs,f1',f2,f3,H3,g2,Bool.not_false,Bool.and_false,Bool.false_and,Bool.false_eq_true,if_false,retV]
        rfl
    · simp only [g1,Bool.not_false,EVs,Bool.false_and,Bool.false_eq_true,if_false,retV]
      rfl
end Go.Proofs.YtmbhnbladmpnoaaGreat.Ab

/- A law's arguments: lists of owners. -/
namespace Go.Proofs.YtmbhnbladmpnoaaGreat.Ab
open Go Go.ChangeShapes Go.WideShapes
theorem Zc0 : Tryz.prog.cellsOf 3 = 1:=by kernel_rfl
theorem Zc1 : Tryz.prog.cellsOf 9 = 1:=by kernel_rfl
set_option maxRecDepth 100000 in
theorem Zgc {H : Type} {enc : TypeId × Value→H} {W : World} {base : Nat} {sp : Nat→Bool} {held : Bool} {n : Nat} {cs : List Value} {y : DataW H × List MemPlace} (h : DataW.trod enc Tryz.prog W base sp held n 91 cs = some y) : ∃ a : Ow,cs = owC.enc a:=by
  obtain ⟨xs,m,_,rfl,hl,hlen,hf⟩:=DataW.trod_struct Tryz.underlying91 h
  have c : Tryz.prog.cellsOf 91 = 2:=by kernel_rfl
  rw [c] at hl
  match xs,hlen,cs,hl with
  | [y0,y1],_,[c0,c1],_ =>
    have t0 : DataW.trod enc Tryz.prog W base sp held m 9 (([c0,c1].drop 0).take (Tryz.prog.cellsOf 9)) = some y0:=hf 0 _ rfl
    have t1 : DataW.trod enc Tryz.prog W base sp held m 3 (([c0,c1].drop 1).take (Tryz.prog.cellsOf 3)) = some y1:=hf 1 _ rfl
    rw [Zc1] at t0
    rw [Zc0] at t1
    simp only [List.drop_succ_cons,List.drop_zero,List.take_succ_cons,List.take_zero] at t0 t1
    obtain ⟨a,e0,_,_⟩:=DataW.trod_string Tryz.underlying9 t0
    obtain ⟨b,e1,_,_⟩:=DataW.trod_int Tryz.underlying3 t1
    simp only [List.cons.injEq,and_true] at e0 e1
    subst e0 e1
    refine ⟨(a.data.toList,b),?_⟩
    show _ = [sv _,_]
    rw [← JG]
end Go.Proofs.YtmbhnbladmpnoaaGreat.Ab

/- slices.Insert within a slice: what the kit's walk shows of the model,told of the abstract machine. -/
namespace Go.Proofs.YtmbhnbladmpnoaaGreat.Ab
open Go
structure InsWalk (P : Program) (f : FuncId) (t e tI ov : TypeId) (nn wd : Nat) : Prop where
  ht : P.underlying t = some (.slice e)
  hI : P.underlying tI = some (.int .i64)
  hn : B0 P e = some nn
  hw : HL P e = some wd
  hz : ∃ z,Ec P e = some z∧(Ao z).length = nn
  hn2 : 2 ≤ nn
  hw0 : 0 < wd
  hov : ∀ (w : World) (a b : Addr) (la ca lb cb : Nat),a.block ≠ b.block→∀ tA tB kA kB,w.shape? a.block = some (tA,kA)→w.shape? b.block = some (tB,kB)→kB ≠ 0→w.frozen? a = false→w.frozen? { block:=a.block,off:=kA } = false →
    (callFunc ov #[.slice (some a) la ca,.slice (some b) lb cb]).run P w = .ok (.value (.bool false)) w
  walkD : ∀ (b off n c i vb voff m vc : Nat) (w : World),i < n→0 < m→n + m ≤ c→n + m ≤ 9223372036854775807 →
    (∀ lb cb,(callFunc ov #[.slice (some ⟨vb,voff,none⟩) m vc,.slice (some ⟨b,off + (i + m) * nn,none⟩) lb cb]).run P w = .ok (.value (.bool false)) w) →
    ∀ (W1 : World) (r1 : Value),(∀ ty dc sc,(Builtin.copy_ #[t,t] ty #[.slice (some ⟨b,off + (i + m) * nn,none⟩) (n + m - (i + m)) dc,.slice (some ⟨b,off + i * nn,none⟩) (n + m - i) sc]).run P w.drew = .ok r1 W1) →
    ∀ (W2 : World) (r2 : Value),(∀ ty dc,(Builtin.copy_ #[t,t] ty #[.slice (some ⟨b,off + i * nn,none⟩) (n + m - i) dc,.slice (some ⟨vb,voff,none⟩) m vc]).run P W1 = .ok r2 W2) →
    Calls P f #[.slice (some ⟨b,off,none⟩) n c,.int .i64 i,.slice (some ⟨vb,voff,none⟩) m vc] w fun e w'=>e = .returned (.slice (some ⟨b,off,none⟩) (n + m) c)∧w' = W2
  walkE : ∀ (b off n c i vb voff m vc : Nat) (w : World),i < n→0 < m→n ≤ c→c < n + m→n + m ≤ 9223372036854775807 →
    ∀ (W0 : World) (N cap : Nat),n + m ≤ cap→(∀ ty,(Builtin.append_ #[t,tI] ty #[.slice (some ⟨b,off,none⟩) i c,.int .i64 ((n : Int) + (m : Int) - (i : Int))]).run P w = .ok (.slice (some ⟨N,0,none⟩) (n + m) cap) W0) →
    ∀ (W1 : World) (r1 : Value),(∀ ty dc,(Builtin.copy_ #[t,t] ty #[.slice (some ⟨N,i * nn,none⟩) (n + m - i) dc,.slice (some ⟨vb,voff,none⟩) m vc]).run P W0 = .ok r1 W1) →
    ∀ (W2 : World) (r2 : Value),(∀ ty dc sc,(Builtin.copy_ #[t,t] ty #[.slice (some ⟨N,(i + m) * nn,none⟩) (n + m - (i + m)) dc,.slice (some ⟨b,off + i * nn,none⟩) (n - i) sc]).run P W1.drew = .ok r2 W2) →
    Calls P f #[.slice (some ⟨b,off,none⟩) n c,.int .i64 i,.slice (some ⟨vb,voff,none⟩) m vc] w fun e w'=>e = .returned (.slice (some ⟨N,0,none⟩) (n + m) cap)∧w' = W2
end Go.Proofs.YtmbhnbladmpnoaaGreat.Ab

/- slices.Insert of pairs: Bq by the kit's walks. -/
namespace Go.Proofs.YtmbhnbladmpnoaaGreat.Ab
open Go Go.RowKit Go.Lib Go.Shelf
set_option maxHeartbeats 4000000 in
set_option maxRecDepth 100000 in
theorem InsD (b off n c i vb voff m vc : Nat) (w : World) (hi : i < n) (hm : 0 < m) (hroom : n + m ≤ c) (hc63 : n + m ≤ 9223372036854775807)
    (hov : ∀ lb cb,(callFunc 181 #[.slice (some ⟨vb,voff,none⟩) m vc,.slice (some ⟨b,off + (i + m) * 2,none⟩) lb cb]).run Tryz.prog w = .ok (.value (.bool false)) w)
    (W1 : World) (r1 : Value) (hcp1 : ∀ ty dc sc,(Builtin.copy_ #[85,85] ty #[.slice (some ⟨b,off + (i + m) * 2,none⟩) (n + m - (i + m)) dc,.slice (some ⟨b,off + i * 2,none⟩) (n + m - i) sc]).run Tryz.prog w.drew = .ok r1 W1)
    (W2 : World) (r2 : Value) (hcp2 : ∀ ty dc,(Builtin.copy_ #[85,85] ty #[.slice (some ⟨b,off + i * 2,none⟩) (n + m - i) dc,.slice (some ⟨vb,voff,none⟩) m vc]).run Tryz.prog W1 = .ok r2 W2) :
    Calls Tryz.prog 174 #[.slice (some ⟨b,off,none⟩) n c,.int .i64 i,.slice (some ⟨vb,voff,none⟩) m vc] w fun e w'=>e = .returned (.slice (some ⟨b,off,none⟩) (n + m) c)∧w' = W2:=by
  have hz1 : ¬ ((m : Int) = 0):=by omega
  have hz2 : ¬ ((i : Int) = (n : Int)):=by omega
  have hsz : (Tryz.prog.info? 89).map (·.size) = some 2:=by kernel_rfl
  have hw1 : IntKind.i64.wrap ((i : Int) + (m : Int)) = (i : Int) + (m : Int):=by rw [IntKind.wrap_i64]; omega
  have hb1 : (0 : Int) ≤ (i : Int) + (m : Int):=by omega
  have hin : i ≤ n:=by omega
  have htn : ((i : Int) + (m : Int)).toNat = i + m:=by omega
  have hb2 : ¬ (c = i + m):=by omega
  have hb3 : (i : Int) ≤ (n : Int) + (m : Int):=by omega
  have hb4 : ¬ (c = i):=by omega
  have mixed : Tryz.prog.follows .mixedOrders = true:=by kernel_rfl
  go_enter Tryz.func174,Tryz.ntmps174
  go_wp2_with (simp only [hov])
  go_region_law_o (refine step_copy_runI rfl _ _ 85 85 rfl _ _ (by simp [Act.eval,Act.put]) (by simp [Act.eval,Act.put]) (hcp1 _ _ _) ?_)
  go_wp2_with (at_builtin; refine wpList_copy_runI _ rfl _ _ 85 85 rfl _ _ rfl rfl (hcp2 _ _) ?_)
  go_ret
  exact ⟨rfl,rfl⟩
set_option maxHeartbeats 4000000 in
set_option maxRecDepth 100000 in
theorem InsE (b off n c i vb voff m vc : Nat) (w : World) (hi : i < n) (hm : 0 < m) (hnc : n ≤ c) (hroom : c < n + m) (hc63 : n + m ≤ 9223372036854775807)
    (W0 : World) (N cap : Nat) (hcap : n + m ≤ cap) (hap : ∀ ty,(Builtin.append_ #[85,3] ty #[.slice (some ⟨b,off,none⟩) i c,.int .i64 ((n : Int) + (m : Int) - (i : Int))]).run Tryz.prog w = .ok (.slice (some ⟨N,0,none⟩) (n + m) cap) W0)
    (W1 : World) (r1 : Value) (hcp1 : ∀ ty dc,(Builtin.copy_ #[85,85] ty #[.slice (some ⟨N,i * 2,none⟩) (n + m - i) dc,.slice (some ⟨vb,voff,none⟩) m vc]).run Tryz.prog W0 = .ok r1 W1)
    (W2 : World) (r2 : Value) (hcp2 : ∀ ty dc sc,(Builtin.copy_ #[85,85] ty #[.slice (some ⟨N,(i + m) * 2,none⟩) (n + m - (i + m)) dc,.slice (some ⟨b,off + i * 2,none⟩) (n - i) sc]).run Tryz.prog W1.drew = .ok r2 W2) :
    Calls Tryz.prog 174 #[.slice (some ⟨b,off,none⟩) n c,.int .i64 i,.slice (some ⟨vb,voff,none⟩) m vc] w fun e w'=>e = .returned (.slice (some ⟨N,0,none⟩) (n + m) cap)∧w' = W2:=by
  have hz1 : ¬ ((m : Int) = 0):=by omega
  have hz2 : ¬ ((i : Int) = (n : Int)):=by omega
  have hz3 : (c : Int) < (n : Int) + (m : Int):=by omega
  have hsz : (Tryz.prog.info? 89).map (·.size) = some 2:=by kernel_rfl
  have hw1 : IntKind.i64.wrap ((i : Int) + (m : Int)) = (i : Int) + (m : Int):=by rw [IntKind.wrap_i64]; omega
  have hb1 : (0 : Int) ≤ (i : Int) + (m : Int):=by omega
  have hin : i ≤ n:=by omega
  have hb3 : (i : Int) ≤ (n : Int):=by omega
  have hb5 : ¬ (cap = i + m):=by omega
  have hb6 : ¬ (c = i):=by omega
  have htn : ((i : Int) + (m : Int)).toNat = i + m:=by omega
  have mixed : Tryz.prog.follows .mixedOrders = true:=by kernel_rfl
  go_enter Tryz.func174,Tryz.ntmps174
  go_wp2_with (first
    | (at_builtin; refine Lib.wpList_append_run _ rfl _ _ _ _ rfl _ _ rfl rfl _ _ (hap _) ?_)
    | (at_builtin; refine wpList_copy_runI _ rfl _ _ 85 85 rfl _ _ rfl rfl (hcp1 _ _) ?_)
    | (at_builtin; refine wpList_copy_runI _ rfl _ _ 85 85 rfl _ _ rfl rfl (hcp2 _ _ _) ?_))
  go_region_law_o (refine step_copy_runI rfl _ _ 85 85 rfl (.slice (some ⟨N,(i + m) * 2,none⟩) (n + m - (i + m)) (cap - (i + m))) (.slice (some ⟨b,off + i * 2,none⟩) (n - i) (c - i)) (by simp [Act.eval,Act.put,hb5,hb6]) (by simp [Act.eval,Act.put,hb5,hb6]) (hcp2 3 (cap - (i + m)) (c - i)) ?_)
  go_wp2
  go_ret
  exact ⟨rfl,rfl⟩
end Go.Proofs.YtmbhnbladmpnoaaGreat.Ab

/- Operations,as values; the kinds' forms. -/
namespace Go.Proofs.YtmbhnbladmpnoaaGreat.Ab
open Go
theorem ZeJ {β : Type} {a b c : Bool} {s : St} {K : List Value × St→Value→Option β} :
    ((Ai (.bool a) false (some ([.bool b],s)) (some ([undef],s))).bind fun q=>(Ai (getL q.1 0) true (some ([.bool c],q.2)) (some ([undef],q.2))).bind fun q2=>(Ai (.bool a) false ((AJ (getL q.1 0) (getL q2.1 0) (.bool false)).bind fun v=>some ([v],q2.2)) (some ([undef],q2.2))).bind fun q3=>(AJ (.bool a) (.bool true) (getL q3.1 0)).bind (K q3)) = K ([if a = true then undef else .bool (b && c)],s) (.bool (a || (b && c))):=by
  cases a <;> cases b <;> cases c <;> rfl
theorem ZeK {β : Type} {a b c : Bool} {s : St} {K : List Value × St→Value→Option β} :
    ((Ai (.bool a) true (some ([.bool b],s)) (some ([undef],s))).bind fun q=>(Ai (getL q.1 0) false (some ([.bool c],q.2)) (some ([undef],q.2))).bind fun q2=>(Ai (.bool a) true ((AJ (getL q.1 0) (.bool true) (getL q2.1 0)).bind fun v=>some ([v],q2.2)) (some ([undef],q2.2))).bind fun q3=>(AJ (.bool a) (getL q3.1 0) (.bool false)).bind (K q3)) = K ([if a = true then .bool (b || c) else undef],s) (.bool (a && (b || c))):=by
  cases a <;> cases b <;> cases c <;> rfl
theorem ZaG {b : Bool} {β : Type} {x y : Option β} : Ax (.bool b) x y = if b = true then x else y:=by cases b <;> rfl
theorem ret1 {v : Value} {s : St} (h : Fk v = true:=by rfl) : retV [v] s = some (v,s):=by simp [retV,h,F5]
structure OpT where
  kind : Int
  key : BL
  val : BL
  lo : BL
  hi : BL
  most : Int
def oC (o : OpT) : List Value:=[.int .i64 o.kind,sv o.key,sv o.val,sv o.lo,sv o.hi,.int .i64 o.most]
def oV (o : OpT) : Value:=.agg #[.int .i64 o.kind,sv o.key,sv o.val,sv o.lo,sv o.hi,.int .i64 o.most]
def asOp : Value→Option OpT
  | .agg cs=>match cs.toList with
    | [.int .i64 k,.string a,.string b,.string c,.string d,.int .i64 m]=>some ⟨k,a.data.toList,b.data.toList,c.data.toList,d.data.toList,m⟩
    | _=>none
  | _=>none
theorem YI {v : Value} {o : OpT} (h : asOp v = some o) : v = oV o:=by
  unfold asOp at h
  split at h
  · rename_i cs
    split at h
    · rename_i k a b c d m e
      cases h
      obtain ⟨l⟩:=cs
      simp only at e
      subst e
      unfold oV
      rw [← JG,← JG,← JG,← JG]
    · cases h
  · cases h
theorem U7 (o : OpT) : lbox (oV o) = some (oV o):=rfl
theorem Xg (o : OpT) : Ap true 6 lptr (oV o) = some (oV o):=rfl
theorem o_0 (o : OpT) : Ap false 1 lptr (oV o) = some (.int .i64 o.kind):=rfl
theorem o_1 (o : OpT) : Ap false 1 (.pointer (some ⟨0,1,none⟩)) (oV o) = some (sv o.key):=rfl
theorem o_2 (o : OpT) : Ap false 1 (.pointer (some ⟨0,2,none⟩)) (oV o) = some (sv o.val):=rfl
theorem o_3 (o : OpT) : Ap false 1 (.pointer (some ⟨0,3,none⟩)) (oV o) = some (sv o.lo):=rfl
theorem o_4 (o : OpT) : Ap false 1 (.pointer (some ⟨0,4,none⟩)) (oV o) = some (sv o.hi):=rfl
theorem o_5 (o : OpT) : Ap false 1 (.pointer (some ⟨0,5,none⟩)) (oV o) = some (.int .i64 o.most):=rfl
theorem o_st (o : OpT) : AO 6 lptr (oV o) (.agg #[(.int .i64 0),(.string ⟨#[]⟩),(.string ⟨#[]⟩),(.string ⟨#[]⟩),(.string ⟨#[]⟩),(.int .i64 0)]) = some (oV o):=rfl
theorem p_0 : Ac 0 lptr = some lptr:=rfl
theorem p_1 : Ac 1 lptr = some (.pointer (some ⟨0,1,none⟩)):=rfl
theorem p_2 : Ac 2 lptr = some (.pointer (some ⟨0,2,none⟩)):=rfl
theorem p_3 : Ac 3 lptr = some (.pointer (some ⟨0,3,none⟩)):=rfl
theorem p_5 : Ac 5 lptr = some (.pointer (some ⟨0,5,none⟩)):=rfl
def G1O (F : OpT→Value) : List Value→Option Value
  | [v]=>(asOp v).map F
  | _=>none
theorem YJ {lib : Lib} {f : FuncId} {F : OpT→Value} (h : ∀ o s,FZ (F o) = true∧∃ t,run Tryz.prog lib Ad f [oV o] s = some (F o,t)) : BO Tryz.prog lib Ad f (gP (G1O F)):=sumP fun xs v s hv=>by
  unfold G1O at hv
  split at hv
  · simp only [Option.map_eq_some_iff] at hv
    obtain ⟨k,h1,rfl⟩:=hv
    rw [YI h1]
    exact h k s
  · cases hv
def G1I (F : Int→Value) : List Value→Option Value
  | [.int .i64 k]=>some (F k)
  | _=>none
theorem ZeL {lib : Lib} {f : FuncId} {F : Int→Value} (h : ∀ k s,FZ (F k) = true∧∃ t,run Tryz.prog lib Ad f [.int .i64 k] s = some (F k,t)) : BO Tryz.prog lib Ad f (gP (G1I F)):=sumP fun xs v s hv=>by
  unfold G1I at hv
  split at hv
  · cases hv
    exact h _ s
  · cases hv
theorem sum0 {lib : Lib} {f : FuncId} {v : Value} (h : ∀ s,FZ v = true∧∃ t,run Tryz.prog lib Ad f [] s = some (v,t)) : BO Tryz.prog lib Ad f (gP (G0 v)):=sumP fun xs u s hv=>by
  unfold G0 at hv
  split at hv
  · cases hv
    exact h s
  · cases hv
def TE : Int→List Value
  | 1=>[.bool true,.bool false,.bool false,.bool false,.bool false,.func (.func 168) #[] #[]]
  | 2=>[.bool true,.bool true,.bool false,.bool false,.bool true,.func (.func 169) #[] #[]]
  | 3=>[.bool true,.bool false,.bool false,.bool false,.bool true,.func (.func 170) #[] #[]]
  | 4=>[.bool false,.bool false,.bool true,.bool true,.bool false,.func (.func 171) #[] #[]]
  | 5=>[.bool false,.bool false,.bool true,.bool false,.bool true,.func (.func 172) #[] #[]]
  | _=>[.bool false,.bool false,.bool false,.bool false,.bool false,.nilFunc]
def FC (k : Int) : Value:=.agg (TE k).toArray
def TF : Value:=.agg (TE 0 ++ TE 1 ++ TE 2 ++ TE 3 ++ TE 4 ++ TE 5).toArray
def EA (k : Int) : Bool:=decide (1 ≤ k) && decide (k ≤ 5)
theorem Pc {k : Int} (h : EA k = true) : k = 1 ∨ k = 2 ∨ k = 3 ∨ k = 4 ∨ k = 5:=by
  unfold EA at h
  simp at h
  omega
theorem V8 {k : Int} (h : EA k = false) : FC k = FC 0:=by
  have : k ≠ 1∧k ≠ 2∧k ≠ 3∧k ≠ 4∧k ≠ 5:=by
    unfold EA at h
    simp at h
    refine ⟨?_,?_,?_,?_,?_⟩ <;> (rintro rfl; revert h; decide)
  unfold FC TE
  obtain ⟨h1,h2,h3,h4,h5⟩:=this
  split <;> simp_all
theorem YK {R : Aa} (s : St) : V7 R s = some (TF,s):=by kernel_rfl
def fmV (k : Int) : Value:=.tuple #[FC k,.bool (EA k)]
theorem Xh {R : Aa} (hF : ∀ s,R 167 [] s = some (TF,s)) (k : Int) (s : St) : OW R (.int .i64 k) s = some (fmV k,s):=by
  unfold OW fmV
  cases h : EA k
  · rw [V8 h]
    unfold EA at h
    have h2 : (decide (k < 1) || decide (k > 5)) = true:=by
      simp at h ⊢
      omega
    cases h1 : decide (k < 1) <;> rw [h1] at h2
    · have h3 : decide (k > 5) = true:=by simpa using h2
      simp only [PS,EJ,h1,h3,EVs,retV]
      rfl
    · simp only [PS,EJ,h1,EVs,retV]
      rfl
  · have h1 : decide (k < 1) = false:=by rcases Pc h with rfl | rfl | rfl | rfl | rfl <;> rfl
    have h2 : decide (k > 5) = false:=by rcases Pc h with rfl | rfl | rfl | rfl | rfl <;> rfl
    have h3 : HN true 6 6 TF (.int .i64 k) = some (FC k):=by rcases Pc h with rfl | rfl | rfl | rfl | rfl <;> rfl
    have h4 : AO 6 lptr (FC k) (.agg #[(.bool false),(.bool false),(.bool false),(.bool false),(.bool false),.nilFunc]) = some (FC k):=by rcases Pc h with rfl | rfl | rfl | rfl | rfl <;> rfl
    have h5 : Ap true 6 lptr (FC k) = some (FC k):=by rcases Pc h with rfl | rfl | rfl | rfl | rfl <;> rfl
    simp only [PS,EJ,h1,h2,Su,hF,h3,h4,h5,EVs,retV]
    rfl
theorem Xi (k : Int) : FZ (fmV k) = true:=by
  unfold fmV
  cases h : EA k
  · rw [V8 h]; rfl
  · rcases Pc h with rfl | rfl | rfl | rfl | rfl <;> rfl
theorem x_fm (k : Int) : Al 0 (fmV k) = some (FC k)∧Al 1 (fmV k) = some (.bool (EA k)):=⟨rfl,rfl⟩
def YL : Sum:=gP (G0 TF)
def gFm : Sum:=gP (G1I fmV)
theorem ZaH {s : St} : YL [] s = some (TF,s):=rfl
theorem ZeM {k : Int} {s : St} : gFm [.int .i64 k] s = some (fmV k,s):=rfl
def Np (k : Int) : Bool:=k == 1 || k == 2 || k == 3
def Pd (k : Int) : Bool:=k == 4 || k == 5
def wrt (k : Int) : Bool:=k == 2 || k == 3 || k == 5
def ckO (o : OpT) : Int :=
  if !EA o.kind || (Np o.kind && (o.lo != [] || o.hi != [])) || (Pd o.kind && o.key != []) || (o.kind != 2 && o.val != []) || (o.kind != 4 && o.most != 0) then 40
  else if Np o.kind && !ckK o.key then 20
  else if !decide (o.val.length ≤ 16) then 2
  else if Pd o.kind && !ckR (o.lo,o.hi) then 21
  else if o.kind == 4 && (decide (o.most < 1) || decide (o.most > 4)) then 1
  else 0
theorem YM {o : OpT} (h : EA o.kind = false) : ckO o = 40:=by unfold ckO; rw [h]; rfl
theorem ZeN {R : Aa} (o : OpT) (s : St) : ZcX R (oV o) s = some (rv (o.lo,o.hi),s):=by
  unfold ZcX
  simp only [U7,o_3,o_4,ab2,EVs,retV]
  rfl
theorem Zc2 {k : BL} : decide (((k.length : Nat) : Int) > 16) = !decide (k.length ≤ 16):=by
  by_cases h : k.length ≤ 16
  · simp [h]; omega
  · simp [h]; omega
theorem f_ld (k : Int) (h : EA k = true) : AO 6 lptr (FC k) (.agg #[(.bool false),(.bool false),(.bool false),(.bool false),(.bool false),.nilFunc]) = some (FC k) ∧
    Ap false 1 lptr (FC k) = some (.bool (Np k))∧Ap false 1 (.pointer (some ⟨0,1,none⟩)) (FC k) = some (.bool (k == 2))∧Ap false 1 (.pointer (some ⟨0,2,none⟩)) (FC k) = some (.bool (Pd k))∧Ap false 1 (.pointer (some ⟨0,3,none⟩)) (FC k) = some (.bool (k == 4))∧Ap false 1 (.pointer (some ⟨0,4,none⟩)) (FC k) = some (.bool (wrt k)):=by
  rcases Pc h with rfl | rfl | rfl | rfl | rfl <;> exact ⟨rfl,rfl,rfl,rfl,rfl,rfl⟩
theorem U8 {R : Aa} (hF : ∀ k s,R 141 [.int .i64 k] s = some (fmV k,s)) (hO : ∀ o s,R 166 [oV o] s = some (rv (o.lo,o.hi),s)) (hR : ∀ r s,R 62 [rv r] s = some (.int .i64 (eR r),s)) (hK : ∀ k s,R 133 [sv k] s = some (.int .i64 (eK k),s)) (o : OpT) (s : St) : Ca R (oV o) s = some (.int .i64 (ckO o),s):=by
  unfold Ca
  simp only [U7,o_0,Jk,hF,(x_fm _).1,(x_fm _).2,EVs]
  cases hk : EA o.kind
  · rw [V8 hk,YM hk]
    have h1 : AO 6 lptr (FC 0) (.agg #[(.bool false),(.bool false),(.bool false),(.bool false),(.bool false),.nilFunc]) = some (FC 0):=rfl
    simp only [h1,Bool.not_false,EVs,Ca.j0,retV]
    rfl
  obtain ⟨f0,f1,f2,f3,f4,f5⟩:=f_ld o.kind hk
  have hrk : Pd o.kind = !Np o.kind:=by rcases Pc hk with h | h | h | h | h <;> rw [h] <;> rfl
  have hne : ∀ a b : BL,(!(a == [] && b == [])) = (a != [] || b != []):=fun a b=>by simp [bne,Bool.not_and]
  have rne : ∀ (o1 o2 : Operand) (r : Rg),abin Tryz.prog .neq 24 o1 o2 (rv r) (.agg #[sv [],sv []]) = some (.bool (r.1 != [] || r.2 != [])):=fun o1 o2 r=>by
    rw [YE,ZeE,hne]
  have hck : ckO o = if (Np o.kind && (o.lo != [] || o.hi != [])) || (!Np o.kind && o.key != []) || (o.kind != 2 && o.val != []) || (o.kind != 4 && o.most != 0) then 40
      else if Np o.kind && !ckK o.key then 20
      else if !decide (o.val.length ≤ 16) then 2
      else if !Np o.kind && !ckR (o.lo,o.hi) then 21
      else if o.kind == 4 && (decide (o.most < 1) || decide (o.most > 4)) then 1
      else 0:=by
    unfold ckO
    rw [hk,hrk]
    rfl
  rw [hck]
  have hb2 : (o.kind != 2) = !(o.kind == 2):=rfl
  have hb4 : (o.kind != 4) = !(o.kind == 4):=rfl
  rw [hrk] at f3
  rw [hb2,hb4]
  generalize Np o.kind = kd at *
  generalize (o.kind == 2) = k2 at *
  generalize (o.kind == 4) = k4 at *
  have hj : ∀ b,Ca.j0 R [lptr,lptr,.bool b,oV o,FC o.kind] s = some (.int .i64 (if b then 40 else if kd && !ckK o.key then 20
      else if !decide (o.val.length ≤ 16) then 2
      else if !kd && !ckR (o.lo,o.hi) then 21
      else if k4 && (decide (o.most < 1) || decide (o.most > 4)) then 1
      else 0),s):=fun b=>by
    unfold Ca.j0
    cases b
    · simp only [p_0,p_1,p_2,p_3,p_5,Xg,o_1,o_2,o_5,f1,f3,f4,Ok,Zc2,Cf,hK,IJ,hO,C6,hR,eK_n,eR_n,EVs]
      cases kd <;> cases h1 : ckK o.key <;> cases h2 : decide (o.val.length ≤ 16) <;> cases h3 : ckR (o.lo,o.hi) <;> cases k4 <;> cases h4 : decide (o.most < 1) <;> cases h5 : decide (o.most > 4) <;>
        simp only [h1,h2,h3,h4,h5,f1,f3,f4,o_1,o_2,o_5,Xg,Ok,Zc2,eK_n,eR_n,IJ,hO,C6,hR,Bool.not_true,Bool.not_false,Bool.and_true,Bool.and_false,Bool.true_and,Bool.false_and,Bool.or_true,Bool.or_false,Bool.true_or,Bool.false_or,if_true,if_false,Bool.false_eq_true,EVs,retV] <;> rfl
    · simp only [EVs,retV]
      rfl
  simp only [KT,f0,f1,f2,f3,f4,o_1,o_2,o_5,Xg,H3,rne,IJ,hO,Bool.not_true,hj,EVs]
  cases kd <;> cases h1 : (o.key == []) <;> cases k2 <;> cases h2 : (o.val == []) <;> cases h3 : (o.lo != [] || o.hi != []) <;> cases k4 <;> cases h4 : (o.most != 0) <;>
    simp only [h1,h2,h3,h4,f0,f1,f2,f3,f4,o_1,o_2,o_5,Xg,H3,rne,IJ,hO,hj,bne,Bool.not_true,Bool.not_false,Bool.and_true,Bool.and_false,Bool.true_and,Bool.false_and,Bool.or_true,Bool.or_false,Bool.true_or,Bool.false_or,if_true,if_false,Bool.false_eq_true,EVs]
end Go.Proofs.YtmbhnbladmpnoaaGreat.Ab
/- Operations: the reference's answers,what they write,what they touch. -/
namespace Go.Proofs.YtmbhnbladmpnoaaGreat.Ab
open Go
set_option maxHeartbeats 2000000 in
theorem Qv {R : Aa} (hR : ∀ r s,R 32 [rv r] s = some (.int .i64 (eR r),s)) (hK : ∀ k s,R 114 [sv k] s = some (.int .i64 (eK k),s)) (o : OpT) (s : St) : E0 R (oV o) s = some (.int .i64 (ckO o),s):=by
  cases hk : EA o.kind
  · rw [YM hk]
    have : (o.kind == 1) = false∧(o.kind == 2) = false∧(o.kind == 3) = false∧(o.kind == 4) = false∧(o.kind == 5) = false:=by
      unfold EA at hk
      refine ⟨?_,?_,?_,?_,?_⟩ <;> (rw [beq_eq_false_iff_ne]; intro e; rw [e] at hk; revert hk; decide)
    obtain ⟨k1,k2,k3,k4,k5⟩:=this
    unfold E0
    simp only [U7,o_0,k1,k2,k3,k4,k5,Bool.not_false,EVs,retV]
    rfl
  · obtain ⟨k,key,val,lo,hi,most⟩:=o
    simp only at hk
    have k11 : ((1 : Int) == 1) = true:=rfl
    have k12 : ((1 : Int) == 2) = false:=rfl
    have k13 : ((1 : Int) == 3) = false:=rfl
    have k14 : ((1 : Int) == 4) = false:=rfl
    have k15 : ((1 : Int) == 5) = false:=rfl
    have k21 : ((2 : Int) == 1) = false:=rfl
    have k22 : ((2 : Int) == 2) = true:=rfl
    have k24 : ((2 : Int) == 4) = false:=rfl
    have k25 : ((2 : Int) == 5) = false:=rfl
    have k31 : ((3 : Int) == 1) = false:=rfl
    have k32 : ((3 : Int) == 2) = false:=rfl
    have k33 : ((3 : Int) == 3) = true:=rfl
    have k34 : ((3 : Int) == 4) = false:=rfl
    have k35 : ((3 : Int) == 5) = false:=rfl
    have k41 : ((4 : Int) == 1) = false:=rfl
    have k42 : ((4 : Int) == 2) = false:=rfl
    have k43 : ((4 : Int) == 3) = false:=rfl
    have k44 : ((4 : Int) == 4) = true:=rfl
    have k51 : ((5 : Int) == 1) = false:=rfl
    have k52 : ((5 : Int) == 2) = false:=rfl
    have k53 : ((5 : Int) == 3) = false:=rfl
    have k54 : ((5 : Int) == 4) = false:=rfl
    have k55 : ((5 : Int) == 5) = true:=rfl
    unfold E0 ckO
    rw [hk]
    have n12 : ((1 : Int) != 2) = true:=rfl
    have n14 : ((1 : Int) != 4) = true:=rfl
    have n22 : ((2 : Int) != 2) = false:=rfl
    have n24 : ((2 : Int) != 4) = true:=rfl
    have n32 : ((3 : Int) != 2) = true:=rfl
    have n34 : ((3 : Int) != 4) = true:=rfl
    have n42 : ((4 : Int) != 2) = true:=rfl
    have n44 : ((4 : Int) != 4) = false:=rfl
    have n52 : ((5 : Int) != 2) = true:=rfl
    have n54 : ((5 : Int) != 4) = true:=rfl
    have hb : ∀ a b : BL,(a != b) = !(a == b):=fun _ _=>rfl
    have rI : ∀ (n : Int) (s : St),retV [.int .i64 n] s = some (.int .i64 n,s):=fun _ _=>rfl
    have hif : ∀ (c : Bool) (n m : Int),(if c = true then some ((Value.int .i64 n),s) else some (.int .i64 m,s)) = some (.int .i64 (if c = true then n else m),s):=fun c n m=>by cases c <;> rfl
    rcases Pc hk with rfl | rfl | rfl | rfl | rfl
    all_goals simp only [U7,o_0,o_1,o_2,o_3,o_4,o_5,KT,H3,Np,Pd,hb,k11,k12,k13,k14,k15,k21,k22,k24,k25,k31,k32,k33,k34,k35,k41,k42,k43,k44,k51,k52,k53,k54,k55,n12,n14,n22,n24,n32,n34,n42,n44,n52,n54,Bool.not_true,Bool.not_false,Bool.and_true,Bool.and_false,Bool.true_and,Bool.false_and,Bool.or_true,Bool.or_false,Bool.true_or,Bool.false_or,Bool.or_self,Bool.and_self,if_true,if_false,Bool.false_eq_true,CG,hK,MF,hR,Ok,Zc2,ab2,ZeJ,ZeK,eK_n,eR_n,Option.bind_assoc,EVs,rI,ZaG,hif]
theorem f_wr (k : Int) : Ap false 1 (.pointer (some ⟨0,4,none⟩)) (FC k) = some (.bool (wrt k))∧AO 6 lptr (FC k) (.agg #[(.bool false),(.bool false),(.bool false),(.bool false),(.bool false),.nilFunc]) = some (FC k):=by
  cases h : EA k
  · have : wrt k = false:=by
      have h1 : (k == 2) = false∧(k == 3) = false∧(k == 5) = false:=by
        unfold EA at h
        refine ⟨?_,?_,?_⟩ <;> (rw [beq_eq_false_iff_ne]; intro e; rw [e] at h; revert h; decide)
      unfold wrt; rw [h1.1,h1.2.1,h1.2.2]; rfl
    rw [V8 h,this]; exact ⟨rfl,rfl⟩
  · rcases Pc h with rfl | rfl | rfl | rfl | rfl <;> exact ⟨rfl,rfl⟩
theorem Xj {R : Aa} (hF : ∀ k s,R 141 [.int .i64 k] s = some (fmV k,s)) (o : OpT) (s : St) : OC R (oV o) s = some (.bool (wrt o.kind),s):=by
  unfold OC
  simp only [U7,o_0,Jk,hF,(x_fm _).1,(x_fm _).2,(f_wr _).1,(f_wr _).2,EVs,retV]
  rfl
theorem Sw {R : Aa} (o : OpT) (s : St) : H6 R (oV o) s = some (.bool (wrt o.kind),s):=by
  unfold H6
  simp only [U7,o_0,ZcS,Option.bind_some]
  unfold wrt
  cases h2 : (o.kind == 2) <;> cases h3 : (o.kind == 3) <;> cases h5 : (o.kind == 5) <;> simp only [h2,h3,h5,o_0,EVs,retV] <;> rfl
end Go.Proofs.YtmbhnbladmpnoaaGreat.Ab
