/- HouseNone: a nil house is down and has nothing; this text: part 4 of the proof, no condition. -/
import Derived.Test.YtaoepimoakcdaaaGreatAl3
import Derived.Laws.LoneSync
namespace Go.Al
open Go Go.Proofs
/-- (*almshouse/store.Store).Write -/
@[irreducible] def G144 (v0 v1 v2 : Value) (R : Value → World → Prop) : World → Prop :=
 pVal (buildV P 176 [(0, v1), (1, (.int .i64 1)), (2, v2)]) fun v10 =>
 pCall P 169 [v0, v10] fun v11 =>
 R v11
theorem tr144 (v0 v1 v2 : Value) (R : Value → World → Prop) : trF P ag [] [] Tryz.f144 [v0, v1, v2] R = G144 v0 v1 v2 R := by kernel_rfl
theorem hb144 : hasBody P 144 = true := by kernel_rfl
theorem c144 {v0 v1 v2 : Value} {K : Value → World → Prop} {w : World} (h : G144 v0 v1 v2 K w) : pCall P 144 [v0, v1, v2] K w := pCall_of mixed Tryz.func144 hb144 (tr144 v0 v1 v2 K) h
/-- (*almshouse/store.Store).Trim -/
@[irreducible] def G145 (v0 v1 : Value) (R : Value → World → Prop) : World → Prop :=
 pVal (buildV P 176 [(0, v1), (1, (.int .i64 2))]) fun v7 =>
 pCall P 169 [v0, v7] fun v8 =>
 R v8
theorem tr145 (v0 v1 : Value) (R : Value → World → Prop) : trF P ag [] [] Tryz.f145 [v0, v1] R = G145 v0 v1 R := by kernel_rfl
theorem hb145 : hasBody P 145 = true := by kernel_rfl
theorem c145 {v0 v1 : Value} {K : Value → World → Prop} {w : World} (h : G145 v0 v1 K w) : pCall P 145 [v0, v1] K w := pCall_of mixed Tryz.func145 hb145 (tr145 v0 v1 K) h
/-- (*sync/atomic.Bool).Store -/
@[irreducible] def G147 (v0 v1 : Value) (R : Value → World → Prop) : World → Prop :=
 pDraw fun S0 =>
 pNil v0 fun v5 =>
 pVal (fieldV P 160 v5 1) fun v6 =>
 pCall P 171 [v1] fun v8 =>
 pExt P 170 [v6, v8] fun _ =>
 R (.tuple #[])
theorem tr147 (v0 v1 : Value) (R : Value → World → Prop) : trF P ag [] [] Tryz.f147 [v0, v1] R = G147 v0 v1 R := by kernel_rfl
theorem hb147 : hasBody P 147 = true := by kernel_rfl
theorem c147 {v0 v1 : Value} {K : Value → World → Prop} {w : World} (h : G147 v0 v1 K w) : pCall P 147 [v0, v1] K w := pCall_of mixed Tryz.func147 hb147 (tr147 v0 v1 K) h
/-- almshouse/adlog.find -/
@[irreducible] def G148 (v0 : Value) (R : Value → World → Prop) : World → Prop :=
 pAlloc P 200 fun v2 =>
 pAlloc P 200 fun v4 =>
 pCall P 129 [v0] fun v13 =>
 pVal (fieldOfV P 23 v13 3) fun v14 =>
 pLoop1 (fun ag4 v15 =>
 pVal (binV P .lss 3 v15 (.int .i64 2)) fun v16 =>
 pIf v16
 (pLoop1 (fun ag7 v19 =>
 pVal (binV P .lss 3 v19 v14) fun v20 =>
 pIf v20
 (pCall P 157 [v0, v15, v19] fun v26 =>
 pVal (extractV v26 0) fun _ =>
 pVal (extractV v26 1) fun v28 =>
 pVal (extractV v26 2) fun v29 =>
 pVal (binV P .eql 35 v29 (.int .i64 12)) fun v31 =>
 pIf v31
 (pVal (buildV P 200 []) fun v32 =>
 pSt P 200 v2 v32 <|
 pRes P 200 v2 fun r2 =>
 R (.tuple #[r2, v29]))
 (pVal (binV P .neq 35 v29 (.int .i64 0)) fun v35 =>
 pIf v35
 (pVal (binV P .add 3 v19 (.int .i64 1)) fun v63 =>
 ag7 v63)
 (pRun P (convert 9 227 v28) fun v38 =>
 pCall P 25 [v0] fun v40 =>
 pCall P 172 [v38, v40, v14] fun v42 =>
 pVal (extractV v42 0) fun v43 =>
 pVal (extractV v42 1) fun v44 =>
 pAlloc P 56 fun v11 =>
 pSt P 56 v11 v43 <|
 pJoin1 (fun J15 =>
 pVal (binV P .eql 35 v44 (.int .i64 0)) fun v46 =>
 pGuard v46 true
 (pVal (fieldV P 200 v4 2) fun v48 =>
 pLd P 4 v48 fun v49 =>
 pVal (unV .not v49) fun v50 =>
 pGuard v50 false
 (pVal (fieldV P 56 v11 0) fun v52 =>
 pLd P 3 v52 fun v53 =>
 pVal (fieldV P 200 v4 0) fun v54 =>
 pVal (fieldV P 56 v54 0) fun v55 =>
 pLd P 3 v55 fun v56 =>
 pVal (binV P .gtr 3 v53 v56) fun v57 =>
 J15 v57)
 (J15 (.bool true)))
 (J15 (.bool false)))
 (fun v59 =>
 pIf v59
 (pLd P 56 v11 fun v60 =>
 pVal (buildV P 200 [(0, v60), (1, v15), (2, (.bool true))]) fun v62 =>
 pSt P 200 v4 v62 <|
 pVal (binV P .add 3 v19 (.int .i64 1)) fun v63 =>
 ag7 v63)
 (pVal (binV P .add 3 v19 (.int .i64 1)) fun v63 =>
 ag7 v63)))))
 (pVal (binV P .add 3 v15 (.int .i64 1)) fun v64 =>
 ag4 v64)) (.int .i64 0))
 (pLd P 200 v4 fun v65 =>
 pSt P 200 v2 v65 <|
 pRes P 200 v2 fun r2 =>
 R (.tuple #[r2, (.int .i64 0)]))) (.int .i64 0)
theorem tr148 (v0 : Value) (R : Value → World → Prop) : trF P ag [(15, [59])] [(529, [15]), (912, [19])] Tryz.f148 [v0] R = G148 v0 R := by kernel_rfl
theorem hb148 : hasBody P 148 = true := by kernel_rfl
theorem c148 {v0 : Value} {K : Value → World → Prop} {w : World} (h : G148 v0 K w) : pCall P 148 [v0] K w := pCall_of mixed Tryz.func148 hb148 (tr148 v0 K) h
/-- (*sync/atomic.Bool).Load -/
@[irreducible] def G152 (v0 : Value) (R : Value → World → Prop) : World → Prop :=
 pNil v0 fun v4 =>
 pVal (fieldV P 160 v4 1) fun v5 =>
 pExt P 185 [v5] fun v6 =>
 pVal (binV P .neq 158 v6 (.int .u32 0)) fun v7 =>
 R v7
theorem tr152 (v0 : Value) (R : Value → World → Prop) : trF P ag [] [] Tryz.f152 [v0] R = G152 v0 R := by kernel_rfl
theorem hb152 : hasBody P 152 = true := by kernel_rfl
theorem c152 {v0 : Value} {K : Value → World → Prop} {w : World} (h : G152 v0 K w) : pCall P 152 [v0] K w := pCall_of mixed Tryz.func152 hb152 (tr152 v0 K) h
/-- slices.Clone[[]almshouse/api.Done,almshouse/api.Done] -/
@[irreducible] def G153 (v0 : Value) (R : Value → World → Prop) : World → Prop :=
 pVal (binV P .eql 74 v0 (.slice none 0 0)) fun v4 =>
 pIf v4
 (R (.slice none 0 0))
 (pRow P 74 0 [] fun v5 =>
 pRoom P (Builtin.append_ #[74, 74] 74 #[v5, v0]) fun v7 =>
 R v7)
theorem tr153 (v0 : Value) (R : Value → World → Prop) : trF P ag [] [] Tryz.f153 [v0] R = G153 v0 R := by kernel_rfl
theorem hb153 : hasBody P 153 = true := by kernel_rfl
theorem c153 {v0 : Value} {K : Value → World → Prop} {w : World} (h : G153 v0 K w) : pCall P 153 [v0] K w := pCall_of mixed Tryz.func153 hb153 (tr153 v0 K) h
/-- (*almshouse/buffer.Buffer).at -/
@[irreducible] def G156 (v0 v1 : Value) (R : Value → World → Prop) : World → Prop :=
 pDraw fun S1 =>
 pNil v0 fun v7 =>
 pVal (fieldV P 218 v7 1) fun v8 =>
 pHld P S1 3 v8 fun v9 =>
 pVal (binV P .add 3 v9 v1) fun v11 =>
 pVal (binV P .rem 3 v11 (.int .i64 4)) fun v12 =>
 pNil v0 fun v13 =>
 pVal (fieldV P 218 v13 0) fun v14 =>
 pVal (indexV P 216 v14 v12) fun v15 =>
 R v15
theorem tr156 (v0 v1 : Value) (R : Value → World → Prop) : trF P ag [] [] Tryz.f156 [v0, v1] R = G156 v0 v1 R := by kernel_rfl
theorem hb156 : hasBody P 156 = true := by kernel_rfl
theorem c156 {v0 v1 : Value} {K : Value → World → Prop} {w : World} (h : G156 v0 v1 K w) : pCall P 156 [v0, v1] K w := pCall_of mixed Tryz.func156 hb156 (tr156 v0 v1 K) h
/-- (*almshouse/nand.Nand).Read -/
@[irreducible] def G157 (v0 v1 v2 : Value) (R : Value → World → Prop) : World → Prop :=
 pCall P 89 [v0, v1] fun v13 =>
 pVal (binV P .eql 58 v0 (.pointer none)) fun v16 =>
 pIf v16
 (R (.tuple #[(.slice none 0 0), (.string { data := #[] }), (.int .i64 1)]))
 (pJoin1 (fun J5 =>
 pVal (binV P .eql 128 v13 (.pointer none)) fun v19 =>
 pGuard v19 false
 (pVal (binV P .lss 3 v2 (.int .i64 0)) fun v22 =>
 pGuard v22 false
 (pNil v13 fun v27 =>
 pVal (fieldV P 132 v27 0) fun v28 =>
 pLd P 130 v28 fun v29 =>
 pVal (lenBV P #[130] [v29]) fun v30 =>
 pVal (binV P .geq 3 v2 v30) fun v31 =>
 J5 v31)
 (J5 (.bool true)))
 (J5 (.bool true)))
 (fun v17 =>
 pIf v17
 (R (.tuple #[(.slice none 0 0), (.string { data := #[] }), (.int .i64 5)]))
 (pNil v0 fun v35 =>
 pVal (fieldV P 127 v35 1) fun v36 =>
 pLd P 93 v36 fun v37 =>
 pCall P 99 [v37] fun v38 =>
 pIf v38
 (R (.tuple #[(.slice none 0 0), (.string { data := #[] }), (.int .i64 12)]))
 (pNil v13 fun v40 =>
 pVal (fieldV P 132 v40 0) fun v41 =>
 pLd P 130 v41 fun v42 =>
 pVal (indexV P 130 v42 v2) fun v44 =>
 pLd P 260 v44 fun v45 =>
 pAlloc P 260 fun v10 =>
 pSt P 260 v10 v45 <|
 pVal (fieldV P 260 v10 0) fun v46 =>
 pLd P 234 v46 fun v47 =>
 pVal (binV P .eql 234 v47 (.int .i64 1)) fun v49 =>
 pIf v49
 (pDraw fun S11 =>
 pVal (fieldV P 260 v10 1) fun v50 =>
 pHld P S11 227 v50 fun v51 =>
 pVal (fieldV P 260 v10 2) fun v53 =>
 pHld P S11 9 v53 fun v54 =>
 pCall P 186 [v51] fun v52 =>
 pKeep true S11 <|
 R (.tuple #[v52, v54, (.int .i64 0)]))
 (pVal (binV P .eql 234 v47 (.int .i64 2)) fun v56 =>
 pIf v56
 (R (.tuple #[(.slice none 0 0), (.string { data := #[] }), (.int .i64 11)]))
 (R (.tuple #[(.slice none 0 0), (.string { data := #[] }), (.int .i64 6)])))))))
theorem tr157 (v0 v1 v2 : Value) (R : Value → World → Prop) : trF P ag [(5, [17])] [] Tryz.f157 [v0, v1, v2] R = G157 v0 v1 v2 R := by kernel_rfl
theorem hb157 : hasBody P 157 = true := by kernel_rfl
theorem c157 {v0 v1 v2 : Value} {K : Value → World → Prop} {w : World} (h : G157 v0 v1 v2 K w) : pCall P 157 [v0, v1, v2] K w := pCall_of mixed Tryz.func157 hb157 (tr157 v0 v1 v2 K) h
/-- almshouse/tag.Parse -/
@[irreducible] def G158 (v0 : Value) (R : Value → World → Prop) : World → Prop :=
 pAlloc P 182 fun v2 =>
 pCall P 187 [v0, (.int .i64 84)] fun v10 =>
 pVal (extractV v10 0) fun v11 =>
 pVal (extractV v10 1) fun v12 =>
 pVal (binV P .neq 35 v12 (.int .i64 0)) fun v14 =>
 pIf v14
 (pVal (buildV P 182 []) fun v15 =>
 pSt P 182 v2 v15 <|
 pRes P 182 v2 fun r2 =>
 R (.tuple #[r2, v12]))
 (pCall P 188 [v11] fun v18 =>
 pAlloc P 182 fun v7 =>
 pCall P 189 [v18, (.int .i64 1)] fun v20 =>
 pCall P 189 [v18, (.int .i64 4)] fun v22 =>
 pVal (fieldV P 182 v7 0) fun v23 =>
 pSt P 3 v23 v20 <|
 pVal (fieldV P 182 v7 1) fun v24 =>
 pSt P 3 v24 v22 <|
 pCall P 189 [v18, (.int .i64 1)] fun v26 =>
 pCall P 189 [v18, (.int .i64 4)] fun v28 =>
 pVal (fieldV P 182 v7 2) fun v29 =>
 pSt P 3 v29 v26 <|
 pVal (fieldV P 182 v7 3) fun v30 =>
 pSt P 3 v30 v28 <|
 pCall P 189 [v18, (.int .i64 1)] fun v32 =>
 pCall P 190 [v18] fun v34 =>
 pVal (fieldV P 182 v7 4) fun v35 =>
 pSt P 3 v35 v32 <|
 pVal (fieldV P 182 v7 5) fun v36 =>
 pSt P 4 v36 v34 <|
 pJoin1 (fun J10 =>
 pCall P 191 [v18] fun v38 =>
 pVal (binV P .neq 35 v38 (.int .i64 0)) fun v39 =>
 pGuard v39 false
 (pLd P 182 v7 fun v41 =>
 pCall P 192 [v41] fun v42 =>
 pVal (unV .not v42) fun v43 =>
 J10 v43)
 (J10 (.bool true)))
 (fun v44 =>
 pIf v44
 (pVal (buildV P 182 []) fun v45 =>
 pSt P 182 v2 v45 <|
 pRes P 182 v2 fun r2 =>
 R (.tuple #[r2, (.int .i64 2)]))
 (pLd P 182 v7 fun v46 =>
 pSt P 182 v2 v46 <|
 pRes P 182 v2 fun r2 =>
 R (.tuple #[r2, (.int .i64 0)]))))
theorem tr158 (v0 : Value) (R : Value → World → Prop) : trF P ag [(10, [44])] [] Tryz.f158 [v0] R = G158 v0 R := by kernel_rfl
theorem hb158 : hasBody P 158 = true := by kernel_rfl
theorem c158 {v0 : Value} {K : Value → World → Prop} {w : World} (h : G158 v0 K w) : pCall P 158 [v0] K w := pCall_of mixed Tryz.func158 hb158 (tr158 v0 K) h
/-- almshouse/ledger.Owner -/
@[irreducible] def G159 (v0 v1 : Value) (R : Value → World → Prop) : World → Prop :=
 pNew 56 v0 fun v2 =>
 pNew 3 v1 fun v3 =>
 pVal (fieldV P 56 v2 2) fun v5 =>
 pRun P (Instr.sliceAt 54 v5 none none none) fun v6 =>
 pCall P 193 [v6, (.func (.func 194) #[] #[v3])] fun v8 =>
 R v8
theorem tr159 (v0 v1 : Value) (R : Value → World → Prop) : trF P ag [] [] Tryz.f159 [v0, v1] R = G159 v0 v1 R := by kernel_rfl
theorem hb159 : hasBody P 159 = true := by kernel_rfl
theorem c159 {v0 v1 : Value} {K : Value → World → Prop} {w : World} (h : G159 v0 v1 K w) : pCall P 159 [v0, v1] K w := pCall_of mixed Tryz.func159 hb159 (tr159 v0 v1 K) h
/-- (*almshouse/nand.Nand).spend -/
@[irreducible] def G160 (v0 v1 v2 : Value) (R : Value → World → Prop) : World → Prop :=
 pNil v0 fun v8 =>
 pVal (fieldV P 127 v8 1) fun v9 =>
 pLd P 93 v9 fun v10 =>
 pCall P 195 [v10] fun v11 =>
 pVal (binV P .eql 35 v11 (.int .i64 12)) fun v13 =>
 pIf v13
 (R (.int .i64 12))
 (pVal (binV P .eql 35 v11 (.int .i64 11)) fun v15 =>
 pIf v15
 (pCallV P v2 [] fun _ =>
 R (.int .i64 12))
 (pNil v0 fun v19 =>
 pVal (fieldV P 127 v19 2) fun v20 =>
 pLd P 90 v20 fun v21 =>
 pCall P 196 [v21, v1] fun v23 =>
 pIf v23
 (pCallV P v2 [] fun _ =>
 R (.int .i64 10))
 (R (.int .i64 0))))
theorem tr160 (v0 v1 v2 : Value) (R : Value → World → Prop) : trF P ag [] [] Tryz.f160 [v0, v1, v2] R = G160 v0 v1 v2 R := by kernel_rfl
theorem hb160 : hasBody P 160 = true := by kernel_rfl
theorem c160 {v0 v1 v2 : Value} {K : Value → World → Prop} {w : World} (h : G160 v0 v1 v2 K w) : pCall P 160 [v0, v1, v2] K w := pCall_of mixed Tryz.func160 hb160 (tr160 v0 v1 v2 K) h
/-- (*almshouse/nand.Nand).Erase$1 -/
@[irreducible] def G161 (v0 : Value) (R : Value → World → Prop) : World → Prop :=
 pLd P 128 v0 fun v1 =>
 pCall P 162 [v1, (.int .i64 2)] fun _ =>
 R (.tuple #[])
theorem tr161 (v0 : Value) (R : Value → World → Prop) : trF P ag [] [] Tryz.f161 [v0] R = G161 v0 R := by kernel_rfl
theorem hb161 : hasBody P 161 = true := by kernel_rfl
theorem c161 {v0 : Value} {K : Value → World → Prop} {w : World} (h : G161 v0 K w) : pCall P 161 [v0] K w := pCall_of mixed Tryz.func161 hb161 (tr161 v0 K) h
/-- (*almshouse/nand.block).all -/
@[irreducible] def G162 (v0 v1 : Value) (R : Value → World → Prop) : World → Prop :=
 pNil v0 fun v6 =>
 pVal (fieldV P 132 v6 0) fun v7 =>
 pLd P 130 v7 fun v8 =>
 pVal (lenBV P #[130] [v8]) fun v9 =>
 pLoop1 (fun ag1 v10 =>
 pVal (binV P .lss 3 v10 v9) fun v11 =>
 pIf v11
 (pNil v0 fun v14 =>
 pVal (fieldV P 132 v14 0) fun v15 =>
 pLd P 130 v15 fun v16 =>
 pVal (buildV P 260 [(0, v1)]) fun v19 =>
 pVal (indexV P 130 v16 v10) fun v20 =>
 pSt P 260 v20 v19 <|
 pVal (binV P .add 3 v10 (.int .i64 1)) fun v21 =>
 ag1 v21)
 (pNil v0 fun v23 =>
 pVal (fieldV P 132 v23 1) fun v24 =>
 pSt P 3 v24 (.int .i64 0) <|
 pVal (binV P .neq 234 v1 (.int .i64 0)) fun v26 =>
 pIf v26
 (pNil v0 fun v29 =>
 pVal (fieldV P 132 v29 0) fun v30 =>
 pLd P 130 v30 fun v31 =>
 pVal (lenBV P #[130] [v31]) fun v32 =>
 pNil v0 fun v33 =>
 pVal (fieldV P 132 v33 1) fun v34 =>
 pSt P 3 v34 v32 <|
 R (.tuple #[]))
 (R (.tuple #[])))) (.int .i64 0)
theorem tr162 (v0 v1 : Value) (R : Value → World → Prop) : trF P ag [] [(132, [10])] Tryz.f162 [v0, v1] R = G162 v0 v1 R := by kernel_rfl
theorem hb162 : hasBody P 162 = true := by kernel_rfl
theorem c162 {v0 v1 : Value} {K : Value → World → Prop} {w : World} (h : G162 v0 v1 K w) : pCall P 162 [v0, v1] K w := pCall_of mixed Tryz.func162 hb162 (tr162 v0 v1 K) h
/-- almshouse/snap.Bytes -/
@[irreducible] def G163 (v0 v1 v2 : Value) (R : Value → World → Prop) : World → Prop :=
 pNew 56 v0 fun v3 =>
 pLd P 56 v3 fun v12 =>
 pCall P 197 [v12, v1, v2] fun v15 =>
 pVal (binV P .neq 35 v15 (.int .i64 0)) fun v17 =>
 pIf v17
 (R (.tuple #[(.slice none 0 0), v15]))
 (pDraw fun S4 =>
 pVal (fieldV P 56 v3 0) fun v19 =>
 pHld P S4 3 v19 fun v20 =>
 pVal (fieldV P 56 v3 1) fun v22 =>
 pHld P S4 3 v22 fun v23 =>
 pCall P 198 [(.slice none 0 0), v20, (.int .i64 4)] fun v21 =>
 pKeep true S4 <|
 pCall P 198 [v21, v23, (.int .i64 4)] fun v24 =>
 pKeep true S4 <|
 pVal (fieldV P 56 v3 2) fun v25 =>
 pLd P 54 v25 fun v26 =>
 pLoop2 (fun ag6 v9 v27 =>
 pVal (binV P .lss 3 v27 (.int .i64 4)) fun v28 =>
 pIf v28
 (pRun P (Instr.index 54 v26 v27) fun v29 =>
 pAlloc P 53 fun v11 =>
 pSt P 53 v11 v29 <|
 pLd P 53 v11 fun v31 =>
 pCall P 199 [v9, v31] fun v32 =>
 pVal (binV P .add 3 v27 (.int .i64 1)) fun v33 =>
 ag6 v32 v33)
 (pCall P 200 [(.int .i64 76), v9] fun v35 =>
 pVal (extractV v35 0) fun v36 =>
 pVal (extractV v35 1) fun v37 =>
 R (.tuple #[v36, v37]))) v24 (.int .i64 0))
theorem tr163 (v0 v1 v2 : Value) (R : Value → World → Prop) : trF P ag [] [(777, [9, 27])] Tryz.f163 [v0, v1, v2] R = G163 v0 v1 v2 R := by kernel_rfl
theorem hb163 : hasBody P 163 = true := by kernel_rfl
theorem c163 {v0 v1 v2 : Value} {K : Value → World → Prop} {w : World} (h : G163 v0 v1 v2 K w) : pCall P 163 [v0, v1, v2] K w := pCall_of mixed Tryz.func163 hb163 (tr163 v0 v1 v2 K) h
/-- almshouse/adlog.place -/
@[irreducible] def G164 (v0 v1 : Value) (R : Value → World → Prop) : World → Prop :=
 pCall P 173 [v0, v1] fun v12 =>
 pCall P 129 [v0] fun v15 =>
 pVal (fieldOfV P 23 v15 3) fun v16 =>
 pVal (binV P .lss 3 v12 v16) fun v17 =>
 pIf v17
 (R (.tuple #[v1, v12, (.int .i64 0)]))
 (pVal (binV P .sub 3 (.int .i64 1) v1) fun v21 =>
 pCall P 36 [v0, v21] fun v24 =>
 pVal (unV .not v24) fun v25 =>
 pIf v25
 (pCall P 130 [v0, (.int .i64 4), v21] fun v28 =>
 pVal (binV P .neq 35 v28 (.int .i64 0)) fun v30 =>
 pIf v30
 (R (.tuple #[(.int .i64 0), (.int .i64 0), v28]))
 (R (.tuple #[v21, (.int .i64 0), (.int .i64 0)])))
 (R (.tuple #[v21, (.int .i64 0), (.int .i64 0)])))
theorem tr164 (v0 v1 : Value) (R : Value → World → Prop) : trF P ag [] [] Tryz.f164 [v0, v1] R = G164 v0 v1 R := by kernel_rfl
theorem hb164 : hasBody P 164 = true := by kernel_rfl
theorem c164 {v0 v1 : Value} {K : Value → World → Prop} {w : World} (h : G164 v0 v1 K w) : pCall P 164 [v0, v1] K w := pCall_of mixed Tryz.func164 hb164 (tr164 v0 v1 K) h
/-- (*almshouse/nand.Nand).Program -/
@[irreducible] def G165 (v0 v1 v2 v3 v4 v5 : Value) (R : Value → World → Prop) : World → Prop :=
 pNew 3 v3 fun v9 =>
 pCall P 89 [v0, v2] fun v17 =>
 pAlloc P 128 fun v13 =>
 pSt P 128 v13 v17 <|
 pVal (binV P .eql 58 v0 (.pointer none)) fun v20 =>
 pIf v20
 (R (.int .i64 1))
 (pJoin1 (fun J5 =>
 pDraw fun S4 =>
 pHld P S4 128 v13 fun v22 =>
 pVal (binV P .eql 128 v22 (.pointer none)) fun v23 =>
 pGuard v23 false
 (pHld P S4 3 v9 fun v25 =>
 pVal (binV P .lss 3 v25 (.int .i64 0)) fun v26 =>
 pGuard v26 false
 (pHld P S4 3 v9 fun v29 =>
 pHld P S4 128 v13 fun v30 =>
 pNil v30 fun v31 =>
 pVal (fieldV P 132 v31 0) fun v32 =>
 pHld P S4 130 v32 fun v33 =>
 pVal (lenBV P #[130] [v33]) fun v34 =>
 pVal (binV P .geq 3 v29 v34) fun v35 =>
 J5 v35)
 (J5 (.bool true)))
 (J5 (.bool true)))
 (fun v21 =>
 pIf v21
 (R (.int .i64 5))
 (pJoin1 (fun J7 =>
 pVal (lenBV P #[227] [v4]) fun v39 =>
 pVal (binV P .gtr 3 v39 (.int .i64 32)) fun v40 =>
 pGuard v40 false
 (pVal (lenBV P #[9] [v5]) fun v43 =>
 pVal (binV P .gtr 3 v43 (.int .i64 160)) fun v44 =>
 J7 v44)
 (J7 (.bool true)))
 (fun v37 =>
 pIf v37
 (R (.int .i64 3))
 (pLd P 128 v13 fun v47 =>
 pNil v47 fun v48 =>
 pVal (fieldV P 132 v48 2) fun v49 =>
 pLd P 4 v49 fun v50 =>
 pIf v50
 (R (.int .i64 10))
 (pDraw fun S10 =>
 pHld P S10 3 v9 fun v52 =>
 pHld P S10 128 v13 fun v53 =>
 pNil v53 fun v54 =>
 pVal (fieldV P 132 v54 1) fun v55 =>
 pHld P S10 3 v55 fun v56 =>
 pVal (binV P .neq 3 v52 v56) fun v57 =>
 pIf v57
 (R (.int .i64 9))
 (pCall P 160 [v0, v1, (.func (.func 201) #[] #[v13, v9])] fun v61 =>
 pVal (binV P .eql 35 v61 (.int .i64 0)) fun v63 =>
 pIf v63
 (pDraw fun S14 =>
 pHld P S14 128 v13 fun v64 =>
 pNil v64 fun v65 =>
 pVal (fieldV P 132 v65 0) fun v66 =>
 pHld P S14 130 v66 fun v67 =>
 pHld P S14 3 v9 fun v68 =>
 pCall P 186 [v4] fun v70 =>
 pKeep true S14 <|
 pVal (buildV P 260 [(0, (.int .i64 1)), (1, v70), (2, v5)]) fun v72 =>
 pVal (indexV P 130 v67 v68) fun v73 =>
 pSt P 260 v73 v72 <|
 pLd P 128 v13 fun v74 =>
 pLd P 3 v9 fun v75 =>
 pVal (binV P .add 3 v75 (.int .i64 1)) fun v76 =>
 pNil v74 fun v77 =>
 pVal (fieldV P 132 v77 1) fun v78 =>
 pSt P 3 v78 v76 <|
 R v61)
 (R v61))))))))
theorem tr165 (v0 v1 v2 v3 v4 v5 : Value) (R : Value → World → Prop) : trF P ag [(5, [21]), (7, [37])] [] Tryz.f165 [v0, v1, v2, v3, v4, v5] R = G165 v0 v1 v2 v3 v4 v5 R := by kernel_rfl
theorem hb165 : hasBody P 165 = true := by kernel_rfl
theorem c165 {v0 v1 v2 v3 v4 v5 : Value} {K : Value → World → Prop} {w : World} (h : G165 v0 v1 v2 v3 v4 v5 K w) : pCall P 165 [v0, v1, v2, v3, v4, v5] K w := pCall_of mixed Tryz.func165 hb165 (tr165 v0 v1 v2 v3 v4 v5 K) h
/-- (*almshouse/store.Store).drain -/
@[irreducible] def G166 (v0 : Value) (R : Value → World → Prop) : World → Prop :=
 pNil v0 fun v8 =>
 pVal (fieldV P 174 v8 4) fun v9 =>
 pLd P 172 v9 fun v10 =>
 pCall P 202 [v10] fun v11 =>
 pVal (extractV v11 0) fun v12 =>
 pVal (extractV v11 1) fun v13 =>
 pAlloc P 176 fun v3 =>
 pSt P 176 v3 v12 <|
 pVal (unV .not v13) fun v15 =>
 pIf v15
 (R (.int .i64 0))
 (pLd P 176 v3 fun v17 =>
 pCall P 203 [v0, v17] fun v18 =>
 pVal (binV P .neq 35 v18 (.int .i64 0)) fun v20 =>
 pIf v20
 (R v18)
 (pNil v0 fun v23 =>
 pVal (fieldV P 174 v23 4) fun v24 =>
 pLd P 172 v24 fun v25 =>
 pCall P 204 [v25] fun _ =>
 R (.int .i64 0)))
theorem tr166 (v0 : Value) (R : Value → World → Prop) : trF P ag [] [] Tryz.f166 [v0] R = G166 v0 R := by kernel_rfl
theorem hb166 : hasBody P 166 = true := by kernel_rfl
theorem c166 {v0 : Value} {K : Value → World → Prop} {w : World} (h : G166 v0 K w) : pCall P 166 [v0] K w := pCall_of mixed Tryz.func166 hb166 (tr166 v0 K) h
/-- (*almshouse/store.Store).collect -/
@[irreducible] def G168 (v0 v1 : Value) (R : Value → World → Prop) : World → Prop :=
 pCall P 206 [v0, v1, (.int .i64 0)] fun v8 =>
 pVal (binV P .neq 35 v8 (.int .i64 0)) fun v10 =>
 pIf v10
 (R v8)
 (pCall P 174 [v0, v1] fun v14 =>
 R v14)
theorem tr168 (v0 v1 : Value) (R : Value → World → Prop) : trF P ag [] [] Tryz.f168 [v0, v1] R = G168 v0 v1 R := by kernel_rfl
theorem hb168 : hasBody P 168 = true := by kernel_rfl
theorem c168 {v0 v1 : Value} {K : Value → World → Prop} {w : World} (h : G168 v0 v1 K w) : pCall P 168 [v0, v1] K w := pCall_of mixed Tryz.func168 hb168 (tr168 v0 v1 K) h
/-- (*almshouse/store.Store).change -/
@[irreducible] def G169 (v0 v1 : Value) (R : Value → World → Prop) : World → Prop :=
 pNew 176 v1 fun v3 =>
 pVal (fieldV P 176 v3 0) fun v8 =>
 pLd P 3 v8 fun v9 =>
 pCall P 118 [v0, v9] fun v10 =>
 pVal (binV P .neq 35 v10 (.int .i64 0)) fun v12 =>
 pIf v12
 (R v10)
 (pVal (fieldV P 176 v3 2) fun v15 =>
 pLd P 9 v15 fun v16 =>
 pVal (lenBV P #[9] [v16]) fun v17 =>
 pVal (binV P .gtr 3 v17 (.int .i64 16)) fun v18 =>
 pIf v18
 (R (.int .i64 3))
 (pNil v0 fun v21 =>
 pVal (fieldV P 174 v21 7) fun v22 =>
 pLd P 4 v22 fun v23 =>
 pIf v23
 (R (.int .i64 13))
 (pJoin0 (fun J12 =>
 pNil v0 fun v25 =>
 pVal (fieldV P 174 v25 4) fun v26 =>
 pLd P 172 v26 fun v27 =>
 pCall P 207 [v27] fun v28 =>
 pIf v28
 (pCall P 166 [v0] fun v30 =>
 pVal (binV P .neq 35 v30 (.int .i64 0)) fun v32 =>
 pIf v32
 (R v30)
 (J12))
 (J12))
 (pDraw fun S12 =>
 pNil v0 fun v35 =>
 pVal (fieldV P 174 v35 4) fun v36 =>
 pHld P S12 172 v36 fun v37 =>
 pHld P S12 176 v3 fun v38 =>
 pCall P 208 [v37, v38] fun v39 =>
 R v39))))
theorem tr169 (v0 v1 : Value) (R : Value → World → Prop) : trF P ag [(12, [])] [] Tryz.f169 [v0, v1] R = G169 v0 v1 R := by kernel_rfl
theorem hb169 : hasBody P 169 = true := by kernel_rfl
theorem c169 {v0 v1 : Value} {K : Value → World → Prop} {w : World} (h : G169 v0 v1 K w) : pCall P 169 [v0, v1] K w := pCall_of mixed Tryz.func169 hb169 (tr169 v0 v1 K) h
/-- sync/atomic.b32 -/
@[irreducible] def G171 (v0 : Value) (R : Value → World → Prop) : World → Prop :=
 pIf v0
 (R (.int .u32 1))
 (R (.int .u32 0))
theorem tr171 (v0 : Value) (R : Value → World → Prop) : trF P ag [] [] Tryz.f171 [v0] R = G171 v0 R := by kernel_rfl
theorem hb171 : hasBody P 171 = true := by kernel_rfl
theorem c171 {v0 : Value} {K : Value → World → Prop} {w : World} (h : G171 v0 K w) : pCall P 171 [v0] K w := pCall_of mixed Tryz.func171 hb171 (tr171 v0 K) h
/-- almshouse/snap.Parse -/
@[irreducible] def G172 (v0 v1 v2 : Value) (R : Value → World → Prop) : World → Prop :=
 pAlloc P 56 fun v6 =>
 pCall P 187 [v0, (.int .i64 76)] fun v17 =>
 pVal (extractV v17 0) fun v18 =>
 pVal (extractV v17 1) fun v19 =>
 pVal (binV P .neq 35 v19 (.int .i64 0)) fun v21 =>
 pIf v21
 (pVal (buildV P 56 []) fun v22 =>
 pSt P 56 v6 v22 <|
 pRes P 56 v6 fun r6 =>
 R (.tuple #[r6, v19]))
 (pCall P 188 [v18] fun v25 =>
 pAlloc P 56 fun v11 =>
 pCall P 189 [v25, (.int .i64 4)] fun v27 =>
 pCall P 189 [v25, (.int .i64 4)] fun v29 =>
 pVal (fieldV P 56 v11 0) fun v30 =>
 pSt P 3 v30 v27 <|
 pVal (fieldV P 56 v11 1) fun v31 =>
 pSt P 3 v31 v29 <|
 pLoop1 (fun ag8 v32 =>
 pVal (binV P .lss 3 v32 (.int .i64 4)) fun v33 =>
 pIf v33
 (pCall P 209 [v25] fun v37 =>
 pVal (fieldV P 56 v11 2) fun v38 =>
 pVal (indexV P 54 v38 v32) fun v39 =>
 pSt P 53 v39 v37 <|
 pVal (binV P .add 3 v32 (.int .i64 1)) fun v40 =>
 ag8 v40)
 (pCall P 191 [v25] fun v42 =>
 pVal (binV P .neq 35 v42 (.int .i64 0)) fun v44 =>
 pIf v44
 (pVal (buildV P 56 []) fun v45 =>
 pSt P 56 v6 v45 <|
 pRes P 56 v6 fun r6 =>
 R (.tuple #[r6, v42]))
 (pLd P 56 v11 fun v47 =>
 pCall P 197 [v47, v1, v2] fun v50 =>
 pVal (binV P .neq 35 v50 (.int .i64 0)) fun v52 =>
 pIf v52
 (pVal (buildV P 56 []) fun v53 =>
 pSt P 56 v6 v53 <|
 pRes P 56 v6 fun r6 =>
 R (.tuple #[r6, v50]))
 (pLd P 56 v11 fun v55 =>
 pSt P 56 v6 v55 <|
 pRes P 56 v6 fun r6 =>
 R (.tuple #[r6, (.int .i64 0)]))))) (.int .i64 0))
theorem tr172 (v0 v1 v2 : Value) (R : Value → World → Prop) : trF P ag [] [(1035, [32])] Tryz.f172 [v0, v1, v2] R = G172 v0 v1 v2 R := by kernel_rfl
theorem hb172 : hasBody P 172 = true := by kernel_rfl
theorem c172 {v0 v1 v2 : Value} {K : Value → World → Prop} {w : World} (h : G172 v0 v1 v2 K w) : pCall P 172 [v0, v1, v2] K w := pCall_of mixed Tryz.func172 hb172 (tr172 v0 v1 v2 K) h
/-- (*almshouse/nand.Nand).Next -/
@[irreducible] def G173 (v0 v1 : Value) (R : Value → World → Prop) : World → Prop :=
 pCall P 89 [v0, v1] fun v8 =>
 pVal (binV P .neq 128 v8 (.pointer none)) fun v10 =>
 pIf v10
 (pNil v8 fun v12 =>
 pVal (fieldV P 132 v12 1) fun v13 =>
 pLd P 3 v13 fun v14 =>
 R v14)
 (R (.int .i64 0))
theorem tr173 (v0 v1 : Value) (R : Value → World → Prop) : trF P ag [] [] Tryz.f173 [v0, v1] R = G173 v0 v1 R := by kernel_rfl
theorem hb173 : hasBody P 173 = true := by kernel_rfl
theorem c173 {v0 v1 : Value} {K : Value → World → Prop} {w : World} (h : G173 v0 v1 K w) : pCall P 173 [v0, v1] K w := pCall_of mixed Tryz.func173 hb173 (tr173 v0 v1 K) h
/-- (*almshouse/store.Store).erase -/
@[irreducible] def G174 (v0 v1 : Value) (R : Value → World → Prop) : World → Prop :=
 pDraw fun S1 =>
 pNil v0 fun v7 =>
 pVal (fieldV P 174 v7 0) fun v8 =>
 pHld P S1 58 v8 fun v9 =>
 pNil v0 fun v11 =>
 pVal (fieldV P 174 v11 1) fun v12 =>
 pHld P S1 3 v12 fun v13 =>
 pNil v0 fun v15 =>
 pVal (fieldV P 174 v15 2) fun v16 =>
 pVal (fieldV P 53 v16 4) fun v17 =>
 pHld P S1 24 v17 fun v18 =>
 pVal (indexV P 24 v18 v1) fun v20 =>
 pHld P S1 3 v20 fun v21 =>
 pCall P 130 [v9, v13, v21] fun v22 =>
 pKeep true S1 <|
 pVal (binV P .eql 35 v22 (.int .i64 10)) fun v24 =>
 pIf v24
 (pCall P 210 [v0, v1, (.int .i64 0)] fun v27 =>
 R v27)
 (R v22)
theorem tr174 (v0 v1 : Value) (R : Value → World → Prop) : trF P ag [] [] Tryz.f174 [v0, v1] R = G174 v0 v1 R := by kernel_rfl
theorem hb174 : hasBody P 174 = true := by kernel_rfl
theorem c174 {v0 v1 : Value} {K : Value → World → Prop} {w : World} (h : G174 v0 v1 K w) : pCall P 174 [v0, v1] K w := pCall_of mixed Tryz.func174 hb174 (tr174 v0 v1 K) h
/-- (*almshouse/table.Table).Set -/
@[irreducible] def G175 (v0 v1 v2 v3 : Value) (R : Value → World → Prop) : World → Prop :=
 pJoin0 (fun J5 =>
 pVal (binV P .eql 171 v0 (.pointer none)) fun v12 =>
 pIf v12
 (R (.int .i64 1))
 (pVal (binV P .lss 3 v1 (.int .i64 0)) fun v15 =>
 pGuard v15 false
 (pVal (binV P .geq 3 v1 (.int .i64 64)) fun v18 =>
 pGuard v18 false
 (pCall P 211 [v0, v2, v3] fun v24 =>
 pVal (unV .not v24) fun v25 =>
 pIf v25
 (R (.int .i64 5))
 (J5))
 (pIf (.bool true)
 (R (.int .i64 5))
 (J5)))
 (pIf (.bool true)
 (R (.int .i64 5))
 (J5))))
 (pJoin0 (fun J8 =>
 pNil v0 fun v28 =>
 pVal (fieldV P 226 v28 2) fun v29 =>
 pLd P 224 v29 fun v30 =>
 pVal (indexV P 224 v30 v2) fun v32 =>
 pLd P 24 v32 fun v33 =>
 pVal (indexV P 24 v33 v3) fun v35 =>
 pLd P 3 v35 fun v36 =>
 pVal (binV P .neq 3 v36 (.int .i64 (-1))) fun v38 =>
 pGuard v38 true
 (pVal (binV P .neq 3 v36 v1) fun v42 =>
 pIf v42
 (R (.int .i64 7))
 (J8))
 (pIf (.bool false)
 (R (.int .i64 7))
 (J8)))
 (pCall P 139 [v0, v1] fun _ =>
 pVal (buildV P 222 [(0, v2), (1, v3), (2, (.bool true))]) fun v51 =>
 pNil v0 fun v52 =>
 pVal (fieldV P 226 v52 1) fun v53 =>
 pVal (indexV P 223 v53 v1) fun v54 =>
 pSt P 222 v54 v51 <|
 pNil v0 fun v56 =>
 pVal (fieldV P 226 v56 2) fun v57 =>
 pLd P 224 v57 fun v58 =>
 pVal (indexV P 224 v58 v2) fun v60 =>
 pLd P 24 v60 fun v61 =>
 pVal (indexV P 24 v61 v3) fun v64 =>
 pSt P 3 v64 v1 <|
 pNil v0 fun v66 =>
 pVal (fieldV P 226 v66 3) fun v67 =>
 pLd P 24 v67 fun v68 =>
 pVal (indexV P 24 v68 v2) fun v70 =>
 pLd P 3 v70 fun v71 =>
 pVal (binV P .add 3 v71 (.int .i64 1)) fun v72 =>
 pVal (indexV P 24 v68 v2) fun v73 =>
 pSt P 3 v73 v72 <|
 R (.int .i64 0)))
theorem tr175 (v0 v1 v2 v3 : Value) (R : Value → World → Prop) : trF P ag [(5, []), (8, [])] [] Tryz.f175 [v0, v1, v2, v3] R = G175 v0 v1 v2 v3 R := by kernel_rfl
theorem hb175 : hasBody P 175 = true := by kernel_rfl
theorem c175 {v0 v1 v2 v3 : Value} {K : Value → World → Prop} {w : World} (h : G175 v0 v1 v2 v3 K w) : pCall P 175 [v0, v1, v2, v3] K w := pCall_of mixed Tryz.func175 hb175 (tr175 v0 v1 v2 v3 K) h
/-- (*almshouse/store.Store).next -/
@[irreducible] def G176 (v0 v1 : Value) (R : Value → World → Prop) : World → Prop :=
 pDraw fun S1 =>
 pNil v0 fun v6 =>
 pVal (fieldV P 174 v6 0) fun v7 =>
 pHld P S1 58 v7 fun v8 =>
 pNil v0 fun v10 =>
 pVal (fieldV P 174 v10 2) fun v11 =>
 pVal (fieldV P 53 v11 4) fun v12 =>
 pHld P S1 24 v12 fun v13 =>
 pVal (indexV P 24 v13 v1) fun v15 =>
 pHld P S1 3 v15 fun v16 =>
 pCall P 173 [v8, v16] fun v17 =>
 pKeep true S1 <|
 R v17
theorem tr176 (v0 v1 : Value) (R : Value → World → Prop) : trF P ag [] [] Tryz.f176 [v0, v1] R = G176 v0 v1 R := by kernel_rfl
theorem hb176 : hasBody P 176 = true := by kernel_rfl
theorem c176 {v0 v1 : Value} {K : Value → World → Prop} {w : World} (h : G176 v0 v1 K w) : pCall P 176 [v0, v1] K w := pCall_of mixed Tryz.func176 hb176 (tr176 v0 v1 K) h
/-- (*almshouse/store.Store).pages -/
@[irreducible] def G177 (v0 : Value) (R : Value → World → Prop) : World → Prop :=
 pNil v0 fun v4 =>
 pVal (fieldV P 174 v4 0) fun v5 =>
 pLd P 58 v5 fun v6 =>
 pCall P 129 [v6] fun v7 =>
 pVal (fieldOfV P 23 v7 3) fun v8 =>
 R v8
theorem tr177 (v0 : Value) (R : Value → World → Prop) : trF P ag [] [] Tryz.f177 [v0] R = G177 v0 R := by kernel_rfl
theorem hb177 : hasBody P 177 = true := by kernel_rfl
theorem c177 {v0 : Value} {K : Value → World → Prop} {w : World} (h : G177 v0 K w) : pCall P 177 [v0] K w := pCall_of mixed Tryz.func177 hb177 (tr177 v0 K) h
/-- slices.Contains[[]int,int] -/
@[irreducible] def G180 (v0 v1 : Value) (R : Value → World → Prop) : World → Prop :=
 pCall P 216 [v0, v1] fun v7 =>
 pVal (binV P .geq 3 v7 (.int .i64 0)) fun v8 =>
 R v8
theorem tr180 (v0 v1 : Value) (R : Value → World → Prop) : trF P ag [] [] Tryz.f180 [v0, v1] R = G180 v0 v1 R := by kernel_rfl
theorem hb180 : hasBody P 180 = true := by kernel_rfl
theorem c180 {v0 v1 : Value} {K : Value → World → Prop} {w : World} (h : G180 v0 v1 K w) : pCall P 180 [v0, v1] K w := pCall_of mixed Tryz.func180 hb180 (tr180 v0 v1 K) h
end Go.Al

namespace Go.Al
open Go Go.Proofs
/-- slices.Clone[[]byte,byte] -/
@[irreducible] def G186 (v0 : Value) (R : Value → World → Prop) : World → Prop :=
 pVal (binV P .eql 227 v0 (.slice none 0 0)) fun v4 =>
 pIf v4
 (R (.slice none 0 0))
 (pRow P 227 0 [] fun v5 =>
 pRoom P (Builtin.append_ #[227, 227] 227 #[v5, v0]) fun v7 =>
 R v7)
theorem tr186 (v0 : Value) (R : Value → World → Prop) : trF P ag [] [] Tryz.f186 [v0] R = G186 v0 R := by kernel_rfl
theorem hb186 : hasBody P 186 = true := by kernel_rfl
theorem c186 {v0 : Value} {K : Value → World → Prop} {w : World} (h : G186 v0 K w) : pCall P 186 [v0] K w := pCall_of mixed Tryz.func186 hb186 (tr186 v0 K) h
/-- almshouse/frame.Whole -/
@[irreducible] def G187 (v0 v1 : Value) (R : Value → World → Prop) : World → Prop :=
 pCall P 222 [v0] fun v12 =>
 pVal (extractV v12 0) fun v13 =>
 pVal (extractV v12 1) fun v14 =>
 pVal (extractV v12 2) fun v15 =>
 pVal (extractV v12 3) fun v16 =>
 pVal (binV P .neq 35 v16 (.int .i64 0)) fun v19 =>
 pIf v19
 (R (.tuple #[(.slice none 0 0), v16]))
 (pVal (lenBV P #[227] [v0]) fun v24 =>
 pVal (binV P .neq 3 v15 v24) fun v25 =>
 pGuard v25 false
 (pVal (binV P .neq 3 v13 v1) fun v29 =>
 pIf v29
 (R (.tuple #[(.slice none 0 0), (.int .i64 2)]))
 (R (.tuple #[v14, (.int .i64 0)])))
 (pIf (.bool true)
 (R (.tuple #[(.slice none 0 0), (.int .i64 2)]))
 (R (.tuple #[v14, (.int .i64 0)]))))
theorem tr187 (v0 v1 : Value) (R : Value → World → Prop) : trF P ag [] [] Tryz.f187 [v0, v1] R = G187 v0 v1 R := by kernel_rfl
theorem hb187 : hasBody P 187 = true := by kernel_rfl
theorem c187 {v0 v1 : Value} {K : Value → World → Prop} {w : World} (h : G187 v0 v1 K w) : pCall P 187 [v0, v1] K w := pCall_of mixed Tryz.func187 hb187 (tr187 v0 v1 K) h
/-- almshouse/word.Read -/
@[irreducible] def G188 (v0 : Value) (R : Value → World → Prop) : World → Prop :=
 pCall P 186 [v0] fun v4 =>
 pVal (buildV P 290 [(0, v4)]) fun v5 =>
 pNew 290 v5 fun v6 =>
 R v6
theorem tr188 (v0 : Value) (R : Value → World → Prop) : trF P ag [] [] Tryz.f188 [v0] R = G188 v0 R := by kernel_rfl
theorem hb188 : hasBody P 188 = true := by kernel_rfl
theorem c188 {v0 : Value} {K : Value → World → Prop} {w : World} (h : G188 v0 K w) : pCall P 188 [v0] K w := pCall_of mixed Tryz.func188 hb188 (tr188 v0 K) h
/-- (*almshouse/word.Reader).Number -/
@[irreducible] def G189 (v0 v1 : Value) (R : Value → World → Prop) : World → Prop :=
 pJoin0 (fun J3 =>
 pVal (binV P .eql 263 v0 (.pointer none)) fun v9 =>
 pGuard v9 false
 (pCall P 223 [v1] fun v12 =>
 pVal (unV .not v12) fun v13 =>
 pGuard v13 true
 (pCall P 224 [v0, (.int .i64 1)] fun v16 =>
 pIf v16
 (R (.int .i64 0))
 (J3))
 (pIf (.bool false)
 (R (.int .i64 0))
 (J3)))
 (pIf (.bool true)
 (R (.int .i64 0))
 (J3)))
 (pCall P 225 [v0, v1] fun v21 =>
 pVal (lenBV P #[227] [v21]) fun v22 =>
 pLoop2 (fun ag5 v5 v23 =>
 pVal (binV P .lss 3 v23 v22) fun v24 =>
 pIf v24
 (pVal (indexV P 227 v21 v23) fun v26 =>
 pLd P 5 v26 fun v27 =>
 pVal (convV P 5 3 v27) fun v30 =>
 pVal (binV P .mul 3 (.int .i64 8) v23) fun v32 =>
 pVal (convV P 3 286 v32) fun v33 =>
 pVal (binV P .shl 3 v30 v33) fun v34 =>
 pVal (binV P .or 3 v5 v34) fun v35 =>
 pVal (binV P .add 3 v23 (.int .i64 1)) fun v36 =>
 ag5 v35 v36)
 (R v5)) (.int .i64 0) (.int .i64 0))
theorem tr189 (v0 v1 : Value) (R : Value → World → Prop) : trF P ag [(3, [])] [(648, [5, 23])] Tryz.f189 [v0, v1] R = G189 v0 v1 R := by kernel_rfl
theorem hb189 : hasBody P 189 = true := by kernel_rfl
theorem c189 {v0 v1 : Value} {K : Value → World → Prop} {w : World} (h : G189 v0 v1 K w) : pCall P 189 [v0, v1] K w := pCall_of mixed Tryz.func189 hb189 (tr189 v0 v1 K) h
/-- (*almshouse/word.Reader).Flag -/
@[irreducible] def G190 (v0 : Value) (R : Value → World → Prop) : World → Prop :=
 pCall P 189 [v0, (.int .i64 1)] fun v5 =>
 pVal (binV P .gtr 3 v5 (.int .i64 1)) fun v7 =>
 pIf v7
 (pCall P 224 [v0, (.int .i64 2)] fun _ =>
 pVal (binV P .eql 3 v5 (.int .i64 1)) fun v11 =>
 R v11)
 (pVal (binV P .eql 3 v5 (.int .i64 1)) fun v11 =>
 R v11)
theorem tr190 (v0 : Value) (R : Value → World → Prop) : trF P ag [] [] Tryz.f190 [v0] R = G190 v0 R := by kernel_rfl
theorem hb190 : hasBody P 190 = true := by kernel_rfl
theorem c190 {v0 : Value} {K : Value → World → Prop} {w : World} (h : G190 v0 K w) : pCall P 190 [v0] K w := pCall_of mixed Tryz.func190 hb190 (tr190 v0 K) h
/-- (*almshouse/word.Reader).Done -/
@[irreducible] def G191 (v0 : Value) (R : Value → World → Prop) : World → Prop :=
 pVal (binV P .eql 263 v0 (.pointer none)) fun v4 =>
 pIf v4
 (R (.int .i64 1))
 (pJoin0 (fun J5 =>
 pNil v0 fun v6 =>
 pVal (fieldV P 290 v6 0) fun v7 =>
 pLd P 227 v7 fun v8 =>
 pVal (lenBV P #[227] [v8]) fun v9 =>
 pVal (binV P .gtr 3 v9 (.int .i64 0)) fun v10 =>
 pIf v10
 (pCall P 224 [v0, (.int .i64 2)] fun _ =>
 J5)
 (J5))
 (pNil v0 fun v14 =>
 pVal (fieldV P 290 v14 1) fun v15 =>
 pLd P 35 v15 fun v16 =>
 R v16))
theorem tr191 (v0 : Value) (R : Value → World → Prop) : trF P ag [(5, [])] [] Tryz.f191 [v0] R = G191 v0 R := by kernel_rfl
theorem hb191 : hasBody P 191 = true := by kernel_rfl
theorem c191 {v0 : Value} {K : Value → World → Prop} {w : World} (h : G191 v0 K w) : pCall P 191 [v0] K w := pCall_of mixed Tryz.func191 hb191 (tr191 v0 K) h
/-- almshouse/tag.Right -/
@[irreducible] def G192 (v0 : Value) (R : Value → World → Prop) : World → Prop :=
 pNew 182 v0 fun v1 =>
 pVal (fieldV P 182 v1 0) fun v3 =>
 pLd P 3 v3 fun v4 =>
 pCall P 226 [v4, (.int .i64 3)] fun v5 =>
 pGuard v5 true
 (pVal (fieldV P 182 v1 1) fun v7 =>
 pLd P 3 v7 fun v8 =>
 pCall P 226 [v8, (.int .i64 2147483647)] fun v9 =>
 pGuard v9 true
 (pVal (fieldV P 182 v1 2) fun v12 =>
 pLd P 3 v12 fun v13 =>
 pCall P 226 [v13, (.int .i64 63)] fun v14 =>
 pGuard v14 true
 (pVal (fieldV P 182 v1 3) fun v17 =>
 pLd P 3 v17 fun v18 =>
 pCall P 226 [v18, (.int .i64 2147483647)] fun v19 =>
 pGuard v19 true
 (pVal (fieldV P 182 v1 4) fun v22 =>
 pLd P 3 v22 fun v23 =>
 pVal (binV P .eql 3 v23 (.int .i64 1)) fun v24 =>
 pGuard v24 false
 (pVal (fieldV P 182 v1 4) fun v26 =>
 pLd P 3 v26 fun v27 =>
 pVal (binV P .eql 3 v27 (.int .i64 2)) fun v28 =>
 R v28)
 (R (.bool true)))
 (R (.bool false)))
 (R (.bool false)))
 (R (.bool false)))
 (R (.bool false))
theorem tr192 (v0 : Value) (R : Value → World → Prop) : trF P ag [] [] Tryz.f192 [v0] R = G192 v0 R := by kernel_rfl
theorem hb192 : hasBody P 192 = true := by kernel_rfl
theorem c192 {v0 : Value} {K : Value → World → Prop} {w : World} (h : G192 v0 K w) : pCall P 192 [v0] K w := pCall_of mixed Tryz.func192 hb192 (tr192 v0 K) h
/-- slices.IndexFunc[[]almshouse/api.Tenant,almshouse/api.Tenant] -/
@[irreducible] def G193 (v0 v1 : Value) (R : Value → World → Prop) : World → Prop :=
 pVal (lenBV P #[267] [v0]) fun v7 =>
 pLoop1 (fun ag2 v8 =>
 pVal (binV P .lss 3 v8 v7) fun v9 =>
 pIf v9
 (pVal (indexV P 267 v0 v8) fun v14 =>
 pLd P 53 v14 fun v15 =>
 pCallV P v1 [v15] fun v16 =>
 pIf v16
 (R v8)
 (pVal (binV P .add 3 v8 (.int .i64 1)) fun v18 =>
 ag2 v18))
 (R (.int .i64 (-1)))) (.int .i64 0)
theorem tr193 (v0 v1 : Value) (R : Value → World → Prop) : trF P ag [] [(262, [8])] Tryz.f193 [v0, v1] R = G193 v0 v1 R := by kernel_rfl
theorem hb193 : hasBody P 193 = true := by kernel_rfl
theorem c193 {v0 v1 : Value} {K : Value → World → Prop} {w : World} (h : G193 v0 v1 K w) : pCall P 193 [v0, v1] K w := pCall_of mixed Tryz.func193 hb193 (tr193 v0 v1 K) h
/-- almshouse/ledger.Owner$1 -/
@[irreducible] def G194 (v0 v1 : Value) (R : Value → World → Prop) : World → Prop :=
 pNew 53 v0 fun v2 =>
 pVal (fieldV P 53 v2 4) fun v4 =>
 pLd P 24 v4 fun v5 =>
 pLd P 3 v1 fun v6 =>
 pCall P 180 [v5, v6] fun v7 =>
 R v7
theorem tr194 (v0 v1 : Value) (R : Value → World → Prop) : trF P ag [] [] Tryz.f194 [v0, v1] R = G194 v0 v1 R := by kernel_rfl
theorem hb194 : hasBody P 194 = true := by kernel_rfl
theorem c194 {v0 v1 : Value} {K : Value → World → Prop} {w : World} (h : G194 v0 v1 K w) : pCall P 194 [v0, v1] K w := pCall_of mixed Tryz.func194 hb194 (tr194 v0 v1 K) h
/-- (*almshouse/power.Power).Spend -/
@[irreducible] def G195 (v0 : Value) (R : Value → World → Prop) : World → Prop :=
 pCall P 99 [v0] fun v5 =>
 pIf v5
 (R (.int .i64 12))
 (pNil v0 fun v7 =>
 pVal (fieldV P 162 v7 2) fun v8 =>
 pCall P 227 [v8, (.int .i64 1)] fun _ =>
 pNil v0 fun v11 =>
 pVal (fieldV P 162 v11 0) fun v12 =>
 pCall P 115 [v12] fun v13 =>
 pVal (binV P .eql 2 v13 (.int .i64 0)) fun v16 =>
 pIf v16
 (pNil v0 fun v18 =>
 pVal (fieldV P 162 v18 1) fun v19 =>
 pCall P 147 [v19, (.bool true)] fun _ =>
 R (.int .i64 11))
 (pVal (binV P .gtr 2 v13 (.int .i64 0)) fun v23 =>
 pIf v23
 (pNil v0 fun v25 =>
 pVal (fieldV P 162 v25 0) fun v26 =>
 pVal (binV P .sub 2 v13 (.int .i64 1)) fun v28 =>
 pCall P 109 [v26, v28] fun _ =>
 R (.int .i64 0))
 (R (.int .i64 0))))
theorem tr195 (v0 : Value) (R : Value → World → Prop) : trF P ag [] [] Tryz.f195 [v0] R = G195 v0 R := by kernel_rfl
theorem hb195 : hasBody P 195 = true := by kernel_rfl
theorem c195 {v0 : Value} {K : Value → World → Prop} {w : World} (h : G195 v0 K w) : pCall P 195 [v0] K w := pCall_of mixed Tryz.func195 hb195 (tr195 v0 K) h
/-- (*almshouse/draws.Draws).Next -/
@[irreducible] def G196 (v0 v1 : Value) (R : Value → World → Prop) : World → Prop :=
 pCall P 114 [v0, v1] fun v8 =>
 pJoin0 (fun J4 =>
 pDraw fun S2 =>
 pVal (binV P .eql 168 v8 (.pointer none)) fun v10 =>
 pGuard v10 false
 (pNil v8 fun v13 =>
 pVal (fieldV P 152 v13 0) fun v14 =>
 pHld P S2 24 v14 fun v15 =>
 pNil v8 fun v17 =>
 pVal (fieldV P 152 v17 1) fun v18 =>
 pCall P 227 [v18, (.int .i64 1)] fun v19 =>
 pKeep true S2 <|
 pCall P 180 [v15, v19] fun v20 =>
 pVal (unV .not v20) fun v21 =>
 pIf v21
 (R (.bool false))
 (J4))
 (pIf (.bool true)
 (R (.bool false))
 (J4)))
 (pNil v8 fun v24 =>
 pVal (fieldV P 152 v24 2) fun v25 =>
 pCall P 227 [v25, (.int .i64 1)] fun _ =>
 R (.bool true))
theorem tr196 (v0 v1 : Value) (R : Value → World → Prop) : trF P ag [(4, [])] [] Tryz.f196 [v0, v1] R = G196 v0 v1 R := by kernel_rfl
theorem hb196 : hasBody P 196 = true := by kernel_rfl
theorem c196 {v0 v1 : Value} {K : Value → World → Prop} {w : World} (h : G196 v0 v1 K w) : pCall P 196 [v0, v1] K w := pCall_of mixed Tryz.func196 hb196 (tr196 v0 v1 K) h
/-- almshouse/ledger.Check -/
@[irreducible] def G197 (v0 v1 v2 : Value) (R : Value → World → Prop) : World → Prop :=
 pNew 56 v0 fun v3 =>
 pJoin0 (fun J3 =>
 pVal (fieldV P 56 v3 0) fun v14 =>
 pLd P 3 v14 fun v15 =>
 pCall P 141 [v15, (.int .i64 0), (.int .i64 2147483647)] fun v16 =>
 pVal (unV .not v16) fun v17 =>
 pGuard v17 false
 (pVal (fieldV P 56 v3 1) fun v19 =>
 pLd P 3 v19 fun v20 =>
 pCall P 141 [v20, (.int .i64 0), (.int .i64 2147483647)] fun v21 =>
 pVal (unV .not v21) fun v22 =>
 pIf v22
 (R (.int .i64 2))
 (J3))
 (pIf (.bool true)
 (R (.int .i64 2))
 (J3)))
 (pVal (maxV [v1, (.int .i64 0)]) fun v25 =>
 pRun P (Instr.makeMap 249 none) fun v26 =>
 pRun P (Instr.makeMap 249 none) fun v27 =>
 pVal (fieldV P 56 v3 2) fun v28 =>
 pLd P 54 v28 fun v29 =>
 pLoop1 (fun ag6 v30 =>
 pVal (binV P .lss 3 v30 (.int .i64 4)) fun v31 =>
 pIf v31
 (pRun P (Instr.index 54 v29 v30) fun v32 =>
 pAlloc P 53 fun v10 =>
 pSt P 53 v10 v32 <|
 pJoin0 (fun J9 =>
 pVal (fieldV P 53 v10 0) fun v33 =>
 pLd P 4 v33 fun v34 =>
 pVal (unV .not v34) fun v35 =>
 pGuard v35 true
 (pLd P 53 v10 fun v37 =>
 pCall P 228 [v37] fun v38 =>
 pIf v38
 (pVal (binV P .add 3 v30 (.int .i64 1)) fun v100 =>
 ag6 v100)
 (J9))
 (pIf (.bool false)
 (pVal (binV P .add 3 v30 (.int .i64 1)) fun v100 =>
 ag6 v100)
 (J9)))
 (pVal (fieldV P 53 v10 2) fun v40 =>
 pLd P 3 v40 fun v41 =>
 pVal (fieldV P 53 v10 3) fun v42 =>
 pLd P 3 v42 fun v43 =>
 pCall P 65 [v41, v43, v2] fun v45 =>
 pJoin0 (fun J12 =>
 pVal (fieldV P 53 v10 0) fun v46 =>
 pLd P 4 v46 fun v47 =>
 pVal (unV .not v47) fun v48 =>
 pGuard v48 false
 (pVal (fieldV P 53 v10 1) fun v50 =>
 pLd P 3 v50 fun v51 =>
 pVal (fieldV P 56 v3 1) fun v52 =>
 pLd P 3 v52 fun v53 =>
 pCall P 141 [v51, (.int .i64 1), v53] fun v54 =>
 pVal (unV .not v54) fun v55 =>
 pGuard v55 false
 (pVal (fieldV P 53 v10 1) fun v59 =>
 pLd P 3 v59 fun v60 =>
 pRun P (Instr.lookup 249 v27 v60 false) fun v61 =>
 pGuard v61 false
 (pVal (binV P .eql 3 v45 (.int .i64 0)) fun v65 =>
 pGuard v65 false
 (pVal (fieldV P 53 v10 4) fun v68 =>
 pLd P 24 v68 fun v69 =>
 pVal (lenBV P #[24] [v69]) fun v70 =>
 pVal (binV P .sub 3 v25 (.int .i64 2)) fun v73 =>
 pCall P 141 [v70, v45, v73] fun v74 =>
 pVal (unV .not v74) fun v75 =>
 pIf v75
 (R (.int .i64 2))
 (J12))
 (pIf (.bool true)
 (R (.int .i64 2))
 (J12)))
 (pIf (.bool true)
 (R (.int .i64 2))
 (J12)))
 (pIf (.bool true)
 (R (.int .i64 2))
 (J12)))
 (pIf (.bool true)
 (R (.int .i64 2))
 (J12)))
 (pVal (fieldV P 53 v10 1) fun v78 =>
 pLd P 3 v78 fun v79 =>
 pDo P (Instr.mapUpdate 249 v27 v79 (.bool true)) <|
 pVal (fieldV P 53 v10 4) fun v80 =>
 pLd P 24 v80 fun v81 =>
 pVal (lenBV P #[24] [v81]) fun v82 =>
 pLoop1 (fun ag14 v83 =>
 pVal (binV P .lss 3 v83 v82) fun v84 =>
 pIf v84
 (pVal (indexV P 24 v81 v83) fun v85 =>
 pLd P 3 v85 fun v86 =>
 pVal (binV P .sub 3 v25 (.int .i64 1)) fun v89 =>
 pCall P 141 [v86, (.int .i64 2), v89] fun v90 =>
 pVal (unV .not v90) fun v91 =>
 pGuard v91 false
 (pRun P (Instr.lookup 249 v26 v86 false) fun v95 =>
 pIf v95
 (R (.int .i64 2))
 (pDo P (Instr.mapUpdate 249 v26 v86 (.bool true)) <|
 pVal (binV P .add 3 v83 (.int .i64 1)) fun v99 =>
 ag14 v99))
 (pIf (.bool true)
 (R (.int .i64 2))
 (pDo P (Instr.mapUpdate 249 v26 v86 (.bool true)) <|
 pVal (binV P .add 3 v83 (.int .i64 1)) fun v99 =>
 ag14 v99)))
 (pVal (binV P .add 3 v30 (.int .i64 1)) fun v100 =>
 ag6 v100)) (.int .i64 0))))
 (R (.int .i64 0))) (.int .i64 0))
theorem tr197 (v0 v1 v2 : Value) (R : Value → World → Prop) : trF P ag [(3, []), (9, []), (12, [])] [(788, [30]), (1811, [83])] Tryz.f197 [v0, v1, v2] R = G197 v0 v1 v2 R := by kernel_rfl
theorem hb197 : hasBody P 197 = true := by kernel_rfl
theorem c197 {v0 v1 v2 : Value} {K : Value → World → Prop} {w : World} (h : G197 v0 v1 v2 K w) : pCall P 197 [v0, v1, v2] K w := pCall_of mixed Tryz.func197 hb197 (tr197 v0 v1 v2 K) h
/-- almshouse/word.Put -/
@[irreducible] def G198 (v0 v1 v2 : Value) (R : Value → World → Prop) : World → Prop :=
 pCall P 186 [v0] fun v9 =>
 pCall P 229 [v9] fun v10 =>
 pCall P 230 [v1, v2] fun v13 =>
 pVal (unV .not v13) fun v14 =>
 pIf v14
 (R v10)
 (pLoop3 (fun ag5 v1_1 v7 v17 =>
 pVal (binV P .lss 3 v17 v2) fun v18 =>
 pIf v18
 (pVal (convV P 3 5 v1_1) fun v21 =>
 pRow P 227 1 [(0, v21)] fun v22 =>
 pRoom P (Builtin.append_ #[227, 227] 227 #[v7, v22]) fun v23 =>
 pVal (binV P .shr 3 v1_1 (.int .u64 8)) fun v25 =>
 pVal (binV P .add 3 v17 (.int .i64 1)) fun v26 =>
 ag5 v25 v23 v26)
 (R v7)) v1 v10 (.int .i64 0))
theorem tr198 (v0 v1 v2 : Value) (R : Value → World → Prop) : trF P ag [] [(648, [1, 7, 17])] Tryz.f198 [v0, v1, v2] R = G198 v0 v1 v2 R := by kernel_rfl
theorem hb198 : hasBody P 198 = true := by kernel_rfl
theorem c198 {v0 v1 v2 : Value} {K : Value → World → Prop} {w : World} (h : G198 v0 v1 v2 K w) : pCall P 198 [v0, v1, v2] K w := pCall_of mixed Tryz.func198 hb198 (tr198 v0 v1 v2 K) h
/-- almshouse/snap.tenant -/
@[irreducible] def G199 (v0 v1 : Value) (R : Value → World → Prop) : World → Prop :=
 pNew 53 v1 fun v3 =>
 pVal (fieldV P 53 v3 0) fun v7 =>
 pLd P 4 v7 fun v8 =>
 pVal (unV .not v8) fun v9 =>
 pIf v9
 (pCall P 198 [v0, (.int .i64 0), (.int .i64 1)] fun v11 =>
 R v11)
 (pDraw fun S3 =>
 pVal (fieldV P 53 v3 1) fun v14 =>
 pHld P S3 3 v14 fun v15 =>
 pCall P 198 [v0, (.int .i64 1), (.int .i64 1)] fun v13 =>
 pKeep true S3 <|
 pCall P 198 [v13, v15, (.int .i64 4)] fun v16 =>
 pVal (fieldV P 53 v3 2) fun v17 =>
 pLd P 3 v17 fun v18 =>
 pVal (fieldV P 53 v3 3) fun v19 =>
 pLd P 3 v19 fun v20 =>
 pVal (fieldV P 53 v3 4) fun v21 =>
 pLd P 24 v21 fun v22 =>
 pVal (lenBV P #[24] [v22]) fun v23 =>
 pRow P 24 3 [(0, v18), (1, v20), (2, v23)] fun v24 =>
 pVal (fieldV P 53 v3 4) fun v25 =>
 pLd P 24 v25 fun v26 =>
 pRoom P (Builtin.append_ #[24, 24] 24 #[v24, v26]) fun v27 =>
 pVal (lenBV P #[24] [v27]) fun v28 =>
 pLoop2 (fun ag5 v0_1 v29 =>
 pVal (binV P .lss 3 v29 v28) fun v30 =>
 pIf v30
 (pVal (indexV P 24 v27 v29) fun v31 =>
 pLd P 3 v31 fun v32 =>
 pCall P 198 [v0_1, v32, (.int .i64 1)] fun v35 =>
 pVal (binV P .add 3 v29 (.int .i64 1)) fun v36 =>
 ag5 v35 v36)
 (R v0_1)) v16 (.int .i64 0))
theorem tr199 (v0 v1 : Value) (R : Value → World → Prop) : trF P ag [] [(648, [0, 29])] Tryz.f199 [v0, v1] R = G199 v0 v1 R := by kernel_rfl
theorem hb199 : hasBody P 199 = true := by kernel_rfl
theorem c199 {v0 v1 : Value} {K : Value → World → Prop} {w : World} (h : G199 v0 v1 K w) : pCall P 199 [v0, v1] K w := pCall_of mixed Tryz.func199 hb199 (tr199 v0 v1 K) h
/-- almshouse/frame.Make -/
@[irreducible] def G200 (v0 v1 : Value) (R : Value → World → Prop) : World → Prop :=
 pCall P 230 [v0, (.int .i64 1)] fun v9 =>
 pVal (unV .not v9) fun v10 =>
 pIf v10
 (R (.tuple #[(.slice none 0 0), (.int .i64 1)]))
 (pVal (lenBV P #[227] [v1]) fun v13 =>
 pVal (binV P .gtr 3 v13 (.int .i64 65535)) fun v14 =>
 pIf v14
 (R (.tuple #[(.slice none 0 0), (.int .i64 3)]))
 (pCall P 198 [(.slice none 0 0), v0, (.int .i64 1)] fun v16 =>
 pVal (lenBV P #[227] [v1]) fun v18 =>
 pCall P 198 [v16, v18, (.int .i64 2)] fun v19 =>
 pRoom P (Builtin.append_ #[227, 227] 227 #[v19, v1]) fun v21 =>
 pCall P 231 [v21] fun v24 =>
 pVal (convV P 158 3 v24) fun v25 =>
 pCall P 198 [v21, v25, (.int .i64 4)] fun v26 =>
 R (.tuple #[v26, (.int .i64 0)])))
theorem tr200 (v0 v1 : Value) (R : Value → World → Prop) : trF P ag [] [] Tryz.f200 [v0, v1] R = G200 v0 v1 R := by kernel_rfl
theorem hb200 : hasBody P 200 = true := by kernel_rfl
theorem c200 {v0 v1 : Value} {K : Value → World → Prop} {w : World} (h : G200 v0 v1 K w) : pCall P 200 [v0, v1] K w := pCall_of mixed Tryz.func200 hb200 (tr200 v0 v1 K) h
/-- (*almshouse/nand.Nand).Program$1 -/
@[irreducible] def G201 (v0 v1 : Value) (R : Value → World → Prop) : World → Prop :=
 pDraw fun S0 =>
 pHld P S0 128 v0 fun v2 =>
 pNil v2 fun v3 =>
 pVal (fieldV P 132 v3 0) fun v4 =>
 pHld P S0 130 v4 fun v5 =>
 pHld P S0 3 v1 fun v6 =>
 pVal (indexV P 130 v5 v6) fun v7 =>
 pVal (fieldV P 260 v7 0) fun v8 =>
 pSt P 234 v8 (.int .i64 2) <|
 pLd P 128 v0 fun v9 =>
 pLd P 3 v1 fun v10 =>
 pVal (binV P .add 3 v10 (.int .i64 1)) fun v11 =>
 pNil v9 fun v12 =>
 pVal (fieldV P 132 v12 1) fun v13 =>
 pSt P 3 v13 v11 <|
 R (.tuple #[])
theorem tr201 (v0 v1 : Value) (R : Value → World → Prop) : trF P ag [] [] Tryz.f201 [v0, v1] R = G201 v0 v1 R := by kernel_rfl
theorem hb201 : hasBody P 201 = true := by kernel_rfl
theorem c201 {v0 v1 : Value} {K : Value → World → Prop} {w : World} (h : G201 v0 v1 K w) : pCall P 201 [v0, v1] K w := pCall_of mixed Tryz.func201 hb201 (tr201 v0 v1 K) h
/-- (*almshouse/buffer.Buffer).First -/
@[irreducible] def G202 (v0 : Value) (R : Value → World → Prop) : World → Prop :=
 pAlloc P 176 fun v2 =>
 pCall P 117 [v0] fun v5 =>
 pVal (binV P .eql 3 v5 (.int .i64 0)) fun v6 =>
 pIf v6
 (pVal (buildV P 176 []) fun v7 =>
 pSt P 176 v2 v7 <|
 pRes P 176 v2 fun r2 =>
 R (.tuple #[r2, (.bool false)]))
 (pCall P 156 [v0, (.int .i64 0)] fun v9 =>
 pNil v9 fun v10 =>
 pLd P 176 v10 fun v11 =>
 pSt P 176 v2 v11 <|
 pRes P 176 v2 fun r2 =>
 R (.tuple #[r2, (.bool true)]))
theorem tr202 (v0 : Value) (R : Value → World → Prop) : trF P ag [] [] Tryz.f202 [v0] R = G202 v0 R := by kernel_rfl
theorem hb202 : hasBody P 202 = true := by kernel_rfl
theorem c202 {v0 : Value} {K : Value → World → Prop} {w : World} (h : G202 v0 K w) : pCall P 202 [v0] K w := pCall_of mixed Tryz.func202 hb202 (tr202 v0 K) h
/-- (*almshouse/store.Store).put -/
@[irreducible] def G203 (v0 v1 : Value) (R : Value → World → Prop) : World → Prop :=
 pNew 176 v1 fun v3 =>
 pLoop0 (fun ag1 =>
 pCall P 232 [v0] fun v12 =>
 pVal (binV P .neq 35 v12 (.int .i64 0)) fun v14 =>
 pIf v14
 (R v12)
 (pDraw fun S4 =>
 pNil v0 fun v18 =>
 pVal (fieldV P 174 v18 1) fun v19 =>
 pHld P S4 3 v19 fun v20 =>
 pNil v0 fun v22 =>
 pVal (fieldV P 174 v22 2) fun v23 =>
 pVal (fieldV P 53 v23 1) fun v24 =>
 pHld P S4 3 v24 fun v25 =>
 pVal (fieldV P 176 v3 0) fun v26 =>
 pHld P S4 3 v26 fun v27 =>
 pNil v0 fun v29 =>
 pVal (fieldV P 174 v29 5) fun v30 =>
 pHld P S4 3 v30 fun v31 =>
 pVal (fieldV P 176 v3 1) fun v32 =>
 pHld P S4 3 v32 fun v33 =>
 pVal (buildV P 182 [(0, v20), (1, v25), (2, v27), (3, v31), (4, v33)]) fun v34 =>
 pCall P 233 [v34] fun v35 =>
 pKeep true S4 <|
 pVal (extractV v35 0) fun v36 =>
 pVal (extractV v35 1) fun v37 =>
 pVal (binV P .neq 35 v37 (.int .i64 0)) fun v39 =>
 pIf v39
 (R v37)
 (pNil v0 fun v43 =>
 pVal (fieldV P 174 v43 6) fun v44 =>
 pLd P 3 v44 fun v45 =>
 pCall P 176 [v0, v45] fun v46 =>
 pDraw fun S8 =>
 pNil v0 fun v48 =>
 pVal (fieldV P 174 v48 0) fun v49 =>
 pHld P S8 58 v49 fun v50 =>
 pNil v0 fun v52 =>
 pVal (fieldV P 174 v52 1) fun v53 =>
 pHld P S8 3 v53 fun v54 =>
 pNil v0 fun v56 =>
 pVal (fieldV P 174 v56 2) fun v57 =>
 pVal (fieldV P 53 v57 4) fun v58 =>
 pHld P S8 24 v58 fun v59 =>
 pNil v0 fun v61 =>
 pVal (fieldV P 174 v61 6) fun v62 =>
 pHld P S8 3 v62 fun v63 =>
 pVal (indexV P 24 v59 v63) fun v64 =>
 pHld P S8 3 v64 fun v65 =>
 pVal (fieldV P 176 v3 2) fun v68 =>
 pHld P S8 9 v68 fun v69 =>
 pCall P 165 [v50, v54, v65, v46, v36, v69] fun v70 =>
 pKeep true S8 <|
 pVal (binV P .eql 35 v70 (.int .i64 0)) fun v74 =>
 pIf v74
 (pNil v0 fun v76 =>
 pVal (fieldV P 174 v76 5) fun v77 =>
 pLd P 3 v77 fun v78 =>
 pVal (binV P .add 3 v78 (.int .i64 1)) fun v79 =>
 pNil v0 fun v80 =>
 pVal (fieldV P 174 v80 5) fun v81 =>
 pSt P 3 v81 v79 <|
 pDraw fun S13 =>
 pNil v0 fun v83 =>
 pVal (fieldV P 174 v83 3) fun v84 =>
 pHld P S13 171 v84 fun v85 =>
 pVal (fieldV P 176 v3 0) fun v86 =>
 pHld P S13 3 v86 fun v87 =>
 pNil v0 fun v89 =>
 pVal (fieldV P 174 v89 6) fun v90 =>
 pHld P S13 3 v90 fun v91 =>
 pCall P 175 [v85, v87, v91, v46] fun v93 =>
 R v93)
 (pVal (binV P .eql 35 v70 (.int .i64 10)) fun v95 =>
 pIf v95
 (pCall P 234 [v0] fun v97 =>
 pVal (binV P .neq 35 v97 (.int .i64 0)) fun v99 =>
 pIf v99
 (R v97)
 (ag1))
 (R v70))))) 
theorem tr203 (v0 v1 : Value) (R : Value → World → Prop) : trF P ag [] [(138, [])] Tryz.f203 [v0, v1] R = G203 v0 v1 R := by kernel_rfl
theorem hb203 : hasBody P 203 = true := by kernel_rfl
theorem c203 {v0 v1 : Value} {K : Value → World → Prop} {w : World} (h : G203 v0 v1 K w) : pCall P 203 [v0, v1] K w := pCall_of mixed Tryz.func203 hb203 (tr203 v0 v1 K) h
/-- (*almshouse/buffer.Buffer).Drop -/
@[irreducible] def G204 (v0 : Value) (R : Value → World → Prop) : World → Prop :=
 pCall P 117 [v0] fun v4 =>
 pVal (binV P .eql 3 v4 (.int .i64 0)) fun v5 =>
 pIf v5
 (R (.bool false))
 (pCall P 156 [v0, (.int .i64 0)] fun v7 =>
 pVal (buildV P 176 []) fun v8 =>
 pNil v7 fun v9 =>
 pSt P 176 v9 v8 <|
 pNil v0 fun v12 =>
 pVal (fieldV P 218 v12 1) fun v13 =>
 pLd P 3 v13 fun v14 =>
 pVal (binV P .add 3 v14 (.int .i64 1)) fun v15 =>
 pVal (binV P .rem 3 v15 (.int .i64 4)) fun v16 =>
 pNil v0 fun v17 =>
 pVal (fieldV P 218 v17 1) fun v18 =>
 pSt P 3 v18 v16 <|
 pNil v0 fun v20 =>
 pVal (fieldV P 218 v20 2) fun v21 =>
 pLd P 3 v21 fun v22 =>
 pVal (binV P .sub 3 v22 (.int .i64 1)) fun v23 =>
 pNil v0 fun v24 =>
 pVal (fieldV P 218 v24 2) fun v25 =>
 pSt P 3 v25 v23 <|
 R (.bool true))
theorem tr204 (v0 : Value) (R : Value → World → Prop) : trF P ag [] [] Tryz.f204 [v0] R = G204 v0 R := by kernel_rfl
theorem hb204 : hasBody P 204 = true := by kernel_rfl
theorem c204 {v0 : Value} {K : Value → World → Prop} {w : World} (h : G204 v0 K w) : pCall P 204 [v0] K w := pCall_of mixed Tryz.func204 hb204 (tr204 v0 K) h
/-- (*almshouse/store.Store).move -/
@[irreducible] def G206 (v0 v1 v2 : Value) (R : Value → World → Prop) : World → Prop :=
 pCall P 236 [v0, v1] fun v16 =>
 pLoop0 (fun ag2 =>
 pCall P 59 [v0] fun v18 =>
 pVal (lenBV P #[24] [v18]) fun v20 =>
 pVal (binV P .eql 3 v20 (.int .i64 0)) fun v21 =>
 pIf v21
 (R (.int .i64 8))
 (pVal (indexV P 24 v18 (.int .i64 0)) fun v23 =>
 pLd P 3 v23 fun v24 =>
 pCall P 237 [v0, v1, v24, v16] fun v29 =>
 pVal (binV P .eql 35 v29 (.int .i64 0)) fun v33 =>
 pIf v33
 (pVal (lenBV P #[24] [v16]) fun v35 =>
 pLoop1 (fun ag11 v36 =>
 pVal (binV P .lss 3 v36 v35) fun v37 =>
 pIf v37
 (pVal (indexV P 24 v16 v36) fun v39 =>
 pLd P 3 v39 fun v40 =>
 pDraw fun S13 =>
 pNil v0 fun v42 =>
 pVal (fieldV P 174 v42 3) fun v43 =>
 pHld P S13 171 v43 fun v44 =>
 pNil v0 fun v46 =>
 pVal (fieldV P 174 v46 3) fun v47 =>
 pHld P S13 171 v47 fun v48 =>
 pCall P 238 [v48, v1, v40] fun v51 =>
 pKeep true S13 <|
 pCall P 175 [v44, v51, v24, v36] fun _ =>
 pKeep true S13 <|
 pVal (binV P .add 3 v36 (.int .i64 1)) fun v55 =>
 ag11 v55)
 (pNil v0 fun v58 =>
 pVal (fieldV P 174 v58 6) fun v59 =>
 pSt P 3 v59 v24 <|
 R (.int .i64 0))) (.int .i64 0))
 (pVal (binV P .eql 35 v29 (.int .i64 10)) fun v61 =>
 pIf v61
 (pCall P 210 [v0, v24, v2] fun v65 =>
 pVal (binV P .neq 35 v65 (.int .i64 0)) fun v67 =>
 pIf v67
 (R v65)
 (ag2))
 (R v29)))) 
theorem tr206 (v0 v1 v2 : Value) (R : Value → World → Prop) : trF P ag [] [(264, []), (1422, [36])] Tryz.f206 [v0, v1, v2] R = G206 v0 v1 v2 R := by kernel_rfl
theorem hb206 : hasBody P 206 = true := by kernel_rfl
theorem c206 {v0 v1 v2 : Value} {K : Value → World → Prop} {w : World} (h : G206 v0 v1 v2 K w) : pCall P 206 [v0, v1, v2] K w := pCall_of mixed Tryz.func206 hb206 (tr206 v0 v1 v2 K) h
/-- (*almshouse/buffer.Buffer).Full -/
@[irreducible] def G207 (v0 : Value) (R : Value → World → Prop) : World → Prop :=
 pVal (binV P .eql 172 v0 (.pointer none)) fun v4 =>
 pGuard v4 false
 (pNil v0 fun v7 =>
 pVal (fieldV P 218 v7 2) fun v8 =>
 pLd P 3 v8 fun v9 =>
 pVal (binV P .eql 3 v9 (.int .i64 4)) fun v10 =>
 R v10)
 (R (.bool true))
theorem tr207 (v0 : Value) (R : Value → World → Prop) : trF P ag [] [] Tryz.f207 [v0] R = G207 v0 R := by kernel_rfl
theorem hb207 : hasBody P 207 = true := by kernel_rfl
theorem c207 {v0 : Value} {K : Value → World → Prop} {w : World} (h : G207 v0 K w) : pCall P 207 [v0] K w := pCall_of mixed Tryz.func207 hb207 (tr207 v0 K) h
/-- (*almshouse/buffer.Buffer).Put -/
@[irreducible] def G208 (v0 v1 : Value) (R : Value → World → Prop) : World → Prop :=
 pNew 176 v1 fun v3 =>
 pVal (binV P .eql 172 v0 (.pointer none)) fun v7 =>
 pIf v7
 (R (.int .i64 1))
 (pLd P 176 v3 fun v8 =>
 pCall P 239 [v8] fun v9 =>
 pVal (binV P .neq 35 v9 (.int .i64 0)) fun v11 =>
 pIf v11
 (R v9)
 (pCall P 207 [v0] fun v14 =>
 pIf v14
 (R (.int .i64 8))
 (pDraw fun S8 =>
 pNil v0 fun v17 =>
 pVal (fieldV P 218 v17 2) fun v18 =>
 pHld P S8 3 v18 fun v19 =>
 pHld P S8 176 v3 fun v21 =>
 pCall P 156 [v0, v19] fun v20 =>
 pKeep true S8 <|
 pNil v20 fun v22 =>
 pSt P 176 v22 v21 <|
 pNil v0 fun v24 =>
 pVal (fieldV P 218 v24 2) fun v25 =>
 pLd P 3 v25 fun v26 =>
 pVal (binV P .add 3 v26 (.int .i64 1)) fun v27 =>
 pNil v0 fun v28 =>
 pVal (fieldV P 218 v28 2) fun v29 =>
 pSt P 3 v29 v27 <|
 R (.int .i64 0))))
theorem tr208 (v0 v1 : Value) (R : Value → World → Prop) : trF P ag [] [] Tryz.f208 [v0, v1] R = G208 v0 v1 R := by kernel_rfl
theorem hb208 : hasBody P 208 = true := by kernel_rfl
theorem c208 {v0 v1 : Value} {K : Value → World → Prop} {w : World} (h : G208 v0 v1 K w) : pCall P 208 [v0, v1] K w := pCall_of mixed Tryz.func208 hb208 (tr208 v0 v1 K) h
/-- almshouse/snap.read -/
@[irreducible] def G209 (v0 : Value) (R : Value → World → Prop) : World → Prop :=
 pAlloc P 53 fun v2 =>
 pCall P 190 [v0] fun v4 =>
 pVal (fieldV P 53 v2 0) fun v5 =>
 pSt P 4 v5 v4 <|
 pVal (fieldV P 53 v2 0) fun v6 =>
 pLd P 4 v6 fun v7 =>
 pVal (unV .not v7) fun v8 =>
 pIf v8
 (pLd P 53 v2 fun v9 =>
 pSt P 53 v2 v9 <|
 pRes P 53 v2 fun r2 =>
 R r2)
 (pCall P 189 [v0, (.int .i64 4)] fun v11 =>
 pVal (fieldV P 53 v2 1) fun v12 =>
 pSt P 3 v12 v11 <|
 pCall P 189 [v0, (.int .i64 1)] fun v14 =>
 pCall P 189 [v0, (.int .i64 1)] fun v16 =>
 pVal (fieldV P 53 v2 2) fun v17 =>
 pSt P 3 v17 v14 <|
 pVal (fieldV P 53 v2 3) fun v18 =>
 pSt P 3 v18 v16 <|
 pCall P 189 [v0, (.int .i64 1)] fun v20 =>
 pLoop1 (fun ag7 v21 =>
 pVal (binV P .lss 3 v21 v20) fun v22 =>
 pIf v22
 (pDraw fun S8 =>
 pVal (fieldV P 53 v2 4) fun v23 =>
 pHld P S8 24 v23 fun v24 =>
 pCall P 189 [v0, (.int .i64 1)] fun v26 =>
 pKeep true S8 <|
 pRow P 24 1 [(0, v26)] fun v27 =>
 pKeep true S8 <|
 pRoom P (Builtin.append_ #[24, 24] 24 #[v24, v27]) fun v28 =>
 pVal (fieldV P 53 v2 4) fun v29 =>
 pSt P 24 v29 v28 <|
 pVal (binV P .add 3 v21 (.int .i64 1)) fun v30 =>
 ag7 v30)
 (pLd P 53 v2 fun v31 =>
 pSt P 53 v2 v31 <|
 pRes P 53 v2 fun r2 =>
 R r2)) (.int .i64 0))
theorem tr209 (v0 : Value) (R : Value → World → Prop) : trF P ag [] [(905, [21])] Tryz.f209 [v0] R = G209 v0 R := by kernel_rfl
theorem hb209 : hasBody P 209 = true := by kernel_rfl
theorem c209 {v0 : Value} {K : Value → World → Prop} {w : World} (h : G209 v0 K w) : pCall P 209 [v0] K w := pCall_of mixed Tryz.func209 hb209 (tr209 v0 K) h
/-- (*almshouse/store.Store).spoil -/
@[irreducible] def G210 (v0 v1 v2 : Value) (R : Value → World → Prop) : World → Prop :=
 pCall P 240 [v0] fun v8 =>
 pVal (binV P .leq 3 v8 v2) fun v10 =>
 pIf v10
 (pCall P 241 [v0] fun v12 =>
 R v12)
 (pDraw fun S3 =>
 pNil v0 fun v14 =>
 pVal (fieldV P 174 v14 0) fun v15 =>
 pHld P S3 58 v15 fun v16 =>
 pNil v0 fun v18 =>
 pVal (fieldV P 174 v18 2) fun v19 =>
 pVal (fieldV P 53 v19 4) fun v20 =>
 pHld P S3 24 v20 fun v21 =>
 pVal (indexV P 24 v21 v1) fun v23 =>
 pHld P S3 3 v23 fun v24 =>
 pCall P 242 [v16, v24] fun v25 =>
 pKeep true S3 <|
 R v25)
theorem tr210 (v0 v1 v2 : Value) (R : Value → World → Prop) : trF P ag [] [] Tryz.f210 [v0, v1, v2] R = G210 v0 v1 v2 R := by kernel_rfl
theorem hb210 : hasBody P 210 = true := by kernel_rfl
theorem c210 {v0 v1 v2 : Value} {K : Value → World → Prop} {w : World} (h : G210 v0 v1 v2 K w) : pCall P 210 [v0, v1, v2] K w := pCall_of mixed Tryz.func210 hb210 (tr210 v0 v1 v2 K) h
/-- (*almshouse/table.Table).is -/
@[irreducible] def G211 (v0 v1 v2 : Value) (R : Value → World → Prop) : World → Prop :=
 pVal (binV P .neq 171 v0 (.pointer none)) fun v8 =>
 pGuard v8 true
 (pVal (binV P .geq 3 v1 (.int .i64 0)) fun v11 =>
 pGuard v11 true
 (pNil v0 fun v16 =>
 pVal (fieldV P 226 v16 3) fun v17 =>
 pLd P 24 v17 fun v18 =>
 pVal (lenBV P #[24] [v18]) fun v19 =>
 pVal (binV P .lss 3 v1 v19) fun v20 =>
 pGuard v20 true
 (pVal (binV P .geq 3 v2 (.int .i64 0)) fun v24 =>
 pGuard v24 true
 (pNil v0 fun v29 =>
 pVal (fieldV P 226 v29 0) fun v30 =>
 pLd P 3 v30 fun v31 =>
 pVal (binV P .lss 3 v2 v31) fun v32 =>
 R v32)
 (R (.bool false)))
 (R (.bool false)))
 (R (.bool false)))
 (R (.bool false))
theorem tr211 (v0 v1 v2 : Value) (R : Value → World → Prop) : trF P ag [] [] Tryz.f211 [v0, v1, v2] R = G211 v0 v1 v2 R := by kernel_rfl
theorem hb211 : hasBody P 211 = true := by kernel_rfl
theorem c211 {v0 v1 v2 : Value} {K : Value → World → Prop} {w : World} (h : G211 v0 v1 v2 K w) : pCall P 211 [v0, v1, v2] K w := pCall_of mixed Tryz.func211 hb211 (tr211 v0 v1 v2 K) h
/-- slices.Index[[]int,int] -/
@[irreducible] def G216 (v0 v1 : Value) (R : Value → World → Prop) : World → Prop :=
 pVal (lenBV P #[24] [v0]) fun v7 =>
 pLoop1 (fun ag2 v8 =>
 pVal (binV P .lss 3 v8 v7) fun v9 =>
 pIf v9
 (pVal (indexV P 24 v0 v8) fun v14 =>
 pLd P 3 v14 fun v15 =>
 pVal (binV P .eql 3 v1 v15) fun v16 =>
 pIf v16
 (R v8)
 (pVal (binV P .add 3 v8 (.int .i64 1)) fun v18 =>
 ag2 v18))
 (R (.int .i64 (-1)))) (.int .i64 0)
theorem tr216 (v0 v1 : Value) (R : Value → World → Prop) : trF P ag [] [(262, [8])] Tryz.f216 [v0, v1] R = G216 v0 v1 R := by kernel_rfl
theorem hb216 : hasBody P 216 = true := by kernel_rfl
theorem c216 {v0 v1 : Value} {K : Value → World → Prop} {w : World} (h : G216 v0 v1 K w) : pCall P 216 [v0, v1] K w := pCall_of mixed Tryz.func216 hb216 (tr216 v0 v1 K) h
/-- almshouse/frame.Open -/
@[irreducible] def G222 (v0 : Value) (R : Value → World → Prop) : World → Prop :=
 pCall P 188 [v0] fun v10 =>
 pCall P 189 [v10, (.int .i64 1)] fun v12 =>
 pCall P 189 [v10, (.int .i64 2)] fun v14 =>
 pJoin1 (fun J6 =>
 pCall P 255 [v10] fun v16 =>
 pVal (binV P .add 3 v14 (.int .i64 4)) fun v18 =>
 pVal (binV P .lss 3 v16 v18) fun v19 =>
 pGuard v19 false
 (pVal (lenBV P #[227] [v0]) fun v22 =>
 pVal (binV P .lss 3 v22 (.int .i64 3)) fun v23 =>
 pIf v23
 (R (.tuple #[(.int .i64 0), (.slice none 0 0), (.int .i64 0), (.int .i64 2)]))
 (J6 v12))
 (pIf (.bool true)
 (R (.tuple #[(.int .i64 0), (.slice none 0 0), (.int .i64 0), (.int .i64 2)]))
 (J6 v12)))
 (fun v2 =>
 pVal (binV P .add 3 (.int .i64 3) v14) fun v26 =>
 pDraw fun S7 =>
 pVal (sliceV P 227 v0 (some v26) none none) fun v29 =>
 pVal (sliceV P 227 v0 none (some v26) none) fun v34 =>
 pCall P 188 [v29] fun v30 =>
 pCall P 189 [v30, (.int .i64 4)] fun v31 =>
 pCall P 231 [v34] fun v35 =>
 pVal (convV P 158 3 v35) fun v36 =>
 pVal (binV P .neq 3 v31 v36) fun v37 =>
 pIf v37
 (R (.tuple #[(.int .i64 0), (.slice none 0 0), (.int .i64 0), (.int .i64 14)]))
 (pVal (sliceV P 227 v0 (some (.int .i64 3)) (some v26) none) fun v41 =>
 pCall P 186 [v41] fun v42 =>
 pVal (binV P .add 3 v26 (.int .i64 4)) fun v44 =>
 R (.tuple #[v2, v42, v44, (.int .i64 0)])))
theorem tr222 (v0 : Value) (R : Value → World → Prop) : trF P ag [(6, [2])] [] Tryz.f222 [v0] R = G222 v0 R := by kernel_rfl
theorem hb222 : hasBody P 222 = true := by kernel_rfl
theorem c222 {v0 : Value} {K : Value → World → Prop} {w : World} (h : G222 v0 K w) : pCall P 222 [v0] K w := pCall_of mixed Tryz.func222 hb222 (tr222 v0 K) h
/-- almshouse/word.sized -/
@[irreducible] def G223 (v0 : Value) (R : Value → World → Prop) : World → Prop :=
 pVal (binV P .eql 3 v0 (.int .i64 1)) fun v4 =>
 pGuard v4 false
 (pVal (binV P .eql 3 v0 (.int .i64 2)) fun v7 =>
 pGuard v7 false
 (pVal (binV P .eql 3 v0 (.int .i64 4)) fun v11 =>
 R v11)
 (R (.bool true)))
 (R (.bool true))
theorem tr223 (v0 : Value) (R : Value → World → Prop) : trF P ag [] [] Tryz.f223 [v0] R = G223 v0 R := by kernel_rfl
theorem hb223 : hasBody P 223 = true := by kernel_rfl
theorem c223 {v0 : Value} {K : Value → World → Prop} {w : World} (h : G223 v0 K w) : pCall P 223 [v0] K w := pCall_of mixed Tryz.func223 hb223 (tr223 v0 K) h
/-- (*almshouse/word.Reader).fail -/
@[irreducible] def G224 (v0 v1 : Value) (R : Value → World → Prop) : World → Prop :=
 pJoin0 (fun J3 =>
 pNil v0 fun v6 =>
 pVal (fieldV P 290 v6 1) fun v7 =>
 pLd P 35 v7 fun v8 =>
 pVal (binV P .eql 35 v8 (.int .i64 0)) fun v9 =>
 pIf v9
 (pNil v0 fun v12 =>
 pVal (fieldV P 290 v12 1) fun v13 =>
 pSt P 35 v13 v1 <|
 J3)
 (J3))
 (pNil v0 fun v15 =>
 pVal (fieldV P 290 v15 1) fun v16 =>
 pLd P 35 v16 fun v17 =>
 pVal (binV P .neq 35 v17 (.int .i64 0)) fun v18 =>
 R v18)
theorem tr224 (v0 v1 : Value) (R : Value → World → Prop) : trF P ag [(3, [])] [] Tryz.f224 [v0, v1] R = G224 v0 v1 R := by kernel_rfl
theorem hb224 : hasBody P 224 = true := by kernel_rfl
theorem c224 {v0 v1 : Value} {K : Value → World → Prop} {w : World} (h : G224 v0 v1 K w) : pCall P 224 [v0, v1] K w := pCall_of mixed Tryz.func224 hb224 (tr224 v0 v1 K) h
/-- (*almshouse/word.Reader).next -/
@[irreducible] def G225 (v0 v1 : Value) (R : Value → World → Prop) : World → Prop :=
 pJoin0 (fun J3 =>
 pNil v0 fun v7 =>
 pVal (fieldV P 290 v7 1) fun v8 =>
 pLd P 35 v8 fun v9 =>
 pVal (binV P .neq 35 v9 (.int .i64 0)) fun v10 =>
 pGuard v10 false
 (pNil v0 fun v14 =>
 pVal (fieldV P 290 v14 0) fun v15 =>
 pLd P 227 v15 fun v16 =>
 pVal (lenBV P #[227] [v16]) fun v17 =>
 pVal (binV P .gtr 3 v1 v17) fun v18 =>
 pGuard v18 true
 (pCall P 224 [v0, (.int .i64 2)] fun v21 =>
 pIf v21
 (R (.slice none 0 0))
 (J3))
 (pIf (.bool false)
 (R (.slice none 0 0))
 (J3)))
 (pIf (.bool true)
 (R (.slice none 0 0))
 (J3)))
 (pNil v0 fun v25 =>
 pVal (fieldV P 290 v25 0) fun v26 =>
 pLd P 227 v26 fun v27 =>
 pVal (sliceV P 227 v27 none (some v1) (some v1)) fun v30 =>
 pNil v0 fun v33 =>
 pVal (fieldV P 290 v33 0) fun v34 =>
 pLd P 227 v34 fun v35 =>
 pVal (sliceV P 227 v35 (some v1) none none) fun v37 =>
 pNil v0 fun v38 =>
 pVal (fieldV P 290 v38 0) fun v39 =>
 pSt P 227 v39 v37 <|
 R v30)
theorem tr225 (v0 v1 : Value) (R : Value → World → Prop) : trF P ag [(3, [])] [] Tryz.f225 [v0, v1] R = G225 v0 v1 R := by kernel_rfl
theorem hb225 : hasBody P 225 = true := by kernel_rfl
theorem c225 {v0 v1 : Value} {K : Value → World → Prop} {w : World} (h : G225 v0 v1 K w) : pCall P 225 [v0, v1] K w := pCall_of mixed Tryz.func225 hb225 (tr225 v0 v1 K) h
end Go.Al

namespace Go.Al
open Go Go.Proofs
/-- almshouse/tag.within -/
@[irreducible] def G226 (v0 v1 : Value) (R : Value → World → Prop) : World → Prop :=
 pVal (binV P .geq 3 v0 (.int .i64 0)) fun v6 =>
 pGuard v6 true
 (pVal (binV P .leq 3 v0 v1) fun v10 =>
 R v10)
 (R (.bool false))
theorem tr226 (v0 v1 : Value) (R : Value → World → Prop) : trF P ag [] [] Tryz.f226 [v0, v1] R = G226 v0 v1 R := by kernel_rfl
theorem hb226 : hasBody P 226 = true := by kernel_rfl
theorem c226 {v0 v1 : Value} {K : Value → World → Prop} {w : World} (h : G226 v0 v1 K w) : pCall P 226 [v0, v1] K w := pCall_of mixed Tryz.func226 hb226 (tr226 v0 v1 K) h
/-- (*sync/atomic.Int64).Add -/
@[irreducible] def G227 (v0 v1 : Value) (R : Value → World → Prop) : World → Prop :=
 pNil v0 fun v6 =>
 pVal (fieldV P 150 v6 2) fun v7 =>
 pExt P 256 [v7, v1] fun v9 =>
 R v9
theorem tr227 (v0 v1 : Value) (R : Value → World → Prop) : trF P ag [] [] Tryz.f227 [v0, v1] R = G227 v0 v1 R := by kernel_rfl
theorem hb227 : hasBody P 227 = true := by kernel_rfl
theorem c227 {v0 v1 : Value} {K : Value → World → Prop} {w : World} (h : G227 v0 v1 K w) : pCall P 227 [v0, v1] K w := pCall_of mixed Tryz.func227 hb227 (tr227 v0 v1 K) h
/-- almshouse/ledger.none -/
@[irreducible] def G228 (v0 : Value) (R : Value → World → Prop) : World → Prop :=
 pNew 53 v0 fun v1 =>
 pVal (fieldV P 53 v1 1) fun v3 =>
 pLd P 3 v3 fun v4 =>
 pVal (binV P .eql 3 v4 (.int .i64 0)) fun v5 =>
 pGuard v5 true
 (pVal (fieldV P 53 v1 2) fun v7 =>
 pLd P 3 v7 fun v8 =>
 pVal (binV P .eql 3 v8 (.int .i64 0)) fun v9 =>
 pGuard v9 true
 (pVal (fieldV P 53 v1 3) fun v12 =>
 pLd P 3 v12 fun v13 =>
 pVal (binV P .eql 3 v13 (.int .i64 0)) fun v14 =>
 pGuard v14 true
 (pVal (fieldV P 53 v1 4) fun v17 =>
 pLd P 24 v17 fun v18 =>
 pVal (lenBV P #[24] [v18]) fun v19 =>
 pVal (binV P .eql 3 v19 (.int .i64 0)) fun v20 =>
 R v20)
 (R (.bool false)))
 (R (.bool false)))
 (R (.bool false))
theorem tr228 (v0 : Value) (R : Value → World → Prop) : trF P ag [] [] Tryz.f228 [v0] R = G228 v0 R := by kernel_rfl
theorem hb228 : hasBody P 228 = true := by kernel_rfl
theorem c228 {v0 : Value} {K : Value → World → Prop} {w : World} (h : G228 v0 K w) : pCall P 228 [v0] K w := pCall_of mixed Tryz.func228 hb228 (tr228 v0 K) h
/-- slices.Clip[[]byte,byte] -/
@[irreducible] def G229 (v0 : Value) (R : Value → World → Prop) : World → Prop :=
 pVal (lenBV P #[227] [v0]) fun v5 =>
 pVal (lenBV P #[227] [v0]) fun v7 =>
 pVal (sliceV P 227 v0 none (some v5) (some v7)) fun v8 =>
 R v8
theorem tr229 (v0 : Value) (R : Value → World → Prop) : trF P ag [] [] Tryz.f229 [v0] R = G229 v0 R := by kernel_rfl
theorem hb229 : hasBody P 229 = true := by kernel_rfl
theorem c229 {v0 : Value} {K : Value → World → Prop} {w : World} (h : G229 v0 K w) : pCall P 229 [v0] K w := pCall_of mixed Tryz.func229 hb229 (tr229 v0 K) h
/-- almshouse/word.Fits -/
@[irreducible] def G230 (v0 v1 : Value) (R : Value → World → Prop) : World → Prop :=
 pCall P 223 [v1] fun v6 =>
 pGuard v6 true
 (pVal (binV P .mul 3 (.int .i64 8) v1) fun v10 =>
 pVal (convV P 3 286 v10) fun v11 =>
 pVal (binV P .shr 3 v0 v11) fun v12 =>
 pVal (binV P .eql 3 v12 (.int .i64 0)) fun v13 =>
 R v13)
 (R (.bool false))
theorem tr230 (v0 v1 : Value) (R : Value → World → Prop) : trF P ag [] [] Tryz.f230 [v0, v1] R = G230 v0 v1 R := by kernel_rfl
theorem hb230 : hasBody P 230 = true := by kernel_rfl
theorem c230 {v0 v1 : Value} {K : Value → World → Prop} {w : World} (h : G230 v0 v1 K w) : pCall P 230 [v0, v1] K w := pCall_of mixed Tryz.func230 hb230 (tr230 v0 v1 K) h
/-- almshouse/sum.Of -/
@[irreducible] def G231 (v0 : Value) (R : Value → World → Prop) : World → Prop :=
 pCall P 257 [(.int .u32 0), v0] fun v4 =>
 R v4
theorem tr231 (v0 : Value) (R : Value → World → Prop) : trF P ag [] [] Tryz.f231 [v0] R = G231 v0 R := by kernel_rfl
theorem hb231 : hasBody P 231 = true := by kernel_rfl
theorem c231 {v0 : Value} {K : Value → World → Prop} {w : World} (h : G231 v0 K w) : pCall P 231 [v0] K w := pCall_of mixed Tryz.func231 hb231 (tr231 v0 K) h
/-- (*almshouse/store.Store).room -/
@[irreducible] def G232 (v0 : Value) (R : Value → World → Prop) : World → Prop :=
 pJoin0 (fun J3 =>
 pNil v0 fun v9 =>
 pVal (fieldV P 174 v9 6) fun v10 =>
 pLd P 3 v10 fun v11 =>
 pVal (binV P .neq 3 v11 (.int .i64 (-1))) fun v12 =>
 pGuard v12 true
 (pNil v0 fun v16 =>
 pVal (fieldV P 174 v16 6) fun v17 =>
 pLd P 3 v17 fun v18 =>
 pCall P 176 [v0, v18] fun v19 =>
 pCall P 177 [v0] fun v21 =>
 pVal (binV P .lss 3 v19 v21) fun v22 =>
 pIf v22
 (R (.int .i64 0))
 (J3))
 (pIf (.bool false)
 (R (.int .i64 0))
 (J3)))
 (pCall P 59 [v0] fun v25 =>
 pVal (lenBV P #[24] [v25]) fun v27 =>
 pCall P 240 [v0] fun v29 =>
 pVal (binV P .add 3 (.int .i64 1) v29) fun v30 =>
 pVal (binV P .gtr 3 v27 v30) fun v31 =>
 pIf v31
 (pVal (indexV P 24 v25 (.int .i64 0)) fun v34 =>
 pLd P 3 v34 fun v35 =>
 pNil v0 fun v36 =>
 pVal (fieldV P 174 v36 6) fun v37 =>
 pSt P 3 v37 v35 <|
 R (.int .i64 0))
 (pNil v0 fun v39 =>
 pVal (fieldV P 174 v39 2) fun v40 =>
 pVal (fieldV P 53 v40 4) fun v41 =>
 pLd P 24 v41 fun v42 =>
 pVal (lenBV P #[24] [v42]) fun v43 =>
 pRun P (Instr.makeSlice 24 v43 v43) fun v44 =>
 pVal (lenBV P #[24] [v44]) fun v46 =>
 pLoop1 (fun ag9 v47 =>
 pVal (binV P .lss 3 v47 v46) fun v48 =>
 pIf v48
 (pVal (indexV P 24 v44 v47) fun v52 =>
 pSt P 3 v52 (.int .i64 (-1)) <|
 pNil v0 fun v54 =>
 pVal (fieldV P 174 v54 3) fun v55 =>
 pLd P 171 v55 fun v56 =>
 pCall P 258 [v56, v47] fun v58 =>
 pJoin1 (fun J14 =>
 pCall P 113 [v0, v47] fun v61 =>
 pVal (unV .not v61) fun v62 =>
 pGuard v62 true
 (pCall P 176 [v0, v47] fun v66 =>
 pVal (binV P .gtr 3 v66 (.int .i64 0)) fun v67 =>
 pGuard v67 true
 (pCall P 177 [v0] fun v72 =>
 pVal (binV P .lss 3 v58 v72) fun v73 =>
 J14 v73)
 (J14 (.bool false)))
 (J14 (.bool false)))
 (fun v74 =>
 pIf v74
 (pVal (indexV P 24 v44 v47) fun v78 =>
 pSt P 3 v78 v58 <|
 pVal (binV P .add 3 v47 (.int .i64 1)) fun v79 =>
 ag9 v79)
 (pVal (binV P .add 3 v47 (.int .i64 1)) fun v79 =>
 ag9 v79)))
 (pCall P 259 [v44] fun v81 =>
 pVal (binV P .lss 3 v81 (.int .i64 0)) fun v83 =>
 pIf v83
 (R (.int .i64 8))
 (pCall P 168 [v0, v81] fun v86 =>
 R v86))) (.int .i64 0)))
theorem tr232 (v0 : Value) (R : Value → World → Prop) : trF P ag [(3, []), (14, [74])] [(1167, [47])] Tryz.f232 [v0] R = G232 v0 R := by kernel_rfl
theorem hb232 : hasBody P 232 = true := by kernel_rfl
theorem c232 {v0 : Value} {K : Value → World → Prop} {w : World} (h : G232 v0 K w) : pCall P 232 [v0] K w := pCall_of mixed Tryz.func232 hb232 (tr232 v0 K) h
/-- almshouse/tag.Bytes -/
@[irreducible] def G233 (v0 : Value) (R : Value → World → Prop) : World → Prop :=
 pNew 182 v0 fun v1 =>
 pLd P 182 v1 fun v8 =>
 pCall P 192 [v8] fun v9 =>
 pVal (unV .not v9) fun v10 =>
 pIf v10
 (R (.tuple #[(.slice none 0 0), (.int .i64 1)]))
 (pVal (fieldV P 182 v1 0) fun v11 =>
 pLd P 3 v11 fun v12 =>
 pVal (buildV P 312 [(0, v12), (1, (.int .i64 1))]) fun v13 =>
 pVal (fieldV P 182 v1 1) fun v14 =>
 pLd P 3 v14 fun v15 =>
 pVal (buildV P 312 [(0, v15), (1, (.int .i64 4))]) fun v16 =>
 pVal (fieldV P 182 v1 2) fun v17 =>
 pLd P 3 v17 fun v18 =>
 pVal (buildV P 312 [(0, v18), (1, (.int .i64 1))]) fun v19 =>
 pVal (fieldV P 182 v1 3) fun v20 =>
 pLd P 3 v20 fun v21 =>
 pVal (buildV P 312 [(0, v21), (1, (.int .i64 4))]) fun v22 =>
 pVal (fieldV P 182 v1 4) fun v23 =>
 pLd P 3 v23 fun v24 =>
 pVal (buildV P 312 [(0, v24), (1, (.int .i64 1))]) fun v25 =>
 pRow P 313 5 [(0, v13), (1, v16), (2, v19), (3, v22), (4, v25)] fun v26 =>
 pVal (lenBV P #[313] [v26]) fun v27 =>
 pLoop2 (fun ag5 v4 v28 =>
 pVal (binV P .lss 3 v28 v27) fun v29 =>
 pIf v29
 (pVal (indexV P 313 v26 v28) fun v30 =>
 pLd P 312 v30 fun v31 =>
 pAlloc P 312 fun v6 =>
 pSt P 312 v6 v31 <|
 pVal (indexV P 312 v6 (.int .i64 0)) fun v33 =>
 pLd P 3 v33 fun v34 =>
 pVal (indexV P 312 v6 (.int .i64 1)) fun v35 =>
 pLd P 3 v35 fun v36 =>
 pCall P 198 [v4, v34, v36] fun v37 =>
 pVal (binV P .add 3 v28 (.int .i64 1)) fun v38 =>
 ag5 v37 v38)
 (pJoin1 (fun J12 =>
 pVal (fieldV P 182 v1 5) fun v39 =>
 pLd P 4 v39 fun v40 =>
 pIf v40
 (J12 (.int .i64 1))
 (J12 (.int .i64 0)))
 (fun v7 =>
 pCall P 198 [v4, v7, (.int .i64 1)] fun v43 =>
 pCall P 200 [(.int .i64 84), v43] fun v44 =>
 pVal (extractV v44 0) fun v45 =>
 pVal (extractV v44 1) fun v46 =>
 R (.tuple #[v45, v46])))) (.slice none 0 0) (.int .i64 0))
theorem tr233 (v0 : Value) (R : Value → World → Prop) : trF P ag [(12, [7])] [(648, [4, 28])] Tryz.f233 [v0] R = G233 v0 R := by kernel_rfl
theorem hb233 : hasBody P 233 = true := by kernel_rfl
theorem c233 {v0 : Value} {K : Value → World → Prop} {w : World} (h : G233 v0 K w) : pCall P 233 [v0] K w := pCall_of mixed Tryz.func233 hb233 (tr233 v0 K) h
/-- (*almshouse/store.Store).lose -/
@[irreducible] def G234 (v0 : Value) (R : Value → World → Prop) : World → Prop :=
 pCall P 240 [v0] fun v6 =>
 pVal (binV P .lss 3 v6 (.int .i64 1)) fun v7 =>
 pIf v7
 (pCall P 241 [v0] fun v9 =>
 R v9)
 (pNil v0 fun v11 =>
 pVal (fieldV P 174 v11 6) fun v12 =>
 pLd P 3 v12 fun v13 =>
 pCall P 206 [v0, v13, (.int .i64 1)] fun v16 =>
 pVal (binV P .neq 35 v16 (.int .i64 0)) fun v18 =>
 pIf v18
 (R v16)
 (pDraw fun S7 =>
 pNil v0 fun v21 =>
 pVal (fieldV P 174 v21 0) fun v22 =>
 pHld P S7 58 v22 fun v23 =>
 pNil v0 fun v25 =>
 pVal (fieldV P 174 v25 2) fun v26 =>
 pVal (fieldV P 53 v26 4) fun v27 =>
 pHld P S7 24 v27 fun v28 =>
 pVal (indexV P 24 v28 v13) fun v30 =>
 pHld P S7 3 v30 fun v31 =>
 pCall P 242 [v23, v31] fun v32 =>
 pKeep true S7 <|
 R v32))
theorem tr234 (v0 : Value) (R : Value → World → Prop) : trF P ag [] [] Tryz.f234 [v0] R = G234 v0 R := by kernel_rfl
theorem hb234 : hasBody P 234 = true := by kernel_rfl
theorem c234 {v0 : Value} {K : Value → World → Prop} {w : World} (h : G234 v0 K w) : pCall P 234 [v0] K w := pCall_of mixed Tryz.func234 hb234 (tr234 v0 K) h
/-- (*almshouse/store.Store).needed -/
@[irreducible] def G236 (v0 v1 : Value) (R : Value → World → Prop) : World → Prop :=
 pCall P 177 [v0] fun v8 =>
 pLoop2 (fun ag3 v5 v9 =>
 pVal (binV P .lss 3 v9 v8) fun v10 =>
 pIf v10
 (pNil v0 fun v13 =>
 pVal (fieldV P 174 v13 3) fun v14 =>
 pLd P 171 v14 fun v15 =>
 pCall P 238 [v15, v1, v9] fun v18 =>
 pVal (binV P .geq 3 v18 (.int .i64 0)) fun v19 =>
 pIf v19
 (pRow P 24 1 [(0, v9)] fun v22 =>
 pRoom P (Builtin.append_ #[24, 24] 24 #[v5, v22]) fun v23 =>
 pVal (binV P .add 3 v9 (.int .i64 1)) fun v24 =>
 ag3 v23 v24)
 (pVal (binV P .add 3 v9 (.int .i64 1)) fun v24 =>
 ag3 v5 v24))
 (R v5)) (.slice none 0 0) (.int .i64 0)
theorem tr236 (v0 v1 : Value) (R : Value → World → Prop) : trF P ag [] [(391, [5, 9])] Tryz.f236 [v0, v1] R = G236 v0 v1 R := by kernel_rfl
theorem hb236 : hasBody P 236 = true := by kernel_rfl
theorem c236 {v0 v1 : Value} {K : Value → World → Prop} {w : World} (h : G236 v0 v1 K w) : pCall P 236 [v0, v1] K w := pCall_of mixed Tryz.func236 hb236 (tr236 v0 v1 K) h
/-- (*almshouse/store.Store).copyInto -/
@[irreducible] def G237 (v0 v1 v2 v3 : Value) (R : Value → World → Prop) : World → Prop :=
 pVal (lenBV P #[24] [v3]) fun v16 =>
 pLoop1 (fun ag2 v17 =>
 pVal (binV P .lss 3 v17 v16) fun v18 =>
 pIf v18
 (pVal (indexV P 24 v3 v17) fun v20 =>
 pLd P 3 v20 fun v21 =>
 pJoin2 (fun J5 =>
 pDraw fun S4 =>
 pNil v0 fun v24 =>
 pVal (fieldV P 174 v24 0) fun v25 =>
 pHld P S4 58 v25 fun v26 =>
 pNil v0 fun v28 =>
 pVal (fieldV P 174 v28 2) fun v29 =>
 pVal (fieldV P 53 v29 4) fun v30 =>
 pHld P S4 24 v30 fun v31 =>
 pAnd (pCall P 121 [v26, v31, v1, v21] fun v34 =>
 pKeep true S4 <|
 pVal (extractV v34 0) fun v35 =>
 pVal (extractV v34 1) fun v36 =>
 pAlloc P 184 fun v11 =>
 pKeep true S4 <|
 pSt P 184 v11 v35 <|
 J5 v11 v36) (pAlloc P 184 fun v11 =>
 pKeep true S4 <|
 pCall P 121 [v26, v31, v1, v21] fun v34 =>
 pKeep true S4 <|
 pVal (extractV v34 0) fun v35 =>
 pVal (extractV v34 1) fun v36 =>
 pSt P 184 v11 v35 <|
 J5 v11 v36))
 (fun v11 v12 =>
 pVal (binV P .neq 35 v12 (.int .i64 0)) fun v38 =>
 pIf v38
 (R v12)
 (pVal (fieldV P 184 v11 3) fun v40 =>
 pVal (fieldV P 182 v40 5) fun v41 =>
 pSt P 4 v41 (.bool true) <|
 pVal (fieldV P 184 v11 3) fun v43 =>
 pLd P 182 v43 fun v44 =>
 pCall P 233 [v44] fun v45 =>
 pVal (extractV v45 0) fun v46 =>
 pVal (extractV v45 1) fun v47 =>
 pVal (binV P .neq 35 v47 (.int .i64 0)) fun v49 =>
 pIf v49
 (R v47)
 (pDraw fun S11 =>
 pNil v0 fun v52 =>
 pVal (fieldV P 174 v52 0) fun v53 =>
 pHld P S11 58 v53 fun v54 =>
 pNil v0 fun v56 =>
 pVal (fieldV P 174 v56 1) fun v57 =>
 pHld P S11 3 v57 fun v58 =>
 pNil v0 fun v60 =>
 pVal (fieldV P 174 v60 2) fun v61 =>
 pVal (fieldV P 53 v61 4) fun v62 =>
 pHld P S11 24 v62 fun v63 =>
 pVal (indexV P 24 v63 v2) fun v65 =>
 pHld P S11 3 v65 fun v66 =>
 pVal (fieldV P 184 v11 4) fun v69 =>
 pHld P S11 9 v69 fun v70 =>
 pCall P 165 [v54, v58, v66, v17, v46, v70] fun v71 =>
 pKeep true S11 <|
 pVal (binV P .neq 35 v71 (.int .i64 0)) fun v73 =>
 pIf v73
 (R v71)
 (pVal (binV P .add 3 v17 (.int .i64 1)) fun v75 =>
 ag2 v75)))))
 (R (.int .i64 0))) (.int .i64 0)
theorem tr237 (v0 v1 v2 v3 : Value) (R : Value → World → Prop) : trF P ag [(5, [11, 12])] [(270, [17])] Tryz.f237 [v0, v1, v2, v3] R = G237 v0 v1 v2 v3 R := by kernel_rfl
theorem hb237 : hasBody P 237 = true := by kernel_rfl
theorem c237 {v0 v1 v2 v3 : Value} {K : Value → World → Prop} {w : World} (h : G237 v0 v1 v2 v3 K w) : pCall P 237 [v0, v1, v2, v3] K w := pCall_of mixed Tryz.func237 hb237 (tr237 v0 v1 v2 v3 K) h
/-- (*almshouse/table.Table).Place -/
@[irreducible] def G238 (v0 v1 v2 : Value) (R : Value → World → Prop) : World → Prop :=
 pCall P 211 [v0, v1, v2] fun v10 =>
 pVal (unV .not v10) fun v11 =>
 pIf v11
 (R (.int .i64 (-1)))
 (pNil v0 fun v13 =>
 pVal (fieldV P 226 v13 2) fun v14 =>
 pLd P 224 v14 fun v15 =>
 pVal (indexV P 224 v15 v1) fun v17 =>
 pLd P 24 v17 fun v18 =>
 pVal (indexV P 24 v18 v2) fun v20 =>
 pLd P 3 v20 fun v21 =>
 R v21)
theorem tr238 (v0 v1 v2 : Value) (R : Value → World → Prop) : trF P ag [] [] Tryz.f238 [v0, v1, v2] R = G238 v0 v1 v2 R := by kernel_rfl
theorem hb238 : hasBody P 238 = true := by kernel_rfl
theorem c238 {v0 v1 v2 : Value} {K : Value → World → Prop} {w : World} (h : G238 v0 v1 v2 K w) : pCall P 238 [v0, v1, v2] K w := pCall_of mixed Tryz.func238 hb238 (tr238 v0 v1 v2 K) h
/-- almshouse/buffer.check -/
@[irreducible] def G239 (v0 : Value) (R : Value → World → Prop) : World → Prop :=
 pNew 176 v0 fun v1 =>
 pJoin1 (fun J2 =>
 pVal (fieldV P 176 v1 1) fun v4 =>
 pLd P 3 v4 fun v5 =>
 pVal (binV P .neq 3 v5 (.int .i64 1)) fun v6 =>
 pGuard v6 true
 (pVal (fieldV P 176 v1 1) fun v8 =>
 pLd P 3 v8 fun v9 =>
 pVal (binV P .neq 3 v9 (.int .i64 2)) fun v10 =>
 J2 v10)
 (J2 (.bool false)))
 (fun v3 =>
 pIf v3
 (R (.int .i64 1))
 (pJoin1 (fun J4 =>
 pVal (fieldV P 176 v1 0) fun v13 =>
 pLd P 3 v13 fun v14 =>
 pVal (binV P .lss 3 v14 (.int .i64 0)) fun v15 =>
 pGuard v15 false
 (pVal (fieldV P 176 v1 0) fun v17 =>
 pLd P 3 v17 fun v18 =>
 pVal (binV P .geq 3 v18 (.int .i64 64)) fun v19 =>
 pGuard v19 false
 (pVal (fieldV P 176 v1 1) fun v22 =>
 pLd P 3 v22 fun v23 =>
 pVal (binV P .eql 3 v23 (.int .i64 2)) fun v24 =>
 pGuard v24 true
 (pVal (fieldV P 176 v1 2) fun v26 =>
 pLd P 9 v26 fun v27 =>
 pVal (binV P .neq 9 v27 (.string { data := #[] })) fun v28 =>
 J4 v28)
 (J4 (.bool false)))
 (J4 (.bool true)))
 (J4 (.bool true)))
 (fun v12 =>
 pIf v12
 (R (.int .i64 1))
 (pVal (fieldV P 176 v1 2) fun v32 =>
 pLd P 9 v32 fun v33 =>
 pVal (lenBV P #[9] [v33]) fun v34 =>
 pVal (binV P .gtr 3 v34 (.int .i64 16)) fun v35 =>
 pIf v35
 (R (.int .i64 3))
 (R (.int .i64 0))))))
theorem tr239 (v0 : Value) (R : Value → World → Prop) : trF P ag [(2, [3]), (4, [12])] [] Tryz.f239 [v0] R = G239 v0 R := by kernel_rfl
theorem hb239 : hasBody P 239 = true := by kernel_rfl
theorem c239 {v0 : Value} {K : Value → World → Prop} {w : World} (h : G239 v0 K w) : pCall P 239 [v0] K w := pCall_of mixed Tryz.func239 hb239 (tr239 v0 K) h
/-- (*almshouse/store.Store).spares -/
@[irreducible] def G240 (v0 : Value) (R : Value → World → Prop) : World → Prop :=
 pDraw fun S1 =>
 pNil v0 fun v4 =>
 pVal (fieldV P 174 v4 2) fun v5 =>
 pVal (fieldV P 53 v5 3) fun v6 =>
 pHld P S1 3 v6 fun v7 =>
 pCall P 55 [v0] fun v9 =>
 pKeep true S1 <|
 pVal (binV P .sub 3 v7 v9) fun v10 =>
 R v10
theorem tr240 (v0 : Value) (R : Value → World → Prop) : trF P ag [] [] Tryz.f240 [v0] R = G240 v0 R := by kernel_rfl
theorem hb240 : hasBody P 240 = true := by kernel_rfl
theorem c240 {v0 : Value} {K : Value → World → Prop} {w : World} (h : G240 v0 K w) : pCall P 240 [v0] K w := pCall_of mixed Tryz.func240 hb240 (tr240 v0 K) h
/-- (*almshouse/store.Store).end -/
@[irreducible] def G241 (v0 : Value) (R : Value → World → Prop) : World → Prop :=
 pNil v0 fun v4 =>
 pVal (fieldV P 174 v4 7) fun v5 =>
 pSt P 4 v5 (.bool true) <|
 R (.int .i64 13)
theorem tr241 (v0 : Value) (R : Value → World → Prop) : trF P ag [] [] Tryz.f241 [v0] R = G241 v0 R := by kernel_rfl
theorem hb241 : hasBody P 241 = true := by kernel_rfl
theorem c241 {v0 : Value} {K : Value → World → Prop} {w : World} (h : G241 v0 K w) : pCall P 241 [v0] K w := pCall_of mixed Tryz.func241 hb241 (tr241 v0 K) h
/-- (*almshouse/nand.Nand).Mark -/
@[irreducible] def G242 (v0 v1 : Value) (R : Value → World → Prop) : World → Prop :=
 pCall P 89 [v0, v1] fun v8 =>
 pVal (binV P .eql 58 v0 (.pointer none)) fun v11 =>
 pIf v11
 (R (.int .i64 1))
 (pVal (binV P .eql 128 v8 (.pointer none)) fun v14 =>
 pIf v14
 (R (.int .i64 5))
 (pVal (binV P .lss 3 v1 (.int .i64 2)) fun v17 =>
 pIf v17
 (R (.int .i64 1))
 (pNil v0 fun v20 =>
 pVal (fieldV P 127 v20 1) fun v21 =>
 pLd P 93 v21 fun v22 =>
 pCall P 195 [v22] fun v23 =>
 pVal (binV P .neq 35 v23 (.int .i64 0)) fun v24 =>
 pIf v24
 (R (.int .i64 12))
 (pNil v8 fun v26 =>
 pVal (fieldV P 132 v26 2) fun v27 =>
 pSt P 4 v27 (.bool true) <|
 R (.int .i64 0)))))
theorem tr242 (v0 v1 : Value) (R : Value → World → Prop) : trF P ag [] [] Tryz.f242 [v0, v1] R = G242 v0 v1 R := by kernel_rfl
theorem hb242 : hasBody P 242 = true := by kernel_rfl
theorem c242 {v0 v1 : Value} {K : Value → World → Prop} {w : World} (h : G242 v0 v1 K w) : pCall P 242 [v0, v1] K w := pCall_of mixed Tryz.func242 hb242 (tr242 v0 v1 K) h
/-- (*almshouse/word.Reader).Left -/
@[irreducible] def G255 (v0 : Value) (R : Value → World → Prop) : World → Prop :=
 pVal (binV P .eql 263 v0 (.pointer none)) fun v4 =>
 pIf v4
 (R (.int .i64 0))
 (pNil v0 fun v6 =>
 pVal (fieldV P 290 v6 0) fun v7 =>
 pLd P 227 v7 fun v8 =>
 pVal (lenBV P #[227] [v8]) fun v9 =>
 R v9)
theorem tr255 (v0 : Value) (R : Value → World → Prop) : trF P ag [] [] Tryz.f255 [v0] R = G255 v0 R := by kernel_rfl
theorem hb255 : hasBody P 255 = true := by kernel_rfl
theorem c255 {v0 : Value} {K : Value → World → Prop} {w : World} (h : G255 v0 K w) : pCall P 255 [v0] K w := pCall_of mixed Tryz.func255 hb255 (tr255 v0 K) h
/-- almshouse/sum.On -/
@[irreducible] def G257 (v0 v1 : Value) (R : Value → World → Prop) : World → Prop :=
 pAlloc P 334 fun v5 =>
 pVal (unV .xor v0) fun v7 =>
 pCall P 274 [v5, v7, v1] fun v9 =>
 pVal (unV .xor v9) fun v10 =>
 R v10
theorem tr257 (v0 v1 : Value) (R : Value → World → Prop) : trF P ag [] [] Tryz.f257 [v0, v1] R = G257 v0 v1 R := by kernel_rfl
theorem hb257 : hasBody P 257 = true := by kernel_rfl
theorem c257 {v0 v1 : Value} {K : Value → World → Prop} {w : World} (h : G257 v0 v1 K w) : pCall P 257 [v0, v1] K w := pCall_of mixed Tryz.func257 hb257 (tr257 v0 v1 K) h
/-- (*almshouse/table.Table).Worth -/
@[irreducible] def G258 (v0 v1 : Value) (R : Value → World → Prop) : World → Prop :=
 pCall P 211 [v0, v1, (.int .i64 0)] fun v7 =>
 pVal (unV .not v7) fun v8 =>
 pIf v8
 (R (.int .i64 0))
 (pNil v0 fun v10 =>
 pVal (fieldV P 226 v10 3) fun v11 =>
 pLd P 24 v11 fun v12 =>
 pVal (indexV P 24 v12 v1) fun v14 =>
 pLd P 3 v14 fun v15 =>
 R v15)
theorem tr258 (v0 v1 : Value) (R : Value → World → Prop) : trF P ag [] [] Tryz.f258 [v0, v1] R = G258 v0 v1 R := by kernel_rfl
theorem hb258 : hasBody P 258 = true := by kernel_rfl
theorem c258 {v0 v1 : Value} {K : Value → World → Prop} {w : World} (h : G258 v0 v1 K w) : pCall P 258 [v0, v1] K w := pCall_of mixed Tryz.func258 hb258 (tr258 v0 v1 K) h
/-- almshouse/victim.Greedy -/
@[irreducible] def G259 (v0 : Value) (R : Value → World → Prop) : World → Prop :=
 pVal (lenBV P #[24] [v0]) fun v7 =>
 pLoop2 (fun ag3 v3 v8 =>
 pVal (binV P .lss 3 v8 v7) fun v9 =>
 pIf v9
 (pVal (indexV P 24 v0 v8) fun v11 =>
 pLd P 3 v11 fun v12 =>
 pVal (binV P .geq 3 v12 (.int .i64 0)) fun v14 =>
 pGuard v14 true
 (pVal (binV P .eql 3 v3 (.int .i64 (-1))) fun v17 =>
 pGuard v17 false
 (pVal (indexV P 24 v0 v3) fun v22 =>
 pLd P 3 v22 fun v23 =>
 pVal (binV P .lss 3 v12 v23) fun v24 =>
 pIf v24
 (pVal (binV P .add 3 v8 (.int .i64 1)) fun v28 =>
 ag3 v8 v28)
 (pVal (binV P .add 3 v8 (.int .i64 1)) fun v28 =>
 ag3 v3 v28))
 (pIf (.bool true)
 (pVal (binV P .add 3 v8 (.int .i64 1)) fun v28 =>
 ag3 v8 v28)
 (pVal (binV P .add 3 v8 (.int .i64 1)) fun v28 =>
 ag3 v3 v28)))
 (pIf (.bool false)
 (pVal (binV P .add 3 v8 (.int .i64 1)) fun v28 =>
 ag3 v8 v28)
 (pVal (binV P .add 3 v8 (.int .i64 1)) fun v28 =>
 ag3 v3 v28)))
 (R v3)) (.int .i64 (-1)) (.int .i64 0)
theorem tr259 (v0 : Value) (R : Value → World → Prop) : trF P ag [] [(391, [3, 8])] Tryz.f259 [v0] R = G259 v0 R := by kernel_rfl
theorem hb259 : hasBody P 259 = true := by kernel_rfl
theorem c259 {v0 : Value} {K : Value → World → Prop} {w : World} (h : G259 v0 K w) : pCall P 259 [v0] K w := pCall_of mixed Tryz.func259 hb259 (tr259 v0 K) h
end Go.Al

namespace Go.Al
open Go Go.Proofs
/-- (*almshouse/sum.table).on -/
@[irreducible] def G274 (v0 v1 v2 : Value) (R : Value → World → Prop) : World → Prop :=
 pNil v0 fun v10 =>
 pVal (fieldV P 334 v10 0) fun v11 =>
 pCall P 279 [v11, (.func (.func 280) #[v0] #[])] fun _ =>
 pVal (lenBV P #[227] [v2]) fun v16 =>
 pLoop2 (fun ag3 v1_1 v17 =>
 pVal (binV P .lss 3 v17 v16) fun v18 =>
 pIf v18
 (pVal (indexV P 227 v2 v17) fun v19 =>
 pLd P 5 v19 fun v20 =>
 pVal (binV P .shr 158 v1_1 (.int .u64 8)) fun v22 =>
 pVal (convV P 158 5 v1_1) fun v25 =>
 pVal (binV P .xor 5 v25 v20) fun v27 =>
 pNil v0 fun v28 =>
 pVal (fieldV P 334 v28 1) fun v29 =>
 pVal (indexV P 332 v29 v27) fun v30 =>
 pLd P 158 v30 fun v31 =>
 pVal (binV P .xor 158 v22 v31) fun v32 =>
 pVal (binV P .add 3 v17 (.int .i64 1)) fun v33 =>
 ag3 v32 v33)
 (R v1_1)) v1 (.int .i64 0)
theorem tr274 (v0 v1 v2 : Value) (R : Value → World → Prop) : trF P ag [] [(390, [1, 17])] Tryz.f274 [v0, v1, v2] R = G274 v0 v1 v2 R := by kernel_rfl
theorem hb274 : hasBody P 274 = true := by kernel_rfl
theorem c274 {v0 v1 v2 : Value} {K : Value → World → Prop} {w : World} (h : G274 v0 v1 v2 K w) : pCall P 274 [v0, v1, v2] K w := pCall_of mixed Tryz.func274 hb274 (tr274 v0 v1 v2 K) h
/-- (*sync.Once).Do -/
@[irreducible] def G279 (v0 v1 : Value) (R : Value → World → Prop) : World → Prop :=
 pNil v0 fun v5 =>
 pVal (fieldV P 331 v5 1) fun v6 =>
 pCall P 152 [v6] fun v7 =>
 pVal (unV .not v7) fun v8 =>
 pIf v8
 (pCall P 282 [v0, v1] fun _ =>
 R (.tuple #[]))
 (R (.tuple #[]))
theorem tr279 (v0 v1 : Value) (R : Value → World → Prop) : trF P ag [] [] Tryz.f279 [v0, v1] R = G279 v0 v1 R := by kernel_rfl
theorem hb279 : hasBody P 279 = true := by kernel_rfl
theorem c279 {v0 v1 : Value} {K : Value → World → Prop} {w : World} (h : G279 v0 v1 K w) : pCall P 279 [v0, v1] K w := pCall_of mixed Tryz.func279 hb279 (tr279 v0 v1 K) h
/-- (*almshouse/sum.table).make -/
@[irreducible] def G280 (v0 : Value) (R : Value → World → Prop) : World → Prop :=
 pLoop1 (fun ag1 v5 =>
 pVal (binV P .lss 3 v5 (.int .i64 256)) fun v6 =>
 pIf v6
 (pVal (convV P 3 158 v5) fun v9 =>
 pLoop2 (fun ag5 v3 v10 =>
 pVal (binV P .lss 3 v10 (.int .i64 8)) fun v11 =>
 pIf v11
 (pVal (binV P .and 158 v3 (.int .u32 1)) fun v13 =>
 pVal (binV P .shr 158 v3 (.int .u64 1)) fun v15 =>
 pVal (binV P .eql 158 v13 (.int .u32 1)) fun v17 =>
 pIf v17
 (pVal (binV P .xor 158 v15 (.int .u32 2197175160)) fun v19 =>
 pVal (binV P .add 3 v10 (.int .i64 1)) fun v20 =>
 ag5 v19 v20)
 (pVal (binV P .add 3 v10 (.int .i64 1)) fun v20 =>
 ag5 v15 v20))
 (pNil v0 fun v24 =>
 pVal (fieldV P 334 v24 1) fun v25 =>
 pVal (indexV P 332 v25 v5) fun v26 =>
 pSt P 158 v26 v3 <|
 pVal (binV P .add 3 v5 (.int .i64 1)) fun v27 =>
 ag1 v27)) v9 (.int .i64 0))
 (R (.tuple #[]))) (.int .i64 0)
theorem tr280 (v0 : Value) (R : Value → World → Prop) : trF P ag [] [(140, [5]), (650, [3, 10])] Tryz.f280 [v0] R = G280 v0 R := by kernel_rfl
theorem hb280 : hasBody P 280 = true := by kernel_rfl
theorem c280 {v0 : Value} {K : Value → World → Prop} {w : World} (h : G280 v0 K w) : pCall P 280 [v0] K w := pCall_of mixed Tryz.func280 hb280 (tr280 v0 K) h
/-- (*sync.Mutex).Lock -/
@[irreducible] def G283 (v0 : Value) (R : Value → World → Prop) : World → Prop :=
 pNil v0 fun v3 =>
 pVal (fieldV P 329 v3 1) fun v4 =>
 pCall P 285 [v4] fun _ =>
 R (.tuple #[])
theorem tr283 (v0 : Value) (R : Value → World → Prop) : trF P ag [] [] Tryz.f283 [v0] R = G283 v0 R := by kernel_rfl
theorem hb283 : hasBody P 283 = true := by kernel_rfl
theorem c283 {v0 : Value} {K : Value → World → Prop} {w : World} (h : G283 v0 K w) : pCall P 283 [v0] K w := pCall_of mixed Tryz.func283 hb283 (tr283 v0 K) h
/-- (*sync.Mutex).Unlock -/
@[irreducible] def G284 (v0 : Value) (R : Value → World → Prop) : World → Prop :=
 pNil v0 fun v3 =>
 pVal (fieldV P 329 v3 1) fun v4 =>
 pCall P 286 [v4] fun _ =>
 R (.tuple #[])
theorem tr284 (v0 : Value) (R : Value → World → Prop) : trF P ag [] [] Tryz.f284 [v0] R = G284 v0 R := by kernel_rfl
/-- (*internal/sync.Mutex).Lock -/
@[irreducible] def G285 (v0 : Value) (R : Value → World → Prop) : World → Prop :=
 pExt P 287 [] fun _ =>
 pNil v0 fun v4 =>
 pVal (fieldV P 327 v4 0) fun v5 =>
 pExt P 288 [v5, (.int .i32 0), (.int .i32 1)] fun v6 =>
 pIf v6
 (pIf (.bool true)
 (pExt P 289 [] fun _ =>
 pRun P (convert 345 349 v0) fun v9 =>
 pExt P 290 [v9] fun _ =>
 R (.tuple #[]))
 (R (.tuple #[])))
 (pCall P 291 [v0] fun _ =>
 R (.tuple #[]))
theorem tr285 (v0 : Value) (R : Value → World → Prop) : trF P ag [] [] Tryz.f285 [v0] R = G285 v0 R := by kernel_rfl
theorem hb285 : hasBody P 285 = true := by kernel_rfl
theorem c285 {v0 : Value} {K : Value → World → Prop} {w : World} (h : G285 v0 K w) : pCall P 285 [v0] K w := pCall_of mixed Tryz.func285 hb285 (tr285 v0 K) h
/-- (*internal/sync.Mutex).Unlock -/
@[irreducible] def G286 (v0 : Value) (R : Value → World → Prop) : World → Prop :=
 pJoin0 (fun J3 =>
 pIf (.bool true)
 (pNil v0 fun v4 =>
 pVal (fieldV P 327 v4 0) fun v5 =>
 pLd P 21 v5 fun _ =>
 pRun P (convert 345 349 v0) fun v8 =>
 pExt P 292 [v8] fun _ =>
 pExt P 287 [] fun _ =>
 J3)
 (J3))
 (pNil v0 fun v12 =>
 pVal (fieldV P 327 v12 0) fun v13 =>
 pExt P 293 [v13, (.int .i32 (-1))] fun v14 =>
 pVal (binV P .neq 21 v14 (.int .i32 0)) fun v16 =>
 pIf v16
 (pCall P 294 [v0, v14] fun _ =>
 pExt P 289 [] fun _ =>
 R (.tuple #[]))
 (pExt P 289 [] fun _ =>
 R (.tuple #[])))
theorem tr286 (v0 : Value) (R : Value → World → Prop) : trF P ag [(3, [])] [] Tryz.f286 [v0] R = G286 v0 R := by kernel_rfl
theorem hb286 : hasBody P 286 = true := by kernel_rfl
theorem c286 {v0 : Value} {K : Value → World → Prop} {w : World} (h : G286 v0 K w) : pCall P 286 [v0] K w := pCall_of mixed Tryz.func286 hb286 (tr286 v0 K) h
end Go.Al

namespace Go.Al
open Go Go.Proofs
theorem setCell_ch (w : World) (b o : Nat) (v : Value) : Ch (· = b) w (w.setCell ⟨b, o, none⟩ v) := by
  refine ⟨by simp [World.setCell], fun c hc hn => ?_, rfl, rfl⟩
  simp only [World.setCell, Array.getElem?_modify]
  rw [if_neg (fun h => hn h.symm)]
theorem setCell_blk {w : World} {b o : Nat} {T : TypeId} {l : List Value} (h : Blk w b T l) (v : Value) : Blk (w.setCell ⟨b, o, none⟩ v) b T (l.set o v) := by
  obtain ⟨f, h, ht⟩ := h
  refine ⟨f, ?_, by simpa using ht⟩
  simp only [World.setCell, Array.getElem?_modify, if_true, h]
  simp
theorem cell_blk {w : World} {b o : Nat} {T : TypeId} {l : List Value} (h : Blk w b T l) : w.cell? ⟨b, o, none⟩ = l[o]? := by
  obtain ⟨f, h, ht⟩ := h
  simp only [World.cell?, h]
  simp
theorem frozen_blk {w : World} {b o : Nat} {T : TypeId} {l : List Value} {v : Value} (h : Blk w b T l) (ho : l[o]? = some v) : w.frozen? ⟨b, o, none⟩ = false := by
  obtain ⟨f, h, ht⟩ := h
  exact thaw_frozen h ht (List.getElem?_eq_some_iff.1 ho).1
theorem xStore64 {w : World} {b o : Nat} {T : TypeId} {l : List Value} {x y : Int} {K : Value → World → Prop} (h : Blk w b T l) (hv : l[o]? = some (i64 x))
    (k : ∀ w1, Ch (· = b) w w1 → Blk w1 b T (l.set o (i64 y)) → K (.tuple #[]) w1) : pExt P 154 [ptr b o, i64 y] K w := by
  unfold pExt
  exact ⟨_, _, run_call_store Tryz.func154 (by kernel_rfl) (by kernel_rfl) (by kernel_rfl) (by kernel_rfl) (by rw [cell_blk h, hv]) (frozen_blk h hv),
    k _ (setCell_ch _ _ _ _) (setCell_blk h _)⟩
theorem xLoad64 {w : World} {b o : Nat} {T : TypeId} {l : List Value} {x : Int} {K : Value → World → Prop} (h : Blk w b T l) (hv : l[o]? = some (i64 x))
    (k : K (i64 x) w) : pExt P 155 [ptr b o] K w := by
  unfold pExt
  exact ⟨_, _, run_call_load Tryz.func155 (by kernel_rfl) (by kernel_rfl) (by kernel_rfl) .i64 (by kernel_rfl) (by rw [cell_blk h, hv]), k⟩
theorem xAdd64 {w : World} {b o : Nat} {T : TypeId} {l : List Value} {x y : Int} {K : Value → World → Prop} (h : Blk w b T l) (hv : l[o]? = some (i64 x))
    (k : ∀ w1, Ch (· = b) w w1 → Blk w1 b T (l.set o (i64 (IntKind.i64.wrap (x + y)))) → K (i64 (IntKind.i64.wrap (x + y))) w1) : pExt P 256 [ptr b o, i64 y] K w := by
  unfold pExt
  exact ⟨_, _, run_call_add Tryz.func256 (by kernel_rfl) (by kernel_rfl) (by kernel_rfl) .i64 (by kernel_rfl) (by rw [cell_blk h, hv]) (frozen_blk h hv) (by simp [Op.intArith]),
    k _ (setCell_ch _ _ _ _) (setCell_blk h _)⟩
theorem xStore32 {w : World} {b o : Nat} {T : TypeId} {l : List Value} {x y : Int} {K : Value → World → Prop} (h : Blk w b T l) (hv : l[o]? = some (.int .u32 x))
    (k : ∀ w1, Ch (· = b) w w1 → Blk w1 b T (l.set o (.int .u32 y)) → K (.tuple #[]) w1) : pExt P 170 [ptr b o, .int .u32 y] K w := by
  unfold pExt
  exact ⟨_, _, run_call_store Tryz.func170 (by kernel_rfl) (by kernel_rfl) (by kernel_rfl) (by kernel_rfl) (by rw [cell_blk h, hv]) (frozen_blk h hv),
    k _ (setCell_ch _ _ _ _) (setCell_blk h _)⟩
theorem xLoad32 {w : World} {b o : Nat} {T : TypeId} {l : List Value} {x : Int} {K : Value → World → Prop} (h : Blk w b T l) (hv : l[o]? = some (.int .u32 x))
    (k : K (.int .u32 x) w) : pExt P 185 [ptr b o] K w := by
  unfold pExt
  exact ⟨_, _, run_call_load Tryz.func185 (by kernel_rfl) (by kernel_rfl) (by kernel_rfl) .u32 (by kernel_rfl) (by rw [cell_blk h, hv]), k⟩
end Go.Al

namespace Go.Al
open Go Go.Proofs
structure PowerM where
  left : Int
  gone : Bool
  ops : Int
def bit (b : Bool) : Value := .int .u32 (if b then 1 else 0)
def PowerM.cells (p : PowerM) : List Value := [i64 p.left, bit p.gone, i64 p.ops]
def PowerR (w : World) (b : Nat) (p : PowerM) : Prop := Blk w b 162 p.cells
theorem Int64Load {w : World} {b o : Nat} {T : TypeId} {l : List Value} {x : Int} {K : Value → World → Prop} (h : Blk w b T l) (hv : l[o]? = some (i64 x))
    (k : K (i64 x) w) : pCall P 115 [ptr b o] K w := by
  refine c115 ?_
  unfold G115
  simp
  exact xLoad64 h hv k
theorem Int64Store {w : World} {b o : Nat} {T : TypeId} {l : List Value} {x y : Int} {K : Value → World → Prop} (h : Blk w b T l) (hv : l[o]? = some (i64 x))
    (k : ∀ w1, Ch (· = b) w w1 → Blk w1 b T (l.set o (i64 y)) → K (.tuple #[]) w1) : pCall P 109 [ptr b o, i64 y] K w := by
  refine c109 ?_
  unfold G109
  simp
  exact xStore64 h hv k
theorem Int64Add {w : World} {b o : Nat} {T : TypeId} {l : List Value} {x y : Int} {K : Value → World → Prop} (h : Blk w b T l) (hv : l[o]? = some (i64 x))
    (k : ∀ w1, Ch (· = b) w w1 → Blk w1 b T (l.set o (i64 (IntKind.i64.wrap (x + y)))) → K (i64 (IntKind.i64.wrap (x + y))) w1) : pCall P 227 [ptr b o, i64 y] K w := by
  refine c227 ?_
  unfold G227
  simp
  exact xAdd64 h hv k
theorem b32_spec {w : World} {x : Bool} {K : Value → World → Prop} (k : K (bit x) w) : pCall P 171 [.bool x] K w := by
  refine c171 ?_
  unfold G171
  cases x <;> simpa [bit] using k
theorem BoolStore {w : World} {b o : Nat} {T : TypeId} {l : List Value} {x y : Bool} {K : Value → World → Prop} (h : Blk w b T l) (hv : l[o]? = some (bit x))
    (k : ∀ w1, Ch (· = b) w w1 → Blk w1 b T (l.set o (bit y)) → K (.tuple #[]) w1) : pCall P 147 [ptr b o, .bool y] K w := by
  refine c147 ?_
  unfold G147
  refine pDraw_fr (fun _ => True) fun w1 hf hb _ => ⟨trivial, ?_⟩
  simp
  refine b32_spec ?_
  refine xStore32 (hb _ _ _ h) hv fun w2 hc h2 => k _ (hf.ch.trans hc fun _ _ h => h) h2
theorem BoolLoad {w : World} {b o : Nat} {T : TypeId} {l : List Value} {x : Bool} {K : Value → World → Prop} (h : Blk w b T l) (hv : l[o]? = some (bit x))
    (k : K (.bool x) w) : pCall P 152 [ptr b o] K w := by
  refine c152 ?_
  unfold G152
  simp
  refine xLoad32 h hv ?_
  cases x <;> simpa using k
def PowerM.spend (p : PowerM) : Int × PowerM :=
  if p.gone then (12, p) else
  if p.left = 0 then (11, ⟨p.left, true, IntKind.i64.wrap (p.ops + 1)⟩) else
  if 0 < p.left then (0, ⟨IntKind.i64.wrap (p.left - 1), false, IntKind.i64.wrap (p.ops + 1)⟩) else (0, ⟨p.left, false, IntKind.i64.wrap (p.ops + 1)⟩)
theorem Power_New {w : World} {n : Int} {K : Value → World → Prop} (k : ∀ b w1, b = w.heap.size → b < w1.heap.size → Fr w w1 → PowerR w1 b ⟨n, false, 0⟩ → K (ptr b 0) w1) : pCall P 51 [i64 n] K w := by
  refine c51 ?_
  unfold G51
  simp [buildV_app, fillL, fillA, splice]
  refine pNew_of [i64 0, bit false, i64 0] rfl fun b w1 hb hl hf h1 => ?_
  simp
  refine Int64Store h1 rfl fun w2 hc h2 => k b w2 hb (Nat.lt_of_lt_of_le hl hc.size) (Ch.new hf hb hc) ?_
  simpa [PowerR, PowerM.cells, bit] using h2
theorem Power_Gone {w : World} {b : Nat} {p : PowerM} {K : Value → World → Prop} (h : PowerR w b p) (k : K (.bool p.gone) w) : pCall P 99 [ptr b 0] K w := by
  refine c99 ?_
  unfold G99
  simp [binV_ptr_eql]
  exact BoolLoad h rfl k
theorem Power_Spend {w : World} {b : Nat} {p : PowerM} {K : Value → World → Prop} (h : PowerR w b p) (k : ∀ w1, Ch (· = b) w w1 → PowerR w1 b p.spend.2 → K (i64 p.spend.1) w1) : pCall P 195 [ptr b 0] K w := by
  refine c195 ?_
  unfold G195
  refine Power_Gone h ?_
  unfold PowerM.spend at k
  cases hg : p.gone
  · simp [hg] at k ⊢
    refine Int64Add h rfl fun w1 hc h1 => ?_
    refine Int64Load h1 rfl ?_
    by_cases h0 : p.left = 0
    · simp [h0] at k ⊢
      exact BoolStore h1 rfl fun w2 hc2 h2 => k _ (hc.trans hc2 fun _ _ h => h) (by simpa [PowerR, PowerM.cells, h0, hg] using h2)
    · by_cases h1' : 0 < p.left
      · simp [h0, h1'] at k ⊢
        exact Int64Store h1 rfl fun w2 hc2 h2 => k _ (hc.trans hc2 fun _ _ h => h) (by simpa [PowerR, PowerM.cells, h0, hg] using h2)
      · simp [h0, h1'] at k ⊢
        exact k _ hc (by simpa [PowerR, PowerM.cells, h0, hg] using h1)
  · simp [hg] at k ⊢
    exact k _ (Ch.refl _ _) h
end Go.Al

namespace Go.Al
open Go Go.Proofs
def cI (n : Int) : List Value := [i64 n]
theorem cI_len (n : Int) : (cI n).length = 1 := rfl
theorem cI_one (n : Int) : (cI n).all (·.oneCell') = true := rfl
def cB (n : UInt8) : List Value := [.int .u8 n.toNat]
theorem cB_len (n : UInt8) : (cB n).length = 1 := rfl
theorem cB_one (n : UInt8) : (cB n).all (·.oneCell') = true := rfl
abbrev Ints (w : World) (v : Value) (xs : List Int) : Prop := Sl w 1 cI v xs
abbrev Bytes (w : World) (v : Value) (xs : List UInt8) : Prop := Sl w 1 cB v xs
theorem take_one {l : List Value} {o : Nat} {v : Value} (h : (l.drop o).take 1 = [v]) : l[o]? = some v := by
  have := congrArg (·[0]?) h
  simpa [List.getElem?_take] using this
theorem take_at {l : List Value} {o sz : Nat} {c : List Value} (h : (l.drop o).take sz = c) {k : Nat} (hk : k < sz) : l[o + k]? = c[k]? := by
  rw [← h, List.getElem?_take, if_pos hk, List.getElem?_drop]
theorem sli_int : sliP P 24 = some (3, 1, 8) := by kernel_rfl
theorem sli_byte : sliP P 227 = some (5, 1, 1) := by kernel_rfl
theorem Clone_int {w : World} {v : Value} {xs : List Int} {K : Value → World → Prop} (h : Ints w v xs) (h63 : xs.length ≤ 1000000000)
    (k : ∀ v' w', Ints w' v' xs → Fr w w' → Fresh w v' → K v' w') : pCall P 108 [v] K w := by
  refine c108 ?_
  unfold G108
  exact clone_of sli_int (by simp) h cI_one h63 (by omega) k
theorem Clone_byte {w : World} {v : Value} {xs : List UInt8} {K : Value → World → Prop} (h : Bytes w v xs) (h63 : xs.length ≤ 1000000000)
    (k : ∀ v' w', Bytes w' v' xs → Fr w w' → Fresh w v' → K v' w') : pCall P 186 [v] K w := by
  refine c186 ?_
  unfold G186
  exact clone_of sli_byte (by simp) h cB_one h63 (by omega) k
/-- An element is read. -/
theorem Ints.get {w : World} {v : Value} {xs : List Int} {i : Nat} {K : Value → World → Prop} (h : Ints w v xs) (hi : i < xs.length) (k : K (i64 xs[i]) w) :
    (pVal (indexV P 24 v (i64 i)) fun a => pLd P 3 a K) w := by
  obtain ⟨b, o, T, l, _, hb, hx, ho, hc, _⟩ := Sl.at h (List.getElem?_eq_getElem hi) (by omega)
  rw [hx 24 .i64 (by simp), pVal_some]
  exact pLd1 hb (by simp; rfl) (take_one hc) k
theorem Index_int {w : World} {v : Value} {xs : List Int} {x : Int} {K : Value → World → Prop} (h : Ints w v xs) (h63 : xs.length ≤ 1000000000)
    (k : ∀ r : Int, (0 ≤ r ↔ x ∈ xs) → K (i64 r) w) : pCall P 216 [v, i64 x] K w := by
  refine c216 ?_
  unfold G216
  rw [h.len (by simp), pVal_some]
  refine loop1_up xs.length (fun i w' => w' = w ∧ x ∉ xs.take i) ⟨rfl, by simp⟩ ?_
  rintro i _ ag hag hi ⟨rfl, hx⟩
  simp
  split
  · rename_i hlt
    refine h.get hlt ?_
    simp
    split
    · rename_i he
      exact k i ⟨fun _ => by rw [he]; exact List.getElem_mem hlt, fun _ => by omega⟩
    · rename_i hne
      rw [wrap_succ (by omega)]
      refine hag (i + 1) _ (by omega) (by omega) ⟨rfl, ?_⟩
      rw [List.take_add_one, List.getElem?_eq_getElem hlt]
      intro hm
      rcases List.mem_append.1 hm with hm | hm
      · exact hx hm
      · simp at hm; exact hne hm
  · rename_i hge
    refine k (-1) ⟨fun h => by omega, fun hm => absurd hm ?_⟩
    rwa [List.take_of_length_le (by omega)] at hx
theorem Contains_int {w : World} {v : Value} {xs : List Int} {x : Int} {K : Value → World → Prop} (h : Ints w v xs) (h63 : xs.length ≤ 1000000000)
    (k : K (.bool (decide (x ∈ xs))) w) : pCall P 180 [v, i64 x] K w := by
  refine c180 ?_
  unfold G180
  refine Index_int h h63 fun r hr => ?_
  simpa [hr] using k
/-- The least of some numbers. -/
def least : List Int → Int
  | [] => 0
  | x :: xs => xs.foldl (fun a b => if b < a then b else a) x
theorem least_snoc {xs : List Int} {x : Int} (h : 0 < xs.length) : least (xs ++ [x]) = if x < least xs then x else least xs := by
  match xs, h with
  | y :: ys, _ =>
    show (ys ++ [x]).foldl (fun a b => if b < a then b else a) y = _
    rw [List.foldl_append]
    rfl
theorem Min_int {w : World} {v : Value} {xs : List Int} {K : Value → World → Prop} (h : Ints w v xs) (h63 : xs.length ≤ 1000000000) (h0 : 0 < xs.length)
    (k : K (i64 (least xs)) w) : pCall P 107 [v] K w := by
  refine c107 ?_
  unfold G107
  refine pJoin0_in ?_
  rw [h.len (by simp), pVal_some]
  simp
  rw [if_neg (by omega)]
  refine h.get (i := 0) h0 ?_
  refine loop2_upR 1 xs.length (fun i a w' => w' = w ∧ a = i64 (least (xs.take i))) h0 ⟨rfl, ?_⟩ ?_
  · match xs, h0 with
    | x :: xs, _ => simp [least]
  · rintro i a _ ag hag hm hi ⟨rfl, rfl⟩
    simp
    split
    · rename_i hlt
      refine h.get hlt ?_
      simp
      rw [wrap_succ (by omega)]
      refine hag (i + 1) _ _ (by omega) (by omega) ⟨rfl, congrArg i64 ?_⟩
      rw [List.take_add_one, List.getElem?_eq_getElem hlt]
      exact (least_snoc (by simp; omega)).symm
    · rename_i hge
      rwa [List.take_of_length_le (by omega)]
end Go.Al

namespace Go.Al
open Go Go.Proofs
theorem set_get {α : Type} {l : List α} {i : Nat} {v : α} (h : l[i]? = some v) : l.set i v = l := by
  obtain ⟨hi, rfl⟩ := List.getElem?_eq_some_iff.1 h
  exact List.set_getElem_self hi
theorem flat_get {α : Type} {f : α → List Value} {sz : Nat} (hf : ∀ x, (f x).length = sz) {xs : List α} {i : Nat} {x : α} (hi : xs[i]? = some x) (pre post : List Value) {k : Nat} (hk : k < sz) :
    (pre ++ (xs.flatMap f ++ post))[pre.length + (i * sz + k)]? = (f x)[k]? := by
  obtain ⟨hil, hix⟩ := List.getElem?_eq_some_iff.1 hi
  have hsp : (i + 1) * sz = i * sz + sz := by rw [Nat.add_mul]; omega
  have hle : (i + 1) * sz ≤ xs.length * sz := Nat.mul_le_mul_right _ hil
  rw [List.getElem?_append_right (by omega), Nat.add_sub_cancel_left, List.getElem?_append_left (by rw [length_flatMap hf]; omega), ← List.getElem?_drop, drop_flatMap hf,
    List.drop_eq_getElem_cons hil, List.flatMap_cons, hix, List.getElem?_append_left (by rw [hf]; exact hk)]
theorem flat_set {α : Type} {f : α → List Value} {sz : Nat} (hf : ∀ x, (f x).length = sz) {xs : List α} {i : Nat} (hil : i < xs.length) (y : α) (pre post : List Value) :
    splice (pre ++ (xs.flatMap f ++ post)) (pre.length + i * sz) (f y) = pre ++ ((xs.set i y).flatMap f ++ post) := by
  have hsp : (i + 1) * sz = i * sz + sz := by rw [Nat.add_mul]; omega
  have hle : (i + 1) * sz ≤ xs.length * sz := Nat.mul_le_mul_right _ hil
  have hfl := length_flatMap hf xs
  unfold splice
  rw [List.take_length_add_append, List.take_append_of_le_length (by omega), take_flatMap hf, hf, Nat.add_assoc, List.drop_length_add_append, ← hsp, List.drop_append_of_le_length (by omega), drop_flatMap hf,
    List.set_eq_take_append_cons_drop, if_pos hil, List.flatMap_append, List.flatMap_cons]
  simp [List.append_assoc]
theorem flat_set1 {α : Type} {f : α → List Value} {sz : Nat} (hf : ∀ x, (f x).length = sz) {xs : List α} {i : Nat} {x : α} (hi : xs[i]? = some x) (pre post : List Value) {k : Nat} (hk : k < sz) {v : Value} (y : α) (hy : (f x).set k v = f y) :
    (pre ++ (xs.flatMap f ++ post)).set (pre.length + (i * sz + k)) v = pre ++ ((xs.set i y).flatMap f ++ post) := by
  obtain ⟨hil, hix⟩ := List.getElem?_eq_some_iff.1 hi
  have hsp : (i + 1) * sz = i * sz + sz := by rw [Nat.add_mul]; omega
  have hle : (i + 1) * sz ≤ xs.length * sz := Nat.mul_le_mul_right _ hil
  have hfl := length_flatMap hf xs
  have hc : ((pre ++ (xs.flatMap f ++ post)).drop (pre.length + i * sz)).take sz = f x := by
    apply List.ext_getElem?
    intro j
    rw [List.getElem?_take]
    split
    · rename_i hj
      rw [List.getElem?_drop, Nat.add_assoc, flat_get hf hi pre post hj]
    · rw [List.getElem?_eq_none (by rw [hf]; omega)]
  have hlen : pre.length + i * sz + sz ≤ (pre ++ (xs.flatMap f ++ post)).length := by simp only [List.length_append]; omega
  rw [← Nat.add_assoc, ← splice_one _ _ _ (by omega), splice_sub (vs := [v]) hc hlen (by simp; omega), splice_one _ _ _ (by rw [hf]; exact hk), hy, flat_set hf hil]
theorem flat_set0 {α : Type} {f : α → List Value} {sz : Nat} (hf : ∀ x, (f x).length = sz) {xs : List α} {i : Nat} {x : α} (hi : xs[i]? = some x) {k : Nat} (hk : k < sz) {v : Value} (y : α) (hy : (f x).set k v = f y) :
    (xs.flatMap f).set (i * sz + k) v = (xs.set i y).flatMap f := by
  have := flat_set1 hf hi [] [] hk y hy
  simpa using this
structure TallyM where
  fail : List Int
  ops : Int
  faults : Int
abbrev DrawsM := List TallyM
def cT (x : TallyM × Value) : List Value := [x.2, i64 x.1.ops, i64 x.1.faults]
theorem cT_len (x : TallyM × Value) : (cT x).length = 3 := rfl
/-- Draws in memory: 7 is their block's colour, 8 their slices'. -/
structure DrawsR (w : World) (γ : Col) (b : Nat) (d : DrawsM) : Prop where
  col : γ b = 7
  len : d.length = 4
  small : ∀ t ∈ d, t.fail.length ≤ 1000
  mem : ∃ xs : List (TallyM × Value), xs.map (·.1) = d ∧ Blk w b 155 (xs.flatMap cT) ∧ ∀ x ∈ xs, Ints w x.2 x.1.fail ∧ ∀ c, live x.2 = some c → γ c = 8
theorem DrawsR.keep {w w' : World} {γ γ' : Col} {b : Nat} {d : DrawsM} {C : Nat → Prop} (h : DrawsR w γ b d) (hk : Keep C w γ w' γ') (h7 : ¬ C 7) (h8 : ¬ C 8) : DrawsR w' γ' b d := by
  obtain ⟨h1, h2, h2', xs, h3, h4, h5⟩ := h
  refine ⟨(hk.col b h4.lt).trans h1, h2, h2', xs, h3, hk.blk h4 (by rw [h1]; exact h7), fun x hx => ?_⟩
  obtain ⟨h6, h9⟩ := h5 x hx
  exact ⟨h6.ch hk.ch fun c hc => by rw [h9 c hc]; exact h8, fun c hc => (hk.col c (h6.live_lt hc)).trans (h9 c hc)⟩
def DrawsM.next (d : DrawsM) (who : Int) : Bool × DrawsM :=
  if who < 0 ∨ 4 ≤ who then (false, d) else
  match d[who.toNat]? with
  | none => (false, d)
  | some t =>
    let n := IntKind.i64.wrap (t.ops + 1)
    if n ∈ t.fail then (true, d.set who.toNat ⟨t.fail, n, IntKind.i64.wrap (t.faults + 1)⟩) else (false, d.set who.toNat ⟨t.fail, n, t.faults⟩)
def DrawsM.opsOf (d : DrawsM) (who : Int) : Int := if who < 0 ∨ 4 ≤ who then 0 else match d[who.toNat]? with | some t => t.ops | none => 0
def DrawsM.faultsOf (d : DrawsM) (who : Int) : Int := if who < 0 ∨ 4 ≤ who then 0 else match d[who.toNat]? with | some t => t.faults | none => 0
theorem Draws_of {w : World} {b : Nat} {who : Int} {K : Value → World → Prop}
    (k : (who < 0 ∨ 4 ≤ who → K (.pointer none) w) ∧ (0 ≤ who → who < 4 → K (ptr b (who.toNat * 3)) w)) : pCall P 114 [ptr b 0, i64 who] K w := by
  refine c114 ?_
  unfold G114
  refine pJoin0_in ?_
  simp [binV_ptr_eql]
  by_cases h1 : who < 0
  · simp [h1]; exact k.1 (.inl h1)
  · simp [h1]
    by_cases h2 : 4 ≤ who
    · simp [h2]; exact k.1 (.inr h2)
    · simp [h2]
      rw [if_pos (by omega)]
      simp
      exact k.2 (by omega) (by omega)
theorem DrawsR.at {w : World} {γ : Col} {b : Nat} {d : DrawsM} (h : DrawsR w γ b d) {i : Nat} (hi : i < 4) :
    ∃ t fv l, d[i]? = some t ∧ Blk w b 155 l ∧ l.length = 12 ∧ l[i * 3]? = some fv ∧ l[i * 3 + 1]? = some (i64 t.ops) ∧ l[i * 3 + 2]? = some (i64 t.faults) ∧ Ints w fv t.fail ∧ (∀ c, live fv = some c → γ c = 8) ∧ t.fail.length ≤ 1000 ∧
      (∀ w' ops faults, Ch (· = b) w w' → Blk w' b 155 ((l.set (i * 3 + 1) (i64 ops)).set (i * 3 + 2) (i64 faults)) → DrawsR w' γ b (d.set i ⟨t.fail, ops, faults⟩)) := by
  obtain ⟨h1, h2, h2', xs, h3, h4, h5⟩ := h
  have hxl : xs.length = 4 := by rw [← h2, ← h3, List.length_map]
  have hil : i < xs.length := by omega
  have hix : xs[i]? = some xs[i] := List.getElem?_eq_getElem hil
  have g : ∀ k, k < 3 → (xs.flatMap cT)[i * 3 + k]? = (cT xs[i])[k]? := fun k hk => by
    have := flat_get cT_len hix [] [] hk
    simpa using this
  have hll : (xs.flatMap cT).length = 12 := by rw [length_flatMap cT_len]; omega
  have hdi : d[i]? = some xs[i].1 := by rw [← h3, List.getElem?_map, hix]; rfl
  refine ⟨xs[i].1, xs[i].2, _, hdi, h4, hll, g 0 (by omega), g 1 (by omega), g 2 (by omega), (h5 _ (List.getElem_mem hil)).1, (h5 _ (List.getElem_mem hil)).2, h2' _ (List.mem_of_getElem? hdi), ?_⟩
  intro w' ops faults hch hb
  refine ⟨h1, by simpa using h2, ?_, xs.set i (⟨xs[i].1.fail, ops, faults⟩, xs[i].2), ?_, ?_, ?_⟩
  · intro t ht
    rcases List.mem_or_eq_of_mem_set ht with ht | rfl
    · exact h2' t ht
    · exact h2' xs[i].1 (List.mem_of_getElem? hdi)
  · rw [← h3, List.map_set]
  · rw [flat_set0 cT_len hix (by omega) (⟨xs[i].1.fail, ops, xs[i].1.faults⟩, xs[i].2) rfl,
      flat_set0 cT_len (x := (⟨xs[i].1.fail, ops, xs[i].1.faults⟩, xs[i].2)) (by simp [hil]) (by omega) (⟨xs[i].1.fail, ops, faults⟩, xs[i].2) rfl, List.set_set] at hb
    exact hb
  · intro x hx
    have key : ∀ y ∈ xs, Ints w' y.2 y.1.fail ∧ ∀ c, live y.2 = some c → γ c = 8 := fun y hy => ⟨(h5 y hy).1.ch hch fun c hc he => by
      have hc8 := (h5 y hy).2 c hc
      rw [he, h1] at hc8
      omega, (h5 y hy).2⟩
    rcases List.mem_or_eq_of_mem_set hx with hx | rfl
    · exact key x hx
    · exact key xs[i] (List.getElem_mem hil)
theorem Draws_Next {w : World} {γ : Col} {b : Nat} {d : DrawsM} {who : Int} {K : Value → World → Prop} (h : DrawsR w γ b d)
    (k : ∀ w', Ch (· = b) w w' → DrawsR w' γ b (d.next who).2 → K (.bool (d.next who).1) w') : pCall P 196 [ptr b 0, i64 who] K w := by
  refine c196 ?_
  unfold G196
  refine Draws_of ⟨fun hw => ?_, fun h0 h4 => ?_⟩
  · refine pJoin0_in ?_
    refine pDraw_fr (fun _ => True) fun w1 hf hb _ => ⟨trivial, ?_⟩
    simp [binV_ptr_eql]
    have e : d.next who = (false, d) := by unfold DrawsM.next; rw [if_pos hw]
    rw [e] at k
    exact k w1 hf.ch ⟨h.col, h.len, h.small, by obtain ⟨xs, h3, h4, h5⟩ := h.mem; exact ⟨xs, h3, hb _ _ _ h4, fun x hx => ⟨(h5 x hx).1.fr hf, (h5 x hx).2⟩⟩⟩
  · obtain ⟨t, fv, l, hd, hb, hl, hv0, hv1, hv2, hfv, hfc, hsm, hback⟩ := h.at (i := who.toNat) (by omega)
    refine pJoin0_in ?_
    refine pDraw_fr (fun w' => ∃ l', Blk w' b 155 l' ∧ l'[who.toNat * 3]? = some fv) fun w1 hf hb1 _ => ⟨⟨l, hb1 _ _ _ hb, hv0⟩, ?_⟩
    simp [binV_ptr_eql]
    refine pHld_of (v := fv) (fun w' hS => ?_) ?_
    · obtain ⟨l', h1, h2⟩ := hS
      exact rd1 h1 (by simp; rfl) h2
    have hb2 := hb1 _ _ _ hb
    refine Int64Add hb2 hv1 fun w2 hc2 h2 => ?_
    simp
    refine ⟨⟨_, h2, by rw [List.getElem?_set]; rw [if_neg (by omega)]; exact hv0⟩, ?_⟩
    have hch2 : Ch (· = b) w w2 := hf.ch.trans hc2 fun _ _ h => h
    have hfv2 : Ints w2 fv t.fail := hfv.ch hch2 fun c hc he => by have := hfc c hc; rw [he, h.col] at this; omega
    refine Contains_int hfv2 (by omega) ?_
    unfold DrawsM.next at k
    rw [if_neg (by omega)] at k
    simp only [hd] at k
    by_cases hin : IntKind.i64.wrap (t.ops + 1) ∈ t.fail
    · simp [hin] at k ⊢
      refine Int64Add h2 (x := t.faults) (by rw [List.getElem?_set, if_neg (by omega)]; exact hv2) fun w3 hc3 h3 => ?_
      have hch3 : Ch (· = b) w w3 := hch2.trans hc3 fun _ _ h => h
      exact k w3 hch3 (hback w3 _ _ hch3 h3)
    · simp [hin] at k ⊢
      refine k w2 hch2 (hback w2 _ _ hch2 ?_)
      have e : (l.set (who.toNat * 3 + 1) (i64 (IntKind.i64.wrap (t.ops + 1)))).set (who.toNat * 3 + 2) (i64 t.faults) = l.set (who.toNat * 3 + 1) (i64 (IntKind.i64.wrap (t.ops + 1))) := by
        rw [List.set_comm _ _ (by omega), set_get hv2]
      rw [e]
      exact h2
theorem Draws_Ops {w : World} {γ : Col} {b : Nat} {d : DrawsM} {who : Int} {K : Value → World → Prop} (h : DrawsR w γ b d)
    (k : K (i64 (d.opsOf who)) w) : pCall P 57 [ptr b 0, i64 who] K w := by
  refine c57 ?_
  unfold G57
  refine Draws_of ⟨fun hw => ?_, fun h0 h4 => ?_⟩
  · simp [binV_ptr_neq]
    unfold DrawsM.opsOf at k; rw [if_pos hw] at k; exact k
  · obtain ⟨t, fv, l, hd, hb, hl, hv0, hv1, hv2, hfv, hfc, hsm, hback⟩ := h.at (i := who.toNat) (by omega)
    simp [binV_ptr_neq]
    refine Int64Load hb hv1 ?_
    unfold DrawsM.opsOf at k; rw [if_neg (by omega)] at k; simp only [hd] at k; exact k
theorem Draws_Faults {w : World} {γ : Col} {b : Nat} {d : DrawsM} {who : Int} {K : Value → World → Prop} (h : DrawsR w γ b d)
    (k : K (i64 (d.faultsOf who)) w) : pCall P 56 [ptr b 0, i64 who] K w := by
  refine c56 ?_
  unfold G56
  refine Draws_of ⟨fun hw => ?_, fun h0 h4 => ?_⟩
  · simp [binV_ptr_neq]
    unfold DrawsM.faultsOf at k; rw [if_pos hw] at k; exact k
  · obtain ⟨t, fv, l, hd, hb, hl, hv0, hv1, hv2, hfv, hfc, hsm, hback⟩ := h.at (i := who.toNat) (by omega)
    simp [binV_ptr_neq]
    refine Int64Load hb hv2 ?_
    unfold DrawsM.faultsOf at k; rw [if_neg (by omega)] at k; simp only [hd] at k; exact k
end Go.Al

namespace Go.Al
open Go Go.Proofs
/-- Four lists of numbers. -/
def Four (w : World) (vs : List Value) (fs : List (List Int)) : Prop := vs.length = 4 ∧ fs.length = 4 ∧ ∀ (i : Nat) (v : Value) (l : List Int), vs[i]? = some v → fs[i]? = some l → Ints w v l
theorem Four.fr {w w' : World} {vs : List Value} {fs : List (List Int)} (h : Four w vs fs) (hf : Fr w w') : Four w' vs fs :=
  ⟨h.1, h.2.1, fun i v l h1 h2 => (h.2.2 i v l h1 h2).fr hf⟩
def DrawsM.make (fs : List (List Int)) : Int × DrawsM :=
  if fs.any (fun l => decide (64 < l.length)) then (4, []) else if fs.any (fun l => decide (0 < l.length ∧ least l < 1)) then (5, []) else (0, fs.map fun l => ⟨l, 0, 0⟩)
theorem Draws_New {w : World} {γ : Col} {vs : List Value} {fs : List (List Int)} {K : Value → World → Prop} (hw : Wf w γ) (h : Four w vs fs)
    (k0 : ∀ w', Fr w w' → (DrawsM.make fs).1 ≠ 0 → K (.tuple #[.pointer none, i64 (DrawsM.make fs).1]) w')
    (k : ∀ w' γ' b, Keep (fun _ => False) w γ w' γ' → w.heap.size ≤ b → b < w'.heap.size → DrawsR w' γ' b (DrawsM.make fs).2 → (DrawsM.make fs).1 = 0 → K (.tuple #[ptr b 0, i64 0]) w') :
    pCall P 50 [.agg vs.toArray] K w := by
  refine c50 ?_
  unfold G50
  obtain ⟨hvl, hfl, hvf⟩ := id h
  refine pNew_of vs rfl fun b0 w1 _ _ hf1 hb1 => ?_
  refine pLdN vs hb1 (by simp; rfl) (by simp [hvl]) (by rw [List.drop_zero, List.take_of_length_le (by omega)]) ?_
  have h1 := h.fr hf1
  refine loop1_up 4 (fun i w' => w' = w1 ∧ ∀ (j : Nat) (l : List Int), j < i → fs[j]? = some l → l.length ≤ 64) ⟨rfl, fun j l h => by omega⟩ ?_
  rintro i _ ag hag hi ⟨rfl, hI⟩
  simp
  by_cases hlt : i < 4
  · have hlt' : (i : Int) < 4 := by omega
    rw [if_pos hlt']
    obtain ⟨v, hv⟩ : ∃ v, vs[i]? = some v := ⟨vs[i], List.getElem?_eq_getElem (by omega)⟩
    obtain ⟨l, hl⟩ : ∃ l, fs[i]? = some l := ⟨fs[i], List.getElem?_eq_getElem (by omega)⟩
    have hs := h1.2.2 i v l hv hl
    refine pIndexA v und_25 lay_24 (by omega) (by omega) (by simpa [partV] using hv) ?_
    rw [hs.len (by simp), pVal_some]
    simp
    split
    · rename_i hgt
      have he : DrawsM.make fs = (4, []) := by
        unfold DrawsM.make
        rw [if_pos (by rw [List.any_eq_true]; exact ⟨l, List.mem_of_getElem? hl, by simp; omega⟩)]
      have := k0 _ hf1 (by rw [he]; simp)
      rw [he] at this
      exact this
    · rename_i hle
      rw [wrap_succ (by omega)]
      refine hag (i + 1) _ (by omega) (by omega) ⟨rfl, fun j l' hj hl' => ?_⟩
      by_cases hji : j = i
      · subst hji; rw [hl] at hl'; cases hl'; omega
      · exact hI j l' (by omega) hl'
  · have hge : ¬ ((i : Int) < 4) := by omega
    rw [if_neg hge]
    obtain rfl : i = 4 := by omega
    have hsmall : ∀ l ∈ fs, l.length ≤ 64 := fun l hl => by
      obtain ⟨j, hj⟩ := List.getElem?_of_mem hl
      exact hI j l (by have := (List.getElem?_eq_some_iff.1 hj).1; omega) hj
    have e1 : fs.any (fun l => decide (64 < l.length)) = false := by
      rw [List.any_eq_false]; intro l hl; have := hsmall l hl; simp; omega
    simp [buildV_app, fillL, fillA, splice]
    refine pNew_of [.slice none 0 0, i64 0, i64 0, .slice none 0 0, i64 0, i64 0, .slice none 0 0, i64 0, i64 0, .slice none 0 0, i64 0, i64 0] rfl fun b w2 hb hbl hf2 h2 => ?_
    refine pLdN vs (hf2.blk hb1 fun h => h) (by simp; rfl) (by simp [hvl]) (by rw [List.drop_zero, List.take_of_length_le (by omega)]) ?_
    have h2' := h1.fr hf2
    have hbw : w.heap.size ≤ b := by rw [hb]; exact hf1.size
    refine loop1_up 4 (fun i w' => Fr w w' ∧ w2.heap.size ≤ w'.heap.size ∧ (∀ (j : Nat) (l : List Int), j < i → fs[j]? = some l → ¬ (0 < l.length ∧ least l < 1)) ∧ ∃ xs : List (TallyM × Value), xs.length = 4 ∧ Blk w' b 155 (xs.flatMap cT) ∧
      (∀ (j : Nat) (x : TallyM × Value), xs[j]? = some x → x.1.ops = 0 ∧ x.1.faults = 0 ∧ (j < i → fs[j]? = some x.1.fail ∧ Ints w' x.2 x.1.fail ∧ Fresh w x.2 ∧ ∀ c, live x.2 = some c → c ≠ b))) ?_ ?_
    · refine ⟨hf1.trans hf2, Nat.le_refl _, fun j l hj => by omega, List.replicate 4 (⟨[], 0, 0⟩, .slice none 0 0), rfl, h2, fun j x hx => ?_⟩
      have := List.eq_of_mem_replicate (List.mem_of_getElem? hx)
      subst this
      exact ⟨rfl, rfl, fun hj => by omega⟩
    · rintro i w3 ag hag hi ⟨hf3, hsz3, hne, xs, hxl, hx, hxs⟩
      simp
      by_cases hlt : i < 4
      · have hlt' : (i : Int) < 4 := by omega
        rw [if_pos hlt']
        obtain ⟨v, hv⟩ : ∃ v, vs[i]? = some v := ⟨vs[i], List.getElem?_eq_getElem (by omega)⟩
        obtain ⟨l, hl⟩ : ∃ l, fs[i]? = some l := ⟨fs[i], List.getElem?_eq_getElem (by omega)⟩
        have hs := (h.fr hf3).2.2 i v l hv hl
        have hl64 := hsmall l (List.mem_of_getElem? hl)
        refine pIndexA v und_25 lay_24 (by omega) (by omega) (by simpa [partV] using hv) ?_
        refine join0 (fun w' => w' = w3 ∧ ¬ (0 < l.length ∧ least l < 1)) ?_ ?_
        · rintro _ ⟨rfl, hnl⟩
          refine pDraw_fr (fun _ => True) fun w4 hf4 hb4 hsz4 => ⟨trivial, ?_⟩
          have hf4' := hf3.trans hf4
          have hs4 := (h.fr hf4').2.2 i v l hv hl
          refine Clone_int hs4 (by omega) fun v' w5 hs5 hf5 hfresh5 => ?_
          rw [if_pos hlt']
          simp
          obtain ⟨x, hxi⟩ : ∃ x, xs[i]? = some x := ⟨xs[i], List.getElem?_eq_getElem (by omega)⟩
          have hx5 := hf5.blk (hb4 _ _ _ hx) fun h => h
          refine pSt1 hx5 (by simp; rfl) (by obtain ⟨a, c, rfl⟩ := hs5.2.shape; rfl) (by obtain ⟨a, c, rfl⟩ := hs5.2.shape; rfl) (by rw [length_flatMap cT_len]; omega) fun w6 hc6 hb6 => ?_
          have hset := flat_set0 (v := v') cT_len hxi (k := 0) (by omega) (⟨l, 0, 0⟩, v') (by have := hxs i x hxi; simp [cT, this.1, this.2.1])
          simp only [Nat.add_zero] at hset
          rw [hset] at hb6
          have hb5 : b < w5.heap.size := hx5.lt
          have hfr6 : Fr w w6 := hf4'.trans hf5 |>.trans' hbw hc6
          rw [wrap_succ (by omega)]
          refine hag (i + 1) _ (by omega) (by omega) ⟨hfr6, ?_, ?_, xs.set i (⟨l, 0, 0⟩, v'), by simpa using hxl, hb6, ?_⟩
          · exact Nat.le_trans hsz3 (Nat.le_trans hf4.size (Nat.le_trans hf5.size hc6.size))
          · intro j l' hj hl'
            by_cases hji : j = i
            · subst hji; rw [hl] at hl'; cases hl'; exact hnl
            · exact hne j l' (by omega) hl'
          · intro j y hy
            rw [List.getElem?_set] at hy
            split at hy
            · rename_i hij
              subst hij
              rw [if_pos (by omega)] at hy
              cases hy
              have hlv : ∀ c, live v' = some c → c ≠ b := fun c hc he => by
                have := hfresh5 c hc
                have hbb : b < w4.heap.size := (hb4 _ _ _ hx).lt
                omega
              exact ⟨rfl, rfl, fun _ => ⟨hl, hs5.ch hc6 fun c hc => hlv c hc, fun c hc => Nat.le_trans hf4'.size (hfresh5 c hc), hlv⟩⟩
            · rename_i hij
              obtain ⟨a1, a2, a3⟩ := hxs j y hy
              refine ⟨a1, a2, fun hj => ?_⟩
              obtain ⟨a4, a5, a6, a7⟩ := a3 (by omega)
              exact ⟨a4, ((a5.fr hf4).fr hf5).ch hc6 fun c hc => a7 c hc, a6, a7⟩
        · intro J hJ
          rw [hs.len (by simp), pVal_some]
          simp
          by_cases hpos : 0 < l.length
          · simp [hpos]
            refine Min_int hs (by omega) hpos ?_
            simp
            split
            · rename_i hm
              have he : DrawsM.make fs = (5, []) := by
                unfold DrawsM.make
                rw [if_neg (by rw [e1]; simp), if_pos (by rw [List.any_eq_true]; exact ⟨l, List.mem_of_getElem? hl, by simp; omega⟩)]
              have := k0 w3 hf3 (by rw [he]; simp)
              rw [he] at this
              exact this
            · rename_i hm
              exact hJ _ ⟨rfl, by omega⟩
          · simp [hpos]
            exact hJ _ ⟨rfl, by omega⟩
      · have hge : ¬ ((i : Int) < 4) := by omega
        rw [if_neg hge]
        obtain rfl : i = 4 := by omega
        have e2 : fs.any (fun l => decide (0 < l.length ∧ least l < 1)) = false := by
          rw [List.any_eq_false]; intro l hl
          obtain ⟨j, hj⟩ := List.getElem?_of_mem hl
          have := hne j l (by have := (List.getElem?_eq_some_iff.1 hj).1; omega) hj
          simpa using this
        have he : DrawsM.make fs = (0, fs.map fun l => ⟨l, 0, 0⟩) := by
          unfold DrawsM.make
          rw [if_neg (by rw [e1]; simp), if_neg (by rw [e2]; simp)]
        have hbl3 : b < w3.heap.size := hx.lt
        refine k w3 ((γ.fill w.heap.size w3.heap.size 8).paint b 7) b (((hf3.keep hw).fill (Nat.le_refl _) (Nat.le_refl _)).paint hbw hbl3) hbw hbl3 ?_ (by rw [he])
        rw [he]
        refine ⟨Col.paint_same, by simpa using hfl, ?_, xs, ?_, hx, ?_⟩
        · intro t ht
          obtain ⟨l, hl, rfl⟩ := List.mem_map.1 ht
          have := hsmall l hl
          simp only; omega
        · apply List.ext_getElem?
          intro j
          rw [List.getElem?_map, List.getElem?_map]
          by_cases hj : j < 4
          · obtain ⟨x, hxj⟩ : ∃ x, xs[j]? = some x := ⟨xs[j], List.getElem?_eq_getElem (by omega)⟩
            obtain ⟨a1, a2, a3⟩ := hxs j x hxj
            obtain ⟨a4, _⟩ := a3 hj
            rw [hxj, a4]
            obtain ⟨⟨f, o, g⟩, v⟩ := x
            simp only at a1 a2
            subst a1; subst a2
            rfl
          · rw [List.getElem?_eq_none (by omega), List.getElem?_eq_none (by omega)]; rfl
        · intro x hxm
          obtain ⟨j, hj⟩ := List.getElem?_of_mem hxm
          have hj4 : j < 4 := by have := (List.getElem?_eq_some_iff.1 hj).1; omega
          obtain ⟨a1, a2, a3⟩ := hxs j x hj
          obtain ⟨a4, a5, a6, a7⟩ := a3 hj4
          refine ⟨a5, fun c hc => ?_⟩
          rw [Col.paint_other (a7 c hc), Col.fill_in (a6 c hc) (a5.live_lt hc)]
end Go.Al

namespace Go.Al
open Go Go.Proofs
abbrev sV (l : List UInt8) : Value := .string ⟨l.toArray⟩
structure PageM where
  st : Int
  beside : List UInt8
  data : List UInt8
structure BlockM where
  pages : List PageM
  next : Nat
  bad : Bool
  erases : Int
structure Geo where
  channels : Int
  dies : Int
  blocks : Int
  pages : Int
  deriving DecidableEq
def Geo.cells (g : Geo) : List Value := [i64 g.channels, i64 g.dies, i64 g.blocks, i64 g.pages]
structure ArrM where
  pw : PowerM
  dr : DrawsM
  g : Geo
  bl : List BlockM
/-- Where an array's parts stand. -/
structure ArrA where
  n : Nat
  p : Nat
  d : Nat
def cP (x : PageM × Value) : List Value := [i64 x.1.st, x.2, sV x.1.data]
theorem cP_len (x : PageM × Value) : (cP x).length = 3 := rfl
def cBk (x : BlockM × Value) : List Value := [x.2, i64 x.1.next, .bool x.1.bad, i64 x.1.erases]
theorem cBk_len (x : BlockM × Value) : (cBk x).length = 4 := rfl
def PagesR (w : World) (γ : Col) (c : Nat) (v : Value) (pages : List PageM) : Prop :=
  ∃ ys : List (PageM × Value), ys.map (·.1) = pages ∧ Sl w 3 cP v ys ∧ (∀ b, live v = some b → γ b = c) ∧ ∀ y ∈ ys, Bytes w y.2 y.1.beside ∧ ∀ b, live y.2 = some b → γ b = 4
theorem PagesR.keep {w w' : World} {γ γ' : Col} {c : Nat} {v : Value} {pages : List PageM} {C : Nat → Prop} (h : PagesR w γ c v pages) (hk : Keep C w γ w' γ') (hc : ¬ C c) (h4 : ¬ C 4) : PagesR w' γ' c v pages := by
  obtain ⟨ys, h1, h2, h3, h5⟩ := h
  refine ⟨ys, h1, h2.ch hk.ch fun b hb => by rw [h3 b hb]; exact hc, fun b hb => (hk.col b (h2.live_lt hb)).trans (h3 b hb), fun y hy => ?_⟩
  obtain ⟨h6, h7⟩ := h5 y hy
  exact ⟨h6.ch hk.ch fun b hb => by rw [h7 b hb]; exact h4, fun b hb => (hk.col b (h6.live_lt hb)).trans (h7 b hb)⟩
theorem PagesR.len {w : World} {γ : Col} {c : Nat} {v : Value} {pages : List PageM} (h : PagesR w γ c v pages) {t : TypeId} (ht : kindP P t = 5) : lenBV P #[t] [v] = some (i64 pages.length) := by
  obtain ⟨ys, h1, h2, h3, h5⟩ := h
  rw [h2.len ht, ← h1, List.length_map]
theorem PagesR.at {w : World} {γ : Col} {c : Nat} {v : Value} {pages : List PageM} (h : PagesR w γ c v pages) {i : Nat} {p : PageM} (hi : pages[i]? = some p) :
    ∃ b o T l bv, live v = some b ∧ γ b = c ∧ Blk w b T l ∧ (∀ t k, idxP P t = some (none, 3) → indexV P t v (.int k i) = some (ptr b o)) ∧ o + 3 ≤ l.length ∧ (l.drop o).take 3 = [i64 p.st, bv, sV p.data] ∧
      Bytes w bv p.beside ∧ (∀ b, live bv = some b → γ b = 4) ∧
      (∀ (C : Nat → Prop) w1 γ1 p' bv' l1, Keep C w γ w1 γ1 → ¬ C 4 → Blk w1 b T l1 → l1 = splice l o [i64 p'.st, bv', sV p'.data] → Bytes w1 bv' p'.beside → (∀ b, live bv' = some b → γ1 b = 4) → PagesR w1 γ1 c v (pages.set i p')) := by
  obtain ⟨ys, h1, h2, h3, h5⟩ := h
  have hil : i < ys.length := by rw [← List.length_map (f := (·.1)), h1]; exact (List.getElem?_eq_some_iff.1 hi).1
  have hyi : ys[i]? = some ys[i] := List.getElem?_eq_getElem hil
  have hp : ys[i].1 = p := by
    have : (ys.map (·.1))[i]? = some ys[i].1 := by rw [List.getElem?_map, hyi]; rfl
    rw [h1, hi] at this
    exact (Option.some.inj this).symm
  obtain ⟨b, o, T, l, hlv, hb, hx, ho, hc, hback⟩ := Sl.at h2 hyi (by omega)
  refine ⟨b, o, T, l, ys[i].2, hlv, h3 b hlv, hb, hx, ho, by rw [hc]; simp only [cP, hp], by rw [← hp]; exact (h5 _ (List.getElem_mem hil)).1, (h5 _ (List.getElem_mem hil)).2, ?_⟩
  intro C w1 γ1 p' bv' l1 hk h4 hb1 hl1 hbs hbc
  refine ⟨ys.set i (p', bv'), by rw [List.map_set, h1], hback w1 (p', bv') l1 hb1 hl1, fun b' hb' => by rw [hk.col b' (h2.live_lt hb')]; exact h3 b' hb', fun y hy => ?_⟩
  rcases List.mem_or_eq_of_mem_set hy with hy | rfl
  · obtain ⟨h6, h7⟩ := h5 y hy
    exact ⟨h6.ch hk.ch fun b hb => by rw [h7 b hb]; exact h4, fun b hb => (hk.col b (h6.live_lt hb)).trans (h7 b hb)⟩
  · exact ⟨hbs, hbc⟩
def BlocksR (w : World) (γ : Col) (v : Value) (bl : List BlockM) : Prop :=
  ∃ xs : List (BlockM × Value), xs.map (·.1) = bl ∧ Sl w 4 cBk v xs ∧ (∀ b, live v = some b → γ b = 2) ∧ ∀ i x, xs[i]? = some x → PagesR w γ (100 + i) x.2 x.1.pages
theorem BlocksR.keep {w w' : World} {γ γ' : Col} {v : Value} {bl : List BlockM} {C : Nat → Prop} (h : BlocksR w γ v bl) (hk : Keep C w γ w' γ') (h2 : ¬ C 2) (h4 : ¬ C 4) (h100 : ∀ i, ¬ C (100 + i)) : BlocksR w' γ' v bl := by
  obtain ⟨xs, h1, h3, h5, h6⟩ := h
  exact ⟨xs, h1, h3.ch hk.ch fun b hb => by rw [h5 b hb]; exact h2, fun b hb => (hk.col b (h3.live_lt hb)).trans (h5 b hb), fun i x hx => (h6 i x hx).keep hk (h100 i) h4⟩
theorem BlocksR.len {w : World} {γ : Col} {v : Value} {bl : List BlockM} (h : BlocksR w γ v bl) {t : TypeId} (ht : kindP P t = 5) : lenBV P #[t] [v] = some (i64 bl.length) := by
  obtain ⟨ys, h1, h2, h3, h5⟩ := h
  rw [h2.len ht, ← h1, List.length_map]
theorem BlocksR.at {w : World} {γ : Col} {v : Value} {bl : List BlockM} (h : BlocksR w γ v bl) {i : Nat} {x : BlockM} (hi : bl[i]? = some x) :
    ∃ b o T l pv, (γ b = 2 ∧ live v = some b) ∧ Blk w b T l ∧ (∀ t k, idxP P t = some (none, 4) → indexV P t v (.int k i) = some (ptr b o)) ∧ o + 4 ≤ l.length ∧ (l.drop o).take 4 = cBk (x, pv) ∧
      PagesR w γ (100 + i) pv x.pages ∧
      (∀ (C : Nat → Prop) w1 γ1 x' {pv' : Value} l1, Keep C w γ w1 γ1 → ¬ C 4 → (∀ j, j ≠ i → ¬ C (100 + j)) → Blk w1 b T l1 → l1 = splice l o (cBk (x', pv')) → PagesR w1 γ1 (100 + i) pv' x'.pages → BlocksR w1 γ1 v (bl.set i x')) := by
  obtain ⟨xs, h1, h2, h3, h5⟩ := h
  have hil : i < xs.length := by rw [← List.length_map (f := (·.1)), h1]; exact (List.getElem?_eq_some_iff.1 hi).1
  have hxi : xs[i]? = some xs[i] := List.getElem?_eq_getElem hil
  have hp : xs[i].1 = x := by
    have : (xs.map (·.1))[i]? = some xs[i].1 := by rw [List.getElem?_map, hxi]; rfl
    rw [h1, hi] at this
    exact (Option.some.inj this).symm
  obtain ⟨b, o, T, l, hlv, hb, hx, ho, hc, hback⟩ := Sl.at h2 hxi (by omega)
  refine ⟨b, o, T, l, xs[i].2, ⟨h3 b hlv, hlv⟩, hb, hx, ho, by rw [hc]; simp only [cBk, hp], by rw [← hp]; exact h5 i _ hxi, ?_⟩
  intro C w1 γ1 x' pv' l1 hk h4 h100 hb1 hl1 hpg
  refine ⟨xs.set i (x', pv'), by rw [List.map_set, h1], hback w1 (x', pv') l1 hb1 hl1, fun b' hb' => by rw [hk.col b' (h2.live_lt hb')]; exact h3 b' hb', fun j y hy => ?_⟩
  rw [List.getElem?_set] at hy
  split at hy
  · rename_i hij
    subst hij
    cases hy
    exact hpg
  · rename_i hij
    exact (h5 j y hy).keep hk (h100 j fun h => hij h.symm) h4
/-- An array that may be. -/
structure ArrM.ok (a : ArrM) : Prop where
  blocks : a.bl.length ≤ 64
  block : ∀ x ∈ a.bl, x.pages.length ≤ 16 ∧ x.next ≤ x.pages.length ∧ ∀ p ∈ x.pages, p.beside.length ≤ 32 ∧ p.data.length ≤ 160
/-- The array in memory. -/
structure ArrR (w : World) (γ : Col) (A : ArrA) (a : ArrM) : Prop where
  cn : γ A.n = 1
  cp : γ A.p = 6
  power : PowerR w A.p a.pw
  draws : DrawsR w γ A.d a.dr
  mem : ∃ v, Blk w A.n 127 (a.g.cells ++ [ptr A.p 0, ptr A.d 0, v]) ∧ BlocksR w γ v a.bl
  ok : a.ok
/-- The array's colours. -/
def arrC (c : Nat) : Prop := 1 ≤ c ∧ c < 1000
theorem ArrR.keep {w w' : World} {γ γ' : Col} {A : ArrA} {a : ArrM} {C : Nat → Prop} (h : ArrR w γ A a) (hk : Keep C w γ w' γ') (hC : ∀ c, (c < 9 ∨ 100 ≤ c) → 1 ≤ c → c < 1000 → ¬ C c) : ArrR w' γ' A a := by
  obtain ⟨h1, h2, h3, h4, ⟨v, h5, xs, h6⟩, h7⟩ := h
  have hb : BlocksR w γ v a.bl := ⟨xs, h6⟩
  refine ⟨(hk.col _ h5.lt).trans h1, (hk.col _ h3.lt).trans h2, hk.blk h3 (by rw [h2]; exact hC 6 (by omega) (by omega) (by omega)), h4.keep hk (hC 7 (by omega) (by omega) (by omega)) (hC 8 (by omega) (by omega) (by omega)),
    ⟨v, hk.blk h5 (by rw [h1]; exact hC 1 (by omega) (by omega) (by omega)), ?_⟩, h7⟩
  obtain ⟨g1, g2, g3, g4⟩ := h6
  refine ⟨xs, g1, g2.ch hk.ch fun b hb => by rw [g3 b hb]; exact hC 2 (by omega) (by omega) (by omega), fun b hb => (hk.col b (g2.live_lt hb)).trans (g3 b hb), fun i x hx => ?_⟩
  have hi : i < 64 := by
    have : xs.length = a.bl.length := by rw [← g1, List.length_map]
    have := (List.getElem?_eq_some_iff.1 hx).1
    have := h7.blocks
    omega
  exact (g4 i x hx).keep hk (hC (100 + i) (by omega) (by omega) (by omega)) (hC 4 (by omega) (by omega) (by omega))
theorem ArrR.at {w : World} {γ : Col} {A : ArrA} {a : ArrM} {i : Int} {K : Value → World → Prop} (h : ArrR w γ A a)
    (k : (i < 0 ∨ a.bl.length ≤ i → K (.pointer none) w) ∧ (∀ b o x v, 0 ≤ i → a.bl[i.toNat]? = some x → Blk w A.n 127 (a.g.cells ++ [ptr A.p 0, ptr A.d 0, v]) → BlocksR w γ v a.bl →
      (∀ t k, idxP P t = some (none, 4) → indexV P t v (.int k i.toNat) = some (ptr b o)) → K (ptr b o) w)) : pCall P 89 [ptr A.n 0, i64 i] K w := by
  refine c89 ?_
  unfold G89
  obtain ⟨v, h5, h6⟩ := h.mem
  refine pJoin0_in ?_
  simp [binV_ptr_eql]
  by_cases h1 : i < 0
  · simp [h1]; exact k.1 (.inl h1)
  · simp [h1]
    refine pLd1 h5 lay_125 rfl ?_
    rw [h6.len (by simp), pVal_some]
    by_cases h2 : a.bl.length ≤ i
    · simp [h2]; exact k.1 (.inr h2)
    · simp [h2]
      refine pLd1 h5 lay_125 rfl ?_
      obtain ⟨n, rfl⟩ : ∃ n : Nat, i = n := ⟨i.toNat, by omega⟩
      obtain ⟨x, hx⟩ : ∃ x, a.bl[n]? = some x := ⟨a.bl[n], List.getElem?_eq_getElem (by omega)⟩
      obtain ⟨b, o, T, l, pv, _, _, hidx, _⟩ := h6.at hx
      rw [hidx _ _ (by simp), pVal_some]
      exact k.2 b o x v (by omega) (by simpa using hx) h5 h6 (by simpa using hidx)
def ArrM.blk (a : ArrM) (i : Int) : Option BlockM := if i < 0 then none else a.bl[i.toNat]?
def ArrM.bad (a : ArrM) (i : Int) : Bool := match a.blk i with | some x => x.bad | none => false
def ArrM.next (a : ArrM) (i : Int) : Nat := match a.blk i with | some x => x.next | none => 0
def ArrM.blank (a : ArrM) (i : Int) : Bool := match a.blk i with | some x => decide (x.next = 0) | none => false
theorem ArrM.blk_none {a : ArrM} {i : Int} (h : i < 0 ∨ a.bl.length ≤ i) : a.blk i = none := by
  unfold ArrM.blk
  split
  · rfl
  · exact List.getElem?_eq_none (by omega)
theorem ArrM.blk_some {a : ArrM} {i : Int} {x : BlockM} (h0 : 0 ≤ i) (h : a.bl[i.toNat]? = some x) : a.blk i = some x := by
  unfold ArrM.blk
  rw [if_neg (by omega), h]
/-- A block's variable. -/
theorem ArrR.at2 {w : World} {γ : Col} {A : ArrA} {a : ArrM} {i : Int} {K : Value → World → Prop} (h : ArrR w γ A a)
    (k0 : a.blk i = none → (i < 0 ∨ a.bl.length ≤ i) → K (.pointer none) w)
    (k : ∀ b o x T l pv v, 0 ≤ i → i < 64 → a.blk i = some x → a.bl[i.toNat]? = some x → γ b = 2 → Blk w b T l → o + 4 ≤ l.length → (l.drop o).take 4 = cBk (x, pv) → PagesR w γ (100 + i.toNat) pv x.pages →
      Blk w A.n 127 (a.g.cells ++ [ptr A.p 0, ptr A.d 0, v]) → BlocksR w γ v a.bl →
      (∀ (C : Nat → Prop) w1 γ1 x' {pv' : Value} l1, Keep C w γ w1 γ1 → ¬ C 4 → (∀ j, j ≠ i.toNat → ¬ C (100 + j)) → Blk w1 b T l1 → l1 = splice l o (cBk (x', pv')) → PagesR w1 γ1 (100 + i.toNat) pv' x'.pages → BlocksR w1 γ1 v (a.bl.set i.toNat x')) →
      K (ptr b o) w) : pCall P 89 [ptr A.n 0, i64 i] K w := by
  refine h.at ⟨fun hi => k0 (ArrM.blk_none hi) hi, fun b o x v h0 hx h5 h6 hidx => ?_⟩
  obtain ⟨b', o', T, l, pv, g1, g2, g3, g4, g5, g6, g7⟩ := h6.at hx
  have e := hidx 125 .i64 (by simp)
  rw [g3 125 .i64 (by simp)] at e
  cases e
  have hlt : i < 64 := by have := (List.getElem?_eq_some_iff.1 hx).1; have := h.ok.blocks; omega
  exact k b o x T l pv v h0 hlt (ArrM.blk_some h0 hx) hx g1.1 g2 g4 g5 g6 h5 h6 g7
theorem Nand_Bad {w : World} {γ : Col} {A : ArrA} {a : ArrM} {i : Int} {K : Value → World → Prop} (h : ArrR w γ A a) (k : K (.bool (a.bad i)) w) : pCall P 26 [ptr A.n 0, i64 i] K w := by
  refine c26 ?_
  unfold G26
  refine h.at2 (fun hn hi => ?_) fun b o x T l pv v h0 h64 hx _ _ hb ho hc hpg h5 h6 _ => ?_
  · simp [binV_ptr_neq]
    unfold ArrM.bad at k; rw [hn] at k; exact k
  · simp [binV_ptr_neq]
    refine pLd1 hb lay_4 (by rw [take_at hc (by omega)]; rfl) ?_
    unfold ArrM.bad at k; rw [hx] at k; exact k
theorem Nand_Next {w : World} {γ : Col} {A : ArrA} {a : ArrM} {i : Int} {K : Value → World → Prop} (h : ArrR w γ A a) (k : K (i64 (a.next i)) w) : pCall P 173 [ptr A.n 0, i64 i] K w := by
  refine c173 ?_
  unfold G173
  refine h.at2 (fun hn hi => ?_) fun b o x T l pv v h0 h64 hx _ _ hb ho hc hpg h5 h6 _ => ?_
  · simp [binV_ptr_neq]
    unfold ArrM.next at k; rw [hn] at k; exact k
  · simp [binV_ptr_neq]
    refine pLd1 hb lay_3 (by rw [take_at hc (by omega)]; rfl) ?_
    unfold ArrM.next at k; rw [hx] at k; exact k
theorem Nand_Blank {w : World} {γ : Col} {A : ArrA} {a : ArrM} {i : Int} {K : Value → World → Prop} (h : ArrR w γ A a) (k : K (.bool (a.blank i)) w) : pCall P 36 [ptr A.n 0, i64 i] K w := by
  refine c36 ?_
  unfold G36
  refine h.at2 (fun hn hi => ?_) fun b o x T l pv v h0 h64 hx _ _ hb ho hc hpg h5 h6 _ => ?_
  · simp [binV_ptr_neq]
    unfold ArrM.blank at k; rw [hn] at k; exact k
  · simp [binV_ptr_neq]
    refine pLd1 hb lay_3 (by rw [take_at hc (by omega)]; rfl) ?_
    unfold ArrM.blank at k; rw [hx] at k
    have e : decide ((x.next : Int) = 0) = decide (x.next = 0) := by simp
    simpa [e] using k
theorem Nand_Blocks {w : World} {γ : Col} {A : ArrA} {a : ArrM} {K : Value → World → Prop} (h : ArrR w γ A a) (k : K (i64 a.bl.length) w) : pCall P 25 [ptr A.n 0] K w := by
  refine c25 ?_
  unfold G25
  obtain ⟨v, h5, h6⟩ := h.mem
  simp [binV_ptr_eql]
  refine pLd1 h5 lay_125 rfl ?_
  rw [h6.len (by simp), pVal_some]
  exact k
def Geo.val (g : Geo) : Value := .agg g.cells.toArray
theorem Nand_Geometry {w : World} {γ : Col} {A : ArrA} {a : ArrM} {K : Value → World → Prop} (h : ArrR w γ A a) (k : ∀ w', Fr w w' → K a.g.val w') : pCall P 129 [ptr A.n 0] K w := by
  refine c129 ?_
  unfold G129
  obtain ⟨v, h5, h6⟩ := h.mem
  refine pAlloc_of [i64 0, i64 0, i64 0, i64 0] zero_23 rfl fun b w1 hb hbl hf h1 => ?_
  simp [binV_ptr_eql]
  refine pLdN a.g.cells (hf.blk h5 fun h => h) lay_23 (by simp [Geo.cells]) (by rfl) ?_
  refine pStN a.g.cells h1 lay_23 rfl rfl (by simp) rfl fun w2 hc2 h2 => ?_
  have hfr : Fr w w2 := Ch.new hf hb hc2
  exact pResN h2 lay_23 rfl (k w2 hfr)
end Go.Al
