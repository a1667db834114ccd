/- HouseNone: a nil house is down and has nothing; this text: part 3 of the proof, no condition. -/
import Derived.Test.YtaoepimoakcdaaaGreatAl2
namespace Go.Al
open Go Go.Proofs
/-- gosem.cut.init -/
@[irreducible] def G2 (R : Value → World → Prop) : World → Prop :=
 pExt P 1 [] fun _ =>
 R (.tuple #[])
theorem tr2 (R : Value → World → Prop) : trF P ag [] [] Tryz.f2 [] R = G2 R := by kernel_rfl
theorem hb2 : hasBody P 2 = true := by kernel_rfl
theorem c2 {K : Value → World → Prop} {w : World} (h : G2 K w) : pCall P 2 [] K w := pCall_of mixed Tryz.func2 hb2 (tr2 K) h
/-- almshouse/almshouselaw21.HouseErrors -/
@[irreducible] def G3 (v0 v1 v2 : Value) (R : Value → World → Prop) : World → Prop :=
 pNew 27 v0 fun v3 =>
 pNew 32 v2 fun v5 =>
 pCall P 8 [] fun v22 =>
 pVal (unV .not v22) fun v23 =>
 pIf v23
 (R (.bool false))
 (pJoin0 (fun J5 =>
 pCall P 9 [v1] fun v25 =>
 pVal (unV .not v25) fun v26 =>
 pGuard v26 false
 (pVal (fieldV P 27 v3 2) fun v28 =>
 pLd P 24 v28 fun v29 =>
 pVal (lenBV P #[24] [v29]) fun v30 =>
 pVal (binV P .gtr 3 v30 (.int .i64 70)) fun v31 =>
 pGuard v31 false
 (pVal (fieldV P 27 v3 1) fun v34 =>
 pLd P 25 v34 fun v35 =>
 pCall P 10 [v35] fun v36 =>
 pVal (binV P .neq 35 v36 (.int .i64 0)) fun v37 =>
 pGuard v37 false
 (pVal (fieldV P 27 v3 0) fun v40 =>
 pLd P 23 v40 fun v41 =>
 pVal (fieldV P 27 v3 2) fun v42 =>
 pLd P 24 v42 fun v43 =>
 pCall P 11 [v41, v43] fun v44 =>
 pVal (binV P .neq 35 v44 (.int .i64 0)) fun v45 =>
 pIf v45
 (R (.bool true))
 (J5))
 (pIf (.bool true)
 (R (.bool true))
 (J5)))
 (pIf (.bool true)
 (R (.bool true))
 (J5)))
 (pIf (.bool true)
 (R (.bool true))
 (J5)))
 (pLd P 27 v3 fun v48 =>
 pCall P 12 [v48] fun v49 =>
 pVal (extractV v49 0) fun v50 =>
 pVal (extractV v49 1) fun v51 =>
 pVal (lenBV P #[28] [v1]) fun v53 =>
 pLoop1 (fun ag7 v54 =>
 pVal (binV P .lss 3 v54 v53) fun v55 =>
 pIf v55
 (pVal (indexV P 28 v1 v54) fun v56 =>
 pLd P 32 v56 fun v57 =>
 pAlloc P 32 fun v10 =>
 pSt P 32 v10 v57 <|
 pLd P 32 v10 fun v59 =>
 pCall P 13 [v50, v59] fun _ =>
 pVal (binV P .add 3 v54 (.int .i64 1)) fun v61 =>
 ag7 v61)
 (pVal (binV P .neq 35 v51 (.int .i64 0)) fun v63 =>
 pIf v63
 (R (.bool false))
 (pCall P 14 [v50] fun v65 =>
 pVal (unV .not v65) fun v66 =>
 pIf v66
 (pCall P 15 [v50, (.int .i64 0)] fun v69 =>
 pVal (extractV v69 0) fun v70 =>
 pVal (extractV v69 1) fun v71 =>
 pAlloc P 43 fun v11 =>
 pSt P 43 v11 v70 <|
 pCall P 16 [v50, (.int .i64 0), (.int .i64 0)] fun v74 =>
 pVal (extractV v74 0) fun _ =>
 pVal (extractV v74 1) fun v76 =>
 pVal (fieldV P 32 v5 1) fun v78 =>
 pLd P 3 v78 fun v79 =>
 pVal (fieldV P 32 v5 3) fun v80 =>
 pLd P 3 v80 fun v81 =>
 pVal (fieldV P 32 v5 4) fun v82 =>
 pLd P 3 v82 fun v83 =>
 pCall P 17 [v50, v79, v81, v83] fun v84 =>
 pVal (binV P .eql 35 v84 (.int .i64 12)) fun v85 =>
 pGuard v85 true
 (pVal (fieldV P 32 v5 1) fun v88 =>
 pLd P 3 v88 fun v89 =>
 pCall P 18 [v50, v89] fun v90 =>
 pVal (binV P .eql 35 v90 (.int .i64 12)) fun v91 =>
 pGuard v91 true
 (pVal (fieldV P 32 v5 1) fun v95 =>
 pLd P 3 v95 fun v96 =>
 pVal (fieldV P 32 v5 3) fun v97 =>
 pLd P 3 v97 fun v98 =>
 pCall P 19 [v50, v96, v98] fun v99 =>
 pVal (binV P .eql 35 v99 (.int .i64 12)) fun v100 =>
 pGuard v100 true
 (pVal (fieldV P 32 v5 1) fun v104 =>
 pLd P 3 v104 fun v105 =>
 pVal (fieldV P 32 v5 2) fun v106 =>
 pLd P 3 v106 fun v107 =>
 pCall P 20 [v50, v105, v107] fun v108 =>
 pVal (binV P .eql 35 v108 (.int .i64 12)) fun v109 =>
 pGuard v109 true
 (pVal (fieldV P 32 v5 1) fun v113 =>
 pLd P 3 v113 fun v114 =>
 pVal (fieldV P 32 v5 5) fun v115 =>
 pLd P 30 v115 fun v116 =>
 pCall P 21 [v50, v114, v116] fun v117 =>
 pVal (binV P .eql 35 v117 (.int .i64 12)) fun v118 =>
 pGuard v118 true
 (pVal (binV P .eql 35 v71 (.int .i64 12)) fun v122 =>
 pGuard v122 true
 (pVal (binV P .eql 35 v76 (.int .i64 12)) fun v126 =>
 pGuard v126 true
 (pCall P 22 [v50] fun v130 =>
 pVal (unV .not v130) fun v131 =>
 R v131)
 (R (.bool false)))
 (R (.bool false)))
 (R (.bool false)))
 (R (.bool false)))
 (R (.bool false)))
 (R (.bool false)))
 (R (.bool false)))
 (pCall P 23 [v50] fun v134 =>
 pAlloc P 56 fun v15 =>
 pSt P 56 v15 v134 <|
 pVal (fieldV P 27 v3 0) fun v135 =>
 pVal (fieldV P 23 v135 3) fun v136 =>
 pLd P 3 v136 fun v137 =>
 pCall P 24 [v50] fun v139 =>
 pCall P 25 [v139] fun v140 =>
 pLoop2 (fun ag21 v17 v141 =>
 pVal (binV P .lss 3 v141 v140) fun v142 =>
 pIf v142
 (pCall P 24 [v50] fun v145 =>
 pCall P 26 [v145, v141] fun v147 =>
 pIf v147
 (pRow P 24 1 [(0, v141)] fun v150 =>
 pRoom P (Builtin.append_ #[24, 24] 24 #[v17, v150]) fun v151 =>
 pVal (binV P .add 3 v141 (.int .i64 1)) fun v152 =>
 ag21 v151 v152)
 (pVal (binV P .add 3 v141 (.int .i64 1)) fun v152 =>
 ag21 v17 v152))
 (pDraw fun S26 =>
 pHld P S26 56 v15 fun v153 =>
 pCall P 24 [v50] fun v155 =>
 pKeep true S26 <|
 pCall P 25 [v155] fun v156 =>
 pKeep true S26 <|
 pCall P 27 [v153, v156, v17] fun v158 =>
 pKeep true S26 <|
 pVal (lenBV P #[24] [v158]) fun v159 =>
 pLd P 56 v15 fun v161 =>
 pVal (fieldV P 32 v5 1) fun v162 =>
 pLd P 3 v162 fun v163 =>
 pVal (fieldV P 32 v5 3) fun v164 =>
 pLd P 3 v164 fun v165 =>
 pVal (fieldV P 32 v5 4) fun v166 =>
 pLd P 3 v166 fun v167 =>
 pCall P 28 [v161, v163, v165, v167, (.slice none 0 0)] fun v168 =>
 pVal (extractV v168 0) fun v169 =>
 pVal (extractV v168 1) fun v170 =>
 pAlloc P 56 fun v20 =>
 pSt P 56 v20 v169 <|
 pJoin1 (fun J30 =>
 pVal (binV P .eql 35 v170 (.int .i64 0)) fun v172 =>
 pGuard v172 true
 (pVal (fieldV P 32 v5 3) fun v175 =>
 pLd P 3 v175 fun v176 =>
 pVal (fieldV P 32 v5 4) fun v177 =>
 pLd P 3 v177 fun v178 =>
 pCall P 29 [v176, v178, v137] fun v180 =>
 pVal (binV P .lss 3 v159 v180) fun v181 =>
 pIf v181
 (J30 (.int .i64 8))
 (J30 v170))
 (pIf (.bool false)
 (J30 (.int .i64 8))
 (J30 v170)))
 (fun v21 =>
 pJoin0 (fun J32 =>
 pVal (binV P .neq 35 v21 (.int .i64 0)) fun v184 =>
 pGuard v184 true
 (pVal (fieldV P 32 v5 1) fun v187 =>
 pLd P 3 v187 fun v188 =>
 pVal (fieldV P 32 v5 3) fun v189 =>
 pLd P 3 v189 fun v190 =>
 pVal (fieldV P 32 v5 4) fun v191 =>
 pLd P 3 v191 fun v192 =>
 pCall P 17 [v50, v188, v190, v192] fun v193 =>
 pVal (binV P .neq 35 v193 v21) fun v195 =>
 pIf v195
 (R (.bool false))
 (J32))
 (pIf (.bool false)
 (R (.bool false))
 (J32)))
 (pLd P 56 v15 fun v198 =>
 pVal (fieldV P 32 v5 1) fun v199 =>
 pLd P 3 v199 fun v200 =>
 pCall P 30 [v198, v200] fun v201 =>
 pVal (extractV v201 0) fun _ =>
 pVal (extractV v201 1) fun v203 =>
 pJoin0 (fun J35 =>
 pVal (binV P .neq 35 v203 (.int .i64 0)) fun v205 =>
 pGuard v205 true
 (pVal (fieldV P 32 v5 1) fun v208 =>
 pLd P 3 v208 fun v209 =>
 pCall P 18 [v50, v209] fun v210 =>
 pVal (binV P .neq 35 v210 v203) fun v212 =>
 pIf v212
 (R (.bool false))
 (J35))
 (pIf (.bool false)
 (R (.bool false))
 (J35)))
 (pLd P 56 v15 fun v215 =>
 pVal (fieldV P 32 v5 1) fun v216 =>
 pLd P 3 v216 fun v217 =>
 pVal (fieldV P 32 v5 2) fun v218 =>
 pLd P 3 v218 fun v219 =>
 pCall P 31 [v215, v217, (.int .i64 0), v219, (.int .i64 0)] fun v220 =>
 pVal (extractV v220 0) fun _ =>
 pVal (extractV v220 1) fun v222 =>
 pJoin0 (fun J38 =>
 pVal (binV P .neq 35 v222 (.int .i64 0)) fun v224 =>
 pGuard v224 true
 (pVal (fieldV P 32 v5 1) fun v227 =>
 pLd P 3 v227 fun v228 =>
 pVal (fieldV P 32 v5 2) fun v229 =>
 pLd P 3 v229 fun v230 =>
 pCall P 20 [v50, v228, v230] fun v231 =>
 pVal (binV P .neq 35 v231 v222) fun v233 =>
 pIf v233
 (R (.bool false))
 (J38))
 (pIf (.bool false)
 (R (.bool false))
 (J38)))
 (pLd P 56 v15 fun v236 =>
 pVal (fieldV P 32 v5 1) fun v237 =>
 pLd P 3 v237 fun v238 =>
 pVal (fieldV P 32 v5 3) fun v239 =>
 pLd P 3 v239 fun v240 =>
 pCall P 32 [v236, v238, v240, (.slice none 0 0)] fun v241 =>
 pVal (extractV v241 0) fun _ =>
 pVal (extractV v241 1) fun v243 =>
 pJoin0 (fun J41 =>
 pVal (binV P .neq 35 v243 (.int .i64 0)) fun v245 =>
 pGuard v245 true
 (pVal (fieldV P 32 v5 1) fun v248 =>
 pLd P 3 v248 fun v249 =>
 pVal (fieldV P 32 v5 3) fun v250 =>
 pLd P 3 v250 fun v251 =>
 pCall P 19 [v50, v249, v251] fun v252 =>
 pVal (binV P .neq 35 v252 v243) fun v254 =>
 pIf v254
 (R (.bool false))
 (J41))
 (pIf (.bool false)
 (R (.bool false))
 (J41)))
 (pDraw fun S41 =>
 pCall P 33 [v50, (.int .i64 (-1))] fun v257 =>
 pKeep true S41 <|
 pVal (binV P .eql 35 v257 (.int .i64 7)) fun v258 =>
 pGuard v258 true
 (pHld P S41 56 v15 fun v262 =>
 pCall P 23 [v50] fun v261 =>
 pKeep true S41 <|
 pCall P 34 [v261, v262] fun v263 =>
 pKeep true S41 <|
 R v263)
 (R (.bool false))))))))) (.slice none 0 0) (.int .i64 0))))) (.int .i64 0)))
theorem tr3 (v0 v1 v2 : Value) (R : Value → World → Prop) : trF P ag [(5, []), (30, [21]), (32, []), (35, []), (38, []), (41, [])] [(906, [54]), (2713, [17, 141])] Tryz.f3 [v0, v1, v2] R = G3 v0 v1 v2 R := by kernel_rfl
theorem hb3 : hasBody P 3 = true := by kernel_rfl
theorem c3 {v0 v1 v2 : Value} {K : Value → World → Prop} {w : World} (h : G3 v0 v1 v2 K w) : pCall P 3 [v0, v1, v2] K w := pCall_of mixed Tryz.func3 hb3 (tr3 v0 v1 v2 K) h
/-- almshouse/almshouselaw21.HouseBlank -/
@[irreducible] def G4 (v0 v1 : Value) (R : Value → World → Prop) : World → Prop :=
 pNew 27 v0 fun v2 =>
 pCall P 8 [] fun v19 =>
 pVal (unV .not v19) fun v20 =>
 pIf v20
 (R (.bool false))
 (pJoin0 (fun J5 =>
 pCall P 9 [v1] fun v22 =>
 pVal (unV .not v22) fun v23 =>
 pGuard v23 false
 (pVal (fieldV P 27 v2 2) fun v25 =>
 pLd P 24 v25 fun v26 =>
 pVal (lenBV P #[24] [v26]) fun v27 =>
 pVal (binV P .gtr 3 v27 (.int .i64 70)) fun v28 =>
 pIf v28
 (R (.bool true))
 (J5))
 (pIf (.bool true)
 (R (.bool true))
 (J5)))
 (pLd P 27 v2 fun v31 =>
 pCall P 12 [v31] fun v32 =>
 pVal (extractV v32 0) fun v33 =>
 pVal (extractV v32 1) fun v34 =>
 pVal (binV P .neq 35 v34 (.int .i64 0)) fun v36 =>
 pIf v36
 (R (.bool true))
 (pVal (lenBV P #[28] [v1]) fun v38 =>
 pLoop1 (fun ag9 v39 =>
 pVal (binV P .lss 3 v39 v38) fun v40 =>
 pIf v40
 (pVal (indexV P 28 v1 v39) fun v41 =>
 pLd P 32 v41 fun v42 =>
 pAlloc P 32 fun v8 =>
 pSt P 32 v8 v42 <|
 pCall P 23 [v33] fun v44 =>
 pAlloc P 56 fun v9 =>
 pSt P 56 v9 v44 <|
 pLd P 32 v8 fun v46 =>
 pCall P 13 [v33, v46] fun v47 =>
 pJoin0 (fun J14 =>
 pVal (binV P .neq 35 v47 (.int .i64 0)) fun v49 =>
 pGuard v49 false
 (pCall P 14 [v33] fun v52 =>
 pVal (unV .not v52) fun v53 =>
 pGuard v53 false
 (pVal (fieldV P 32 v8 0) fun v56 =>
 pLd P 5 v56 fun v57 =>
 pVal (binV P .rem 5 v57 (.int .u8 9)) fun v58 =>
 pVal (binV P .gtr 5 v58 (.int .u8 3)) fun v59 =>
 pIf v59
 (pVal (binV P .add 3 v39 (.int .i64 1)) fun v125 =>
 ag9 v125)
 (J14))
 (pIf (.bool true)
 (pVal (binV P .add 3 v39 (.int .i64 1)) fun v125 =>
 ag9 v125)
 (J14)))
 (pIf (.bool true)
 (pVal (binV P .add 3 v39 (.int .i64 1)) fun v125 =>
 ag9 v125)
 (J14)))
 (pCall P 23 [v33] fun v62 =>
 pAlloc P 56 fun v11 =>
 pSt P 56 v11 v62 <|
 pVal (fieldV P 56 v11 2) fun v63 =>
 pLd P 54 v63 fun v64 =>
 pLoop1 (fun ag16 v65 =>
 pVal (binV P .lss 3 v65 (.int .i64 4)) fun v66 =>
 pIf v66
 (pRun P (Instr.index 54 v64 v65) fun v68 =>
 pAlloc P 53 fun v13 =>
 pSt P 53 v13 v68 <|
 pVal (fieldV P 53 v13 4) fun v69 =>
 pLd P 24 v69 fun v70 =>
 pVal (lenBV P #[24] [v70]) fun v71 =>
 pLoop1 (fun ag19 v72 =>
 pVal (binV P .lss 3 v72 v71) fun v73 =>
 pIf v73
 (pVal (indexV P 24 v70 v72) fun v74 =>
 pLd P 3 v74 fun v75 =>
 pLd P 56 v9 fun v76 =>
 pCall P 35 [v76, v75] fun v78 =>
 pVal (binV P .neq 3 v78 v65) fun v80 =>
 pGuard v80 true
 (pCall P 24 [v33] fun v83 =>
 pCall P 36 [v83, v75] fun v85 =>
 pVal (unV .not v85) fun v86 =>
 pGuard v86 false
 (pCall P 24 [v33] fun v89 =>
 pCall P 26 [v89, v75] fun v91 =>
 pIf v91
 (R (.bool false))
 (pVal (binV P .add 3 v72 (.int .i64 1)) fun v94 =>
 ag19 v94))
 (pIf (.bool true)
 (R (.bool false))
 (pVal (binV P .add 3 v72 (.int .i64 1)) fun v94 =>
 ag19 v94)))
 (pIf (.bool false)
 (R (.bool false))
 (pVal (binV P .add 3 v72 (.int .i64 1)) fun v94 =>
 ag19 v94)))
 (pVal (fieldV P 53 v13 2) fun v95 =>
 pLd P 3 v95 fun v96 =>
 pLoop1 (fun ag25 v97 =>
 pVal (binV P .lss 3 v97 v96) fun v98 =>
 pIf v98
 (pCall P 16 [v33, v65, v97] fun v104 =>
 pVal (extractV v104 0) fun v105 =>
 pVal (extractV v104 1) fun v106 =>
 pDraw fun S28 =>
 pVal (binV P .neq 35 v106 (.int .i64 0)) fun v108 =>
 pGuard v108 false
 (pVal (fieldV P 56 v9 2) fun v111 =>
 pVal (indexV P 54 v111 v65) fun v112 =>
 pVal (fieldV P 53 v112 1) fun v113 =>
 pHld P S28 3 v113 fun v114 =>
 pVal (fieldV P 53 v13 1) fun v115 =>
 pHld P S28 3 v115 fun v116 =>
 pVal (binV P .neq 3 v114 v116) fun v117 =>
 pGuard v117 true
 (pVal (binV P .neq 9 v105 (.string { data := #[] })) fun v120 =>
 pIf v120
 (R (.bool false))
 (pVal (binV P .add 3 v97 (.int .i64 1)) fun v123 =>
 ag25 v123))
 (pIf (.bool false)
 (R (.bool false))
 (pVal (binV P .add 3 v97 (.int .i64 1)) fun v123 =>
 ag25 v123)))
 (pIf (.bool true)
 (R (.bool false))
 (pVal (binV P .add 3 v97 (.int .i64 1)) fun v123 =>
 ag25 v123)))
 (pVal (binV P .add 3 v65 (.int .i64 1)) fun v124 =>
 ag16 v124)) (.int .i64 0))) (.int .i64 0))
 (pVal (binV P .add 3 v39 (.int .i64 1)) fun v125 =>
 ag9 v125)) (.int .i64 0)))
 (R (.bool true))) (.int .i64 0))))
theorem tr4 (v0 v1 : Value) (R : Value → World → Prop) : trF P ag [(5, []), (14, [])] [(1184, [39]), (2079, [65]), (2455, [72]), (3230, [97])] Tryz.f4 [v0, v1] R = G4 v0 v1 R := by kernel_rfl
theorem hb4 : hasBody P 4 = true := by kernel_rfl
theorem c4 {v0 v1 : Value} {K : Value → World → Prop} {w : World} (h : G4 v0 v1 K w) : pCall P 4 [v0, v1] K w := pCall_of mixed Tryz.func4 hb4 (tr4 v0 v1 K) h
/-- almshouse/almshouselaw21.HouseNone -/
@[irreducible] def G5 (v0 : Value) (R : Value → World → Prop) : World → Prop :=
 pNew 32 v0 fun v1 =>
 pCall P 8 [] fun v8 =>
 pVal (unV .not v8) fun v9 =>
 pIf v9
 (R (.bool false))
 (pCall P 37 [(.pointer none)] fun _ =>
 pCall P 38 [(.pointer none), (.int .i64 3)] fun _ =>
 pVal (fieldV P 32 v1 1) fun v16 =>
 pLd P 3 v16 fun v17 =>
 pCall P 15 [(.pointer none), v17] fun v18 =>
 pVal (extractV v18 0) fun v19 =>
 pVal (extractV v18 1) fun v20 =>
 pAlloc P 43 fun v4 =>
 pSt P 43 v4 v19 <|
 pVal (fieldV P 32 v1 1) fun v23 =>
 pLd P 3 v23 fun v24 =>
 pCall P 16 [(.pointer none), v24, (.int .i64 0)] fun v25 =>
 pVal (extractV v25 0) fun _ =>
 pVal (extractV v25 1) fun v27 =>
 pVal (fieldV P 32 v1 1) fun v29 =>
 pLd P 3 v29 fun v30 =>
 pVal (fieldV P 32 v1 3) fun v31 =>
 pLd P 3 v31 fun v32 =>
 pVal (fieldV P 32 v1 4) fun v33 =>
 pLd P 3 v33 fun v34 =>
 pCall P 17 [(.pointer none), v30, v32, v34] fun v35 =>
 pVal (binV P .eql 35 v35 (.int .i64 12)) fun v36 =>
 pGuard v36 true
 (pVal (fieldV P 32 v1 1) fun v39 =>
 pLd P 3 v39 fun v40 =>
 pCall P 18 [(.pointer none), v40] fun v41 =>
 pVal (binV P .eql 35 v41 (.int .i64 12)) fun v42 =>
 pGuard v42 true
 (pVal (fieldV P 32 v1 1) fun v46 =>
 pLd P 3 v46 fun v47 =>
 pCall P 19 [(.pointer none), v47, (.int .i64 3)] fun v48 =>
 pVal (binV P .eql 35 v48 (.int .i64 12)) fun v49 =>
 pGuard v49 true
 (pVal (fieldV P 32 v1 1) fun v53 =>
 pLd P 3 v53 fun v54 =>
 pVal (fieldV P 32 v1 2) fun v55 =>
 pLd P 3 v55 fun v56 =>
 pCall P 20 [(.pointer none), v54, v56] fun v57 =>
 pVal (binV P .eql 35 v57 (.int .i64 12)) fun v58 =>
 pGuard v58 true
 (pVal (fieldV P 32 v1 1) fun v62 =>
 pLd P 3 v62 fun v63 =>
 pVal (fieldV P 32 v1 5) fun v64 =>
 pLd P 30 v64 fun v65 =>
 pCall P 21 [(.pointer none), v63, v65] fun v66 =>
 pVal (binV P .eql 35 v66 (.int .i64 12)) fun v67 =>
 pGuard v67 true
 (pVal (fieldV P 32 v1 3) fun v71 =>
 pLd P 3 v71 fun v72 =>
 pCall P 33 [(.pointer none), v72] fun v73 =>
 pVal (binV P .eql 35 v73 (.int .i64 12)) fun v74 =>
 pGuard v74 true
 (pCall P 22 [(.pointer none)] fun v78 =>
 pVal (unV .not v78) fun v79 =>
 pGuard v79 true
 (pCall P 14 [(.pointer none)] fun v83 =>
 pVal (unV .not v83) fun v84 =>
 pGuard v84 true
 (pVal (binV P .eql 35 v20 (.int .i64 12)) fun v88 =>
 pGuard v88 true
 (pVal (binV P .eql 35 v27 (.int .i64 12)) fun v92 =>
 pGuard v92 true
 (pCall P 39 [(.pointer none)] fun v96 =>
 pCall P 40 [(.pointer none)] fun v98 =>
 pVal (binV P .add 3 v96 v98) fun v99 =>
 pCall P 41 [(.pointer none), (.int .i64 0)] fun v101 =>
 pVal (lenBV P #[74] [v101]) fun v102 =>
 pVal (binV P .add 3 v99 v102) fun v103 =>
 pVal (binV P .eql 3 v103 (.int .i64 0)) fun v104 =>
 pGuard v104 true
 (pCall P 24 [(.pointer none)] fun v108 =>
 pVal (binV P .eql 58 v108 (.pointer none)) fun v109 =>
 pGuard v109 true
 (pCall P 23 [(.pointer none)] fun v113 =>
 pVal (buildV P 56 []) fun v114 =>
 pCall P 34 [v113, v114] fun v115 =>
 R v115)
 (R (.bool false)))
 (R (.bool false)))
 (R (.bool false)))
 (R (.bool false)))
 (R (.bool false)))
 (R (.bool false)))
 (R (.bool false)))
 (R (.bool false)))
 (R (.bool false)))
 (R (.bool false)))
 (R (.bool false)))
 (R (.bool false)))
theorem tr5 (v0 : Value) (R : Value → World → Prop) : trF P ag [] [] Tryz.f5 [v0] R = G5 v0 R := by kernel_rfl
theorem hb5 : hasBody P 5 = true := by kernel_rfl
theorem c5 {v0 : Value} {K : Value → World → Prop} {w : World} (h : G5 v0 K w) : pCall P 5 [v0] K w := pCall_of mixed Tryz.func5 hb5 (tr5 v0 K) h
/-- almshouse/almshouselaw22.WardenTorn -/
@[irreducible] def G6 (v0 v1 v2 v3 : Value) (R : Value → World → Prop) : World → Prop :=
 pNew 27 v0 fun v4 =>
 pNew 79 v2 fun v6 =>
 pCall P 42 [] fun v16 =>
 pVal (unV .not v16) fun v17 =>
 pIf v17
 (R (.bool false))
 (pJoin0 (fun J5 =>
 pCall P 43 [v1] fun v19 =>
 pVal (unV .not v19) fun v20 =>
 pGuard v20 false
 (pVal (fieldV P 27 v4 2) fun v22 =>
 pLd P 24 v22 fun v23 =>
 pVal (lenBV P #[24] [v23]) fun v24 =>
 pVal (binV P .gtr 3 v24 (.int .i64 70)) fun v25 =>
 pIf v25
 (R (.bool true))
 (J5))
 (pIf (.bool true)
 (R (.bool true))
 (J5)))
 (pLd P 27 v4 fun v28 =>
 pCall P 12 [v28] fun v29 =>
 pVal (extractV v29 0) fun v30 =>
 pVal (extractV v29 1) fun v31 =>
 pVal (binV P .neq 35 v31 (.int .i64 0)) fun v33 =>
 pIf v33
 (R (.bool true))
 (pVal (lenBV P #[77] [v1]) fun v35 =>
 pLoop1 (fun ag9 v36 =>
 pVal (binV P .lss 3 v36 v35) fun v37 =>
 pIf v37
 (pVal (indexV P 77 v1 v36) fun v38 =>
 pLd P 79 v38 fun v39 =>
 pAlloc P 79 fun v12 =>
 pSt P 79 v12 v39 <|
 pLd P 79 v12 fun v41 =>
 pCall P 44 [v30, v41] fun _ =>
 pVal (binV P .add 3 v36 (.int .i64 1)) fun v43 =>
 ag9 v43)
 (pCall P 14 [v30] fun v45 =>
 pVal (unV .not v45) fun v46 =>
 pIf v46
 (pVal (buildV P 79 [(0, (.int .i64 1))]) fun v48 =>
 pCall P 45 [v30, v48, (.int .i64 3)] fun v49 =>
 pVal (binV P .eql 35 v49 (.int .i64 12)) fun v50 =>
 pGuard v50 true
 (pVal (buildV P 79 [(0, (.int .i64 6))]) fun v53 =>
 pCall P 45 [v30, v53, (.int .i64 3)] fun v54 =>
 pVal (binV P .eql 35 v54 (.int .i64 1)) fun v55 =>
 pGuard v55 true
 (pVal (buildV P 79 [(0, (.int .i64 1))]) fun v59 =>
 pCall P 45 [v30, v59, (.int .i64 (-1))] fun v60 =>
 pVal (binV P .eql 35 v60 (.int .i64 1)) fun v61 =>
 R v61)
 (R (.bool false)))
 (R (.bool false)))
 (pCall P 23 [v30] fun v64 =>
 pAlloc P 56 fun v13 =>
 pSt P 56 v13 v64 <|
 pLd P 79 v6 fun v66 =>
 pVal (convV P 5 3 v3) fun v68 =>
 pCall P 45 [v30, v66, v68] fun v69 =>
 pJoin1 (fun J18 =>
 pVal (fieldV P 79 v6 0) fun v70 =>
 pLd P 3 v70 fun v71 =>
 pVal (binV P .lss 3 v71 (.int .i64 1)) fun v72 =>
 pGuard v72 false
 (pVal (fieldV P 79 v6 0) fun v74 =>
 pLd P 3 v74 fun v75 =>
 pVal (binV P .gtr 3 v75 (.int .i64 4)) fun v76 =>
 J18 v76)
 (J18 (.bool true)))
 (fun v77 =>
 pIf v77
 (pVal (binV P .eql 35 v69 (.int .i64 1)) fun v79 =>
 pGuard v79 true
 (pCall P 14 [v30] fun v82 =>
 R v82)
 (R (.bool false)))
 (pJoin0 (fun J21 =>
 pCall P 14 [v30] fun v85 =>
 pGuard v85 false
 (pCall P 33 [v30, (.int .i64 (-1))] fun v88 =>
 pVal (binV P .neq 35 v88 (.int .i64 0)) fun v89 =>
 pIf v89
 (R (.bool false))
 (J21))
 (pIf (.bool true)
 (R (.bool false))
 (J21)))
 (pCall P 23 [v30] fun v92 =>
 pAlloc P 56 fun v15 =>
 pSt P 56 v15 v92 <|
 pVal (binV P .eql 35 v69 (.int .i64 0)) fun v94 =>
 pIf v94
 (pVal (fieldV P 56 v15 0) fun v95 =>
 pLd P 3 v95 fun v96 =>
 pVal (fieldV P 56 v13 0) fun v97 =>
 pLd P 3 v97 fun v98 =>
 pVal (binV P .add 3 v98 (.int .i64 1)) fun v99 =>
 pVal (binV P .eql 3 v96 v99) fun v100 =>
 R v100)
 (pLd P 56 v15 fun v101 =>
 pLd P 56 v13 fun v102 =>
 pCall P 34 [v101, v102] fun v103 =>
 pGuard v103 false
 (pVal (binV P .eql 35 v69 (.int .i64 12)) fun v106 =>
 pGuard v106 true
 (pVal (fieldV P 56 v15 0) fun v108 =>
 pLd P 3 v108 fun v109 =>
 pVal (fieldV P 56 v13 0) fun v110 =>
 pLd P 3 v110 fun v111 =>
 pVal (binV P .add 3 v111 (.int .i64 1)) fun v112 =>
 pVal (binV P .eql 3 v109 v112) fun v113 =>
 R v113)
 (R (.bool false)))
 (R (.bool true))))))))) (.int .i64 0))))
theorem tr6 (v0 v1 v2 v3 : Value) (R : Value → World → Prop) : trF P ag [(5, []), (18, [77]), (21, [])] [(1164, [36])] Tryz.f6 [v0, v1, v2, v3] R = G6 v0 v1 v2 v3 R := by kernel_rfl
theorem hb6 : hasBody P 6 = true := by kernel_rfl
theorem c6 {v0 v1 v2 v3 : Value} {K : Value → World → Prop} {w : World} (h : G6 v0 v1 v2 v3 K w) : pCall P 6 [v0, v1, v2, v3] K w := pCall_of mixed Tryz.func6 hb6 (tr6 v0 v1 v2 v3 K) h
/-- almshouse/almshouselaw22.WardenDoes -/
@[irreducible] def G7 (v0 v1 : Value) (R : Value → World → Prop) : World → Prop :=
 pNew 27 v0 fun v2 =>
 pCall P 42 [] fun v11 =>
 pVal (unV .not v11) fun v12 =>
 pIf v12
 (R (.bool false))
 (pJoin0 (fun J5 =>
 pCall P 43 [v1] fun v14 =>
 pVal (unV .not v14) fun v15 =>
 pGuard v15 false
 (pVal (fieldV P 27 v2 2) fun v17 =>
 pLd P 24 v17 fun v18 =>
 pVal (lenBV P #[24] [v18]) fun v19 =>
 pVal (binV P .gtr 3 v19 (.int .i64 70)) fun v20 =>
 pIf v20
 (R (.bool true))
 (J5))
 (pIf (.bool true)
 (R (.bool true))
 (J5)))
 (pLd P 27 v2 fun v23 =>
 pCall P 12 [v23] fun v24 =>
 pVal (extractV v24 0) fun v25 =>
 pVal (extractV v24 1) fun v26 =>
 pLd P 27 v2 fun v28 =>
 pCall P 12 [v28] fun v29 =>
 pVal (extractV v29 0) fun v30 =>
 pVal (extractV v29 1) fun v31 =>
 pJoin1 (fun J8 =>
 pVal (binV P .neq 35 v26 (.int .i64 0)) fun v33 =>
 pGuard v33 false
 (pVal (binV P .neq 35 v31 (.int .i64 0)) fun v36 =>
 J8 v36)
 (J8 (.bool true)))
 (fun v37 =>
 pIf v37
 (pVal (binV P .eql 35 v26 v31) fun v40 =>
 R v40)
 (pVal (lenBV P #[77] [v1]) fun v42 =>
 pLoop1 (fun ag10 v43 =>
 pVal (binV P .lss 3 v43 v42) fun v44 =>
 pIf v44
 (pVal (indexV P 77 v1 v43) fun v45 =>
 pLd P 79 v45 fun v46 =>
 pAlloc P 79 fun v10 =>
 pSt P 79 v10 v46 <|
 pDraw fun S12 =>
 pHld P S12 79 v10 fun v48 =>
 pHld P S12 79 v10 fun v51 =>
 pCall P 44 [v25, v48] fun v49 =>
 pKeep true S12 <|
 pCall P 46 [v30, v51] fun v52 =>
 pKeep true S12 <|
 pVal (binV P .neq 35 v49 v52) fun v53 =>
 pGuard v53 false
 (pCall P 47 [v25, v30] fun v57 =>
 pKeep true S12 <|
 pVal (unV .not v57) fun v58 =>
 pIf v58
 (R (.bool false))
 (pVal (binV P .add 3 v43 (.int .i64 1)) fun v60 =>
 ag10 v60))
 (pIf (.bool true)
 (R (.bool false))
 (pVal (binV P .add 3 v43 (.int .i64 1)) fun v60 =>
 ag10 v60)))
 (R (.bool true))) (.int .i64 0)))))
theorem tr7 (v0 v1 : Value) (R : Value → World → Prop) : trF P ag [(5, []), (8, [37])] [(1294, [43])] Tryz.f7 [v0, v1] R = G7 v0 v1 R := by kernel_rfl
theorem hb7 : hasBody P 7 = true := by kernel_rfl
theorem c7 {v0 v1 : Value} {K : Value → World → Prop} {w : World} (h : G7 v0 v1 K w) : pCall P 7 [v0, v1] K w := pCall_of mixed Tryz.func7 hb7 (tr7 v0 v1 K) h
/-- almshouse/almshouselaw21.fixed -/
@[irreducible] def G8 (R : Value → World → Prop) : World → Prop :=
 pCall P 48 [(.int .i64 8), (.int .i64 4)] fun v11 =>
 pCall P 12 [v11] fun v12 =>
 pVal (extractV v12 0) fun v13 =>
 pVal (extractV v12 1) fun v14 =>
 pCall P 17 [v13, (.int .i64 1), (.int .i64 5), (.int .i64 1)] fun v16 =>
 pVal (buildV P 30 [(0, (.int .i64 2)), (1, (.int .i64 4)), (2, (.string { data := #[120] }))]) fun v18 =>
 pCall P 21 [v13, (.int .i64 1), v18] fun v19 =>
 pLoop1 (fun ag5 v20 =>
 pVal (binV P .lss 3 v20 (.int .i64 4)) fun v21 =>
 pIf v21
 (pCall P 22 [v13] fun _ =>
 pVal (binV P .add 3 v20 (.int .i64 1)) fun v24 =>
 ag5 v24)
 (pCall P 41 [v13, (.int .i64 1)] fun v26 =>
 pCall P 16 [v13, (.int .i64 1), (.int .i64 4)] fun v29 =>
 pVal (extractV v29 0) fun v30 =>
 pVal (extractV v29 1) fun v31 =>
 pCall P 15 [v13, (.int .i64 1)] fun v34 =>
 pVal (extractV v34 0) fun v35 =>
 pVal (extractV v34 1) fun v36 =>
 pAlloc P 43 fun v8 =>
 pSt P 43 v8 v35 <|
 pVal (binV P .eql 35 v14 (.int .i64 0)) fun v38 =>
 pGuard v38 true
 (pVal (binV P .eql 35 v16 (.int .i64 0)) fun v41 =>
 pGuard v41 true
 (pVal (binV P .eql 35 v19 (.int .i64 0)) fun v45 =>
 pGuard v45 true
 (pVal (lenBV P #[74] [v26]) fun v49 =>
 pVal (binV P .eql 3 v49 (.int .i64 1)) fun v50 =>
 pGuard v50 true
 (pVal (indexV P 74 v26 (.int .i64 0)) fun v54 =>
 pLd P 88 v54 fun v55 =>
 pVal (buildV P 88 [(0, (.int .i64 1))]) fun v56 =>
 pRun P (binS .eql 88 false v55 v56) fun v57 =>
 pGuard v57 true
 (pVal (binV P .eql 9 v30 (.string { data := #[120] })) fun v61 =>
 pGuard v61 true
 (pVal (binV P .eql 35 v31 (.int .i64 0)) fun v65 =>
 pGuard v65 true
 (pVal (binV P .eql 35 v36 (.int .i64 0)) fun v69 =>
 pGuard v69 true
 (pVal (fieldV P 43 v8 2) fun v72 =>
 pLd P 3 v72 fun v73 =>
 pVal (binV P .eql 3 v73 (.int .i64 4)) fun v74 =>
 pGuard v74 true
 (pVal (fieldV P 43 v8 8) fun v77 =>
 pLd P 3 v77 fun v78 =>
 pVal (binV P .eql 3 v78 (.int .i64 1)) fun v79 =>
 pGuard v79 true
 (pCall P 17 [v13, (.int .i64 1), (.int .i64 5), (.int .i64 1)] fun v83 =>
 pVal (binV P .eql 35 v83 (.int .i64 7)) fun v84 =>
 pGuard v84 true
 (pCall P 39 [v13] fun v88 =>
 pVal (binV P .eql 3 v88 (.int .i64 4)) fun v89 =>
 pGuard v89 true
 (pCall P 14 [v13] fun v93 =>
 R v93)
 (R (.bool false)))
 (R (.bool false)))
 (R (.bool false)))
 (R (.bool false)))
 (R (.bool false)))
 (R (.bool false)))
 (R (.bool false)))
 (R (.bool false)))
 (R (.bool false)))
 (R (.bool false)))
 (R (.bool false)))
 (R (.bool false)))) (.int .i64 0)
theorem tr8 (R : Value → World → Prop) : trF P ag [] [(647, [20])] Tryz.f8 [] R = G8 R := by kernel_rfl
theorem hb8 : hasBody P 8 = true := by kernel_rfl
theorem c8 {K : Value → World → Prop} {w : World} (h : G8 K w) : pCall P 8 [] K w := pCall_of mixed Tryz.func8 hb8 (tr8 K) h
/-- almshouse/almshouselaw21.few -/
@[irreducible] def G9 (v0 : Value) (R : Value → World → Prop) : World → Prop :=
 pVal (lenBV P #[28] [v0]) fun v6 =>
 pLoop1 (fun ag2 v7 =>
 pVal (binV P .lss 3 v7 v6) fun v8 =>
 pIf v8
 (pVal (indexV P 28 v0 v7) fun v9 =>
 pLd P 32 v9 fun v10 =>
 pAlloc P 32 fun v4 =>
 pSt P 32 v4 v10 <|
 pVal (fieldV P 32 v4 5) fun v11 =>
 pVal (fieldV P 30 v11 2) fun v12 =>
 pLd P 9 v12 fun v13 =>
 pVal (lenBV P #[9] [v13]) fun v14 =>
 pVal (binV P .gtr 3 v14 (.int .i64 100)) fun v15 =>
 pIf v15
 (R (.bool false))
 (pVal (binV P .add 3 v7 (.int .i64 1)) fun v16 =>
 ag2 v16))
 (pVal (lenBV P #[28] [v0]) fun v18 =>
 pVal (binV P .leq 3 v18 (.int .i64 120)) fun v19 =>
 R v19)) (.int .i64 0)
theorem tr9 (v0 : Value) (R : Value → World → Prop) : trF P ag [] [(262, [7])] Tryz.f9 [v0] R = G9 v0 R := by kernel_rfl
theorem hb9 : hasBody P 9 = true := by kernel_rfl
theorem c9 {v0 : Value} {K : Value → World → Prop} {w : World} (h : G9 v0 K w) : pCall P 9 [v0] K w := pCall_of mixed Tryz.func9 hb9 (tr9 v0 K) h
/-- almshouse/almshouseref05.Check -/
@[irreducible] def G10 (v0 : Value) (R : Value → World → Prop) : World → Prop :=
 pNew 25 v0 fun v1 =>
 pLd P 25 v1 fun v9 =>
 pLoop1 (fun ag2 v10 =>
 pVal (binV P .lss 3 v10 (.int .i64 4)) fun v11 =>
 pIf v11
 (pRun P (Instr.index 25 v9 v10) fun v12 =>
 pVal (lenBV P #[24] [v12]) fun v14 =>
 pVal (binV P .gtr 3 v14 (.int .i64 64)) fun v15 =>
 pIf v15
 (R (.int .i64 4))
 (pVal (binV P .add 3 v10 (.int .i64 1)) fun v16 =>
 ag2 v16))
 (pLd P 25 v1 fun v17 =>
 pLoop1 (fun ag8 v18 =>
 pVal (binV P .lss 3 v18 (.int .i64 4)) fun v19 =>
 pIf v19
 (pRun P (Instr.index 25 v17 v18) fun v20 =>
 pVal (lenBV P #[24] [v20]) fun v22 =>
 pLoop1 (fun ag11 v23 =>
 pVal (binV P .lss 3 v23 v22) fun v24 =>
 pIf v24
 (pVal (indexV P 24 v20 v23) fun v25 =>
 pLd P 3 v25 fun v26 =>
 pVal (binV P .lss 3 v26 (.int .i64 1)) fun v28 =>
 pIf v28
 (R (.int .i64 5))
 (pVal (binV P .add 3 v23 (.int .i64 1)) fun v29 =>
 ag11 v29))
 (pVal (binV P .add 3 v18 (.int .i64 1)) fun v30 =>
 ag8 v30)) (.int .i64 0))
 (R (.int .i64 0))) (.int .i64 0))) (.int .i64 0)
theorem tr10 (v0 : Value) (R : Value → World → Prop) : trF P ag [] [(262, [10]), (1040, [18]), (1423, [23])] Tryz.f10 [v0] R = G10 v0 R := by kernel_rfl
theorem hb10 : hasBody P 10 = true := by kernel_rfl
theorem c10 {v0 : Value} {K : Value → World → Prop} {w : World} (h : G10 v0 K w) : pCall P 10 [v0] K w := pCall_of mixed Tryz.func10 hb10 (tr10 v0 K) h
/-- almshouse/almshouseref07.Check -/
@[irreducible] def G11 (v0 v1 : Value) (R : Value → World → Prop) : World → Prop :=
 pNew 23 v0 fun v2 =>
 pLd P 23 v2 fun v8 =>
 pCall P 49 [v8] fun v9 =>
 pVal (binV P .neq 35 v9 (.int .i64 0)) fun v11 =>
 pIf v11
 (R v9)
 (pVal (lenBV P #[24] [v1]) fun v14 =>
 pLoop1 (fun ag5 v15 =>
 pVal (binV P .lss 3 v15 v14) fun v16 =>
 pIf v16
 (pVal (indexV P 24 v1 v15) fun v17 =>
 pLd P 3 v17 fun v18 =>
 pVal (binV P .lss 3 v18 (.int .i64 2)) fun v20 =>
 pGuard v20 false
 (pVal (fieldV P 23 v2 0) fun v23 =>
 pLd P 3 v23 fun v24 =>
 pVal (fieldV P 23 v2 1) fun v25 =>
 pLd P 3 v25 fun v26 =>
 pVal (binV P .mul 3 v24 v26) fun v27 =>
 pVal (fieldV P 23 v2 2) fun v28 =>
 pLd P 3 v28 fun v29 =>
 pVal (binV P .mul 3 v27 v29) fun v30 =>
 pVal (binV P .geq 3 v18 v30) fun v31 =>
 pIf v31
 (R (.int .i64 5))
 (pVal (binV P .add 3 v15 (.int .i64 1)) fun v33 =>
 ag5 v33))
 (pIf (.bool true)
 (R (.int .i64 5))
 (pVal (binV P .add 3 v15 (.int .i64 1)) fun v33 =>
 ag5 v33)))
 (R (.int .i64 0))) (.int .i64 0))
theorem tr11 (v0 v1 : Value) (R : Value → World → Prop) : trF P ag [] [(649, [15])] Tryz.f11 [v0, v1] R = G11 v0 v1 R := by kernel_rfl
theorem hb11 : hasBody P 11 = true := by kernel_rfl
theorem c11 {v0 v1 : Value} {K : Value → World → Prop} {w : World} (h : G11 v0 v1 K w) : pCall P 11 [v0, v1] K w := pCall_of mixed Tryz.func11 hb11 (tr11 v0 v1 K) h
/-- almshouse/house.New -/
@[irreducible] def G12 (v0 : Value) (R : Value → World → Prop) : World → Prop :=
 pNew 27 v0 fun v1 =>
 pVal (fieldV P 27 v1 1) fun v11 =>
 pLd P 25 v11 fun v12 =>
 pCall P 50 [v12] fun v13 =>
 pVal (extractV v13 0) fun v14 =>
 pVal (extractV v13 1) fun v15 =>
 pVal (binV P .neq 35 v15 (.int .i64 0)) fun v17 =>
 pIf v17
 (R (.tuple #[(.pointer none), v15]))
 (pCall P 51 [(.int .i64 (-1))] fun v19 =>
 pVal (fieldV P 27 v1 0) fun v21 =>
 pLd P 23 v21 fun v22 =>
 pVal (fieldV P 27 v1 2) fun v25 =>
 pLd P 24 v25 fun v26 =>
 pCall P 52 [v22, v19, v14, v26] fun v27 =>
 pVal (extractV v27 0) fun v28 =>
 pVal (extractV v27 1) fun v29 =>
 pVal (binV P .neq 35 v29 (.int .i64 0)) fun v31 =>
 pIf v31
 (R (.tuple #[(.pointer none), v29]))
 (pVal (buildV P 103 [(0, v28), (1, v19), (2, v14), (6, (.bool true))]) fun v36 =>
 pNew 103 v36 fun v37 =>
 pLoop1 (fun ag10 v38 =>
 pVal (binV P .lss 3 v38 (.int .i64 4)) fun v39 =>
 pIf v39
 (pDraw fun S12 =>
 pNil v37 fun v44 =>
 pVal (fieldV P 103 v44 4) fun v45 =>
 pCall P 53 [] fun v43 =>
 pVal (indexV P 101 v45 v38) fun v46 =>
 pVal (fieldV P 100 v46 1) fun v47 =>
 pSt P 98 v47 v43 <|
 pVal (binV P .add 3 v38 (.int .i64 1)) fun v48 =>
 ag10 v48)
 (R (.tuple #[v37, (.int .i64 0)]))) (.int .i64 0)))
theorem tr12 (v0 : Value) (R : Value → World → Prop) : trF P ag [] [(1293, [38])] Tryz.f12 [v0] R = G12 v0 R := by kernel_rfl
theorem hb12 : hasBody P 12 = true := by kernel_rfl
theorem c12 {v0 : Value} {K : Value → World → Prop} {w : World} (h : G12 v0 K w) : pCall P 12 [v0] K w := pCall_of mixed Tryz.func12 hb12 (tr12 v0 K) h
/-- almshouse/almshouselaw21.do -/
@[irreducible] def G13 (v0 v1 : Value) (R : Value → World → Prop) : World → Prop :=
 pNew 32 v1 fun v3 =>
 pVal (fieldV P 32 v3 0) fun v5 =>
 pLd P 5 v5 fun v6 =>
 pVal (binV P .rem 5 v6 (.int .u8 9)) fun v7 =>
 pVal (binV P .eql 5 v7 (.int .u8 0)) fun v9 =>
 pIf v9
 (pVal (fieldV P 32 v3 1) fun v11 =>
 pLd P 3 v11 fun v12 =>
 pVal (fieldV P 32 v3 3) fun v13 =>
 pLd P 3 v13 fun v14 =>
 pVal (fieldV P 32 v3 4) fun v15 =>
 pLd P 3 v15 fun v16 =>
 pCall P 17 [v0, v12, v14, v16] fun v17 =>
 R v17)
 (pVal (binV P .eql 5 v7 (.int .u8 1)) fun v19 =>
 pIf v19
 (pVal (fieldV P 32 v3 1) fun v21 =>
 pLd P 3 v21 fun v22 =>
 pCall P 18 [v0, v22] fun v23 =>
 R v23)
 (pVal (binV P .eql 5 v7 (.int .u8 2)) fun v25 =>
 pIf v25
 (pVal (fieldV P 32 v3 1) fun v27 =>
 pLd P 3 v27 fun v28 =>
 pVal (fieldV P 32 v3 3) fun v29 =>
 pLd P 3 v29 fun v30 =>
 pCall P 19 [v0, v28, v30] fun v31 =>
 R v31)
 (pVal (binV P .eql 5 v7 (.int .u8 3)) fun v33 =>
 pIf v33
 (pVal (fieldV P 32 v3 1) fun v35 =>
 pLd P 3 v35 fun v36 =>
 pVal (fieldV P 32 v3 2) fun v37 =>
 pLd P 3 v37 fun v38 =>
 pCall P 20 [v0, v36, v38] fun v39 =>
 R v39)
 (pVal (binV P .eql 5 v7 (.int .u8 4)) fun v41 =>
 pIf v41
 (pVal (fieldV P 32 v3 1) fun v43 =>
 pLd P 3 v43 fun v44 =>
 pVal (fieldV P 32 v3 5) fun v45 =>
 pLd P 30 v45 fun v46 =>
 pCall P 21 [v0, v44, v46] fun v47 =>
 R v47)
 (pVal (binV P .eql 5 v7 (.int .u8 5)) fun v49 =>
 pIf v49
 (pLoop1 (fun ag14 v50 =>
 pVal (binV P .lss 3 v50 (.int .i64 4)) fun v51 =>
 pIf v51
 (pCall P 22 [v0] fun _ =>
 pVal (binV P .add 3 v50 (.int .i64 1)) fun v54 =>
 ag14 v54)
 (R (.int .i64 0))) (.int .i64 0))
 (pVal (binV P .eql 5 v7 (.int .u8 6)) fun v56 =>
 pIf v56
 (pCall P 37 [v0] fun _ =>
 R (.int .i64 0))
 (pVal (binV P .eql 5 v7 (.int .u8 7)) fun v60 =>
 pIf v60
 (pVal (fieldV P 32 v3 3) fun v62 =>
 pLd P 3 v62 fun v63 =>
 pCall P 33 [v0, v63] fun v64 =>
 R v64)
 (pVal (binV P .eql 5 v7 (.int .u8 8)) fun v66 =>
 pIf v66
 (pVal (fieldV P 32 v3 3) fun v68 =>
 pLd P 3 v68 fun v69 =>
 pCall P 38 [v0, v69] fun _ =>
 R (.int .i64 0))
 (R (.int .i64 0))))))))))
theorem tr13 (v0 v1 : Value) (R : Value → World → Prop) : trF P ag [] [(1808, [50])] Tryz.f13 [v0, v1] R = G13 v0 v1 R := by kernel_rfl
theorem hb13 : hasBody P 13 = true := by kernel_rfl
theorem c13 {v0 v1 : Value} {K : Value → World → Prop} {w : World} (h : G13 v0 v1 K w) : pCall P 13 [v0, v1] K w := pCall_of mixed Tryz.func13 hb13 (tr13 v0 v1 K) h
/-- (*almshouse/house.House).Up -/
@[irreducible] def G14 (v0 : Value) (R : Value → World → Prop) : World → Prop :=
 pVal (binV P .neq 38 v0 (.pointer none)) fun v4 =>
 pGuard v4 true
 (pNil v0 fun v7 =>
 pVal (fieldV P 103 v7 6) fun v8 =>
 pLd P 4 v8 fun v9 =>
 R v9)
 (R (.bool false))
theorem tr14 (v0 : Value) (R : Value → World → Prop) : trF P ag [] [] Tryz.f14 [v0] R = G14 v0 R := by kernel_rfl
theorem hb14 : hasBody P 14 = true := by kernel_rfl
theorem c14 {v0 : Value} {K : Value → World → Prop} {w : World} (h : G14 v0 K w) : pCall P 14 [v0] K w := pCall_of mixed Tryz.func14 hb14 (tr14 v0 K) h
/-- (*almshouse/house.House).Stat -/
@[irreducible] def G15 (v0 v1 : Value) (R : Value → World → Prop) : World → Prop :=
 pAlloc P 43 fun v4 =>
 pCall P 54 [v0, v1] fun v11 =>
 pVal (binV P .neq 35 v11 (.int .i64 0)) fun v13 =>
 pIf v13
 (pVal (buildV P 43 []) fun v14 =>
 pSt P 43 v4 v14 <|
 pRes P 43 v4 fun r4 =>
 R (.tuple #[r4, v11]))
 (pDraw fun S4 =>
 pNil v0 fun v18 =>
 pVal (fieldV P 103 v18 3) fun v19 =>
 pVal (fieldV P 56 v19 2) fun v20 =>
 pVal (indexV P 54 v20 v1) fun v21 =>
 pHld P S4 53 v21 fun v22 =>
 pNil v0 fun v25 =>
 pVal (fieldV P 103 v25 4) fun v26 =>
 pVal (indexV P 101 v26 v1) fun v27 =>
 pVal (fieldV P 100 v27 0) fun v28 =>
 pHld P S4 97 v28 fun v29 =>
 pAlloc P 53 fun v7 =>
 pKeep true S4 <|
 pSt P 53 v7 v22 <|
 pKeep true S4 <|
 pDraw fun S5 =>
 pVal (fieldV P 53 v7 2) fun v30 =>
 pHld P S5 3 v30 fun v31 =>
 pVal (fieldV P 53 v7 3) fun v32 =>
 pHld P S5 3 v32 fun v33 =>
 pVal (fieldV P 53 v7 4) fun v34 =>
 pHld P S5 24 v34 fun v35 =>
 pVal (lenBV P #[24] [v35]) fun v36 =>
 pNil v0 fun v40 =>
 pVal (fieldV P 103 v40 2) fun v41 =>
 pHld P S5 90 v41 fun v42 =>
 pNil v0 fun v46 =>
 pVal (fieldV P 103 v46 2) fun v47 =>
 pHld P S5 90 v47 fun v48 =>
 pNil v0 fun v60 =>
 pVal (fieldV P 103 v60 4) fun v61 =>
 pVal (indexV P 101 v61 v1) fun v62 =>
 pVal (fieldV P 100 v62 1) fun v63 =>
 pHld P S5 98 v63 fun v64 =>
 pCall P 55 [v29] fun v38 =>
 pKeep true S5 <|
 pCall P 56 [v42, v1] fun v44 =>
 pKeep true S5 <|
 pCall P 57 [v48, v1] fun v50 =>
 pKeep true S5 <|
 pCall P 58 [v29] fun v52 =>
 pKeep true S5 <|
 pCall P 59 [v29] fun v54 =>
 pKeep true S5 <|
 pVal (lenBV P #[24] [v54]) fun v55 =>
 pCall P 60 [v29] fun v57 =>
 pKeep true S5 <|
 pCall P 61 [v64] fun v65 =>
 pKeep true S5 <|
 pVal (binV P .add 3 v57 v65) fun v66 =>
 pVal (buildV P 43 [(0, v31), (1, v33), (2, v36), (3, v38), (4, v44), (5, v50), (6, v52), (7, v55), (8, v66)]) fun v67 =>
 pSt P 43 v4 v67 <|
 pRes P 43 v4 fun r4 =>
 R (.tuple #[r4, (.int .i64 0)]))
theorem tr15 (v0 v1 : Value) (R : Value → World → Prop) : trF P ag [] [] Tryz.f15 [v0, v1] R = G15 v0 v1 R := by kernel_rfl
theorem hb15 : hasBody P 15 = true := by kernel_rfl
theorem c15 {v0 v1 : Value} {K : Value → World → Prop} {w : World} (h : G15 v0 v1 K w) : pCall P 15 [v0, v1] K w := pCall_of mixed Tryz.func15 hb15 (tr15 v0 v1 K) h
/-- (*almshouse/house.House).Peek -/
@[irreducible] def G16 (v0 v1 v2 : Value) (R : Value → World → Prop) : World → Prop :=
 pCall P 54 [v0, v1] fun v11 =>
 pVal (binV P .neq 35 v11 (.int .i64 0)) fun v13 =>
 pIf v13
 (R (.tuple #[(.string { data := #[] }), v11]))
 (pNil v0 fun v17 =>
 pVal (fieldV P 103 v17 4) fun v18 =>
 pVal (indexV P 101 v18 v1) fun v19 =>
 pVal (fieldV P 100 v19 0) fun v20 =>
 pLd P 97 v20 fun v21 =>
 pCall P 62 [v21, v2] fun v23 =>
 pVal (extractV v23 0) fun v24 =>
 pVal (extractV v23 1) fun v25 =>
 R (.tuple #[v24, v25]))
theorem tr16 (v0 v1 v2 : Value) (R : Value → World → Prop) : trF P ag [] [] Tryz.f16 [v0, v1, v2] R = G16 v0 v1 v2 R := by kernel_rfl
theorem hb16 : hasBody P 16 = true := by kernel_rfl
theorem c16 {v0 v1 v2 : Value} {K : Value → World → Prop} {w : World} (h : G16 v0 v1 v2 K w) : pCall P 16 [v0, v1, v2] K w := pCall_of mixed Tryz.func16 hb16 (tr16 v0 v1 v2 K) h
/-- (*almshouse/house.House).Create -/
@[irreducible] def G17 (v0 v1 v2 v3 : Value) (R : Value → World → Prop) : World → Prop :=
 pNew 38 v0 fun v4 =>
 pNew 3 v1 fun v5 =>
 pLd P 38 v4 fun v16 =>
 pCall P 14 [v16] fun v17 =>
 pVal (unV .not v17) fun v18 =>
 pIf v18
 (R (.int .i64 12))
 (pJoin1 (fun J4 =>
 pDraw fun S3 =>
 pHld P S3 38 v4 fun v20 =>
 pNil v20 fun v21 =>
 pVal (fieldV P 103 v21 3) fun v22 =>
 pHld P S3 56 v22 fun v23 =>
 pHld P S3 3 v5 fun v24 =>
 pAnd (pCall P 63 [v23, v24, v2, v3, (.slice none 0 0)] fun v27 =>
 pKeep true S3 <|
 pVal (extractV v27 0) fun v28 =>
 pVal (extractV v27 1) fun v29 =>
 pAlloc P 56 fun v9 =>
 pKeep true S3 <|
 pSt P 56 v9 v28 <|
 J4 v29) (pAlloc P 56 fun v9 =>
 pKeep true S3 <|
 pCall P 63 [v23, v24, v2, v3, (.slice none 0 0)] fun v27 =>
 pKeep true S3 <|
 pVal (extractV v27 0) fun v28 =>
 pVal (extractV v27 1) fun v29 =>
 pSt P 56 v9 v28 <|
 J4 v29))
 (fun v10 =>
 pVal (binV P .neq 35 v10 (.int .i64 0)) fun v31 =>
 pIf v31
 (R v10)
 (pDraw fun S6 =>
 pHld P S6 38 v4 fun v33 =>
 pHld P S6 38 v4 fun v37 =>
 pCall P 64 [v33] fun v34 =>
 pKeep true S6 <|
 pCall P 66 [v37] fun v38 =>
 pKeep true S6 <|
 pCall P 65 [v2, v3, v38] fun v39 =>
 pKeep true S6 <|
 pVal (lenBV P #[24] [v34]) fun v41 =>
 pVal (binV P .lss 3 v41 v39) fun v43 =>
 pIf v43
 (R (.int .i64 8))
 (pVal (sliceV P 24 v34 none (some v39) none) fun v46 =>
 pLd P 38 v4 fun v47 =>
 pCall P 67 [v47, v46] fun v49 =>
 pVal (binV P .neq 35 v49 (.int .i64 0)) fun v51 =>
 pIf v51
 (pLd P 38 v4 fun v52 =>
 pCall P 68 [v52] fun _ =>
 R v49)
 (pJoin2 (fun J15 =>
 pDraw fun S14 =>
 pHld P S14 38 v4 fun v56 =>
 pNil v56 fun v57 =>
 pVal (fieldV P 103 v57 3) fun v58 =>
 pHld P S14 56 v58 fun v59 =>
 pHld P S14 3 v5 fun v60 =>
 pAnd (pCall P 63 [v59, v60, v2, v3, v46] fun v64 =>
 pKeep true S14 <|
 pVal (extractV v64 0) fun v65 =>
 pVal (extractV v64 1) fun v66 =>
 pAlloc P 56 fun v14 =>
 pKeep true S14 <|
 pSt P 56 v14 v65 <|
 J15 v14 v66) (pAlloc P 56 fun v14 =>
 pKeep true S14 <|
 pCall P 63 [v59, v60, v2, v3, v46] fun v64 =>
 pKeep true S14 <|
 pVal (extractV v64 0) fun v65 =>
 pVal (extractV v64 1) fun v66 =>
 pSt P 56 v14 v65 <|
 J15 v14 v66))
 (fun v14 v15 =>
 pLd P 38 v4 fun v67 =>
 pLd P 56 v14 fun v68 =>
 pCall P 69 [v67, v68, v15, (.func (.func 70) #[] #[v4, v5, v14])] fun v71 =>
 R v71))))))
theorem tr17 (v0 v1 v2 v3 : Value) (R : Value → World → Prop) : trF P ag [(4, [10]), (15, [14, 15])] [] Tryz.f17 [v0, v1, v2, v3] R = G17 v0 v1 v2 v3 R := by kernel_rfl
theorem hb17 : hasBody P 17 = true := by kernel_rfl
theorem c17 {v0 v1 v2 v3 : Value} {K : Value → World → Prop} {w : World} (h : G17 v0 v1 v2 v3 K w) : pCall P 17 [v0, v1, v2, v3] K w := pCall_of mixed Tryz.func17 hb17 (tr17 v0 v1 v2 v3 K) h
/-- (*almshouse/house.House).Destroy -/
@[irreducible] def G18 (v0 v1 : Value) (R : Value → World → Prop) : World → Prop :=
 pNew 38 v0 fun v2 =>
 pNew 3 v1 fun v3 =>
 pLd P 38 v2 fun v7 =>
 pCall P 14 [v7] fun v8 =>
 pVal (unV .not v8) fun v9 =>
 pIf v9
 (R (.int .i64 12))
 (pJoin2 (fun J4 =>
 pDraw fun S3 =>
 pHld P S3 38 v2 fun v11 =>
 pNil v11 fun v12 =>
 pVal (fieldV P 103 v12 3) fun v13 =>
 pHld P S3 56 v13 fun v14 =>
 pHld P S3 3 v3 fun v15 =>
 pAnd (pCall P 72 [v14, v15] fun v16 =>
 pKeep true S3 <|
 pVal (extractV v16 0) fun v17 =>
 pVal (extractV v16 1) fun v18 =>
 pAlloc P 56 fun v5 =>
 pKeep true S3 <|
 pSt P 56 v5 v17 <|
 J4 v5 v18) (pAlloc P 56 fun v5 =>
 pKeep true S3 <|
 pCall P 72 [v14, v15] fun v16 =>
 pKeep true S3 <|
 pVal (extractV v16 0) fun v17 =>
 pVal (extractV v16 1) fun v18 =>
 pSt P 56 v5 v17 <|
 J4 v5 v18))
 (fun v5 v6 =>
 pVal (binV P .neq 35 v6 (.int .i64 0)) fun v20 =>
 pIf v20
 (R v6)
 (pLd P 38 v2 fun v22 =>
 pLd P 56 v5 fun v23 =>
 pCall P 69 [v22, v23, v6, (.func (.func 73) #[] #[v2, v3])] fun v26 =>
 R v26)))
theorem tr18 (v0 v1 : Value) (R : Value → World → Prop) : trF P ag [(4, [5, 6])] [] Tryz.f18 [v0, v1] R = G18 v0 v1 R := by kernel_rfl
theorem hb18 : hasBody P 18 = true := by kernel_rfl
theorem c18 {v0 v1 : Value} {K : Value → World → Prop} {w : World} (h : G18 v0 v1 K w) : pCall P 18 [v0, v1] K w := pCall_of mixed Tryz.func18 hb18 (tr18 v0 v1 K) h
/-- (*almshouse/house.House).Resize -/
@[irreducible] def G19 (v0 v1 v2 : Value) (R : Value → World → Prop) : World → Prop :=
 pNew 3 v2 fun v5 =>
 pCall P 14 [v0] fun v14 =>
 pVal (unV .not v14) fun v15 =>
 pIf v15
 (R (.int .i64 12))
 (pJoin1 (fun J4 =>
 pDraw fun S3 =>
 pNil v0 fun v18 =>
 pVal (fieldV P 103 v18 3) fun v19 =>
 pHld P S3 56 v19 fun v20 =>
 pHld P S3 3 v5 fun v22 =>
 pAnd (pCall P 75 [v20, v1, v22, (.slice none 0 0)] fun v23 =>
 pKeep true S3 <|
 pVal (extractV v23 0) fun v24 =>
 pVal (extractV v23 1) fun v25 =>
 pAlloc P 56 fun v7 =>
 pKeep true S3 <|
 pSt P 56 v7 v24 <|
 J4 v25) (pAlloc P 56 fun v7 =>
 pKeep true S3 <|
 pCall P 75 [v20, v1, v22, (.slice none 0 0)] fun v23 =>
 pKeep true S3 <|
 pVal (extractV v23 0) fun v24 =>
 pVal (extractV v23 1) fun v25 =>
 pSt P 56 v7 v24 <|
 J4 v25))
 (fun v8 =>
 pVal (binV P .neq 35 v8 (.int .i64 0)) fun v27 =>
 pIf v27
 (R v8)
 (pNil v0 fun v31 =>
 pVal (fieldV P 103 v31 4) fun v32 =>
 pVal (indexV P 101 v32 v1) fun v33 =>
 pVal (fieldV P 100 v33 0) fun v34 =>
 pLd P 97 v34 fun v35 =>
 pAlloc P 97 fun v9 =>
 pSt P 97 v9 v35 <|
 pLd P 97 v9 fun v36 =>
 pCall P 58 [v36] fun v37 =>
 pIf v37
 (R (.int .i64 13))
 (pLd P 3 v5 fun v41 =>
 pCall P 76 [v0, v1, v41] fun v42 =>
 pVal (extractV v42 0) fun v43 =>
 pVal (extractV v42 1) fun v44 =>
 pAlloc P 24 fun v10 =>
 pSt P 24 v10 v43 <|
 pVal (binV P .neq 35 v44 (.int .i64 0)) fun v46 =>
 pIf v46
 (R v44)
 (pJoin1 (fun J15 =>
 pLd P 97 v9 fun v49 =>
 pLd P 3 v5 fun v50 =>
 pCall P 77 [v0, v49, v50] fun v51 =>
 pVal (binV P .eql 35 v51 (.int .i64 0)) fun v53 =>
 pIf v53
 (pLd P 24 v10 fun v55 =>
 pCall P 67 [v0, v55] fun v56 =>
 J15 v56)
 (J15 v51))
 (fun v11 =>
 pVal (binV P .neq 35 v11 (.int .i64 0)) fun v58 =>
 pIf v58
 (pCall P 68 [v0] fun _ =>
 R v11)
 (pJoin2 (fun J19 =>
 pDraw fun S18 =>
 pNil v0 fun v64 =>
 pVal (fieldV P 103 v64 3) fun v65 =>
 pHld P S18 56 v65 fun v66 =>
 pHld P S18 3 v5 fun v68 =>
 pHld P S18 24 v10 fun v69 =>
 pAnd (pCall P 75 [v66, v1, v68, v69] fun v70 =>
 pKeep true S18 <|
 pVal (extractV v70 0) fun v71 =>
 pVal (extractV v70 1) fun v72 =>
 pAlloc P 56 fun v12 =>
 pKeep true S18 <|
 pSt P 56 v12 v71 <|
 J19 v72 v12) (pAlloc P 56 fun v12 =>
 pKeep true S18 <|
 pCall P 75 [v66, v1, v68, v69] fun v70 =>
 pKeep true S18 <|
 pVal (extractV v70 0) fun v71 =>
 pVal (extractV v70 1) fun v72 =>
 pSt P 56 v12 v71 <|
 J19 v72 v12))
 (fun v11_1 v12 =>
 pLd P 56 v12 fun v74 =>
 pCall P 69 [v0, v74, v11_1, (.func (.func 78) #[] #[v9, v5, v10])] fun v77 =>
 R v77))))))))
theorem tr19 (v0 v1 v2 : Value) (R : Value → World → Prop) : trF P ag [(4, [8]), (15, [11]), (19, [11, 12])] [] Tryz.f19 [v0, v1, v2] R = G19 v0 v1 v2 R := by kernel_rfl
theorem hb19 : hasBody P 19 = true := by kernel_rfl
theorem c19 {v0 v1 v2 : Value} {K : Value → World → Prop} {w : World} (h : G19 v0 v1 v2 K w) : pCall P 19 [v0, v1, v2] K w := pCall_of mixed Tryz.func19 hb19 (tr19 v0 v1 v2 K) h
/-- (*almshouse/house.House).Swap -/
@[irreducible] def G20 (v0 v1 v2 : Value) (R : Value → World → Prop) : World → Prop :=
 pNew 3 v1 fun v4 =>
 pNew 3 v2 fun v5 =>
 pLd P 3 v4 fun v18 =>
 pLd P 3 v5 fun v19 =>
 pRow P 24 2 [(0, v18), (1, v19)] fun v20 =>
 pVal (lenBV P #[24] [v20]) fun v21 =>
 pLoop1 (fun ag2 v22 =>
 pVal (binV P .lss 3 v22 v21) fun v23 =>
 pIf v23
 (pVal (indexV P 24 v20 v22) fun v24 =>
 pLd P 3 v24 fun v25 =>
 pCall P 54 [v0, v25] fun v28 =>
 pVal (binV P .neq 35 v28 (.int .i64 0)) fun v30 =>
 pIf v30
 (R v28)
 (pVal (binV P .add 3 v22 (.int .i64 1)) fun v32 =>
 ag2 v32))
 (pLd P 3 v4 fun v33 =>
 pLd P 3 v5 fun v34 =>
 pVal (binV P .eql 3 v33 v34) fun v35 =>
 pIf v35
 (R (.int .i64 1))
 (pJoin2 (fun J11 =>
 pDraw fun S10 =>
 pHld P S10 3 v4 fun v37 =>
 pNil v0 fun v38 =>
 pVal (fieldV P 103 v38 4) fun v39 =>
 pVal (indexV P 101 v39 v37) fun v40 =>
 pVal (fieldV P 100 v40 0) fun v41 =>
 pHld P S10 97 v41 fun v42 =>
 pHld P S10 3 v5 fun v44 =>
 pNil v0 fun v45 =>
 pVal (fieldV P 103 v45 4) fun v46 =>
 pVal (indexV P 101 v46 v44) fun v47 =>
 pVal (fieldV P 100 v47 0) fun v48 =>
 pHld P S10 97 v48 fun v49 =>
 pAnd (pAlloc P 97 fun v10 =>
 pKeep true S10 <|
 pAlloc P 97 fun v11 =>
 pKeep true S10 <|
 pSt P 97 v10 v42 <|
 pKeep true S10 <|
 pSt P 97 v11 v49 <|
 J11 v10 v11) (pAlloc P 97 fun v11 =>
 pKeep true S10 <|
 pAlloc P 97 fun v10 =>
 pKeep true S10 <|
 pSt P 97 v10 v42 <|
 pKeep true S10 <|
 pSt P 97 v11 v49 <|
 J11 v10 v11))
 (fun v10 v11 =>
 pLd P 97 v10 fun v51 =>
 pCall P 80 [v51] fun v52 =>
 pVal (extractV v52 0) fun v53 =>
 pVal (extractV v52 1) fun v54 =>
 pAlloc P 3 fun v12 =>
 pSt P 3 v12 v53 <|
 pLd P 97 v11 fun v56 =>
 pCall P 80 [v56] fun v57 =>
 pVal (extractV v57 0) fun v58 =>
 pVal (extractV v57 1) fun v59 =>
 pAlloc P 3 fun v14 =>
 pSt P 3 v14 v58 <|
 pJoin0 (fun J15 =>
 pLd P 97 v10 fun v60 =>
 pCall P 58 [v60] fun v61 =>
 pGuard v61 false
 (pLd P 97 v11 fun v63 =>
 pCall P 58 [v63] fun v64 =>
 pGuard v64 false
 (pVal (unV .not v54) fun v68 =>
 pGuard v68 false
 (pVal (unV .not v59) fun v72 =>
 pIf v72
 (R (.int .i64 13))
 (J15))
 (pIf (.bool true)
 (R (.int .i64 13))
 (J15)))
 (pIf (.bool true)
 (R (.int .i64 13))
 (J15)))
 (pIf (.bool true)
 (R (.int .i64 13))
 (J15)))
 (pJoin2 (fun J16 =>
 pDraw fun S15 =>
 pNil v0 fun v76 =>
 pVal (fieldV P 103 v76 3) fun v77 =>
 pHld P S15 56 v77 fun v78 =>
 pHld P S15 3 v4 fun v79 =>
 pHld P S15 3 v12 fun v80 =>
 pHld P S15 3 v5 fun v81 =>
 pHld P S15 3 v14 fun v82 =>
 pAnd (pCall P 81 [v78, v79, v80, v81, v82] fun v83 =>
 pKeep true S15 <|
 pVal (extractV v83 0) fun v84 =>
 pVal (extractV v83 1) fun v85 =>
 pAlloc P 56 fun v16 =>
 pKeep true S15 <|
 pSt P 56 v16 v84 <|
 J16 v16 v85) (pAlloc P 56 fun v16 =>
 pKeep true S15 <|
 pCall P 81 [v78, v79, v80, v81, v82] fun v83 =>
 pKeep true S15 <|
 pVal (extractV v83 0) fun v84 =>
 pVal (extractV v83 1) fun v85 =>
 pSt P 56 v16 v84 <|
 J16 v16 v85))
 (fun v16 v17 =>
 pLd P 56 v16 fun v87 =>
 pCall P 69 [v0, v87, v17, (.func (.func 82) #[] #[v10, v12, v16, v4, v11, v14, v5])] fun v90 =>
 R v90)))))) (.int .i64 0)
theorem tr20 (v0 v1 v2 : Value) (R : Value → World → Prop) : trF P ag [(11, [10, 11]), (15, []), (16, [16, 17])] [(263, [22])] Tryz.f20 [v0, v1, v2] R = G20 v0 v1 v2 R := by kernel_rfl
theorem hb20 : hasBody P 20 = true := by kernel_rfl
theorem c20 {v0 v1 v2 : Value} {K : Value → World → Prop} {w : World} (h : G20 v0 v1 v2 K w) : pCall P 20 [v0, v1, v2] K w := pCall_of mixed Tryz.func20 hb20 (tr20 v0 v1 v2 K) h
/-- (*almshouse/house.House).Submit -/
@[irreducible] def G21 (v0 v1 v2 : Value) (R : Value → World → Prop) : World → Prop :=
 pNew 30 v2 fun v5 =>
 pCall P 54 [v0, v1] fun v10 =>
 pVal (binV P .neq 35 v10 (.int .i64 0)) fun v12 =>
 pIf v12
 (R v10)
 (pDraw fun S4 =>
 pNil v0 fun v16 =>
 pVal (fieldV P 103 v16 4) fun v17 =>
 pVal (indexV P 101 v17 v1) fun v18 =>
 pVal (fieldV P 100 v18 1) fun v19 =>
 pHld P S4 98 v19 fun v20 =>
 pHld P S4 30 v5 fun v21 =>
 pCall P 84 [v20, v21] fun v22 =>
 R v22)
theorem tr21 (v0 v1 v2 : Value) (R : Value → World → Prop) : trF P ag [] [] Tryz.f21 [v0, v1, v2] R = G21 v0 v1 v2 R := by kernel_rfl
theorem hb21 : hasBody P 21 = true := by kernel_rfl
theorem c21 {v0 v1 v2 : Value} {K : Value → World → Prop} {w : World} (h : G21 v0 v1 v2 K w) : pCall P 21 [v0, v1, v2] K w := pCall_of mixed Tryz.func21 hb21 (tr21 v0 v1 v2 K) h
/-- (*almshouse/house.House).Slot -/
@[irreducible] def G22 (v0 : Value) (R : Value → World → Prop) : World → Prop :=
 pCall P 14 [v0] fun v10 =>
 pVal (unV .not v10) fun v11 =>
 pIf v11
 (R (.bool false))
 (pNil v0 fun v13 =>
 pVal (fieldV P 103 v13 5) fun v14 =>
 pLd P 3 v14 fun v15 =>
 pNil v0 fun v17 =>
 pVal (fieldV P 103 v17 5) fun v18 =>
 pLd P 3 v18 fun v19 =>
 pVal (binV P .add 3 v19 (.int .i64 1)) fun v20 =>
 pNil v0 fun v21 =>
 pVal (fieldV P 103 v21 5) fun v22 =>
 pSt P 3 v22 v20 <|
 pVal (binV P .rem 3 v15 (.int .i64 4)) fun v24 =>
 pCall P 54 [v0, v24] fun v27 =>
 pVal (binV P .neq 35 v27 (.int .i64 0)) fun v28 =>
 pIf v28
 (R (.bool false))
 (pNil v0 fun v32 =>
 pVal (fieldV P 103 v32 4) fun v33 =>
 pVal (indexV P 101 v33 v24) fun v34 =>
 pVal (fieldV P 100 v34 1) fun v35 =>
 pLd P 98 v35 fun v36 =>
 pCall P 85 [v36] fun v37 =>
 pVal (extractV v37 0) fun v38 =>
 pVal (extractV v37 1) fun v39 =>
 pAlloc P 30 fun v5 =>
 pSt P 30 v5 v38 <|
 pVal (unV .not v39) fun v41 =>
 pIf v41
 (R (.bool false))
 (pDraw fun S11 =>
 pNil v0 fun v45 =>
 pVal (fieldV P 103 v45 4) fun v46 =>
 pVal (indexV P 101 v46 v24) fun v47 =>
 pVal (fieldV P 100 v47 0) fun v48 =>
 pHld P S11 97 v48 fun v49 =>
 pHld P S11 30 v5 fun v50 =>
 pCall P 86 [v49, v50] fun v51 =>
 pVal (extractV v51 0) fun v52 =>
 pVal (extractV v51 1) fun v53 =>
 pJoin0 (fun J14 =>
 pVal (binV P .neq 35 v53 (.int .i64 12)) fun v55 =>
 pIf v55
 (pNil v0 fun v58 =>
 pVal (fieldV P 103 v58 4) fun v59 =>
 pVal (indexV P 101 v59 v24) fun v60 =>
 pVal (fieldV P 100 v60 1) fun v61 =>
 pLd P 98 v61 fun v62 =>
 pVal (buildV P 88 [(0, v15), (1, v53), (2, v52)]) fun v66 =>
 pCall P 87 [v62, v66] fun _ =>
 J14)
 (J14))
 (pCall P 68 [v0] fun _ =>
 pVal (binV P .neq 35 v53 (.int .i64 12)) fun v71 =>
 R v71))))
theorem tr22 (v0 : Value) (R : Value → World → Prop) : trF P ag [(14, [])] [] Tryz.f22 [v0] R = G22 v0 R := by kernel_rfl
theorem hb22 : hasBody P 22 = true := by kernel_rfl
theorem c22 {v0 : Value} {K : Value → World → Prop} {w : World} (h : G22 v0 K w) : pCall P 22 [v0] K w := pCall_of mixed Tryz.func22 hb22 (tr22 v0 K) h
/-- (*almshouse/house.House).Ledger -/
@[irreducible] def G23 (v0 : Value) (R : Value → World → Prop) : World → Prop :=
 pAlloc P 56 fun v2 =>
 pVal (binV P .eql 38 v0 (.pointer none)) fun v4 =>
 pIf v4
 (pVal (buildV P 56 []) fun v5 =>
 pSt P 56 v2 v5 <|
 pRes P 56 v2 fun r2 =>
 R r2)
 (pNil v0 fun v7 =>
 pVal (fieldV P 103 v7 3) fun v8 =>
 pLd P 56 v8 fun v9 =>
 pCall P 88 [v9] fun v10 =>
 pSt P 56 v2 v10 <|
 pRes P 56 v2 fun r2 =>
 R r2)
theorem tr23 (v0 : Value) (R : Value → World → Prop) : trF P ag [] [] Tryz.f23 [v0] R = G23 v0 R := by kernel_rfl
theorem hb23 : hasBody P 23 = true := by kernel_rfl
theorem c23 {v0 : Value} {K : Value → World → Prop} {w : World} (h : G23 v0 K w) : pCall P 23 [v0] K w := pCall_of mixed Tryz.func23 hb23 (tr23 v0 K) h
end Go.Al

namespace Go.Al
open Go Go.Proofs
/-- (*almshouse/house.House).Array -/
@[irreducible] def G24 (v0 : Value) (R : Value → World → Prop) : World → Prop :=
 pVal (binV P .eql 38 v0 (.pointer none)) fun v4 =>
 pIf v4
 (R (.pointer none))
 (pNil v0 fun v6 =>
 pVal (fieldV P 103 v6 0) fun v7 =>
 pLd P 58 v7 fun v8 =>
 R v8)
theorem tr24 (v0 : Value) (R : Value → World → Prop) : trF P ag [] [] Tryz.f24 [v0] R = G24 v0 R := by kernel_rfl
theorem hb24 : hasBody P 24 = true := by kernel_rfl
theorem c24 {v0 : Value} {K : Value → World → Prop} {w : World} (h : G24 v0 K w) : pCall P 24 [v0] K w := pCall_of mixed Tryz.func24 hb24 (tr24 v0 K) h
/-- (*almshouse/nand.Nand).Blocks -/
@[irreducible] def G25 (v0 : Value) (R : Value → World → Prop) : World → Prop :=
 pVal (binV P .eql 58 v0 (.pointer none)) fun v4 =>
 pIf v4
 (R (.int .i64 0))
 (pNil v0 fun v6 =>
 pVal (fieldV P 127 v6 3) fun v7 =>
 pLd P 125 v7 fun v8 =>
 pVal (lenBV P #[125] [v8]) fun v9 =>
 R v9)
theorem tr25 (v0 : Value) (R : Value → World → Prop) : trF P ag [] [] Tryz.f25 [v0] R = G25 v0 R := by kernel_rfl
theorem hb25 : hasBody P 25 = true := by kernel_rfl
theorem c25 {v0 : Value} {K : Value → World → Prop} {w : World} (h : G25 v0 K w) : pCall P 25 [v0] K w := pCall_of mixed Tryz.func25 hb25 (tr25 v0 K) h
/-- (*almshouse/nand.Nand).Bad -/
@[irreducible] def G26 (v0 v1 : Value) (R : Value → World → Prop) : World → Prop :=
 pCall P 89 [v0, v1] fun v8 =>
 pVal (binV P .neq 128 v8 (.pointer none)) fun v10 =>
 pGuard v10 true
 (pNil v8 fun v13 =>
 pVal (fieldV P 132 v13 2) fun v14 =>
 pLd P 4 v14 fun v15 =>
 R v15)
 (R (.bool false))
theorem tr26 (v0 v1 : Value) (R : Value → World → Prop) : trF P ag [] [] Tryz.f26 [v0, v1] R = G26 v0 v1 R := by kernel_rfl
theorem hb26 : hasBody P 26 = true := by kernel_rfl
theorem c26 {v0 v1 : Value} {K : Value → World → Prop} {w : World} (h : G26 v0 v1 K w) : pCall P 26 [v0, v1] K w := pCall_of mixed Tryz.func26 hb26 (tr26 v0 v1 K) h
theorem hb32 : hasBody P 32 = true := by kernel_rfl
/-- (*almshouse/house.House).Mount -/
@[irreducible] def G33 (v0 v1 : Value) (R : Value → World → Prop) : World → Prop :=
 pVal (binV P .eql 38 v0 (.pointer none)) fun v12 =>
 pIf v12
 (R (.int .i64 12))
 (pNil v0 fun v15 =>
 pVal (fieldV P 103 v15 6) fun v16 =>
 pLd P 4 v16 fun v17 =>
 pIf v17
 (R (.int .i64 7))
 (pNil v0 fun v19 =>
 pVal (fieldV P 103 v19 1) fun v20 =>
 pLd P 93 v20 fun v21 =>
 pCall P 96 [v21, v1] fun _ =>
 pNil v0 fun v26 =>
 pVal (fieldV P 103 v26 0) fun v27 =>
 pLd P 58 v27 fun v28 =>
 pCall P 97 [v28] fun v29 =>
 pVal (extractV v29 0) fun v30 =>
 pVal (extractV v29 1) fun v31 =>
 pAlloc P 56 fun v5 =>
 pSt P 56 v5 v30 <|
 pAlloc P 139 fun v7 =>
 pLoop2 (fun ag9 v6 v32 =>
 pVal (binV P .lss 3 v32 (.int .i64 4)) fun v33 =>
 pIf v33
 (pJoin1 (fun J12 =>
 pVal (binV P .eql 35 v6 (.int .i64 0)) fun v36 =>
 pGuard v36 true
 (pVal (fieldV P 56 v5 2) fun v39 =>
 pVal (indexV P 54 v39 v32) fun v40 =>
 pVal (fieldV P 53 v40 0) fun v41 =>
 pLd P 4 v41 fun v42 =>
 J12 v42)
 (J12 (.bool false)))
 (fun v43 =>
 pIf v43
 (pDraw fun S12 =>
 pNil v0 fun v47 =>
 pVal (fieldV P 103 v47 0) fun v48 =>
 pHld P S12 58 v48 fun v49 =>
 pVal (fieldV P 56 v5 2) fun v52 =>
 pVal (indexV P 54 v52 v32) fun v53 =>
 pHld P S12 53 v53 fun v54 =>
 pCall P 98 [v49, v32, v54] fun v55 =>
 pVal (extractV v55 0) fun v56 =>
 pVal (extractV v55 1) fun v57 =>
 pVal (indexV P 139 v7 v32) fun v58 =>
 pSt P 97 v58 v56 <|
 pVal (binV P .add 3 v32 (.int .i64 1)) fun v59 =>
 ag9 v57 v59)
 (pVal (binV P .add 3 v32 (.int .i64 1)) fun v59 =>
 ag9 v6 v59)))
 (pJoin1 (fun J15 =>
 pVal (binV P .neq 35 v6 (.int .i64 0)) fun v61 =>
 pGuard v61 false
 (pNil v0 fun v64 =>
 pVal (fieldV P 103 v64 1) fun v65 =>
 pLd P 93 v65 fun v66 =>
 pCall P 99 [v66] fun v67 =>
 J15 v67)
 (J15 (.bool true)))
 (fun v68 =>
 pIf v68
 (pNil v0 fun v70 =>
 pVal (fieldV P 103 v70 1) fun v71 =>
 pLd P 93 v71 fun v72 =>
 pCall P 100 [v72] fun _ =>
 R (.int .i64 12))
 (pNil v0 fun v75 =>
 pVal (fieldV P 103 v75 1) fun v76 =>
 pLd P 93 v76 fun v77 =>
 pCall P 96 [v77, (.int .i64 (-1))] fun _ =>
 pLd P 56 v5 fun v81 =>
 pNil v0 fun v82 =>
 pVal (fieldV P 103 v82 3) fun v83 =>
 pSt P 56 v83 v81 <|
 pNil v0 fun v84 =>
 pVal (fieldV P 103 v84 6) fun v85 =>
 pSt P 4 v85 (.bool true) <|
 pLoop1 (fun ag20 v86 =>
 pVal (binV P .lss 3 v86 (.int .i64 4)) fun v87 =>
 pIf v87
 (pDraw fun S22 =>
 pVal (indexV P 139 v7 v86) fun v92 =>
 pHld P S22 97 v92 fun v93 =>
 pNil v0 fun v94 =>
 pVal (fieldV P 103 v94 4) fun v95 =>
 pVal (indexV P 101 v95 v86) fun v96 =>
 pVal (fieldV P 100 v96 0) fun v97 =>
 pSt P 97 v97 v93 <|
 pVal (binV P .add 3 v86 (.int .i64 1)) fun v98 =>
 ag20 v98)
 (R (.int .i64 0))) (.int .i64 0))))) v31 (.int .i64 0)))
theorem tr33 (v0 v1 : Value) (R : Value → World → Prop) : trF P ag [(12, [43]), (15, [68])] [(1165, [6, 32]), (2583, [86])] Tryz.f33 [v0, v1] R = G33 v0 v1 R := by kernel_rfl
theorem hb33 : hasBody P 33 = true := by kernel_rfl
theorem c33 {v0 v1 : Value} {K : Value → World → Prop} {w : World} (h : G33 v0 v1 K w) : pCall P 33 [v0, v1] K w := pCall_of mixed Tryz.func33 hb33 (tr33 v0 v1 K) h
/-- almshouse/almshouseref10.Same -/
@[irreducible] def G34 (v0 v1 : Value) (R : Value → World → Prop) : World → Prop :=
 pNew 56 v0 fun v2 =>
 pNew 56 v1 fun v3 =>
 pJoin0 (fun J3 =>
 pVal (fieldV P 56 v2 0) fun v9 =>
 pLd P 3 v9 fun v10 =>
 pVal (fieldV P 56 v3 0) fun v11 =>
 pLd P 3 v11 fun v12 =>
 pVal (binV P .neq 3 v10 v12) fun v13 =>
 pGuard v13 false
 (pVal (fieldV P 56 v2 1) fun v15 =>
 pLd P 3 v15 fun v16 =>
 pVal (fieldV P 56 v3 1) fun v17 =>
 pLd P 3 v17 fun v18 =>
 pVal (binV P .neq 3 v16 v18) fun v19 =>
 pIf v19
 (R (.bool false))
 (J3))
 (pIf (.bool true)
 (R (.bool false))
 (J3)))
 (pVal (fieldV P 56 v2 2) fun v21 =>
 pLd P 54 v21 fun v22 =>
 pLoop1 (fun ag4 v23 =>
 pVal (binV P .lss 3 v23 (.int .i64 4)) fun v24 =>
 pIf v24
 (pRun P (Instr.index 54 v22 v23) fun v26 =>
 pAlloc P 53 fun v6 =>
 pSt P 53 v6 v26 <|
 pVal (fieldV P 56 v3 2) fun v28 =>
 pVal (indexV P 54 v28 v23) fun v29 =>
 pLd P 53 v29 fun v30 =>
 pAlloc P 53 fun v7 =>
 pSt P 53 v7 v30 <|
 pJoin0 (fun J9 =>
 pVal (fieldV P 53 v6 0) fun v31 =>
 pLd P 4 v31 fun v32 =>
 pVal (fieldV P 53 v7 0) fun v33 =>
 pLd P 4 v33 fun v34 =>
 pVal (binV P .neq 4 v32 v34) fun v35 =>
 pGuard v35 false
 (pVal (fieldV P 53 v6 1) fun v37 =>
 pLd P 3 v37 fun v38 =>
 pVal (fieldV P 53 v7 1) fun v39 =>
 pLd P 3 v39 fun v40 =>
 pVal (binV P .neq 3 v38 v40) fun v41 =>
 pGuard v41 false
 (pVal (fieldV P 53 v6 2) fun v44 =>
 pLd P 3 v44 fun v45 =>
 pVal (fieldV P 53 v7 2) fun v46 =>
 pLd P 3 v46 fun v47 =>
 pVal (binV P .neq 3 v45 v47) fun v48 =>
 pGuard v48 false
 (pVal (fieldV P 53 v6 3) fun v51 =>
 pLd P 3 v51 fun v52 =>
 pVal (fieldV P 53 v7 3) fun v53 =>
 pLd P 3 v53 fun v54 =>
 pVal (binV P .neq 3 v52 v54) fun v55 =>
 pGuard v55 false
 (pVal (fieldV P 53 v6 4) fun v58 =>
 pLd P 24 v58 fun v59 =>
 pVal (lenBV P #[24] [v59]) fun v60 =>
 pVal (fieldV P 53 v7 4) fun v61 =>
 pLd P 24 v61 fun v62 =>
 pVal (lenBV P #[24] [v62]) fun v63 =>
 pVal (binV P .neq 3 v60 v63) fun v64 =>
 pIf v64
 (R (.bool false))
 (J9))
 (pIf (.bool true)
 (R (.bool false))
 (J9)))
 (pIf (.bool true)
 (R (.bool false))
 (J9)))
 (pIf (.bool true)
 (R (.bool false))
 (J9)))
 (pIf (.bool true)
 (R (.bool false))
 (J9)))
 (pVal (fieldV P 53 v6 4) fun v66 =>
 pLd P 24 v66 fun v67 =>
 pVal (lenBV P #[24] [v67]) fun v68 =>
 pLoop1 (fun ag10 v69 =>
 pVal (binV P .lss 3 v69 v68) fun v70 =>
 pIf v70
 (pDraw fun S12 =>
 pVal (fieldV P 53 v6 4) fun v72 =>
 pHld P S12 24 v72 fun v73 =>
 pVal (indexV P 24 v73 v69) fun v75 =>
 pHld P S12 3 v75 fun v76 =>
 pVal (fieldV P 53 v7 4) fun v77 =>
 pHld P S12 24 v77 fun v78 =>
 pVal (indexV P 24 v78 v69) fun v80 =>
 pHld P S12 3 v80 fun v81 =>
 pVal (binV P .neq 3 v76 v81) fun v82 =>
 pIf v82
 (R (.bool false))
 (pVal (binV P .add 3 v69 (.int .i64 1)) fun v83 =>
 ag10 v83))
 (pVal (binV P .add 3 v23 (.int .i64 1)) fun v84 =>
 ag4 v84)) (.int .i64 0)))
 (R (.bool true))) (.int .i64 0))
theorem tr34 (v0 v1 : Value) (R : Value → World → Prop) : trF P ag [(3, []), (9, [])] [(527, [23]), (1294, [69])] Tryz.f34 [v0, v1] R = G34 v0 v1 R := by kernel_rfl
theorem hb34 : hasBody P 34 = true := by kernel_rfl
theorem c34 {v0 v1 : Value} {K : Value → World → Prop} {w : World} (h : G34 v0 v1 K w) : pCall P 34 [v0, v1] K w := pCall_of mixed Tryz.func34 hb34 (tr34 v0 v1 K) h
/-- (*almshouse/nand.Nand).Blank -/
@[irreducible] def G36 (v0 v1 : Value) (R : Value → World → Prop) : World → Prop :=
 pCall P 89 [v0, v1] fun v8 =>
 pVal (binV P .neq 128 v8 (.pointer none)) fun v10 =>
 pGuard v10 true
 (pNil v8 fun v13 =>
 pVal (fieldV P 132 v13 1) fun v14 =>
 pLd P 3 v14 fun v15 =>
 pVal (binV P .eql 3 v15 (.int .i64 0)) fun v16 =>
 R v16)
 (R (.bool false))
theorem tr36 (v0 v1 : Value) (R : Value → World → Prop) : trF P ag [] [] Tryz.f36 [v0, v1] R = G36 v0 v1 R := by kernel_rfl
theorem hb36 : hasBody P 36 = true := by kernel_rfl
theorem c36 {v0 v1 : Value} {K : Value → World → Prop} {w : World} (h : G36 v0 v1 K w) : pCall P 36 [v0, v1] K w := pCall_of mixed Tryz.func36 hb36 (tr36 v0 v1 K) h
/-- (*almshouse/house.House).Cut -/
@[irreducible] def G37 (v0 : Value) (R : Value → World → Prop) : World → Prop :=
 pVal (binV P .neq 38 v0 (.pointer none)) fun v3 =>
 pIf v3
 (pNil v0 fun v5 =>
 pVal (fieldV P 103 v5 1) fun v6 =>
 pLd P 93 v6 fun v7 =>
 pCall P 100 [v7] fun _ =>
 pCall P 68 [v0] fun _ =>
 R (.tuple #[]))
 (R (.tuple #[]))
theorem tr37 (v0 : Value) (R : Value → World → Prop) : trF P ag [] [] Tryz.f37 [v0] R = G37 v0 R := by kernel_rfl
theorem hb37 : hasBody P 37 = true := by kernel_rfl
theorem c37 {v0 : Value} {K : Value → World → Prop} {w : World} (h : G37 v0 K w) : pCall P 37 [v0] K w := pCall_of mixed Tryz.func37 hb37 (tr37 v0 K) h
/-- (*almshouse/house.House).Budget -/
@[irreducible] def G38 (v0 v1 : Value) (R : Value → World → Prop) : World → Prop :=
 pCall P 14 [v0] fun v5 =>
 pIf v5
 (pNil v0 fun v7 =>
 pVal (fieldV P 103 v7 1) fun v8 =>
 pLd P 93 v8 fun v9 =>
 pCall P 96 [v9, v1] fun _ =>
 R (.tuple #[]))
 (R (.tuple #[]))
theorem tr38 (v0 v1 : Value) (R : Value → World → Prop) : trF P ag [] [] Tryz.f38 [v0, v1] R = G38 v0 v1 R := by kernel_rfl
theorem hb38 : hasBody P 38 = true := by kernel_rfl
theorem c38 {v0 v1 : Value} {K : Value → World → Prop} {w : World} (h : G38 v0 v1 K w) : pCall P 38 [v0, v1] K w := pCall_of mixed Tryz.func38 hb38 (tr38 v0 v1 K) h
/-- (*almshouse/house.House).Slots -/
@[irreducible] def G39 (v0 : Value) (R : Value → World → Prop) : World → Prop :=
 pVal (binV P .eql 38 v0 (.pointer none)) fun v4 =>
 pIf v4
 (R (.int .i64 0))
 (pNil v0 fun v6 =>
 pVal (fieldV P 103 v6 5) fun v7 =>
 pLd P 3 v7 fun v8 =>
 R v8)
theorem tr39 (v0 : Value) (R : Value → World → Prop) : trF P ag [] [] Tryz.f39 [v0] R = G39 v0 R := by kernel_rfl
theorem hb39 : hasBody P 39 = true := by kernel_rfl
theorem c39 {v0 : Value} {K : Value → World → Prop} {w : World} (h : G39 v0 K w) : pCall P 39 [v0] K w := pCall_of mixed Tryz.func39 hb39 (tr39 v0 K) h
/-- (*almshouse/house.House).Ops -/
@[irreducible] def G40 (v0 : Value) (R : Value → World → Prop) : World → Prop :=
 pVal (binV P .eql 38 v0 (.pointer none)) fun v4 =>
 pIf v4
 (R (.int .i64 0))
 (pNil v0 fun v6 =>
 pVal (fieldV P 103 v6 1) fun v7 =>
 pLd P 93 v7 fun v8 =>
 pCall P 101 [v8] fun v9 =>
 R v9)
theorem tr40 (v0 : Value) (R : Value → World → Prop) : trF P ag [] [] Tryz.f40 [v0] R = G40 v0 R := by kernel_rfl
theorem hb40 : hasBody P 40 = true := by kernel_rfl
theorem c40 {v0 : Value} {K : Value → World → Prop} {w : World} (h : G40 v0 K w) : pCall P 40 [v0] K w := pCall_of mixed Tryz.func40 hb40 (tr40 v0 K) h
/-- (*almshouse/house.House).Done -/
@[irreducible] def G41 (v0 v1 : Value) (R : Value → World → Prop) : World → Prop :=
 pJoin0 (fun J3 =>
 pVal (binV P .eql 38 v0 (.pointer none)) fun v6 =>
 pGuard v6 false
 (pVal (binV P .lss 3 v1 (.int .i64 0)) fun v9 =>
 pGuard v9 false
 (pVal (binV P .geq 3 v1 (.int .i64 4)) fun v13 =>
 pIf v13
 (R (.slice none 0 0))
 (J3))
 (pIf (.bool true)
 (R (.slice none 0 0))
 (J3)))
 (pIf (.bool true)
 (R (.slice none 0 0))
 (J3)))
 (pNil v0 fun v17 =>
 pVal (fieldV P 103 v17 4) fun v18 =>
 pVal (indexV P 101 v18 v1) fun v19 =>
 pVal (fieldV P 100 v19 1) fun v20 =>
 pLd P 98 v20 fun v21 =>
 pCall P 102 [v21] fun v22 =>
 R v22)
theorem tr41 (v0 v1 : Value) (R : Value → World → Prop) : trF P ag [(3, [])] [] Tryz.f41 [v0, v1] R = G41 v0 v1 R := by kernel_rfl
theorem hb41 : hasBody P 41 = true := by kernel_rfl
theorem c41 {v0 v1 : Value} {K : Value → World → Prop} {w : World} (h : G41 v0 v1 K w) : pCall P 41 [v0, v1] K w := pCall_of mixed Tryz.func41 hb41 (tr41 v0 v1 K) h
/-- almshouse/almshouselaw21.small -/
@[irreducible] def G48 (v0 v1 : Value) (R : Value → World → Prop) : World → Prop :=
 pAlloc P 27 fun v4 =>
 pVal (buildV P 23 [(0, (.int .i64 2)), (1, (.int .i64 1)), (2, v0), (3, v1)]) fun v7 =>
 pVal (buildV P 27 [(0, v7)]) fun v8 =>
 pSt P 27 v4 v8 <|
 pRes P 27 v4 fun r4 =>
 R r4
theorem tr48 (v0 v1 : Value) (R : Value → World → Prop) : trF P ag [] [] Tryz.f48 [v0, v1] R = G48 v0 v1 R := by kernel_rfl
theorem hb48 : hasBody P 48 = true := by kernel_rfl
theorem c48 {v0 v1 : Value} {K : Value → World → Prop} {w : World} (h : G48 v0 v1 K w) : pCall P 48 [v0, v1] K w := pCall_of mixed Tryz.func48 hb48 (tr48 v0 v1 K) h
/-- almshouse/draws.New -/
@[irreducible] def G50 (v0 : Value) (R : Value → World → Prop) : World → Prop :=
 pNew 25 v0 fun v1 =>
 pLd P 25 v1 fun v9 =>
 pLoop1 (fun ag2 v10 =>
 pVal (binV P .lss 3 v10 (.int .i64 4)) fun v11 =>
 pIf v11
 (pRun P (Instr.index 25 v9 v10) fun v12 =>
 pVal (lenBV P #[24] [v12]) fun v14 =>
 pVal (binV P .gtr 3 v14 (.int .i64 64)) fun v15 =>
 pIf v15
 (R (.tuple #[(.pointer none), (.int .i64 4)]))
 (pVal (binV P .add 3 v10 (.int .i64 1)) fun v16 =>
 ag2 v16))
 (pVal (buildV P 155 []) fun v17 =>
 pNew 155 v17 fun v18 =>
 pLd P 25 v1 fun v19 =>
 pLoop1 (fun ag9 v20 =>
 pVal (binV P .lss 3 v20 (.int .i64 4)) fun v21 =>
 pIf v21
 (pRun P (Instr.index 25 v19 v20) fun v23 =>
 pJoin0 (fun J13 =>
 pVal (lenBV P #[24] [v23]) fun v25 =>
 pVal (binV P .gtr 3 v25 (.int .i64 0)) fun v26 =>
 pGuard v26 true
 (pCall P 107 [v23] fun v29 =>
 pVal (binV P .lss 3 v29 (.int .i64 1)) fun v30 =>
 pIf v30
 (R (.tuple #[(.pointer none), (.int .i64 5)]))
 (J13))
 (pIf (.bool false)
 (R (.tuple #[(.pointer none), (.int .i64 5)]))
 (J13)))
 (pDraw fun S13 =>
 pNil v18 fun v36 =>
 pVal (fieldV P 155 v36 0) fun v37 =>
 pCall P 108 [v23] fun v35 =>
 pVal (indexV P 153 v37 v20) fun v38 =>
 pVal (fieldV P 152 v38 0) fun v39 =>
 pSt P 24 v39 v35 <|
 pVal (binV P .add 3 v20 (.int .i64 1)) fun v40 =>
 ag9 v40))
 (R (.tuple #[v18, (.int .i64 0)]))) (.int .i64 0))) (.int .i64 0)
theorem tr50 (v0 : Value) (R : Value → World → Prop) : trF P ag [(13, [])] [(262, [10]), (1166, [20])] Tryz.f50 [v0] R = G50 v0 R := by kernel_rfl
theorem hb50 : hasBody P 50 = true := by kernel_rfl
theorem c50 {v0 : Value} {K : Value → World → Prop} {w : World} (h : G50 v0 K w) : pCall P 50 [v0] K w := pCall_of mixed Tryz.func50 hb50 (tr50 v0 K) h
/-- almshouse/power.New -/
@[irreducible] def G51 (v0 : Value) (R : Value → World → Prop) : World → Prop :=
 pVal (buildV P 162 []) fun v4 =>
 pNew 162 v4 fun v5 =>
 pNil v5 fun v7 =>
 pVal (fieldV P 162 v7 0) fun v8 =>
 pCall P 109 [v8, v0] fun _ =>
 R v5
theorem tr51 (v0 : Value) (R : Value → World → Prop) : trF P ag [] [] Tryz.f51 [v0] R = G51 v0 R := by kernel_rfl
theorem hb51 : hasBody P 51 = true := by kernel_rfl
theorem c51 {v0 : Value} {K : Value → World → Prop} {w : World} (h : G51 v0 K w) : pCall P 51 [v0] K w := pCall_of mixed Tryz.func51 hb51 (tr51 v0 K) h
/-- almshouse/nand.New -/
@[irreducible] def G52 (v0 v1 v2 v3 : Value) (R : Value → World → Prop) : World → Prop :=
 pNew 23 v0 fun v4 =>
 pLd P 23 v4 fun v15 =>
 pCall P 110 [v15] fun v16 =>
 pVal (binV P .neq 35 v16 (.int .i64 0)) fun v18 =>
 pIf v18
 (R (.tuple #[(.pointer none), v16]))
 (pJoin0 (fun J6 =>
 pVal (binV P .eql 93 v1 (.pointer none)) fun v21 =>
 pGuard v21 false
 (pVal (binV P .eql 90 v2 (.pointer none)) fun v24 =>
 pIf v24
 (R (.tuple #[(.pointer none), (.int .i64 1)]))
 (J6))
 (pIf (.bool true)
 (R (.tuple #[(.pointer none), (.int .i64 1)]))
 (J6)))
 (pDraw fun S6 =>
 pHld P S6 23 v4 fun v26 =>
 pHld P S6 23 v4 fun v29 =>
 pCall P 111 [v29] fun v30 =>
 pKeep true S6 <|
 pRun P (Instr.makeSlice 125 v30 v30) fun v31 =>
 pKeep true S6 <|
 pVal (buildV P 127 [(0, v26), (1, v1), (2, v2), (3, v31)]) fun v32 =>
 pNew 127 v32 fun v33 =>
 pKeep true S6 <|
 pNil v33 fun v35 =>
 pVal (fieldV P 127 v35 3) fun v36 =>
 pLd P 125 v36 fun v37 =>
 pVal (lenBV P #[125] [v37]) fun v38 =>
 pLoop1 (fun ag8 v39 =>
 pVal (binV P .lss 3 v39 v38) fun v40 =>
 pIf v40
 (pDraw fun S10 =>
 pNil v33 fun v43 =>
 pVal (fieldV P 127 v43 3) fun v44 =>
 pHld P S10 125 v44 fun v45 =>
 pVal (fieldV P 23 v4 3) fun v47 =>
 pHld P S10 3 v47 fun v48 =>
 pRun P (Instr.makeSlice 130 v48 v48) fun v49 =>
 pKeep true S10 <|
 pVal (indexV P 125 v45 v39) fun v50 =>
 pVal (fieldV P 132 v50 0) fun v51 =>
 pSt P 130 v51 v49 <|
 pVal (binV P .add 3 v39 (.int .i64 1)) fun v52 =>
 ag8 v52)
 (pVal (lenBV P #[24] [v3]) fun v54 =>
 pLoop1 (fun ag13 v55 =>
 pVal (binV P .lss 3 v55 v54) fun v56 =>
 pIf v56
 (pVal (indexV P 24 v3 v55) fun v57 =>
 pLd P 3 v57 fun v58 =>
 pJoin0 (fun J17 =>
 pVal (binV P .lss 3 v58 (.int .i64 2)) fun v60 =>
 pGuard v60 false
 (pNil v33 fun v64 =>
 pVal (fieldV P 127 v64 3) fun v65 =>
 pLd P 125 v65 fun v66 =>
 pVal (lenBV P #[125] [v66]) fun v67 =>
 pVal (binV P .geq 3 v58 v67) fun v68 =>
 pIf v68
 (R (.tuple #[(.pointer none), (.int .i64 5)]))
 (J17))
 (pIf (.bool true)
 (R (.tuple #[(.pointer none), (.int .i64 5)]))
 (J17)))
 (pNil v33 fun v71 =>
 pVal (fieldV P 127 v71 3) fun v72 =>
 pLd P 125 v72 fun v73 =>
 pVal (indexV P 125 v73 v58) fun v75 =>
 pVal (fieldV P 132 v75 2) fun v76 =>
 pSt P 4 v76 (.bool true) <|
 pVal (binV P .add 3 v55 (.int .i64 1)) fun v77 =>
 ag13 v77))
 (R (.tuple #[v33, (.int .i64 0)]))) (.int .i64 0))) (.int .i64 0)))
theorem tr52 (v0 v1 v2 v3 : Value) (R : Value → World → Prop) : trF P ag [(6, []), (17, [])] [(1035, [39]), (1682, [55])] Tryz.f52 [v0, v1, v2, v3] R = G52 v0 v1 v2 v3 R := by kernel_rfl
theorem hb52 : hasBody P 52 = true := by kernel_rfl
theorem c52 {v0 v1 v2 v3 : Value} {K : Value → World → Prop} {w : World} (h : G52 v0 v1 v2 v3 K w) : pCall P 52 [v0, v1, v2, v3] K w := pCall_of mixed Tryz.func52 hb52 (tr52 v0 v1 v2 v3 K) h
/-- almshouse/queue.New -/
@[irreducible] def G53 (R : Value → World → Prop) : World → Prop :=
 pVal (buildV P 167 []) fun v1 =>
 pNew 167 v1 fun v2 =>
 R v2
theorem tr53 (R : Value → World → Prop) : trF P ag [] [] Tryz.f53 [] R = G53 R := by kernel_rfl
theorem hb53 : hasBody P 53 = true := by kernel_rfl
theorem c53 {K : Value → World → Prop} {w : World} (h : G53 K w) : pCall P 53 [] K w := pCall_of mixed Tryz.func53 hb53 (tr53 K) h
/-- (*almshouse/house.House).there -/
@[irreducible] def G54 (v0 v1 : Value) (R : Value → World → Prop) : World → Prop :=
 pCall P 14 [v0] fun v7 =>
 pVal (unV .not v7) fun v8 =>
 pIf v8
 (R (.int .i64 12))
 (pJoin1 (fun J4 =>
 pVal (binV P .lss 3 v1 (.int .i64 0)) fun v11 =>
 pGuard v11 false
 (pVal (binV P .geq 3 v1 (.int .i64 4)) fun v14 =>
 J4 v14)
 (J4 (.bool true)))
 (fun v9 =>
 pIf v9
 (R (.int .i64 5))
 (pNil v0 fun v19 =>
 pVal (fieldV P 103 v19 3) fun v20 =>
 pVal (fieldV P 56 v20 2) fun v21 =>
 pVal (indexV P 54 v21 v1) fun v22 =>
 pVal (fieldV P 53 v22 0) fun v23 =>
 pLd P 4 v23 fun v24 =>
 pVal (unV .not v24) fun v25 =>
 pIf v25
 (R (.int .i64 6))
 (R (.int .i64 0)))))
theorem tr54 (v0 v1 : Value) (R : Value → World → Prop) : trF P ag [(4, [9])] [] Tryz.f54 [v0, v1] R = G54 v0 v1 R := by kernel_rfl
theorem hb54 : hasBody P 54 = true := by kernel_rfl
theorem c54 {v0 v1 : Value} {K : Value → World → Prop} {w : World} (h : G54 v0 v1 K w) : pCall P 54 [v0, v1] K w := pCall_of mixed Tryz.func54 hb54 (tr54 v0 v1 K) h
/-- (*almshouse/store.Store).Bad -/
@[irreducible] def G55 (v0 : Value) (R : Value → World → Prop) : World → Prop :=
 pCall P 112 [v0] fun v6 =>
 pVal (lenBV P #[24] [v6]) fun v7 =>
 pLoop2 (fun ag3 v3 v8 =>
 pVal (binV P .lss 3 v8 v7) fun v9 =>
 pIf v9
 (pCall P 113 [v0, v8] fun v13 =>
 pIf v13
 (pVal (binV P .add 3 v3 (.int .i64 1)) fun v15 =>
 pVal (binV P .add 3 v8 (.int .i64 1)) fun v16 =>
 ag3 v15 v16)
 (pVal (binV P .add 3 v8 (.int .i64 1)) fun v16 =>
 ag3 v3 v16))
 (R v3)) (.int .i64 0) (.int .i64 0)
theorem tr55 (v0 : Value) (R : Value → World → Prop) : trF P ag [] [(391, [3, 8])] Tryz.f55 [v0] R = G55 v0 R := by kernel_rfl
theorem hb55 : hasBody P 55 = true := by kernel_rfl
theorem c55 {v0 : Value} {K : Value → World → Prop} {w : World} (h : G55 v0 K w) : pCall P 55 [v0] K w := pCall_of mixed Tryz.func55 hb55 (tr55 v0 K) h
/-- (*almshouse/draws.Draws).Faults -/
@[irreducible] def G56 (v0 v1 : Value) (R : Value → World → Prop) : World → Prop :=
 pCall P 114 [v0, v1] fun v8 =>
 pVal (binV P .neq 168 v8 (.pointer none)) fun v10 =>
 pIf v10
 (pNil v8 fun v12 =>
 pVal (fieldV P 152 v12 2) fun v13 =>
 pCall P 115 [v13] fun v14 =>
 R v14)
 (R (.int .i64 0))
theorem tr56 (v0 v1 : Value) (R : Value → World → Prop) : trF P ag [] [] Tryz.f56 [v0, v1] R = G56 v0 v1 R := by kernel_rfl
theorem hb56 : hasBody P 56 = true := by kernel_rfl
theorem c56 {v0 v1 : Value} {K : Value → World → Prop} {w : World} (h : G56 v0 v1 K w) : pCall P 56 [v0, v1] K w := pCall_of mixed Tryz.func56 hb56 (tr56 v0 v1 K) h
end Go.Al

namespace Go.Al
open Go Go.Proofs
/-- (*almshouse/draws.Draws).Ops -/
@[irreducible] def G57 (v0 v1 : Value) (R : Value → World → Prop) : World → Prop :=
 pCall P 114 [v0, v1] fun v8 =>
 pVal (binV P .neq 168 v8 (.pointer none)) fun v10 =>
 pIf v10
 (pNil v8 fun v12 =>
 pVal (fieldV P 152 v12 1) fun v13 =>
 pCall P 115 [v13] fun v14 =>
 R v14)
 (R (.int .i64 0))
theorem tr57 (v0 v1 : Value) (R : Value → World → Prop) : trF P ag [] [] Tryz.f57 [v0, v1] R = G57 v0 v1 R := by kernel_rfl
theorem hb57 : hasBody P 57 = true := by kernel_rfl
theorem c57 {v0 v1 : Value} {K : Value → World → Prop} {w : World} (h : G57 v0 v1 K w) : pCall P 57 [v0, v1] K w := pCall_of mixed Tryz.func57 hb57 (tr57 v0 v1 K) h
/-- (*almshouse/store.Store).ReadOnly -/
@[irreducible] def G58 (v0 : Value) (R : Value → World → Prop) : World → Prop :=
 pVal (binV P .eql 97 v0 (.pointer none)) fun v4 =>
 pGuard v4 false
 (pNil v0 fun v7 =>
 pVal (fieldV P 174 v7 7) fun v8 =>
 pLd P 4 v8 fun v9 =>
 R v9)
 (R (.bool true))
theorem tr58 (v0 : Value) (R : Value → World → Prop) : trF P ag [] [] Tryz.f58 [v0] R = G58 v0 R := by kernel_rfl
theorem hb58 : hasBody P 58 = true := by kernel_rfl
theorem c58 {v0 : Value} {K : Value → World → Prop} {w : World} (h : G58 v0 K w) : pCall P 58 [v0] K w := pCall_of mixed Tryz.func58 hb58 (tr58 v0 K) h
/-- (*almshouse/store.Store).Free -/
@[irreducible] def G59 (v0 : Value) (R : Value → World → Prop) : World → Prop :=
 pCall P 112 [v0] fun v6 =>
 pVal (lenBV P #[24] [v6]) fun v7 =>
 pLoop2 (fun ag3 v3 v8 =>
 pVal (binV P .lss 3 v8 v7) fun v9 =>
 pIf v9
 (pJoin1 (fun J6 =>
 pNil v0 fun v13 =>
 pVal (fieldV P 174 v13 6) fun v14 =>
 pLd P 3 v14 fun v15 =>
 pVal (binV P .neq 3 v8 v15) fun v16 =>
 pGuard v16 true
 (pCall P 116 [v0, v8] fun v20 =>
 J6 v20)
 (J6 (.bool false)))
 (fun v21 =>
 pIf v21
 (pRow P 24 1 [(0, v8)] fun v24 =>
 pRoom P (Builtin.append_ #[24, 24] 24 #[v3, v24]) fun v25 =>
 pVal (binV P .add 3 v8 (.int .i64 1)) fun v26 =>
 ag3 v25 v26)
 (pVal (binV P .add 3 v8 (.int .i64 1)) fun v26 =>
 ag3 v3 v26)))
 (R v3)) (.slice none 0 0) (.int .i64 0)
theorem tr59 (v0 : Value) (R : Value → World → Prop) : trF P ag [(6, [21])] [(391, [3, 8])] Tryz.f59 [v0] R = G59 v0 R := by kernel_rfl
theorem hb59 : hasBody P 59 = true := by kernel_rfl
theorem c59 {v0 : Value} {K : Value → World → Prop} {w : World} (h : G59 v0 K w) : pCall P 59 [v0] K w := pCall_of mixed Tryz.func59 hb59 (tr59 v0 K) h
/-- (*almshouse/store.Store).Waiting -/
@[irreducible] def G60 (v0 : Value) (R : Value → World → Prop) : World → Prop :=
 pVal (binV P .eql 97 v0 (.pointer none)) fun v4 =>
 pIf v4
 (R (.int .i64 0))
 (pNil v0 fun v6 =>
 pVal (fieldV P 174 v6 4) fun v7 =>
 pLd P 172 v7 fun v8 =>
 pCall P 117 [v8] fun v9 =>
 R v9)
theorem tr60 (v0 : Value) (R : Value → World → Prop) : trF P ag [] [] Tryz.f60 [v0] R = G60 v0 R := by kernel_rfl
theorem hb60 : hasBody P 60 = true := by kernel_rfl
theorem c60 {v0 : Value} {K : Value → World → Prop} {w : World} (h : G60 v0 K w) : pCall P 60 [v0] K w := pCall_of mixed Tryz.func60 hb60 (tr60 v0 K) h
/-- (*almshouse/queue.Queue).Len -/
@[irreducible] def G61 (v0 : Value) (R : Value → World → Prop) : World → Prop :=
 pVal (binV P .eql 98 v0 (.pointer none)) fun v4 =>
 pIf v4
 (R (.int .i64 0))
 (pNil v0 fun v6 =>
 pVal (fieldV P 167 v6 0) fun v7 =>
 pLd P 165 v7 fun v8 =>
 pVal (lenBV P #[165] [v8]) fun v9 =>
 R v9)
theorem tr61 (v0 : Value) (R : Value → World → Prop) : trF P ag [] [] Tryz.f61 [v0] R = G61 v0 R := by kernel_rfl
theorem hb61 : hasBody P 61 = true := by kernel_rfl
theorem c61 {v0 : Value} {K : Value → World → Prop} {w : World} (h : G61 v0 K w) : pCall P 61 [v0] K w := pCall_of mixed Tryz.func61 hb61 (tr61 v0 K) h
/-- (*almshouse/store.Store).Read -/
@[irreducible] def G62 (v0 v1 : Value) (R : Value → World → Prop) : World → Prop :=
 pCall P 118 [v0, v1] fun v16 =>
 pVal (binV P .neq 35 v16 (.int .i64 0)) fun v18 =>
 pIf v18
 (R (.tuple #[(.string { data := #[] }), v16]))
 (pNil v0 fun v22 =>
 pVal (fieldV P 174 v22 4) fun v23 =>
 pLd P 172 v23 fun v24 =>
 pCall P 119 [v24, v1] fun v26 =>
 pVal (extractV v26 0) fun v27 =>
 pVal (extractV v26 1) fun v28 =>
 pAlloc P 176 fun v7 =>
 pSt P 176 v7 v27 <|
 pIf v28
 (pVal (fieldV P 176 v7 2) fun v30 =>
 pLd P 9 v30 fun v31 =>
 R (.tuple #[v31, (.int .i64 0)]))
 (pNil v0 fun v34 =>
 pVal (fieldV P 174 v34 3) fun v35 =>
 pLd P 171 v35 fun v36 =>
 pCall P 120 [v36, v1] fun v38 =>
 pVal (extractV v38 0) fun v39 =>
 pVal (extractV v38 1) fun v40 =>
 pVal (extractV v38 2) fun v41 =>
 pVal (unV .not v41) fun v43 =>
 pIf v43
 (R (.tuple #[(.string { data := #[] }), (.int .i64 0)]))
 (pJoin2 (fun J11 =>
 pDraw fun S10 =>
 pNil v0 fun v46 =>
 pVal (fieldV P 174 v46 0) fun v47 =>
 pHld P S10 58 v47 fun v48 =>
 pNil v0 fun v50 =>
 pVal (fieldV P 174 v50 2) fun v51 =>
 pVal (fieldV P 53 v51 4) fun v52 =>
 pHld P S10 24 v52 fun v53 =>
 pAnd (pCall P 121 [v48, v53, v39, v40] fun v56 =>
 pKeep true S10 <|
 pVal (extractV v56 0) fun v57 =>
 pVal (extractV v56 1) fun v58 =>
 pAlloc P 184 fun v12 =>
 pKeep true S10 <|
 pSt P 184 v12 v57 <|
 J11 v12 v58) (pAlloc P 184 fun v12 =>
 pKeep true S10 <|
 pCall P 121 [v48, v53, v39, v40] fun v56 =>
 pKeep true S10 <|
 pVal (extractV v56 0) fun v57 =>
 pVal (extractV v56 1) fun v58 =>
 pSt P 184 v12 v57 <|
 J11 v12 v58))
 (fun v12 v13 =>
 pJoin0 (fun J13 =>
 pVal (binV P .neq 35 v13 (.int .i64 0)) fun v60 =>
 pGuard v60 false
 (pVal (fieldV P 184 v12 3) fun v62 =>
 pVal (fieldV P 182 v62 4) fun v63 =>
 pLd P 3 v63 fun v64 =>
 pVal (binV P .eql 3 v64 (.int .i64 2)) fun v65 =>
 pIf v65
 (R (.tuple #[(.string { data := #[] }), v13]))
 (J13))
 (pIf (.bool true)
 (R (.tuple #[(.string { data := #[] }), v13]))
 (J13)))
 (pVal (fieldV P 184 v12 4) fun v68 =>
 pLd P 9 v68 fun v69 =>
 R (.tuple #[v69, (.int .i64 0)]))))))
theorem tr62 (v0 v1 : Value) (R : Value → World → Prop) : trF P ag [(11, [12, 13]), (13, [])] [] Tryz.f62 [v0, v1] R = G62 v0 v1 R := by kernel_rfl
theorem hb62 : hasBody P 62 = true := by kernel_rfl
theorem c62 {v0 v1 : Value} {K : Value → World → Prop} {w : World} (h : G62 v0 v1 K w) : pCall P 62 [v0, v1] K w := pCall_of mixed Tryz.func62 hb62 (tr62 v0 v1 K) h
/-- almshouse/ledger.Create -/
@[irreducible] def G63 (v0 v1 v2 v3 v4 : Value) (R : Value → World → Prop) : World → Prop :=
 pNew 56 v0 fun v5 =>
 pNew 3 v1 fun v6 =>
 pNew 3 v2 fun v7 =>
 pNew 3 v3 fun v8 =>
 pNew 24 v4 fun v9 =>
 pAlloc P 56 fun v10 =>
 pLd P 56 v5 fun v14 =>
 pLd P 3 v6 fun v15 =>
 pCall P 122 [v14, v15] fun v16 =>
 pVal (binV P .eql 35 v16 (.int .i64 0)) fun v19 =>
 pIf v19
 (pVal (buildV P 56 []) fun v20 =>
 pSt P 56 v10 v20 <|
 pRes P 56 v10 fun r10 =>
 R (.tuple #[r10, (.int .i64 7)]))
 (pVal (binV P .neq 35 v16 (.int .i64 6)) fun v23 =>
 pIf v23
 (pVal (buildV P 56 []) fun v24 =>
 pSt P 56 v10 v24 <|
 pRes P 56 v10 fun r10 =>
 R (.tuple #[r10, v16]))
 (pLd P 3 v7 fun v26 =>
 pLd P 3 v8 fun v27 =>
 pCall P 123 [v26, v27] fun v28 =>
 pVal (binV P .neq 35 v28 (.int .i64 0)) fun v30 =>
 pIf v30
 (pVal (buildV P 56 []) fun v31 =>
 pSt P 56 v10 v31 <|
 pRes P 56 v10 fun r10 =>
 R (.tuple #[r10, v28]))
 (pVal (fieldV P 56 v5 1) fun v33 =>
 pLd P 3 v33 fun v34 =>
 pVal (binV P .eql 3 v34 (.int .i64 2147483647)) fun v35 =>
 pIf v35
 (pVal (buildV P 56 []) fun v36 =>
 pSt P 56 v10 v36 <|
 pRes P 56 v10 fun r10 =>
 R (.tuple #[r10, (.int .i64 4)]))
 (pLd P 56 v5 fun v37 =>
 pCall P 124 [v37, (.func (.func 125) #[] #[v7, v8, v9, v6])] fun v39 =>
 pVal (extractV v39 0) fun v40 =>
 pVal (extractV v39 1) fun v41 =>
 pSt P 56 v10 v40 <|
 pRes P 56 v10 fun r10 =>
 R (.tuple #[r10, v41])))))
theorem tr63 (v0 v1 v2 v3 v4 : Value) (R : Value → World → Prop) : trF P ag [] [] Tryz.f63 [v0, v1, v2, v3, v4] R = G63 v0 v1 v2 v3 v4 R := by kernel_rfl
theorem hb63 : hasBody P 63 = true := by kernel_rfl
theorem c63 {v0 v1 v2 v3 v4 : Value} {K : Value → World → Prop} {w : World} (h : G63 v0 v1 v2 v3 v4 K w) : pCall P 63 [v0, v1, v2, v3, v4] K w := pCall_of mixed Tryz.func63 hb63 (tr63 v0 v1 v2 v3 v4 K) h
/-- (*almshouse/house.House).free -/
@[irreducible] def G64 (v0 : Value) (R : Value → World → Prop) : World → Prop :=
 pDraw fun S1 =>
 pNil v0 fun v4 =>
 pVal (fieldV P 103 v4 3) fun v5 =>
 pHld P S1 56 v5 fun v6 =>
 pNil v0 fun v8 =>
 pVal (fieldV P 103 v8 0) fun v9 =>
 pHld P S1 58 v9 fun v10 =>
 pNil v0 fun v13 =>
 pVal (fieldV P 103 v13 0) fun v14 =>
 pHld P S1 58 v14 fun v15 =>
 pCall P 25 [v10] fun v11 =>
 pKeep true S1 <|
 pCall P 126 [v6, v11, (.func (.func 26) #[v15] #[])] fun v17 =>
 pKeep true S1 <|
 R v17
theorem tr64 (v0 : Value) (R : Value → World → Prop) : trF P ag [] [] Tryz.f64 [v0] R = G64 v0 R := by kernel_rfl
theorem hb64 : hasBody P 64 = true := by kernel_rfl
theorem c64 {v0 : Value} {K : Value → World → Prop} {w : World} (h : G64 v0 K w) : pCall P 64 [v0] K w := pCall_of mixed Tryz.func64 hb64 (tr64 v0 K) h
/-- almshouse/rule.Total -/
@[irreducible] def G65 (v0 v1 v2 : Value) (R : Value → World → Prop) : World → Prop :=
 pJoin0 (fun J3 =>
 pCall P 123 [v0, v1] fun v9 =>
 pVal (binV P .neq 35 v9 (.int .i64 0)) fun v10 =>
 pGuard v10 false
 (pCall P 127 [v2] fun v13 =>
 pVal (unV .not v13) fun v14 =>
 pIf v14
 (R (.int .i64 0))
 (J3))
 (pIf (.bool true)
 (R (.int .i64 0))
 (J3)))
 (pCall P 128 [v0, v2] fun v18 =>
 pVal (binV P .add 3 v18 v1) fun v20 =>
 R v20)
theorem tr65 (v0 v1 v2 : Value) (R : Value → World → Prop) : trF P ag [(3, [])] [] Tryz.f65 [v0, v1, v2] R = G65 v0 v1 v2 R := by kernel_rfl
theorem hb65 : hasBody P 65 = true := by kernel_rfl
theorem c65 {v0 v1 v2 : Value} {K : Value → World → Prop} {w : World} (h : G65 v0 v1 v2 K w) : pCall P 65 [v0, v1, v2] K w := pCall_of mixed Tryz.func65 hb65 (tr65 v0 v1 v2 K) h
/-- (*almshouse/house.House).pages -/
@[irreducible] def G66 (v0 : Value) (R : Value → World → Prop) : World → Prop :=
 pNil v0 fun v4 =>
 pVal (fieldV P 103 v4 0) fun v5 =>
 pLd P 58 v5 fun v6 =>
 pCall P 129 [v6] fun v7 =>
 pVal (fieldOfV P 23 v7 3) fun v8 =>
 R v8
theorem tr66 (v0 : Value) (R : Value → World → Prop) : trF P ag [] [] Tryz.f66 [v0] R = G66 v0 R := by kernel_rfl
theorem hb66 : hasBody P 66 = true := by kernel_rfl
theorem c66 {v0 : Value} {K : Value → World → Prop} {w : World} (h : G66 v0 K w) : pCall P 66 [v0] K w := pCall_of mixed Tryz.func66 hb66 (tr66 v0 K) h
/-- (*almshouse/house.House).blank -/
@[irreducible] def G67 (v0 v1 : Value) (R : Value → World → Prop) : World → Prop :=
 pVal (lenBV P #[24] [v1]) fun v9 =>
 pLoop1 (fun ag2 v10 =>
 pVal (binV P .lss 3 v10 v9) fun v11 =>
 pIf v11
 (pVal (indexV P 24 v1 v10) fun v12 =>
 pLd P 3 v12 fun v13 =>
 pNil v0 fun v15 =>
 pVal (fieldV P 103 v15 0) fun v16 =>
 pLd P 58 v16 fun v17 =>
 pCall P 36 [v17, v13] fun v19 =>
 pIf v19
 (pVal (binV P .add 3 v10 (.int .i64 1)) fun v29 =>
 ag2 v29)
 (pNil v0 fun v21 =>
 pVal (fieldV P 103 v21 0) fun v22 =>
 pLd P 58 v22 fun v23 =>
 pCall P 130 [v23, (.int .i64 4), v13] fun v25 =>
 pVal (binV P .neq 35 v25 (.int .i64 0)) fun v27 =>
 pIf v27
 (R v25)
 (pVal (binV P .add 3 v10 (.int .i64 1)) fun v29 =>
 ag2 v29)))
 (R (.int .i64 0))) (.int .i64 0)
theorem tr67 (v0 v1 : Value) (R : Value → World → Prop) : trF P ag [] [(264, [10])] Tryz.f67 [v0, v1] R = G67 v0 v1 R := by kernel_rfl
theorem hb67 : hasBody P 67 = true := by kernel_rfl
theorem c67 {v0 v1 : Value} {K : Value → World → Prop} {w : World} (h : G67 v0 v1 K w) : pCall P 67 [v0, v1] K w := pCall_of mixed Tryz.func67 hb67 (tr67 v0 v1 K) h
/-- (*almshouse/house.House).settle -/
@[irreducible] def G68 (v0 : Value) (R : Value → World → Prop) : World → Prop :=
 pJoin0 (fun J1 =>
 pNil v0 fun v4 =>
 pVal (fieldV P 103 v4 6) fun v5 =>
 pLd P 4 v5 fun v6 =>
 pVal (unV .not v6) fun v7 =>
 pGuard v7 false
 (pNil v0 fun v10 =>
 pVal (fieldV P 103 v10 1) fun v11 =>
 pLd P 93 v11 fun v12 =>
 pCall P 99 [v12] fun v13 =>
 pVal (unV .not v13) fun v14 =>
 pIf v14
 (R (.tuple #[]))
 (J1))
 (pIf (.bool true)
 (R (.tuple #[]))
 (J1)))
 (pNil v0 fun v17 =>
 pVal (fieldV P 103 v17 6) fun v18 =>
 pSt P 4 v18 (.bool false) <|
 pVal (buildV P 56 []) fun v20 =>
 pNil v0 fun v21 =>
 pVal (fieldV P 103 v21 3) fun v22 =>
 pSt P 56 v22 v20 <|
 pLoop1 (fun ag4 v23 =>
 pVal (binV P .lss 3 v23 (.int .i64 4)) fun v24 =>
 pIf v24
 (pNil v0 fun v28 =>
 pVal (fieldV P 103 v28 4) fun v29 =>
 pVal (indexV P 101 v29 v23) fun v30 =>
 pVal (fieldV P 100 v30 0) fun v31 =>
 pSt P 97 v31 (.pointer none) <|
 pNil v0 fun v34 =>
 pVal (fieldV P 103 v34 4) fun v35 =>
 pVal (indexV P 101 v35 v23) fun v36 =>
 pVal (fieldV P 100 v36 1) fun v37 =>
 pLd P 98 v37 fun v38 =>
 pCall P 74 [v38] fun _ =>
 pVal (binV P .add 3 v23 (.int .i64 1)) fun v40 =>
 ag4 v40)
 (R (.tuple #[]))) (.int .i64 0))
theorem tr68 (v0 : Value) (R : Value → World → Prop) : trF P ag [(1, [])] [(520, [23])] Tryz.f68 [v0] R = G68 v0 R := by kernel_rfl
theorem hb68 : hasBody P 68 = true := by kernel_rfl
theorem c68 {v0 : Value} {K : Value → World → Prop} {w : World} (h : G68 v0 K w) : pCall P 68 [v0] K w := pCall_of mixed Tryz.func68 hb68 (tr68 v0 K) h
/-- (*almshouse/house.House).keep -/
@[irreducible] def G69 (v0 v1 v2 v3 : Value) (R : Value → World → Prop) : World → Prop :=
 pNew 56 v1 fun v5 =>
 pJoin1 (fun J3 =>
 pVal (binV P .eql 35 v2 (.int .i64 0)) fun v10 =>
 pIf v10
 (pDraw fun S2 =>
 pNil v0 fun v12 =>
 pVal (fieldV P 103 v12 0) fun v13 =>
 pHld P S2 58 v13 fun v14 =>
 pHld P S2 56 v5 fun v15 =>
 pCall P 131 [v14, v15] fun v16 =>
 J3 v16)
 (J3 v2))
 (fun v2_1 =>
 pVal (binV P .eql 35 v2_1 (.int .i64 0)) fun v18 =>
 pIf v18
 (pLd P 56 v5 fun v20 =>
 pNil v0 fun v21 =>
 pVal (fieldV P 103 v21 3) fun v22 =>
 pSt P 56 v22 v20 <|
 pCallV P v3 [] fun _ =>
 pCall P 68 [v0] fun _ =>
 R v2_1)
 (pCall P 68 [v0] fun _ =>
 R v2_1))
theorem tr69 (v0 v1 v2 v3 : Value) (R : Value → World → Prop) : trF P ag [(3, [2])] [] Tryz.f69 [v0, v1, v2, v3] R = G69 v0 v1 v2 v3 R := by kernel_rfl
theorem hb69 : hasBody P 69 = true := by kernel_rfl
theorem c69 {v0 v1 v2 v3 : Value} {K : Value → World → Prop} {w : World} (h : G69 v0 v1 v2 v3 K w) : pCall P 69 [v0, v1, v2, v3] K w := pCall_of mixed Tryz.func69 hb69 (tr69 v0 v1 v2 v3 K) h
/-- (*almshouse/house.House).Create$1 -/
@[irreducible] def G70 (v0 v1 v2 : Value) (R : Value → World → Prop) : World → Prop :=
 pDraw fun S0 =>
 pHld P S0 38 v0 fun v6 =>
 pNil v6 fun v7 =>
 pVal (fieldV P 103 v7 0) fun v8 =>
 pHld P S0 58 v8 fun v9 =>
 pHld P S0 3 v1 fun v10 =>
 pHld P S0 3 v1 fun v11 =>
 pVal (fieldV P 56 v2 2) fun v12 =>
 pVal (indexV P 54 v12 v11) fun v13 =>
 pHld P S0 53 v13 fun v14 =>
 pCall P 71 [v9, v10, v14] fun v15 =>
 pKeep true S0 <|
 pVal (extractV v15 0) fun v16 =>
 pVal (extractV v15 1) fun _ =>
 pDraw fun S1 =>
 pHld P S1 38 v0 fun v18 =>
 pHld P S1 3 v1 fun v19 =>
 pNil v18 fun v23 =>
 pVal (fieldV P 103 v23 4) fun v24 =>
 pCall P 53 [] fun v21 =>
 pKeep true S1 <|
 pVal (buildV P 100 [(0, v16), (1, v21)]) fun v22 =>
 pVal (indexV P 101 v24 v19) fun v25 =>
 pSt P 100 v25 v22 <|
 R (.tuple #[])
theorem tr70 (v0 v1 v2 : Value) (R : Value → World → Prop) : trF P ag [] [] Tryz.f70 [v0, v1, v2] R = G70 v0 v1 v2 R := by kernel_rfl
theorem hb70 : hasBody P 70 = true := by kernel_rfl
theorem c70 {v0 v1 v2 : Value} {K : Value → World → Prop} {w : World} (h : G70 v0 v1 v2 K w) : pCall P 70 [v0, v1, v2] K w := pCall_of mixed Tryz.func70 hb70 (tr70 v0 v1 v2 K) h
/-- almshouse/store.New -/
@[irreducible] def G71 (v0 v1 v2 : Value) (R : Value → World → Prop) : World → Prop :=
 pNew 53 v2 fun v5 =>
 pJoin0 (fun J3 =>
 pVal (binV P .eql 58 v0 (.pointer none)) fun v10 =>
 pGuard v10 false
 (pVal (binV P .lss 3 v1 (.int .i64 0)) fun v13 =>
 pGuard v13 false
 (pVal (binV P .geq 3 v1 (.int .i64 4)) fun v17 =>
 pGuard v17 false
 (pVal (fieldV P 53 v5 0) fun v20 =>
 pLd P 4 v20 fun v21 =>
 pVal (unV .not v21) fun v22 =>
 pIf v22
 (R (.tuple #[(.pointer none), (.int .i64 1)]))
 (J3))
 (pIf (.bool true)
 (R (.tuple #[(.pointer none), (.int .i64 1)]))
 (J3)))
 (pIf (.bool true)
 (R (.tuple #[(.pointer none), (.int .i64 1)]))
 (J3)))
 (pIf (.bool true)
 (R (.tuple #[(.pointer none), (.int .i64 1)]))
 (J3)))
 (pDraw fun S3 =>
 pVal (fieldV P 53 v5 4) fun v24 =>
 pHld P S3 24 v24 fun v25 =>
 pVal (lenBV P #[24] [v25]) fun v26 =>
 pCall P 129 [v0] fun v28 =>
 pKeep true S3 <|
 pVal (fieldOfV P 23 v28 3) fun v29 =>
 pCall P 132 [v26, v29] fun v30 =>
 pKeep true S3 <|
 pVal (binV P .eql 171 v30 (.pointer none)) fun v32 =>
 pIf v32
 (R (.tuple #[(.pointer none), (.int .i64 1)]))
 (pVal (fieldV P 53 v5 4) fun v33 =>
 pLd P 24 v33 fun v34 =>
 pCall P 108 [v34] fun v35 =>
 pVal (fieldV P 53 v5 4) fun v36 =>
 pSt P 24 v36 v35 <|
 pDraw fun S7 =>
 pHld P S7 53 v5 fun v39 =>
 pCall P 133 [] fun v41 =>
 pKeep true S7 <|
 pVal (buildV P 174 [(0, v0), (1, v1), (2, v39), (3, v30), (4, v41), (6, (.int .i64 (-1)))]) fun v42 =>
 pNew 174 v42 fun v43 =>
 pKeep true S7 <|
 R (.tuple #[v43, (.int .i64 0)])))
theorem tr71 (v0 v1 v2 : Value) (R : Value → World → Prop) : trF P ag [(3, [])] [] Tryz.f71 [v0, v1, v2] R = G71 v0 v1 v2 R := by kernel_rfl
theorem hb71 : hasBody P 71 = true := by kernel_rfl
theorem c71 {v0 v1 v2 : Value} {K : Value → World → Prop} {w : World} (h : G71 v0 v1 v2 K w) : pCall P 71 [v0, v1, v2] K w := pCall_of mixed Tryz.func71 hb71 (tr71 v0 v1 v2 K) h
/-- (*almshouse/queue.Queue).Clear -/
@[irreducible] def G74 (v0 : Value) (R : Value → World → Prop) : World → Prop :=
 pVal (binV P .neq 98 v0 (.pointer none)) fun v3 =>
 pIf v3
 (pNil v0 fun v5 =>
 pVal (fieldV P 167 v5 0) fun v6 =>
 pLd P 165 v6 fun v7 =>
 pRun P (Builtin.clear_ #[165] 0 #[v7]) fun _ =>
 pNil v0 fun v10 =>
 pVal (fieldV P 167 v10 0) fun v11 =>
 pLd P 165 v11 fun v12 =>
 pVal (sliceV P 165 v12 none (some (.int .i64 0)) none) fun v13 =>
 pNil v0 fun v14 =>
 pVal (fieldV P 167 v14 0) fun v15 =>
 pSt P 165 v15 v13 <|
 R (.tuple #[]))
 (R (.tuple #[]))
theorem tr74 (v0 : Value) (R : Value → World → Prop) : trF P ag [] [] Tryz.f74 [v0] R = G74 v0 R := by kernel_rfl
theorem hb74 : hasBody P 74 = true := by kernel_rfl
theorem c74 {v0 : Value} {K : Value → World → Prop} {w : World} (h : G74 v0 K w) : pCall P 74 [v0] K w := pCall_of mixed Tryz.func74 hb74 (tr74 v0 K) h
/-- (*almshouse/queue.Queue).Submit -/
@[irreducible] def G84 (v0 v1 : Value) (R : Value → World → Prop) : World → Prop :=
 pNew 30 v1 fun v3 =>
 pVal (binV P .eql 98 v0 (.pointer none)) fun v7 =>
 pIf v7
 (R (.int .i64 1))
 (pLd P 30 v3 fun v8 =>
 pCall P 143 [v8] fun v9 =>
 pVal (binV P .neq 35 v9 (.int .i64 0)) fun v11 =>
 pIf v11
 (R v9)
 (pNil v0 fun v14 =>
 pVal (fieldV P 167 v14 0) fun v15 =>
 pLd P 165 v15 fun v16 =>
 pVal (lenBV P #[165] [v16]) fun v17 =>
 pVal (binV P .geq 3 v17 (.int .i64 8)) fun v18 =>
 pIf v18
 (R (.int .i64 8))
 (pDraw fun S8 =>
 pNil v0 fun v21 =>
 pVal (fieldV P 167 v21 0) fun v22 =>
 pHld P S8 165 v22 fun v23 =>
 pHld P S8 30 v3 fun v24 =>
 pRow P 165 1 [(0, v24)] fun v25 =>
 pKeep true S8 <|
 pRoom P (Builtin.append_ #[165, 165] 165 #[v23, v25]) fun v26 =>
 pKeep true S8 <|
 pNil v0 fun v27 =>
 pVal (fieldV P 167 v27 0) fun v28 =>
 pSt P 165 v28 v26 <|
 R (.int .i64 0))))
theorem tr84 (v0 v1 : Value) (R : Value → World → Prop) : trF P ag [] [] Tryz.f84 [v0, v1] R = G84 v0 v1 R := by kernel_rfl
theorem hb84 : hasBody P 84 = true := by kernel_rfl
theorem c84 {v0 v1 : Value} {K : Value → World → Prop} {w : World} (h : G84 v0 v1 K w) : pCall P 84 [v0, v1] K w := pCall_of mixed Tryz.func84 hb84 (tr84 v0 v1 K) h
/-- (*almshouse/queue.Queue).Next -/
@[irreducible] def G85 (v0 : Value) (R : Value → World → Prop) : World → Prop :=
 pAlloc P 30 fun v2 =>
 pCall P 61 [v0] fun v6 =>
 pVal (binV P .eql 3 v6 (.int .i64 0)) fun v7 =>
 pIf v7
 (pVal (buildV P 30 []) fun v8 =>
 pSt P 30 v2 v8 <|
 pRes P 30 v2 fun r2 =>
 R (.tuple #[r2, (.bool false)]))
 (pNil v0 fun v10 =>
 pVal (fieldV P 167 v10 0) fun v11 =>
 pLd P 165 v11 fun v12 =>
 pVal (indexV P 165 v12 (.int .i64 0)) fun v13 =>
 pLd P 30 v13 fun v14 =>
 pAlloc P 30 fun v4 =>
 pSt P 30 v4 v14 <|
 pNil v0 fun v17 =>
 pVal (fieldV P 167 v17 0) fun v18 =>
 pLd P 165 v18 fun v19 =>
 pVal (sliceV P 165 v19 (some (.int .i64 1)) none none) fun v20 =>
 pNil v0 fun v21 =>
 pVal (fieldV P 167 v21 0) fun v22 =>
 pSt P 165 v22 v20 <|
 pLd P 30 v4 fun v23 =>
 pSt P 30 v2 v23 <|
 pRes P 30 v2 fun r2 =>
 R (.tuple #[r2, (.bool true)]))
theorem tr85 (v0 : Value) (R : Value → World → Prop) : trF P ag [] [] Tryz.f85 [v0] R = G85 v0 R := by kernel_rfl
theorem hb85 : hasBody P 85 = true := by kernel_rfl
theorem c85 {v0 : Value} {K : Value → World → Prop} {w : World} (h : G85 v0 K w) : pCall P 85 [v0] K w := pCall_of mixed Tryz.func85 hb85 (tr85 v0 K) h
/-- almshouse/house.do -/
@[irreducible] def G86 (v0 v1 : Value) (R : Value → World → Prop) : World → Prop :=
 pNew 30 v1 fun v3 =>
 pVal (fieldV P 30 v3 0) fun v6 =>
 pLd P 3 v6 fun v7 =>
 pVal (binV P .eql 3 v7 (.int .i64 1)) fun v9 =>
 pIf v9
 (pVal (fieldV P 30 v3 1) fun v11 =>
 pLd P 3 v11 fun v12 =>
 pCall P 62 [v0, v12] fun v13 =>
 pVal (extractV v13 0) fun v14 =>
 pVal (extractV v13 1) fun v15 =>
 R (.tuple #[v14, v15]))
 (pVal (binV P .eql 3 v7 (.int .i64 2)) fun v17 =>
 pIf v17
 (pVal (fieldV P 30 v3 1) fun v19 =>
 pLd P 3 v19 fun v20 =>
 pVal (fieldV P 30 v3 2) fun v21 =>
 pLd P 9 v21 fun v22 =>
 pCall P 144 [v0, v20, v22] fun v23 =>
 R (.tuple #[(.string { data := #[] }), v23]))
 (pVal (binV P .eql 3 v7 (.int .i64 3)) fun v25 =>
 pIf v25
 (pVal (fieldV P 30 v3 1) fun v27 =>
 pLd P 3 v27 fun v28 =>
 pCall P 145 [v0, v28] fun v29 =>
 R (.tuple #[(.string { data := #[] }), v29]))
 (pCall P 136 [v0] fun v31 =>
 R (.tuple #[(.string { data := #[] }), v31]))))
theorem tr86 (v0 v1 : Value) (R : Value → World → Prop) : trF P ag [] [] Tryz.f86 [v0, v1] R = G86 v0 v1 R := by kernel_rfl
theorem hb86 : hasBody P 86 = true := by kernel_rfl
theorem c86 {v0 v1 : Value} {K : Value → World → Prop} {w : World} (h : G86 v0 v1 K w) : pCall P 86 [v0, v1] K w := pCall_of mixed Tryz.func86 hb86 (tr86 v0 v1 K) h
/-- (*almshouse/queue.Queue).Done -/
@[irreducible] def G87 (v0 v1 : Value) (R : Value → World → Prop) : World → Prop :=
 pNew 88 v1 fun v3 =>
 pVal (binV P .neq 98 v0 (.pointer none)) fun v5 =>
 pIf v5
 (pDraw fun S2 =>
 pNil v0 fun v8 =>
 pVal (fieldV P 167 v8 1) fun v9 =>
 pHld P S2 74 v9 fun v10 =>
 pHld P S2 88 v3 fun v11 =>
 pRow P 74 1 [(0, v11)] fun v12 =>
 pKeep true S2 <|
 pRoom P (Builtin.append_ #[74, 74] 74 #[v10, v12]) fun v13 =>
 pKeep true S2 <|
 pNil v0 fun v14 =>
 pVal (fieldV P 167 v14 1) fun v15 =>
 pSt P 74 v15 v13 <|
 R (.tuple #[]))
 (R (.tuple #[]))
theorem tr87 (v0 v1 : Value) (R : Value → World → Prop) : trF P ag [] [] Tryz.f87 [v0, v1] R = G87 v0 v1 R := by kernel_rfl
theorem hb87 : hasBody P 87 = true := by kernel_rfl
theorem c87 {v0 v1 : Value} {K : Value → World → Prop} {w : World} (h : G87 v0 v1 K w) : pCall P 87 [v0, v1] K w := pCall_of mixed Tryz.func87 hb87 (tr87 v0 v1 K) h
/-- almshouse/ledger.Twin -/
@[irreducible] def G88 (v0 : Value) (R : Value → World → Prop) : World → Prop :=
 pNew 56 v0 fun v1 =>
 pAlloc P 56 fun v2 =>
 pLoop1 (fun ag2 v4 =>
 pVal (binV P .lss 3 v4 (.int .i64 4)) fun v5 =>
 pIf v5
 (pVal (fieldV P 56 v1 2) fun v9 =>
 pVal (indexV P 54 v9 v4) fun v10 =>
 pVal (fieldV P 53 v10 4) fun v11 =>
 pLd P 24 v11 fun v12 =>
 pCall P 108 [v12] fun v13 =>
 pVal (fieldV P 56 v1 2) fun v14 =>
 pVal (indexV P 54 v14 v4) fun v15 =>
 pVal (fieldV P 53 v15 4) fun v16 =>
 pSt P 24 v16 v13 <|
 pVal (binV P .add 3 v4 (.int .i64 1)) fun v17 =>
 ag2 v17)
 (pLd P 56 v1 fun v18 =>
 pSt P 56 v2 v18 <|
 pRes P 56 v2 fun r2 =>
 R r2)) (.int .i64 0)
theorem tr88 (v0 : Value) (R : Value → World → Prop) : trF P ag [] [(261, [4])] Tryz.f88 [v0] R = G88 v0 R := by kernel_rfl
theorem hb88 : hasBody P 88 = true := by kernel_rfl
theorem c88 {v0 : Value} {K : Value → World → Prop} {w : World} (h : G88 v0 K w) : pCall P 88 [v0] K w := pCall_of mixed Tryz.func88 hb88 (tr88 v0 K) h
/-- (*almshouse/nand.Nand).at -/
@[irreducible] def G89 (v0 v1 : Value) (R : Value → World → Prop) : World → Prop :=
 pJoin0 (fun J3 =>
 pVal (binV P .eql 58 v0 (.pointer none)) fun v6 =>
 pGuard v6 false
 (pVal (binV P .lss 3 v1 (.int .i64 0)) fun v9 =>
 pGuard v9 false
 (pNil v0 fun v14 =>
 pVal (fieldV P 127 v14 3) fun v15 =>
 pLd P 125 v15 fun v16 =>
 pVal (lenBV P #[125] [v16]) fun v17 =>
 pVal (binV P .geq 3 v1 v17) fun v18 =>
 pIf v18
 (R (.pointer none))
 (J3))
 (pIf (.bool true)
 (R (.pointer none))
 (J3)))
 (pIf (.bool true)
 (R (.pointer none))
 (J3)))
 (pNil v0 fun v21 =>
 pVal (fieldV P 127 v21 3) fun v22 =>
 pLd P 125 v22 fun v23 =>
 pVal (indexV P 125 v23 v1) fun v25 =>
 R v25)
theorem tr89 (v0 v1 : Value) (R : Value → World → Prop) : trF P ag [(3, [])] [] Tryz.f89 [v0, v1] R = G89 v0 v1 R := by kernel_rfl
theorem hb89 : hasBody P 89 = true := by kernel_rfl
theorem c89 {v0 v1 : Value} {K : Value → World → Prop} {w : World} (h : G89 v0 v1 K w) : pCall P 89 [v0, v1] K w := pCall_of mixed Tryz.func89 hb89 (tr89 v0 v1 K) h
end Go.Al

namespace Go.Al
open Go Go.Proofs
/-- (*almshouse/power.Power).Gone -/
@[irreducible] def G99 (v0 : Value) (R : Value → World → Prop) : World → Prop :=
 pVal (binV P .eql 93 v0 (.pointer none)) fun v4 =>
 pGuard v4 false
 (pNil v0 fun v7 =>
 pVal (fieldV P 162 v7 1) fun v8 =>
 pCall P 152 [v8] fun v9 =>
 R v9)
 (R (.bool true))
theorem tr99 (v0 : Value) (R : Value → World → Prop) : trF P ag [] [] Tryz.f99 [v0] R = G99 v0 R := by kernel_rfl
theorem hb99 : hasBody P 99 = true := by kernel_rfl
theorem c99 {v0 : Value} {K : Value → World → Prop} {w : World} (h : G99 v0 K w) : pCall P 99 [v0] K w := pCall_of mixed Tryz.func99 hb99 (tr99 v0 K) h
/-- (*almshouse/queue.Queue).All -/
@[irreducible] def G102 (v0 : Value) (R : Value → World → Prop) : World → Prop :=
 pVal (binV P .eql 98 v0 (.pointer none)) fun v4 =>
 pIf v4
 (R (.slice none 0 0))
 (pNil v0 fun v6 =>
 pVal (fieldV P 167 v6 1) fun v7 =>
 pLd P 74 v7 fun v8 =>
 pCall P 153 [v8] fun v9 =>
 R v9)
theorem tr102 (v0 : Value) (R : Value → World → Prop) : trF P ag [] [] Tryz.f102 [v0] R = G102 v0 R := by kernel_rfl
theorem hb102 : hasBody P 102 = true := by kernel_rfl
theorem c102 {v0 : Value} {K : Value → World → Prop} {w : World} (h : G102 v0 K w) : pCall P 102 [v0] K w := pCall_of mixed Tryz.func102 hb102 (tr102 v0 K) h
/-- slices.Min[[]int,int] -/
@[irreducible] def G107 (v0 : Value) (R : Value → World → Prop) : World → Prop :=
 pJoin0 (fun J3 =>
 pVal (lenBV P #[24] [v0]) fun v6 =>
 pVal (binV P .lss 3 v6 (.int .i64 1)) fun v7 =>
 pIf v7
 (pRun P (Instr.makeInterface 9 (.string { data := #[115, 108, 105, 99, 101, 115, 46, 77, 105, 110, 58, 32, 101, 109, 112, 116, 121, 32, 108, 105, 115, 116] })) fun _ =>
 no)
 (J3))
 (pVal (indexV P 24 v0 (.int .i64 0)) fun v10 =>
 pLd P 3 v10 fun v11 =>
 pLoop2 (fun ag5 v3 v4 =>
 pVal (lenBV P #[24] [v0]) fun v14 =>
 pVal (binV P .lss 3 v4 v14) fun v15 =>
 pIf v15
 (pVal (indexV P 24 v0 v4) fun v21 =>
 pLd P 3 v21 fun v22 =>
 pVal (minV [v3, v22]) fun v23 =>
 pVal (binV P .add 3 v4 (.int .i64 1)) fun v17 =>
 ag5 v23 v17)
 (R v3)) v11 (.int .i64 1))
theorem tr107 (v0 : Value) (R : Value → World → Prop) : trF P ag [(3, [])] [(646, [3, 4])] Tryz.f107 [v0] R = G107 v0 R := by kernel_rfl
theorem hb107 : hasBody P 107 = true := by kernel_rfl
theorem c107 {v0 : Value} {K : Value → World → Prop} {w : World} (h : G107 v0 K w) : pCall P 107 [v0] K w := pCall_of mixed Tryz.func107 hb107 (tr107 v0 K) h
/-- slices.Clone[[]int,int] -/
@[irreducible] def G108 (v0 : Value) (R : Value → World → Prop) : World → Prop :=
 pVal (binV P .eql 24 v0 (.slice none 0 0)) fun v4 =>
 pIf v4
 (R (.slice none 0 0))
 (pRow P 24 0 [] fun v5 =>
 pRoom P (Builtin.append_ #[24, 24] 24 #[v5, v0]) fun v7 =>
 R v7)
theorem tr108 (v0 : Value) (R : Value → World → Prop) : trF P ag [] [] Tryz.f108 [v0] R = G108 v0 R := by kernel_rfl
theorem hb108 : hasBody P 108 = true := by kernel_rfl
theorem c108 {v0 : Value} {K : Value → World → Prop} {w : World} (h : G108 v0 K w) : pCall P 108 [v0] K w := pCall_of mixed Tryz.func108 hb108 (tr108 v0 K) h
/-- (*sync/atomic.Int64).Store -/
@[irreducible] def G109 (v0 v1 : Value) (R : Value → World → Prop) : World → Prop :=
 pNil v0 fun v5 =>
 pVal (fieldV P 150 v5 2) fun v6 =>
 pExt P 154 [v6, v1] fun _ =>
 R (.tuple #[])
theorem tr109 (v0 v1 : Value) (R : Value → World → Prop) : trF P ag [] [] Tryz.f109 [v0, v1] R = G109 v0 v1 R := by kernel_rfl
theorem hb109 : hasBody P 109 = true := by kernel_rfl
theorem c109 {v0 v1 : Value} {K : Value → World → Prop} {w : World} (h : G109 v0 v1 K w) : pCall P 109 [v0, v1] K w := pCall_of mixed Tryz.func109 hb109 (tr109 v0 v1 K) h
/-- almshouse/geom.Check -/
@[irreducible] def G110 (v0 : Value) (R : Value → World → Prop) : World → Prop :=
 pNew 23 v0 fun v1 =>
 pVal (fieldV P 23 v1 0) fun v6 =>
 pLd P 3 v6 fun v7 =>
 pVal (fieldV P 23 v1 1) fun v8 =>
 pLd P 3 v8 fun v9 =>
 pVal (fieldV P 23 v1 2) fun v10 =>
 pLd P 3 v10 fun v11 =>
 pVal (minV [v7, v9, v11]) fun v12 =>
 pVal (fieldV P 23 v1 0) fun v13 =>
 pLd P 3 v13 fun v14 =>
 pVal (fieldV P 23 v1 1) fun v15 =>
 pLd P 3 v15 fun v16 =>
 pVal (fieldV P 23 v1 2) fun v17 =>
 pLd P 3 v17 fun v18 =>
 pVal (maxV [v14, v16, v18]) fun v19 =>
 pJoin0 (fun J7 =>
 pJoin1 (fun J4 =>
 pVal (binV P .lss 3 v12 (.int .i64 1)) fun v22 =>
 pGuard v22 false
 (pVal (fieldV P 23 v1 3) fun v24 =>
 pLd P 3 v24 fun v25 =>
 pVal (binV P .lss 3 v25 (.int .i64 2)) fun v26 =>
 J4 v26)
 (J4 (.bool true)))
 (fun v20 =>
 pIf v20
 (R (.int .i64 1))
 (pVal (binV P .gtr 3 v19 (.int .i64 64)) fun v30 =>
 pGuard v30 false
 (pVal (fieldV P 23 v1 3) fun v32 =>
 pLd P 3 v32 fun v33 =>
 pVal (binV P .gtr 3 v33 (.int .i64 16)) fun v34 =>
 pIf v34
 (R (.int .i64 4))
 (J7))
 (pIf (.bool true)
 (R (.int .i64 4))
 (J7)))))
 (pVal (fieldV P 23 v1 0) fun v36 =>
 pLd P 3 v36 fun v37 =>
 pVal (fieldV P 23 v1 1) fun v38 =>
 pLd P 3 v38 fun v39 =>
 pVal (binV P .mul 3 v37 v39) fun v40 =>
 pVal (fieldV P 23 v1 2) fun v41 =>
 pLd P 3 v41 fun v42 =>
 pVal (binV P .mul 3 v40 v42) fun v43 =>
 pVal (binV P .leq 3 v43 (.int .i64 2)) fun v46 =>
 pIf v46
 (R (.int .i64 1))
 (pVal (binV P .gtr 3 v43 (.int .i64 64)) fun v49 =>
 pIf v49
 (R (.int .i64 4))
 (R (.int .i64 0))))
theorem tr110 (v0 : Value) (R : Value → World → Prop) : trF P ag [(4, [20]), (7, [])] [] Tryz.f110 [v0] R = G110 v0 R := by kernel_rfl
theorem hb110 : hasBody P 110 = true := by kernel_rfl
theorem c110 {v0 : Value} {K : Value → World → Prop} {w : World} (h : G110 v0 K w) : pCall P 110 [v0] K w := pCall_of mixed Tryz.func110 hb110 (tr110 v0 K) h
/-- almshouse/geom.Blocks -/
@[irreducible] def G111 (v0 : Value) (R : Value → World → Prop) : World → Prop :=
 pNew 23 v0 fun v1 =>
 pLd P 23 v1 fun v3 =>
 pCall P 110 [v3] fun v4 =>
 pVal (binV P .neq 35 v4 (.int .i64 0)) fun v5 =>
 pIf v5
 (R (.int .i64 0))
 (pVal (fieldV P 23 v1 0) fun v6 =>
 pLd P 3 v6 fun v7 =>
 pVal (fieldV P 23 v1 1) fun v8 =>
 pLd P 3 v8 fun v9 =>
 pVal (binV P .mul 3 v7 v9) fun v10 =>
 pVal (fieldV P 23 v1 2) fun v11 =>
 pLd P 3 v11 fun v12 =>
 pVal (binV P .mul 3 v10 v12) fun v13 =>
 R v13)
theorem tr111 (v0 : Value) (R : Value → World → Prop) : trF P ag [] [] Tryz.f111 [v0] R = G111 v0 R := by kernel_rfl
theorem hb111 : hasBody P 111 = true := by kernel_rfl
theorem c111 {v0 : Value} {K : Value → World → Prop} {w : World} (h : G111 v0 K w) : pCall P 111 [v0] K w := pCall_of mixed Tryz.func111 hb111 (tr111 v0 K) h
/-- (*almshouse/store.Store).Blocks -/
@[irreducible] def G112 (v0 : Value) (R : Value → World → Prop) : World → Prop :=
 pVal (binV P .eql 97 v0 (.pointer none)) fun v4 =>
 pIf v4
 (R (.slice none 0 0))
 (pNil v0 fun v6 =>
 pVal (fieldV P 174 v6 2) fun v7 =>
 pVal (fieldV P 53 v7 4) fun v8 =>
 pLd P 24 v8 fun v9 =>
 pCall P 108 [v9] fun v10 =>
 R v10)
theorem tr112 (v0 : Value) (R : Value → World → Prop) : trF P ag [] [] Tryz.f112 [v0] R = G112 v0 R := by kernel_rfl
theorem hb112 : hasBody P 112 = true := by kernel_rfl
theorem c112 {v0 : Value} {K : Value → World → Prop} {w : World} (h : G112 v0 K w) : pCall P 112 [v0] K w := pCall_of mixed Tryz.func112 hb112 (tr112 v0 K) h
/-- (*almshouse/store.Store).bad -/
@[irreducible] def G113 (v0 v1 : Value) (R : Value → World → Prop) : World → Prop :=
 pDraw fun S1 =>
 pNil v0 fun v6 =>
 pVal (fieldV P 174 v6 0) fun v7 =>
 pHld P S1 58 v7 fun v8 =>
 pNil v0 fun v10 =>
 pVal (fieldV P 174 v10 2) fun v11 =>
 pVal (fieldV P 53 v11 4) fun v12 =>
 pHld P S1 24 v12 fun v13 =>
 pVal (indexV P 24 v13 v1) fun v15 =>
 pHld P S1 3 v15 fun v16 =>
 pCall P 26 [v8, v16] fun v17 =>
 pKeep true S1 <|
 R v17
theorem tr113 (v0 v1 : Value) (R : Value → World → Prop) : trF P ag [] [] Tryz.f113 [v0, v1] R = G113 v0 v1 R := by kernel_rfl
theorem hb113 : hasBody P 113 = true := by kernel_rfl
theorem c113 {v0 v1 : Value} {K : Value → World → Prop} {w : World} (h : G113 v0 v1 K w) : pCall P 113 [v0, v1] K w := pCall_of mixed Tryz.func113 hb113 (tr113 v0 v1 K) h
/-- (*almshouse/draws.Draws).of -/
@[irreducible] def G114 (v0 v1 : Value) (R : Value → World → Prop) : World → Prop :=
 pJoin0 (fun J3 =>
 pVal (binV P .eql 90 v0 (.pointer none)) fun v6 =>
 pGuard v6 false
 (pVal (binV P .lss 3 v1 (.int .i64 0)) fun v9 =>
 pGuard v9 false
 (pVal (binV P .geq 3 v1 (.int .i64 4)) fun v13 =>
 pIf v13
 (R (.pointer none))
 (J3))
 (pIf (.bool true)
 (R (.pointer none))
 (J3)))
 (pIf (.bool true)
 (R (.pointer none))
 (J3)))
 (pNil v0 fun v17 =>
 pVal (fieldV P 155 v17 0) fun v18 =>
 pVal (indexV P 153 v18 v1) fun v19 =>
 R v19)
theorem tr114 (v0 v1 : Value) (R : Value → World → Prop) : trF P ag [(3, [])] [] Tryz.f114 [v0, v1] R = G114 v0 v1 R := by kernel_rfl
theorem hb114 : hasBody P 114 = true := by kernel_rfl
theorem c114 {v0 v1 : Value} {K : Value → World → Prop} {w : World} (h : G114 v0 v1 K w) : pCall P 114 [v0, v1] K w := pCall_of mixed Tryz.func114 hb114 (tr114 v0 v1 K) h
/-- (*sync/atomic.Int64).Load -/
@[irreducible] def G115 (v0 : Value) (R : Value → World → Prop) : World → Prop :=
 pNil v0 fun v4 =>
 pVal (fieldV P 150 v4 2) fun v5 =>
 pExt P 155 [v5] fun v6 =>
 R v6
theorem tr115 (v0 : Value) (R : Value → World → Prop) : trF P ag [] [] Tryz.f115 [v0] R = G115 v0 R := by kernel_rfl
theorem hb115 : hasBody P 115 = true := by kernel_rfl
theorem c115 {v0 : Value} {K : Value → World → Prop} {w : World} (h : G115 v0 K w) : pCall P 115 [v0] K w := pCall_of mixed Tryz.func115 hb115 (tr115 v0 K) h
/-- (*almshouse/store.Store).blank -/
@[irreducible] def G116 (v0 v1 : Value) (R : Value → World → Prop) : World → Prop :=
 pDraw fun S1 =>
 pCall P 113 [v0, v1] fun v7 =>
 pKeep true S1 <|
 pVal (unV .not v7) fun v8 =>
 pGuard v8 true
 (pNil v0 fun v11 =>
 pVal (fieldV P 174 v11 0) fun v12 =>
 pHld P S1 58 v12 fun v13 =>
 pNil v0 fun v15 =>
 pVal (fieldV P 174 v15 2) fun v16 =>
 pVal (fieldV P 53 v16 4) fun v17 =>
 pHld P S1 24 v17 fun v18 =>
 pVal (indexV P 24 v18 v1) fun v20 =>
 pHld P S1 3 v20 fun v21 =>
 pCall P 36 [v13, v21] fun v22 =>
 pKeep true S1 <|
 R v22)
 (R (.bool false))
theorem tr116 (v0 v1 : Value) (R : Value → World → Prop) : trF P ag [] [] Tryz.f116 [v0, v1] R = G116 v0 v1 R := by kernel_rfl
theorem hb116 : hasBody P 116 = true := by kernel_rfl
theorem c116 {v0 v1 : Value} {K : Value → World → Prop} {w : World} (h : G116 v0 v1 K w) : pCall P 116 [v0, v1] K w := pCall_of mixed Tryz.func116 hb116 (tr116 v0 v1 K) h
/-- (*almshouse/buffer.Buffer).Len -/
@[irreducible] def G117 (v0 : Value) (R : Value → World → Prop) : World → Prop :=
 pVal (binV P .eql 172 v0 (.pointer none)) fun v4 =>
 pIf v4
 (R (.int .i64 0))
 (pNil v0 fun v6 =>
 pVal (fieldV P 218 v6 2) fun v7 =>
 pLd P 3 v7 fun v8 =>
 R v8)
theorem tr117 (v0 : Value) (R : Value → World → Prop) : trF P ag [] [] Tryz.f117 [v0] R = G117 v0 R := by kernel_rfl
theorem hb117 : hasBody P 117 = true := by kernel_rfl
theorem c117 {v0 : Value} {K : Value → World → Prop} {w : World} (h : G117 v0 K w) : pCall P 117 [v0] K w := pCall_of mixed Tryz.func117 hb117 (tr117 v0 K) h
/-- (*almshouse/store.Store).place -/
@[irreducible] def G118 (v0 v1 : Value) (R : Value → World → Prop) : World → Prop :=
 pVal (binV P .eql 97 v0 (.pointer none)) fun v7 =>
 pIf v7
 (R (.int .i64 1))
 (pVal (binV P .lss 3 v1 (.int .i64 0)) fun v10 =>
 pGuard v10 false
 (pNil v0 fun v14 =>
 pVal (fieldV P 174 v14 2) fun v15 =>
 pVal (fieldV P 53 v15 2) fun v16 =>
 pLd P 3 v16 fun v17 =>
 pVal (binV P .geq 3 v1 v17) fun v18 =>
 pIf v18
 (R (.int .i64 5))
 (R (.int .i64 0)))
 (pIf (.bool true)
 (R (.int .i64 5))
 (R (.int .i64 0))))
theorem tr118 (v0 v1 : Value) (R : Value → World → Prop) : trF P ag [] [] Tryz.f118 [v0, v1] R = G118 v0 v1 R := by kernel_rfl
theorem hb118 : hasBody P 118 = true := by kernel_rfl
theorem c118 {v0 v1 : Value} {K : Value → World → Prop} {w : World} (h : G118 v0 v1 K w) : pCall P 118 [v0, v1] K w := pCall_of mixed Tryz.func118 hb118 (tr118 v0 v1 K) h
/-- (*almshouse/buffer.Buffer).Last -/
@[irreducible] def G119 (v0 v1 : Value) (R : Value → World → Prop) : World → Prop :=
 pAlloc P 176 fun v4 =>
 pCall P 117 [v0] fun v9 =>
 pVal (binV P .sub 3 v9 (.int .i64 1)) fun v10 =>
 pLoop1 (fun ag2 v6 =>
 pVal (binV P .geq 3 v6 (.int .i64 0)) fun v12 =>
 pIf v12
 (pCall P 156 [v0, v6] fun v17 =>
 pNil v17 fun v18 =>
 pLd P 176 v18 fun v19 =>
 pAlloc P 176 fun v7 =>
 pSt P 176 v7 v19 <|
 pVal (fieldV P 176 v7 0) fun v20 =>
 pLd P 3 v20 fun v21 =>
 pVal (binV P .eql 3 v21 v1) fun v23 =>
 pIf v23
 (pLd P 176 v7 fun v24 =>
 pSt P 176 v4 v24 <|
 pRes P 176 v4 fun r4 =>
 R (.tuple #[r4, (.bool true)]))
 (pVal (binV P .sub 3 v6 (.int .i64 1)) fun v14 =>
 ag2 v14))
 (pVal (buildV P 176 []) fun v25 =>
 pSt P 176 v4 v25 <|
 pRes P 176 v4 fun r4 =>
 R (.tuple #[r4, (.bool false)]))) v10
theorem tr119 (v0 v1 : Value) (R : Value → World → Prop) : trF P ag [] [(259, [6])] Tryz.f119 [v0, v1] R = G119 v0 v1 R := by kernel_rfl
theorem hb119 : hasBody P 119 = true := by kernel_rfl
theorem c119 {v0 v1 : Value} {K : Value → World → Prop} {w : World} (h : G119 v0 v1 K w) : pCall P 119 [v0, v1] K w := pCall_of mixed Tryz.func119 hb119 (tr119 v0 v1 K) h
/-- (*almshouse/table.Table).At -/
@[irreducible] def G120 (v0 v1 : Value) (R : Value → World → Prop) : World → Prop :=
 pJoin0 (fun J3 =>
 pVal (binV P .eql 171 v0 (.pointer none)) fun v9 =>
 pGuard v9 false
 (pVal (binV P .lss 3 v1 (.int .i64 0)) fun v12 =>
 pGuard v12 false
 (pVal (binV P .geq 3 v1 (.int .i64 64)) fun v16 =>
 pIf v16
 (R (.tuple #[(.int .i64 0), (.int .i64 0), (.bool false)]))
 (J3))
 (pIf (.bool true)
 (R (.tuple #[(.int .i64 0), (.int .i64 0), (.bool false)]))
 (J3)))
 (pIf (.bool true)
 (R (.tuple #[(.int .i64 0), (.int .i64 0), (.bool false)]))
 (J3)))
 (pNil v0 fun v20 =>
 pVal (fieldV P 226 v20 1) fun v21 =>
 pVal (indexV P 223 v21 v1) fun v22 =>
 pLd P 222 v22 fun v23 =>
 pAlloc P 222 fun v7 =>
 pSt P 222 v7 v23 <|
 pDraw fun S4 =>
 pVal (fieldV P 222 v7 0) fun v24 =>
 pHld P S4 3 v24 fun v25 =>
 pVal (fieldV P 222 v7 1) fun v26 =>
 pHld P S4 3 v26 fun v27 =>
 pVal (fieldV P 222 v7 2) fun v28 =>
 pHld P S4 4 v28 fun v29 =>
 R (.tuple #[v25, v27, v29]))
theorem tr120 (v0 v1 : Value) (R : Value → World → Prop) : trF P ag [(3, [])] [] Tryz.f120 [v0, v1] R = G120 v0 v1 R := by kernel_rfl
theorem hb120 : hasBody P 120 = true := by kernel_rfl
theorem c120 {v0 v1 : Value} {K : Value → World → Prop} {w : World} (h : G120 v0 v1 K w) : pCall P 120 [v0, v1] K w := pCall_of mixed Tryz.func120 hb120 (tr120 v0 v1 K) h
/-- almshouse/scan.One -/
@[irreducible] def G121 (v0 v1 v2 v3 : Value) (R : Value → World → Prop) : World → Prop :=
 pAlloc P 184 fun v8 =>
 pVal (binV P .eql 58 v0 (.pointer none)) fun v18 =>
 pIf v18
 (pVal (buildV P 184 []) fun v19 =>
 pSt P 184 v8 v19 <|
 pRes P 184 v8 fun r8 =>
 R (.tuple #[r8, (.int .i64 1)]))
 (pJoin1 (fun J4 =>
 pVal (binV P .lss 3 v2 (.int .i64 0)) fun v22 =>
 pGuard v22 false
 (pVal (lenBV P #[24] [v1]) fun v26 =>
 pVal (binV P .geq 3 v2 v26) fun v27 =>
 J4 v27)
 (J4 (.bool true)))
 (fun v20 =>
 pIf v20
 (pVal (buildV P 184 []) fun v29 =>
 pSt P 184 v8 v29 <|
 pRes P 184 v8 fun r8 =>
 R (.tuple #[r8, (.int .i64 5)]))
 (pVal (indexV P 24 v1 v2) fun v34 =>
 pLd P 3 v34 fun v35 =>
 pCall P 157 [v0, v35, v3] fun v37 =>
 pVal (extractV v37 0) fun v38 =>
 pVal (extractV v37 1) fun v39 =>
 pVal (extractV v37 2) fun v40 =>
 pJoin1 (fun J7 =>
 pVal (binV P .neq 35 v40 (.int .i64 0)) fun v42 =>
 pGuard v42 true
 (pVal (binV P .neq 35 v40 (.int .i64 11)) fun v45 =>
 J7 v45)
 (J7 (.bool false)))
 (fun v46 =>
 pIf v46
 (pVal (buildV P 184 []) fun v47 =>
 pSt P 184 v8 v47 <|
 pRes P 184 v8 fun r8 =>
 R (.tuple #[r8, v40]))
 (pVal (buildV P 184 [(0, v2), (1, v3)]) fun v51 =>
 pAlloc P 184 fun v13 =>
 pSt P 184 v13 v51 <|
 pCall P 158 [v38] fun v54 =>
 pVal (extractV v54 0) fun v55 =>
 pVal (extractV v54 1) fun v56 =>
 pAlloc P 182 fun v14 =>
 pSt P 182 v14 v55 <|
 pJoin1 (fun J11 =>
 pVal (binV P .eql 35 v40 (.int .i64 11)) fun v58 =>
 pGuard v58 false
 (pVal (binV P .neq 35 v56 (.int .i64 0)) fun v61 =>
 J11 v61)
 (J11 (.bool true)))
 (fun v62 =>
 pIf v62
 (pVal (fieldV P 184 v13 2) fun v63 =>
 pSt P 4 v63 (.bool true) <|
 pLd P 184 v13 fun v64 =>
 pSt P 184 v8 v64 <|
 pRes P 184 v8 fun r8 =>
 R (.tuple #[r8, (.int .i64 0)]))
 (pLd P 182 v14 fun v65 =>
 pVal (fieldV P 184 v13 3) fun v67 =>
 pSt P 182 v67 v65 <|
 pVal (fieldV P 184 v13 4) fun v68 =>
 pSt P 9 v68 v39 <|
 pLd P 184 v13 fun v69 =>
 pSt P 184 v8 v69 <|
 pRes P 184 v8 fun r8 =>
 R (.tuple #[r8, (.int .i64 0)]))))))))
theorem tr121 (v0 v1 v2 v3 : Value) (R : Value → World → Prop) : trF P ag [(4, [20]), (7, [46]), (11, [62])] [] Tryz.f121 [v0, v1, v2, v3] R = G121 v0 v1 v2 v3 R := by kernel_rfl
theorem hb121 : hasBody P 121 = true := by kernel_rfl
theorem c121 {v0 v1 v2 v3 : Value} {K : Value → World → Prop} {w : World} (h : G121 v0 v1 v2 v3 K w) : pCall P 121 [v0, v1, v2, v3] K w := pCall_of mixed Tryz.func121 hb121 (tr121 v0 v1 v2 v3 K) h
/-- almshouse/ledger.there -/
@[irreducible] def G122 (v0 v1 : Value) (R : Value → World → Prop) : World → Prop :=
 pNew 56 v0 fun v2 =>
 pCall P 141 [v1, (.int .i64 0), (.int .i64 3)] fun v7 =>
 pVal (unV .not v7) fun v8 =>
 pIf v8
 (R (.int .i64 5))
 (pVal (fieldV P 56 v2 2) fun v11 =>
 pVal (indexV P 54 v11 v1) fun v12 =>
 pVal (fieldV P 53 v12 0) fun v13 =>
 pLd P 4 v13 fun v14 =>
 pVal (unV .not v14) fun v15 =>
 pIf v15
 (R (.int .i64 6))
 (R (.int .i64 0)))
theorem tr122 (v0 v1 : Value) (R : Value → World → Prop) : trF P ag [] [] Tryz.f122 [v0, v1] R = G122 v0 v1 R := by kernel_rfl
theorem hb122 : hasBody P 122 = true := by kernel_rfl
theorem c122 {v0 v1 : Value} {K : Value → World → Prop} {w : World} (h : G122 v0 v1 K w) : pCall P 122 [v0, v1] K w := pCall_of mixed Tryz.func122 hb122 (tr122 v0 v1 K) h
/-- almshouse/rule.Check -/
@[irreducible] def G123 (v0 v1 : Value) (R : Value → World → Prop) : World → Prop :=
 pVal (binV P .lss 3 v0 (.int .i64 1)) fun v6 =>
 pGuard v6 false
 (pVal (binV P .gtr 3 v0 (.int .i64 64)) fun v9 =>
 pGuard v9 false
 (pVal (binV P .lss 3 v1 (.int .i64 0)) fun v13 =>
 pGuard v13 false
 (pVal (binV P .gtr 3 v1 (.int .i64 8)) fun v17 =>
 pIf v17
 (R (.int .i64 5))
 (R (.int .i64 0)))
 (pIf (.bool true)
 (R (.int .i64 5))
 (R (.int .i64 0))))
 (pIf (.bool true)
 (R (.int .i64 5))
 (R (.int .i64 0))))
 (pIf (.bool true)
 (R (.int .i64 5))
 (R (.int .i64 0)))
theorem tr123 (v0 v1 : Value) (R : Value → World → Prop) : trF P ag [] [] Tryz.f123 [v0, v1] R = G123 v0 v1 R := by kernel_rfl
theorem hb123 : hasBody P 123 = true := by kernel_rfl
theorem c123 {v0 v1 : Value} {K : Value → World → Prop} {w : World} (h : G123 v0 v1 K w) : pCall P 123 [v0, v1] K w := pCall_of mixed Tryz.func123 hb123 (tr123 v0 v1 K) h
/-- almshouse/ledger.change -/
@[irreducible] def G124 (v0 v1 : Value) (R : Value → World → Prop) : World → Prop :=
 pNew 56 v0 fun v2 =>
 pAlloc P 56 fun v4 =>
 pVal (fieldV P 56 v2 0) fun v7 =>
 pLd P 3 v7 fun v8 =>
 pVal (binV P .eql 3 v8 (.int .i64 2147483647)) fun v9 =>
 pIf v9
 (pVal (buildV P 56 []) fun v10 =>
 pSt P 56 v4 v10 <|
 pRes P 56 v4 fun r4 =>
 R (.tuple #[r4, (.int .i64 4)]))
 (pLd P 56 v2 fun v11 =>
 pCall P 88 [v11] fun v12 =>
 pAlloc P 56 fun v6 =>
 pSt P 56 v6 v12 <|
 pVal (fieldV P 56 v6 0) fun v13 =>
 pLd P 3 v13 fun v14 =>
 pVal (binV P .add 3 v14 (.int .i64 1)) fun v15 =>
 pVal (fieldV P 56 v6 0) fun v16 =>
 pSt P 3 v16 v15 <|
 pCallV P v1 [v6] fun _ =>
 pLd P 56 v6 fun v19 =>
 pSt P 56 v4 v19 <|
 pRes P 56 v4 fun r4 =>
 R (.tuple #[r4, (.int .i64 0)]))
theorem tr124 (v0 v1 : Value) (R : Value → World → Prop) : trF P ag [] [] Tryz.f124 [v0, v1] R = G124 v0 v1 R := by kernel_rfl
theorem hb124 : hasBody P 124 = true := by kernel_rfl
theorem c124 {v0 v1 : Value} {K : Value → World → Prop} {w : World} (h : G124 v0 v1 K w) : pCall P 124 [v0, v1] K w := pCall_of mixed Tryz.func124 hb124 (tr124 v0 v1 K) h
/-- almshouse/ledger.Create$1 -/
@[irreducible] def G125 (v0 v1 v2 v3 v4 : Value) (R : Value → World → Prop) : World → Prop :=
 pNil v0 fun v7 =>
 pVal (fieldV P 56 v7 1) fun v8 =>
 pLd P 3 v8 fun v9 =>
 pVal (binV P .add 3 v9 (.int .i64 1)) fun v10 =>
 pNil v0 fun v11 =>
 pVal (fieldV P 56 v11 1) fun v12 =>
 pSt P 3 v12 v10 <|
 pDraw fun S1 =>
 pHld P S1 3 v4 fun v14 =>
 pNil v0 fun v16 =>
 pVal (fieldV P 56 v16 1) fun v17 =>
 pHld P S1 3 v17 fun v18 =>
 pHld P S1 3 v1 fun v19 =>
 pHld P S1 3 v2 fun v20 =>
 pHld P S1 24 v3 fun v21 =>
 pNil v0 fun v24 =>
 pVal (fieldV P 56 v24 2) fun v25 =>
 pCall P 108 [v21] fun v22 =>
 pKeep true S1 <|
 pVal (buildV P 53 [(0, (.bool true)), (1, v18), (2, v19), (3, v20), (4, v22)]) fun v23 =>
 pVal (indexV P 54 v25 v14) fun v26 =>
 pSt P 53 v26 v23 <|
 R (.tuple #[])
theorem tr125 (v0 v1 v2 v3 v4 : Value) (R : Value → World → Prop) : trF P ag [] [] Tryz.f125 [v0, v1, v2, v3, v4] R = G125 v0 v1 v2 v3 v4 R := by kernel_rfl
theorem hb125 : hasBody P 125 = true := by kernel_rfl
theorem c125 {v0 v1 v2 v3 v4 : Value} {K : Value → World → Prop} {w : World} (h : G125 v0 v1 v2 v3 v4 K w) : pCall P 125 [v0, v1, v2, v3, v4] K w := pCall_of mixed Tryz.func125 hb125 (tr125 v0 v1 v2 v3 v4 K) h
/-- almshouse/ledger.Free -/
@[irreducible] def G126 (v0 v1 v2 : Value) (R : Value → World → Prop) : World → Prop :=
 pNew 56 v0 fun v3 =>
 pLoop2 (fun ag3 v7 v8 =>
 pVal (binV P .lss 3 v8 v1) fun v11 =>
 pIf v11
 (pJoin1 (fun J6 =>
 pLd P 56 v3 fun v14 =>
 pCall P 159 [v14, v8] fun v16 =>
 pVal (binV P .lss 3 v16 (.int .i64 0)) fun v17 =>
 pGuard v17 true
 (pVal (binV P .eql 61 v2 .nilFunc) fun v20 =>
 pGuard v20 false
 (pCallV P v2 [v8] fun v24 =>
 pVal (unV .not v24) fun v25 =>
 J6 v25)
 (J6 (.bool true)))
 (J6 (.bool false)))
 (fun v27 =>
 pIf v27
 (pRow P 24 1 [(0, v8)] fun v30 =>
 pRoom P (Builtin.append_ #[24, 24] 24 #[v7, v30]) fun v31 =>
 pVal (binV P .add 3 v8 (.int .i64 1)) fun v13 =>
 ag3 v31 v13)
 (pVal (binV P .add 3 v8 (.int .i64 1)) fun v13 =>
 ag3 v7 v13)))
 (R v7)) (.slice none 0 0) (.int .i64 2)
theorem tr126 (v0 v1 v2 : Value) (R : Value → World → Prop) : trF P ag [(6, [27])] [(388, [7, 8])] Tryz.f126 [v0, v1, v2] R = G126 v0 v1 v2 R := by kernel_rfl
theorem hb126 : hasBody P 126 = true := by kernel_rfl
theorem c126 {v0 v1 v2 : Value} {K : Value → World → Prop} {w : World} (h : G126 v0 v1 v2 K w) : pCall P 126 [v0, v1, v2] K w := pCall_of mixed Tryz.func126 hb126 (tr126 v0 v1 v2 K) h
/-- almshouse/rule.paged -/
@[irreducible] def G127 (v0 : Value) (R : Value → World → Prop) : World → Prop :=
 pVal (binV P .geq 3 v0 (.int .i64 2)) fun v4 =>
 pGuard v4 true
 (pVal (binV P .leq 3 v0 (.int .i64 16)) fun v7 =>
 R v7)
 (R (.bool false))
theorem tr127 (v0 : Value) (R : Value → World → Prop) : trF P ag [] [] Tryz.f127 [v0] R = G127 v0 R := by kernel_rfl
theorem hb127 : hasBody P 127 = true := by kernel_rfl
theorem c127 {v0 : Value} {K : Value → World → Prop} {w : World} (h : G127 v0 K w) : pCall P 127 [v0] K w := pCall_of mixed Tryz.func127 hb127 (tr127 v0 K) h
/-- almshouse/rule.Data -/
@[irreducible] def G128 (v0 v1 : Value) (R : Value → World → Prop) : World → Prop :=
 pJoin0 (fun J3 =>
 pCall P 123 [v0, (.int .i64 0)] fun v6 =>
 pVal (binV P .neq 35 v6 (.int .i64 0)) fun v7 =>
 pGuard v7 false
 (pCall P 127 [v1] fun v10 =>
 pVal (unV .not v10) fun v11 =>
 pIf v11
 (R (.int .i64 0))
 (J3))
 (pIf (.bool true)
 (R (.int .i64 0))
 (J3)))
 (pVal (binV P .quo 3 v0 v1) fun v15 =>
 pVal (binV P .add 3 v15 (.int .i64 2)) fun v16 =>
 R v16)
theorem tr128 (v0 v1 : Value) (R : Value → World → Prop) : trF P ag [(3, [])] [] Tryz.f128 [v0, v1] R = G128 v0 v1 R := by kernel_rfl
theorem hb128 : hasBody P 128 = true := by kernel_rfl
theorem c128 {v0 v1 : Value} {K : Value → World → Prop} {w : World} (h : G128 v0 v1 K w) : pCall P 128 [v0, v1] K w := pCall_of mixed Tryz.func128 hb128 (tr128 v0 v1 K) h
/-- (*almshouse/nand.Nand).Geometry -/
@[irreducible] def G129 (v0 : Value) (R : Value → World → Prop) : World → Prop :=
 pAlloc P 23 fun v2 =>
 pVal (binV P .eql 58 v0 (.pointer none)) fun v4 =>
 pIf v4
 (pVal (buildV P 23 []) fun v5 =>
 pSt P 23 v2 v5 <|
 pRes P 23 v2 fun r2 =>
 R r2)
 (pNil v0 fun v7 =>
 pVal (fieldV P 127 v7 0) fun v8 =>
 pLd P 23 v8 fun v9 =>
 pSt P 23 v2 v9 <|
 pRes P 23 v2 fun r2 =>
 R r2)
theorem tr129 (v0 : Value) (R : Value → World → Prop) : trF P ag [] [] Tryz.f129 [v0] R = G129 v0 R := by kernel_rfl
theorem hb129 : hasBody P 129 = true := by kernel_rfl
theorem c129 {v0 : Value} {K : Value → World → Prop} {w : World} (h : G129 v0 K w) : pCall P 129 [v0] K w := pCall_of mixed Tryz.func129 hb129 (tr129 v0 K) h
/-- (*almshouse/nand.Nand).Erase -/
@[irreducible] def G130 (v0 v1 v2 : Value) (R : Value → World → Prop) : World → Prop :=
 pCall P 89 [v0, v2] fun v11 =>
 pAlloc P 128 fun v7 =>
 pSt P 128 v7 v11 <|
 pVal (binV P .eql 58 v0 (.pointer none)) fun v14 =>
 pIf v14
 (R (.int .i64 1))
 (pLd P 128 v7 fun v16 =>
 pVal (binV P .eql 128 v16 (.pointer none)) fun v17 =>
 pIf v17
 (R (.int .i64 5))
 (pLd P 128 v7 fun v19 =>
 pNil v19 fun v20 =>
 pVal (fieldV P 132 v20 2) fun v21 =>
 pLd P 4 v21 fun v22 =>
 pIf v22
 (R (.int .i64 10))
 (pCall P 160 [v0, v1, (.func (.func 161) #[] #[v7])] fun v26 =>
 pVal (binV P .eql 35 v26 (.int .i64 0)) fun v28 =>
 pIf v28
 (pLd P 128 v7 fun v29 =>
 pCall P 162 [v29, (.int .i64 0)] fun _ =>
 pLd P 128 v7 fun v31 =>
 pNil v31 fun v32 =>
 pVal (fieldV P 132 v32 3) fun v33 =>
 pLd P 3 v33 fun v34 =>
 pVal (binV P .add 3 v34 (.int .i64 1)) fun v35 =>
 pNil v31 fun v36 =>
 pVal (fieldV P 132 v36 3) fun v37 =>
 pSt P 3 v37 v35 <|
 R v26)
 (R v26))))
theorem tr130 (v0 v1 v2 : Value) (R : Value → World → Prop) : trF P ag [] [] Tryz.f130 [v0, v1, v2] R = G130 v0 v1 v2 R := by kernel_rfl
theorem hb130 : hasBody P 130 = true := by kernel_rfl
theorem c130 {v0 v1 v2 : Value} {K : Value → World → Prop} {w : World} (h : G130 v0 v1 v2 K w) : pCall P 130 [v0, v1, v2] K w := pCall_of mixed Tryz.func130 hb130 (tr130 v0 v1 v2 K) h
/-- almshouse/adlog.Save -/
@[irreducible] def G131 (v0 v1 : Value) (R : Value → World → Prop) : World → Prop :=
 pNew 56 v1 fun v3 =>
 pVal (binV P .eql 58 v0 (.pointer none)) fun v11 =>
 pIf v11
 (R (.int .i64 1))
 (pCall P 148 [v0] fun v14 =>
 pVal (extractV v14 0) fun v15 =>
 pVal (extractV v14 1) fun v16 =>
 pAlloc P 200 fun v5 =>
 pSt P 200 v5 v15 <|
 pVal (binV P .neq 35 v16 (.int .i64 0)) fun v18 =>
 pIf v18
 (R v16)
 (pDraw fun S6 =>
 pHld P S6 56 v3 fun v21 =>
 pCall P 25 [v0] fun v23 =>
 pKeep true S6 <|
 pCall P 129 [v0] fun v25 =>
 pKeep true S6 <|
 pVal (fieldOfV P 23 v25 3) fun v26 =>
 pCall P 163 [v21, v23, v26] fun v27 =>
 pVal (extractV v27 0) fun v28 =>
 pVal (extractV v27 1) fun v29 =>
 pVal (binV P .neq 35 v29 (.int .i64 0)) fun v32 =>
 pIf v32
 (R v29)
 (pVal (fieldV P 56 v3 0) fun v35 =>
 pLd P 3 v35 fun v36 =>
 pVal (fieldV P 200 v5 0) fun v37 =>
 pVal (fieldV P 56 v37 0) fun v38 =>
 pLd P 3 v38 fun v39 =>
 pVal (binV P .leq 3 v36 v39) fun v40 =>
 pIf v40
 (R (.int .i64 2))
 (pVal (fieldV P 200 v5 1) fun v43 =>
 pLd P 3 v43 fun v44 =>
 pCall P 164 [v0, v44] fun v45 =>
 pVal (extractV v45 0) fun v46 =>
 pVal (extractV v45 1) fun v47 =>
 pVal (extractV v45 2) fun v48 =>
 pVal (binV P .neq 35 v48 (.int .i64 0)) fun v50 =>
 pIf v50
 (R v48)
 (pRun P (convert 227 9 v28) fun v56 =>
 pCall P 165 [v0, (.int .i64 4), v46, v47, (.slice none 0 0), v56] fun v57 =>
 R v57)))))
theorem tr131 (v0 v1 : Value) (R : Value → World → Prop) : trF P ag [] [] Tryz.f131 [v0, v1] R = G131 v0 v1 R := by kernel_rfl
theorem hb131 : hasBody P 131 = true := by kernel_rfl
theorem c131 {v0 v1 : Value} {K : Value → World → Prop} {w : World} (h : G131 v0 v1 K w) : pCall P 131 [v0, v1] K w := pCall_of mixed Tryz.func131 hb131 (tr131 v0 v1 K) h
/-- almshouse/table.New -/
@[irreducible] def G132 (v0 v1 : Value) (R : Value → World → Prop) : World → Prop :=
 pJoin0 (fun J3 =>
 pVal (binV P .lss 3 v0 (.int .i64 1)) fun v7 =>
 pGuard v7 false
 (pVal (binV P .gtr 3 v0 (.int .i64 64)) fun v10 =>
 pGuard v10 false
 (pVal (binV P .lss 3 v1 (.int .i64 2)) fun v14 =>
 pGuard v14 false
 (pVal (binV P .gtr 3 v1 (.int .i64 16)) fun v18 =>
 pIf v18
 (R (.pointer none))
 (J3))
 (pIf (.bool true)
 (R (.pointer none))
 (J3)))
 (pIf (.bool true)
 (R (.pointer none))
 (J3)))
 (pIf (.bool true)
 (R (.pointer none))
 (J3)))
 (pVal (buildV P 226 [(0, v1)]) fun v21 =>
 pNew 226 v21 fun v22 =>
 pCall P 140 [v22, v0] fun _ =>
 R v22)
theorem tr132 (v0 v1 : Value) (R : Value → World → Prop) : trF P ag [(3, [])] [] Tryz.f132 [v0, v1] R = G132 v0 v1 R := by kernel_rfl
theorem hb132 : hasBody P 132 = true := by kernel_rfl
theorem c132 {v0 v1 : Value} {K : Value → World → Prop} {w : World} (h : G132 v0 v1 K w) : pCall P 132 [v0, v1] K w := pCall_of mixed Tryz.func132 hb132 (tr132 v0 v1 K) h
/-- almshouse/buffer.New -/
@[irreducible] def G133 (R : Value → World → Prop) : World → Prop :=
 pVal (buildV P 218 []) fun v1 =>
 pNew 218 v1 fun v2 =>
 R v2
theorem tr133 (R : Value → World → Prop) : trF P ag [] [] Tryz.f133 [] R = G133 R := by kernel_rfl
theorem hb133 : hasBody P 133 = true := by kernel_rfl
theorem c133 {K : Value → World → Prop} {w : World} (h : G133 K w) : pCall P 133 [] K w := pCall_of mixed Tryz.func133 hb133 (tr133 K) h
/-- (*almshouse/store.Store).Flush -/
@[irreducible] def G136 (v0 : Value) (R : Value → World → Prop) : World → Prop :=
 pVal (binV P .eql 97 v0 (.pointer none)) fun v6 =>
 pIf v6
 (R (.int .i64 1))
 (pNil v0 fun v9 =>
 pVal (fieldV P 174 v9 7) fun v10 =>
 pLd P 4 v10 fun v11 =>
 pIf v11
 (R (.int .i64 13))
 (pLoop0 (fun ag5 =>
 pNil v0 fun v13 =>
 pVal (fieldV P 174 v13 4) fun v14 =>
 pLd P 172 v14 fun v15 =>
 pCall P 117 [v15] fun v16 =>
 pVal (binV P .gtr 3 v16 (.int .i64 0)) fun v17 =>
 pIf v17
 (pCall P 166 [v0] fun v19 =>
 pVal (binV P .neq 35 v19 (.int .i64 0)) fun v21 =>
 pIf v21
 (R v19)
 (ag5))
 (R (.int .i64 0))) ))
theorem tr136 (v0 : Value) (R : Value → World → Prop) : trF P ag [] [(648, [])] Tryz.f136 [v0] R = G136 v0 R := by kernel_rfl
theorem hb136 : hasBody P 136 = true := by kernel_rfl
theorem c136 {v0 : Value} {K : Value → World → Prop} {w : World} (h : G136 v0 K w) : pCall P 136 [v0] K w := pCall_of mixed Tryz.func136 hb136 (tr136 v0 K) h
/-- (*almshouse/table.Table).Clear -/
@[irreducible] def G139 (v0 v1 : Value) (R : Value → World → Prop) : World → Prop :=
 pCall P 120 [v0, v1] fun v11 =>
 pVal (extractV v11 0) fun v12 =>
 pVal (extractV v11 1) fun v13 =>
 pVal (extractV v11 2) fun v14 =>
 pIf v14
 (pNil v0 fun v17 =>
 pVal (fieldV P 226 v17 2) fun v18 =>
 pLd P 224 v18 fun v19 =>
 pVal (indexV P 224 v19 v12) fun v21 =>
 pLd P 24 v21 fun v22 =>
 pVal (indexV P 24 v22 v13) fun v24 =>
 pSt P 3 v24 (.int .i64 (-1)) <|
 pNil v0 fun v26 =>
 pVal (fieldV P 226 v26 3) fun v27 =>
 pLd P 24 v27 fun v28 =>
 pVal (indexV P 24 v28 v12) fun v30 =>
 pLd P 3 v30 fun v31 =>
 pVal (binV P .sub 3 v31 (.int .i64 1)) fun v32 =>
 pVal (indexV P 24 v28 v12) fun v33 =>
 pSt P 3 v33 v32 <|
 pVal (buildV P 222 []) fun v36 =>
 pNil v0 fun v37 =>
 pVal (fieldV P 226 v37 1) fun v38 =>
 pVal (indexV P 223 v38 v1) fun v39 =>
 pSt P 222 v39 v36 <|
 R v14)
 (R v14)
theorem tr139 (v0 v1 : Value) (R : Value → World → Prop) : trF P ag [] [] Tryz.f139 [v0, v1] R = G139 v0 v1 R := by kernel_rfl
theorem hb139 : hasBody P 139 = true := by kernel_rfl
theorem c139 {v0 v1 : Value} {K : Value → World → Prop} {w : World} (h : G139 v0 v1 K w) : pCall P 139 [v0, v1] K w := pCall_of mixed Tryz.func139 hb139 (tr139 v0 v1 K) h
/-- (*almshouse/table.Table).Grow -/
@[irreducible] def G140 (v0 v1 : Value) (R : Value → World → Prop) : World → Prop :=
 pVal (binV P .eql 171 v0 (.pointer none)) fun v7 =>
 pIf v7
 (R (.tuple #[]))
 (pVal (maxV [v1, (.int .i64 0)]) fun v9 =>
 pNil v0 fun v11 =>
 pVal (fieldV P 226 v11 3) fun v12 =>
 pLd P 24 v12 fun v13 =>
 pVal (lenBV P #[24] [v13]) fun v14 =>
 pVal (binV P .sub 3 (.int .i64 64) v14) fun v15 =>
 pVal (minV [v9, v15]) fun v16 =>
 pLoop1 (fun ag2 v17 =>
 pVal (binV P .lss 3 v17 v16) fun v18 =>
 pIf v18
 (pNil v0 fun v20 =>
 pVal (fieldV P 226 v20 0) fun v21 =>
 pLd P 3 v21 fun v22 =>
 pRun P (Instr.makeSlice 24 v22 v22) fun v23 =>
 pVal (lenBV P #[24] [v23]) fun v25 =>
 pLoop1 (fun ag5 v26 =>
 pVal (binV P .lss 3 v26 v25) fun v27 =>
 pIf v27
 (pVal (indexV P 24 v23 v26) fun v31 =>
 pSt P 3 v31 (.int .i64 (-1)) <|
 pVal (binV P .add 3 v26 (.int .i64 1)) fun v32 =>
 ag5 v32)
 (pNil v0 fun v35 =>
 pVal (fieldV P 226 v35 2) fun v36 =>
 pLd P 224 v36 fun v37 =>
 pRow P 224 1 [(0, v23)] fun v39 =>
 pRoom P (Builtin.append_ #[224, 224] 224 #[v37, v39]) fun v40 =>
 pNil v0 fun v41 =>
 pVal (fieldV P 226 v41 2) fun v42 =>
 pSt P 224 v42 v40 <|
 pNil v0 fun v45 =>
 pVal (fieldV P 226 v45 3) fun v46 =>
 pLd P 24 v46 fun v47 =>
 pRow P 24 1 [(0, (.int .i64 0))] fun v48 =>
 pRoom P (Builtin.append_ #[24, 24] 24 #[v47, v48]) fun v49 =>
 pNil v0 fun v50 =>
 pVal (fieldV P 226 v50 3) fun v51 =>
 pSt P 24 v51 v49 <|
 pVal (binV P .add 3 v17 (.int .i64 1)) fun v52 =>
 ag2 v52)) (.int .i64 0))
 (R (.tuple #[]))) (.int .i64 0))
theorem tr140 (v0 v1 : Value) (R : Value → World → Prop) : trF P ag [] [(267, [17]), (648, [26])] Tryz.f140 [v0, v1] R = G140 v0 v1 R := by kernel_rfl
theorem hb140 : hasBody P 140 = true := by kernel_rfl
theorem c140 {v0 v1 : Value} {K : Value → World → Prop} {w : World} (h : G140 v0 v1 K w) : pCall P 140 [v0, v1] K w := pCall_of mixed Tryz.func140 hb140 (tr140 v0 v1 K) h
/-- almshouse/ledger.within -/
@[irreducible] def G141 (v0 v1 v2 : Value) (R : Value → World → Prop) : World → Prop :=
 pVal (binV P .geq 3 v0 v1) fun v9 =>
 pGuard v9 true
 (pVal (binV P .leq 3 v0 v2) fun v13 =>
 R v13)
 (R (.bool false))
theorem tr141 (v0 v1 v2 : Value) (R : Value → World → Prop) : trF P ag [] [] Tryz.f141 [v0, v1, v2] R = G141 v0 v1 v2 R := by kernel_rfl
theorem hb141 : hasBody P 141 = true := by kernel_rfl
theorem c141 {v0 v1 v2 : Value} {K : Value → World → Prop} {w : World} (h : G141 v0 v1 v2 K w) : pCall P 141 [v0, v1, v2] K w := pCall_of mixed Tryz.func141 hb141 (tr141 v0 v1 v2 K) h
/-- almshouse/queue.Check -/
@[irreducible] def G143 (v0 : Value) (R : Value → World → Prop) : World → Prop :=
 pNew 30 v0 fun v1 =>
 pVal (fieldV P 30 v1 0) fun v3 =>
 pLd P 3 v3 fun v4 =>
 pVal (binV P .eql 3 v4 (.int .i64 2)) fun v6 =>
 pIf v6
 (R (.int .i64 0))
 (pJoin1 (fun J6 =>
 pVal (binV P .eql 3 v4 (.int .i64 1)) fun v8 =>
 pIf v8
 (J6 v8)
 (pVal (binV P .eql 3 v4 (.int .i64 3)) fun v9 =>
 J6 v9))
 (fun v7 =>
 pIf v7
 (pVal (fieldV P 30 v1 2) fun v10 =>
 pLd P 9 v10 fun v11 =>
 pVal (binV P .eql 9 v11 (.string { data := #[] })) fun v12 =>
 pIf v12
 (R (.int .i64 0))
 (R (.int .i64 1)))
 (pVal (binV P .eql 3 v4 (.int .i64 4)) fun v14 =>
 pIf v14
 (pVal (fieldV P 30 v1 2) fun v15 =>
 pLd P 9 v15 fun v16 =>
 pVal (binV P .eql 9 v16 (.string { data := #[] })) fun v17 =>
 pGuard v17 true
 (pVal (fieldV P 30 v1 1) fun v19 =>
 pLd P 3 v19 fun v20 =>
 pVal (binV P .eql 3 v20 (.int .i64 0)) fun v21 =>
 pIf v21
 (R (.int .i64 0))
 (R (.int .i64 1)))
 (pIf (.bool false)
 (R (.int .i64 0))
 (R (.int .i64 1))))
 (R (.int .i64 1)))))
theorem tr143 (v0 : Value) (R : Value → World → Prop) : trF P ag [(6, [7])] [] Tryz.f143 [v0] R = G143 v0 R := by kernel_rfl
theorem hb143 : hasBody P 143 = true := by kernel_rfl
theorem c143 {v0 : Value} {K : Value → World → Prop} {w : World} (h : G143 v0 K w) : pCall P 143 [v0] K w := pCall_of mixed Tryz.func143 hb143 (tr143 v0 K) h
end Go.Al
