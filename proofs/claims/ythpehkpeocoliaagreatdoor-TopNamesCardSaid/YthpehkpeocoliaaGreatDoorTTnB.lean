/- The trees of the functions that the law reaches, written out by program; each is shown to be the function's own; then their table. -/
import Derived.Test.YthpehkpeocoliaaGreatDoorProg
import Derived.Test.YthpehkpeocoliaaGreatDoorTTnA
import Derived.KernelRfl
import Derived.Test.YthpehkpeocoliaaGreatDoorPg3
namespace Go.Pg
open Go.Proofs
set_option linter.unusedVariables false
set_option maxRecDepth 100000


noncomputable def T79k0 (a14 : Addr) (a321 : Addr) (p11 : (Option Addr)) (p0 : (Option Addr)) (a17 : Addr) : Ex → List Value → Pg :=
  fun e374 l375 => sw e374 .normal (asNil l375 (.act (ld1 (aadd a14 4)) fun v376 => asSlice v376 fun p377 n378 n379 => asSome p377 fun a380 => grd (decide (1 < ((n378 : Nat) : Int))) (.act (ld1 (aadd a380 1)) fun v381 => asInt .i64 v381 fun i382 => .act (ld1 (aadd a14 2)) fun v383 => asStr v383 fun s384 => .act (ldN 5 a321) fun v385 => asAgg v385 fun l386 => asCons l386 fun v387 l388 => asSlice v387 fun p389 n390 n391 => asCons l388 fun v392 l393 => asInt .i64 v392 fun i394 => asCons l393 fun v395 l396 => asStr v395 fun s397 => asCons l396 fun v398 l399 => asInt .i64 v398 fun i400 => asCons l399 fun v401 l402 => asSlice v401 fun p403 n404 n405 => asNil l402 (.act (newC [(.string s384), (.slice p389 n390 n391), (.int .i64 i394), (.string s397), (.int .i64 i400), (.slice p403 n404 n405), (.pointer p11)]) fun v406 => asPtr v406 fun p407 => asSome p407 fun a408 => .get fun h428 => grd (chks [((ld1 (aadd a380 1)), v381), ((ld1 (aadd a14 4)), v376)] h428) (.call 22 [(.pointer p0), (.int .i64 i382), (.pointer (some a408))] fun v409 => asAgg v409 fun l410 => asCons l410 fun v411 l412 => asInt .i64 v411 fun i413 => asCons l412 fun v414 l415 => asStr v414 fun s416 => asCons l415 fun v417 l418 => asInt .i64 v417 fun i419 => asCons l418 fun v420 l421 => asSlice v420 fun p422 n423 n424 => asNil l421 (.act (stC a17 [(.int .i64 i413), (.string s416), (.int .i64 i419), (.slice p422 n423 n424)]) fun v425 => asTuple v425 fun l426 => asNil l426 (.act (ldN 4 a17) fun v427 => .ret .ret [v427]))))))) (.fail)

/-- (*hindsight/infer.finder).rec -/
noncomputable def T79 (p0 : (Option Addr)) (i1 : Int) (i2 : Int) (i3 : Int) (s4 : ByteArray) (s5 : ByteArray) (p6 : (Option Addr)) (n7 : Nat) (n8 : Nat) (i9 : Int) (i10 : Int) (p11 : (Option Addr)) : Pg :=
  .act (newC [(.int .i64 i2), (.int .i64 i3), (.string s4), (.string s5), (.slice p6 n7 n8), (.int .i64 i9), (.int .i64 i10)]) fun v12 => asPtr v12 fun p13 => asSome p13 fun a14 => .act (newC [(.int .i64 0), (.string (bs [])), (.int .i64 0), (.slice none 0 0)]) fun v15 => asPtr v15 fun p16 => asSome p16 fun a17 => .get fun h18 => asSome p0 fun a19 => .act (ld1 (aadd a19 2)) fun v20 => asPtr v20 fun p21 => asSome p0 fun a22 => .act (ld1 (aadd a22 2)) fun v23 => asPtr v23 fun p24 => asSome p0 fun a25 => .act (ld1 (aadd a25 2)) fun v26 => asPtr v26 fun p27 => .get fun h29 => grd (newN h18.n h29 []) (.act (newC [(.int .i64 0), (.string (bs [])), (.int .i64 0), (.slice none 0 0)]) fun v28 => asPtr v28 fun p31 => asSome p31 fun a32 => .get fun h30 => .get fun h34 => grd (newN h18.n h34 [h29.n]) (.act (newC [(.int .i64 0), (.string (bs [])), (.int .i64 0), (.slice none 0 0)]) fun v33 => asPtr v33 fun p36 => asSome p36 fun a37 => .get fun h35 => .get fun h39 => grd (newN h18.n h39 [h34.n, h29.n]) (.act (newC [(.int .i64 0), (.string (bs [])), (.int .i64 0), (.slice none 0 0)]) fun v38 => asPtr v38 fun p41 => asSome p41 fun a42 => .get fun h40 => .call 72 [(.pointer p21)] fun v43 => asAgg v43 fun l44 => asCons l44 fun v45 l46 => asInt .i64 v45 fun i47 => asCons l46 fun v48 l49 => asStr v48 fun s50 => asCons l49 fun v51 l52 => asInt .i64 v51 fun i53 => asCons l52 fun v54 l55 => asSlice v54 fun p56 n57 n58 => asNil l55 (.get fun h438 => grd (chks [((ld1 (aadd a25 2)), v26), ((ld1 (aadd a22 2)), v23)] h438) (.get fun h437 => grd (chkO [(h39.n, (h40.get h39.n)), (h34.n, (h35.get h34.n)), (h29.n, (h30.get h29.n))] h437) (.call 72 [(.pointer p24)] fun v59 => asAgg v59 fun l60 => asCons l60 fun v61 l62 => asInt .i64 v61 fun i63 => asCons l62 fun v64 l65 => asStr v64 fun s66 => asCons l65 fun v67 l68 => asInt .i64 v67 fun i69 => asCons l68 fun v70 l71 => asSlice v70 fun p72 n73 n74 => asNil l71 (.get fun h436 => grd (chks [((ld1 (aadd a25 2)), v26)] h436) (.get fun h435 => grd (chkO [(h39.n, (h40.get h39.n)), (h34.n, (h35.get h34.n)), (h29.n, (h30.get h29.n))] h435) (.call 72 [(.pointer p27)] fun v75 => asAgg v75 fun l76 => asCons l76 fun v77 l78 => asInt .i64 v77 fun i79 => asCons l78 fun v80 l81 => asStr v80 fun s82 => asCons l81 fun v83 l84 => asInt .i64 v83 fun i85 => asCons l84 fun v86 l87 => asSlice v86 fun p88 n89 n90 => asNil l87 (.get fun h434 => grd (chkO [(h39.n, (h40.get h39.n)), (h34.n, (h35.get h34.n)), (h29.n, (h30.get h29.n))] h434) (.act (stC a32 [(.int .i64 i47), (.string s50), (.int .i64 i53), (.slice p56 n57 n58)]) fun v91 => asTuple v91 fun l92 => asNil l92 (.act (stC a37 [(.int .i64 i63), (.string s66), (.int .i64 i69), (.slice p72 n73 n74)]) fun v93 => asTuple v93 fun l94 => asNil l94 (.act (stC a42 [(.int .i64 i79), (.string s82), (.int .i64 i85), (.slice p88 n89 n90)]) fun v95 => asTuple v95 fun l96 => asNil l96 (asSome p0 fun a97 => .act (ld1 (aadd (aadd a97 3) 1)) fun v98 => asSlice v98 fun p99 n100 n101 => asSome p0 fun a102 => .act (ld1 (aadd (aadd a102 3) 2)) fun v103 => asSlice v103 fun p104 n105 n106 => .act (ldN 4 a32) fun v107 => asAgg v107 fun l108 => asCons l108 fun v109 l110 => asInt .i64 v109 fun i111 => asCons l110 fun v112 l113 => asStr v112 fun s114 => asCons l113 fun v115 l116 => asInt .i64 v115 fun i117 => asCons l116 fun v118 l119 => asSlice v118 fun p120 n121 n122 => asNil l119 (.act (ldN 4 a37) fun v123 => asAgg v123 fun l124 => asCons l124 fun v125 l126 => asInt .i64 v125 fun i127 => asCons l126 fun v128 l129 => asStr v128 fun s130 => asCons l129 fun v131 l132 => asInt .i64 v131 fun i133 => asCons l132 fun v134 l135 => asSlice v134 fun p136 n137 n138 => asNil l135 (asSome p99 fun a139 => grd ((decide (0 ≤ i1)) && (decide (i1 < ((n100 : Nat) : Int)))) (.act (stC (aadd a139 ((Int.toNat i1) * 4)) [(.int .i64 i111), (.string s114), (.int .i64 i117), (.slice p120 n121 n122)]) fun v140 => asTuple v140 fun l141 => asNil l141 (.get fun h433 => grd (chks [((ldN 4 a37), v123)] h433) (asSome p104 fun a142 => grd ((decide (0 ≤ i1)) && (decide (i1 < ((n105 : Nat) : Int)))) (.act (stC (aadd a142 ((Int.toNat i1) * 4)) [(.int .i64 i127), (.string s130), (.int .i64 i133), (.slice p136 n137 n138)]) fun v143 => asTuple v143 fun l144 => asNil l144 (.act (ldN 4 a32) fun v145 => asAgg v145 fun l146 => asCons l146 fun v147 l148 => asInt .i64 v147 fun i149 => asCons l148 fun v150 l151 => asStr v150 fun s152 => asCons l151 fun v153 l154 => asInt .i64 v153 fun i155 => asCons l154 fun v156 l157 => asSlice v156 fun p158 n159 n160 => asNil l157 (.act (ldN 4 a37) fun v161 => asAgg v161 fun l162 => asCons l162 fun v163 l164 => asInt .i64 v163 fun i165 => asCons l164 fun v166 l167 => asStr v166 fun s168 => asCons l167 fun v169 l170 => asInt .i64 v169 fun i171 => asCons l170 fun v172 l173 => asSlice v172 fun p174 n175 n176 => asNil l173 (.act (ldN 4 a42) fun v177 => asAgg v177 fun l178 => asCons l178 fun v179 l180 => asInt .i64 v179 fun i181 => asCons l180 fun v182 l183 => asStr v182 fun s184 => asCons l183 fun v185 l186 => asInt .i64 v185 fun i187 => asCons l186 fun v188 l189 => asSlice v188 fun p190 n191 n192 => asNil l189 (.act (bdSl 4 2 [(.int .i64 i165), (.string s168), (.int .i64 i171), (.slice p174 n175 n176), (.int .i64 i181), (.string s184), (.int .i64 i187), (.slice p190 n191 n192)]) fun v193 => asSlice v193 fun p194 n195 n196 => .get fun h432 => grd (chks [((ldN 4 a32), v145)] h432) (.call 40 [(.int .i64 5), (.slice p194 n195 n196)] fun v197 => asAgg v197 fun l198 => asCons l198 fun v199 l200 => asInt .i64 v199 fun i201 => asCons l200 fun v202 l203 => asStr v202 fun s204 => asCons l203 fun v205 l206 => asInt .i64 v205 fun i207 => asCons l206 fun v208 l209 => asSlice v208 fun p210 n211 n212 => asNil l209 (.get fun h431 => grd (chks [((ldN 4 a32), v145)] h431) (.call 74 [(.pointer p0), (.int .i64 i1), (.agg #[(.int .i64 i149), (.string s152), (.int .i64 i155), (.slice p158 n159 n160)]), (.agg #[(.int .i64 i201), (.string s204), (.int .i64 i207), (.slice p210 n211 n212)])] fun v213 => asTuple v213 fun l214 => asNil l214 (.act (ld1 (aadd a14 4)) fun v215 => asSlice v215 fun p216 n217 n218 => asSome p216 fun a219 => grd (decide (0 < ((n217 : Nat) : Int))) (.act (ld1 (aadd a219 0)) fun v220 => asInt .i64 v220 fun i221 => .act (ld1 (aadd a14 2)) fun v222 => asStr v222 fun s223 => .act (ldN 4 a32) fun v224 => asAgg v224 fun l225 => asCons l225 fun v226 l227 => asInt .i64 v226 fun i228 => asCons l227 fun v229 l230 => asStr v229 fun s231 => asCons l230 fun v232 l233 => asInt .i64 v232 fun i234 => asCons l233 fun v235 l236 => asSlice v235 fun p237 n238 n239 => asNil l236 (.get fun h241 => .call 73 [(.pointer p11), (.string s223), (.agg #[(.int .i64 i228), (.string s231), (.int .i64 i234), (.slice p237 n238 n239)])] fun v240 => asPtr v240 fun p242 => .get fun h430 => grd (chks [((ld1 (aadd a219 0)), v220), ((ld1 (aadd a14 4)), v215)] h430) (.act (ld1 (aadd a14 3)) fun v243 => grd (past (ld1 (aadd a14 3)) v243 [h241]) (asStr v243 fun s244 => .act (ldN 4 a37) fun v245 => grd (past (ldN 4 a37) v245 [h241]) (asAgg v245 fun l246 => asCons l246 fun v247 l248 => asInt .i64 v247 fun i249 => asCons l248 fun v250 l251 => asStr v250 fun s252 => asCons l251 fun v253 l254 => asInt .i64 v253 fun i255 => asCons l254 fun v256 l257 => asSlice v256 fun p258 n259 n260 => asNil l257 (.get fun h262 => .call 73 [(.pointer p242), (.string s244), (.agg #[(.int .i64 i249), (.string s252), (.int .i64 i255), (.slice p258 n259 n260)])] fun v261 => asPtr v261 fun p263 => .get fun h429 => grd (chks [((ld1 (aadd a219 0)), v220), ((ld1 (aadd a14 4)), v215)] h429) (.act (ldN 4 a42) fun v264 => grd (past (ldN 4 a42) v264 [h262, h241]) (asAgg v264 fun l265 => asCons l265 fun v266 l267 => asInt .i64 v266 fun i268 => asCons l267 fun v269 l270 => asStr v269 fun s271 => asCons l270 fun v272 l273 => asInt .i64 v272 fun i274 => asCons l273 fun v275 l276 => asSlice v275 fun p277 n278 n279 => asNil l276 (.call 81 [(.pointer p0), (.int .i64 i221), (.pointer p263), (.agg #[(.int .i64 i268), (.string s271), (.int .i64 i274), (.slice p277 n278 n279)])] fun v280 => asTuple v280 fun l281 => asNil l281 (.act (ldN 4 a32) fun v282 => asAgg v282 fun l283 => asCons l283 fun v284 l285 => asInt .i64 v284 fun i286 => asCons l285 fun v287 l288 => asStr v287 fun s289 => asCons l288 fun v290 l291 => asInt .i64 v290 fun i292 => asCons l291 fun v293 l294 => asSlice v293 fun p295 n296 n297 => asNil l294 (.call 75 [(.agg #[(.int .i64 i286), (.string s289), (.int .i64 i292), (.slice p295 n296 n297)])] fun v298 => asAgg v298 fun l299 => asCons l299 fun v300 l301 => asSlice v300 fun p302 n303 n304 => asCons l301 fun v305 l306 => asInt .i64 v305 fun i307 => asCons l306 fun v308 l309 => asStr v308 fun s310 => asCons l309 fun v311 l312 => asInt .i64 v311 fun i313 => asCons l312 fun v314 l315 => asSlice v314 fun p316 n317 n318 => asNil l315 (.act (newC [(.slice none 0 0), (.int .i64 0), (.string (bs [])), (.int .i64 0), (.slice none 0 0)]) fun v319 => asPtr v319 fun p320 => asSome p320 fun a321 => .act (stC a321 [(.slice p302 n303 n304), (.int .i64 i307), (.string s310), (.int .i64 i313), (.slice p316 n317 n318)]) fun v322 => asTuple v322 fun l323 => asNil l323 (asSome p0 fun a324 => .act (ld1 (aadd a324 10)) fun v325 => asInt .i64 v325 fun i326 => .join (bif (i326 == 0) then (asSome p0 fun a327 => .act (ld1 (aadd a327 2)) fun v328 => asPtr v328 fun p329 => .act (ldN 4 a32) fun v330 => asAgg v330 fun l331 => asCons l331 fun v332 l333 => asInt .i64 v332 fun i334 => asCons l333 fun v335 l336 => asStr v335 fun s337 => asCons l336 fun v338 l339 => asInt .i64 v338 fun i340 => asCons l339 fun v341 l342 => asSlice v341 fun p343 n344 n345 => asNil l342 (.call 78 [(.pointer p11)] fun v346 => asSlice v346 fun p347 n348 n349 => .get fun h373 => grd (chks [((ldN 4 a32), v330), ((ld1 (aadd a327 2)), v328)] h373) (.call 77 [(.pointer p329), (.agg #[(.int .i64 i334), (.string s337), (.int .i64 i340), (.slice p343 n344 n345)]), (.slice p347 n348 n349)] fun v350 => asAgg v350 fun l351 => asCons l351 fun v352 l353 => asSlice v352 fun p354 n355 n356 => asCons l353 fun v357 l358 => asInt .i64 v357 fun i359 => asCons l358 fun v360 l361 => asStr v360 fun s362 => asCons l361 fun v363 l364 => asInt .i64 v363 fun i365 => asCons l364 fun v366 l367 => asSlice v366 fun p368 n369 n370 => asNil l367 (.act (stC a321 [(.slice p354 n355 n356), (.int .i64 i359), (.string s362), (.int .i64 i365), (.slice p368 n369 n370)]) fun v371 => asTuple v371 fun l372 => asNil l372 (.ret .normal []))))) else (.ret .normal [])) (T79k0 a14 a321 p11 p0 a17))))))))))))))))))))))))))))))))))))))))))
theorem T79_eq (p0 : (Option Addr)) (i1 : Int) (i2 : Int) (i3 : Int) (s4 : ByteArray) (s5 : ByteArray) (p6 : (Option Addr)) (n7 : Nat) (n8 : Nat) (i9 : Int) (i10 : Int) (p11 : (Option Addr)) : progOf PROG false 79 [(.pointer p0), (.int .i64 i1), (.agg #[(.int .i64 i2), (.int .i64 i3), (.string s4), (.string s5), (.slice p6 n7 n8), (.int .i64 i9), (.int .i64 i10)]), (.pointer p11)] = T79 p0 i1 i2 i3 s4 s5 p6 n7 n8 i9 i10 p11 := by kernel_rfl


noncomputable def T80k0 : Ex → List Value → Pg :=
  fun e181 l182 => sw e181 .normal (asNil l182 (.ret .normal [])) (.fail)

noncomputable def T80k1 (i51 : Int) : Ex → List Value → Pg :=
  fun e183 l184 => sw e183 .normal (asNil l184 (.ret .normal [(.int .i64 (wi64 (i51 + 2)))])) (.fail)

noncomputable def T80b0 (a13 : Addr) (p0 : (Option Addr)) (p10 : (Option Addr)) (a42 : Addr) (a47 : Addr) : List Value → Pg :=
  fun l48 => asCons l48 fun v49 l50 => asInt .i64 v49 fun i51 => asNil l50 (.act (ld1 (aadd a13 4)) fun v52 => asSlice v52 fun p53 n54 n55 => bif (decide (i51 < ((n54 : Nat) : Int))) then (.join (.act (ld1 (aadd a13 4)) fun v56 => asSlice v56 fun p57 n58 n59 => asSome p57 fun a60 => grd ((decide (0 ≤ i51)) && (decide (i51 < ((n58 : Nat) : Int)))) (.act (ld1 (aadd a60 ((Int.toNat i51) * 1))) fun v61 => asInt .i64 v61 fun i62 => .call 113 [(.pointer p0), (.int .i64 i62), (.pointer p10)] fun v63 => asTuple v63 fun l64 => asCons l64 fun v65 l66 => asAgg v65 fun l67 => asCons l67 fun v68 l69 => asInt .i64 v68 fun i70 => asCons l69 fun v71 l72 => asStr v71 fun s73 => asCons l72 fun v74 l75 => asInt .i64 v74 fun i76 => asCons l75 fun v77 l78 => asSlice v77 fun p79 n80 n81 => asNil l78 (asCons l66 fun v82 l83 => asPtr v82 fun p84 => asNil l83 (.act (newC [(.int .i64 0), (.string (bs [])), (.int .i64 0), (.slice none 0 0)]) fun v85 => asPtr v85 fun p86 => asSome p86 fun a87 => .act (stC a87 [(.int .i64 i70), (.string s73), (.int .i64 i76), (.slice p79 n80 n81)]) fun v88 => asTuple v88 fun l89 => asNil l89 (.act (ld1 (aadd a13 4)) fun v90 => asSlice v90 fun p91 n92 n93 => asSome p91 fun a94 => grd ((decide (0 ≤ i51)) && (decide (i51 < ((n92 : Nat) : Int)))) (.act (ld1 (aadd a94 ((Int.toNat i51) * 1))) fun v95 => asInt .i64 v95 fun i96 => .act (ldN 4 a87) fun v97 => asAgg v97 fun l98 => asCons l98 fun v99 l100 => asInt .i64 v99 fun i101 => asCons l100 fun v102 l103 => asStr v102 fun s104 => asCons l103 fun v105 l106 => asInt .i64 v105 fun i107 => asCons l106 fun v108 l109 => asSlice v108 fun p110 n111 n112 => asNil l109 (.act (ldN 4 a42) fun v113 => asAgg v113 fun l114 => asCons l114 fun v115 l116 => asInt .i64 v115 fun i117 => asCons l116 fun v118 l119 => asStr v118 fun s120 => asCons l119 fun v121 l122 => asInt .i64 v121 fun i123 => asCons l122 fun v124 l125 => asSlice v124 fun p126 n127 n128 => asNil l125 (.call 74 [(.pointer p0), (.int .i64 i96), (.agg #[(.int .i64 i101), (.string s104), (.int .i64 i107), (.slice p110 n111 n112)]), (.agg #[(.int .i64 i117), (.string s120), (.int .i64 i123), (.slice p126 n127 n128)])] fun v129 => asTuple v129 fun l130 => asNil l130 (.join (bif (i51 == 1) then (.act (ld1 (aadd a13 4)) fun v131 => asSlice v131 fun p132 n133 n134 => asSome p132 fun a135 => grd ((decide (0 ≤ (wi64 (i51 + 1)))) && (decide ((wi64 (i51 + 1)) < ((n133 : Nat) : Int)))) (.act (ld1 (aadd a135 ((Int.toNat (wi64 (i51 + 1))) * 1))) fun v136 => asInt .i64 v136 fun i137 => .call 22 [(.pointer p0), (.int .i64 i137), (.pointer p84)] fun v138 => asAgg v138 fun l139 => asCons l139 fun v140 l141 => asInt .i64 v140 fun i142 => asCons l141 fun v143 l144 => asStr v143 fun s145 => asCons l144 fun v146 l147 => asInt .i64 v146 fun i148 => asCons l147 fun v149 l150 => asSlice v149 fun p151 n152 n153 => asNil l150 (.act (stC a47 [(.int .i64 i142), (.string s145), (.int .i64 i148), (.slice p151 n152 n153)]) fun v154 => asTuple v154 fun l155 => asNil l155 (.ret .normal [])))) else (.act (ld1 (aadd a13 4)) fun v156 => asSlice v156 fun p157 n158 n159 => asSome p157 fun a160 => grd ((decide (0 ≤ (wi64 (i51 + 1)))) && (decide ((wi64 (i51 + 1)) < ((n158 : Nat) : Int)))) (.act (ld1 (aadd a160 ((Int.toNat (wi64 (i51 + 1))) * 1))) fun v161 => asInt .i64 v161 fun i162 => .act (ldN 4 a47) fun v163 => asAgg v163 fun l164 => asCons l164 fun v165 l166 => asInt .i64 v165 fun i167 => asCons l166 fun v168 l169 => asStr v168 fun s170 => asCons l169 fun v171 l172 => asInt .i64 v171 fun i173 => asCons l172 fun v174 l175 => asSlice v174 fun p176 n177 n178 => asNil l175 (.call 81 [(.pointer p0), (.int .i64 i162), (.pointer p84), (.agg #[(.int .i64 i167), (.string s170), (.int .i64 i173), (.slice p176 n177 n178)])] fun v179 => asTuple v179 fun l180 => asNil l180 (.ret .normal []))))) (T80k0)))))))))) (T80k1 i51)) else (.ret (.exit 0) [(.int .i64 i51)]))

noncomputable def T80k2 (a47 : Addr) (a16 : Addr) : Ex → List Value → Pg :=
  fun e185 l186 => sw e185 (.exit 0) (asCons l186 fun v187 l188 => asInt .i64 v187 fun i189 => asNil l188 (.act (ldN 4 a47) fun v190 => asAgg v190 fun l191 => asCons l191 fun v192 l193 => asInt .i64 v192 fun i194 => asCons l193 fun v195 l196 => asStr v195 fun s197 => asCons l196 fun v198 l199 => asInt .i64 v198 fun i200 => asCons l199 fun v201 l202 => asSlice v201 fun p203 n204 n205 => asNil l202 (.act (stC a16 [(.int .i64 i194), (.string s197), (.int .i64 i200), (.slice p203 n204 n205)]) fun v206 => asTuple v206 fun l207 => asNil l207 (.act (ldN 4 a16) fun v208 => .ret .ret [v208])))) (.fail)

/-- (*hindsight/infer.finder).match -/
noncomputable def T80 (p0 : (Option Addr)) (i1 : Int) (i2 : Int) (s3 : ByteArray) (s4 : ByteArray) (p5 : (Option Addr)) (n6 : Nat) (n7 : Nat) (i8 : Int) (i9 : Int) (p10 : (Option Addr)) : Pg :=
  .act (newC [(.int .i64 i1), (.int .i64 i2), (.string s3), (.string s4), (.slice p5 n6 n7), (.int .i64 i8), (.int .i64 i9)]) fun v11 => asPtr v11 fun p12 => asSome p12 fun a13 => .act (newC [(.int .i64 0), (.string (bs [])), (.int .i64 0), (.slice none 0 0)]) fun v14 => asPtr v14 fun p15 => asSome p15 fun a16 => .act (ld1 (aadd a13 4)) fun v17 => asSlice v17 fun p18 n19 n20 => asSome p18 fun a21 => grd (decide (0 < ((n19 : Nat) : Int))) (.act (ld1 (aadd a21 0)) fun v22 => asInt .i64 v22 fun i23 => .call 22 [(.pointer p0), (.int .i64 i23), (.pointer p10)] fun v24 => asAgg v24 fun l25 => asCons l25 fun v26 l27 => asInt .i64 v26 fun i28 => asCons l27 fun v29 l30 => asStr v29 fun s31 => asCons l30 fun v32 l33 => asInt .i64 v32 fun i34 => asCons l33 fun v35 l36 => asSlice v35 fun p37 n38 n39 => asNil l36 (.act (newC [(.int .i64 0), (.string (bs [])), (.int .i64 0), (.slice none 0 0)]) fun v40 => asPtr v40 fun p41 => asSome p41 fun a42 => .act (stC a42 [(.int .i64 i28), (.string s31), (.int .i64 i34), (.slice p37 n38 n39)]) fun v43 => asTuple v43 fun l44 => asNil l44 (.act (newC [(.int .i64 0), (.string (bs [])), (.int .i64 0), (.slice none 0 0)]) fun v45 => asPtr v45 fun p46 => asSome p46 fun a47 => .loop [(.int .i64 1)] (T80b0 a13 p0 p10 a42 a47) (T80k2 a47 a16))))
theorem T80_eq (p0 : (Option Addr)) (i1 : Int) (i2 : Int) (s3 : ByteArray) (s4 : ByteArray) (p5 : (Option Addr)) (n6 : Nat) (n7 : Nat) (i8 : Int) (i9 : Int) (p10 : (Option Addr)) : progOf PROG false 80 [(.pointer p0), (.agg #[(.int .i64 i1), (.int .i64 i2), (.string s3), (.string s4), (.slice p5 n6 n7), (.int .i64 i8), (.int .i64 i9)]), (.pointer p10)] = T80 p0 i1 i2 s3 s4 p5 n6 n7 i8 i9 p10 := by kernel_rfl


/-- (*hindsight/infer.finder).is -/
noncomputable def T81 (p0 : (Option Addr)) (i1 : Int) (p2 : (Option Addr)) (i3 : Int) (s4 : ByteArray) (i5 : Int) (p6 : (Option Addr)) (n7 : Nat) (n8 : Nat) : Pg :=
  .act (newC [(.int .i64 i3), (.string s4), (.int .i64 i5), (.slice p6 n7 n8)]) fun v9 => asPtr v9 fun p10 => asSome p10 fun a11 => .get fun h13 => .call 22 [(.pointer p0), (.int .i64 i1), (.pointer p2)] fun v12 => asAgg v12 fun l14 => asCons l14 fun v15 l16 => asInt .i64 v15 fun i17 => asCons l16 fun v18 l19 => asStr v18 fun s20 => asCons l19 fun v21 l22 => asInt .i64 v21 fun i23 => asCons l22 fun v24 l25 => asSlice v24 fun p26 n27 n28 => asNil l25 (.act (ldN 4 a11) fun v29 => grd (past (ldN 4 a11) v29 [h13]) (asAgg v29 fun l30 => asCons l30 fun v31 l32 => asInt .i64 v31 fun i33 => asCons l32 fun v34 l35 => asStr v34 fun s36 => asCons l35 fun v37 l38 => asInt .i64 v37 fun i39 => asCons l38 fun v40 l41 => asSlice v40 fun p42 n43 n44 => asNil l41 (.call 74 [(.pointer p0), (.int .i64 i1), (.agg #[(.int .i64 i17), (.string s20), (.int .i64 i23), (.slice p26 n27 n28)]), (.agg #[(.int .i64 i33), (.string s36), (.int .i64 i39), (.slice p42 n43 n44)])] fun v45 => asTuple v45 fun l46 => asNil l46 (.ret .ret [(.tuple #[])]))))
theorem T81_eq (p0 : (Option Addr)) (i1 : Int) (p2 : (Option Addr)) (i3 : Int) (s4 : ByteArray) (i5 : Int) (p6 : (Option Addr)) (n7 : Nat) (n8 : Nat) : progOf PROG false 81 [(.pointer p0), (.int .i64 i1), (.pointer p2), (.agg #[(.int .i64 i3), (.string s4), (.int .i64 i5), (.slice p6 n7 n8)])] = T81 p0 i1 p2 i3 s4 i5 p6 n7 n8 := by kernel_rfl


noncomputable def T82k0 (p8 : (Option Addr)) : Ex → List Value → Pg :=
  fun e39 l40 => sw e39 .ret (asCons l40 fun v41 l42 => asBool v41 fun b43 => asNil l42 (.ret .ret [(.pointer p8), (.bool b43)])) (sw e39 .normal (asCons l40 fun v44 l45 => asBool v44 fun b46 => asNil l45 (asSome p8 fun a47 => .act (ld1 (aadd a47 6)) fun v48 => asPtr v48 fun p49 => .ret .normal [(.pointer p49), (.bool b46)])) (.fail))

noncomputable def T82b0 (s1 : ByteArray) (a4 : Addr) : List Value → Pg :=
  fun l5 => asCons l5 fun v6 l7 => asPtr v6 fun p8 => asCons l7 fun v9 l10 => asBool v9 fun b11 => asNil l10 (bif (!(Option.isNone p8)) then (.join (asSome p8 fun a12 => .act (ld1 (aadd a12 0)) fun v13 => asStr v13 fun s14 => bif (s14.toList == s1.toList) then (asSome p8 fun a15 => .act (ldN 5 (aadd a15 1)) fun v16 => asAgg v16 fun l17 => asCons l17 fun v18 l19 => asSlice v18 fun p20 n21 n22 => asCons l19 fun v23 l24 => asInt .i64 v23 fun i25 => asCons l24 fun v26 l27 => asStr v26 fun s28 => asCons l27 fun v29 l30 => asInt .i64 v29 fun i31 => asCons l30 fun v32 l33 => asSlice v32 fun p34 n35 n36 => asNil l33 (.act (stC a4 [(.slice p20 n21 n22), (.int .i64 i25), (.string s28), (.int .i64 i31), (.slice p34 n35 n36)]) fun v37 => asTuple v37 fun l38 => asNil l38 (.ret .ret [(.bool true)]))) else (.ret .normal [(.bool b11)])) (T82k0 p8)) else (.ret (.exit 0) [(.pointer p8), (.bool b11)]))

noncomputable def T82k1 (a4 : Addr) : Ex → List Value → Pg :=
  fun e50 l51 => sw e50 (.exit 0) (asCons l51 fun v52 l53 => asPtr v52 fun p54 => asCons l53 fun v55 l56 => asBool v55 fun b57 => asNil l56 (.act (stC a4 [(.slice none 0 0), (.int .i64 0), (.string (bs [])), (.int .i64 0), (.slice none 0 0)]) fun v58 => asTuple v58 fun l59 => asNil l59 (.act (ldN 5 a4) fun v60 => .ret .ret [(.tuple #[v60, (.bool false)])]))) (sw e50 .ret (asCons l51 fun v61 l62 => asPtr v61 fun p63 => asCons l62 fun v64 l65 => asBool v64 fun b66 => asNil l65 (.act (ldN 5 a4) fun v67 => .ret .ret [(.tuple #[v67, (.bool b66)])])) (.fail))

/-- (*hindsight/infer.bound).find -/
noncomputable def T82 (p0 : (Option Addr)) (s1 : ByteArray) : Pg :=
  .act (newC [(.slice none 0 0), (.int .i64 0), (.string (bs [])), (.int .i64 0), (.slice none 0 0)]) fun v2 => asPtr v2 fun p3 => asSome p3 fun a4 => .loop [(.pointer p0), (.bool false)] (T82b0 s1 a4) (T82k1 a4)
theorem T82_eq (p0 : (Option Addr)) (s1 : ByteArray) : progOf PROG false 82 [(.pointer p0), (.string s1)] = T82 p0 s1 := by kernel_rfl


noncomputable def T83k0 (i67 : Int) : Ex → List Value → Pg :=
  fun e89 l90 => sw e89 .normal (asNil l90 (.ret .normal [(.int .i64 (wi64 (i67 + 1)))])) (.fail)

noncomputable def T83b0 (n62 : Nat) (p61 : (Option Addr)) (p0 : (Option Addr)) (m59 : (Option Nat)) : List Value → Pg :=
  fun l64 => asCons l64 fun v65 l66 => asInt .i64 v65 fun i67 => asNil l66 (bif (decide (i67 < ((n62 : Nat) : Int))) then (.join (asSome p61 fun a68 => grd ((decide (0 ≤ i67)) && (decide (i67 < ((n62 : Nat) : Int)))) (.act (ld1 (aadd a68 ((Int.toNat i67) * 1))) fun v69 => asInt .i64 v69 fun i70 => .call 72 [(.pointer p0)] fun v71 => asAgg v71 fun l72 => asCons l72 fun v73 l74 => asInt .i64 v73 fun i75 => asCons l74 fun v76 l77 => asStr v76 fun s78 => asCons l77 fun v79 l80 => asInt .i64 v79 fun i81 => asCons l80 fun v82 l83 => asSlice v82 fun p84 n85 n86 => asNil l83 (.act (mup (.int .i64) m59 (.int .i64 i70) (.agg #[(.int .i64 i75), (.string s78), (.int .i64 i81), (.slice p84 n85 n86)])) fun v87 => asTuple v87 fun l88 => asNil l88 (.ret .normal [])))) (T83k0 i67)) else (.ret (.exit 0) [(.int .i64 i67)]))

noncomputable def T83k1 (a12 : Addr) (m59 : (Option Nat)) (p0 : (Option Addr)) (a15 : Addr) : Ex → List Value → Pg :=
  fun e91 l92 => sw e91 (.exit 0) (asCons l92 fun v93 l94 => asInt .i64 v93 fun i95 => asNil l94 (.act (ldN 4 (aadd a12 1)) fun v96 => asAgg v96 fun l97 => asCons l97 fun v98 l99 => asInt .i64 v98 fun i100 => asCons l99 fun v101 l102 => asStr v101 fun s103 => asCons l102 fun v104 l105 => asInt .i64 v104 fun i106 => asCons l105 fun v107 l108 => asSlice v107 fun p109 n110 n111 => asNil l108 (.call 114 [(.agg #[(.int .i64 i100), (.string s103), (.int .i64 i106), (.slice p109 n110 n111)]), (.map m59)] fun v112 => asAgg v112 fun l113 => asCons l113 fun v114 l115 => asInt .i64 v114 fun i116 => asCons l115 fun v117 l118 => asStr v117 fun s119 => asCons l118 fun v120 l121 => asInt .i64 v120 fun i122 => asCons l121 fun v123 l124 => asSlice v123 fun p125 n126 n127 => asNil l124 (.call 23 [(.pointer p0), (.agg #[(.int .i64 i116), (.string s119), (.int .i64 i122), (.slice p125 n126 n127)])] fun v128 => asAgg v128 fun l129 => asCons l129 fun v130 l131 => asInt .i64 v130 fun i132 => asCons l131 fun v133 l134 => asStr v133 fun s135 => asCons l134 fun v136 l137 => asInt .i64 v136 fun i138 => asCons l137 fun v139 l140 => asSlice v139 fun p141 n142 n143 => asNil l140 (.act (stC a15 [(.int .i64 i132), (.string s135), (.int .i64 i138), (.slice p141 n142 n143)]) fun v144 => asTuple v144 fun l145 => asNil l145 (.act (ldN 4 a15) fun v146 => .ret .ret [v146])))))) (.fail)

/-- hindsight/scheme.Open -/
noncomputable def T83 (p0 : (Option Addr)) (p1 : (Option Addr)) (n2 : Nat) (n3 : Nat) (i4 : Int) (s5 : ByteArray) (i6 : Int) (p7 : (Option Addr)) (n8 : Nat) (n9 : Nat) : Pg :=
  .act (newC [(.slice p1 n2 n3), (.int .i64 i4), (.string s5), (.int .i64 i6), (.slice p7 n8 n9)]) fun v10 => asPtr v10 fun p11 => asSome p11 fun a12 => .act (newC [(.int .i64 0), (.string (bs [])), (.int .i64 0), (.slice none 0 0)]) fun v13 => asPtr v13 fun p14 => asSome p14 fun a15 => .act (ldN 5 a12) fun v16 => asAgg v16 fun l17 => asCons l17 fun v18 l19 => asSlice v18 fun p20 n21 n22 => asCons l19 fun v23 l24 => asInt .i64 v23 fun i25 => asCons l24 fun v26 l27 => asStr v26 fun s28 => asCons l27 fun v29 l30 => asInt .i64 v29 fun i31 => asCons l30 fun v32 l33 => asSlice v32 fun p34 n35 n36 => asNil l33 (.call 110 [(.agg #[(.slice p20 n21 n22), (.int .i64 i25), (.string s28), (.int .i64 i31), (.slice p34 n35 n36)])] fun v37 => asBool v37 fun b38 => bif (!b38) then (.act (ldN 4 (aadd a12 1)) fun v39 => asAgg v39 fun l40 => asCons l40 fun v41 l42 => asInt .i64 v41 fun i43 => asCons l42 fun v44 l45 => asStr v44 fun s46 => asCons l45 fun v47 l48 => asInt .i64 v47 fun i49 => asCons l48 fun v50 l51 => asSlice v50 fun p52 n53 n54 => asNil l51 (.act (stC a15 [(.int .i64 i43), (.string s46), (.int .i64 i49), (.slice p52 n53 n54)]) fun v55 => asTuple v55 fun l56 => asNil l56 (.act (ldN 4 a15) fun v57 => .ret .ret [v57]))) else (.act makeMapAct fun v58 => asMap v58 fun m59 => .act (ld1 (aadd a12 0)) fun v60 => asSlice v60 fun p61 n62 n63 => .loop [(.int .i64 0)] (T83b0 n62 p61 p0 m59) (T83k1 a12 m59 p0 a15)))
theorem T83_eq (p0 : (Option Addr)) (p1 : (Option Addr)) (n2 : Nat) (n3 : Nat) (i4 : Int) (s5 : ByteArray) (i6 : Int) (p7 : (Option Addr)) (n8 : Nat) (n9 : Nat) : progOf PROG false 83 [(.pointer p0), (.agg #[(.slice p1 n2 n3), (.int .i64 i4), (.string s5), (.int .i64 i6), (.slice p7 n8 n9)])] = T83 p0 p1 n2 n3 i4 s5 i6 p7 n8 n9 := by kernel_rfl


noncomputable def T84k0 (i57 : Int) : Ex → List Value → Pg :=
  fun e90 l91 => sw e90 .normal (asCons l91 fun v92 l93 => asSlice v92 fun p94 n95 n96 => asNil l93 (.ret .normal [(.int .i64 (wi64 (i57 + 1))), (.slice p94 n95 n96)])) (.fail)

noncomputable def T84b0 (n52 : Nat) (p51 : (Option Addr)) : List Value → Pg :=
  fun l54 => asCons l54 fun v55 l56 => asInt .i64 v55 fun i57 => asCons l56 fun v58 l59 => asSlice v58 fun p60 n61 n62 => asNil l59 (bif (decide (i57 < ((n52 : Nat) : Int))) then (.join (asSome p51 fun a63 => grd ((decide (0 ≤ i57)) && (decide (i57 < ((n52 : Nat) : Int)))) (.act (ld1 (aadd a63 ((Int.toNat i57) * 1))) fun v64 => asStr v64 fun s65 => .call 115 [(.string s65)] fun v66 => asAgg v66 fun l67 => asCons l67 fun v68 l69 => asInt .i64 v68 fun i70 => asCons l69 fun v71 l72 => asStr v71 fun s73 => asCons l72 fun v74 l75 => asInt .i64 v74 fun i76 => asCons l75 fun v77 l78 => asSlice v77 fun p79 n80 n81 => asNil l78 (.act (bdSl 4 1 [(.int .i64 i70), (.string s73), (.int .i64 i76), (.slice p79 n80 n81)]) fun v82 => asSlice v82 fun p83 n84 n85 => .act (apS 4 56 p60 n61 n62 p83 n84 n85) fun v86 => asSlice v86 fun p87 n88 n89 => .ret .normal [(.slice p87 n88 n89)]))) (T84k0 i57)) else (.ret (.exit 0) [(.int .i64 i57), (.slice p60 n61 n62)]))

noncomputable def T84k1 : Ex → List Value → Pg :=
  fun e97 l98 => sw e97 (.exit 0) (asCons l98 fun v99 l100 => asInt .i64 v99 fun i101 => asCons l100 fun v102 l103 => asSlice v102 fun p104 n105 n106 => asNil l103 (.ret .ret [(.slice p104 n105 n106)])) (.fail)

/-- (*hindsight/infer.finder).args -/
noncomputable def T84 (p0 : (Option Addr)) (i1 : Int) (i2 : Int) (s3 : ByteArray) (s4 : ByteArray) (p5 : (Option Addr)) (n6 : Nat) (n7 : Nat) (i8 : Int) (i9 : Int) : Pg :=
  .act (newC [(.int .i64 i1), (.int .i64 i2), (.string s3), (.string s4), (.slice p5 n6 n7), (.int .i64 i8), (.int .i64 i9)]) fun v10 => asPtr v10 fun p11 => asSome p11 fun a12 => asSome p0 fun a13 => .act (ldN 2 (aadd a13 0)) fun v14 => asAgg v14 fun l15 => asCons l15 fun v16 l17 => asSlice v16 fun p18 n19 n20 => asCons l17 fun v21 l22 => asSlice v21 fun p23 n24 n25 => asNil l22 (.act (ld1 (aadd a12 2)) fun v26 => asStr v26 fun s27 => .call 106 [(.agg #[(.slice p18 n19 n20), (.slice p23 n24 n25)]), (.string s27)] fun v28 => asTuple v28 fun l29 => asCons l29 fun v30 l31 => asInt .i64 v30 fun i32 => asCons l31 fun v33 l34 => asInt .i64 v33 fun i35 => asCons l34 fun v36 l37 => asBool v36 fun b38 => asNil l37 (asSome p0 fun a39 => .act (ld1 (aadd (aadd a39 0) 1)) fun v40 => asSlice v40 fun p41 n42 n43 => asSome p41 fun a44 => grd ((decide (0 ≤ i32)) && (decide (i32 < ((n42 : Nat) : Int)))) (.act (ld1 (aadd (aadd a44 ((Int.toNat i32) * 2)) 1)) fun v45 => asSlice v45 fun p46 n47 n48 => asSome p46 fun a49 => grd ((decide (0 ≤ i35)) && (decide (i35 < ((n47 : Nat) : Int)))) (.act (ld1 (aadd (aadd a49 ((Int.toNat i35) * 2)) 1)) fun v50 => asSlice v50 fun p51 n52 n53 => .loop [(.int .i64 0), (.slice none 0 0)] (T84b0 n52 p51) (T84k1)))))
theorem T84_eq (p0 : (Option Addr)) (i1 : Int) (i2 : Int) (s3 : ByteArray) (s4 : ByteArray) (p5 : (Option Addr)) (n6 : Nat) (n7 : Nat) (i8 : Int) (i9 : Int) : progOf PROG false 84 [(.pointer p0), (.agg #[(.int .i64 i1), (.int .i64 i2), (.string s3), (.string s4), (.slice p5 n6 n7), (.int .i64 i8), (.int .i64 i9)])] = T84 p0 i1 i2 s3 s4 p5 n6 n7 i8 i9 := by kernel_rfl


/-- (*hindsight/infer.finder).declared -/
noncomputable def T85 (p0 : (Option Addr)) (i1 : Int) (i2 : Int) (s3 : ByteArray) (s4 : ByteArray) (p5 : (Option Addr)) (n6 : Nat) (n7 : Nat) (i8 : Int) (i9 : Int) : Pg :=
  .act (newC [(.int .i64 i1), (.int .i64 i2), (.string s3), (.string s4), (.slice p5 n6 n7), (.int .i64 i8), (.int .i64 i9)]) fun v10 => asPtr v10 fun p11 => asSome p11 fun a12 => .act (newC [(.int .i64 0), (.string (bs [])), (.int .i64 0), (.slice none 0 0)]) fun v13 => asPtr v13 fun p14 => asSome p14 fun a15 => asSome p0 fun a16 => .act (ldN 2 (aadd a16 0)) fun v17 => asAgg v17 fun l18 => asCons l18 fun v19 l20 => asSlice v19 fun p21 n22 n23 => asCons l20 fun v24 l25 => asSlice v24 fun p26 n27 n28 => asNil l25 (.act (ld1 (aadd a12 2)) fun v29 => asStr v29 fun s30 => .call 106 [(.agg #[(.slice p21 n22 n23), (.slice p26 n27 n28)]), (.string s30)] fun v31 => asTuple v31 fun l32 => asCons l32 fun v33 l34 => asInt .i64 v33 fun i35 => asCons l34 fun v36 l37 => asInt .i64 v36 fun i38 => asCons l37 fun v39 l40 => asBool v39 fun b41 => asNil l40 (asSome p0 fun a42 => .act (ld1 (aadd (aadd a42 0) 1)) fun v43 => asSlice v43 fun p44 n45 n46 => asSome p44 fun a47 => grd ((decide (0 ≤ i35)) && (decide (i35 < ((n45 : Nat) : Int)))) (.act (ld1 (aadd (aadd a47 ((Int.toNat i35) * 2)) 0)) fun v48 => asStr v48 fun s49 => .call 115 [(.string s49)] fun v50 => asAgg v50 fun l51 => asCons l51 fun v52 l53 => asInt .i64 v52 fun i54 => asCons l53 fun v55 l56 => asStr v55 fun s57 => asCons l56 fun v58 l59 => asInt .i64 v58 fun i60 => asCons l59 fun v61 l62 => asSlice v61 fun p63 n64 n65 => asNil l62 (.act (stC a15 [(.int .i64 i54), (.string s57), (.int .i64 i60), (.slice p63 n64 n65)]) fun v66 => asTuple v66 fun l67 => asNil l67 (.act (ldN 4 a15) fun v68 => .ret .ret [v68])))))
theorem T85_eq (p0 : (Option Addr)) (i1 : Int) (i2 : Int) (s3 : ByteArray) (s4 : ByteArray) (p5 : (Option Addr)) (n6 : Nat) (n7 : Nat) (i8 : Int) (i9 : Int) : progOf PROG false 85 [(.pointer p0), (.agg #[(.int .i64 i1), (.int .i64 i2), (.string s3), (.string s4), (.slice p5 n6 n7), (.int .i64 i8), (.int .i64 i9)])] = T85 p0 i1 i2 s3 s4 p5 n6 n7 i8 i9 := by kernel_rfl


/-- hindsight/ty.Size -/
noncomputable def T86 (i0 : Int) (s1 : ByteArray) (i2 : Int) (p3 : (Option Addr)) (n4 : Nat) (n5 : Nat) : Pg :=
  .act (newC [(.int .i64 i0), (.string s1), (.int .i64 i2), (.slice p3 n4 n5)]) fun v6 => asPtr v6 fun p7 => asSome p7 fun a8 => .act (ldN 4 a8) fun v9 => asAgg v9 fun l10 => asCons l10 fun v11 l12 => asInt .i64 v11 fun i13 => asCons l12 fun v14 l15 => asStr v14 fun s16 => asCons l15 fun v17 l18 => asInt .i64 v17 fun i19 => asCons l18 fun v20 l21 => asSlice v20 fun p22 n23 n24 => asNil l21 (.call 116 [(.agg #[(.int .i64 i13), (.string s16), (.int .i64 i19), (.slice p22 n23 n24)]), (.int .i64 0)] fun v25 => asInt .i64 v25 fun i26 => .ret .ret [(.int .i64 i26)])
theorem T86_eq (i0 : Int) (s1 : ByteArray) (i2 : Int) (p3 : (Option Addr)) (n4 : Nat) (n5 : Nat) : progOf PROG false 86 [(.agg #[(.int .i64 i0), (.string s1), (.int .i64 i2), (.slice p3 n4 n5)])] = T86 i0 s1 i2 p3 n4 n5 := by kernel_rfl


noncomputable def T87k0 (i51 : Int) : Ex → List Value → Pg :=
  fun e95 l96 => sw e95 .ret (asCons l96 fun v97 l98 => asBool v97 fun b99 => asNil l98 (.ret .ret [(.int .i64 i51), (.bool b99)])) (sw e95 .normal (asCons l96 fun v100 l101 => asBool v100 fun b102 => asNil l101 (.ret .normal [(.int .i64 (wi64 (i51 + 1))), (.bool b102)])) (.fail))

noncomputable def T87b0 (n46 : Nat) (p45 : (Option Addr)) : List Value → Pg :=
  fun l48 => asCons l48 fun v49 l50 => asInt .i64 v49 fun i51 => asCons l50 fun v52 l53 => asBool v52 fun b54 => asNil l53 (bif (decide (i51 < ((n46 : Nat) : Int))) then (.join (asSome p45 fun a55 => grd ((decide (0 ≤ i51)) && (decide (i51 < ((n46 : Nat) : Int)))) (.act (ldN 4 (aadd a55 ((Int.toNat i51) * 4))) fun v56 => asAgg v56 fun l57 => asCons l57 fun v58 l59 => asInt .i64 v58 fun i60 => asCons l59 fun v61 l62 => asStr v61 fun s63 => asCons l62 fun v64 l65 => asInt .i64 v64 fun i66 => asCons l65 fun v67 l68 => asSlice v67 fun p69 n70 n71 => asNil l68 (.act (newC [(.int .i64 0), (.string (bs [])), (.int .i64 0), (.slice none 0 0)]) fun v72 => asPtr v72 fun p73 => asSome p73 fun a74 => .act (stC a74 [(.int .i64 i60), (.string s63), (.int .i64 i66), (.slice p69 n70 n71)]) fun v75 => asTuple v75 fun l76 => asNil l76 (.act (ldN 4 a74) fun v77 => asAgg v77 fun l78 => asCons l78 fun v79 l80 => asInt .i64 v79 fun i81 => asCons l80 fun v82 l83 => asStr v82 fun s84 => asCons l83 fun v85 l86 => asInt .i64 v85 fun i87 => asCons l86 fun v88 l89 => asSlice v88 fun p90 n91 n92 => asNil l89 (.call 87 [(.agg #[(.int .i64 i81), (.string s84), (.int .i64 i87), (.slice p90 n91 n92)])] fun v93 => asBool v93 fun b94 => bif (!b94) then (.ret .ret [(.bool false)]) else (.ret .normal [(.bool b54)])))))) (T87k0 i51)) else (.ret (.exit 0) [(.int .i64 i51), (.bool b54)]))

noncomputable def T87k1 : Ex → List Value → Pg :=
  fun e103 l104 => sw e103 (.exit 0) (asCons l104 fun v105 l106 => asInt .i64 v105 fun i107 => asCons l106 fun v108 l109 => asBool v108 fun b110 => asNil l109 (.ret .ret [(.bool true)])) (sw e103 .ret (asCons l104 fun v111 l112 => asInt .i64 v111 fun i113 => asCons l112 fun v114 l115 => asBool v114 fun b116 => asNil l115 (.ret .ret [(.bool b116)])) (.fail))

noncomputable def T87k2 (a8 : Addr) : Ex → List Value → Pg :=
  fun e39 l40 => sw e39 .normal (asCons l40 fun v41 l42 => asBool v41 fun b43 => asNil l42 (bif b43 then (.ret .ret [(.bool false)]) else (.act (ld1 (aadd a8 3)) fun v44 => asSlice v44 fun p45 n46 n47 => .loop [(.int .i64 0), (.bool false)] (T87b0 n46 p45) (T87k1)))) (.fail)

noncomputable def T87k3 (a8 : Addr) : Ex → List Value → Pg :=
  fun e26 l27 => sw e26 .normal (asCons l27 fun v28 l29 => asBool v28 fun b30 => asNil l29 (bif b30 then (.ret .ret [(.bool false)]) else (.join (.act (ld1 (aadd a8 2)) fun v31 => asInt .i64 v31 fun i32 => bif (decide (i32 < 0)) == false then (.act (ld1 (aadd a8 2)) fun v33 => asInt .i64 v33 fun i34 => bif (decide (i34 > 1999)) == false then (.act (ld1 (aadd a8 2)) fun v35 => asInt .i64 v35 fun i36 => bif (i36 != 0) == true then (.act (ld1 (aadd a8 0)) fun v37 => asInt .i64 v37 fun i38 => .ret .normal [(.bool (i38 != 7))]) else (.ret .normal [(.bool false)])) else (.ret .normal [(.bool true)])) else (.ret .normal [(.bool true)])) (T87k2 a8)))) (.fail)

/-- hindsight/ty.alone -/
noncomputable def T87 (i0 : Int) (s1 : ByteArray) (i2 : Int) (p3 : (Option Addr)) (n4 : Nat) (n5 : Nat) : Pg :=
  .act (newC [(.int .i64 i0), (.string s1), (.int .i64 i2), (.slice p3 n4 n5)]) fun v6 => asPtr v6 fun p7 => asSome p7 fun a8 => .join (.act (ld1 (aadd a8 0)) fun v9 => asInt .i64 v9 fun i10 => bif (decide (i10 < 1)) == false then (.act (ld1 (aadd a8 0)) fun v11 => asInt .i64 v11 fun i12 => bif (decide (i12 > 7)) == false then (.act (ld1 (aadd a8 3)) fun v13 => asSlice v13 fun p14 n15 n16 => .act (ld1 (aadd a8 0)) fun v17 => asInt .i64 v17 fun i18 => .call 117 [(.int .i64 i18)] fun v19 => asInt .i64 v19 fun i20 => .get fun h25 => grd (chks [((ld1 (aadd a8 3)), v13)] h25) (bif (((n15 : Nat) : Int) != i20) == false then (.act (ld1 (aadd a8 1)) fun v21 => asStr v21 fun s22 => .act (ld1 (aadd a8 0)) fun v23 => asInt .i64 v23 fun i24 => .ret .normal [(.bool (!((!(s22.toList == (bs []).toList)) == (i24 == 4))))]) else (.ret .normal [(.bool true)]))) else (.ret .normal [(.bool true)])) else (.ret .normal [(.bool true)])) (T87k3 a8)
theorem T87_eq (i0 : Int) (s1 : ByteArray) (i2 : Int) (p3 : (Option Addr)) (n4 : Nat) (n5 : Nat) : progOf PROG false 87 [(.agg #[(.int .i64 i0), (.string s1), (.int .i64 i2), (.slice p3 n4 n5)])] = T87 i0 s1 i2 p3 n4 n5 := by kernel_rfl


noncomputable def T88k0 : Ex → List Value → Pg :=
  fun e67 l68 => sw e67 (.exit 0) (asNil l68 (.ret (.exit 0) [])) (sw e67 .normal (asNil l68 (.ret .normal [])) (.fail))

noncomputable def T88b0 (a9 : Addr) (p0 : (Option Addr)) : List Value → Pg :=
  fun l13 => asNil l13 (.act (ld1 (aadd a9 0)) fun v14 => asInt .i64 v14 fun i15 => bif (i15 == 7) then (.join (asSome p0 fun a16 => .act (ld1 (aadd a16 1)) fun v17 => asMap v17 fun m18 => .act (ld1 (aadd a9 2)) fun v19 => asInt .i64 v19 fun i20 => .act (lkp (.int .i64) (.agg #[(.int .i64 0), (.string (bs [])), (.int .i64 0), (.slice none 0 0)]) m18 (.int .i64 i20) true) fun v21 => asTuple v21 fun l22 => asCons l22 fun v23 l24 => asAgg v23 fun l25 => asCons l25 fun v26 l27 => asInt .i64 v26 fun i28 => asCons l27 fun v29 l30 => asStr v29 fun s31 => asCons l30 fun v32 l33 => asInt .i64 v32 fun i34 => asCons l33 fun v35 l36 => asSlice v35 fun p37 n38 n39 => asNil l36 (asCons l24 fun v40 l41 => asBool v40 fun b42 => asNil l41 (.act (newC [(.int .i64 0), (.string (bs [])), (.int .i64 0), (.slice none 0 0)]) fun v43 => asPtr v43 fun p44 => asSome p44 fun a45 => .get fun h66 => grd (chks [((lkp (.int .i64) (.agg #[(.int .i64 0), (.string (bs [])), (.int .i64 0), (.slice none 0 0)]) m18 (.int .i64 i20) true), v21), ((ld1 (aadd a9 2)), v19), ((ld1 (aadd a16 1)), v17)] h66) (.act (stC a45 [(.int .i64 i28), (.string s31), (.int .i64 i34), (.slice p37 n38 n39)]) fun v46 => asTuple v46 fun l47 => asNil l47 (bif (!b42) then (.ret (.exit 0) []) else (.act (ldN 4 a45) fun v48 => asAgg v48 fun l49 => asCons l49 fun v50 l51 => asInt .i64 v50 fun i52 => asCons l51 fun v53 l54 => asStr v53 fun s55 => asCons l54 fun v56 l57 => asInt .i64 v56 fun i58 => asCons l57 fun v59 l60 => asSlice v59 fun p61 n62 n63 => asNil l60 (.act (stC a9 [(.int .i64 i52), (.string s55), (.int .i64 i58), (.slice p61 n62 n63)]) fun v64 => asTuple v64 fun l65 => asNil l65 (.ret .normal [])))))))) (T88k0)) else (.ret (.exit 0) []))

noncomputable def T88k1 (a9 : Addr) (a12 : Addr) : Ex → List Value → Pg :=
  fun e69 l70 => sw e69 (.exit 0) (asNil l70 (.act (ldN 4 a9) fun v71 => asAgg v71 fun l72 => asCons l72 fun v73 l74 => asInt .i64 v73 fun i75 => asCons l74 fun v76 l77 => asStr v76 fun s78 => asCons l77 fun v79 l80 => asInt .i64 v79 fun i81 => asCons l80 fun v82 l83 => asSlice v82 fun p84 n85 n86 => asNil l83 (.act (stC a12 [(.int .i64 i75), (.string s78), (.int .i64 i81), (.slice p84 n85 n86)]) fun v87 => asTuple v87 fun l88 => asNil l88 (.act (ldN 4 a12) fun v89 => .ret .ret [v89])))) (.fail)

/-- (*hindsight/ty.Sub).head -/
noncomputable def T88 (p0 : (Option Addr)) (i1 : Int) (s2 : ByteArray) (i3 : Int) (p4 : (Option Addr)) (n5 : Nat) (n6 : Nat) : Pg :=
  .act (newC [(.int .i64 i1), (.string s2), (.int .i64 i3), (.slice p4 n5 n6)]) fun v7 => asPtr v7 fun p8 => asSome p8 fun a9 => .act (newC [(.int .i64 0), (.string (bs [])), (.int .i64 0), (.slice none 0 0)]) fun v10 => asPtr v10 fun p11 => asSome p11 fun a12 => .loop [] (T88b0 a9 p0) (T88k1 a9 a12)
theorem T88_eq (p0 : (Option Addr)) (i1 : Int) (s2 : ByteArray) (i3 : Int) (p4 : (Option Addr)) (n5 : Nat) (n6 : Nat) : progOf PROG false 88 [(.pointer p0), (.agg #[(.int .i64 i1), (.string s2), (.int .i64 i3), (.slice p4 n5 n6)])] = T88 p0 i1 s2 i3 p4 n5 n6 := by kernel_rfl


noncomputable def T89k0 (i84 : Int) : Ex → List Value → Pg :=
  fun e143 l144 => sw e143 .ret (asCons l144 fun v145 l146 => asBool v145 fun b147 => asNil l146 (.ret .ret [(.int .i64 i84), (.bool b147)])) (sw e143 .normal (asCons l144 fun v148 l149 => asBool v148 fun b150 => asNil l149 (.ret .normal [(.int .i64 (wi64 (i84 + 1))), (.bool b150)])) (.fail))

noncomputable def T89b0 (n77 : Nat) (p76 : (Option Addr)) (p0 : (Option Addr)) (p4 : (Option Addr)) (n5 : Nat) (n6 : Nat) (p1 : (Option Addr)) (n2 : Nat) (n3 : Nat) : List Value → Pg :=
  fun l81 => asCons l81 fun v82 l83 => asInt .i64 v82 fun i84 => asCons l83 fun v85 l86 => asBool v85 fun b87 => asNil l86 (bif (decide (i84 < ((n77 : Nat) : Int))) then (.join (asSome p76 fun a88 => grd ((decide (0 ≤ i84)) && (decide (i84 < ((n77 : Nat) : Int)))) (.act (ldN 3 (aadd a88 ((Int.toNat i84) * 3))) fun v89 => asAgg v89 fun l90 => asCons l90 fun v91 l92 => asInt .i64 v91 fun i93 => asCons l92 fun v94 l95 => asInt .i64 v94 fun i96 => asCons l95 fun v97 l98 => asStr v97 fun s99 => asNil l98 (.act (newC [(.int .i64 0), (.int .i64 0), (.string (bs []))]) fun v100 => asPtr v100 fun p101 => asSome p101 fun a102 => .act (stC a102 [(.int .i64 i93), (.int .i64 i96), (.string s99)]) fun v103 => asTuple v103 fun l104 => asNil l104 (.act (ldN 3 a102) fun v105 => asAgg v105 fun l106 => asCons l106 fun v107 l108 => asInt .i64 v107 fun i109 => asCons l108 fun v110 l111 => asInt .i64 v110 fun i112 => asCons l111 fun v113 l114 => asStr v113 fun s115 => asNil l114 (.call 119 [(.pointer p0), (.slice p4 n5 n6), (.agg #[(.int .i64 i109), (.int .i64 i112), (.string s115)])] fun v116 => asTuple v116 fun l117 => asCons l117 fun v118 l119 => asSlice v118 fun p120 n121 n122 => asCons l119 fun v123 l124 => asBool v123 fun b125 => asNil l124 (.act (ldN 3 a102) fun v126 => asAgg v126 fun l127 => asCons l127 fun v128 l129 => asInt .i64 v128 fun i130 => asCons l129 fun v131 l132 => asInt .i64 v131 fun i133 => asCons l132 fun v134 l135 => asStr v134 fun s136 => asNil l135 (.call 120 [(.pointer p0), (.slice p1 n2 n3), (.agg #[(.int .i64 i130), (.int .i64 i133), (.string s136)])] fun v137 => asSlice v137 fun p138 n139 n140 => .call 89 [(.pointer p0), (.slice p138 n139 n140), (.slice p120 n121 n122)] fun v141 => asBool v141 fun b142 => bif b142 then (.ret .ret [(.bool true)]) else (.ret .normal [(.bool b87)])))))))) (T89k0 i84)) else (.ret (.exit 0) [(.int .i64 i84), (.bool b87)]))

noncomputable def T89k1 : Ex → List Value → Pg :=
  fun e151 l152 => sw e151 (.exit 0) (asCons l152 fun v153 l154 => asInt .i64 v153 fun i155 => asCons l154 fun v156 l157 => asBool v156 fun b158 => asNil l157 (.ret .ret [(.bool false)])) (sw e151 .ret (asCons l152 fun v159 l160 => asInt .i64 v159 fun i161 => asCons l160 fun v162 l163 => asBool v162 fun b164 => asNil l163 (.ret .ret [(.bool b164)])) (.fail))

noncomputable def T89k2 : Ex → List Value → Pg :=
  fun e201 l202 => sw e201 .normal (asCons l202 fun v203 l204 => asSlice v203 fun p205 n206 n207 => asNil l204 (.ret .normal [(.slice p205 n206 n207)])) (.fail)

noncomputable def T89k3 (i168 : Int) : Ex → List Value → Pg :=
  fun e208 l209 => sw e208 .normal (asCons l209 fun v210 l211 => asSlice v210 fun p212 n213 n214 => asNil l211 (.ret .normal [(.int .i64 (wi64 (i168 + 1))), (.slice p212 n213 n214)])) (.fail)

noncomputable def T89b1 (n2 : Nat) (p1 : (Option Addr)) (p0 : (Option Addr)) : List Value → Pg :=
  fun l165 => asCons l165 fun v166 l167 => asInt .i64 v166 fun i168 => asCons l167 fun v169 l170 => asSlice v169 fun p171 n172 n173 => asNil l170 (bif (decide (i168 < ((n2 : Nat) : Int))) then (.join (asSome p1 fun a174 => grd ((decide (0 ≤ i168)) && (decide (i168 < ((n2 : Nat) : Int)))) (.act (ld1 (aadd a174 ((Int.toNat i168) * 1))) fun v175 => asSlice v175 fun p176 n177 n178 => asSome p176 fun a179 => grd (decide (0 < ((n177 : Nat) : Int))) (.act (ld1 (aadd a179 0)) fun v180 => asInt .i64 v180 fun i181 => .call 118 [(.pointer p0), (.int .i64 i181)] fun v182 => asAgg v182 fun l183 => asCons l183 fun v184 l185 => asInt .i64 v184 fun i186 => asCons l185 fun v187 l188 => asInt .i64 v187 fun i189 => asCons l188 fun v190 l191 => asStr v190 fun s192 => asNil l191 (.join (bif (i186 == 0) then (grd ((((decide (1 ≤ ((n177 : Nat) : Int))) && (decide (((n177 : Nat) : Int) ≤ ((n178 : Nat) : Int)))) && (decide (((n178 : Nat) : Int) ≤ ((n178 : Nat) : Int)))) && ((mayCut p176 1) || false)) (.act (bdSl 1 1 [(.slice (cutS p176 1) (n177 - 1) (n178 - 1))]) fun v193 => asSlice v193 fun p194 n195 n196 => .act (apS 1 24 p171 n172 n173 p194 n195 n196) fun v197 => asSlice v197 fun p198 n199 n200 => .ret .normal [(.slice p198 n199 n200)])) else (.ret .normal [(.slice p171 n172 n173)])) (T89k2))))) (T89k3 i168)) else (.ret (.exit 2) [(.int .i64 i168), (.slice p171 n172 n173)]))

noncomputable def T89k4 (n5 : Nat) (n6 : Nat) (p4 : (Option Addr)) (p0 : (Option Addr)) : Ex → List Value → Pg :=
  fun e215 l216 => sw e215 (.exit 2) (asCons l216 fun v217 l218 => asInt .i64 v217 fun i219 => asCons l218 fun v220 l221 => asSlice v220 fun p222 n223 n224 => asNil l221 (grd ((((decide (1 ≤ ((n5 : Nat) : Int))) && (decide (((n5 : Nat) : Int) ≤ ((n6 : Nat) : Int)))) && (decide (((n6 : Nat) : Int) ≤ ((n6 : Nat) : Int)))) && ((mayCut p4 1) || false)) (.call 89 [(.pointer p0), (.slice p222 n223 n224), (.slice (cutS p4 1) (n5 - 1) (n6 - 1))] fun v225 => asBool v225 fun b226 => .ret .ret [(.bool b226)]))) (.fail)

/-- (*hindsight/cover.asker).useful -/
noncomputable def T89 (p0 : (Option Addr)) (p1 : (Option Addr)) (n2 : Nat) (n3 : Nat) (p4 : (Option Addr)) (n5 : Nat) (n6 : Nat) : Pg :=
  asSome p0 fun a7 => .act (ld1 (aadd a7 2)) fun v8 => asInt .i64 v8 fun i9 => asSome p0 fun a10 => .act (stC (aadd a10 2) [(.int .i64 (wi64 (i9 + 1)))]) fun v11 => asTuple v11 fun l12 => asNil l12 (asSome p0 fun a13 => .act (ld1 (aadd a13 2)) fun v14 => asInt .i64 v14 fun i15 => bif (decide (i15 > 10000)) then (.ret .ret [(.bool false)]) else (bif (((n5 : Nat) : Int) == 0) then (.ret .ret [(.bool (((n2 : Nat) : Int) == 0))]) else (asSome p4 fun a16 => grd (decide (0 < ((n5 : Nat) : Int))) (.act (ld1 (aadd a16 0)) fun v17 => asInt .i64 v17 fun i18 => .call 118 [(.pointer p0), (.int .i64 i18)] fun v19 => asAgg v19 fun l20 => asCons l20 fun v21 l22 => asInt .i64 v21 fun i23 => asCons l22 fun v24 l25 => asInt .i64 v24 fun i26 => asCons l25 fun v27 l28 => asStr v27 fun s29 => asNil l28 (.act (newC [(.int .i64 0), (.int .i64 0), (.string (bs []))]) fun v30 => asPtr v30 fun p31 => asSome p31 fun a32 => .act (stC a32 [(.int .i64 i23), (.int .i64 i26), (.string s29)]) fun v33 => asTuple v33 fun l34 => asNil l34 (.act (ld1 (aadd a32 0)) fun v35 => asInt .i64 v35 fun i36 => bif (i36 != 0) then (.act (ldN 3 a32) fun v37 => asAgg v37 fun l38 => asCons l38 fun v39 l40 => asInt .i64 v39 fun i41 => asCons l40 fun v42 l43 => asInt .i64 v42 fun i44 => asCons l43 fun v45 l46 => asStr v45 fun s47 => asNil l46 (.call 119 [(.pointer p0), (.slice p4 n5 n6), (.agg #[(.int .i64 i41), (.int .i64 i44), (.string s47)])] fun v48 => asTuple v48 fun l49 => asCons l49 fun v50 l51 => asSlice v50 fun p52 n53 n54 => asCons l51 fun v55 l56 => asBool v55 fun b57 => asNil l56 (.act (ldN 3 a32) fun v58 => asAgg v58 fun l59 => asCons l59 fun v60 l61 => asInt .i64 v60 fun i62 => asCons l61 fun v63 l64 => asInt .i64 v63 fun i65 => asCons l64 fun v66 l67 => asStr v66 fun s68 => asNil l67 (.call 120 [(.pointer p0), (.slice p1 n2 n3), (.agg #[(.int .i64 i62), (.int .i64 i65), (.string s68)])] fun v69 => asSlice v69 fun p70 n71 n72 => .call 89 [(.pointer p0), (.slice p70 n71 n72), (.slice p52 n53 n54)] fun v73 => asBool v73 fun b74 => .ret .ret [(.bool b74)])))) else (.call 121 [(.pointer p0), (.slice p1 n2 n3)] fun v75 => asSlice v75 fun p76 n77 n78 => .call 122 [(.pointer p0), (.slice p76 n77 n78)] fun v79 => asBool v79 fun b80 => bif b80 then (.loop [(.int .i64 0), (.bool false)] (T89b0 n77 p76 p0 p4 n5 n6 p1 n2 n3) (T89k1)) else (.loop [(.int .i64 0), (.slice none 0 0)] (T89b1 n2 p1 p0) (T89k4 n5 n6 p4 p0)))))))))
theorem T89_eq (p0 : (Option Addr)) (p1 : (Option Addr)) (n2 : Nat) (n3 : Nat) (p4 : (Option Addr)) (n5 : Nat) (n6 : Nat) : progOf PROG false 89 [(.pointer p0), (.slice p1 n2 n3), (.slice p4 n5 n6)] = T89 p0 p1 n2 n3 p4 n5 n6 := by kernel_rfl


noncomputable def T90k0 : Ex → List Value → Pg :=
  fun e40 l41 => sw e40 .normal (asCons l41 fun v42 l43 => asSlice v42 fun p44 n45 n46 => asNil l43 (.ret .normal [(.slice p44 n45 n46)])) (.fail)

noncomputable def T90b0 (i3 : Int) : List Value → Pg :=
  fun l26 => asCons l26 fun v27 l28 => asSlice v27 fun p29 n30 n31 => asNil l28 (bif (decide (((n30 : Nat) : Int) < i3)) then (.join (.act (bdSl 1 1 [(.int .i64 (-1))]) fun v32 => asSlice v32 fun p33 n34 n35 => .act (apS 1 8 p29 n30 n31 p33 n34 n35) fun v36 => asSlice v36 fun p37 n38 n39 => .ret .normal [(.slice p37 n38 n39)]) (T90k0)) else (.ret (.exit 2) [(.slice p29 n30 n31)]))

noncomputable def T90k1 (p10 : (Option Addr)) (n11 : Nat) (n12 : Nat) : Ex → List Value → Pg :=
  fun e47 l48 => sw e47 (.exit 2) (asCons l48 fun v49 l50 => asSlice v49 fun p51 n52 n53 => asNil l50 (.act (bdSl 1 1 [(.slice p51 n52 n53)]) fun v54 => asSlice v54 fun p55 n56 n57 => .act (apS 1 24 p10 n11 n12 p55 n56 n57) fun v58 => asSlice v58 fun p59 n60 n61 => .ret .normal [(.slice p59 n60 n61)])) (.fail)

noncomputable def T90k2 (i7 : Int) : Ex → List Value → Pg :=
  fun e62 l63 => sw e62 .normal (asCons l63 fun v64 l65 => asSlice v64 fun p66 n67 n68 => asNil l65 (.ret .normal [(.int .i64 (wi64 (i7 + 1))), (.slice p66 n67 n68)])) (.fail)

noncomputable def T90b1 (n1 : Nat) (p0 : (Option Addr)) (i3 : Int) : List Value → Pg :=
  fun l4 => asCons l4 fun v5 l6 => asInt .i64 v5 fun i7 => asCons l6 fun v8 l9 => asSlice v8 fun p10 n11 n12 => asNil l9 (bif (decide (i7 < ((n1 : Nat) : Int))) then (.join (asSome p0 fun a13 => grd ((decide (0 ≤ i7)) && (decide (i7 < ((n1 : Nat) : Int)))) (.act (ld1 (aadd a13 ((Int.toNat i7) * 1))) fun v14 => asSlice v14 fun p15 n16 n17 => .act (bdSl 1 0 []) fun v18 => asSlice v18 fun p19 n20 n21 => grd ((((decide (0 ≤ (minV ((n16 : Nat) : Int) i3))) && (decide ((minV ((n16 : Nat) : Int) i3) ≤ ((n17 : Nat) : Int)))) && (decide (((n17 : Nat) : Int) ≤ ((n17 : Nat) : Int)))) && ((mayCut p15 1) || true)) (.act (apS 1 8 p19 n20 n21 p15 (Int.toNat (minV ((n16 : Nat) : Int) i3)) n17) fun v22 => asSlice v22 fun p23 n24 n25 => .loop [(.slice p23 n24 n25)] (T90b0 i3) (T90k1 p10 n11 n12)))) (T90k2 i7)) else (.ret (.exit 0) [(.int .i64 i7), (.slice p10 n11 n12)]))

noncomputable def T90k3 : Ex → List Value → Pg :=
  fun e69 l70 => sw e69 (.exit 0) (asCons l70 fun v71 l72 => asInt .i64 v71 fun i73 => asCons l72 fun v74 l75 => asSlice v74 fun p76 n77 n78 => asNil l75 (.ret .ret [(.slice p76 n77 n78)])) (.fail)

/-- hindsight/cover.wide -/
noncomputable def T90 (p0 : (Option Addr)) (n1 : Nat) (n2 : Nat) (i3 : Int) : Pg :=
  .loop [(.int .i64 0), (.slice none 0 0)] (T90b1 n1 p0 i3) (T90k3)
theorem T90_eq (p0 : (Option Addr)) (n1 : Nat) (n2 : Nat) (i3 : Int) : progOf PROG false 90 [(.slice p0 n1 n2), (.int .i64 i3)] = T90 p0 n1 n2 i3 := by kernel_rfl


noncomputable def T93k0 : Ex → List Value → Pg :=
  fun e2 l3 => sw e2 .normal (asCons l3 fun v4 l5 => asBool v4 fun b6 => asNil l5 (.ret .ret [(.bool b6)])) (.fail)

/-- internal/stringslite.HasPrefix -/
noncomputable def T93 (s0 : ByteArray) (s1 : ByteArray) : Pg :=
  .join (bif (decide (((s0.size : Nat) : Int) ≥ ((s1.size : Nat) : Int))) == true then (grd (decide (((s1.size : Nat) : Int) ≤ ((s0.size : Nat) : Int))) (.ret .normal [(.bool ((s0.extract 0 s1.size).toList == s1.toList))])) else (.ret .normal [(.bool false)])) (T93k0)
theorem T93_eq (s0 : ByteArray) (s1 : ByteArray) : progOf PROG false 93 [(.string s0), (.string s1)] = T93 s0 s1 := by kernel_rfl


noncomputable def T94k0 (i2 : Int) (s0 : ByteArray) : Ex → List Value → Pg :=
  fun e20 l21 => sw e20 .normal (asCons l21 fun v22 l23 => asBool v22 fun b24 => asNil l23 (bif b24 then (.ret .ret [(.tuple #[(.int .i32 65533), (.int .i64 1)])]) else (bif (decide ((wi64 (andI .u8 i2 7)) ≤ 2)) then (.ret .ret [(.tuple #[(.int .i32 (orI .i32 (shlI .i32 (wi32 (andI .u8 (byteAt s0 0) 31)) 6) (wi32 (andI .u8 (byteAt s0 1) 63)))), (.int .i64 2)])]) else (grd (decide (2 < ((s0.size : Nat) : Int))) (bif ((decide ((byteAt s0 2) < 128)) || (decide (191 < (byteAt s0 2)))) then (.ret .ret [(.tuple #[(.int .i32 65533), (.int .i64 1)])]) else (bif (decide ((wi64 (andI .u8 i2 7)) ≤ 3)) then (.ret .ret [(.tuple #[(.int .i32 (orI .i32 (orI .i32 (shlI .i32 (wi32 (andI .u8 (byteAt s0 0) 15)) 12) (shlI .i32 (wi32 (andI .u8 (byteAt s0 1) 63)) 6)) (wi32 (andI .u8 (byteAt s0 2) 63)))), (.int .i64 3)])]) else (grd (decide (3 < ((s0.size : Nat) : Int))) (bif ((decide ((byteAt s0 3) < 128)) || (decide (191 < (byteAt s0 3)))) then (.ret .ret [(.tuple #[(.int .i32 65533), (.int .i64 1)])]) else (.ret .ret [(.tuple #[(.int .i32 (orI .i32 (orI .i32 (orI .i32 (shlI .i32 (wi32 (andI .u8 (byteAt s0 0) 7)) 18) (shlI .i32 (wi32 (andI .u8 (byteAt s0 1) 63)) 12)) (shlI .i32 (wi32 (andI .u8 (byteAt s0 2) 63)) 6)) (wi32 (andI .u8 (byteAt s0 3) 63)))), (.int .i64 4)])]))))))))) (.fail)

/-- unicode/utf8.decodeRuneInStringSlow -/
noncomputable def T94 (s0 : ByteArray) : Pg :=
  bif (decide (((s0.size : Nat) : Int) < 1)) then (.ret .ret [(.tuple #[(.int .i32 65533), (.int .i64 0)])]) else (grd (decide (0 < ((s0.size : Nat) : Int))) (grd ((decide (0 ≤ (byteAt s0 0))) && (decide ((byteAt s0 0) < 256))) (.act (ld1 (aadd ⟨2, 0, none⟩ ((Int.toNat (byteAt s0 0)) * 1))) fun v1 => asInt .u8 v1 fun i2 => bif (decide (i2 ≥ 240)) then (grd (decide (0 < ((s0.size : Nat) : Int))) (.ret .ret [(.tuple #[(.int .i32 (orI .i32 (andNotI .i32 (wi32 (byteAt s0 0)) (shrI .i32 (shlI .i32 (wi32 i2) 31) 31)) (andI .i32 65533 (shrI .i32 (shlI .i32 (wi32 i2) 31) 31)))), (.int .i64 1)])])) else (grd ((decide (0 ≤ (shrI .u8 i2 4))) && (decide ((shrI .u8 i2 4) < 16))) (.act (ldN 2 (aadd ⟨3, 0, none⟩ ((Int.toNat (shrI .u8 i2 4)) * 2))) fun v3 => asAgg v3 fun l4 => asCons l4 fun v5 l6 => asInt .u8 v5 fun i7 => asCons l6 fun v8 l9 => asInt .u8 v8 fun i10 => asNil l9 (.act (newC [(.int .u8 0), (.int .u8 0)]) fun v11 => asPtr v11 fun p12 => asSome p12 fun a13 => .act (stC a13 [(.int .u8 i7), (.int .u8 i10)]) fun v14 => asTuple v14 fun l15 => asNil l15 (bif (decide (((s0.size : Nat) : Int) < (wi64 (andI .u8 i2 7)))) then (.ret .ret [(.tuple #[(.int .i32 65533), (.int .i64 1)])]) else (grd (decide (1 < ((s0.size : Nat) : Int))) (.join (.act (ld1 (aadd a13 0)) fun v16 => asInt .u8 v16 fun i17 => bif (decide ((byteAt s0 1) < i17)) == false then (.act (ld1 (aadd a13 1)) fun v18 => asInt .u8 v18 fun i19 => .ret .normal [(.bool (decide (i19 < (byteAt s0 1))))]) else (.ret .normal [(.bool true)])) (T94k0 i2 s0))))))))))
theorem T94_eq (s0 : ByteArray) : progOf PROG false 94 [(.string s0)] = T94 s0 := by kernel_rfl


/-- hindsight/lex.named$1 -/
noncomputable def T95 (i0 : Int) : Pg :=
  .call 52 [(.int .i32 i0)] fun v1 => asInt .i64 v1 fun i2 => .ret .ret [(.bool ((i2 == 1) || (i2 == 2)))]
theorem T95_eq (i0 : Int) : progOf PROG false 95 [(.int .i32 i0)] = T95 i0 := by kernel_rfl


noncomputable def T96k0 : Ex → List Value → Pg :=
  fun e13 l14 => sw e13 .ret (asCons l14 fun v15 l16 => asBool v15 fun b17 => asNil l16 (.ret .ret [(.bool b17)])) (.fail)

noncomputable def T96b0 (a3 : Addr) : List Value → Pg :=
  fun l4 => asCons l4 fun v5 l6 => asBool v5 fun b7 => asNil l6 (.act (nxt (some a3)) fun v8 => asNx v8 (fun i9 i10 => .join (.call 128 [(.int .i32 i10)] fun v11 => asBool v11 fun b12 => .ret .ret [(.bool b12)]) (T96k0)) (.ret (.exit 0) [(.bool b7)]))

noncomputable def T96k1 : Ex → List Value → Pg :=
  fun e18 l19 => sw e18 (.exit 0) (asCons l19 fun v20 l21 => asBool v20 fun b22 => asNil l21 (.ret .ret [(.bool false)])) (sw e18 .ret (asCons l19 fun v23 l24 => asBool v23 fun b25 => asNil l24 (.ret .ret [(.bool b25)])) (.fail))

/-- hindsight/chars.Upper -/
noncomputable def T96 (s0 : ByteArray) : Pg :=
  .act (rng s0) fun v1 => asPtr v1 fun p2 => asSome p2 fun a3 => .loop [(.bool false)] (T96b0 a3) (T96k1)
theorem T96_eq (s0 : ByteArray) : progOf PROG false 96 [(.string s0)] = T96 s0 := by kernel_rfl


noncomputable def T97k0 : Ex → List Value → Pg :=
  fun e1 l2 => sw e1 .normal (asCons l2 fun v3 l4 => asBool v3 fun b5 => asNil l4 (.ret .normal [(.bool b5)])) (.fail)

noncomputable def T97k1 : Ex → List Value → Pg :=
  fun e6 l7 => sw e6 .normal (asCons l7 fun v8 l9 => asBool v8 fun b10 => asNil l9 (.ret .normal [(.bool b10)])) (.fail)

noncomputable def T97k2 : Ex → List Value → Pg :=
  fun e11 l12 => sw e11 .normal (asCons l12 fun v13 l14 => asBool v13 fun b15 => asNil l14 (.ret .normal [(.bool b15)])) (.fail)

noncomputable def T97k3 : Ex → List Value → Pg :=
  fun e16 l17 => sw e16 .normal (asCons l17 fun v18 l19 => asBool v18 fun b20 => asNil l19 (.ret .normal [(.bool b20)])) (.fail)

noncomputable def T97k4 : Ex → List Value → Pg :=
  fun e21 l22 => sw e21 .normal (asCons l22 fun v23 l24 => asBool v23 fun b25 => asNil l24 (.ret .normal [(.bool b25)])) (.fail)

noncomputable def T97k5 : Ex → List Value → Pg :=
  fun e26 l27 => sw e26 .normal (asCons l27 fun v28 l29 => asBool v28 fun b30 => asNil l29 (.ret .normal [(.bool b30)])) (.fail)

noncomputable def T97k6 : Ex → List Value → Pg :=
  fun e31 l32 => sw e31 .normal (asCons l32 fun v33 l34 => asBool v33 fun b35 => asNil l34 (.ret .normal [(.bool b35)])) (.fail)

noncomputable def T97k7 : Ex → List Value → Pg :=
  fun e36 l37 => sw e36 .normal (asCons l37 fun v38 l39 => asBool v38 fun b40 => asNil l39 (.ret .normal [(.bool b40)])) (.fail)

noncomputable def T97k8 : Ex → List Value → Pg :=
  fun e41 l42 => sw e41 .normal (asCons l42 fun v43 l44 => asBool v43 fun b45 => asNil l44 (.ret .normal [(.bool b45)])) (.fail)

noncomputable def T97k9 : Ex → List Value → Pg :=
  fun e46 l47 => sw e46 .normal (asCons l47 fun v48 l49 => asBool v48 fun b50 => asNil l49 (.ret .normal [(.bool b50)])) (.fail)

noncomputable def T97k10 : Ex → List Value → Pg :=
  fun e51 l52 => sw e51 .normal (asCons l52 fun v53 l54 => asBool v53 fun b55 => asNil l54 (.ret .normal [(.bool b55)])) (.fail)

noncomputable def T97k11 : Ex → List Value → Pg :=
  fun e56 l57 => sw e56 .normal (asCons l57 fun v58 l59 => asBool v58 fun b60 => asNil l59 (.ret .normal [(.bool b60)])) (.fail)

noncomputable def T97k12 : Ex → List Value → Pg :=
  fun e61 l62 => sw e61 .normal (asCons l62 fun v63 l64 => asBool v63 fun b65 => asNil l64 (.ret .normal [(.bool b65)])) (.fail)

noncomputable def T97k13 : Ex → List Value → Pg :=
  fun e66 l67 => sw e66 .normal (asCons l67 fun v68 l69 => asBool v68 fun b70 => asNil l69 (.ret .normal [(.bool b70)])) (.fail)

noncomputable def T97k14 : Ex → List Value → Pg :=
  fun e71 l72 => sw e71 .normal (asCons l72 fun v73 l74 => asBool v73 fun b75 => asNil l74 (.ret .normal [(.bool b75)])) (.fail)

noncomputable def T97k15 : Ex → List Value → Pg :=
  fun e76 l77 => sw e76 .normal (asCons l77 fun v78 l79 => asBool v78 fun b80 => asNil l79 (.ret .normal [(.bool b80)])) (.fail)

noncomputable def T97k16 : Ex → List Value → Pg :=
  fun e81 l82 => sw e81 .normal (asCons l82 fun v83 l84 => asBool v83 fun b85 => asNil l84 (.ret .normal [(.bool b85)])) (.fail)

noncomputable def T97k17 : Ex → List Value → Pg :=
  fun e86 l87 => sw e86 .normal (asCons l87 fun v88 l89 => asBool v88 fun b90 => asNil l89 (bif b90 then (.ret .ret [(.bool true)]) else (.ret .normal [(.bool false)]))) (.fail)

noncomputable def T97k18 : Ex → List Value → Pg :=
  fun e91 l92 => sw e91 .ret (asCons l92 fun v93 l94 => asBool v93 fun b95 => asNil l94 (.ret .ret [(.bool b95)])) (sw e91 .normal (asCons l92 fun v96 l97 => asBool v96 fun b98 => asNil l97 (.ret .ret [(.bool false)])) (.fail))

/-- hindsight/lex.IsKey -/
noncomputable def T97 (s0 : ByteArray) : Pg :=
  .join (.join (bif (s0.toList == (bs [116, 121, 112, 101]).toList) then (.ret .normal [(.bool (s0.toList == (bs [116, 121, 112, 101]).toList))]) else (.join (bif (s0.toList == (bs [111, 102]).toList) then (.ret .normal [(.bool (s0.toList == (bs [111, 102]).toList))]) else (.join (bif (s0.toList == (bs [108, 101, 116]).toList) then (.ret .normal [(.bool (s0.toList == (bs [108, 101, 116]).toList))]) else (.join (bif (s0.toList == (bs [114, 101, 99]).toList) then (.ret .normal [(.bool (s0.toList == (bs [114, 101, 99]).toList))]) else (.join (bif (s0.toList == (bs [105, 110]).toList) then (.ret .normal [(.bool (s0.toList == (bs [105, 110]).toList))]) else (.join (bif (s0.toList == (bs [102, 117, 110]).toList) then (.ret .normal [(.bool (s0.toList == (bs [102, 117, 110]).toList))]) else (.join (bif (s0.toList == (bs [105, 102]).toList) then (.ret .normal [(.bool (s0.toList == (bs [105, 102]).toList))]) else (.join (bif (s0.toList == (bs [116, 104, 101, 110]).toList) then (.ret .normal [(.bool (s0.toList == (bs [116, 104, 101, 110]).toList))]) else (.join (bif (s0.toList == (bs [101, 108, 115, 101]).toList) then (.ret .normal [(.bool (s0.toList == (bs [101, 108, 115, 101]).toList))]) else (.join (bif (s0.toList == (bs [109, 97, 116, 99, 104]).toList) then (.ret .normal [(.bool (s0.toList == (bs [109, 97, 116, 99, 104]).toList))]) else (.join (bif (s0.toList == (bs [119, 105, 116, 104]).toList) then (.ret .normal [(.bool (s0.toList == (bs [119, 105, 116, 104]).toList))]) else (.join (bif (s0.toList == (bs [101, 110, 100]).toList) then (.ret .normal [(.bool (s0.toList == (bs [101, 110, 100]).toList))]) else (.join (bif (s0.toList == (bs [114, 101, 102]).toList) then (.ret .normal [(.bool (s0.toList == (bs [114, 101, 102]).toList))]) else (.join (bif (s0.toList == (bs [112, 114, 105, 110, 116]).toList) then (.ret .normal [(.bool (s0.toList == (bs [112, 114, 105, 110, 116]).toList))]) else (.join (bif (s0.toList == (bs [114, 101, 97, 100]).toList) then (.ret .normal [(.bool (s0.toList == (bs [114, 101, 97, 100]).toList))]) else (.join (bif (s0.toList == (bs [114, 97, 105, 115, 101]).toList) then (.ret .normal [(.bool (s0.toList == (bs [114, 97, 105, 115, 101]).toList))]) else (.join (bif (s0.toList == (bs [116, 114, 121]).toList) then (.ret .normal [(.bool (s0.toList == (bs [116, 114, 121]).toList))]) else (.join (bif (s0.toList == (bs [116, 114, 117, 101]).toList) then (.ret .normal [(.bool (s0.toList == (bs [116, 114, 117, 101]).toList))]) else (.ret .normal [(.bool (s0.toList == (bs [102, 97, 108, 115, 101]).toList))])) (T97k0))) (T97k1))) (T97k2))) (T97k3))) (T97k4))) (T97k5))) (T97k6))) (T97k7))) (T97k8))) (T97k9))) (T97k10))) (T97k11))) (T97k12))) (T97k13))) (T97k14))) (T97k15))) (T97k16))) (T97k17)) (T97k18)
theorem T97_eq (s0 : ByteArray) : progOf PROG false 97 [(.string s0)] = T97 s0 := by kernel_rfl


noncomputable def T98k0 : Ex → List Value → Pg :=
  fun e54 l55 => sw e54 .normal (asCons l55 fun v56 l57 => asPtr v56 fun p58 => asNil l57 (.ret .normal [(.pointer p58)])) (.fail)

noncomputable def T98k1 (p0 : (Option Addr)) (p6 : (Option Addr)) : Ex → List Value → Pg :=
  fun e11 l12 => sw e11 .normal (asCons l12 fun v13 l14 => asBool v13 fun b15 => asNil l14 (bif b15 then (.join (.call 29 [(.pointer p0)] fun v16 => asAgg v16 fun l17 => asCons l17 fun v18 l19 => asInt .i64 v18 fun i20 => asCons l19 fun v21 l22 => asStr v21 fun s23 => asCons l22 fun v24 l25 => asInt .i64 v24 fun i26 => asCons l25 fun v27 l28 => asInt .i64 v27 fun i29 => asNil l28 (.act (newC [(.int .i64 0), (.string (bs [])), (.int .i64 0), (.int .i64 0)]) fun v30 => asPtr v30 fun p31 => asSome p31 fun a32 => .act (stC a32 [(.int .i64 i20), (.string s23), (.int .i64 i26), (.int .i64 i29)]) fun v33 => asTuple v33 fun l34 => asNil l34 (.act (ldN 4 a32) fun v35 => asAgg v35 fun l36 => asCons l36 fun v37 l38 => asInt .i64 v37 fun i39 => asCons l38 fun v40 l41 => asStr v40 fun s42 => asCons l41 fun v43 l44 => asInt .i64 v43 fun i45 => asCons l44 fun v46 l47 => asInt .i64 v46 fun i48 => asNil l47 (.call 129 [(.pointer p0)] fun v49 => asPtr v49 fun p50 => .get fun h53 => grd (chks [((ldN 4 a32), v35)] h53) (.call 99 [(.agg #[(.int .i64 i39), (.string s42), (.int .i64 i45), (.int .i64 i48)]), (.pointer p6), (.pointer p50)] fun v51 => asPtr v51 fun p52 => .ret .normal [(.pointer p52)]))))) (T98k0)) else (.ret (.exit 0) [(.pointer p6)]))) (.fail)

noncomputable def T98b0 (p0 : (Option Addr)) : List Value → Pg :=
  fun l3 => asCons l3 fun v4 l5 => asPtr v4 fun p6 => asNil l5 (.join (.call 15 [(.pointer p0), (.int .i64 0), (.string (bs [43]))] fun v7 => asBool v7 fun b8 => bif b8 == false then (.call 15 [(.pointer p0), (.int .i64 0), (.string (bs [45]))] fun v9 => asBool v9 fun b10 => .ret .normal [(.bool b10)]) else (.ret .normal [(.bool true)])) (T98k1 p0 p6))

noncomputable def T98k2 : Ex → List Value → Pg :=
  fun e59 l60 => sw e59 (.exit 0) (asCons l60 fun v61 l62 => asPtr v61 fun p63 => asNil l62 (.ret .ret [(.pointer p63)])) (.fail)

/-- (*hindsight/parse.parser).sum -/
noncomputable def T98 (p0 : (Option Addr)) : Pg :=
  .call 129 [(.pointer p0)] fun v1 => asPtr v1 fun p2 => .loop [(.pointer p2)] (T98b0 p0) (T98k2)
theorem T98_eq (p0 : (Option Addr)) : progOf PROG false 98 [(.pointer p0)] = T98 p0 := by kernel_rfl


/-- hindsight/parse.oper -/
noncomputable def T99 (i0 : Int) (s1 : ByteArray) (i2 : Int) (i3 : Int) (p4 : (Option Addr)) (p5 : (Option Addr)) : Pg :=
  .act (newC [(.int .i64 i0), (.string s1), (.int .i64 i2), (.int .i64 i3)]) fun v6 => asPtr v6 fun p7 => asSome p7 fun a8 => asSome p4 fun a9 => .act (ld1 (aadd (aadd a9 0) 5)) fun v10 => asInt .i64 v10 fun i11 => .act (bdSl 1 2 [(.pointer p4), (.pointer p5)]) fun v12 => asSlice v12 fun p13 n14 n15 => .call 34 [(.int .i64 14), (.int .i64 i11), (.slice p13 n14 n15)] fun v16 => asPtr v16 fun p17 => .act (ld1 (aadd a8 1)) fun v18 => asStr v18 fun s19 => asSome p17 fun a20 => .act (stC (aadd (aadd a20 0) 2) [(.string s19)]) fun v21 => asTuple v21 fun l22 => asNil l22 (.ret .ret [(.pointer p17)])
theorem T99_eq (i0 : Int) (s1 : ByteArray) (i2 : Int) (i3 : Int) (p4 : (Option Addr)) (p5 : (Option Addr)) : progOf PROG false 99 [(.agg #[(.int .i64 i0), (.string s1), (.int .i64 i2), (.int .i64 i3)]), (.pointer p4), (.pointer p5)] = T99 i0 s1 i2 i3 p4 p5 := by kernel_rfl


noncomputable def T100k0 : Ex → List Value → Pg :=
  fun e30 l31 => sw e30 .normal (asCons l31 fun v32 l33 => asBool v32 fun b34 => asNil l33 (.ret .ret [(.bool b34)])) (.fail)

noncomputable def T100k1 (s0 : ByteArray) (i1 : Int) : Ex → List Value → Pg :=
  fun e2 l3 => sw e2 .normal (asCons l3 fun v4 l5 => asBool v4 fun b6 => asNil l5 (bif b6 then (.ret .ret [(.bool false)]) else (.call 28 [(.string s0)] fun v7 => asAgg v7 fun l8 => asCons l8 fun v9 l10 => asInt .i64 v9 fun i11 => asCons l10 fun v12 l13 => asStr v12 fun s14 => asCons l13 fun v15 l16 => asInt .i64 v15 fun i17 => asCons l16 fun v18 l19 => asInt .i64 v18 fun i20 => asNil l19 (.act (newC [(.int .i64 0), (.string (bs [])), (.int .i64 0), (.int .i64 0)]) fun v21 => asPtr v21 fun p22 => asSome p22 fun a23 => .act (stC a23 [(.int .i64 i11), (.string s14), (.int .i64 i17), (.int .i64 i20)]) fun v24 => asTuple v24 fun l25 => asNil l25 (.join (.act (ld1 (aadd a23 0)) fun v26 => asInt .i64 v26 fun i27 => bif (i27 == i1) == true then (.act (ld1 (aadd a23 1)) fun v28 => asStr v28 fun s29 => .ret .normal [(.bool (s29.toList == s0.toList))]) else (.ret .normal [(.bool false)])) (T100k0)))))) (.fail)

/-- hindsight/lex.just -/
noncomputable def T100 (s0 : ByteArray) (i1 : Int) : Pg :=
  .join (bif (s0.toList == (bs []).toList) == false then (.ret .normal [(.bool (decide (((s0.size : Nat) : Int) > 4000)))]) else (.ret .normal [(.bool true)])) (T100k1 s0 i1)
theorem T100_eq (s0 : ByteArray) (i1 : Int) : progOf PROG false 100 [(.string s0), (.int .i64 i1)] = T100 s0 i1 := by kernel_rfl


noncomputable def T101k0 (i7 : Int) : Ex → List Value → Pg :=
  fun e14 l15 => sw e14 .ret (asCons l15 fun v16 l17 => asInt .i64 v16 fun i18 => asNil l17 (.ret .ret [(.int .i64 i7), (.int .i64 i18)])) (sw e14 .normal (asCons l15 fun v19 l20 => asInt .i64 v19 fun i21 => asNil l20 (.ret .normal [(.int .i64 (wi64 (i7 + 1))), (.int .i64 i21)])) (.fail))

noncomputable def T101b0 (n1 : Nat) (p0 : (Option Addr)) (s3 : ByteArray) : List Value → Pg :=
  fun l4 => asCons l4 fun v5 l6 => asInt .i64 v5 fun i7 => asCons l6 fun v8 l9 => asInt .i64 v8 fun i10 => asNil l9 (bif (decide (i7 < ((n1 : Nat) : Int))) then (.join (asSome p0 fun a11 => grd ((decide (0 ≤ i7)) && (decide (i7 < ((n1 : Nat) : Int)))) (.act (ld1 (aadd a11 ((Int.toNat i7) * 1))) fun v12 => asStr v12 fun s13 => bif (s3.toList == s13.toList) then (.ret .ret [(.int .i64 i7)]) else (.ret .normal [(.int .i64 i10)]))) (T101k0 i7)) else (.ret (.exit 0) [(.int .i64 i7), (.int .i64 i10)]))

noncomputable def T101k1 : Ex → List Value → Pg :=
  fun e22 l23 => sw e22 (.exit 0) (asCons l23 fun v24 l25 => asInt .i64 v24 fun i26 => asCons l25 fun v27 l28 => asInt .i64 v27 fun i29 => asNil l28 (.ret .ret [(.int .i64 (-1))])) (sw e22 .ret (asCons l23 fun v30 l31 => asInt .i64 v30 fun i32 => asCons l31 fun v33 l34 => asInt .i64 v33 fun i35 => asNil l34 (.ret .ret [(.int .i64 i35)])) (.fail))

/-- slices.Index[[]string,string] -/
noncomputable def T101 (p0 : (Option Addr)) (n1 : Nat) (n2 : Nat) (s3 : ByteArray) : Pg :=
  .loop [(.int .i64 0), (.int .i64 0)] (T101b0 n1 p0 s3) (T101k1)
theorem T101_eq (p0 : (Option Addr)) (n1 : Nat) (n2 : Nat) (s3 : ByteArray) : progOf PROG false 101 [(.slice p0 n1 n2), (.string s3)] = T101 p0 n1 n2 s3 := by kernel_rfl


noncomputable def T102k0 (i7 : Int) : Ex → List Value → Pg :=
  fun e19 l20 => sw e19 .ret (asCons l20 fun v21 l22 => asInt .i64 v21 fun i23 => asNil l22 (.ret .ret [(.int .i64 i7), (.int .i64 i23)])) (sw e19 .normal (asCons l20 fun v24 l25 => asInt .i64 v24 fun i26 => asNil l25 (.ret .normal [(.int .i64 (wi64 (i7 + 1))), (.int .i64 i26)])) (.fail))

noncomputable def T102b0 (n1 : Nat) (p0 : (Option Addr)) (v3 : Value) : List Value → Pg :=
  fun l4 => asCons l4 fun v5 l6 => asInt .i64 v5 fun i7 => asCons l6 fun v8 l9 => asInt .i64 v8 fun i10 => asNil l9 (bif (decide (i7 < ((n1 : Nat) : Int))) then (.join (asSome p0 fun a11 => grd ((decide (0 ≤ i7)) && (decide (i7 < ((n1 : Nat) : Int)))) (.act (ld1 (aadd a11 ((Int.toNat i7) * 1))) fun v12 => asStr v12 fun s13 => asFunc v3 fun n14 l15 l16 => .call n14 (l15 ++ [(.string s13)] ++ l16) fun v17 => asBool v17 fun b18 => bif b18 then (.ret .ret [(.int .i64 i7)]) else (.ret .normal [(.int .i64 i10)]))) (T102k0 i7)) else (.ret (.exit 0) [(.int .i64 i7), (.int .i64 i10)]))

noncomputable def T102k1 : Ex → List Value → Pg :=
  fun e27 l28 => sw e27 (.exit 0) (asCons l28 fun v29 l30 => asInt .i64 v29 fun i31 => asCons l30 fun v32 l33 => asInt .i64 v32 fun i34 => asNil l33 (.ret .ret [(.int .i64 (-1))])) (sw e27 .ret (asCons l28 fun v35 l36 => asInt .i64 v35 fun i37 => asCons l36 fun v38 l39 => asInt .i64 v38 fun i40 => asNil l39 (.ret .ret [(.int .i64 i40)])) (.fail))

/-- slices.IndexFunc[[]string,string] -/
noncomputable def T102 (p0 : (Option Addr)) (n1 : Nat) (n2 : Nat) (v3 : Value) : Pg :=
  .loop [(.int .i64 0), (.int .i64 0)] (T102b0 n1 p0 v3) (T102k1)
theorem T102_eq (p0 : (Option Addr)) (n1 : Nat) (n2 : Nat) (v3 : Value) : progOf PROG false 102 [(.slice p0 n1 n2), v3] = T102 p0 n1 n2 v3 := by kernel_rfl


noncomputable def T103k0 : Ex → List Value → Pg :=
  fun e23 l24 => sw e23 .normal (asCons l24 fun v25 l26 => asBool v25 fun b27 => asNil l26 (.ret .ret [(.bool b27)])) (.fail)

noncomputable def T103k1 : Ex → List Value → Pg :=
  fun e37 l38 => sw e37 .normal (asCons l38 fun v39 l40 => asBool v39 fun b41 => asNil l40 (.ret .ret [(.bool b41)])) (.fail)

noncomputable def T103k2 (a11 : Addr) : Ex → List Value → Pg :=
  fun e28 l29 => sw e28 .normal (asCons l29 fun v30 l31 => asBool v30 fun b32 => asNil l31 (bif b32 then (.join (.act (ld1 (aadd a11 1)) fun v33 => asInt .i64 v33 fun i34 => bif (i34 == 0) == false then (.act (ld1 (aadd a11 1)) fun v35 => asInt .i64 v35 fun i36 => .ret .normal [(.bool (i36 == 1))]) else (.ret .normal [(.bool true)])) (T103k1)) else (.ret .normal [(.bool false)]))) (.fail)

noncomputable def T103k3 (a11 : Addr) (i13 : Int) : Ex → List Value → Pg :=
  fun e14 l15 => sw e14 .normal (asCons l15 fun v16 l17 => asBool v16 fun b18 => asNil l17 (bif b18 then (.join (.act (ld1 (aadd a11 1)) fun v19 => asInt .i64 v19 fun i20 => bif (decide (i20 ≥ 0)) == true then (.act (ld1 (aadd a11 1)) fun v21 => asInt .i64 v21 fun i22 => .ret .normal [(.bool (decide (i22 ≤ 4611686018427387903)))]) else (.ret .normal [(.bool false)])) (T103k0)) else (.join (bif (i13 == 2) then (.ret .normal [(.bool (i13 == 2))]) else (.ret .normal [(.bool (i13 == 24))])) (T103k2 a11)))) (.fail)

noncomputable def T103k4 (a11 : Addr) : Ex → List Value → Pg :=
  fun e42 l43 => sw e42 .ret (asCons l43 fun v44 l45 => asBool v44 fun b46 => asNil l45 (.ret .ret [(.bool b46)])) (sw e42 .normal (asCons l43 fun v47 l48 => asBool v47 fun b49 => asNil l48 (.act (ld1 (aadd a11 1)) fun v50 => asInt .i64 v50 fun i51 => .ret .ret [(.bool (i51 == 0))])) (.fail))

/-- hindsight/tree.number -/
noncomputable def T103 (i0 : Int) (i1 : Int) (s2 : ByteArray) (s3 : ByteArray) (p4 : (Option Addr)) (n5 : Nat) (n6 : Nat) (i7 : Int) (i8 : Int) : Pg :=
  .act (newC [(.int .i64 i0), (.int .i64 i1), (.string s2), (.string s3), (.slice p4 n5 n6), (.int .i64 i7), (.int .i64 i8)]) fun v9 => asPtr v9 fun p10 => asSome p10 fun a11 => .act (ld1 (aadd a11 0)) fun v12 => asInt .i64 v12 fun i13 => .join (.join (bif (i13 == 1) then (.ret .normal [(.bool (i13 == 1))]) else (.ret .normal [(.bool (i13 == 23))])) (T103k3 a11 i13)) (T103k4 a11)
theorem T103_eq (i0 : Int) (i1 : Int) (s2 : ByteArray) (s3 : ByteArray) (p4 : (Option Addr)) (n5 : Nat) (n6 : Nat) (i7 : Int) (i8 : Int) : progOf PROG false 103 [(.agg #[(.int .i64 i0), (.int .i64 i1), (.string s2), (.string s3), (.slice p4 n5 n6), (.int .i64 i7), (.int .i64 i8)])] = T103 i0 i1 s2 s3 p4 n5 n6 i7 i8 := by kernel_rfl


noncomputable def T104k0 : Ex → List Value → Pg :=
  fun e18 l19 => sw e18 .normal (asCons l19 fun v20 l21 => asBool v20 fun b22 => asNil l21 (.ret .normal [(.bool b22)])) (.fail)

noncomputable def T104k1 : Ex → List Value → Pg :=
  fun e67 l68 => sw e67 .normal (asCons l68 fun v69 l70 => asBool v69 fun b71 => asNil l70 (.ret .normal [(.bool b71)])) (.fail)

noncomputable def T104k2 (s15 : ByteArray) : Ex → List Value → Pg :=
  fun e72 l73 => sw e72 .normal (asCons l73 fun v74 l75 => asBool v74 fun b76 => asNil l75 (.ret .normal [(.bool b76), (.bool (s15.toList == (bs []).toList))])) (.fail)

noncomputable def T104k3 (a11 : Addr) (i17 : Int) (s13 : ByteArray) (s15 : ByteArray) : Ex → List Value → Pg :=
  fun e50 l51 => sw e50 .normal (asCons l51 fun v52 l53 => asBool v52 fun b54 => asNil l53 (.join (bif b54 then (.act (ld1 (aadd a11 2)) fun v55 => asStr v55 fun s56 => .call 66 [(.string s56)] fun v57 => asBool v57 fun b58 => .ret .normal [(.bool b58)]) else (.join (bif (i17 == 14) then (.act (bdSl 1 5 [(.string (bs [43])), (.string (bs [45])), (.string (bs [42])), (.string (bs [60])), (.string (bs [61]))]) fun v59 => asSlice v59 fun p60 n61 n62 => .act (ld1 (aadd a11 2)) fun v63 => asStr v63 fun s64 => .call 68 [(.slice p60 n61 n62), (.string s64)] fun v65 => asBool v65 fun b66 => .ret .normal [(.bool b66)]) else (.ret .normal [(.bool (s13.toList == (bs []).toList))])) (T104k1))) (T104k2 s15))) (.fail)

noncomputable def T104k4 : Ex → List Value → Pg :=
  fun e77 l78 => sw e77 .normal (asCons l78 fun v79 l80 => asBool v79 fun b81 => asCons l80 fun v82 l83 => asBool v82 fun b84 => asNil l83 (.ret .normal [(.bool b84), (.bool b81)])) (.fail)

noncomputable def T104k5 (a11 : Addr) (s13 : ByteArray) (i17 : Int) (s15 : ByteArray) : Ex → List Value → Pg :=
  fun e41 l42 => sw e41 .normal (asCons l42 fun v43 l44 => asBool v43 fun b45 => asNil l44 (.join (bif b45 then (.act (ld1 (aadd a11 3)) fun v46 => asStr v46 fun s47 => .call 64 [(.string s47)] fun v48 => asBool v48 fun b49 => .ret .normal [(.bool (s13.toList == (bs []).toList)), (.bool b49)]) else (.join (bif (i17 == 5) then (.ret .normal [(.bool (i17 == 5))]) else (.ret .normal [(.bool (i17 == 26))])) (T104k3 a11 i17 s13 s15))) (T104k4))) (.fail)

noncomputable def T104k6 : Ex → List Value → Pg :=
  fun e85 l86 => sw e85 .normal (asCons l86 fun v87 l88 => asBool v87 fun b89 => asCons l88 fun v90 l91 => asBool v90 fun b92 => asNil l91 (.ret .normal [(.bool b89), (.bool b92)])) (.fail)

noncomputable def T104k7 : Ex → List Value → Pg :=
  fun e93 l94 => sw e93 .normal (asCons l94 fun v95 l96 => asBool v95 fun b97 => asCons l96 fun v98 l99 => asBool v98 fun b100 => asNil l99 (.ret .normal [(.bool b97), (.bool b100)])) (.fail)

noncomputable def T104k8 (a11 : Addr) (s15 : ByteArray) (i17 : Int) (s13 : ByteArray) : Ex → List Value → Pg :=
  fun e23 l24 => sw e23 .normal (asCons l24 fun v25 l26 => asBool v25 fun b27 => asNil l26 (.join (bif b27 then (.act (ld1 (aadd a11 2)) fun v28 => asStr v28 fun s29 => .call 64 [(.string s29)] fun v30 => asBool v30 fun b31 => .ret .normal [(.bool (s15.toList == (bs []).toList)), (.bool b31)]) else (.join (bif (i17 == 9) then (.act (ld1 (aadd a11 2)) fun v32 => asStr v32 fun s33 => .get fun h35 => .call 64 [(.string s33)] fun v34 => asBool v34 fun b36 => .act (ld1 (aadd a11 3)) fun v37 => grd (past (ld1 (aadd a11 3)) v37 [h35]) (asStr v37 fun s38 => .call 64 [(.string s38)] fun v39 => asBool v39 fun b40 => .ret .normal [(.bool b40), (.bool b36)])) else (.join (bif (i17 == 6) then (.ret .normal [(.bool (i17 == 6))]) else (.ret .normal [(.bool (i17 == 20))])) (T104k5 a11 s13 i17 s15))) (T104k6))) (T104k7))) (.fail)

noncomputable def T104k9 : Ex → List Value → Pg :=
  fun e101 l102 => sw e101 .normal (asCons l102 fun v103 l104 => asBool v103 fun b105 => asCons l104 fun v106 l107 => asBool v106 fun b108 => asNil l107 (.ret .ret [(.bool (b108 && b105))])) (.fail)

/-- hindsight/tree.texts -/
noncomputable def T104 (i0 : Int) (i1 : Int) (s2 : ByteArray) (s3 : ByteArray) (p4 : (Option Addr)) (n5 : Nat) (n6 : Nat) (i7 : Int) (i8 : Int) : Pg :=
  .act (newC [(.int .i64 i0), (.int .i64 i1), (.string s2), (.string s3), (.slice p4 n5 n6), (.int .i64 i7), (.int .i64 i8)]) fun v9 => asPtr v9 fun p10 => asSome p10 fun a11 => .act (ld1 (aadd a11 2)) fun v12 => asStr v12 fun s13 => .act (ld1 (aadd a11 3)) fun v14 => asStr v14 fun s15 => .act (ld1 (aadd a11 0)) fun v16 => asInt .i64 v16 fun i17 => .join (.join (bif (i17 == 4) then (.ret .normal [(.bool (i17 == 4))]) else (.join (bif (i17 == 8) then (.ret .normal [(.bool (i17 == 8))]) else (.ret .normal [(.bool (i17 == 22))])) (T104k0))) (T104k8 a11 s15 i17 s13)) (T104k9)
theorem T104_eq (i0 : Int) (i1 : Int) (s2 : ByteArray) (s3 : ByteArray) (p4 : (Option Addr)) (n5 : Nat) (n6 : Nat) (i7 : Int) (i8 : Int) : progOf PROG false 104 [(.agg #[(.int .i64 i0), (.int .i64 i1), (.string s2), (.string s3), (.slice p4 n5 n6), (.int .i64 i7), (.int .i64 i8)])] = T104 i0 i1 s2 s3 p4 n5 n6 i7 i8 := by kernel_rfl


noncomputable def T105k0 : Ex → List Value → Pg :=
  fun e6 l7 => sw e6 .normal (asCons l7 fun v8 l9 => asBool v8 fun b10 => asNil l9 (.ret .normal [(.bool b10)])) (.fail)

noncomputable def T105k1 : Ex → List Value → Pg :=
  fun e11 l12 => sw e11 .normal (asCons l12 fun v13 l14 => asBool v13 fun b15 => asNil l14 (.ret .normal [(.bool b15)])) (.fail)

noncomputable def T105k2 : Ex → List Value → Pg :=
  fun e16 l17 => sw e16 .normal (asCons l17 fun v18 l19 => asBool v18 fun b20 => asNil l19 (.ret .normal [(.bool b20)])) (.fail)

noncomputable def T105k3 : Ex → List Value → Pg :=
  fun e26 l27 => sw e26 .normal (asCons l27 fun v28 l29 => asBool v28 fun b30 => asNil l29 (.ret .normal [(.bool b30)])) (.fail)

noncomputable def T105k4 : Ex → List Value → Pg :=
  fun e31 l32 => sw e31 .normal (asCons l32 fun v33 l34 => asBool v33 fun b35 => asNil l34 (.ret .normal [(.bool b35)])) (.fail)

noncomputable def T105k5 : Ex → List Value → Pg :=
  fun e36 l37 => sw e36 .normal (asCons l37 fun v38 l39 => asBool v38 fun b40 => asNil l39 (.ret .normal [(.bool b40)])) (.fail)

noncomputable def T105k6 : Ex → List Value → Pg :=
  fun e41 l42 => sw e41 .normal (asCons l42 fun v43 l44 => asBool v43 fun b45 => asNil l44 (.ret .normal [(.bool b45)])) (.fail)

noncomputable def T105k7 : Ex → List Value → Pg :=
  fun e46 l47 => sw e46 .normal (asCons l47 fun v48 l49 => asBool v48 fun b50 => asNil l49 (.ret .normal [(.bool b50)])) (.fail)

noncomputable def T105k8 (i0 : Int) : Ex → List Value → Pg :=
  fun e51 l52 => sw e51 .normal (asCons l52 fun v53 l54 => asBool v53 fun b55 => asNil l54 (bif b55 then (.ret .ret [(.int .i64 2), (.int .i64 2)]) else (bif (i0 == 10) then (.ret .ret [(.int .i64 3), (.int .i64 3)]) else (.ret .normal [(.int .i64 0), (.int .i64 0)])))) (.fail)

noncomputable def T105k9 (i0 : Int) : Ex → List Value → Pg :=
  fun e21 l22 => sw e21 .normal (asCons l22 fun v23 l24 => asBool v23 fun b25 => asNil l24 (bif b25 then (.ret .ret [(.int .i64 1), (.int .i64 1)]) else (.join (bif (i0 == 7) then (.ret .normal [(.bool (i0 == 7))]) else (.join (bif (i0 == 8) then (.ret .normal [(.bool (i0 == 8))]) else (.join (bif (i0 == 9) then (.ret .normal [(.bool (i0 == 9))]) else (.join (bif (i0 == 12) then (.ret .normal [(.bool (i0 == 12))]) else (.join (bif (i0 == 13) then (.ret .normal [(.bool (i0 == 13))]) else (.join (bif (i0 == 14) then (.ret .normal [(.bool (i0 == 14))]) else (.ret .normal [(.bool (i0 == 20))])) (T105k3))) (T105k4))) (T105k5))) (T105k6))) (T105k7))) (T105k8 i0)))) (.fail)

noncomputable def T105k10 (i0 : Int) : Ex → List Value → Pg :=
  fun e1 l2 => sw e1 .normal (asCons l2 fun v3 l4 => asBool v3 fun b5 => asNil l4 (bif b5 then (.ret .ret [(.int .i64 3), (.int .i64 0)]) else (bif (i0 == 11) then (.ret .ret [(.int .i64 1000), (.int .i64 3)]) else (.join (bif (i0 == 6) then (.ret .normal [(.bool (i0 == 6))]) else (.join (bif (i0 == 15) then (.ret .normal [(.bool (i0 == 15))]) else (.join (bif (i0 == 16) then (.ret .normal [(.bool (i0 == 16))]) else (.join (bif (i0 == 17) then (.ret .normal [(.bool (i0 == 17))]) else (.ret .normal [(.bool (i0 == 19))])) (T105k0))) (T105k1))) (T105k2))) (T105k9 i0))))) (.fail)

noncomputable def T105k11 : Ex → List Value → Pg :=
  fun e56 l57 => sw e56 .ret (asCons l57 fun v58 l59 => asInt .i64 v58 fun i60 => asCons l59 fun v61 l62 => asInt .i64 v61 fun i63 => asNil l62 (.ret .ret [(.tuple #[(.int .i64 i63), (.int .i64 i60)])])) (sw e56 .normal (asCons l57 fun v64 l65 => asInt .i64 v64 fun i66 => asCons l65 fun v67 l68 => asInt .i64 v67 fun i69 => asNil l68 (.ret .ret [(.tuple #[(.int .i64 0), (.int .i64 0)])])) (.fail))

/-- hindsight/tree.kids -/
noncomputable def T105 (i0 : Int) : Pg :=
  .join (.join (bif (i0 == 5) then (.ret .normal [(.bool (i0 == 5))]) else (.ret .normal [(.bool (i0 == 26))])) (T105k10 i0)) (T105k11)
theorem T105_eq (i0 : Int) : progOf PROG false 105 [(.int .i64 i0)] = T105 i0 := by kernel_rfl


noncomputable def T106k0 (i50 : Int) : Ex → List Value → Pg :=
  fun e78 l79 => sw e78 .ret (asCons l79 fun v80 l81 => asBool v80 fun b82 => asCons l81 fun v83 l84 => asInt .i64 v83 fun i85 => asCons l84 fun v86 l87 => asInt .i64 v86 fun i88 => asNil l87 (.ret .ret [(.int .i64 i50), (.bool b82), (.int .i64 i85), (.int .i64 i88)])) (sw e78 .normal (asCons l79 fun v89 l90 => asBool v89 fun b91 => asCons l90 fun v92 l93 => asInt .i64 v92 fun i94 => asCons l93 fun v95 l96 => asInt .i64 v95 fun i97 => asNil l96 (.ret .normal [(.int .i64 (wi64 (i50 + 1))), (.bool b91), (.int .i64 i94), (.int .i64 i97)])) (.fail))

noncomputable def T106b0 (n45 : Nat) (p44 : (Option Addr)) (s6 : ByteArray) (i17 : Int) : List Value → Pg :=
  fun l47 => asCons l47 fun v48 l49 => asInt .i64 v48 fun i50 => asCons l49 fun v51 l52 => asBool v51 fun b53 => asCons l52 fun v54 l55 => asInt .i64 v54 fun i56 => asCons l55 fun v57 l58 => asInt .i64 v57 fun i59 => asNil l58 (bif (decide (i50 < ((n45 : Nat) : Int))) then (.join (asSome p44 fun a60 => grd ((decide (0 ≤ i50)) && (decide (i50 < ((n45 : Nat) : Int)))) (.act (ldN 2 (aadd a60 ((Int.toNat i50) * 2))) fun v61 => asAgg v61 fun l62 => asCons l62 fun v63 l64 => asStr v63 fun s65 => asCons l64 fun v66 l67 => asSlice v66 fun p68 n69 n70 => asNil l67 (.act (newC [(.string (bs [])), (.slice none 0 0)]) fun v71 => asPtr v71 fun p72 => asSome p72 fun a73 => .act (stC a73 [(.string s65), (.slice p68 n69 n70)]) fun v74 => asTuple v74 fun l75 => asNil l75 (.act (ld1 (aadd a73 0)) fun v76 => asStr v76 fun s77 => bif (s77.toList == s6.toList) then (.ret .ret [(.bool true), (.int .i64 i50), (.int .i64 i17)]) else (.ret .normal [(.bool b53), (.int .i64 i56), (.int .i64 i59)]))))) (T106k0 i50)) else (.ret (.exit 2) [(.int .i64 i50), (.bool b53), (.int .i64 i56), (.int .i64 i59)]))

noncomputable def T106k1 : Ex → List Value → Pg :=
  fun e98 l99 => sw e98 (.exit 2) (asCons l99 fun v100 l101 => asInt .i64 v100 fun i102 => asCons l101 fun v103 l104 => asBool v103 fun b105 => asCons l104 fun v106 l107 => asInt .i64 v106 fun i108 => asCons l107 fun v109 l110 => asInt .i64 v109 fun i111 => asNil l110 (.ret .normal [(.bool b105), (.int .i64 i108), (.int .i64 i111)])) (sw e98 .ret (asCons l99 fun v112 l113 => asInt .i64 v112 fun i114 => asCons l113 fun v115 l116 => asBool v115 fun b117 => asCons l116 fun v118 l119 => asInt .i64 v118 fun i120 => asCons l119 fun v121 l122 => asInt .i64 v121 fun i123 => asNil l122 (.ret .ret [(.bool b117), (.int .i64 i120), (.int .i64 i123)])) (.fail))

noncomputable def T106k2 (i17 : Int) : Ex → List Value → Pg :=
  fun e124 l125 => sw e124 .ret (asCons l125 fun v126 l127 => asBool v126 fun b128 => asCons l127 fun v129 l130 => asInt .i64 v129 fun i131 => asCons l130 fun v132 l133 => asInt .i64 v132 fun i134 => asNil l133 (.ret .ret [(.int .i64 i17), (.bool b128), (.int .i64 i131), (.int .i64 i134)])) (sw e124 .normal (asCons l125 fun v135 l136 => asBool v135 fun b137 => asCons l136 fun v138 l139 => asInt .i64 v138 fun i140 => asCons l139 fun v141 l142 => asInt .i64 v141 fun i143 => asNil l142 (.ret .normal [(.int .i64 (wi64 (i17 + 1))), (.bool b137), (.int .i64 i140), (.int .i64 i143)])) (.fail))

noncomputable def T106b1 (n12 : Nat) (p11 : (Option Addr)) (s6 : ByteArray) : List Value → Pg :=
  fun l14 => asCons l14 fun v15 l16 => asInt .i64 v15 fun i17 => asCons l16 fun v18 l19 => asBool v18 fun b20 => asCons l19 fun v21 l22 => asInt .i64 v21 fun i23 => asCons l22 fun v24 l25 => asInt .i64 v24 fun i26 => asNil l25 (bif (decide (i17 < ((n12 : Nat) : Int))) then (.join (asSome p11 fun a27 => grd ((decide (0 ≤ i17)) && (decide (i17 < ((n12 : Nat) : Int)))) (.act (ldN 2 (aadd a27 ((Int.toNat i17) * 2))) fun v28 => asAgg v28 fun l29 => asCons l29 fun v30 l31 => asStr v30 fun s32 => asCons l31 fun v33 l34 => asSlice v33 fun p35 n36 n37 => asNil l34 (.act (newC [(.string (bs [])), (.slice none 0 0)]) fun v38 => asPtr v38 fun p39 => asSome p39 fun a40 => .act (stC a40 [(.string s32), (.slice p35 n36 n37)]) fun v41 => asTuple v41 fun l42 => asNil l42 (.act (ld1 (aadd a40 1)) fun v43 => asSlice v43 fun p44 n45 n46 => .loop [(.int .i64 0), (.bool b20), (.int .i64 i23), (.int .i64 i26)] (T106b0 n45 p44 s6 i17) (T106k1))))) (T106k2 i17)) else (.ret (.exit 0) [(.int .i64 i17), (.bool b20), (.int .i64 i23), (.int .i64 i26)]))

noncomputable def T106k3 : Ex → List Value → Pg :=
  fun e144 l145 => sw e144 (.exit 0) (asCons l145 fun v146 l147 => asInt .i64 v146 fun i148 => asCons l147 fun v149 l150 => asBool v149 fun b151 => asCons l150 fun v152 l153 => asInt .i64 v152 fun i154 => asCons l153 fun v155 l156 => asInt .i64 v155 fun i157 => asNil l156 (.ret .ret [(.tuple #[(.int .i64 0), (.int .i64 0), (.bool false)])])) (sw e144 .ret (asCons l145 fun v158 l159 => asInt .i64 v158 fun i160 => asCons l159 fun v161 l162 => asBool v161 fun b163 => asCons l162 fun v164 l165 => asInt .i64 v164 fun i166 => asCons l165 fun v167 l168 => asInt .i64 v167 fun i169 => asNil l168 (.ret .ret [(.tuple #[(.int .i64 i169), (.int .i64 i166), (.bool b163)])])) (.fail))

/-- hindsight/tree.Of -/
noncomputable def T106 (p0 : (Option Addr)) (n1 : Nat) (n2 : Nat) (p3 : (Option Addr)) (n4 : Nat) (n5 : Nat) (s6 : ByteArray) : Pg :=
  .act (newC [(.slice p0 n1 n2), (.slice p3 n4 n5)]) fun v7 => asPtr v7 fun p8 => asSome p8 fun a9 => .act (ld1 (aadd a9 1)) fun v10 => asSlice v10 fun p11 n12 n13 => .loop [(.int .i64 0), (.bool false), (.int .i64 0), (.int .i64 0)] (T106b1 n12 p11 s6) (T106k3)
theorem T106_eq (p0 : (Option Addr)) (n1 : Nat) (n2 : Nat) (p3 : (Option Addr)) (n4 : Nat) (n5 : Nat) (s6 : ByteArray) : progOf PROG false 106 [(.agg #[(.slice p0 n1 n2), (.slice p3 n4 n5)]), (.string s6)] = T106 p0 n1 n2 p3 n4 n5 s6 := by kernel_rfl


/-- slices.ContainsFunc[[]hindsight/scheme.Scheme,hindsight/scheme.Scheme] -/
noncomputable def T108 (p0 : (Option Addr)) (n1 : Nat) (n2 : Nat) (v3 : Value) : Pg :=
  .call 133 [(.slice p0 n1 n2), v3] fun v4 => asInt .i64 v4 fun i5 => .ret .ret [(.bool (decide (i5 ≥ 0)))]
theorem T108_eq (p0 : (Option Addr)) (n1 : Nat) (n2 : Nat) (v3 : Value) : progOf PROG false 108 [(.slice p0 n1 n2), v3] = T108 p0 n1 n2 v3 := by kernel_rfl


/-- hindsight/scheme.Close$1 -/
noncomputable def T109 (p0 : (Option Addr)) (n1 : Nat) (n2 : Nat) (i3 : Int) (s4 : ByteArray) (i5 : Int) (p6 : (Option Addr)) (n7 : Nat) (n8 : Nat) : Pg :=
  .act (newC [(.slice p0 n1 n2), (.int .i64 i3), (.string s4), (.int .i64 i5), (.slice p6 n7 n8)]) fun v9 => asPtr v9 fun p10 => asSome p10 fun a11 => .act (ldN 5 a11) fun v12 => asAgg v12 fun l13 => asCons l13 fun v14 l15 => asSlice v14 fun p16 n17 n18 => asCons l15 fun v19 l20 => asInt .i64 v19 fun i21 => asCons l20 fun v22 l23 => asStr v22 fun s24 => asCons l23 fun v25 l26 => asInt .i64 v25 fun i27 => asCons l26 fun v28 l29 => asSlice v28 fun p30 n31 n32 => asNil l29 (.call 110 [(.agg #[(.slice p16 n17 n18), (.int .i64 i21), (.string s24), (.int .i64 i27), (.slice p30 n31 n32)])] fun v33 => asBool v33 fun b34 => .ret .ret [(.bool (!b34))])
theorem T109_eq (p0 : (Option Addr)) (n1 : Nat) (n2 : Nat) (i3 : Int) (s4 : ByteArray) (i5 : Int) (p6 : (Option Addr)) (n7 : Nat) (n8 : Nat) : progOf PROG false 109 [(.agg #[(.slice p0 n1 n2), (.int .i64 i3), (.string s4), (.int .i64 i5), (.slice p6 n7 n8)])] = T109 p0 n1 n2 i3 s4 i5 p6 n7 n8 := by kernel_rfl


noncomputable def T110k0 (b60 : Bool) : Ex → List Value → Pg :=
  fun e73 l74 => sw e73 .normal (asCons l74 fun v75 l76 => asBool v75 fun b77 => asNil l76 (bif b77 then (.ret .ret [(.bool false)]) else (.ret .normal [(.bool b60)]))) (.fail)

noncomputable def T110k1 (i57 : Int) : Ex → List Value → Pg :=
  fun e78 l79 => sw e78 .ret (asCons l79 fun v80 l81 => asBool v80 fun b82 => asNil l81 (.ret .ret [(.int .i64 i57), (.bool b82)])) (sw e78 .normal (asCons l79 fun v83 l84 => asBool v83 fun b85 => asNil l84 (.ret .normal [(.int .i64 (wi64 (i57 + 1))), (.bool b85)])) (.fail))

noncomputable def T110b0 (n52 : Nat) (p51 : (Option Addr)) (p47 : (Option Addr)) (n48 : Nat) (n49 : Nat) (a11 : Addr) : List Value → Pg :=
  fun l54 => asCons l54 fun v55 l56 => asInt .i64 v55 fun i57 => asCons l56 fun v58 l59 => asBool v58 fun b60 => asNil l59 (bif (decide (i57 < ((n52 : Nat) : Int))) then (.join (asSome p51 fun a61 => grd ((decide (0 ≤ i57)) && (decide (i57 < ((n52 : Nat) : Int)))) (.act (ld1 (aadd a61 ((Int.toNat i57) * 1))) fun v62 => asInt .i64 v62 fun i63 => .join (.call 134 [(.slice p47 n48 n49), (.int .i64 i63)] fun v64 => asBool v64 fun b65 => bif (!b65) == false then (bif (decide (i57 > 0)) == true then (.act (ld1 (aadd a11 0)) fun v66 => asSlice v66 fun p67 n68 n69 => asSome p67 fun a70 => grd ((decide (0 ≤ (wi64 (i57 - 1)))) && (decide ((wi64 (i57 - 1)) < ((n68 : Nat) : Int)))) (.act (ld1 (aadd a70 ((Int.toNat (wi64 (i57 - 1))) * 1))) fun v71 => asInt .i64 v71 fun i72 => .ret .normal [(.bool (decide (i72 ≥ i63)))])) else (.ret .normal [(.bool false)])) else (.ret .normal [(.bool true)])) (T110k0 b60))) (T110k1 i57)) else (.ret (.exit 0) [(.int .i64 i57), (.bool b60)]))

noncomputable def T110k2 : Ex → List Value → Pg :=
  fun e86 l87 => sw e86 (.exit 0) (asCons l87 fun v88 l89 => asInt .i64 v88 fun i90 => asCons l89 fun v91 l92 => asBool v91 fun b93 => asNil l92 (.ret .ret [(.bool true)])) (sw e86 .ret (asCons l87 fun v94 l95 => asInt .i64 v94 fun i96 => asCons l95 fun v97 l98 => asBool v97 fun b99 => asNil l98 (.ret .ret [(.bool b99)])) (.fail))

/-- hindsight/scheme.Good -/
noncomputable def T110 (p0 : (Option Addr)) (n1 : Nat) (n2 : Nat) (i3 : Int) (s4 : ByteArray) (i5 : Int) (p6 : (Option Addr)) (n7 : Nat) (n8 : Nat) : Pg :=
  .act (newC [(.slice p0 n1 n2), (.int .i64 i3), (.string s4), (.int .i64 i5), (.slice p6 n7 n8)]) fun v9 => asPtr v9 fun p10 => asSome p10 fun a11 => .act (ldN 4 (aadd a11 1)) fun v12 => asAgg v12 fun l13 => asCons l13 fun v14 l15 => asInt .i64 v14 fun i16 => asCons l15 fun v17 l18 => asStr v17 fun s19 => asCons l18 fun v20 l21 => asInt .i64 v20 fun i22 => asCons l21 fun v23 l24 => asSlice v23 fun p25 n26 n27 => asNil l24 (.call 44 [(.agg #[(.int .i64 i16), (.string s19), (.int .i64 i22), (.slice p25 n26 n27)])] fun v28 => asBool v28 fun b29 => bif (!b29) then (.ret .ret [(.bool false)]) else (.act (ldN 4 (aadd a11 1)) fun v30 => asAgg v30 fun l31 => asCons l31 fun v32 l33 => asInt .i64 v32 fun i34 => asCons l33 fun v35 l36 => asStr v35 fun s37 => asCons l36 fun v38 l39 => asInt .i64 v38 fun i40 => asCons l39 fun v41 l42 => asSlice v41 fun p43 n44 n45 => asNil l42 (.call 11 [(.agg #[(.int .i64 i34), (.string s37), (.int .i64 i40), (.slice p43 n44 n45)])] fun v46 => asSlice v46 fun p47 n48 n49 => .act (ld1 (aadd a11 0)) fun v50 => asSlice v50 fun p51 n52 n53 => .loop [(.int .i64 0), (.bool false)] (T110b0 n52 p51 p47 n48 n49 a11) (T110k2))))
theorem T110_eq (p0 : (Option Addr)) (n1 : Nat) (n2 : Nat) (i3 : Int) (s4 : ByteArray) (i5 : Int) (p6 : (Option Addr)) (n7 : Nat) (n8 : Nat) : progOf PROG false 110 [(.agg #[(.slice p0 n1 n2), (.int .i64 i3), (.string s4), (.int .i64 i5), (.slice p6 n7 n8)])] = T110 p0 n1 n2 i3 s4 i5 p6 n7 n8 := by kernel_rfl


noncomputable def T111k0 : Ex → List Value → Pg :=
  fun e156 l157 => sw e156 .normal (asCons l157 fun v158 l159 => asSlice v158 fun p160 n161 n162 => asNil l159 (.ret .normal [(.slice p160 n161 n162)])) (.fail)

noncomputable def T111k1 (a84 : Addr) (p39 : (Option Addr)) (n40 : Nat) (n41 : Nat) : Ex → List Value → Pg :=
  fun e127 l128 => sw e127 .normal (asCons l128 fun v129 l130 => asBool v129 fun b131 => asNil l130 (.join (bif b131 then (.act (ldN 4 a84) fun v132 => asAgg v132 fun l133 => asCons l133 fun v134 l135 => asInt .i64 v134 fun i136 => asCons l135 fun v137 l138 => asStr v137 fun s139 => asCons l138 fun v140 l141 => asInt .i64 v140 fun i142 => asCons l141 fun v143 l144 => asSlice v143 fun p145 n146 n147 => asNil l144 (.call 11 [(.agg #[(.int .i64 i136), (.string s139), (.int .i64 i142), (.slice p145 n146 n147)])] fun v148 => asSlice v148 fun p149 n150 n151 => .act (apS 1 8 p39 n40 n41 p149 n150 n151) fun v152 => asSlice v152 fun p153 n154 n155 => .ret .normal [(.slice p153 n154 n155)])) else (.ret .normal [(.slice p39 n40 n41)])) (T111k0))) (.fail)

noncomputable def T111k2 (i36 : Int) : Ex → List Value → Pg :=
  fun e163 l164 => sw e163 .normal (asCons l164 fun v165 l166 => asSlice v165 fun p167 n168 n169 => asNil l166 (.ret .normal [(.int .i64 (wi64 (i36 + 1))), (.slice p167 n168 n169)])) (.fail)

noncomputable def T111b0 (n31 : Nat) (p30 : (Option Addr)) (p0 : (Option Addr)) (a12 : Addr) : List Value → Pg :=
  fun l33 => asCons l33 fun v34 l35 => asInt .i64 v34 fun i36 => asCons l35 fun v37 l38 => asSlice v37 fun p39 n40 n41 => asNil l38 (bif (decide (i36 < ((n31 : Nat) : Int))) then (.join (asSome p30 fun a42 => grd ((decide (0 ≤ i36)) && (decide (i36 < ((n31 : Nat) : Int)))) (.act (ld1 (aadd a42 ((Int.toNat i36) * 1))) fun v43 => asInt .i64 v43 fun i44 => .act (newC [(.int .i64 0), (.string (bs [])), (.int .i64 0), (.slice none 0 0)]) fun v45 => asPtr v45 fun p46 => asSome p46 fun a47 => .act (stC a47 [(.int .i64 7), (.string (bs [])), (.int .i64 i44), (.slice none 0 0)]) fun v48 => asTuple v48 fun l49 => asNil l49 (.act (ldN 4 a47) fun v50 => asAgg v50 fun l51 => asCons l51 fun v52 l53 => asInt .i64 v52 fun i54 => asCons l53 fun v55 l56 => asStr v55 fun s57 => asCons l56 fun v58 l59 => asInt .i64 v58 fun i60 => asCons l59 fun v61 l62 => asSlice v61 fun p63 n64 n65 => asNil l62 (.call 23 [(.pointer p0), (.agg #[(.int .i64 i54), (.string s57), (.int .i64 i60), (.slice p63 n64 n65)])] fun v66 => asAgg v66 fun l67 => asCons l67 fun v68 l69 => asInt .i64 v68 fun i70 => asCons l69 fun v71 l72 => asStr v71 fun s73 => asCons l72 fun v74 l75 => asInt .i64 v74 fun i76 => asCons l75 fun v77 l78 => asSlice v77 fun p79 n80 n81 => asNil l78 (.act (newC [(.int .i64 0), (.string (bs [])), (.int .i64 0), (.slice none 0 0)]) fun v82 => asPtr v82 fun p83 => asSome p83 fun a84 => .act (stC a84 [(.int .i64 i70), (.string s73), (.int .i64 i76), (.slice p79 n80 n81)]) fun v85 => asTuple v85 fun l86 => asNil l86 (.join (.act (ld1 (aadd a12 0)) fun v87 => asSlice v87 fun p88 n89 n90 => .call 134 [(.slice p88 n89 n90), (.int .i64 i44)] fun v91 => asBool v91 fun b92 => bif (!b92) == false then (.act (ldN 4 a84) fun v93 => asAgg v93 fun l94 => asCons l94 fun v95 l96 => asInt .i64 v95 fun i97 => asCons l96 fun v98 l99 => asStr v98 fun s100 => asCons l99 fun v101 l102 => asInt .i64 v101 fun i103 => asCons l102 fun v104 l105 => asSlice v104 fun p106 n107 n108 => asNil l105 (.act (ldN 4 a47) fun v109 => asAgg v109 fun l110 => asCons l110 fun v111 l112 => asInt .i64 v111 fun i113 => asCons l112 fun v114 l115 => asStr v114 fun s116 => asCons l115 fun v117 l118 => asInt .i64 v117 fun i119 => asCons l118 fun v120 l121 => asSlice v120 fun p122 n123 n124 => asNil l121 (.call 135 [(.agg #[(.int .i64 i97), (.string s100), (.int .i64 i103), (.slice p106 n107 n108)]), (.agg #[(.int .i64 i113), (.string s116), (.int .i64 i119), (.slice p122 n123 n124)])] fun v125 => asBool v125 fun b126 => .ret .normal [(.bool (!b126))]))) else (.ret .normal [(.bool true)])) (T111k1 a84 p39 n40 n41))))))) (T111k2 i36)) else (.ret (.exit 0) [(.int .i64 i36), (.slice p39 n40 n41)]))

noncomputable def T111k3 : Ex → List Value → Pg :=
  fun e170 l171 => sw e170 (.exit 0) (asCons l171 fun v172 l173 => asInt .i64 v172 fun i174 => asCons l173 fun v175 l176 => asSlice v175 fun p177 n178 n179 => asNil l176 (.ret .ret [(.slice p177 n178 n179)])) (.fail)

/-- hindsight/scheme.rest -/
noncomputable def T111 (p0 : (Option Addr)) (p1 : (Option Addr)) (n2 : Nat) (n3 : Nat) (i4 : Int) (s5 : ByteArray) (i6 : Int) (p7 : (Option Addr)) (n8 : Nat) (n9 : Nat) : Pg :=
  .act (newC [(.slice p1 n2 n3), (.int .i64 i4), (.string s5), (.int .i64 i6), (.slice p7 n8 n9)]) fun v10 => asPtr v10 fun p11 => asSome p11 fun a12 => .act (ldN 4 (aadd a12 1)) fun v13 => asAgg v13 fun l14 => asCons l14 fun v15 l16 => asInt .i64 v15 fun i17 => asCons l16 fun v18 l19 => asStr v18 fun s20 => asCons l19 fun v21 l22 => asInt .i64 v21 fun i23 => asCons l22 fun v24 l25 => asSlice v24 fun p26 n27 n28 => asNil l25 (.call 11 [(.agg #[(.int .i64 i17), (.string s20), (.int .i64 i23), (.slice p26 n27 n28)])] fun v29 => asSlice v29 fun p30 n31 n32 => .loop [(.int .i64 0), (.slice none 0 0)] (T111b0 n31 p30 p0 a12) (T111k3))
theorem T111_eq (p0 : (Option Addr)) (p1 : (Option Addr)) (n2 : Nat) (n3 : Nat) (i4 : Int) (s5 : ByteArray) (i6 : Int) (p7 : (Option Addr)) (n8 : Nat) (n9 : Nat) : progOf PROG false 111 [(.pointer p0), (.agg #[(.slice p1 n2 n3), (.int .i64 i4), (.string s5), (.int .i64 i6), (.slice p7 n8 n9)])] = T111 p0 p1 n2 n3 i4 s5 i6 p7 n8 n9 := by kernel_rfl


/-- slices.Sort[[]int,int] -/
noncomputable def T112 (p0 : (Option Addr)) (n1 : Nat) (n2 : Nat) : Pg :=
  .call 137 [(.int .u64 (wu64 ((n1 : Nat) : Int)))] fun v3 => asInt .i64 v3 fun i4 => .call 136 [(.slice p0 n1 n2), (.int .i64 0), (.int .i64 ((n1 : Nat) : Int)), (.int .i64 i4)] fun v5 => asTuple v5 fun l6 => asNil l6 (.ret .ret [(.tuple #[])])
theorem T112_eq (p0 : (Option Addr)) (n1 : Nat) (n2 : Nat) : progOf PROG false 112 [(.slice p0 n1 n2)] = T112 p0 n1 n2 := by kernel_rfl


noncomputable def T113k0 (i219 : Int) : Ex → List Value → Pg :=
  fun e320 l321 => sw e320 .normal (asCons l321 fun v322 l323 => asPtr v322 fun p324 => asNil l323 (.ret .normal [(.int .i64 (wi64 (i219 + 1))), (.pointer p324)])) (.fail)

noncomputable def T113b0 (n214 : Nat) (p213 : (Option Addr)) (a39 : Addr) (p0 : (Option Addr)) : List Value → Pg :=
  fun l216 => asCons l216 fun v217 l218 => asInt .i64 v217 fun i219 => asCons l218 fun v220 l221 => asPtr v220 fun p222 => asNil l221 (bif (decide (i219 < ((n214 : Nat) : Int))) then (.join (asSome p213 fun a223 => grd ((decide (0 ≤ i219)) && (decide (i219 < ((n214 : Nat) : Int)))) (.act (ldN 4 (aadd a223 ((Int.toNat i219) * 4))) fun v224 => asAgg v224 fun l225 => asCons l225 fun v226 l227 => asInt .i64 v226 fun i228 => asCons l227 fun v229 l230 => asStr v229 fun s231 => asCons l230 fun v232 l233 => asInt .i64 v232 fun i234 => asCons l233 fun v235 l236 => asSlice v235 fun p237 n238 n239 => asNil l236 (.act (newC [(.int .i64 0), (.string (bs [])), (.int .i64 0), (.slice none 0 0)]) fun v240 => asPtr v240 fun p241 => asSome p241 fun a242 => .act (stC a242 [(.int .i64 i228), (.string s231), (.int .i64 i234), (.slice p237 n238 n239)]) fun v243 => asTuple v243 fun l244 => asNil l244 (.act (newC [(.int .i64 0), (.string (bs [])), (.int .i64 0), (.slice none 0 0)]) fun v245 => asPtr v245 fun p246 => asSome p246 fun a247 => .act (ld1 (aadd a39 4)) fun v248 => asSlice v248 fun p249 n250 n251 => asSome p249 fun a252 => grd ((decide (0 ≤ i219)) && (decide (i219 < ((n250 : Nat) : Int)))) (.act (ld1 (aadd a252 ((Int.toNat i219) * 1))) fun v253 => asInt .i64 v253 fun i254 => .call 113 [(.pointer p0), (.int .i64 i254), (.pointer p222)] fun v255 => asTuple v255 fun l256 => asCons l256 fun v257 l258 => asAgg v257 fun l259 => asCons l259 fun v260 l261 => asInt .i64 v260 fun i262 => asCons l261 fun v263 l264 => asStr v263 fun s265 => asCons l264 fun v266 l267 => asInt .i64 v266 fun i268 => asCons l267 fun v269 l270 => asSlice v269 fun p271 n272 n273 => asNil l270 (asCons l258 fun v274 l275 => asPtr v274 fun p276 => asNil l275 (.act (stC a247 [(.int .i64 i262), (.string s265), (.int .i64 i268), (.slice p271 n272 n273)]) fun v277 => asTuple v277 fun l278 => asNil l278 (.act (ld1 (aadd a39 4)) fun v279 => asSlice v279 fun p280 n281 n282 => asSome p280 fun a283 => grd ((decide (0 ≤ i219)) && (decide (i219 < ((n281 : Nat) : Int)))) (.act (ld1 (aadd a283 ((Int.toNat i219) * 1))) fun v284 => asInt .i64 v284 fun i285 => .act (ldN 4 a247) fun v286 => asAgg v286 fun l287 => asCons l287 fun v288 l289 => asInt .i64 v288 fun i290 => asCons l289 fun v291 l292 => asStr v291 fun s293 => asCons l292 fun v294 l295 => asInt .i64 v294 fun i296 => asCons l295 fun v297 l298 => asSlice v297 fun p299 n300 n301 => asNil l298 (.act (ldN 4 a242) fun v302 => asAgg v302 fun l303 => asCons l303 fun v304 l305 => asInt .i64 v304 fun i306 => asCons l305 fun v307 l308 => asStr v307 fun s309 => asCons l308 fun v310 l311 => asInt .i64 v310 fun i312 => asCons l311 fun v313 l314 => asSlice v313 fun p315 n316 n317 => asNil l314 (.call 74 [(.pointer p0), (.int .i64 i285), (.agg #[(.int .i64 i290), (.string s293), (.int .i64 i296), (.slice p299 n300 n301)]), (.agg #[(.int .i64 i306), (.string s309), (.int .i64 i312), (.slice p315 n316 n317)])] fun v318 => asTuple v318 fun l319 => asNil l319 (.ret .normal [(.pointer p276)])))))))))))) (T113k0 i219)) else (.ret (.exit 1) [(.int .i64 i219), (.pointer p222)]))

noncomputable def T113k1 (a39 : Addr) (p0 : (Option Addr)) (a44 : Addr) : Ex → List Value → Pg :=
  fun e325 l326 => sw e325 (.exit 1) (asCons l326 fun v327 l328 => asInt .i64 v327 fun i329 => asCons l328 fun v330 l331 => asPtr v330 fun p332 => asNil l331 (.act (ldN 7 a39) fun v333 => asAgg v333 fun l334 => asCons l334 fun v335 l336 => asInt .i64 v335 fun i337 => asCons l336 fun v338 l339 => asInt .i64 v338 fun i340 => asCons l339 fun v341 l342 => asStr v341 fun s343 => asCons l342 fun v344 l345 => asStr v344 fun s346 => asCons l345 fun v347 l348 => asSlice v347 fun p349 n350 n351 => asCons l348 fun v352 l353 => asInt .i64 v352 fun i354 => asCons l353 fun v355 l356 => asInt .i64 v355 fun i357 => asNil l356 (.call 85 [(.pointer p0), (.agg #[(.int .i64 i337), (.int .i64 i340), (.string s343), (.string s346), (.slice p349 n350 n351), (.int .i64 i354), (.int .i64 i357)])] fun v358 => asAgg v358 fun l359 => asCons l359 fun v360 l361 => asInt .i64 v360 fun i362 => asCons l361 fun v363 l364 => asStr v363 fun s365 => asCons l364 fun v366 l367 => asInt .i64 v366 fun i368 => asCons l367 fun v369 l370 => asSlice v369 fun p371 n372 n373 => asNil l370 (.act (stC a44 [(.int .i64 i362), (.string s365), (.int .i64 i368), (.slice p371 n372 n373)]) fun v374 => asTuple v374 fun l375 => asNil l375 (.ret .normal [(.pointer p332)]))))) (.fail)

noncomputable def T113k2 : Ex → List Value → Pg :=
  fun e376 l377 => sw e376 .normal (asCons l377 fun v378 l379 => asPtr v378 fun p380 => asNil l379 (.ret .normal [(.pointer p380)])) (.fail)

noncomputable def T113k3 : Ex → List Value → Pg :=
  fun e381 l382 => sw e381 .normal (asCons l382 fun v383 l384 => asPtr v383 fun p385 => asNil l384 (.ret .normal [(.pointer p385)])) (.fail)

noncomputable def T113k4 : Ex → List Value → Pg :=
  fun e386 l387 => sw e386 .normal (asCons l387 fun v388 l389 => asPtr v388 fun p390 => asNil l389 (.ret .normal [(.pointer p390)])) (.fail)

noncomputable def T113k5 : Ex → List Value → Pg :=
  fun e391 l392 => sw e391 .normal (asCons l392 fun v393 l394 => asPtr v393 fun p395 => asNil l394 (.ret .normal [(.pointer p395)])) (.fail)

noncomputable def T113k6 : Ex → List Value → Pg :=
  fun e396 l397 => sw e396 .normal (asCons l397 fun v398 l399 => asPtr v398 fun p400 => asNil l399 (.ret .normal [(.pointer p400)])) (.fail)

noncomputable def T113k7 (p0 : (Option Addr)) (a44 : Addr) (i1 : Int) (a5 : Addr) : Ex → List Value → Pg :=
  fun e401 l402 => sw e401 .normal (asCons l402 fun v403 l404 => asPtr v403 fun p405 => asNil l404 (asSome p0 fun a406 => .act (ld1 (aadd (aadd a406 3) 0)) fun v407 => asSlice v407 fun p408 n409 n410 => .act (ldN 4 a44) fun v411 => asAgg v411 fun l412 => asCons l412 fun v413 l414 => asInt .i64 v413 fun i415 => asCons l414 fun v416 l417 => asStr v416 fun s418 => asCons l417 fun v419 l420 => asInt .i64 v419 fun i421 => asCons l420 fun v422 l423 => asSlice v422 fun p424 n425 n426 => asNil l423 (asSome p408 fun a427 => grd ((decide (0 ≤ i1)) && (decide (i1 < ((n409 : Nat) : Int)))) (.act (stC (aadd a427 ((Int.toNat i1) * 4)) [(.int .i64 i415), (.string s418), (.int .i64 i421), (.slice p424 n425 n426)]) fun v428 => asTuple v428 fun l429 => asNil l429 (.act (ldN 4 a44) fun v430 => asAgg v430 fun l431 => asCons l431 fun v432 l433 => asInt .i64 v432 fun i434 => asCons l433 fun v435 l436 => asStr v435 fun s437 => asCons l436 fun v438 l439 => asInt .i64 v438 fun i440 => asCons l439 fun v441 l442 => asSlice v441 fun p443 n444 n445 => asNil l442 (.act (stC a5 [(.int .i64 i434), (.string s437), (.int .i64 i440), (.slice p443 n444 n445)]) fun v446 => asTuple v446 fun l447 => asNil l447 (.act (ldN 4 a5) fun v448 => .ret .ret [(.tuple #[v448, (.pointer p405)])]))))))) (.fail)

/-- (*hindsight/infer.finder).pattern -/
noncomputable def T113 (p0 : (Option Addr)) (i1 : Int) (p2 : (Option Addr)) : Pg :=
  .act (newC [(.int .i64 0), (.string (bs [])), (.int .i64 0), (.slice none 0 0)]) fun v3 => asPtr v3 fun p4 => asSome p4 fun a5 => asSome p0 fun a6 => .act (ld1 (aadd (aadd a6 0) 0)) fun v7 => asSlice v7 fun p8 n9 n10 => asSome p8 fun a11 => grd ((decide (0 ≤ i1)) && (decide (i1 < ((n9 : Nat) : Int)))) (.act (ldN 7 (aadd a11 ((Int.toNat i1) * 7))) fun v12 => asAgg v12 fun l13 => asCons l13 fun v14 l15 => asInt .i64 v14 fun i16 => asCons l15 fun v17 l18 => asInt .i64 v17 fun i19 => asCons l18 fun v20 l21 => asStr v20 fun s22 => asCons l21 fun v23 l24 => asStr v23 fun s25 => asCons l24 fun v26 l27 => asSlice v26 fun p28 n29 n30 => asCons l27 fun v31 l32 => asInt .i64 v31 fun i33 => asCons l32 fun v34 l35 => asInt .i64 v34 fun i36 => asNil l35 (.act (newC [(.int .i64 0), (.int .i64 0), (.string (bs [])), (.string (bs [])), (.slice none 0 0), (.int .i64 0), (.int .i64 0)]) fun v37 => asPtr v37 fun p38 => asSome p38 fun a39 => .act (stC a39 [(.int .i64 i16), (.int .i64 i19), (.string s22), (.string s25), (.slice p28 n29 n30), (.int .i64 i33), (.int .i64 i36)]) fun v40 => asTuple v40 fun l41 => asNil l41 (.act (newC [(.int .i64 0), (.string (bs [])), (.int .i64 0), (.slice none 0 0)]) fun v42 => asPtr v42 fun p43 => asSome p43 fun a44 => .act (ld1 (aadd a39 0)) fun v45 => asInt .i64 v45 fun i46 => .join (.join (bif (i46 == 21) then (asSome p0 fun a47 => .act (ld1 (aadd a47 2)) fun v48 => asPtr v48 fun p49 => .call 72 [(.pointer p49)] fun v50 => asAgg v50 fun l51 => asCons l51 fun v52 l53 => asInt .i64 v52 fun i54 => asCons l53 fun v55 l56 => asStr v55 fun s57 => asCons l56 fun v58 l59 => asInt .i64 v58 fun i60 => asCons l59 fun v61 l62 => asSlice v61 fun p63 n64 n65 => asNil l62 (.act (stC a44 [(.int .i64 i54), (.string s57), (.int .i64 i60), (.slice p63 n64 n65)]) fun v66 => asTuple v66 fun l67 => asNil l67 (.ret .normal [(.pointer p2)]))) else (.join (bif (i46 == 22) then (asSome p0 fun a68 => .act (ld1 (aadd a68 2)) fun v69 => asPtr v69 fun p70 => .call 72 [(.pointer p70)] fun v71 => asAgg v71 fun l72 => asCons l72 fun v73 l74 => asInt .i64 v73 fun i75 => asCons l74 fun v76 l77 => asStr v76 fun s78 => asCons l77 fun v79 l80 => asInt .i64 v79 fun i81 => asCons l80 fun v82 l83 => asSlice v82 fun p84 n85 n86 => asNil l83 (.act (stC a44 [(.int .i64 i75), (.string s78), (.int .i64 i81), (.slice p84 n85 n86)]) fun v87 => asTuple v87 fun l88 => asNil l88 (asSome p0 fun a89 => .act (ld1 (aadd (aadd a89 3) 1)) fun v90 => asSlice v90 fun p91 n92 n93 => .act (ldN 4 a44) fun v94 => asAgg v94 fun l95 => asCons l95 fun v96 l97 => asInt .i64 v96 fun i98 => asCons l97 fun v99 l100 => asStr v99 fun s101 => asCons l100 fun v102 l103 => asInt .i64 v102 fun i104 => asCons l103 fun v105 l106 => asSlice v105 fun p107 n108 n109 => asNil l106 (asSome p91 fun a110 => grd ((decide (0 ≤ i1)) && (decide (i1 < ((n92 : Nat) : Int)))) (.act (stC (aadd a110 ((Int.toNat i1) * 4)) [(.int .i64 i98), (.string s101), (.int .i64 i104), (.slice p107 n108 n109)]) fun v111 => asTuple v111 fun l112 => asNil l112 (.act (ld1 (aadd a39 2)) fun v113 => asStr v113 fun s114 => .act (ldN 4 a44) fun v115 => asAgg v115 fun l116 => asCons l116 fun v117 l118 => asInt .i64 v117 fun i119 => asCons l118 fun v120 l121 => asStr v120 fun s122 => asCons l121 fun v123 l124 => asInt .i64 v123 fun i125 => asCons l124 fun v126 l127 => asSlice v126 fun p128 n129 n130 => asNil l127 (.call 73 [(.pointer p2), (.string s114), (.agg #[(.int .i64 i119), (.string s122), (.int .i64 i125), (.slice p128 n129 n130)])] fun v131 => asPtr v131 fun p132 => .ret .normal [(.pointer p132)]))))))) else (.join (bif (i46 == 23) then (.call 40 [(.int .i64 1), (.slice none 0 0)] fun v133 => asAgg v133 fun l134 => asCons l134 fun v135 l136 => asInt .i64 v135 fun i137 => asCons l136 fun v138 l139 => asStr v138 fun s140 => asCons l139 fun v141 l142 => asInt .i64 v141 fun i143 => asCons l142 fun v144 l145 => asSlice v144 fun p146 n147 n148 => asNil l145 (.act (stC a44 [(.int .i64 i137), (.string s140), (.int .i64 i143), (.slice p146 n147 n148)]) fun v149 => asTuple v149 fun l150 => asNil l150 (.ret .normal [(.pointer p2)]))) else (.join (bif (i46 == 24) then (.call 40 [(.int .i64 2), (.slice none 0 0)] fun v151 => asAgg v151 fun l152 => asCons l152 fun v153 l154 => asInt .i64 v153 fun i155 => asCons l154 fun v156 l157 => asStr v156 fun s158 => asCons l157 fun v159 l160 => asInt .i64 v159 fun i161 => asCons l160 fun v162 l163 => asSlice v162 fun p164 n165 n166 => asNil l163 (.act (stC a44 [(.int .i64 i155), (.string s158), (.int .i64 i161), (.slice p164 n165 n166)]) fun v167 => asTuple v167 fun l168 => asNil l168 (.ret .normal [(.pointer p2)]))) else (.join (bif (i46 == 25) then (.call 40 [(.int .i64 3), (.slice none 0 0)] fun v169 => asAgg v169 fun l170 => asCons l170 fun v171 l172 => asInt .i64 v171 fun i173 => asCons l172 fun v174 l175 => asStr v174 fun s176 => asCons l175 fun v177 l178 => asInt .i64 v177 fun i179 => asCons l178 fun v180 l181 => asSlice v180 fun p182 n183 n184 => asNil l181 (.act (stC a44 [(.int .i64 i173), (.string s176), (.int .i64 i179), (.slice p182 n183 n184)]) fun v185 => asTuple v185 fun l186 => asNil l186 (.ret .normal [(.pointer p2)]))) else (.act (ldN 7 a39) fun v187 => asAgg v187 fun l188 => asCons l188 fun v189 l190 => asInt .i64 v189 fun i191 => asCons l190 fun v192 l193 => asInt .i64 v192 fun i194 => asCons l193 fun v195 l196 => asStr v195 fun s197 => asCons l196 fun v198 l199 => asStr v198 fun s200 => asCons l199 fun v201 l202 => asSlice v201 fun p203 n204 n205 => asCons l202 fun v206 l207 => asInt .i64 v206 fun i208 => asCons l207 fun v209 l210 => asInt .i64 v209 fun i211 => asNil l210 (.call 84 [(.pointer p0), (.agg #[(.int .i64 i191), (.int .i64 i194), (.string s197), (.string s200), (.slice p203 n204 n205), (.int .i64 i208), (.int .i64 i211)])] fun v212 => asSlice v212 fun p213 n214 n215 => .loop [(.int .i64 0), (.pointer p2)] (T113b0 n214 p213 a39 p0) (T113k1 a39 p0 a44)))) (T113k2))) (T113k3))) (T113k4))) (T113k5))) (T113k6)) (T113k7 p0 a44 i1 a5))))
theorem T113_eq (p0 : (Option Addr)) (i1 : Int) (p2 : (Option Addr)) : progOf PROG false 113 [(.pointer p0), (.int .i64 i1), (.pointer p2)] = T113 p0 i1 p2 := by kernel_rfl


noncomputable def T114k0 (i112 : Int) : Ex → List Value → Pg :=
  fun e183 l184 => sw e183 .normal (asNil l184 (.ret .normal [(.int .i64 (wi64 (i112 + 1)))])) (.fail)

noncomputable def T114b0 (n107 : Nat) (p106 : (Option Addr)) (a100 : Addr) (m6 : (Option Nat)) : List Value → Pg :=
  fun l109 => asCons l109 fun v110 l111 => asInt .i64 v110 fun i112 => asNil l111 (bif (decide (i112 < ((n107 : Nat) : Int))) then (.join (asSome p106 fun a113 => grd ((decide (0 ≤ i112)) && (decide (i112 < ((n107 : Nat) : Int)))) (.act (ldN 4 (aadd a113 ((Int.toNat i112) * 4))) fun v114 => asAgg v114 fun l115 => asCons l115 fun v116 l117 => asInt .i64 v116 fun i118 => asCons l117 fun v119 l120 => asStr v119 fun s121 => asCons l120 fun v122 l123 => asInt .i64 v122 fun i124 => asCons l123 fun v125 l126 => asSlice v125 fun p127 n128 n129 => asNil l126 (.act (newC [(.int .i64 0), (.string (bs [])), (.int .i64 0), (.slice none 0 0)]) fun v130 => asPtr v130 fun p131 => asSome p131 fun a132 => .act (stC a132 [(.int .i64 i118), (.string s121), (.int .i64 i124), (.slice p127 n128 n129)]) fun v133 => asTuple v133 fun l134 => asNil l134 (.act (ld1 (aadd a100 3)) fun v135 => asSlice v135 fun p136 n137 n138 => .act (ldN 4 a132) fun v139 => asAgg v139 fun l140 => asCons l140 fun v141 l142 => asInt .i64 v141 fun i143 => asCons l142 fun v144 l145 => asStr v144 fun s146 => asCons l145 fun v147 l148 => asInt .i64 v147 fun i149 => asCons l148 fun v150 l151 => asSlice v150 fun p152 n153 n154 => asNil l151 (.call 114 [(.agg #[(.int .i64 i143), (.string s146), (.int .i64 i149), (.slice p152 n153 n154)]), (.map m6)] fun v155 => asAgg v155 fun l156 => asCons l156 fun v157 l158 => asInt .i64 v157 fun i159 => asCons l158 fun v160 l161 => asStr v160 fun s162 => asCons l161 fun v163 l164 => asInt .i64 v163 fun i165 => asCons l164 fun v166 l167 => asSlice v166 fun p168 n169 n170 => asNil l167 (.get fun h182 => grd (chks [((ld1 (aadd a100 3)), v135)] h182) (.act (bdSl 4 1 [(.int .i64 i159), (.string s162), (.int .i64 i165), (.slice p168 n169 n170)]) fun v171 => asSlice v171 fun p172 n173 n174 => .get fun h181 => grd (chks [((ld1 (aadd a100 3)), v135)] h181) (.act (apS 4 56 p136 n137 n138 p172 n173 n174) fun v175 => asSlice v175 fun p176 n177 n178 => .act (stC (aadd a100 3) [(.slice p176 n177 n178)]) fun v179 => asTuple v179 fun l180 => asNil l180 (.ret .normal []))))))))) (T114k0 i112)) else (.ret (.exit 0) [(.int .i64 i112)]))

noncomputable def T114k1 (a100 : Addr) (a12 : Addr) : Ex → List Value → Pg :=
  fun e185 l186 => sw e185 (.exit 0) (asCons l186 fun v187 l188 => asInt .i64 v187 fun i189 => asNil l188 (.act (ldN 4 a100) fun v190 => asAgg v190 fun l191 => asCons l191 fun v192 l193 => asInt .i64 v192 fun i194 => asCons l193 fun v195 l196 => asStr v195 fun s197 => asCons l196 fun v198 l199 => asInt .i64 v198 fun i200 => asCons l199 fun v201 l202 => asSlice v201 fun p203 n204 n205 => asNil l202 (.act (stC a12 [(.int .i64 i194), (.string s197), (.int .i64 i200), (.slice p203 n204 n205)]) fun v206 => asTuple v206 fun l207 => asNil l207 (.act (ldN 4 a12) fun v208 => .ret .ret [v208])))) (.fail)

/-- hindsight/scheme.renewed -/
noncomputable def T114 (i0 : Int) (s1 : ByteArray) (i2 : Int) (p3 : (Option Addr)) (n4 : Nat) (n5 : Nat) (m6 : (Option Nat)) : Pg :=
  .act (newC [(.int .i64 i0), (.string s1), (.int .i64 i2), (.slice p3 n4 n5)]) fun v7 => asPtr v7 fun p8 => asSome p8 fun a9 => .act (newC [(.int .i64 0), (.string (bs [])), (.int .i64 0), (.slice none 0 0)]) fun v10 => asPtr v10 fun p11 => asSome p11 fun a12 => .act (ld1 (aadd a9 0)) fun v13 => asInt .i64 v13 fun i14 => bif (i14 == 7) then (.act (ld1 (aadd a9 2)) fun v15 => asInt .i64 v15 fun i16 => .act (lkp (.int .i64) (.agg #[(.int .i64 0), (.string (bs [])), (.int .i64 0), (.slice none 0 0)]) m6 (.int .i64 i16) true) fun v17 => asTuple v17 fun l18 => asCons l18 fun v19 l20 => asAgg v19 fun l21 => asCons l21 fun v22 l23 => asInt .i64 v22 fun i24 => asCons l23 fun v25 l26 => asStr v25 fun s27 => asCons l26 fun v28 l29 => asInt .i64 v28 fun i30 => asCons l29 fun v31 l32 => asSlice v31 fun p33 n34 n35 => asNil l32 (asCons l20 fun v36 l37 => asBool v36 fun b38 => asNil l37 (.act (newC [(.int .i64 0), (.string (bs [])), (.int .i64 0), (.slice none 0 0)]) fun v39 => asPtr v39 fun p40 => asSome p40 fun a41 => .act (stC a41 [(.int .i64 i24), (.string s27), (.int .i64 i30), (.slice p33 n34 n35)]) fun v42 => asTuple v42 fun l43 => asNil l43 (bif b38 then (.act (ldN 4 a41) fun v44 => asAgg v44 fun l45 => asCons l45 fun v46 l47 => asInt .i64 v46 fun i48 => asCons l47 fun v49 l50 => asStr v49 fun s51 => asCons l50 fun v52 l53 => asInt .i64 v52 fun i54 => asCons l53 fun v55 l56 => asSlice v55 fun p57 n58 n59 => asNil l56 (.act (stC a12 [(.int .i64 i48), (.string s51), (.int .i64 i54), (.slice p57 n58 n59)]) fun v60 => asTuple v60 fun l61 => asNil l61 (.act (ldN 4 a12) fun v62 => .ret .ret [v62]))) else (.act (ldN 4 a9) fun v63 => asAgg v63 fun l64 => asCons l64 fun v65 l66 => asInt .i64 v65 fun i67 => asCons l66 fun v68 l69 => asStr v68 fun s70 => asCons l69 fun v71 l72 => asInt .i64 v71 fun i73 => asCons l72 fun v74 l75 => asSlice v74 fun p76 n77 n78 => asNil l75 (.act (stC a12 [(.int .i64 i67), (.string s70), (.int .i64 i73), (.slice p76 n77 n78)]) fun v79 => asTuple v79 fun l80 => asNil l80 (.act (ldN 4 a12) fun v81 => .ret .ret [v81]))))))) else (.act (ldN 4 a9) fun v82 => asAgg v82 fun l83 => asCons l83 fun v84 l85 => asInt .i64 v84 fun i86 => asCons l85 fun v87 l88 => asStr v87 fun s89 => asCons l88 fun v90 l91 => asInt .i64 v90 fun i92 => asCons l91 fun v93 l94 => asSlice v93 fun p95 n96 n97 => asNil l94 (.act (newC [(.int .i64 0), (.string (bs [])), (.int .i64 0), (.slice none 0 0)]) fun v98 => asPtr v98 fun p99 => asSome p99 fun a100 => .act (stC a100 [(.int .i64 i86), (.string s89), (.int .i64 i92), (.slice p95 n96 n97)]) fun v101 => asTuple v101 fun l102 => asNil l102 (.act (stC (aadd a100 3) [(.slice none 0 0)]) fun v103 => asTuple v103 fun l104 => asNil l104 (.act (ld1 (aadd a9 3)) fun v105 => asSlice v105 fun p106 n107 n108 => .loop [(.int .i64 0)] (T114b0 n107 p106 a100 m6) (T114k1 a100 a12)))))
theorem T114_eq (i0 : Int) (s1 : ByteArray) (i2 : Int) (p3 : (Option Addr)) (n4 : Nat) (n5 : Nat) (m6 : (Option Nat)) : progOf PROG false 114 [(.agg #[(.int .i64 i0), (.string s1), (.int .i64 i2), (.slice p3 n4 n5)]), (.map m6)] = T114 i0 s1 i2 p3 n4 n5 m6 := by kernel_rfl


noncomputable def T115k0 (a3 : Addr) (s0 : ByteArray) : Ex → List Value → Pg :=
  fun e58 l59 => sw e58 .ret (asNil l59 (.act (ldN 4 a3) fun v60 => .ret .ret [v60])) (sw e58 .normal (asNil l59 (.act (stC a3 [(.int .i64 4), (.string s0), (.int .i64 0), (.slice none 0 0)]) fun v61 => asTuple v61 fun l62 => asNil l62 (.act (ldN 4 a3) fun v63 => .ret .ret [v63]))) (.fail))

/-- hindsight/ty.Named -/
noncomputable def T115 (s0 : ByteArray) : Pg :=
  .act (newC [(.int .i64 0), (.string (bs [])), (.int .i64 0), (.slice none 0 0)]) fun v1 => asPtr v1 fun p2 => asSome p2 fun a3 => .join (bif (s0.toList == (bs [105, 110, 116]).toList) then (.call 40 [(.int .i64 1), (.slice none 0 0)] fun v4 => asAgg v4 fun l5 => asCons l5 fun v6 l7 => asInt .i64 v6 fun i8 => asCons l7 fun v9 l10 => asStr v9 fun s11 => asCons l10 fun v12 l13 => asInt .i64 v12 fun i14 => asCons l13 fun v15 l16 => asSlice v15 fun p17 n18 n19 => asNil l16 (.act (stC a3 [(.int .i64 i8), (.string s11), (.int .i64 i14), (.slice p17 n18 n19)]) fun v20 => asTuple v20 fun l21 => asNil l21 (.ret .ret []))) else (bif (s0.toList == (bs [98, 111, 111, 108]).toList) then (.call 40 [(.int .i64 2), (.slice none 0 0)] fun v22 => asAgg v22 fun l23 => asCons l23 fun v24 l25 => asInt .i64 v24 fun i26 => asCons l25 fun v27 l28 => asStr v27 fun s29 => asCons l28 fun v30 l31 => asInt .i64 v30 fun i32 => asCons l31 fun v33 l34 => asSlice v33 fun p35 n36 n37 => asNil l34 (.act (stC a3 [(.int .i64 i26), (.string s29), (.int .i64 i32), (.slice p35 n36 n37)]) fun v38 => asTuple v38 fun l39 => asNil l39 (.ret .ret []))) else (bif (s0.toList == (bs [117, 110, 105, 116]).toList) then (.call 40 [(.int .i64 3), (.slice none 0 0)] fun v40 => asAgg v40 fun l41 => asCons l41 fun v42 l43 => asInt .i64 v42 fun i44 => asCons l43 fun v45 l46 => asStr v45 fun s47 => asCons l46 fun v48 l49 => asInt .i64 v48 fun i50 => asCons l49 fun v51 l52 => asSlice v51 fun p53 n54 n55 => asNil l52 (.act (stC a3 [(.int .i64 i44), (.string s47), (.int .i64 i50), (.slice p53 n54 n55)]) fun v56 => asTuple v56 fun l57 => asNil l57 (.ret .ret []))) else (.ret .normal [])))) (T115k0 a3 s0)
theorem T115_eq (s0 : ByteArray) : progOf PROG false 115 [(.string s0)] = T115 s0 := by kernel_rfl


noncomputable def T116k0 (i17 : Int) : Ex → List Value → Pg :=
  fun e61 l62 => sw e61 (.exit 0) (asCons l62 fun v63 l64 => asInt .i64 v63 fun i65 => asNil l64 (.ret (.exit 0) [(.int .i64 i17), (.int .i64 i65)])) (sw e61 .normal (asCons l62 fun v66 l67 => asInt .i64 v66 fun i68 => asNil l67 (.ret .normal [(.int .i64 (wi64 (i17 + 1))), (.int .i64 i68)])) (.fail))

noncomputable def T116b0 (n12 : Nat) (p11 : (Option Addr)) : List Value → Pg :=
  fun l14 => asCons l14 fun v15 l16 => asInt .i64 v15 fun i17 => asCons l16 fun v18 l19 => asInt .i64 v18 fun i20 => asNil l19 (bif (decide (i17 < ((n12 : Nat) : Int))) then (.join (asSome p11 fun a21 => grd ((decide (0 ≤ i17)) && (decide (i17 < ((n12 : Nat) : Int)))) (.act (ldN 4 (aadd a21 ((Int.toNat i17) * 4))) fun v22 => asAgg v22 fun l23 => asCons l23 fun v24 l25 => asInt .i64 v24 fun i26 => asCons l25 fun v27 l28 => asStr v27 fun s29 => asCons l28 fun v30 l31 => asInt .i64 v30 fun i32 => asCons l31 fun v33 l34 => asSlice v33 fun p35 n36 n37 => asNil l34 (.act (newC [(.int .i64 0), (.string (bs [])), (.int .i64 0), (.slice none 0 0)]) fun v38 => asPtr v38 fun p39 => asSome p39 fun a40 => .act (stC a40 [(.int .i64 i26), (.string s29), (.int .i64 i32), (.slice p35 n36 n37)]) fun v41 => asTuple v41 fun l42 => asNil l42 (bif (decide (i20 > 500)) then (.ret (.exit 0) [(.int .i64 i20)]) else (.act (ldN 4 a40) fun v43 => asAgg v43 fun l44 => asCons l44 fun v45 l46 => asInt .i64 v45 fun i47 => asCons l46 fun v48 l49 => asStr v48 fun s50 => asCons l49 fun v51 l52 => asInt .i64 v51 fun i53 => asCons l52 fun v54 l55 => asSlice v54 fun p56 n57 n58 => asNil l55 (.call 116 [(.agg #[(.int .i64 i47), (.string s50), (.int .i64 i53), (.slice p56 n57 n58)]), (.int .i64 i20)] fun v59 => asInt .i64 v59 fun i60 => .ret .normal [(.int .i64 i60)])))))) (T116k0 i17)) else (.ret (.exit 0) [(.int .i64 i17), (.int .i64 i20)]))

noncomputable def T116k1 : Ex → List Value → Pg :=
  fun e69 l70 => sw e69 (.exit 0) (asCons l70 fun v71 l72 => asInt .i64 v71 fun i73 => asCons l72 fun v74 l75 => asInt .i64 v74 fun i76 => asNil l75 (.ret .ret [(.int .i64 (minV i76 501))])) (.fail)

/-- hindsight/ty.measure -/
noncomputable def T116 (i0 : Int) (s1 : ByteArray) (i2 : Int) (p3 : (Option Addr)) (n4 : Nat) (n5 : Nat) (i6 : Int) : Pg :=
  .act (newC [(.int .i64 i0), (.string s1), (.int .i64 i2), (.slice p3 n4 n5)]) fun v7 => asPtr v7 fun p8 => asSome p8 fun a9 => .act (ld1 (aadd a9 3)) fun v10 => asSlice v10 fun p11 n12 n13 => .loop [(.int .i64 0), (.int .i64 (wi64 (i6 + 1)))] (T116b0 n12 p11) (T116k1)
theorem T116_eq (i0 : Int) (s1 : ByteArray) (i2 : Int) (p3 : (Option Addr)) (n4 : Nat) (n5 : Nat) (i6 : Int) : progOf PROG false 116 [(.agg #[(.int .i64 i0), (.string s1), (.int .i64 i2), (.slice p3 n4 n5)]), (.int .i64 i6)] = T116 i0 s1 i2 p3 n4 n5 i6 := by kernel_rfl


noncomputable def T117k0 : Ex → List Value → Pg :=
  fun e1 l2 => sw e1 .ret (asCons l2 fun v3 l4 => asInt .i64 v3 fun i5 => asNil l4 (.ret .ret [(.int .i64 i5)])) (sw e1 .normal (asCons l2 fun v6 l7 => asInt .i64 v6 fun i8 => asNil l7 (.ret .ret [(.int .i64 0)])) (.fail))

/-- hindsight/ty.args -/
noncomputable def T117 (i0 : Int) : Pg :=
  .join (bif (i0 == 5) then (.ret .ret [(.int .i64 2)]) else (bif (i0 == 6) then (.ret .ret [(.int .i64 1)]) else (.ret .normal [(.int .i64 0)]))) (T117k0)
theorem T117_eq (i0 : Int) : progOf PROG false 117 [(.int .i64 i0)] = T117 i0 := by kernel_rfl


noncomputable def T118k0 (a32 : Addr) (a4 : Addr) (i36 : Int) : Ex → List Value → Pg :=
  fun e37 l38 => sw e37 .normal (asCons l38 fun v39 l40 => asBool v39 fun b41 => asNil l40 (bif b41 then (.act (ld1 (aadd a32 0)) fun v42 => asInt .i64 v42 fun i43 => .act (ld1 (aadd a32 1)) fun v44 => asInt .i64 v44 fun i45 => .act (stC a4 [(.int .i64 i43), (.int .i64 i45), (.string (bs []))]) fun v46 => asTuple v46 fun l47 => asNil l47 (.ret .ret [])) else (bif (i36 == 25) then (.act (ld1 (aadd a32 0)) fun v48 => asInt .i64 v48 fun i49 => .act (stC a4 [(.int .i64 i49), (.int .i64 0), (.string (bs []))]) fun v50 => asTuple v50 fun l51 => asNil l51 (.ret .ret [])) else (bif (i36 == 26) then (.act (ld1 (aadd a32 0)) fun v52 => asInt .i64 v52 fun i53 => .act (ld1 (aadd a32 2)) fun v54 => asStr v54 fun s55 => .act (stC a4 [(.int .i64 i53), (.int .i64 0), (.string s55)]) fun v56 => asTuple v56 fun l57 => asNil l57 (.ret .ret [])) else (.ret .normal []))))) (.fail)

noncomputable def T118k1 (a4 : Addr) : Ex → List Value → Pg :=
  fun e58 l59 => sw e58 .ret (asNil l59 (.act (ldN 3 a4) fun v60 => .ret .ret [v60])) (sw e58 .normal (asNil l59 (.act (stC a4 [(.int .i64 0), (.int .i64 0), (.string (bs []))]) fun v61 => asTuple v61 fun l62 => asNil l62 (.act (ldN 3 a4) fun v63 => .ret .ret [v63]))) (.fail))

/-- (*hindsight/cover.asker).shape -/
noncomputable def T118 (p0 : (Option Addr)) (i1 : Int) : Pg :=
  .act (newC [(.int .i64 0), (.int .i64 0), (.string (bs []))]) fun v2 => asPtr v2 fun p3 => asSome p3 fun a4 => .call 138 [(.pointer p0), (.int .i64 i1)] fun v5 => asAgg v5 fun l6 => asCons l6 fun v7 l8 => asInt .i64 v7 fun i9 => asCons l8 fun v10 l11 => asInt .i64 v10 fun i12 => asCons l11 fun v13 l14 => asStr v13 fun s15 => asCons l14 fun v16 l17 => asStr v16 fun s18 => asCons l17 fun v19 l20 => asSlice v19 fun p21 n22 n23 => asCons l20 fun v24 l25 => asInt .i64 v24 fun i26 => asCons l25 fun v27 l28 => asInt .i64 v27 fun i29 => asNil l28 (.act (newC [(.int .i64 0), (.int .i64 0), (.string (bs [])), (.string (bs [])), (.slice none 0 0), (.int .i64 0), (.int .i64 0)]) fun v30 => asPtr v30 fun p31 => asSome p31 fun a32 => .act (stC a32 [(.int .i64 i9), (.int .i64 i12), (.string s15), (.string s18), (.slice p21 n22 n23), (.int .i64 i26), (.int .i64 i29)]) fun v33 => asTuple v33 fun l34 => asNil l34 (.act (ld1 (aadd a32 0)) fun v35 => asInt .i64 v35 fun i36 => .join (.join (bif (i36 == 23) then (.ret .normal [(.bool (i36 == 23))]) else (.ret .normal [(.bool (i36 == 24))])) (T118k0 a32 a4 i36)) (T118k1 a4)))
theorem T118_eq (p0 : (Option Addr)) (i1 : Int) : progOf PROG false 118 [(.pointer p0), (.int .i64 i1)] = T118 p0 i1 := by kernel_rfl


noncomputable def T119k0 (p87 : (Option Addr)) (n88 : Nat) (n89 : Nat) : Ex → List Value → Pg :=
  fun e101 l102 => sw e101 .normal (asCons l102 fun v103 l104 => asInt .i64 v103 fun i105 => asNil l104 (.act (bdSl 1 1 [(.int .i64 i105)]) fun v106 => asSlice v106 fun p107 n108 n109 => .act (apS 1 8 p87 n88 n89 p107 n108 n109) fun v110 => asSlice v110 fun p111 n112 n113 => .ret .normal [(.slice p111 n112 n113)])) (.fail)

noncomputable def T119k1 (i84 : Int) : Ex → List Value → Pg :=
  fun e114 l115 => sw e114 .normal (asCons l115 fun v116 l117 => asSlice v116 fun p118 n119 n120 => asNil l117 (.ret .normal [(.int .i64 (wi64 (i84 + 1))), (.slice p118 n119 n120)])) (.fail)

noncomputable def T119b0 (i55 : Int) (a40 : Addr) : List Value → Pg :=
  fun l81 => asCons l81 fun v82 l83 => asInt .i64 v82 fun i84 => asCons l83 fun v85 l86 => asSlice v85 fun p87 n88 n89 => asNil l86 (bif (decide (i84 < i55)) then (.join (.act (ld1 (aadd a40 4)) fun v90 => asSlice v90 fun p91 n92 n93 => .join (bif (decide (i84 < ((n92 : Nat) : Int))) then (.act (ld1 (aadd a40 4)) fun v94 => asSlice v94 fun p95 n96 n97 => asSome p95 fun a98 => grd ((decide (0 ≤ i84)) && (decide (i84 < ((n96 : Nat) : Int)))) (.act (ld1 (aadd a98 ((Int.toNat i84) * 1))) fun v99 => asInt .i64 v99 fun i100 => .ret .normal [(.int .i64 i100)])) else (.ret .normal [(.int .i64 (-1))])) (T119k0 p87 n88 n89)) (T119k1 i84)) else (.ret (.exit 1) [(.int .i64 i84), (.slice p87 n88 n89)]))

noncomputable def T119k2 : Ex → List Value → Pg :=
  fun e121 l122 => sw e121 (.exit 1) (asCons l122 fun v123 l124 => asInt .i64 v123 fun i125 => asCons l124 fun v126 l127 => asSlice v126 fun p128 n129 n130 => asNil l127 (.ret .normal [(.bool false), (.slice none 0 0), (.slice p128 n129 n130)])) (.fail)

noncomputable def T119k3 (i134 : Int) : Ex → List Value → Pg :=
  fun e148 l149 => sw e148 .normal (asCons l149 fun v150 l151 => asSlice v150 fun p152 n153 n154 => asNil l151 (.ret .normal [(.int .i64 (wi64 (i134 + 1))), (.slice p152 n153 n154)])) (.fail)

noncomputable def T119b1 (i55 : Int) : List Value → Pg :=
  fun l131 => asCons l131 fun v132 l133 => asInt .i64 v132 fun i134 => asCons l133 fun v135 l136 => asSlice v135 fun p137 n138 n139 => asNil l136 (bif (decide (i134 < i55)) then (.join (.act (bdSl 1 1 [(.int .i64 (-1))]) fun v140 => asSlice v140 fun p141 n142 n143 => .act (apS 1 8 p137 n138 n139 p141 n142 n143) fun v144 => asSlice v144 fun p145 n146 n147 => .ret .normal [(.slice p145 n146 n147)]) (T119k3 i134)) else (.ret (.exit 3) [(.int .i64 i134), (.slice p137 n138 n139)]))

noncomputable def T119k4 : Ex → List Value → Pg :=
  fun e155 l156 => sw e155 (.exit 3) (asCons l156 fun v157 l158 => asInt .i64 v157 fun i159 => asCons l158 fun v160 l161 => asSlice v160 fun p162 n163 n164 => asNil l161 (.ret .normal [(.bool false), (.slice none 0 0), (.slice p162 n163 n164)])) (.fail)

noncomputable def T119k5 : Ex → List Value → Pg :=
  fun e165 l166 => sw e165 .normal (asCons l166 fun v167 l168 => asBool v167 fun b169 => asCons l168 fun v170 l171 => asSlice v170 fun p172 n173 n174 => asCons l171 fun v175 l176 => asSlice v175 fun p177 n178 n179 => asNil l176 (.ret .normal [(.bool b169), (.slice p172 n173 n174), (.slice p177 n178 n179)])) (sw e165 .ret (asCons l166 fun v180 l181 => asBool v180 fun b182 => asCons l181 fun v183 l184 => asSlice v183 fun p185 n186 n187 => asCons l184 fun v188 l189 => asSlice v188 fun p190 n191 n192 => asNil l189 (.ret .ret [(.bool b182), (.slice p185 n186 n187), (.slice p190 n191 n192)])) (.fail))

noncomputable def T119k6 (n2 : Nat) (n3 : Nat) (p1 : (Option Addr)) : Ex → List Value → Pg :=
  fun e193 l194 => sw e193 .normal (asCons l194 fun v195 l196 => asBool v195 fun b197 => asCons l196 fun v198 l199 => asSlice v198 fun p200 n201 n202 => asCons l199 fun v203 l204 => asSlice v203 fun p205 n206 n207 => asNil l204 (grd ((((decide (1 ≤ ((n2 : Nat) : Int))) && (decide (((n2 : Nat) : Int) ≤ ((n3 : Nat) : Int)))) && (decide (((n3 : Nat) : Int) ≤ ((n3 : Nat) : Int)))) && ((mayCut p1 1) || false)) (.act (apS 1 8 p205 n206 n207 (cutS p1 1) (n2 - 1) (n3 - 1)) fun v208 => asSlice v208 fun p209 n210 n211 => .ret .ret [(.tuple #[(.slice p209 n210 n211), (.bool true)])]))) (sw e193 .ret (asCons l194 fun v212 l213 => asBool v212 fun b214 => asCons l213 fun v215 l216 => asSlice v215 fun p217 n218 n219 => asCons l216 fun v220 l221 => asSlice v220 fun p222 n223 n224 => asNil l221 (.ret .ret [(.tuple #[(.slice p217 n218 n219), (.bool b214)])])) (.fail))

/-- (*hindsight/cover.asker).special -/
noncomputable def T119 (p0 : (Option Addr)) (p1 : (Option Addr)) (n2 : Nat) (n3 : Nat) (i4 : Int) (i5 : Int) (s6 : ByteArray) : Pg :=
  .act (newC [(.int .i64 i4), (.int .i64 i5), (.string s6)]) fun v7 => asPtr v7 fun p8 => asSome p8 fun a9 => asSome p1 fun a10 => grd (decide (0 < ((n2 : Nat) : Int))) (.act (ld1 (aadd a10 0)) fun v11 => asInt .i64 v11 fun i12 => .call 138 [(.pointer p0), (.int .i64 i12)] fun v13 => asAgg v13 fun l14 => asCons l14 fun v15 l16 => asInt .i64 v15 fun i17 => asCons l16 fun v18 l19 => asInt .i64 v18 fun i20 => asCons l19 fun v21 l22 => asStr v21 fun s23 => asCons l22 fun v24 l25 => asStr v24 fun s26 => asCons l25 fun v27 l28 => asSlice v27 fun p29 n30 n31 => asCons l28 fun v32 l33 => asInt .i64 v32 fun i34 => asCons l33 fun v35 l36 => asInt .i64 v35 fun i37 => asNil l36 (.act (newC [(.int .i64 0), (.int .i64 0), (.string (bs [])), (.string (bs [])), (.slice none 0 0), (.int .i64 0), (.int .i64 0)]) fun v38 => asPtr v38 fun p39 => asSome p39 fun a40 => .act (stC a40 [(.int .i64 i17), (.int .i64 i20), (.string s23), (.string s26), (.slice p29 n30 n31), (.int .i64 i34), (.int .i64 i37)]) fun v41 => asTuple v41 fun l42 => asNil l42 (.act (ldN 3 a9) fun v43 => asAgg v43 fun l44 => asCons l44 fun v45 l46 => asInt .i64 v45 fun i47 => asCons l46 fun v48 l49 => asInt .i64 v48 fun i50 => asCons l49 fun v51 l52 => asStr v51 fun s53 => asNil l52 (.call 139 [(.pointer p0), (.agg #[(.int .i64 i47), (.int .i64 i50), (.string s53)])] fun v54 => asInt .i64 v54 fun i55 => asSome p1 fun a56 => grd (decide (0 < ((n2 : Nat) : Int))) (.act (ld1 (aadd a56 0)) fun v57 => asInt .i64 v57 fun i58 => .call 118 [(.pointer p0), (.int .i64 i58)] fun v59 => asAgg v59 fun l60 => asCons l60 fun v61 l62 => asInt .i64 v61 fun i63 => asCons l62 fun v64 l65 => asInt .i64 v64 fun i66 => asCons l65 fun v67 l68 => asStr v67 fun s69 => asNil l68 (.join (.act (ldN 3 a9) fun v70 => asAgg v70 fun l71 => asCons l71 fun v72 l73 => asInt .i64 v72 fun i74 => asCons l73 fun v75 l76 => asInt .i64 v75 fun i77 => asCons l76 fun v78 l79 => asStr v78 fun s80 => asNil l79 (.join (bif ((i63 == i74) && ((i66 == i77) && ((s69.toList == s80.toList) && true))) then (.loop [(.int .i64 0), (.slice none 0 0)] (T119b0 i55 a40) (T119k2)) else (bif ((i63 == 0) && ((i66 == 0) && ((s69.toList == (bs []).toList) && true))) then (.loop [(.int .i64 0), (.slice none 0 0)] (T119b1 i55) (T119k4)) else (.ret .ret [(.bool false), (.slice none 0 0), (.slice none 0 0)]))) (T119k5))) (T119k6 n2 n3 p1)))))))
theorem T119_eq (p0 : (Option Addr)) (p1 : (Option Addr)) (n2 : Nat) (n3 : Nat) (i4 : Int) (i5 : Int) (s6 : ByteArray) : progOf PROG false 119 [(.pointer p0), (.slice p1 n2 n3), (.agg #[(.int .i64 i4), (.int .i64 i5), (.string s6)])] = T119 p0 p1 n2 n3 i4 i5 s6 := by kernel_rfl


noncomputable def T120k0 : Ex → List Value → Pg :=
  fun e53 l54 => sw e53 .normal (asCons l54 fun v55 l56 => asSlice v55 fun p57 n58 n59 => asNil l56 (.ret .normal [(.slice p57 n58 n59)])) (.fail)

noncomputable def T120k1 (i13 : Int) : Ex → List Value → Pg :=
  fun e60 l61 => sw e60 .normal (asCons l61 fun v62 l63 => asSlice v62 fun p64 n65 n66 => asNil l63 (.ret .normal [(.int .i64 (wi64 (i13 + 1))), (.slice p64 n65 n66)])) (.fail)

noncomputable def T120b0 (n2 : Nat) (p1 : (Option Addr)) (a9 : Addr) (p0 : (Option Addr)) : List Value → Pg :=
  fun l10 => asCons l10 fun v11 l12 => asInt .i64 v11 fun i13 => asCons l12 fun v14 l15 => asSlice v14 fun p16 n17 n18 => asNil l15 (bif (decide (i13 < ((n2 : Nat) : Int))) then (.join (asSome p1 fun a19 => grd ((decide (0 ≤ i13)) && (decide (i13 < ((n2 : Nat) : Int)))) (.act (ld1 (aadd a19 ((Int.toNat i13) * 1))) fun v20 => asSlice v20 fun p21 n22 n23 => .act (ldN 3 a9) fun v24 => asAgg v24 fun l25 => asCons l25 fun v26 l27 => asInt .i64 v26 fun i28 => asCons l27 fun v29 l30 => asInt .i64 v29 fun i31 => asCons l30 fun v32 l33 => asStr v32 fun s34 => asNil l33 (.call 119 [(.pointer p0), (.slice p21 n22 n23), (.agg #[(.int .i64 i28), (.int .i64 i31), (.string s34)])] fun v35 => asTuple v35 fun l36 => asCons l36 fun v37 l38 => asSlice v37 fun p39 n40 n41 => asCons l38 fun v42 l43 => asBool v42 fun b44 => asNil l43 (.join (bif b44 then (.act (bdSl 1 1 [(.slice p39 n40 n41)]) fun v45 => asSlice v45 fun p46 n47 n48 => .act (apS 1 24 p16 n17 n18 p46 n47 n48) fun v49 => asSlice v49 fun p50 n51 n52 => .ret .normal [(.slice p50 n51 n52)]) else (.ret .normal [(.slice p16 n17 n18)])) (T120k0))))) (T120k1 i13)) else (.ret (.exit 0) [(.int .i64 i13), (.slice p16 n17 n18)]))

noncomputable def T120k2 : Ex → List Value → Pg :=
  fun e67 l68 => sw e67 (.exit 0) (asCons l68 fun v69 l70 => asInt .i64 v69 fun i71 => asCons l70 fun v72 l73 => asSlice v72 fun p74 n75 n76 => asNil l73 (.ret .ret [(.slice p74 n75 n76)])) (.fail)

/-- (*hindsight/cover.asker).specials -/
noncomputable def T120 (p0 : (Option Addr)) (p1 : (Option Addr)) (n2 : Nat) (n3 : Nat) (i4 : Int) (i5 : Int) (s6 : ByteArray) : Pg :=
  .act (newC [(.int .i64 i4), (.int .i64 i5), (.string s6)]) fun v7 => asPtr v7 fun p8 => asSome p8 fun a9 => .loop [(.int .i64 0), (.slice none 0 0)] (T120b0 n2 p1 a9 p0) (T120k2)
theorem T120_eq (p0 : (Option Addr)) (p1 : (Option Addr)) (n2 : Nat) (n3 : Nat) (i4 : Int) (i5 : Int) (s6 : ByteArray) : progOf PROG false 120 [(.pointer p0), (.slice p1 n2 n3), (.agg #[(.int .i64 i4), (.int .i64 i5), (.string s6)])] = T120 p0 p1 n2 n3 i4 i5 s6 := by kernel_rfl


noncomputable def T121k0 : Ex → List Value → Pg :=
  fun e91 l92 => sw e91 .normal (asCons l92 fun v93 l94 => asSlice v93 fun p95 n96 n97 => asNil l94 (.ret .normal [(.slice p95 n96 n97)])) (.fail)

noncomputable def T121k1 (a36 : Addr) (m5 : (Option Nat)) (p12 : (Option Addr)) (n13 : Nat) (n14 : Nat) : Ex → List Value → Pg :=
  fun e54 l55 => sw e54 .normal (asCons l55 fun v56 l57 => asBool v56 fun b58 => asNil l57 (.join (bif b58 then (.act (ldN 3 a36) fun v59 => asAgg v59 fun l60 => asCons l60 fun v61 l62 => asInt .i64 v61 fun i63 => asCons l62 fun v64 l65 => asInt .i64 v64 fun i66 => asCons l65 fun v67 l68 => asStr v67 fun s69 => asNil l68 (.act (updateAct PROG 205 (.map m5) (.agg #[(.int .i64 i63), (.int .i64 i66), (.string s69)]) (.bool true)) fun v70 => asTuple v70 fun l71 => asNil l71 (.act (ldN 3 a36) fun v72 => asAgg v72 fun l73 => asCons l73 fun v74 l75 => asInt .i64 v74 fun i76 => asCons l75 fun v77 l78 => asInt .i64 v77 fun i79 => asCons l78 fun v80 l81 => asStr v80 fun s82 => asNil l81 (.act (bdSl 3 1 [(.int .i64 i76), (.int .i64 i79), (.string s82)]) fun v83 => asSlice v83 fun p84 n85 n86 => .act (apS 3 32 p12 n13 n14 p84 n85 n86) fun v87 => asSlice v87 fun p88 n89 n90 => .ret .normal [(.slice p88 n89 n90)])))) else (.ret .normal [(.slice p12 n13 n14)])) (T121k0))) (.fail)

noncomputable def T121k2 (i9 : Int) : Ex → List Value → Pg :=
  fun e98 l99 => sw e98 .normal (asCons l99 fun v100 l101 => asSlice v100 fun p102 n103 n104 => asNil l101 (.ret .normal [(.int .i64 (wi64 (i9 + 1))), (.slice p102 n103 n104)])) (.fail)

noncomputable def T121b0 (n2 : Nat) (p1 : (Option Addr)) (p0 : (Option Addr)) (m5 : (Option Nat)) : List Value → Pg :=
  fun l6 => asCons l6 fun v7 l8 => asInt .i64 v7 fun i9 => asCons l8 fun v10 l11 => asSlice v10 fun p12 n13 n14 => asNil l11 (bif (decide (i9 < ((n2 : Nat) : Int))) then (.join (asSome p1 fun a15 => grd ((decide (0 ≤ i9)) && (decide (i9 < ((n2 : Nat) : Int)))) (.act (ld1 (aadd a15 ((Int.toNat i9) * 1))) fun v16 => asSlice v16 fun p17 n18 n19 => asSome p17 fun a20 => grd (decide (0 < ((n18 : Nat) : Int))) (.act (ld1 (aadd a20 0)) fun v21 => asInt .i64 v21 fun i22 => .call 118 [(.pointer p0), (.int .i64 i22)] fun v23 => asAgg v23 fun l24 => asCons l24 fun v25 l26 => asInt .i64 v25 fun i27 => asCons l26 fun v28 l29 => asInt .i64 v28 fun i30 => asCons l29 fun v31 l32 => asStr v31 fun s33 => asNil l32 (.act (newC [(.int .i64 0), (.int .i64 0), (.string (bs []))]) fun v34 => asPtr v34 fun p35 => asSome p35 fun a36 => .act (stC a36 [(.int .i64 i27), (.int .i64 i30), (.string s33)]) fun v37 => asTuple v37 fun l38 => asNil l38 (.join (.act (ld1 (aadd a36 0)) fun v39 => asInt .i64 v39 fun i40 => bif (i40 != 0) == true then (.act (ldN 3 a36) fun v41 => asAgg v41 fun l42 => asCons l42 fun v43 l44 => asInt .i64 v43 fun i45 => asCons l44 fun v46 l47 => asInt .i64 v46 fun i48 => asCons l47 fun v49 l50 => asStr v49 fun s51 => asNil l50 (.act (lookupAct PROG 205 (.map m5) (.agg #[(.int .i64 i45), (.int .i64 i48), (.string s51)]) false) fun v52 => asBool v52 fun b53 => .ret .normal [(.bool (!b53))])) else (.ret .normal [(.bool false)])) (T121k1 a36 m5 p12 n13 n14)))))) (T121k2 i9)) else (.ret (.exit 0) [(.int .i64 i9), (.slice p12 n13 n14)]))

noncomputable def T121k3 : Ex → List Value → Pg :=
  fun e105 l106 => sw e105 (.exit 0) (asCons l106 fun v107 l108 => asInt .i64 v107 fun i109 => asCons l108 fun v110 l111 => asSlice v110 fun p112 n113 n114 => asNil l111 (.ret .ret [(.slice p112 n113 n114)])) (.fail)

/-- (*hindsight/cover.asker).shapes -/
noncomputable def T121 (p0 : (Option Addr)) (p1 : (Option Addr)) (n2 : Nat) (n3 : Nat) : Pg :=
  .act makeMapAct fun v4 => asMap v4 fun m5 => .loop [(.int .i64 0), (.slice none 0 0)] (T121b0 n2 p1 p0 m5) (T121k3)
theorem T121_eq (p0 : (Option Addr)) (p1 : (Option Addr)) (n2 : Nat) (n3 : Nat) : progOf PROG false 121 [(.pointer p0), (.slice p1 n2 n3)] = T121 p0 p1 n2 n3 := by kernel_rfl


noncomputable def T122k0 : Ex → List Value → Pg :=
  fun e44 l45 => sw e44 .normal (asCons l45 fun v46 l47 => asBool v46 fun b48 => asNil l47 (.ret .ret [(.bool b48)])) (.fail)

noncomputable def T122k1 : Ex → List Value → Pg :=
  fun e49 l50 => sw e49 .ret (asCons l50 fun v51 l52 => asBool v51 fun b53 => asNil l52 (.ret .ret [(.bool b53)])) (sw e49 .normal (asCons l50 fun v54 l55 => asBool v54 fun b56 => asNil l55 (.ret .ret [(.bool false)])) (.fail))

/-- (*hindsight/cover.asker).whole -/
noncomputable def T122 (p0 : (Option Addr)) (p1 : (Option Addr)) (n2 : Nat) (n3 : Nat) : Pg :=
  bif (((n2 : Nat) : Int) == 0) then (.ret .ret [(.bool false)]) else (asSome p1 fun a4 => grd (decide (0 < ((n2 : Nat) : Int))) (.act (ld1 (aadd (aadd a4 0) 0)) fun v5 => asInt .i64 v5 fun i6 => .join (bif (i6 == 24) then (.ret .ret [(.bool (((n2 : Nat) : Int) == 2))]) else (bif (i6 == 25) then (.ret .ret [(.bool true)]) else (bif (i6 == 26) then (asSome p0 fun a7 => .act (ldN 2 (aadd a7 0)) fun v8 => asAgg v8 fun l9 => asCons l9 fun v10 l11 => asSlice v10 fun p12 n13 n14 => asCons l11 fun v15 l16 => asSlice v15 fun p17 n18 n19 => asNil l16 (asSome p1 fun a20 => grd (decide (0 < ((n2 : Nat) : Int))) (.act (ld1 (aadd (aadd a20 0) 2)) fun v21 => asStr v21 fun s22 => .call 106 [(.agg #[(.slice p12 n13 n14), (.slice p17 n18 n19)]), (.string s22)] fun v23 => asTuple v23 fun l24 => asCons l24 fun v25 l26 => asInt .i64 v25 fun i27 => asCons l26 fun v28 l29 => asInt .i64 v28 fun i30 => asCons l29 fun v31 l32 => asBool v31 fun b33 => asNil l32 (.join (bif b33 == true then (asSome p0 fun a34 => .act (ld1 (aadd (aadd a34 0) 1)) fun v35 => asSlice v35 fun p36 n37 n38 => asSome p36 fun a39 => grd ((decide (0 ≤ i27)) && (decide (i27 < ((n37 : Nat) : Int)))) (.act (ld1 (aadd (aadd a39 ((Int.toNat i27) * 2)) 1)) fun v40 => asSlice v40 fun p41 n42 n43 => .ret .normal [(.bool (((n2 : Nat) : Int) == ((n42 : Nat) : Int)))])) else (.ret .normal [(.bool false)])) (T122k0))))) else (.ret .normal [(.bool false)])))) (T122k1)))
theorem T122_eq (p0 : (Option Addr)) (p1 : (Option Addr)) (n2 : Nat) (n3 : Nat) : progOf PROG false 122 [(.pointer p0), (.slice p1 n2 n3)] = T122 p0 p1 n2 n3 := by kernel_rfl


noncomputable def T129k0 : Ex → List Value → Pg :=
  fun e47 l48 => sw e47 .normal (asCons l48 fun v49 l50 => asPtr v49 fun p51 => asNil l50 (.ret .normal [(.pointer p51)])) (.fail)

noncomputable def T129b0 (p0 : (Option Addr)) : List Value → Pg :=
  fun l3 => asCons l3 fun v4 l5 => asPtr v4 fun p6 => asNil l5 (.call 15 [(.pointer p0), (.int .i64 0), (.string (bs [42]))] fun v7 => asBool v7 fun b8 => bif b8 then (.join (.call 29 [(.pointer p0)] fun v9 => asAgg v9 fun l10 => asCons l10 fun v11 l12 => asInt .i64 v11 fun i13 => asCons l12 fun v14 l15 => asStr v14 fun s16 => asCons l15 fun v17 l18 => asInt .i64 v17 fun i19 => asCons l18 fun v20 l21 => asInt .i64 v20 fun i22 => asNil l21 (.act (newC [(.int .i64 0), (.string (bs [])), (.int .i64 0), (.int .i64 0)]) fun v23 => asPtr v23 fun p24 => asSome p24 fun a25 => .act (stC a25 [(.int .i64 i13), (.string s16), (.int .i64 i19), (.int .i64 i22)]) fun v26 => asTuple v26 fun l27 => asNil l27 (.act (ldN 4 a25) fun v28 => asAgg v28 fun l29 => asCons l29 fun v30 l31 => asInt .i64 v30 fun i32 => asCons l31 fun v33 l34 => asStr v33 fun s35 => asCons l34 fun v36 l37 => asInt .i64 v36 fun i38 => asCons l37 fun v39 l40 => asInt .i64 v39 fun i41 => asNil l40 (.call 147 [(.pointer p0)] fun v42 => asPtr v42 fun p43 => .get fun h46 => grd (chks [((ldN 4 a25), v28)] h46) (.call 99 [(.agg #[(.int .i64 i32), (.string s35), (.int .i64 i38), (.int .i64 i41)]), (.pointer p6), (.pointer p43)] fun v44 => asPtr v44 fun p45 => .ret .normal [(.pointer p45)]))))) (T129k0)) else (.ret (.exit 0) [(.pointer p6)]))

noncomputable def T129k1 : Ex → List Value → Pg :=
  fun e52 l53 => sw e52 (.exit 0) (asCons l53 fun v54 l55 => asPtr v54 fun p56 => asNil l55 (.ret .ret [(.pointer p56)])) (.fail)

/-- (*hindsight/parse.parser).mul -/
noncomputable def T129 (p0 : (Option Addr)) : Pg :=
  .call 147 [(.pointer p0)] fun v1 => asPtr v1 fun p2 => .loop [(.pointer p2)] (T129b0 p0) (T129k1)
theorem T129_eq (p0 : (Option Addr)) : progOf PROG false 129 [(.pointer p0)] = T129 p0 := by kernel_rfl


noncomputable def T133k0 (i7 : Int) : Ex → List Value → Pg :=
  fun e38 l39 => sw e38 .ret (asCons l39 fun v40 l41 => asInt .i64 v40 fun i42 => asNil l41 (.ret .ret [(.int .i64 i7), (.int .i64 i42)])) (sw e38 .normal (asCons l39 fun v43 l44 => asInt .i64 v43 fun i45 => asNil l44 (.ret .normal [(.int .i64 (wi64 (i7 + 1))), (.int .i64 i45)])) (.fail))

noncomputable def T133b0 (n1 : Nat) (p0 : (Option Addr)) (v3 : Value) : List Value → Pg :=
  fun l4 => asCons l4 fun v5 l6 => asInt .i64 v5 fun i7 => asCons l6 fun v8 l9 => asInt .i64 v8 fun i10 => asNil l9 (bif (decide (i7 < ((n1 : Nat) : Int))) then (.join (asSome p0 fun a11 => grd ((decide (0 ≤ i7)) && (decide (i7 < ((n1 : Nat) : Int)))) (.act (ldN 5 (aadd a11 ((Int.toNat i7) * 5))) fun v12 => asAgg v12 fun l13 => asCons l13 fun v14 l15 => asSlice v14 fun p16 n17 n18 => asCons l15 fun v19 l20 => asInt .i64 v19 fun i21 => asCons l20 fun v22 l23 => asStr v22 fun s24 => asCons l23 fun v25 l26 => asInt .i64 v25 fun i27 => asCons l26 fun v28 l29 => asSlice v28 fun p30 n31 n32 => asNil l29 (asFunc v3 fun n33 l34 l35 => .call n33 (l34 ++ [(.agg #[(.slice p16 n17 n18), (.int .i64 i21), (.string s24), (.int .i64 i27), (.slice p30 n31 n32)])] ++ l35) fun v36 => asBool v36 fun b37 => bif b37 then (.ret .ret [(.int .i64 i7)]) else (.ret .normal [(.int .i64 i10)])))) (T133k0 i7)) else (.ret (.exit 0) [(.int .i64 i7), (.int .i64 i10)]))

noncomputable def T133k1 : Ex → List Value → Pg :=
  fun e46 l47 => sw e46 (.exit 0) (asCons l47 fun v48 l49 => asInt .i64 v48 fun i50 => asCons l49 fun v51 l52 => asInt .i64 v51 fun i53 => asNil l52 (.ret .ret [(.int .i64 (-1))])) (sw e46 .ret (asCons l47 fun v54 l55 => asInt .i64 v54 fun i56 => asCons l55 fun v57 l58 => asInt .i64 v57 fun i59 => asNil l58 (.ret .ret [(.int .i64 i59)])) (.fail))

/-- slices.IndexFunc[[]hindsight/scheme.Scheme,hindsight/scheme.Scheme] -/
noncomputable def T133 (p0 : (Option Addr)) (n1 : Nat) (n2 : Nat) (v3 : Value) : Pg :=
  .loop [(.int .i64 0), (.int .i64 0)] (T133b0 n1 p0 v3) (T133k1)
theorem T133_eq (p0 : (Option Addr)) (n1 : Nat) (n2 : Nat) (v3 : Value) : progOf PROG false 133 [(.slice p0 n1 n2), v3] = T133 p0 n1 n2 v3 := by kernel_rfl


/-- slices.Contains[[]int,int] -/
noncomputable def T134 (p0 : (Option Addr)) (n1 : Nat) (n2 : Nat) (i3 : Int) : Pg :=
  .call 150 [(.slice p0 n1 n2), (.int .i64 i3)] fun v4 => asInt .i64 v4 fun i5 => .ret .ret [(.bool (decide (i5 ≥ 0)))]
theorem T134_eq (p0 : (Option Addr)) (n1 : Nat) (n2 : Nat) (i3 : Int) : progOf PROG false 134 [(.slice p0 n1 n2), (.int .i64 i3)] = T134 p0 n1 n2 i3 := by kernel_rfl


noncomputable def T135k0 (i50 : Int) : Ex → List Value → Pg :=
  fun e98 l99 => sw e98 .ret (asCons l99 fun v100 l101 => asBool v100 fun b102 => asNil l101 (.ret .ret [(.int .i64 i50), (.bool b102)])) (sw e98 .normal (asCons l99 fun v103 l104 => asBool v103 fun b105 => asNil l104 (.ret .normal [(.int .i64 (wi64 (i50 + 1))), (.bool b105)])) (.fail))

noncomputable def T135b0 (n45 : Nat) (a14 : Addr) (a17 : Addr) : List Value → Pg :=
  fun l47 => asCons l47 fun v48 l49 => asInt .i64 v48 fun i50 => asCons l49 fun v51 l52 => asBool v51 fun b53 => asNil l52 (bif (decide (i50 < ((n45 : Nat) : Int))) then (.join (.act (ld1 (aadd a14 3)) fun v54 => asSlice v54 fun p55 n56 n57 => asSome p55 fun a58 => grd ((decide (0 ≤ i50)) && (decide (i50 < ((n56 : Nat) : Int)))) (.act (ldN 4 (aadd a58 ((Int.toNat i50) * 4))) fun v59 => asAgg v59 fun l60 => asCons l60 fun v61 l62 => asInt .i64 v61 fun i63 => asCons l62 fun v64 l65 => asStr v64 fun s66 => asCons l65 fun v67 l68 => asInt .i64 v67 fun i69 => asCons l68 fun v70 l71 => asSlice v70 fun p72 n73 n74 => asNil l71 (.act (ld1 (aadd a17 3)) fun v75 => asSlice v75 fun p76 n77 n78 => asSome p76 fun a79 => grd ((decide (0 ≤ i50)) && (decide (i50 < ((n77 : Nat) : Int)))) (.act (ldN 4 (aadd a79 ((Int.toNat i50) * 4))) fun v80 => asAgg v80 fun l81 => asCons l81 fun v82 l83 => asInt .i64 v82 fun i84 => asCons l83 fun v85 l86 => asStr v85 fun s87 => asCons l86 fun v88 l89 => asInt .i64 v88 fun i90 => asCons l89 fun v91 l92 => asSlice v91 fun p93 n94 n95 => asNil l92 (.call 135 [(.agg #[(.int .i64 i63), (.string s66), (.int .i64 i69), (.slice p72 n73 n74)]), (.agg #[(.int .i64 i84), (.string s87), (.int .i64 i90), (.slice p93 n94 n95)])] fun v96 => asBool v96 fun b97 => bif (!b97) then (.ret .ret [(.bool false)]) else (.ret .normal [(.bool b53)])))))) (T135k0 i50)) else (.ret (.exit 0) [(.int .i64 i50), (.bool b53)]))

noncomputable def T135k1 : Ex → List Value → Pg :=
  fun e106 l107 => sw e106 (.exit 0) (asCons l107 fun v108 l109 => asInt .i64 v108 fun i110 => asCons l109 fun v111 l112 => asBool v111 fun b113 => asNil l112 (.ret .ret [(.bool true)])) (sw e106 .ret (asCons l107 fun v114 l115 => asInt .i64 v114 fun i116 => asCons l115 fun v117 l118 => asBool v117 fun b119 => asNil l118 (.ret .ret [(.bool b119)])) (.fail))

noncomputable def T135k2 (a14 : Addr) (a17 : Addr) : Ex → List Value → Pg :=
  fun e38 l39 => sw e38 .normal (asCons l39 fun v40 l41 => asBool v40 fun b42 => asNil l41 (bif b42 then (.ret .ret [(.bool false)]) else (.act (ld1 (aadd a14 3)) fun v43 => asSlice v43 fun p44 n45 n46 => .loop [(.int .i64 0), (.bool false)] (T135b0 n45 a14 a17) (T135k1)))) (.fail)

/-- hindsight/ty.Same -/
noncomputable def T135 (i0 : Int) (s1 : ByteArray) (i2 : Int) (p3 : (Option Addr)) (n4 : Nat) (n5 : Nat) (i6 : Int) (s7 : ByteArray) (i8 : Int) (p9 : (Option Addr)) (n10 : Nat) (n11 : Nat) : Pg :=
  .act (newC [(.int .i64 i0), (.string s1), (.int .i64 i2), (.slice p3 n4 n5)]) fun v12 => asPtr v12 fun p13 => asSome p13 fun a14 => .act (newC [(.int .i64 i6), (.string s7), (.int .i64 i8), (.slice p9 n10 n11)]) fun v15 => asPtr v15 fun p16 => asSome p16 fun a17 => .join (.act (ld1 (aadd a14 0)) fun v18 => asInt .i64 v18 fun i19 => .act (ld1 (aadd a17 0)) fun v20 => asInt .i64 v20 fun i21 => bif (i19 != i21) == false then (.act (ld1 (aadd a14 1)) fun v22 => asStr v22 fun s23 => .act (ld1 (aadd a17 1)) fun v24 => asStr v24 fun s25 => bif (!(s23.toList == s25.toList)) == false then (.act (ld1 (aadd a14 2)) fun v26 => asInt .i64 v26 fun i27 => .act (ld1 (aadd a17 2)) fun v28 => asInt .i64 v28 fun i29 => bif (i27 != i29) == false then (.act (ld1 (aadd a14 3)) fun v30 => asSlice v30 fun p31 n32 n33 => .act (ld1 (aadd a17 3)) fun v34 => asSlice v34 fun p35 n36 n37 => .ret .normal [(.bool (((n32 : Nat) : Int) != ((n36 : Nat) : Int)))]) else (.ret .normal [(.bool true)])) else (.ret .normal [(.bool true)])) else (.ret .normal [(.bool true)])) (T135k2 a14 a17)
theorem T135_eq (i0 : Int) (s1 : ByteArray) (i2 : Int) (p3 : (Option Addr)) (n4 : Nat) (n5 : Nat) (i6 : Int) (s7 : ByteArray) (i8 : Int) (p9 : (Option Addr)) (n10 : Nat) (n11 : Nat) : progOf PROG false 135 [(.agg #[(.int .i64 i0), (.string s1), (.int .i64 i2), (.slice p3 n4 n5)]), (.agg #[(.int .i64 i6), (.string s7), (.int .i64 i8), (.slice p9 n10 n11)])] = T135 i0 s1 i2 p3 n4 n5 i6 s7 i8 p9 n10 n11 := by kernel_rfl


noncomputable def T136k0 (b77 : Bool) (i32 : Int) : Ex → List Value → Pg :=
  fun e82 l83 => sw e82 .normal (asCons l83 fun v84 l85 => asInt .i64 v84 fun i86 => asCons l85 fun v87 l88 => asInt .i64 v87 fun i89 => asCons l88 fun v90 l91 => asBool v90 fun b92 => asNil l91 (.ret .normal [(.int .i64 i86), (.bool b92), (.bool b77), (.int .i64 i89), (.int .i64 i32)])) (.fail)

noncomputable def T136k1 (p0 : (Option Addr)) (n1 : Nat) (n2 : Nat) (i18 : Int) (i9 : Int) (i50 : Int) (b12 : Bool) (b15 : Bool) (i32 : Int) : Ex → List Value → Pg :=
  fun e63 l64 => sw e63 .normal (asCons l64 fun v65 l66 => asBool v65 fun b67 => asNil l66 (bif b67 then (.call 158 [(.slice p0 n1 n2), (.int .i64 i18), (.int .i64 i9), (.int .i64 i50)] fun v68 => asInt .i64 v68 fun i69 => .ret .normal [(.int .i64 i9), (.bool b12), (.bool b15), (.int .i64 i69), (.int .i64 i32)]) else (.call 159 [(.slice p0 n1 n2), (.int .i64 i18), (.int .i64 i9), (.int .i64 i50)] fun v70 => asTuple v70 fun l71 => asCons l71 fun v72 l73 => asInt .i64 v72 fun i74 => asCons l73 fun v75 l76 => asBool v75 fun b77 => asNil l76 (.join (bif (decide ((wi64 (i74 - i18)) < (wi64 (i9 - i74)))) then (.call 136 [(.slice p0 n1 n2), (.int .i64 i18), (.int .i64 i74), (.int .i64 i32)] fun v78 => asTuple v78 fun l79 => asNil l79 (.ret .normal [(.int .i64 i9), (.int .i64 (wi64 (i74 + 1))), (.bool (decide ((wi64 (i74 - i18)) ≥ (wi64 (Int.tdiv (wi64 (i9 - i18)) 8)))))])) else (.call 136 [(.slice p0 n1 n2), (.int .i64 (wi64 (i74 + 1))), (.int .i64 i9), (.int .i64 i32)] fun v80 => asTuple v80 fun l81 => asNil l81 (.ret .normal [(.int .i64 i74), (.int .i64 i18), (.bool (decide ((wi64 (i9 - i74)) ≥ (wi64 (Int.tdiv (wi64 (i9 - i18)) 8)))))]))) (T136k0 b77 i32))))) (.fail)

noncomputable def T136k2 (i9 : Int) (b12 : Bool) (b15 : Bool) (i18 : Int) (i32 : Int) (p0 : (Option Addr)) (n1 : Nat) (i50 : Int) (n2 : Nat) : Ex → List Value → Pg :=
  fun e53 l54 => sw e53 .ret (asNil l54 (.ret .ret [(.int .i64 i9), (.bool b12), (.bool b15), (.int .i64 i18), (.int .i64 i32)])) (sw e53 .normal (asNil l54 (.join (bif (decide (i18 > 0)) == true then (asSome p0 fun a55 => grd ((decide (0 ≤ (wi64 (i18 - 1)))) && (decide ((wi64 (i18 - 1)) < ((n1 : Nat) : Int)))) (.act (ld1 (aadd a55 ((Int.toNat (wi64 (i18 - 1))) * 1))) fun v56 => asInt .i64 v56 fun i57 => asSome p0 fun a58 => grd ((decide (0 ≤ i50)) && (decide (i50 < ((n1 : Nat) : Int)))) (.act (ld1 (aadd a58 ((Int.toNat i50) * 1))) fun v59 => asInt .i64 v59 fun i60 => .call 157 [(.int .i64 i57), (.int .i64 i60)] fun v61 => asBool v61 fun b62 => .ret .normal [(.bool (!b62))]))) else (.ret .normal [(.bool false)])) (T136k1 p0 n1 n2 i18 i9 i50 b12 b15 i32))) (.fail))

noncomputable def T136k3 (b12 : Bool) (b15 : Bool) (p0 : (Option Addr)) (n1 : Nat) (n2 : Nat) (i18 : Int) (i9 : Int) (i32 : Int) : Ex → List Value → Pg :=
  fun e43 l44 => sw e43 .normal (asCons l44 fun v45 l46 => asInt .i64 v45 fun i47 => asCons l46 fun v48 l49 => asInt .i64 v48 fun i50 => asNil l49 (.join (bif ((b12 && b15) && (i47 == 1)) then (.call 156 [(.slice p0 n1 n2), (.int .i64 i18), (.int .i64 i9)] fun v51 => asBool v51 fun b52 => bif b52 then (.ret .ret []) else (.ret .normal [])) else (.ret .normal [])) (T136k2 i9 b12 b15 i18 i32 p0 n1 i50 n2))) (.fail)

noncomputable def T136k4 (p0 : (Option Addr)) (n1 : Nat) (n2 : Nat) (i18 : Int) (i9 : Int) (b12 : Bool) (b15 : Bool) : Ex → List Value → Pg :=
  fun e28 l29 => sw e28 .normal (asCons l29 fun v30 l31 => asInt .i64 v30 fun i32 => asNil l31 (.call 154 [(.slice p0 n1 n2), (.int .i64 i18), (.int .i64 i9)] fun v33 => asTuple v33 fun l34 => asCons l34 fun v35 l36 => asInt .i64 v35 fun i37 => asCons l36 fun v38 l39 => asInt .i64 v38 fun i40 => asNil l39 (.join (bif (i40 == 2) then (.call 155 [(.slice p0 n1 n2), (.int .i64 i18), (.int .i64 i9)] fun v41 => asTuple v41 fun l42 => asNil l42 (.ret .normal [(.int .i64 1), (.int .i64 (wi64 ((wi64 (i9 - 1)) - (wi64 (i37 - i18)))))])) else (.ret .normal [(.int .i64 i40), (.int .i64 i37)])) (T136k3 b12 b15 p0 n1 n2 i18 i9 i32)))) (.fail)

noncomputable def T136k5 : Ex → List Value → Pg :=
  fun e93 l94 => sw e93 .ret (asCons l94 fun v95 l96 => asInt .i64 v95 fun i97 => asCons l96 fun v98 l99 => asBool v98 fun b100 => asCons l99 fun v101 l102 => asBool v101 fun b103 => asCons l102 fun v104 l105 => asInt .i64 v104 fun i106 => asCons l105 fun v107 l108 => asInt .i64 v107 fun i109 => asNil l108 (.ret .ret [(.int .i64 i97), (.bool b100), (.bool b103), (.int .i64 i106), (.int .i64 i109)])) (sw e93 .normal (asCons l94 fun v110 l111 => asInt .i64 v110 fun i112 => asCons l111 fun v113 l114 => asBool v113 fun b115 => asCons l114 fun v116 l117 => asBool v116 fun b118 => asCons l117 fun v119 l120 => asInt .i64 v119 fun i121 => asCons l120 fun v122 l123 => asInt .i64 v122 fun i124 => asNil l123 (.ret .normal [(.int .i64 i112), (.bool b115), (.bool b118), (.int .i64 i121), (.int .i64 i124)])) (.fail))

noncomputable def T136b0 (p0 : (Option Addr)) (n1 : Nat) (n2 : Nat) : List Value → Pg :=
  fun l6 => asCons l6 fun v7 l8 => asInt .i64 v7 fun i9 => asCons l8 fun v10 l11 => asBool v10 fun b12 => asCons l11 fun v13 l14 => asBool v13 fun b15 => asCons l14 fun v16 l17 => asInt .i64 v16 fun i18 => asCons l17 fun v19 l20 => asInt .i64 v19 fun i21 => asNil l20 (.join (bif (decide ((wi64 (i9 - i18)) ≤ 12)) then (.call 151 [(.slice p0 n1 n2), (.int .i64 i18), (.int .i64 i9)] fun v22 => asTuple v22 fun l23 => asNil l23 (.ret .ret [(.int .i64 i9), (.bool b12), (.bool b15), (.int .i64 i18), (.int .i64 i21)])) else (bif (i21 == 0) then (.call 152 [(.slice p0 n1 n2), (.int .i64 i18), (.int .i64 i9)] fun v24 => asTuple v24 fun l25 => asNil l25 (.ret .ret [(.int .i64 i9), (.bool b12), (.bool b15), (.int .i64 i18), (.int .i64 i21)])) else (.join (bif (!b12) then (.call 153 [(.slice p0 n1 n2), (.int .i64 i18), (.int .i64 i9)] fun v26 => asTuple v26 fun l27 => asNil l27 (.ret .normal [(.int .i64 (wi64 (i21 - 1)))])) else (.ret .normal [(.int .i64 i21)])) (T136k4 p0 n1 n2 i18 i9 b12 b15)))) (T136k5))

noncomputable def T136k6 : Ex → List Value → Pg :=
  fun e125 l126 => sw e125 .ret (asCons l126 fun v127 l128 => asInt .i64 v127 fun i129 => asCons l128 fun v130 l131 => asBool v130 fun b132 => asCons l131 fun v133 l134 => asBool v133 fun b135 => asCons l134 fun v136 l137 => asInt .i64 v136 fun i138 => asCons l137 fun v139 l140 => asInt .i64 v139 fun i141 => asNil l140 (.ret .ret [(.tuple #[])])) (.fail)

/-- slices.pdqsortOrdered[int] -/
noncomputable def T136 (p0 : (Option Addr)) (n1 : Nat) (n2 : Nat) (i3 : Int) (i4 : Int) (i5 : Int) : Pg :=
  .loop [(.int .i64 i4), (.bool true), (.bool true), (.int .i64 i3), (.int .i64 i5)] (T136b0 p0 n1 n2) (T136k6)
theorem T136_eq (p0 : (Option Addr)) (n1 : Nat) (n2 : Nat) (i3 : Int) (i4 : Int) (i5 : Int) : progOf PROG false 136 [(.slice p0 n1 n2), (.int .i64 i3), (.int .i64 i4), (.int .i64 i5)] = T136 p0 n1 n2 i3 i4 i5 := by kernel_rfl


/-- math/bits.Len -/
noncomputable def T137 (i0 : Int) : Pg :=
  .call 141 [(.int .u64 i0)] fun v1 => asInt .i64 v1 fun i2 => .ret .ret [(.int .i64 i2)]
theorem T137_eq (i0 : Int) : progOf PROG false 137 [(.int .u64 i0)] = T137 i0 := by kernel_rfl


noncomputable def T138k0 (a4 : Addr) (p0 : (Option Addr)) (i1 : Int) : Ex → List Value → Pg :=
  fun e20 l21 => sw e20 .normal (asCons l21 fun v22 l23 => asBool v22 fun b24 => asNil l23 (bif b24 then (.act (stC a4 [(.int .i64 21), (.int .i64 0), (.string (bs [])), (.string (bs [])), (.slice none 0 0), (.int .i64 0), (.int .i64 0)]) fun v25 => asTuple v25 fun l26 => asNil l26 (.act (ldN 7 a4) fun v27 => .ret .ret [v27])) else (asSome p0 fun a28 => .act (ld1 (aadd (aadd a28 0) 0)) fun v29 => asSlice v29 fun p30 n31 n32 => asSome p30 fun a33 => grd ((decide (0 ≤ i1)) && (decide (i1 < ((n31 : Nat) : Int)))) (.act (ldN 7 (aadd a33 ((Int.toNat i1) * 7))) fun v34 => asAgg v34 fun l35 => asCons l35 fun v36 l37 => asInt .i64 v36 fun i38 => asCons l37 fun v39 l40 => asInt .i64 v39 fun i41 => asCons l40 fun v42 l43 => asStr v42 fun s44 => asCons l43 fun v45 l46 => asStr v45 fun s47 => asCons l46 fun v48 l49 => asSlice v48 fun p50 n51 n52 => asCons l49 fun v53 l54 => asInt .i64 v53 fun i55 => asCons l54 fun v56 l57 => asInt .i64 v56 fun i58 => asNil l57 (.act (stC a4 [(.int .i64 i38), (.int .i64 i41), (.string s44), (.string s47), (.slice p50 n51 n52), (.int .i64 i55), (.int .i64 i58)]) fun v59 => asTuple v59 fun l60 => asNil l60 (.act (ldN 7 a4) fun v61 => .ret .ret [v61])))))) (.fail)

/-- (*hindsight/cover.asker).at -/
noncomputable def T138 (p0 : (Option Addr)) (i1 : Int) : Pg :=
  .act (newC [(.int .i64 0), (.int .i64 0), (.string (bs [])), (.string (bs [])), (.slice none 0 0), (.int .i64 0), (.int .i64 0)]) fun v2 => asPtr v2 fun p3 => asSome p3 fun a4 => .join (bif (decide (i1 < 0)) == false then (asSome p0 fun a5 => .act (ld1 (aadd (aadd a5 0) 0)) fun v6 => asSlice v6 fun p7 n8 n9 => bif (decide (i1 ≥ ((n8 : Nat) : Int))) == false then (asSome p0 fun a10 => .act (ld1 (aadd (aadd a10 0) 0)) fun v11 => asSlice v11 fun p12 n13 n14 => asSome p12 fun a15 => grd ((decide (0 ≤ i1)) && (decide (i1 < ((n13 : Nat) : Int)))) (.act (ld1 (aadd (aadd a15 ((Int.toNat i1) * 7)) 0)) fun v16 => asInt .i64 v16 fun i17 => .call 37 [(.int .i64 i17)] fun v18 => asBool v18 fun b19 => .ret .normal [(.bool (!b19))])) else (.ret .normal [(.bool true)])) else (.ret .normal [(.bool true)])) (T138k0 a4 p0 i1)
theorem T138_eq (p0 : (Option Addr)) (i1 : Int) : progOf PROG false 138 [(.pointer p0), (.int .i64 i1)] = T138 p0 i1 := by kernel_rfl


/-- (*hindsight/cover.asker).many -/
noncomputable def T139 (p0 : (Option Addr)) (i1 : Int) (i2 : Int) (s3 : ByteArray) : Pg :=
  .act (newC [(.int .i64 i1), (.int .i64 i2), (.string s3)]) fun v4 => asPtr v4 fun p5 => asSome p5 fun a6 => .act (ld1 (aadd a6 0)) fun v7 => asInt .i64 v7 fun i8 => bif (i8 != 26) then (.ret .ret [(.int .i64 0)]) else (asSome p0 fun a9 => .act (ldN 2 (aadd a9 0)) fun v10 => asAgg v10 fun l11 => asCons l11 fun v12 l13 => asSlice v12 fun p14 n15 n16 => asCons l13 fun v17 l18 => asSlice v17 fun p19 n20 n21 => asNil l18 (.act (ld1 (aadd a6 2)) fun v22 => asStr v22 fun s23 => .call 106 [(.agg #[(.slice p14 n15 n16), (.slice p19 n20 n21)]), (.string s23)] fun v24 => asTuple v24 fun l25 => asCons l25 fun v26 l27 => asInt .i64 v26 fun i28 => asCons l27 fun v29 l30 => asInt .i64 v29 fun i31 => asCons l30 fun v32 l33 => asBool v32 fun b34 => asNil l33 (bif (!b34) then (.ret .ret [(.int .i64 0)]) else (asSome p0 fun a35 => .act (ld1 (aadd (aadd a35 0) 1)) fun v36 => asSlice v36 fun p37 n38 n39 => asSome p37 fun a40 => grd ((decide (0 ≤ i28)) && (decide (i28 < ((n38 : Nat) : Int)))) (.act (ld1 (aadd (aadd a40 ((Int.toNat i28) * 2)) 1)) fun v41 => asSlice v41 fun p42 n43 n44 => asSome p42 fun a45 => grd ((decide (0 ≤ i31)) && (decide (i31 < ((n43 : Nat) : Int)))) (.act (ld1 (aadd (aadd a45 ((Int.toNat i31) * 2)) 1)) fun v46 => asSlice v46 fun p47 n48 n49 => .ret .ret [(.int .i64 ((n48 : Nat) : Int))]))))))
theorem T139_eq (p0 : (Option Addr)) (i1 : Int) (i2 : Int) (s3 : ByteArray) : progOf PROG false 139 [(.pointer p0), (.agg #[(.int .i64 i1), (.int .i64 i2), (.string s3)])] = T139 p0 i1 i2 s3 := by kernel_rfl


noncomputable def T141k0 : Ex → List Value → Pg :=
  fun e17 l18 => sw e17 .normal (asCons l18 fun v19 l20 => asInt .i64 v19 fun i21 => asCons l20 fun v22 l23 => asInt .u64 v22 fun i24 => asNil l23 (grd ((decide (0 ≤ (wu8 i24))) && (decide ((wu8 i24) < 256))) (.ret .ret [(.int .i64 (wi64 (i21 + (wi64 (byteAt (bs [0, 1, 2, 2, 3, 3, 3, 3, 4, 4, 4, 4, 4, 4, 4, 4, 5, 5, 5, 5, 5, 5, 5, 5, 5, 5, 5, 5, 5, 5, 5, 5, 6, 6, 6, 6, 6, 6, 6, 6, 6, 6, 6, 6, 6, 6, 6, 6, 6, 6, 6, 6, 6, 6, 6, 6, 6, 6, 6, 6, 6, 6, 6, 6, 7, 7, 7, 7, 7, 7, 7, 7, 7, 7, 7, 7, 7, 7, 7, 7, 7, 7, 7, 7, 7, 7, 7, 7, 7, 7, 7, 7, 7, 7, 7, 7, 7, 7, 7, 7, 7, 7, 7, 7, 7, 7, 7, 7, 7, 7, 7, 7, 7, 7, 7, 7, 7, 7, 7, 7, 7, 7, 7, 7, 7, 7, 7, 7, 8, 8, 8, 8, 8, 8, 8, 8, 8, 8, 8, 8, 8, 8, 8, 8, 8, 8, 8, 8, 8, 8, 8, 8, 8, 8, 8, 8, 8, 8, 8, 8, 8, 8, 8, 8, 8, 8, 8, 8, 8, 8, 8, 8, 8, 8, 8, 8, 8, 8, 8, 8, 8, 8, 8, 8, 8, 8, 8, 8, 8, 8, 8, 8, 8, 8, 8, 8, 8, 8, 8, 8, 8, 8, 8, 8, 8, 8, 8, 8, 8, 8, 8, 8, 8, 8, 8, 8, 8, 8, 8, 8, 8, 8, 8, 8, 8, 8, 8, 8, 8, 8, 8, 8, 8, 8, 8, 8, 8, 8, 8, 8, 8, 8, 8, 8, 8, 8, 8, 8, 8, 8, 8, 8, 8, 8, 8, 8]) (Int.toNat (wu8 i24)))))))]))) (.fail)

noncomputable def T141k1 : Ex → List Value → Pg :=
  fun e9 l10 => sw e9 .normal (asCons l10 fun v11 l12 => asInt .i64 v11 fun i13 => asCons l12 fun v14 l15 => asInt .u64 v14 fun i16 => asNil l15 (.join (bif (decide (i16 ≥ 256)) then (.ret .normal [(.int .i64 (wi64 (i13 + 8))), (.int .u64 (shrI .u64 i16 8))]) else (.ret .normal [(.int .i64 i13), (.int .u64 i16)])) (T141k0))) (.fail)

noncomputable def T141k2 : Ex → List Value → Pg :=
  fun e1 l2 => sw e1 .normal (asCons l2 fun v3 l4 => asInt .i64 v3 fun i5 => asCons l4 fun v6 l7 => asInt .u64 v6 fun i8 => asNil l7 (.join (bif (decide (i8 ≥ 65536)) then (.ret .normal [(.int .i64 (wi64 (i5 + 16))), (.int .u64 (shrI .u64 i8 16))]) else (.ret .normal [(.int .i64 i5), (.int .u64 i8)])) (T141k1))) (.fail)

/-- math/bits.Len64 -/
noncomputable def T141 (i0 : Int) : Pg :=
  .join (bif (decide (i0 ≥ 4294967296)) then (.ret .normal [(.int .i64 32), (.int .u64 (shrI .u64 i0 32))]) else (.ret .normal [(.int .i64 0), (.int .u64 i0)])) (T141k2)
theorem T141_eq (i0 : Int) : progOf PROG false 141 [(.int .u64 i0)] = T141 i0 := by kernel_rfl


noncomputable def T147k0 : Ex → List Value → Pg :=
  fun e20 l21 => sw e20 .normal (asCons l21 fun v22 l23 => asPtr v22 fun p24 => asNil l23 (.ret .normal [(.pointer p24)])) (.fail)

noncomputable def T147b0 (p0 : (Option Addr)) : List Value → Pg :=
  fun l3 => asCons l3 fun v4 l5 => asPtr v4 fun p6 => asNil l5 (.call 164 [(.pointer p0)] fun v7 => asBool v7 fun b8 => bif b8 then (.join (.call 163 [(.pointer p0)] fun v9 => asPtr v9 fun p10 => asSome p6 fun a11 => .act (ld1 (aadd (aadd a11 0) 5)) fun v12 => asInt .i64 v12 fun i13 => .act (bdSl 1 2 [(.pointer p6), (.pointer p10)]) fun v14 => asSlice v14 fun p15 n16 n17 => .call 34 [(.int .i64 7), (.int .i64 i13), (.slice p15 n16 n17)] fun v18 => asPtr v18 fun p19 => .ret .normal [(.pointer p19)]) (T147k0)) else (.ret (.exit 0) [(.pointer p6)]))

noncomputable def T147k1 : Ex → List Value → Pg :=
  fun e25 l26 => sw e25 (.exit 0) (asCons l26 fun v27 l28 => asPtr v27 fun p29 => asNil l28 (.ret .ret [(.pointer p29)])) (.fail)

/-- (*hindsight/parse.parser).app -/
noncomputable def T147 (p0 : (Option Addr)) : Pg :=
  .call 163 [(.pointer p0)] fun v1 => asPtr v1 fun p2 => .loop [(.pointer p2)] (T147b0 p0) (T147k1)
theorem T147_eq (p0 : (Option Addr)) : progOf PROG false 147 [(.pointer p0)] = T147 p0 := by kernel_rfl


noncomputable def T150k0 (i7 : Int) : Ex → List Value → Pg :=
  fun e14 l15 => sw e14 .ret (asCons l15 fun v16 l17 => asInt .i64 v16 fun i18 => asNil l17 (.ret .ret [(.int .i64 i7), (.int .i64 i18)])) (sw e14 .normal (asCons l15 fun v19 l20 => asInt .i64 v19 fun i21 => asNil l20 (.ret .normal [(.int .i64 (wi64 (i7 + 1))), (.int .i64 i21)])) (.fail))

noncomputable def T150b0 (n1 : Nat) (p0 : (Option Addr)) (i3 : Int) : List Value → Pg :=
  fun l4 => asCons l4 fun v5 l6 => asInt .i64 v5 fun i7 => asCons l6 fun v8 l9 => asInt .i64 v8 fun i10 => asNil l9 (bif (decide (i7 < ((n1 : Nat) : Int))) then (.join (asSome p0 fun a11 => grd ((decide (0 ≤ i7)) && (decide (i7 < ((n1 : Nat) : Int)))) (.act (ld1 (aadd a11 ((Int.toNat i7) * 1))) fun v12 => asInt .i64 v12 fun i13 => bif (i3 == i13) then (.ret .ret [(.int .i64 i7)]) else (.ret .normal [(.int .i64 i10)]))) (T150k0 i7)) else (.ret (.exit 0) [(.int .i64 i7), (.int .i64 i10)]))

noncomputable def T150k1 : Ex → List Value → Pg :=
  fun e22 l23 => sw e22 (.exit 0) (asCons l23 fun v24 l25 => asInt .i64 v24 fun i26 => asCons l25 fun v27 l28 => asInt .i64 v27 fun i29 => asNil l28 (.ret .ret [(.int .i64 (-1))])) (sw e22 .ret (asCons l23 fun v30 l31 => asInt .i64 v30 fun i32 => asCons l31 fun v33 l34 => asInt .i64 v33 fun i35 => asNil l34 (.ret .ret [(.int .i64 i35)])) (.fail))

/-- slices.Index[[]int,int] -/
noncomputable def T150 (p0 : (Option Addr)) (n1 : Nat) (n2 : Nat) (i3 : Int) : Pg :=
  .loop [(.int .i64 0), (.int .i64 0)] (T150b0 n1 p0 i3) (T150k1)
theorem T150_eq (p0 : (Option Addr)) (n1 : Nat) (n2 : Nat) (i3 : Int) : progOf PROG false 150 [(.slice p0 n1 n2), (.int .i64 i3)] = T150 p0 n1 n2 i3 := by kernel_rfl


noncomputable def T151k0 (i12 : Int) : Ex → List Value → Pg :=
  fun e38 l39 => sw e38 .normal (asNil l39 (.ret .normal [(.int .i64 (wi64 (i12 - 1)))])) (.fail)

noncomputable def T151k1 (p0 : (Option Addr)) (i12 : Int) (n1 : Nat) : Ex → List Value → Pg :=
  fun e21 l22 => sw e21 .normal (asCons l22 fun v23 l24 => asBool v23 fun b25 => asNil l24 (bif b25 then (.join (asSome p0 fun a26 => grd ((decide (0 ≤ (wi64 (i12 - 1)))) && (decide ((wi64 (i12 - 1)) < ((n1 : Nat) : Int)))) (.act (ld1 (aadd a26 ((Int.toNat (wi64 (i12 - 1))) * 1))) fun v27 => asInt .i64 v27 fun i28 => asSome p0 fun a29 => grd ((decide (0 ≤ i12)) && (decide (i12 < ((n1 : Nat) : Int)))) (.act (ld1 (aadd a29 ((Int.toNat i12) * 1))) fun v30 => asInt .i64 v30 fun i31 => asSome p0 fun a32 => grd ((decide (0 ≤ i12)) && (decide (i12 < ((n1 : Nat) : Int)))) (.act (stC (aadd a32 ((Int.toNat i12) * 1)) [(.int .i64 i28)]) fun v33 => asTuple v33 fun l34 => asNil l34 (asSome p0 fun a35 => grd ((decide (0 ≤ (wi64 (i12 - 1)))) && (decide ((wi64 (i12 - 1)) < ((n1 : Nat) : Int)))) (.act (stC (aadd a35 ((Int.toNat (wi64 (i12 - 1))) * 1)) [(.int .i64 i31)]) fun v36 => asTuple v36 fun l37 => asNil l37 (.ret .normal []))))))) (T151k0 i12)) else (.ret (.exit 2) [(.int .i64 i12)]))) (.fail)

noncomputable def T151b0 (i3 : Int) (p0 : (Option Addr)) (n1 : Nat) : List Value → Pg :=
  fun l9 => asCons l9 fun v10 l11 => asInt .i64 v10 fun i12 => asNil l11 (.join (bif (decide (i12 > i3)) == true then (asSome p0 fun a13 => grd ((decide (0 ≤ i12)) && (decide (i12 < ((n1 : Nat) : Int)))) (.act (ld1 (aadd a13 ((Int.toNat i12) * 1))) fun v14 => asInt .i64 v14 fun i15 => asSome p0 fun a16 => grd ((decide (0 ≤ (wi64 (i12 - 1)))) && (decide ((wi64 (i12 - 1)) < ((n1 : Nat) : Int)))) (.act (ld1 (aadd a16 ((Int.toNat (wi64 (i12 - 1))) * 1))) fun v17 => asInt .i64 v17 fun i18 => .call 157 [(.int .i64 i15), (.int .i64 i18)] fun v19 => asBool v19 fun b20 => .ret .normal [(.bool b20)]))) else (.ret .normal [(.bool false)])) (T151k1 p0 i12 n1))

noncomputable def T151k2 : Ex → List Value → Pg :=
  fun e40 l41 => sw e40 (.exit 2) (asCons l41 fun v42 l43 => asInt .i64 v42 fun i44 => asNil l43 (.ret .normal [])) (.fail)

noncomputable def T151k3 (i8 : Int) : Ex → List Value → Pg :=
  fun e45 l46 => sw e45 .normal (asNil l46 (.ret .normal [(.int .i64 (wi64 (i8 + 1)))])) (.fail)

noncomputable def T151b1 (i4 : Int) (i3 : Int) (p0 : (Option Addr)) (n1 : Nat) : List Value → Pg :=
  fun l5 => asCons l5 fun v6 l7 => asInt .i64 v6 fun i8 => asNil l7 (bif (decide (i8 < i4)) then (.join (.loop [(.int .i64 i8)] (T151b0 i3 p0 n1) (T151k2)) (T151k3 i8)) else (.ret (.exit 0) [(.int .i64 i8)]))

noncomputable def T151k4 : Ex → List Value → Pg :=
  fun e47 l48 => sw e47 (.exit 0) (asCons l48 fun v49 l50 => asInt .i64 v49 fun i51 => asNil l50 (.ret .ret [(.tuple #[])])) (.fail)

/-- slices.insertionSortOrdered[int] -/
noncomputable def T151 (p0 : (Option Addr)) (n1 : Nat) (n2 : Nat) (i3 : Int) (i4 : Int) : Pg :=
  .loop [(.int .i64 (wi64 (i3 + 1)))] (T151b1 i4 i3 p0 n1) (T151k4)
theorem T151_eq (p0 : (Option Addr)) (n1 : Nat) (n2 : Nat) (i3 : Int) (i4 : Int) : progOf PROG false 151 [(.slice p0 n1 n2), (.int .i64 i3), (.int .i64 i4)] = T151 p0 n1 n2 i3 i4 := by kernel_rfl


noncomputable def T152k0 (i8 : Int) : Ex → List Value → Pg :=
  fun e11 l12 => sw e11 .normal (asNil l12 (.ret .normal [(.int .i64 (wi64 (i8 - 1)))])) (.fail)

noncomputable def T152b0 (p0 : (Option Addr)) (n1 : Nat) (n2 : Nat) (i4 : Int) (i3 : Int) : List Value → Pg :=
  fun l5 => asCons l5 fun v6 l7 => asInt .i64 v6 fun i8 => asNil l7 (bif (decide (i8 ≥ 0)) then (.join (.call 166 [(.slice p0 n1 n2), (.int .i64 i8), (.int .i64 (wi64 (i4 - i3))), (.int .i64 i3)] fun v9 => asTuple v9 fun l10 => asNil l10 (.ret .normal [])) (T152k0 i8)) else (.ret (.exit 0) [(.int .i64 i8)]))

noncomputable def T152k1 (i21 : Int) : Ex → List Value → Pg :=
  fun e36 l37 => sw e36 .normal (asNil l37 (.ret .normal [(.int .i64 (wi64 (i21 - 1)))])) (.fail)

noncomputable def T152b1 (p0 : (Option Addr)) (i3 : Int) (n1 : Nat) (n2 : Nat) : List Value → Pg :=
  fun l18 => asCons l18 fun v19 l20 => asInt .i64 v19 fun i21 => asNil l20 (bif (decide (i21 ≥ 0)) then (.join (asSome p0 fun a22 => grd ((decide (0 ≤ (wi64 (i3 + i21)))) && (decide ((wi64 (i3 + i21)) < ((n1 : Nat) : Int)))) (.act (ld1 (aadd a22 ((Int.toNat (wi64 (i3 + i21))) * 1))) fun v23 => asInt .i64 v23 fun i24 => asSome p0 fun a25 => grd ((decide (0 ≤ i3)) && (decide (i3 < ((n1 : Nat) : Int)))) (.act (ld1 (aadd a25 ((Int.toNat i3) * 1))) fun v26 => asInt .i64 v26 fun i27 => asSome p0 fun a28 => grd ((decide (0 ≤ i3)) && (decide (i3 < ((n1 : Nat) : Int)))) (.act (stC (aadd a28 ((Int.toNat i3) * 1)) [(.int .i64 i24)]) fun v29 => asTuple v29 fun l30 => asNil l30 (asSome p0 fun a31 => grd ((decide (0 ≤ (wi64 (i3 + i21)))) && (decide ((wi64 (i3 + i21)) < ((n1 : Nat) : Int)))) (.act (stC (aadd a31 ((Int.toNat (wi64 (i3 + i21))) * 1)) [(.int .i64 i27)]) fun v32 => asTuple v32 fun l33 => asNil l33 (.call 166 [(.slice p0 n1 n2), (.int .i64 0), (.int .i64 i21), (.int .i64 i3)] fun v34 => asTuple v34 fun l35 => asNil l35 (.ret .normal [])))))))) (T152k1 i21)) else (.ret (.exit 2) [(.int .i64 i21)]))

noncomputable def T152k2 : Ex → List Value → Pg :=
  fun e38 l39 => sw e38 (.exit 2) (asCons l39 fun v40 l41 => asInt .i64 v40 fun i42 => asNil l41 (.ret .ret [(.tuple #[])])) (.fail)

noncomputable def T152k3 (i4 : Int) (i3 : Int) (p0 : (Option Addr)) (n1 : Nat) (n2 : Nat) : Ex → List Value → Pg :=
  fun e13 l14 => sw e13 (.exit 0) (asCons l14 fun v15 l16 => asInt .i64 v15 fun i17 => asNil l16 (.loop [(.int .i64 (wi64 ((wi64 (i4 - i3)) - 1)))] (T152b1 p0 i3 n1 n2) (T152k2))) (.fail)

/-- slices.heapSortOrdered[int] -/
noncomputable def T152 (p0 : (Option Addr)) (n1 : Nat) (n2 : Nat) (i3 : Int) (i4 : Int) : Pg :=
  .loop [(.int .i64 (wi64 (Int.tdiv (wi64 ((wi64 (i4 - i3)) - 1)) 2)))] (T152b0 p0 n1 n2 i4 i3) (T152k3 i4 i3 p0 n1 n2)
theorem T152_eq (p0 : (Option Addr)) (n1 : Nat) (n2 : Nat) (i3 : Int) (i4 : Int) : progOf PROG false 152 [(.slice p0 n1 n2), (.int .i64 i3), (.int .i64 i4)] = T152 p0 n1 n2 i3 i4 := by kernel_rfl


noncomputable def T153k0 (p0 : (Option Addr)) (i3 : Int) (n1 : Nat) (i15 : Int) : Ex → List Value → Pg :=
  fun e18 l19 => sw e18 .normal (asCons l19 fun v20 l21 => asInt .i64 v20 fun i22 => asNil l21 (asSome p0 fun a23 => grd ((decide (0 ≤ (wi64 (i3 + i22)))) && (decide ((wi64 (i3 + i22)) < ((n1 : Nat) : Int)))) (.act (ld1 (aadd a23 ((Int.toNat (wi64 (i3 + i22))) * 1))) fun v24 => asInt .i64 v24 fun i25 => asSome p0 fun a26 => grd ((decide (0 ≤ i15)) && (decide (i15 < ((n1 : Nat) : Int)))) (.act (ld1 (aadd a26 ((Int.toNat i15) * 1))) fun v27 => asInt .i64 v27 fun i28 => asSome p0 fun a29 => grd ((decide (0 ≤ i15)) && (decide (i15 < ((n1 : Nat) : Int)))) (.act (stC (aadd a29 ((Int.toNat i15) * 1)) [(.int .i64 i25)]) fun v30 => asTuple v30 fun l31 => asNil l31 (asSome p0 fun a32 => grd ((decide (0 ≤ (wi64 (i3 + i22)))) && (decide ((wi64 (i3 + i22)) < ((n1 : Nat) : Int)))) (.act (stC (aadd a32 ((Int.toNat (wi64 (i3 + i22))) * 1)) [(.int .i64 i28)]) fun v33 => asTuple v33 fun l34 => asNil l34 (.ret .normal [])))))))) (.fail)

noncomputable def T153k1 (i15 : Int) : Ex → List Value → Pg :=
  fun e35 l36 => sw e35 .normal (asNil l36 (.ret .normal [(.int .i64 (wi64 (i15 + 1)))])) (.fail)

noncomputable def T153b0 (i3 : Int) (i4 : Int) (a7 : Addr) (i11 : Int) (p0 : (Option Addr)) (n1 : Nat) : List Value → Pg :=
  fun l12 => asCons l12 fun v13 l14 => asInt .i64 v13 fun i15 => asNil l14 (bif (decide (i15 ≤ (wi64 ((wi64 (i3 + (wi64 ((wi64 (Int.tdiv (wi64 (i4 - i3)) 4)) * 2)))) + 1)))) then (.join (.call 168 [(.pointer (some a7))] fun v16 => asInt .u64 v16 fun i17 => .join (bif (decide ((wi64 (andI .u64 i17 (wu64 (i11 - 1)))) ≥ (wi64 (i4 - i3)))) then (.ret .normal [(.int .i64 (wi64 ((wi64 (andI .u64 i17 (wu64 (i11 - 1)))) - (wi64 (i4 - i3)))))]) else (.ret .normal [(.int .i64 (wi64 (andI .u64 i17 (wu64 (i11 - 1)))))])) (T153k0 p0 i3 n1 i15)) (T153k1 i15)) else (.ret (.exit 0) [(.int .i64 i15)]))

noncomputable def T153k2 : Ex → List Value → Pg :=
  fun e37 l38 => sw e37 (.exit 0) (asCons l38 fun v39 l40 => asInt .i64 v39 fun i41 => asNil l40 (.ret .normal [])) (.fail)

noncomputable def T153k3 : Ex → List Value → Pg :=
  fun e42 l43 => sw e42 .normal (asNil l43 (.ret .ret [(.tuple #[])])) (.fail)

/-- slices.breakPatternsOrdered[int] -/
noncomputable def T153 (p0 : (Option Addr)) (n1 : Nat) (n2 : Nat) (i3 : Int) (i4 : Int) : Pg :=
  .join (bif (decide ((wi64 (i4 - i3)) ≥ 8)) then (.act (newC [(.int .u64 0)]) fun v5 => asPtr v5 fun p6 => asSome p6 fun a7 => .act (stC a7 [(.int .u64 (wu64 (wi64 (i4 - i3))))]) fun v8 => asTuple v8 fun l9 => asNil l9 (.call 167 [(.int .i64 (wi64 (i4 - i3)))] fun v10 => asInt .u64 v10 fun i11 => .loop [(.int .i64 (wi64 ((wi64 (i3 + (wi64 ((wi64 (Int.tdiv (wi64 (i4 - i3)) 4)) * 2)))) - 1)))] (T153b0 i3 i4 a7 i11 p0 n1) (T153k2))) else (.ret .normal [])) (T153k3)
theorem T153_eq (p0 : (Option Addr)) (n1 : Nat) (n2 : Nat) (i3 : Int) (i4 : Int) : progOf PROG false 153 [(.slice p0 n1 n2), (.int .i64 i3), (.int .i64 i4)] = T153 p0 n1 n2 i3 i4 := by kernel_rfl


noncomputable def T154k0 (p0 : (Option Addr)) (n1 : Nat) (n2 : Nat) (a7 : Addr) : Ex → List Value → Pg :=
  fun e14 l15 => sw e14 .normal (asCons l15 fun v16 l17 => asInt .i64 v16 fun i18 => asCons l17 fun v19 l20 => asInt .i64 v19 fun i21 => asCons l20 fun v22 l23 => asInt .i64 v22 fun i24 => asNil l23 (.call 170 [(.slice p0 n1 n2), (.int .i64 i24), (.int .i64 i21), (.int .i64 i18), (.pointer (some a7))] fun v25 => asInt .i64 v25 fun i26 => .ret .normal [(.int .i64 i26)])) (.fail)

noncomputable def T154k1 : Ex → List Value → Pg :=
  fun e34 l35 => sw e34 .ret (asCons l35 fun v36 l37 => asInt .i64 v36 fun i38 => asCons l37 fun v39 l40 => asInt .i64 v39 fun i41 => asNil l40 (.ret .ret [(.tuple #[(.int .i64 i41), (.int .i64 i38)])])) (.fail)

noncomputable def T154k2 (a7 : Addr) : Ex → List Value → Pg :=
  fun e27 l28 => sw e27 .normal (asCons l28 fun v29 l30 => asInt .i64 v29 fun i31 => asNil l30 (.act (ld1 a7) fun v32 => asInt .i64 v32 fun i33 => .join (bif (i33 == 0) then (.ret .ret [(.int .i64 1), (.int .i64 i31)]) else (bif (i33 == 12) then (.ret .ret [(.int .i64 2), (.int .i64 i31)]) else (.ret .ret [(.int .i64 0), (.int .i64 i31)]))) (T154k1))) (.fail)

/-- slices.choosePivotOrdered[int] -/
noncomputable def T154 (p0 : (Option Addr)) (n1 : Nat) (n2 : Nat) (i3 : Int) (i4 : Int) : Pg :=
  .act (newC [(.int .i64 0)]) fun v5 => asPtr v5 fun p6 => asSome p6 fun a7 => .join (bif (decide ((wi64 (i4 - i3)) ≥ 8)) then (.join (bif (decide ((wi64 (i4 - i3)) ≥ 50)) then (.call 169 [(.slice p0 n1 n2), (.int .i64 (wi64 (i3 + (wi64 ((wi64 (Int.tdiv (wi64 (i4 - i3)) 4)) * 1))))), (.pointer (some a7))] fun v8 => asInt .i64 v8 fun i9 => .call 169 [(.slice p0 n1 n2), (.int .i64 (wi64 (i3 + (wi64 ((wi64 (Int.tdiv (wi64 (i4 - i3)) 4)) * 2))))), (.pointer (some a7))] fun v10 => asInt .i64 v10 fun i11 => .call 169 [(.slice p0 n1 n2), (.int .i64 (wi64 (i3 + (wi64 ((wi64 (Int.tdiv (wi64 (i4 - i3)) 4)) * 3))))), (.pointer (some a7))] fun v12 => asInt .i64 v12 fun i13 => .ret .normal [(.int .i64 i13), (.int .i64 i11), (.int .i64 i9)]) else (.ret .normal [(.int .i64 (wi64 (i3 + (wi64 ((wi64 (Int.tdiv (wi64 (i4 - i3)) 4)) * 3))))), (.int .i64 (wi64 (i3 + (wi64 ((wi64 (Int.tdiv (wi64 (i4 - i3)) 4)) * 2))))), (.int .i64 (wi64 (i3 + (wi64 ((wi64 (Int.tdiv (wi64 (i4 - i3)) 4)) * 1)))))])) (T154k0 p0 n1 n2 a7)) else (.ret .normal [(.int .i64 (wi64 (i3 + (wi64 ((wi64 (Int.tdiv (wi64 (i4 - i3)) 4)) * 2)))))])) (T154k2 a7)
theorem T154_eq (p0 : (Option Addr)) (n1 : Nat) (n2 : Nat) (i3 : Int) (i4 : Int) : progOf PROG false 154 [(.slice p0 n1 n2), (.int .i64 i3), (.int .i64 i4)] = T154 p0 n1 n2 i3 i4 := by kernel_rfl


noncomputable def T155k0 : Ex → List Value → Pg :=
  fun e24 l25 => sw e24 .normal (asCons l25 fun v26 l27 => asInt .i64 v26 fun i28 => asCons l27 fun v29 l30 => asInt .i64 v29 fun i31 => asNil l30 (.ret .normal [(.int .i64 i28), (.int .i64 i31)])) (.fail)

noncomputable def T155b0 (p0 : (Option Addr)) (n1 : Nat) : List Value → Pg :=
  fun l5 => asCons l5 fun v6 l7 => asInt .i64 v6 fun i8 => asCons l7 fun v9 l10 => asInt .i64 v9 fun i11 => asNil l10 (bif (decide (i11 < i8)) then (.join (asSome p0 fun a12 => grd ((decide (0 ≤ i8)) && (decide (i8 < ((n1 : Nat) : Int)))) (.act (ld1 (aadd a12 ((Int.toNat i8) * 1))) fun v13 => asInt .i64 v13 fun i14 => asSome p0 fun a15 => grd ((decide (0 ≤ i11)) && (decide (i11 < ((n1 : Nat) : Int)))) (.act (ld1 (aadd a15 ((Int.toNat i11) * 1))) fun v16 => asInt .i64 v16 fun i17 => asSome p0 fun a18 => grd ((decide (0 ≤ i11)) && (decide (i11 < ((n1 : Nat) : Int)))) (.act (stC (aadd a18 ((Int.toNat i11) * 1)) [(.int .i64 i14)]) fun v19 => asTuple v19 fun l20 => asNil l20 (asSome p0 fun a21 => grd ((decide (0 ≤ i8)) && (decide (i8 < ((n1 : Nat) : Int)))) (.act (stC (aadd a21 ((Int.toNat i8) * 1)) [(.int .i64 i17)]) fun v22 => asTuple v22 fun l23 => asNil l23 (.ret .normal [(.int .i64 (wi64 (i8 - 1))), (.int .i64 (wi64 (i11 + 1)))]))))))) (T155k0)) else (.ret (.exit 0) [(.int .i64 i8), (.int .i64 i11)]))

noncomputable def T155k1 : Ex → List Value → Pg :=
  fun e32 l33 => sw e32 (.exit 0) (asCons l33 fun v34 l35 => asInt .i64 v34 fun i36 => asCons l35 fun v37 l38 => asInt .i64 v37 fun i39 => asNil l38 (.ret .ret [(.tuple #[])])) (.fail)

/-- slices.reverseRangeOrdered[int] -/
noncomputable def T155 (p0 : (Option Addr)) (n1 : Nat) (n2 : Nat) (i3 : Int) (i4 : Int) : Pg :=
  .loop [(.int .i64 (wi64 (i4 - 1))), (.int .i64 i3)] (T155b0 p0 n1) (T155k1)
theorem T155_eq (p0 : (Option Addr)) (n1 : Nat) (n2 : Nat) (i3 : Int) (i4 : Int) : progOf PROG false 155 [(.slice p0 n1 n2), (.int .i64 i3), (.int .i64 i4)] = T155 p0 n1 n2 i3 i4 := by kernel_rfl


noncomputable def T156k0 : Ex → List Value → Pg :=
  fun e32 l33 => sw e32 .normal (asCons l33 fun v34 l35 => asInt .i64 v34 fun i36 => asNil l35 (.ret .normal [(.int .i64 i36)])) (.fail)

noncomputable def T156k1 (i18 : Int) : Ex → List Value → Pg :=
  fun e27 l28 => sw e27 .normal (asCons l28 fun v29 l30 => asBool v29 fun b31 => asNil l30 (bif b31 then (.join (.ret .normal [(.int .i64 (wi64 (i18 + 1)))]) (T156k0)) else (.ret (.exit 2) [(.int .i64 i18)]))) (.fail)

noncomputable def T156b0 (i4 : Int) (p0 : (Option Addr)) (n1 : Nat) : List Value → Pg :=
  fun l15 => asCons l15 fun v16 l17 => asInt .i64 v16 fun i18 => asNil l17 (.join (bif (decide (i18 < i4)) == true then (asSome p0 fun a19 => grd ((decide (0 ≤ i18)) && (decide (i18 < ((n1 : Nat) : Int)))) (.act (ld1 (aadd a19 ((Int.toNat i18) * 1))) fun v20 => asInt .i64 v20 fun i21 => asSome p0 fun a22 => grd ((decide (0 ≤ (wi64 (i18 - 1)))) && (decide ((wi64 (i18 - 1)) < ((n1 : Nat) : Int)))) (.act (ld1 (aadd a22 ((Int.toNat (wi64 (i18 - 1))) * 1))) fun v23 => asInt .i64 v23 fun i24 => .call 157 [(.int .i64 i21), (.int .i64 i24)] fun v25 => asBool v25 fun b26 => .ret .normal [(.bool (!b26))]))) else (.ret .normal [(.bool false)])) (T156k1 i18))

noncomputable def T156k2 (i57 : Int) : Ex → List Value → Pg :=
  fun e78 l79 => sw e78 (.exit 4) (asNil l79 (.ret (.exit 4) [(.int .i64 i57)])) (sw e78 .normal (asNil l79 (.ret .normal [(.int .i64 (wi64 (i57 - 1)))])) (.fail))

noncomputable def T156b1 (p0 : (Option Addr)) (n1 : Nat) : List Value → Pg :=
  fun l54 => asCons l54 fun v55 l56 => asInt .i64 v55 fun i57 => asNil l56 (bif (decide (i57 ≥ 1)) then (.join (asSome p0 fun a58 => grd ((decide (0 ≤ i57)) && (decide (i57 < ((n1 : Nat) : Int)))) (.act (ld1 (aadd a58 ((Int.toNat i57) * 1))) fun v59 => asInt .i64 v59 fun i60 => asSome p0 fun a61 => grd ((decide (0 ≤ (wi64 (i57 - 1)))) && (decide ((wi64 (i57 - 1)) < ((n1 : Nat) : Int)))) (.act (ld1 (aadd a61 ((Int.toNat (wi64 (i57 - 1))) * 1))) fun v62 => asInt .i64 v62 fun i63 => .call 157 [(.int .i64 i60), (.int .i64 i63)] fun v64 => asBool v64 fun b65 => bif (!b65) then (.ret (.exit 4) []) else (asSome p0 fun a66 => grd ((decide (0 ≤ (wi64 (i57 - 1)))) && (decide ((wi64 (i57 - 1)) < ((n1 : Nat) : Int)))) (.act (ld1 (aadd a66 ((Int.toNat (wi64 (i57 - 1))) * 1))) fun v67 => asInt .i64 v67 fun i68 => asSome p0 fun a69 => grd ((decide (0 ≤ i57)) && (decide (i57 < ((n1 : Nat) : Int)))) (.act (ld1 (aadd a69 ((Int.toNat i57) * 1))) fun v70 => asInt .i64 v70 fun i71 => asSome p0 fun a72 => grd ((decide (0 ≤ i57)) && (decide (i57 < ((n1 : Nat) : Int)))) (.act (stC (aadd a72 ((Int.toNat i57) * 1)) [(.int .i64 i68)]) fun v73 => asTuple v73 fun l74 => asNil l74 (asSome p0 fun a75 => grd ((decide (0 ≤ (wi64 (i57 - 1)))) && (decide ((wi64 (i57 - 1)) < ((n1 : Nat) : Int)))) (.act (stC (aadd a75 ((Int.toNat (wi64 (i57 - 1))) * 1)) [(.int .i64 i71)]) fun v76 => asTuple v76 fun l77 => asNil l77 (.ret .normal [])))))))))) (T156k2 i57)) else (.ret (.exit 4) [(.int .i64 i57)]))

noncomputable def T156k3 : Ex → List Value → Pg :=
  fun e80 l81 => sw e80 (.exit 4) (asCons l81 fun v82 l83 => asInt .i64 v82 fun i84 => asNil l83 (.ret .normal [])) (.fail)

noncomputable def T156k4 (i90 : Int) : Ex → List Value → Pg :=
  fun e111 l112 => sw e111 (.exit 6) (asNil l112 (.ret (.exit 6) [(.int .i64 i90)])) (sw e111 .normal (asNil l112 (.ret .normal [(.int .i64 (wi64 (i90 + 1)))])) (.fail))

noncomputable def T156b2 (i4 : Int) (p0 : (Option Addr)) (n1 : Nat) : List Value → Pg :=
  fun l87 => asCons l87 fun v88 l89 => asInt .i64 v88 fun i90 => asNil l89 (bif (decide (i90 < i4)) then (.join (asSome p0 fun a91 => grd ((decide (0 ≤ i90)) && (decide (i90 < ((n1 : Nat) : Int)))) (.act (ld1 (aadd a91 ((Int.toNat i90) * 1))) fun v92 => asInt .i64 v92 fun i93 => asSome p0 fun a94 => grd ((decide (0 ≤ (wi64 (i90 - 1)))) && (decide ((wi64 (i90 - 1)) < ((n1 : Nat) : Int)))) (.act (ld1 (aadd a94 ((Int.toNat (wi64 (i90 - 1))) * 1))) fun v95 => asInt .i64 v95 fun i96 => .call 157 [(.int .i64 i93), (.int .i64 i96)] fun v97 => asBool v97 fun b98 => bif (!b98) then (.ret (.exit 6) []) else (asSome p0 fun a99 => grd ((decide (0 ≤ (wi64 (i90 - 1)))) && (decide ((wi64 (i90 - 1)) < ((n1 : Nat) : Int)))) (.act (ld1 (aadd a99 ((Int.toNat (wi64 (i90 - 1))) * 1))) fun v100 => asInt .i64 v100 fun i101 => asSome p0 fun a102 => grd ((decide (0 ≤ i90)) && (decide (i90 < ((n1 : Nat) : Int)))) (.act (ld1 (aadd a102 ((Int.toNat i90) * 1))) fun v103 => asInt .i64 v103 fun i104 => asSome p0 fun a105 => grd ((decide (0 ≤ i90)) && (decide (i90 < ((n1 : Nat) : Int)))) (.act (stC (aadd a105 ((Int.toNat i90) * 1)) [(.int .i64 i101)]) fun v106 => asTuple v106 fun l107 => asNil l107 (asSome p0 fun a108 => grd ((decide (0 ≤ (wi64 (i90 - 1)))) && (decide ((wi64 (i90 - 1)) < ((n1 : Nat) : Int)))) (.act (stC (aadd a108 ((Int.toNat (wi64 (i90 - 1))) * 1)) [(.int .i64 i104)]) fun v109 => asTuple v109 fun l110 => asNil l110 (.ret .normal [])))))))))) (T156k4 i90)) else (.ret (.exit 6) [(.int .i64 i90)]))

noncomputable def T156k5 : Ex → List Value → Pg :=
  fun e113 l114 => sw e113 (.exit 6) (asCons l114 fun v115 l116 => asInt .i64 v115 fun i117 => asNil l116 (.ret .normal [])) (.fail)

noncomputable def T156k6 (b11 : Bool) (i41 : Int) : Ex → List Value → Pg :=
  fun e118 l119 => sw e118 .normal (asNil l119 (.ret .normal [(.bool b11), (.int .i64 i41)])) (.fail)

noncomputable def T156k7 (i4 : Int) (i41 : Int) (p0 : (Option Addr)) (n1 : Nat) (b11 : Bool) : Ex → List Value → Pg :=
  fun e85 l86 => sw e85 .normal (asNil l86 (.join (bif (decide ((wi64 (i4 - i41)) ≥ 2)) then (.loop [(.int .i64 (wi64 (i41 + 1)))] (T156b2 i4 p0 n1) (T156k5)) else (.ret .normal [])) (T156k6 b11 i41))) (.fail)

noncomputable def T156k8 (i4 : Int) (i3 : Int) (p0 : (Option Addr)) (n1 : Nat) (b11 : Bool) : Ex → List Value → Pg :=
  fun e37 l38 => sw e37 (.exit 2) (asCons l38 fun v39 l40 => asInt .i64 v39 fun i41 => asNil l40 (bif (i41 == i4) then (.ret .ret [(.bool true), (.int .i64 i41)]) else (bif (decide ((wi64 (i4 - i3)) < 50)) then (.ret .ret [(.bool false), (.int .i64 i41)]) else (asSome p0 fun a42 => grd ((decide (0 ≤ (wi64 (i41 - 1)))) && (decide ((wi64 (i41 - 1)) < ((n1 : Nat) : Int)))) (.act (ld1 (aadd a42 ((Int.toNat (wi64 (i41 - 1))) * 1))) fun v43 => asInt .i64 v43 fun i44 => asSome p0 fun a45 => grd ((decide (0 ≤ i41)) && (decide (i41 < ((n1 : Nat) : Int)))) (.act (ld1 (aadd a45 ((Int.toNat i41) * 1))) fun v46 => asInt .i64 v46 fun i47 => asSome p0 fun a48 => grd ((decide (0 ≤ i41)) && (decide (i41 < ((n1 : Nat) : Int)))) (.act (stC (aadd a48 ((Int.toNat i41) * 1)) [(.int .i64 i44)]) fun v49 => asTuple v49 fun l50 => asNil l50 (asSome p0 fun a51 => grd ((decide (0 ≤ (wi64 (i41 - 1)))) && (decide ((wi64 (i41 - 1)) < ((n1 : Nat) : Int)))) (.act (stC (aadd a51 ((Int.toNat (wi64 (i41 - 1))) * 1)) [(.int .i64 i47)]) fun v52 => asTuple v52 fun l53 => asNil l53 (.join (bif (decide ((wi64 (i41 - i3)) ≥ 2)) then (.loop [(.int .i64 (wi64 (i41 - 1)))] (T156b1 p0 n1) (T156k3)) else (.ret .normal [])) (T156k7 i4 i41 p0 n1 b11))))))))))) (.fail)

noncomputable def T156k9 (i8 : Int) : Ex → List Value → Pg :=
  fun e120 l121 => sw e120 .ret (asCons l121 fun v122 l123 => asBool v122 fun b124 => asCons l123 fun v125 l126 => asInt .i64 v125 fun i127 => asNil l126 (.ret .ret [(.int .i64 i8), (.bool b124), (.int .i64 i127)])) (sw e120 .normal (asCons l121 fun v128 l129 => asBool v128 fun b130 => asCons l129 fun v131 l132 => asInt .i64 v131 fun i133 => asNil l132 (.ret .normal [(.int .i64 (wi64 (i8 + 1))), (.bool b130), (.int .i64 i133)])) (.fail))

noncomputable def T156b3 (i4 : Int) (p0 : (Option Addr)) (n1 : Nat) (i3 : Int) : List Value → Pg :=
  fun l5 => asCons l5 fun v6 l7 => asInt .i64 v6 fun i8 => asCons l7 fun v9 l10 => asBool v9 fun b11 => asCons l10 fun v12 l13 => asInt .i64 v12 fun i14 => asNil l13 (bif (decide (i8 < 5)) then (.join (.loop [(.int .i64 i14)] (T156b0 i4 p0 n1) (T156k8 i4 i3 p0 n1 b11)) (T156k9 i8)) else (.ret (.exit 0) [(.int .i64 i8), (.bool b11), (.int .i64 i14)]))

noncomputable def T156k10 : Ex → List Value → Pg :=
  fun e134 l135 => sw e134 (.exit 0) (asCons l135 fun v136 l137 => asInt .i64 v136 fun i138 => asCons l137 fun v139 l140 => asBool v139 fun b141 => asCons l140 fun v142 l143 => asInt .i64 v142 fun i144 => asNil l143 (.ret .ret [(.bool false)])) (sw e134 .ret (asCons l135 fun v145 l146 => asInt .i64 v145 fun i147 => asCons l146 fun v148 l149 => asBool v148 fun b150 => asCons l149 fun v151 l152 => asInt .i64 v151 fun i153 => asNil l152 (.ret .ret [(.bool b150)])) (.fail))

/-- slices.partialInsertionSortOrdered[int] -/
noncomputable def T156 (p0 : (Option Addr)) (n1 : Nat) (n2 : Nat) (i3 : Int) (i4 : Int) : Pg :=
  .loop [(.int .i64 0), (.bool false), (.int .i64 (wi64 (i3 + 1)))] (T156b3 i4 p0 n1 i3) (T156k10)
theorem T156_eq (p0 : (Option Addr)) (n1 : Nat) (n2 : Nat) (i3 : Int) (i4 : Int) : progOf PROG false 156 [(.slice p0 n1 n2), (.int .i64 i3), (.int .i64 i4)] = T156 p0 n1 n2 i3 i4 := by kernel_rfl


noncomputable def T157k0 : Ex → List Value → Pg :=
  fun e6 l7 => sw e6 .normal (asCons l7 fun v8 l9 => asBool v8 fun b10 => asNil l9 (.ret .ret [(.bool b10)])) (.fail)

/-- cmp.Less[int] -/
noncomputable def T157 (i0 : Int) (i1 : Int) : Pg :=
  .join (.call 171 [(.int .i64 i0)] fun v2 => asBool v2 fun b3 => bif b3 == true then (.call 171 [(.int .i64 i1)] fun v4 => asBool v4 fun b5 => .ret .normal [(.bool ((!b5) || (decide (i0 < i1))))]) else (.ret .normal [(.bool (decide (i0 < i1)))])) (T157k0)
theorem T157_eq (i0 : Int) (i1 : Int) : progOf PROG false 157 [(.int .i64 i0), (.int .i64 i1)] = T157 i0 i1 := by kernel_rfl


noncomputable def T158k0 : Ex → List Value → Pg :=
  fun e42 l43 => sw e42 .normal (asCons l43 fun v44 l45 => asInt .i64 v44 fun i46 => asNil l45 (.ret .normal [(.int .i64 i46)])) (.fail)

noncomputable def T158k1 (i28 : Int) : Ex → List Value → Pg :=
  fun e37 l38 => sw e37 .normal (asCons l38 fun v39 l40 => asBool v39 fun b41 => asNil l40 (bif b41 then (.join (.ret .normal [(.int .i64 (wi64 (i28 + 1)))]) (T158k0)) else (.ret (.exit 2) [(.int .i64 i28)]))) (.fail)

noncomputable def T158b0 (i21 : Int) (p0 : (Option Addr)) (i3 : Int) (n1 : Nat) : List Value → Pg :=
  fun l25 => asCons l25 fun v26 l27 => asInt .i64 v26 fun i28 => asNil l27 (.join (bif (decide (i28 ≤ i21)) == true then (asSome p0 fun a29 => grd ((decide (0 ≤ i3)) && (decide (i3 < ((n1 : Nat) : Int)))) (.act (ld1 (aadd a29 ((Int.toNat i3) * 1))) fun v30 => asInt .i64 v30 fun i31 => asSome p0 fun a32 => grd ((decide (0 ≤ i28)) && (decide (i28 < ((n1 : Nat) : Int)))) (.act (ld1 (aadd a32 ((Int.toNat i28) * 1))) fun v33 => asInt .i64 v33 fun i34 => .call 157 [(.int .i64 i31), (.int .i64 i34)] fun v35 => asBool v35 fun b36 => .ret .normal [(.bool (!b36))]))) else (.ret .normal [(.bool false)])) (T158k1 i28))

noncomputable def T158k2 : Ex → List Value → Pg :=
  fun e69 l70 => sw e69 .normal (asCons l70 fun v71 l72 => asInt .i64 v71 fun i73 => asNil l72 (.ret .normal [(.int .i64 i73)])) (.fail)

noncomputable def T158k3 (i55 : Int) : Ex → List Value → Pg :=
  fun e64 l65 => sw e64 .normal (asCons l65 fun v66 l67 => asBool v66 fun b68 => asNil l67 (bif b68 then (.join (.ret .normal [(.int .i64 (wi64 (i55 - 1)))]) (T158k2)) else (.ret (.exit 4) [(.int .i64 i55)]))) (.fail)

noncomputable def T158b1 (i51 : Int) (p0 : (Option Addr)) (i3 : Int) (n1 : Nat) : List Value → Pg :=
  fun l52 => asCons l52 fun v53 l54 => asInt .i64 v53 fun i55 => asNil l54 (.join (bif (decide (i51 ≤ i55)) == true then (asSome p0 fun a56 => grd ((decide (0 ≤ i3)) && (decide (i3 < ((n1 : Nat) : Int)))) (.act (ld1 (aadd a56 ((Int.toNat i3) * 1))) fun v57 => asInt .i64 v57 fun i58 => asSome p0 fun a59 => grd ((decide (0 ≤ i55)) && (decide (i55 < ((n1 : Nat) : Int)))) (.act (ld1 (aadd a59 ((Int.toNat i55) * 1))) fun v60 => asInt .i64 v60 fun i61 => .call 157 [(.int .i64 i58), (.int .i64 i61)] fun v62 => asBool v62 fun b63 => .ret .normal [(.bool b63)]))) else (.ret .normal [(.bool false)])) (T158k3 i55))

noncomputable def T158k4 (i51 : Int) (p0 : (Option Addr)) (n1 : Nat) : Ex → List Value → Pg :=
  fun e74 l75 => sw e74 (.exit 4) (asCons l75 fun v76 l77 => asInt .i64 v76 fun i78 => asNil l77 (bif (decide (i51 > i78)) then (.ret (.exit 0) [(.int .i64 i78), (.int .i64 i51)]) else (asSome p0 fun a79 => grd ((decide (0 ≤ i78)) && (decide (i78 < ((n1 : Nat) : Int)))) (.act (ld1 (aadd a79 ((Int.toNat i78) * 1))) fun v80 => asInt .i64 v80 fun i81 => asSome p0 fun a82 => grd ((decide (0 ≤ i51)) && (decide (i51 < ((n1 : Nat) : Int)))) (.act (ld1 (aadd a82 ((Int.toNat i51) * 1))) fun v83 => asInt .i64 v83 fun i84 => asSome p0 fun a85 => grd ((decide (0 ≤ i51)) && (decide (i51 < ((n1 : Nat) : Int)))) (.act (stC (aadd a85 ((Int.toNat i51) * 1)) [(.int .i64 i81)]) fun v86 => asTuple v86 fun l87 => asNil l87 (asSome p0 fun a88 => grd ((decide (0 ≤ i78)) && (decide (i78 < ((n1 : Nat) : Int)))) (.act (stC (aadd a88 ((Int.toNat i78) * 1)) [(.int .i64 i84)]) fun v89 => asTuple v89 fun l90 => asNil l90 (.ret .normal [(.int .i64 (wi64 (i78 - 1))), (.int .i64 (wi64 (i51 + 1)))]))))))))) (.fail)

noncomputable def T158k5 (i21 : Int) (p0 : (Option Addr)) (i3 : Int) (n1 : Nat) : Ex → List Value → Pg :=
  fun e47 l48 => sw e47 (.exit 2) (asCons l48 fun v49 l50 => asInt .i64 v49 fun i51 => asNil l50 (.loop [(.int .i64 i21)] (T158b1 i51 p0 i3 n1) (T158k4 i51 p0 n1))) (.fail)

noncomputable def T158k6 : Ex → List Value → Pg :=
  fun e91 l92 => sw e91 (.exit 0) (asCons l92 fun v93 l94 => asInt .i64 v93 fun i95 => asCons l94 fun v96 l97 => asInt .i64 v96 fun i98 => asNil l97 (.ret (.exit 0) [(.int .i64 i95), (.int .i64 i98)])) (sw e91 .normal (asCons l92 fun v99 l100 => asInt .i64 v99 fun i101 => asCons l100 fun v102 l103 => asInt .i64 v102 fun i104 => asNil l103 (.ret .normal [(.int .i64 i101), (.int .i64 i104)])) (.fail))

noncomputable def T158b2 (p0 : (Option Addr)) (i3 : Int) (n1 : Nat) : List Value → Pg :=
  fun l18 => asCons l18 fun v19 l20 => asInt .i64 v19 fun i21 => asCons l20 fun v22 l23 => asInt .i64 v22 fun i24 => asNil l23 (.join (.loop [(.int .i64 i24)] (T158b0 i21 p0 i3 n1) (T158k5 i21 p0 i3 n1)) (T158k6))

noncomputable def T158k7 : Ex → List Value → Pg :=
  fun e105 l106 => sw e105 (.exit 0) (asCons l106 fun v107 l108 => asInt .i64 v107 fun i109 => asCons l108 fun v110 l111 => asInt .i64 v110 fun i112 => asNil l111 (.ret .ret [(.int .i64 i112)])) (.fail)

/-- slices.partitionEqualOrdered[int] -/
noncomputable def T158 (p0 : (Option Addr)) (n1 : Nat) (n2 : Nat) (i3 : Int) (i4 : Int) (i5 : Int) : Pg :=
  asSome p0 fun a6 => grd ((decide (0 ≤ i5)) && (decide (i5 < ((n1 : Nat) : Int)))) (.act (ld1 (aadd a6 ((Int.toNat i5) * 1))) fun v7 => asInt .i64 v7 fun i8 => asSome p0 fun a9 => grd ((decide (0 ≤ i3)) && (decide (i3 < ((n1 : Nat) : Int)))) (.act (ld1 (aadd a9 ((Int.toNat i3) * 1))) fun v10 => asInt .i64 v10 fun i11 => asSome p0 fun a12 => grd ((decide (0 ≤ i3)) && (decide (i3 < ((n1 : Nat) : Int)))) (.act (stC (aadd a12 ((Int.toNat i3) * 1)) [(.int .i64 i8)]) fun v13 => asTuple v13 fun l14 => asNil l14 (asSome p0 fun a15 => grd ((decide (0 ≤ i5)) && (decide (i5 < ((n1 : Nat) : Int)))) (.act (stC (aadd a15 ((Int.toNat i5) * 1)) [(.int .i64 i11)]) fun v16 => asTuple v16 fun l17 => asNil l17 (.loop [(.int .i64 (wi64 (i4 - 1))), (.int .i64 (wi64 (i3 + 1)))] (T158b2 p0 i3 n1) (T158k7)))))))
theorem T158_eq (p0 : (Option Addr)) (n1 : Nat) (n2 : Nat) (i3 : Int) (i4 : Int) (i5 : Int) : progOf PROG false 158 [(.slice p0 n1 n2), (.int .i64 i3), (.int .i64 i4), (.int .i64 i5)] = T158 p0 n1 n2 i3 i4 i5 := by kernel_rfl


noncomputable def T159k0 : Ex → List Value → Pg :=
  fun e35 l36 => sw e35 .normal (asCons l36 fun v37 l38 => asInt .i64 v37 fun i39 => asNil l38 (.ret .normal [(.int .i64 i39)])) (.fail)

noncomputable def T159k1 (i21 : Int) : Ex → List Value → Pg :=
  fun e30 l31 => sw e30 .normal (asCons l31 fun v32 l33 => asBool v32 fun b34 => asNil l33 (bif b34 then (.join (.ret .normal [(.int .i64 (wi64 (i21 + 1)))]) (T159k0)) else (.ret (.exit 0) [(.int .i64 i21)]))) (.fail)

noncomputable def T159b0 (i4 : Int) (p0 : (Option Addr)) (n1 : Nat) (i3 : Int) : List Value → Pg :=
  fun l18 => asCons l18 fun v19 l20 => asInt .i64 v19 fun i21 => asNil l20 (.join (bif (decide (i21 ≤ (wi64 (i4 - 1)))) == true then (asSome p0 fun a22 => grd ((decide (0 ≤ i21)) && (decide (i21 < ((n1 : Nat) : Int)))) (.act (ld1 (aadd a22 ((Int.toNat i21) * 1))) fun v23 => asInt .i64 v23 fun i24 => asSome p0 fun a25 => grd ((decide (0 ≤ i3)) && (decide (i3 < ((n1 : Nat) : Int)))) (.act (ld1 (aadd a25 ((Int.toNat i3) * 1))) fun v26 => asInt .i64 v26 fun i27 => .call 157 [(.int .i64 i24), (.int .i64 i27)] fun v28 => asBool v28 fun b29 => .ret .normal [(.bool b29)]))) else (.ret .normal [(.bool false)])) (T159k1 i21))

noncomputable def T159k2 : Ex → List Value → Pg :=
  fun e62 l63 => sw e62 .normal (asCons l63 fun v64 l65 => asInt .i64 v64 fun i66 => asNil l65 (.ret .normal [(.int .i64 i66)])) (.fail)

noncomputable def T159k3 (i48 : Int) : Ex → List Value → Pg :=
  fun e57 l58 => sw e57 .normal (asCons l58 fun v59 l60 => asBool v59 fun b61 => asNil l60 (bif b61 then (.join (.ret .normal [(.int .i64 (wi64 (i48 - 1)))]) (T159k2)) else (.ret (.exit 2) [(.int .i64 i48)]))) (.fail)

noncomputable def T159b1 (i44 : Int) (p0 : (Option Addr)) (n1 : Nat) (i3 : Int) : List Value → Pg :=
  fun l45 => asCons l45 fun v46 l47 => asInt .i64 v46 fun i48 => asNil l47 (.join (bif (decide (i44 ≤ i48)) == true then (asSome p0 fun a49 => grd ((decide (0 ≤ i48)) && (decide (i48 < ((n1 : Nat) : Int)))) (.act (ld1 (aadd a49 ((Int.toNat i48) * 1))) fun v50 => asInt .i64 v50 fun i51 => asSome p0 fun a52 => grd ((decide (0 ≤ i3)) && (decide (i3 < ((n1 : Nat) : Int)))) (.act (ld1 (aadd a52 ((Int.toNat i3) * 1))) fun v53 => asInt .i64 v53 fun i54 => .call 157 [(.int .i64 i51), (.int .i64 i54)] fun v55 => asBool v55 fun b56 => .ret .normal [(.bool (!b56))]))) else (.ret .normal [(.bool false)])) (T159k3 i48))

noncomputable def T159k4 : Ex → List Value → Pg :=
  fun e120 l121 => sw e120 .normal (asCons l121 fun v122 l123 => asInt .i64 v122 fun i124 => asNil l123 (.ret .normal [(.int .i64 i124)])) (.fail)

noncomputable def T159k5 (i106 : Int) : Ex → List Value → Pg :=
  fun e115 l116 => sw e115 .normal (asCons l116 fun v117 l118 => asBool v117 fun b119 => asNil l118 (bif b119 then (.join (.ret .normal [(.int .i64 (wi64 (i106 + 1)))]) (T159k4)) else (.ret (.exit 6) [(.int .i64 i106)]))) (.fail)

noncomputable def T159b2 (i99 : Int) (p0 : (Option Addr)) (n1 : Nat) (i3 : Int) : List Value → Pg :=
  fun l103 => asCons l103 fun v104 l105 => asInt .i64 v104 fun i106 => asNil l105 (.join (bif (decide (i106 ≤ i99)) == true then (asSome p0 fun a107 => grd ((decide (0 ≤ i106)) && (decide (i106 < ((n1 : Nat) : Int)))) (.act (ld1 (aadd a107 ((Int.toNat i106) * 1))) fun v108 => asInt .i64 v108 fun i109 => asSome p0 fun a110 => grd ((decide (0 ≤ i3)) && (decide (i3 < ((n1 : Nat) : Int)))) (.act (ld1 (aadd a110 ((Int.toNat i3) * 1))) fun v111 => asInt .i64 v111 fun i112 => .call 157 [(.int .i64 i109), (.int .i64 i112)] fun v113 => asBool v113 fun b114 => .ret .normal [(.bool b114)]))) else (.ret .normal [(.bool false)])) (T159k5 i106))

noncomputable def T159k6 : Ex → List Value → Pg :=
  fun e147 l148 => sw e147 .normal (asCons l148 fun v149 l150 => asInt .i64 v149 fun i151 => asNil l150 (.ret .normal [(.int .i64 i151)])) (.fail)

noncomputable def T159k7 (i133 : Int) : Ex → List Value → Pg :=
  fun e142 l143 => sw e142 .normal (asCons l143 fun v144 l145 => asBool v144 fun b146 => asNil l145 (bif b146 then (.join (.ret .normal [(.int .i64 (wi64 (i133 - 1)))]) (T159k6)) else (.ret (.exit 8) [(.int .i64 i133)]))) (.fail)

noncomputable def T159b3 (i129 : Int) (p0 : (Option Addr)) (n1 : Nat) (i3 : Int) : List Value → Pg :=
  fun l130 => asCons l130 fun v131 l132 => asInt .i64 v131 fun i133 => asNil l132 (.join (bif (decide (i129 ≤ i133)) == true then (asSome p0 fun a134 => grd ((decide (0 ≤ i133)) && (decide (i133 < ((n1 : Nat) : Int)))) (.act (ld1 (aadd a134 ((Int.toNat i133) * 1))) fun v135 => asInt .i64 v135 fun i136 => asSome p0 fun a137 => grd ((decide (0 ≤ i3)) && (decide (i3 < ((n1 : Nat) : Int)))) (.act (ld1 (aadd a137 ((Int.toNat i3) * 1))) fun v138 => asInt .i64 v138 fun i139 => .call 157 [(.int .i64 i136), (.int .i64 i139)] fun v140 => asBool v140 fun b141 => .ret .normal [(.bool (!b141))]))) else (.ret .normal [(.bool false)])) (T159k7 i133))

noncomputable def T159k8 (i129 : Int) (p0 : (Option Addr)) (n1 : Nat) : Ex → List Value → Pg :=
  fun e152 l153 => sw e152 (.exit 8) (asCons l153 fun v154 l155 => asInt .i64 v154 fun i156 => asNil l155 (bif (decide (i129 > i156)) then (.ret (.exit 4) [(.int .i64 i156), (.int .i64 i129)]) else (asSome p0 fun a157 => grd ((decide (0 ≤ i156)) && (decide (i156 < ((n1 : Nat) : Int)))) (.act (ld1 (aadd a157 ((Int.toNat i156) * 1))) fun v158 => asInt .i64 v158 fun i159 => asSome p0 fun a160 => grd ((decide (0 ≤ i129)) && (decide (i129 < ((n1 : Nat) : Int)))) (.act (ld1 (aadd a160 ((Int.toNat i129) * 1))) fun v161 => asInt .i64 v161 fun i162 => asSome p0 fun a163 => grd ((decide (0 ≤ i129)) && (decide (i129 < ((n1 : Nat) : Int)))) (.act (stC (aadd a163 ((Int.toNat i129) * 1)) [(.int .i64 i159)]) fun v164 => asTuple v164 fun l165 => asNil l165 (asSome p0 fun a166 => grd ((decide (0 ≤ i156)) && (decide (i156 < ((n1 : Nat) : Int)))) (.act (stC (aadd a166 ((Int.toNat i156) * 1)) [(.int .i64 i162)]) fun v167 => asTuple v167 fun l168 => asNil l168 (.ret .normal [(.int .i64 (wi64 (i156 - 1))), (.int .i64 (wi64 (i129 + 1)))]))))))))) (.fail)

noncomputable def T159k9 (i99 : Int) (p0 : (Option Addr)) (n1 : Nat) (i3 : Int) : Ex → List Value → Pg :=
  fun e125 l126 => sw e125 (.exit 6) (asCons l126 fun v127 l128 => asInt .i64 v127 fun i129 => asNil l128 (.loop [(.int .i64 i99)] (T159b3 i129 p0 n1 i3) (T159k8 i129 p0 n1))) (.fail)

noncomputable def T159k10 : Ex → List Value → Pg :=
  fun e169 l170 => sw e169 (.exit 4) (asCons l170 fun v171 l172 => asInt .i64 v171 fun i173 => asCons l172 fun v174 l175 => asInt .i64 v174 fun i176 => asNil l175 (.ret (.exit 4) [(.int .i64 i173), (.int .i64 i176)])) (sw e169 .normal (asCons l170 fun v177 l178 => asInt .i64 v177 fun i179 => asCons l178 fun v180 l181 => asInt .i64 v180 fun i182 => asNil l181 (.ret .normal [(.int .i64 i179), (.int .i64 i182)])) (.fail))

noncomputable def T159b4 (p0 : (Option Addr)) (n1 : Nat) (i3 : Int) : List Value → Pg :=
  fun l96 => asCons l96 fun v97 l98 => asInt .i64 v97 fun i99 => asCons l98 fun v100 l101 => asInt .i64 v100 fun i102 => asNil l101 (.join (.loop [(.int .i64 i102)] (T159b2 i99 p0 n1 i3) (T159k9 i99 p0 n1 i3)) (T159k10))

noncomputable def T159k11 (p0 : (Option Addr)) (i3 : Int) (n1 : Nat) : Ex → List Value → Pg :=
  fun e183 l184 => sw e183 (.exit 4) (asCons l184 fun v185 l186 => asInt .i64 v185 fun i187 => asCons l186 fun v188 l189 => asInt .i64 v188 fun i190 => asNil l189 (asSome p0 fun a191 => grd ((decide (0 ≤ i3)) && (decide (i3 < ((n1 : Nat) : Int)))) (.act (ld1 (aadd a191 ((Int.toNat i3) * 1))) fun v192 => asInt .i64 v192 fun i193 => asSome p0 fun a194 => grd ((decide (0 ≤ i187)) && (decide (i187 < ((n1 : Nat) : Int)))) (.act (ld1 (aadd a194 ((Int.toNat i187) * 1))) fun v195 => asInt .i64 v195 fun i196 => asSome p0 fun a197 => grd ((decide (0 ≤ i187)) && (decide (i187 < ((n1 : Nat) : Int)))) (.act (stC (aadd a197 ((Int.toNat i187) * 1)) [(.int .i64 i193)]) fun v198 => asTuple v198 fun l199 => asNil l199 (asSome p0 fun a200 => grd ((decide (0 ≤ i3)) && (decide (i3 < ((n1 : Nat) : Int)))) (.act (stC (aadd a200 ((Int.toNat i3) * 1)) [(.int .i64 i196)]) fun v201 => asTuple v201 fun l202 => asNil l202 (.ret .ret [(.tuple #[(.int .i64 i187), (.bool false)])])))))))) (.fail)

noncomputable def T159k12 (i44 : Int) (p0 : (Option Addr)) (i3 : Int) (n1 : Nat) : Ex → List Value → Pg :=
  fun e67 l68 => sw e67 (.exit 2) (asCons l68 fun v69 l70 => asInt .i64 v69 fun i71 => asNil l70 (bif (decide (i44 > i71)) then (asSome p0 fun a72 => grd ((decide (0 ≤ i3)) && (decide (i3 < ((n1 : Nat) : Int)))) (.act (ld1 (aadd a72 ((Int.toNat i3) * 1))) fun v73 => asInt .i64 v73 fun i74 => asSome p0 fun a75 => grd ((decide (0 ≤ i71)) && (decide (i71 < ((n1 : Nat) : Int)))) (.act (ld1 (aadd a75 ((Int.toNat i71) * 1))) fun v76 => asInt .i64 v76 fun i77 => asSome p0 fun a78 => grd ((decide (0 ≤ i71)) && (decide (i71 < ((n1 : Nat) : Int)))) (.act (stC (aadd a78 ((Int.toNat i71) * 1)) [(.int .i64 i74)]) fun v79 => asTuple v79 fun l80 => asNil l80 (asSome p0 fun a81 => grd ((decide (0 ≤ i3)) && (decide (i3 < ((n1 : Nat) : Int)))) (.act (stC (aadd a81 ((Int.toNat i3) * 1)) [(.int .i64 i77)]) fun v82 => asTuple v82 fun l83 => asNil l83 (.ret .ret [(.tuple #[(.int .i64 i71), (.bool true)])]))))))) else (asSome p0 fun a84 => grd ((decide (0 ≤ i71)) && (decide (i71 < ((n1 : Nat) : Int)))) (.act (ld1 (aadd a84 ((Int.toNat i71) * 1))) fun v85 => asInt .i64 v85 fun i86 => asSome p0 fun a87 => grd ((decide (0 ≤ i44)) && (decide (i44 < ((n1 : Nat) : Int)))) (.act (ld1 (aadd a87 ((Int.toNat i44) * 1))) fun v88 => asInt .i64 v88 fun i89 => asSome p0 fun a90 => grd ((decide (0 ≤ i44)) && (decide (i44 < ((n1 : Nat) : Int)))) (.act (stC (aadd a90 ((Int.toNat i44) * 1)) [(.int .i64 i86)]) fun v91 => asTuple v91 fun l92 => asNil l92 (asSome p0 fun a93 => grd ((decide (0 ≤ i71)) && (decide (i71 < ((n1 : Nat) : Int)))) (.act (stC (aadd a93 ((Int.toNat i71) * 1)) [(.int .i64 i89)]) fun v94 => asTuple v94 fun l95 => asNil l95 (.loop [(.int .i64 (wi64 (i71 - 1))), (.int .i64 (wi64 (i44 + 1)))] (T159b4 p0 n1 i3) (T159k11 p0 i3 n1)))))))))) (.fail)

noncomputable def T159k13 (i4 : Int) (p0 : (Option Addr)) (n1 : Nat) (i3 : Int) : Ex → List Value → Pg :=
  fun e40 l41 => sw e40 (.exit 0) (asCons l41 fun v42 l43 => asInt .i64 v42 fun i44 => asNil l43 (.loop [(.int .i64 (wi64 (i4 - 1)))] (T159b1 i44 p0 n1 i3) (T159k12 i44 p0 i3 n1))) (.fail)

/-- slices.partitionOrdered[int] -/
noncomputable def T159 (p0 : (Option Addr)) (n1 : Nat) (n2 : Nat) (i3 : Int) (i4 : Int) (i5 : Int) : Pg :=
  asSome p0 fun a6 => grd ((decide (0 ≤ i5)) && (decide (i5 < ((n1 : Nat) : Int)))) (.act (ld1 (aadd a6 ((Int.toNat i5) * 1))) fun v7 => asInt .i64 v7 fun i8 => asSome p0 fun a9 => grd ((decide (0 ≤ i3)) && (decide (i3 < ((n1 : Nat) : Int)))) (.act (ld1 (aadd a9 ((Int.toNat i3) * 1))) fun v10 => asInt .i64 v10 fun i11 => asSome p0 fun a12 => grd ((decide (0 ≤ i3)) && (decide (i3 < ((n1 : Nat) : Int)))) (.act (stC (aadd a12 ((Int.toNat i3) * 1)) [(.int .i64 i8)]) fun v13 => asTuple v13 fun l14 => asNil l14 (asSome p0 fun a15 => grd ((decide (0 ≤ i5)) && (decide (i5 < ((n1 : Nat) : Int)))) (.act (stC (aadd a15 ((Int.toNat i5) * 1)) [(.int .i64 i11)]) fun v16 => asTuple v16 fun l17 => asNil l17 (.loop [(.int .i64 (wi64 (i3 + 1)))] (T159b0 i4 p0 n1 i3) (T159k13 i4 p0 n1 i3)))))))
theorem T159_eq (p0 : (Option Addr)) (n1 : Nat) (n2 : Nat) (i3 : Int) (i4 : Int) (i5 : Int) : progOf PROG false 159 [(.slice p0 n1 n2), (.int .i64 i3), (.int .i64 i4), (.int .i64 i5)] = T159 p0 n1 n2 i3 i4 i5 := by kernel_rfl


noncomputable def T163k0 : Ex → List Value → Pg :=
  fun e11 l12 => sw e11 .normal (asCons l12 fun v13 l14 => asPtr v13 fun p15 => asCons l14 fun v16 l17 => asInt .i64 v16 fun i18 => asNil l17 (.ret .normal [(.pointer p15), (.int .i64 i18)])) (sw e11 .ret (asCons l12 fun v19 l20 => asPtr v19 fun p21 => asCons l20 fun v22 l23 => asInt .i64 v22 fun i24 => asNil l23 (.ret .ret [(.pointer p21), (.int .i64 i24)])) (.fail))

noncomputable def T163k1 : Ex → List Value → Pg :=
  fun e25 l26 => sw e25 .normal (asCons l26 fun v27 l28 => asPtr v27 fun p29 => asCons l28 fun v30 l31 => asInt .i64 v30 fun i32 => asNil l31 (.ret .normal [(.pointer p29), (.int .i64 i32)])) (sw e25 .ret (asCons l26 fun v33 l34 => asPtr v33 fun p35 => asCons l34 fun v36 l37 => asInt .i64 v36 fun i38 => asNil l37 (.ret .ret [(.pointer p35), (.int .i64 i38)])) (.fail))

noncomputable def T163k2 : Ex → List Value → Pg :=
  fun e39 l40 => sw e39 .normal (asCons l40 fun v41 l42 => asPtr v41 fun p43 => asCons l42 fun v44 l45 => asInt .i64 v44 fun i46 => asNil l45 (.ret .normal [(.pointer p43), (.int .i64 i46)])) (sw e39 .ret (asCons l40 fun v47 l48 => asPtr v47 fun p49 => asCons l48 fun v50 l51 => asInt .i64 v50 fun i52 => asNil l51 (.ret .ret [(.pointer p49), (.int .i64 i52)])) (.fail))

noncomputable def T163k3 (p0 : (Option Addr)) : Ex → List Value → Pg :=
  fun e53 l54 => sw e53 .normal (asCons l54 fun v55 l56 => asPtr v55 fun p57 => asCons l56 fun v58 l59 => asInt .i64 v58 fun i60 => asNil l59 (.call 29 [(.pointer p0)] fun v61 => asAgg v61 fun l62 => asCons l62 fun v63 l64 => asInt .i64 v63 fun i65 => asCons l64 fun v66 l67 => asStr v66 fun s68 => asCons l67 fun v69 l70 => asInt .i64 v69 fun i71 => asCons l70 fun v72 l73 => asInt .i64 v72 fun i74 => asNil l73 (.act (newC [(.int .i64 0), (.string (bs [])), (.int .i64 0), (.int .i64 0)]) fun v75 => asPtr v75 fun p76 => asSome p76 fun a77 => .act (stC a77 [(.int .i64 i65), (.string s68), (.int .i64 i71), (.int .i64 i74)]) fun v78 => asTuple v78 fun l79 => asNil l79 (.act (ld1 (aadd a77 2)) fun v80 => asInt .i64 v80 fun i81 => .call 163 [(.pointer p0)] fun v82 => asPtr v82 fun p83 => .get fun h91 => grd (chks [((ld1 (aadd a77 2)), v80)] h91) (.act (bdSl 1 1 [(.pointer p83)]) fun v84 => asSlice v84 fun p85 n86 n87 => .get fun h90 => grd (chks [((ld1 (aadd a77 2)), v80)] h90) (.call 34 [(.int .i64 i60), (.int .i64 i81), (.slice p85 n86 n87)] fun v88 => asPtr v88 fun p89 => .ret .ret [(.pointer p89)])))))) (sw e53 .ret (asCons l54 fun v92 l93 => asPtr v92 fun p94 => asCons l93 fun v95 l96 => asInt .i64 v95 fun i97 => asNil l96 (.ret .ret [(.pointer p94)])) (.fail))

/-- (*hindsight/parse.parser).pre -/
noncomputable def T163 (p0 : (Option Addr)) : Pg :=
  .join (.call 15 [(.pointer p0), (.int .i64 0), (.string (bs [114, 101, 102]))] fun v1 => asBool v1 fun b2 => .join (bif b2 then (.ret .normal [(.pointer none), (.int .i64 15)]) else (.call 15 [(.pointer p0), (.int .i64 0), (.string (bs [33]))] fun v3 => asBool v3 fun b4 => .join (bif b4 then (.ret .normal [(.pointer none), (.int .i64 16)]) else (.call 15 [(.pointer p0), (.int .i64 0), (.string (bs [112, 114, 105, 110, 116]))] fun v5 => asBool v5 fun b6 => .join (bif b6 then (.ret .normal [(.pointer none), (.int .i64 17)]) else (.call 15 [(.pointer p0), (.int .i64 0), (.string (bs [114, 97, 105, 115, 101]))] fun v7 => asBool v7 fun b8 => bif b8 then (.ret .normal [(.pointer none), (.int .i64 19)]) else (.call 172 [(.pointer p0)] fun v9 => asPtr v9 fun p10 => .ret .ret [(.pointer p10), (.int .i64 0)]))) (T163k0))) (T163k1))) (T163k2)) (T163k3 p0)
theorem T163_eq (p0 : (Option Addr)) : progOf PROG false 163 [(.pointer p0)] = T163 p0 := by kernel_rfl


noncomputable def T164k0 : Ex → List Value → Pg :=
  fun e14 l15 => sw e14 .normal (asCons l15 fun v16 l17 => asBool v16 fun b18 => asNil l17 (.ret .ret [(.bool b18)])) (.fail)

noncomputable def T164k1 : Ex → List Value → Pg :=
  fun e30 l31 => sw e30 .normal (asCons l31 fun v32 l33 => asBool v32 fun b34 => asNil l33 (.ret .normal [(.bool b34)])) (.fail)

noncomputable def T164k2 : Ex → List Value → Pg :=
  fun e35 l36 => sw e35 .normal (asCons l36 fun v37 l38 => asBool v37 fun b39 => asNil l38 (.ret .normal [(.bool b39)])) (.fail)

noncomputable def T164k3 : Ex → List Value → Pg :=
  fun e40 l41 => sw e40 .normal (asCons l41 fun v42 l43 => asBool v42 fun b44 => asNil l43 (.ret .normal [(.bool b44)])) (.fail)

noncomputable def T164k4 : Ex → List Value → Pg :=
  fun e45 l46 => sw e45 .normal (asCons l46 fun v47 l48 => asBool v47 fun b49 => asNil l48 (.ret .normal [(.bool b49)])) (.fail)

noncomputable def T164k5 : Ex → List Value → Pg :=
  fun e50 l51 => sw e50 .normal (asCons l51 fun v52 l53 => asBool v52 fun b54 => asNil l53 (.ret .normal [(.bool b54)])) (.fail)

noncomputable def T164k6 : Ex → List Value → Pg :=
  fun e55 l56 => sw e55 .normal (asCons l56 fun v57 l58 => asBool v57 fun b59 => asNil l58 (.ret .normal [(.bool b59)])) (.fail)

noncomputable def T164k7 : Ex → List Value → Pg :=
  fun e60 l61 => sw e60 .normal (asCons l61 fun v62 l63 => asBool v62 fun b64 => asNil l63 (.ret .normal [(.bool b64)])) (.fail)

noncomputable def T164k8 : Ex → List Value → Pg :=
  fun e65 l66 => sw e65 .normal (asCons l66 fun v67 l68 => asBool v67 fun b69 => asNil l68 (.ret .normal [(.bool b69)])) (.fail)

noncomputable def T164k9 : Ex → List Value → Pg :=
  fun e70 l71 => sw e70 .normal (asCons l71 fun v72 l73 => asBool v72 fun b74 => asNil l73 (.ret .normal [(.bool b74)])) (.fail)

noncomputable def T164k10 : Ex → List Value → Pg :=
  fun e75 l76 => sw e75 .normal (asCons l76 fun v77 l78 => asBool v77 fun b79 => asNil l78 (bif b79 then (.ret .ret [(.bool true)]) else (.ret .normal [(.bool false)]))) (.fail)

noncomputable def T164k11 : Ex → List Value → Pg :=
  fun e80 l81 => sw e80 .ret (asCons l81 fun v82 l83 => asBool v82 fun b84 => asNil l83 (.ret .ret [(.bool b84)])) (sw e80 .normal (asCons l81 fun v85 l86 => asBool v85 fun b87 => asNil l86 (.ret .normal [(.bool b87)])) (.fail))

noncomputable def T164k12 : Ex → List Value → Pg :=
  fun e88 l89 => sw e88 .ret (asCons l89 fun v90 l91 => asBool v90 fun b92 => asNil l91 (.ret .ret [(.bool b92)])) (sw e88 .normal (asCons l89 fun v93 l94 => asBool v93 fun b95 => asNil l94 (.ret .normal [(.bool b95)])) (.fail))

noncomputable def T164k13 (i2 : Int) (p0 : (Option Addr)) : Ex → List Value → Pg :=
  fun e3 l4 => sw e3 .normal (asCons l4 fun v5 l6 => asBool v5 fun b7 => asNil l6 (bif b7 then (.ret .ret [(.bool true)]) else (bif (i2 == 2) then (.call 61 [(.pointer p0)] fun v8 => asBool v8 fun b9 => .ret .ret [(.bool (!b9))]) else (bif (i2 == 5) then (.join (.call 15 [(.pointer p0), (.int .i64 0), (.string (bs [40]))] fun v10 => asBool v10 fun b11 => bif b11 == false then (.call 15 [(.pointer p0), (.int .i64 0), (.string (bs [33]))] fun v12 => asBool v12 fun b13 => .ret .normal [(.bool b13)]) else (.ret .normal [(.bool true)])) (T164k0)) else (.join (bif (i2 == 4) then (asSome p0 fun a19 => .act (ld1 (aadd a19 0)) fun v20 => asSlice v20 fun p21 n22 n23 => asSome p0 fun a24 => .act (ld1 (aadd a24 2)) fun v25 => asInt .i64 v25 fun i26 => asSome p21 fun a27 => grd ((decide (0 ≤ i26)) && (decide (i26 < ((n22 : Nat) : Int)))) (.act (ld1 (aadd (aadd a27 ((Int.toNat i26) * 4)) 1)) fun v28 => asStr v28 fun s29 => .join (.join (bif (s29.toList == (bs [114, 101, 102]).toList) then (.ret .normal [(.bool (s29.toList == (bs [114, 101, 102]).toList))]) else (.join (bif (s29.toList == (bs [112, 114, 105, 110, 116]).toList) then (.ret .normal [(.bool (s29.toList == (bs [112, 114, 105, 110, 116]).toList))]) else (.join (bif (s29.toList == (bs [114, 97, 105, 115, 101]).toList) then (.ret .normal [(.bool (s29.toList == (bs [114, 97, 105, 115, 101]).toList))]) else (.join (bif (s29.toList == (bs [116, 114, 117, 101]).toList) then (.ret .normal [(.bool (s29.toList == (bs [116, 114, 117, 101]).toList))]) else (.join (bif (s29.toList == (bs [102, 97, 108, 115, 101]).toList) then (.ret .normal [(.bool (s29.toList == (bs [102, 97, 108, 115, 101]).toList))]) else (.join (bif (s29.toList == (bs [114, 101, 97, 100]).toList) then (.ret .normal [(.bool (s29.toList == (bs [114, 101, 97, 100]).toList))]) else (.join (bif (s29.toList == (bs [102, 117, 110]).toList) then (.ret .normal [(.bool (s29.toList == (bs [102, 117, 110]).toList))]) else (.join (bif (s29.toList == (bs [108, 101, 116]).toList) then (.ret .normal [(.bool (s29.toList == (bs [108, 101, 116]).toList))]) else (.join (bif (s29.toList == (bs [105, 102]).toList) then (.ret .normal [(.bool (s29.toList == (bs [105, 102]).toList))]) else (.join (bif (s29.toList == (bs [109, 97, 116, 99, 104]).toList) then (.ret .normal [(.bool (s29.toList == (bs [109, 97, 116, 99, 104]).toList))]) else (.ret .normal [(.bool (s29.toList == (bs [116, 114, 121]).toList))])) (T164k1))) (T164k2))) (T164k3))) (T164k4))) (T164k5))) (T164k6))) (T164k7))) (T164k8))) (T164k9))) (T164k10)) (T164k11))) else (.ret .normal [(.bool false)])) (T164k12)))))) (.fail)

noncomputable def T164k14 : Ex → List Value → Pg :=
  fun e96 l97 => sw e96 .ret (asCons l97 fun v98 l99 => asBool v98 fun b100 => asNil l99 (.ret .ret [(.bool b100)])) (sw e96 .normal (asCons l97 fun v101 l102 => asBool v101 fun b103 => asNil l102 (.ret .ret [(.bool false)])) (.fail))

/-- (*hindsight/parse.parser).begins -/
noncomputable def T164 (p0 : (Option Addr)) : Pg :=
  .call 60 [(.pointer p0)] fun v1 => asInt .i64 v1 fun i2 => .join (.join (bif (i2 == 1) then (.ret .normal [(.bool (i2 == 1))]) else (.ret .normal [(.bool (i2 == 3))])) (T164k13 i2 p0)) (T164k14)
theorem T164_eq (p0 : (Option Addr)) : progOf PROG false 164 [(.pointer p0)] = T164 p0 := by kernel_rfl


noncomputable def T166k0 (p0 : (Option Addr)) (i5 : Int) (i9 : Int) (n1 : Nat) : Ex → List Value → Pg :=
  fun e23 l24 => sw e23 .normal (asCons l24 fun v25 l26 => asInt .i64 v25 fun i27 => asNil l26 (asSome p0 fun a28 => grd ((decide (0 ≤ (wi64 (i5 + i9)))) && (decide ((wi64 (i5 + i9)) < ((n1 : Nat) : Int)))) (.act (ld1 (aadd a28 ((Int.toNat (wi64 (i5 + i9))) * 1))) fun v29 => asInt .i64 v29 fun i30 => asSome p0 fun a31 => grd ((decide (0 ≤ (wi64 (i5 + i27)))) && (decide ((wi64 (i5 + i27)) < ((n1 : Nat) : Int)))) (.act (ld1 (aadd a31 ((Int.toNat (wi64 (i5 + i27))) * 1))) fun v32 => asInt .i64 v32 fun i33 => .call 157 [(.int .i64 i30), (.int .i64 i33)] fun v34 => asBool v34 fun b35 => bif (!b35) then (.ret .ret [(.int .i64 i9)]) else (asSome p0 fun a36 => grd ((decide (0 ≤ (wi64 (i5 + i27)))) && (decide ((wi64 (i5 + i27)) < ((n1 : Nat) : Int)))) (.act (ld1 (aadd a36 ((Int.toNat (wi64 (i5 + i27))) * 1))) fun v37 => asInt .i64 v37 fun i38 => asSome p0 fun a39 => grd ((decide (0 ≤ (wi64 (i5 + i9)))) && (decide ((wi64 (i5 + i9)) < ((n1 : Nat) : Int)))) (.act (ld1 (aadd a39 ((Int.toNat (wi64 (i5 + i9))) * 1))) fun v40 => asInt .i64 v40 fun i41 => asSome p0 fun a42 => grd ((decide (0 ≤ (wi64 (i5 + i9)))) && (decide ((wi64 (i5 + i9)) < ((n1 : Nat) : Int)))) (.act (stC (aadd a42 ((Int.toNat (wi64 (i5 + i9))) * 1)) [(.int .i64 i38)]) fun v43 => asTuple v43 fun l44 => asNil l44 (asSome p0 fun a45 => grd ((decide (0 ≤ (wi64 (i5 + i27)))) && (decide ((wi64 (i5 + i27)) < ((n1 : Nat) : Int)))) (.act (stC (aadd a45 ((Int.toNat (wi64 (i5 + i27))) * 1)) [(.int .i64 i41)]) fun v46 => asTuple v46 fun l47 => asNil l47 (.ret .normal [(.int .i64 i27)]))))))))))) (.fail)

noncomputable def T166k1 (i9 : Int) (p0 : (Option Addr)) (i5 : Int) (n1 : Nat) : Ex → List Value → Pg :=
  fun e18 l19 => sw e18 .normal (asCons l19 fun v20 l21 => asBool v20 fun b22 => asNil l21 (.join (bif b22 then (.ret .normal [(.int .i64 (wi64 ((wi64 ((wi64 (2 * i9)) + 1)) + 1)))]) else (.ret .normal [(.int .i64 (wi64 ((wi64 (2 * i9)) + 1)))])) (T166k0 p0 i5 i9 n1))) (.fail)

noncomputable def T166k2 : Ex → List Value → Pg :=
  fun e48 l49 => sw e48 (.exit 0) (asCons l49 fun v50 l51 => asInt .i64 v50 fun i52 => asNil l51 (.ret (.exit 0) [(.int .i64 i52)])) (sw e48 .ret (asCons l49 fun v53 l54 => asInt .i64 v53 fun i55 => asNil l54 (.ret .ret [(.int .i64 i55)])) (sw e48 .normal (asCons l49 fun v56 l57 => asInt .i64 v56 fun i58 => asNil l57 (.ret .normal [(.int .i64 i58)])) (.fail)))

noncomputable def T166b0 (i4 : Int) (p0 : (Option Addr)) (i5 : Int) (n1 : Nat) : List Value → Pg :=
  fun l6 => asCons l6 fun v7 l8 => asInt .i64 v7 fun i9 => asNil l8 (.join (bif (decide ((wi64 ((wi64 (2 * i9)) + 1)) ≥ i4)) then (.ret (.exit 0) [(.int .i64 i9)]) else (.join (bif (decide ((wi64 ((wi64 ((wi64 (2 * i9)) + 1)) + 1)) < i4)) == true then (asSome p0 fun a10 => grd ((decide (0 ≤ (wi64 (i5 + (wi64 ((wi64 (2 * i9)) + 1)))))) && (decide ((wi64 (i5 + (wi64 ((wi64 (2 * i9)) + 1)))) < ((n1 : Nat) : Int)))) (.act (ld1 (aadd a10 ((Int.toNat (wi64 (i5 + (wi64 ((wi64 (2 * i9)) + 1))))) * 1))) fun v11 => asInt .i64 v11 fun i12 => asSome p0 fun a13 => grd ((decide (0 ≤ (wi64 ((wi64 (i5 + (wi64 ((wi64 (2 * i9)) + 1)))) + 1)))) && (decide ((wi64 ((wi64 (i5 + (wi64 ((wi64 (2 * i9)) + 1)))) + 1)) < ((n1 : Nat) : Int)))) (.act (ld1 (aadd a13 ((Int.toNat (wi64 ((wi64 (i5 + (wi64 ((wi64 (2 * i9)) + 1)))) + 1))) * 1))) fun v14 => asInt .i64 v14 fun i15 => .call 157 [(.int .i64 i12), (.int .i64 i15)] fun v16 => asBool v16 fun b17 => .ret .normal [(.bool b17)]))) else (.ret .normal [(.bool false)])) (T166k1 i9 p0 i5 n1))) (T166k2))

noncomputable def T166k3 : Ex → List Value → Pg :=
  fun e59 l60 => sw e59 (.exit 0) (asCons l60 fun v61 l62 => asInt .i64 v61 fun i63 => asNil l62 (.ret .ret [(.tuple #[])])) (sw e59 .ret (asCons l60 fun v64 l65 => asInt .i64 v64 fun i66 => asNil l65 (.ret .ret [(.tuple #[])])) (.fail))

/-- slices.siftDownOrdered[int] -/
noncomputable def T166 (p0 : (Option Addr)) (n1 : Nat) (n2 : Nat) (i3 : Int) (i4 : Int) (i5 : Int) : Pg :=
  .loop [(.int .i64 i3)] (T166b0 i4 p0 i5 n1) (T166k3)
theorem T166_eq (p0 : (Option Addr)) (n1 : Nat) (n2 : Nat) (i3 : Int) (i4 : Int) (i5 : Int) : progOf PROG false 166 [(.slice p0 n1 n2), (.int .i64 i3), (.int .i64 i4), (.int .i64 i5)] = T166 p0 n1 n2 i3 i4 i5 := by kernel_rfl


/-- slices.nextPowerOfTwo -/
noncomputable def T167 (i0 : Int) : Pg :=
  .call 137 [(.int .u64 (wu64 i0))] fun v1 => asInt .i64 v1 fun i2 => grd (decide (0 ≤ i2)) (.ret .ret [(.int .u64 (shlI .u64 1 i2))])
theorem T167_eq (i0 : Int) : progOf PROG false 167 [(.int .i64 i0)] = T167 i0 := by kernel_rfl


/-- (*slices.xorshift).Next -/
noncomputable def T168 (p0 : (Option Addr)) : Pg :=
  asSome p0 fun a1 => .act (ld1 a1) fun v2 => asInt .u64 v2 fun i3 => asSome p0 fun a4 => .act (ld1 a4) fun v5 => asInt .u64 v5 fun i6 => asSome p0 fun a7 => .act (stC a7 [(.int .u64 (xorI .u64 i3 (shlI .u64 i6 13)))]) fun v8 => asTuple v8 fun l9 => asNil l9 (asSome p0 fun a10 => .act (ld1 a10) fun v11 => asInt .u64 v11 fun i12 => asSome p0 fun a13 => .act (ld1 a13) fun v14 => asInt .u64 v14 fun i15 => asSome p0 fun a16 => .act (stC a16 [(.int .u64 (xorI .u64 i12 (shrI .u64 i15 7)))]) fun v17 => asTuple v17 fun l18 => asNil l18 (asSome p0 fun a19 => .act (ld1 a19) fun v20 => asInt .u64 v20 fun i21 => asSome p0 fun a22 => .act (ld1 a22) fun v23 => asInt .u64 v23 fun i24 => asSome p0 fun a25 => .act (stC a25 [(.int .u64 (xorI .u64 i21 (shlI .u64 i24 17)))]) fun v26 => asTuple v26 fun l27 => asNil l27 (asSome p0 fun a28 => .act (ld1 a28) fun v29 => asInt .u64 v29 fun i30 => .ret .ret [(.int .u64 i30)])))
theorem T168_eq (p0 : (Option Addr)) : progOf PROG false 168 [(.pointer p0)] = T168 p0 := by kernel_rfl


/-- slices.medianAdjacentOrdered[int] -/
noncomputable def T169 (p0 : (Option Addr)) (n1 : Nat) (n2 : Nat) (i3 : Int) (p4 : (Option Addr)) : Pg :=
  .call 170 [(.slice p0 n1 n2), (.int .i64 (wi64 (i3 - 1))), (.int .i64 i3), (.int .i64 (wi64 (i3 + 1))), (.pointer p4)] fun v5 => asInt .i64 v5 fun i6 => .ret .ret [(.int .i64 i6)]
theorem T169_eq (p0 : (Option Addr)) (n1 : Nat) (n2 : Nat) (i3 : Int) (p4 : (Option Addr)) : progOf PROG false 169 [(.slice p0 n1 n2), (.int .i64 i3), (.pointer p4)] = T169 p0 n1 n2 i3 p4 := by kernel_rfl


/-- slices.medianOrdered[int] -/
noncomputable def T170 (p0 : (Option Addr)) (n1 : Nat) (n2 : Nat) (i3 : Int) (i4 : Int) (i5 : Int) (p6 : (Option Addr)) : Pg :=
  .call 173 [(.slice p0 n1 n2), (.int .i64 i3), (.int .i64 i4), (.pointer p6)] fun v7 => asTuple v7 fun l8 => asCons l8 fun v9 l10 => asInt .i64 v9 fun i11 => asCons l10 fun v12 l13 => asInt .i64 v12 fun i14 => asNil l13 (.call 173 [(.slice p0 n1 n2), (.int .i64 i14), (.int .i64 i5), (.pointer p6)] fun v15 => asTuple v15 fun l16 => asCons l16 fun v17 l18 => asInt .i64 v17 fun i19 => asCons l18 fun v20 l21 => asInt .i64 v20 fun i22 => asNil l21 (.call 173 [(.slice p0 n1 n2), (.int .i64 i11), (.int .i64 i19), (.pointer p6)] fun v23 => asTuple v23 fun l24 => asCons l24 fun v25 l26 => asInt .i64 v25 fun i27 => asCons l26 fun v28 l29 => asInt .i64 v28 fun i30 => asNil l29 (.ret .ret [(.int .i64 i30)])))
theorem T170_eq (p0 : (Option Addr)) (n1 : Nat) (n2 : Nat) (i3 : Int) (i4 : Int) (i5 : Int) (p6 : (Option Addr)) : progOf PROG false 170 [(.slice p0 n1 n2), (.int .i64 i3), (.int .i64 i4), (.int .i64 i5), (.pointer p6)] = T170 p0 n1 n2 i3 i4 i5 p6 := by kernel_rfl


/-- cmp.isNaN[int] -/
noncomputable def T171 (i0 : Int) : Pg :=
  .ret .ret [(.bool (i0 != i0))]
theorem T171_eq (i0 : Int) : progOf PROG false 171 [(.int .i64 i0)] = T171 i0 := by kernel_rfl


noncomputable def T172k0 (p0 : (Option Addr)) : Ex → List Value → Pg :=
  fun e47 l48 => sw e47 .normal (asCons l48 fun v49 l50 => asBool v49 fun b51 => asNil l50 (bif b51 then (.call 29 [(.pointer p0)] fun v52 => asAgg v52 fun l53 => asCons l53 fun v54 l55 => asInt .i64 v54 fun i56 => asCons l55 fun v57 l58 => asStr v57 fun s59 => asCons l58 fun v60 l61 => asInt .i64 v60 fun i62 => asCons l61 fun v63 l64 => asInt .i64 v63 fun i65 => asNil l64 (.call 180 [(.int .i64 4), (.agg #[(.int .i64 i56), (.string s59), (.int .i64 i62), (.int .i64 i65)])] fun v66 => asPtr v66 fun p67 => asSome p0 fun a68 => .act (ld1 (aadd a68 0)) fun v69 => asSlice v69 fun p70 n71 n72 => asSome p0 fun a73 => .act (ld1 (aadd a73 2)) fun v74 => asInt .i64 v74 fun i75 => asSome p70 fun a76 => grd ((decide (0 ≤ (wi64 (i75 - 1)))) && (decide ((wi64 (i75 - 1)) < ((n71 : Nat) : Int)))) (.act (ld1 (aadd (aadd a76 ((Int.toNat (wi64 (i75 - 1))) * 4)) 1)) fun v77 => asStr v77 fun s78 => asSome p67 fun a79 => .act (stC (aadd (aadd a79 0) 2) [(.string s78)]) fun v80 => asTuple v80 fun l81 => asNil l81 (.ret .ret [(.pointer p67)])))) else (.call 60 [(.pointer p0)] fun v82 => asInt .i64 v82 fun i83 => bif (i83 == 3) then (.call 181 [(.pointer p0), (.int .i64 5), (.func (.func 17) #[(.pointer p0)] #[])] fun v84 => asPtr v84 fun p85 => .ret .ret [(.pointer p85)]) else (.ret .normal [(.pointer none)])))) (.fail)

noncomputable def T172k1 (p0 : (Option Addr)) : Ex → List Value → Pg :=
  fun e86 l87 => sw e86 .ret (asCons l87 fun v88 l89 => asPtr v88 fun p90 => asNil l89 (.ret .ret [(.pointer p90)])) (sw e86 .normal (asCons l87 fun v91 l92 => asPtr v91 fun p93 => asNil l92 (.call 182 [(.pointer p0), (.int .i64 1), (.int .i64 2)] fun v94 => asPtr v94 fun p95 => .ret .ret [(.pointer p95)])) (.fail))

/-- (*hindsight/parse.parser).atom -/
noncomputable def T172 (p0 : (Option Addr)) : Pg :=
  .join (.call 15 [(.pointer p0), (.int .i64 0), (.string (bs [40]))] fun v1 => asBool v1 fun b2 => bif b2 then (.call 174 [(.pointer p0)] fun v3 => asPtr v3 fun p4 => .ret .ret [(.pointer p4)]) else (.call 15 [(.pointer p0), (.int .i64 0), (.string (bs [102, 117, 110]))] fun v5 => asBool v5 fun b6 => bif b6 then (.call 175 [(.pointer p0)] fun v7 => asPtr v7 fun p8 => .ret .ret [(.pointer p8)]) else (.call 15 [(.pointer p0), (.int .i64 0), (.string (bs [108, 101, 116]))] fun v9 => asBool v9 fun b10 => bif b10 then (.call 176 [(.pointer p0)] fun v11 => asPtr v11 fun p12 => .ret .ret [(.pointer p12)]) else (.call 15 [(.pointer p0), (.int .i64 0), (.string (bs [105, 102]))] fun v13 => asBool v13 fun b14 => bif b14 then (.call 177 [(.pointer p0)] fun v15 => asPtr v15 fun p16 => .ret .ret [(.pointer p16)]) else (.call 15 [(.pointer p0), (.int .i64 0), (.string (bs [109, 97, 116, 99, 104]))] fun v17 => asBool v17 fun b18 => bif b18 then (.call 178 [(.pointer p0)] fun v19 => asPtr v19 fun p20 => .ret .ret [(.pointer p20)]) else (.call 15 [(.pointer p0), (.int .i64 0), (.string (bs [116, 114, 121]))] fun v21 => asBool v21 fun b22 => bif b22 then (.call 179 [(.pointer p0)] fun v23 => asPtr v23 fun p24 => .ret .ret [(.pointer p24)]) else (.call 15 [(.pointer p0), (.int .i64 0), (.string (bs [114, 101, 97, 100]))] fun v25 => asBool v25 fun b26 => bif b26 then (.call 29 [(.pointer p0)] fun v27 => asAgg v27 fun l28 => asCons l28 fun v29 l30 => asInt .i64 v29 fun i31 => asCons l30 fun v32 l33 => asStr v32 fun s34 => asCons l33 fun v35 l36 => asInt .i64 v35 fun i37 => asCons l36 fun v38 l39 => asInt .i64 v38 fun i40 => asNil l39 (.call 180 [(.int .i64 18), (.agg #[(.int .i64 i31), (.string s34), (.int .i64 i37), (.int .i64 i40)])] fun v41 => asPtr v41 fun p42 => .ret .ret [(.pointer p42)])) else (.join (.call 60 [(.pointer p0)] fun v43 => asInt .i64 v43 fun i44 => bif (i44 == 2) == true then (.call 61 [(.pointer p0)] fun v45 => asBool v45 fun b46 => .ret .normal [(.bool (!b46))]) else (.ret .normal [(.bool false)])) (T172k0 p0))))))))) (T172k1 p0)
theorem T172_eq (p0 : (Option Addr)) : progOf PROG false 172 [(.pointer p0)] = T172 p0 := by kernel_rfl


/-- slices.order2Ordered[int] -/
noncomputable def T173 (p0 : (Option Addr)) (n1 : Nat) (n2 : Nat) (i3 : Int) (i4 : Int) (p5 : (Option Addr)) : Pg :=
  asSome p0 fun a6 => grd ((decide (0 ≤ i4)) && (decide (i4 < ((n1 : Nat) : Int)))) (.act (ld1 (aadd a6 ((Int.toNat i4) * 1))) fun v7 => asInt .i64 v7 fun i8 => asSome p0 fun a9 => grd ((decide (0 ≤ i3)) && (decide (i3 < ((n1 : Nat) : Int)))) (.act (ld1 (aadd a9 ((Int.toNat i3) * 1))) fun v10 => asInt .i64 v10 fun i11 => .call 157 [(.int .i64 i8), (.int .i64 i11)] fun v12 => asBool v12 fun b13 => bif b13 then (asSome p5 fun a14 => .act (ld1 a14) fun v15 => asInt .i64 v15 fun i16 => asSome p5 fun a17 => .act (stC a17 [(.int .i64 (wi64 (i16 + 1)))]) fun v18 => asTuple v18 fun l19 => asNil l19 (.ret .ret [(.tuple #[(.int .i64 i4), (.int .i64 i3)])])) else (.ret .ret [(.tuple #[(.int .i64 i3), (.int .i64 i4)])])))
theorem T173_eq (p0 : (Option Addr)) (n1 : Nat) (n2 : Nat) (i3 : Int) (i4 : Int) (p5 : (Option Addr)) : progOf PROG false 173 [(.slice p0 n1 n2), (.int .i64 i3), (.int .i64 i4), (.pointer p5)] = T173 p0 n1 n2 i3 i4 p5 := by kernel_rfl


/-- (*hindsight/parse.parser).bracket -/
noncomputable def T174 (p0 : (Option Addr)) : Pg :=
  .call 29 [(.pointer p0)] fun v1 => asAgg v1 fun l2 => asCons l2 fun v3 l4 => asInt .i64 v3 fun i5 => asCons l4 fun v6 l7 => asStr v6 fun s8 => asCons l7 fun v9 l10 => asInt .i64 v9 fun i11 => asCons l10 fun v12 l13 => asInt .i64 v12 fun i14 => asNil l13 (.act (newC [(.int .i64 0), (.string (bs [])), (.int .i64 0), (.int .i64 0)]) fun v15 => asPtr v15 fun p16 => asSome p16 fun a17 => .act (stC a17 [(.int .i64 i5), (.string s8), (.int .i64 i11), (.int .i64 i14)]) fun v18 => asTuple v18 fun l19 => asNil l19 (.call 15 [(.pointer p0), (.int .i64 0), (.string (bs [41]))] fun v20 => asBool v20 fun b21 => bif b21 then (.act (ld1 (aadd a17 2)) fun v22 => asInt .i64 v22 fun i23 => .call 29 [(.pointer p0)] fun v24 => asAgg v24 fun l25 => asCons l25 fun v26 l27 => asInt .i64 v26 fun i28 => asCons l27 fun v29 l30 => asStr v29 fun s31 => asCons l30 fun v32 l33 => asInt .i64 v32 fun i34 => asCons l33 fun v35 l36 => asInt .i64 v35 fun i37 => asNil l36 (.get fun h41 => grd (chks [((ld1 (aadd a17 2)), v22)] h41) (.act (newC [(.int .i64 3), (.int .i64 0), (.string (bs [])), (.string (bs [])), (.slice none 0 0), (.int .i64 i23), (.int .i64 i37), (.slice none 0 0)]) fun v38 => asPtr v38 fun p39 => asSome p39 fun a40 => .ret .ret [(.pointer (some a40))]))) else (.call 17 [(.pointer p0)] fun v42 => asPtr v42 fun p43 => .call 31 [(.pointer p0), (.string (bs [41]))] fun v44 => asAgg v44 fun l45 => asCons l45 fun v46 l47 => asInt .i64 v46 fun i48 => asCons l47 fun v49 l50 => asStr v49 fun s51 => asCons l50 fun v52 l53 => asInt .i64 v52 fun i54 => asCons l53 fun v55 l56 => asInt .i64 v55 fun i57 => asNil l56 (.ret .ret [(.pointer p43)]))))
theorem T174_eq (p0 : (Option Addr)) : progOf PROG false 174 [(.pointer p0)] = T174 p0 := by kernel_rfl
end Go.Pg
