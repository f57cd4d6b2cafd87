/- The trees of the functions that the laws reach, written out by program; each is shown to be the function's own; then their table. -/
import Derived.Test.YtlpebjohofhbgaaDoorProg
import Derived.KernelRfl
import Derived.Test.YtlpebjohofhbgaaDoorPg3
namespace Go.Pg
open Go.Proofs
set_option linter.unusedVariables false
noncomputable abbrev PROG : Program := Tryd.prog
noncomputable def T3k0 : Ex → List Value → Pg :=
  fun e154 l155 => sw e154 .normal (asCons l155 fun v156 l157 => asBool v156 fun b158 => asNil l157 (.ret .ret [(.bool b158)])) (.fail)

noncomputable def T3k1 (a12 : Addr) (a51 : Addr) (i9 : Int) : Ex → List Value → Pg :=
  fun e72 l73 => sw e72 .normal (asNil l73 (.act (bdSl 1 7 [(.int .i64 0), (.int .i64 1), (.int .i64 2), (.int .i64 3), (.int .i64 4), (.int .i64 5), (.int .i64 6)]) fun v74 => asSlice v74 fun p75 n76 n77 => .join (.act (ldN 7 a12) fun v78 => asAgg v78 fun l79 => asCons l79 fun v80 l81 => asInt .i64 v80 fun i82 => asCons l81 fun v83 l84 => asInt .i64 v83 fun i85 => asCons l84 fun v86 l87 => asStr v86 fun s88 => asCons l87 fun v89 l90 => asSlice v89 fun p91 n92 n93 => asCons l90 fun v94 l95 => asInt .i64 v94 fun i96 => asCons l95 fun v97 l98 => asPtr v97 fun p99 => asCons l98 fun v100 l101 => asInt .i64 v100 fun i102 => asNil l101 (.act (ldN 4 a51) fun v103 => asAgg v103 fun l104 => asCons l104 fun v105 l106 => asInt .i64 v105 fun i107 => asCons l106 fun v108 l109 => asStr v108 fun s110 => asCons l109 fun v111 l112 => asInt .i64 v111 fun i113 => asCons l112 fun v114 l115 => asSlice v114 fun p116 n117 n118 => asNil l115 (.get fun h120 => .call 7 [(.agg #[(.int .i64 i82), (.int .i64 i85), (.string s88), (.slice p91 n92 n93), (.int .i64 i96), (.pointer p99), (.int .i64 i102)]), (.agg #[(.int .i64 i107), (.string s110), (.int .i64 i113), (.slice p116 n117 n118)]), (.slice none 0 0), (.slice none 0 0)] fun v119 => asStr v119 fun s121 => .act (ld1 (aadd a12 0)) fun v122 => grd (past (ld1 (aadd a12 0)) v122 [h120]) (asInt .i64 v122 fun i123 => asSome p75 fun a124 => grd ((decide (0 ≤ i9)) && (decide (i9 < ((n76 : Nat) : Int)))) (.act (ld1 (aadd a124 ((Int.toNat i9) * 1))) fun v125 => grd (past (ld1 (aadd a124 ((Int.toNat i9) * 1))) v125 [h120]) (asInt .i64 v125 fun i126 => bif ((s121.toList == (bs [63]).toList) == (i123 != i126)) == true then (.act (ldN 7 a12) fun v127 => asAgg v127 fun l128 => asCons l128 fun v129 l130 => asInt .i64 v129 fun i131 => asCons l130 fun v132 l133 => asInt .i64 v132 fun i134 => asCons l133 fun v135 l136 => asStr v135 fun s137 => asCons l136 fun v138 l139 => asSlice v138 fun p140 n141 n142 => asCons l139 fun v143 l144 => asInt .i64 v143 fun i145 => asCons l144 fun v146 l147 => asPtr v146 fun p148 => asCons l147 fun v149 l150 => asInt .i64 v149 fun i151 => asNil l150 (.call 7 [(.agg #[(.int .i64 i131), (.int .i64 i134), (.string s137), (.slice p140 n141 n142), (.int .i64 i145), (.pointer p148), (.int .i64 i151)]), (.agg #[(.int .i64 7), (.string (bs [])), (.int .i64 0), (.slice none 0 0)]), (.slice none 0 0), (.slice none 0 0)] fun v152 => asStr v152 fun s153 => .ret .normal [(.bool (s153.toList == (bs [60, 112, 111, 108, 121, 62]).toList))])) else (.ret .normal [(.bool false)]))))))) (T3k0))) (.fail)

noncomputable def T3k2 (i9 : Int) (a51 : Addr) (a12 : Addr) : Ex → List Value → Pg :=
  fun e64 l65 => sw e64 .normal (asNil l65 (.join (bif (i9 == 6) then (.act (bdSl 4 1 [(.int .i64 1), (.string (bs [])), (.int .i64 0), (.slice none 0 0)]) fun v66 => asSlice v66 fun p67 n68 n69 => .act (stC (aadd a51 3) [(.slice p67 n68 n69)]) fun v70 => asTuple v70 fun l71 => asNil l71 (.ret .normal [])) else (.ret .normal [])) (T3k1 a12 a51 i9))) (.fail)

noncomputable def T3k3 (i9 : Int) (a51 : Addr) (a12 : Addr) : Ex → List Value → Pg :=
  fun e56 l57 => sw e56 .normal (asNil l57 (.join (bif (i9 == 5) then (.act (bdSl 4 2 [(.int .i64 1), (.string (bs [])), (.int .i64 0), (.slice none 0 0), (.int .i64 1), (.string (bs [])), (.int .i64 0), (.slice none 0 0)]) fun v58 => asSlice v58 fun p59 n60 n61 => .act (stC (aadd a51 3) [(.slice p59 n60 n61)]) fun v62 => asTuple v62 fun l63 => asNil l63 (.ret .normal [])) else (.ret .normal [])) (T3k2 i9 a51 a12))) (.fail)

noncomputable def T3k4 (i9 : Int) (a12 : Addr) : Ex → List Value → Pg :=
  fun e44 l45 => sw e44 .normal (asCons l45 fun v46 l47 => asBool v46 fun b48 => asNil l47 (bif b48 then (.ret .ret [(.bool true)]) else (.act (newC [(.int .i64 0), (.string (bs [])), (.int .i64 0), (.slice none 0 0)]) fun v49 => asPtr v49 fun p50 => asSome p50 fun a51 => .act (stC a51 [(.int .i64 i9), (.string (bs [])), (.int .i64 0), (.slice none 0 0)]) fun v52 => asTuple v52 fun l53 => asNil l53 (.join (bif (i9 == 4) then (.act (stC (aadd a51 1) [(.string (bs [116]))]) fun v54 => asTuple v54 fun l55 => asNil l55 (.ret .normal [])) else (.ret .normal [])) (T3k3 i9 a51 a12))))) (.fail)

/-- hindsight/hindsightlaw9.ValKinds -/
noncomputable def T3 (i0 : Int) (i1 : Int) (s2 : ByteArray) (p3 : (Option Addr)) (n4 : Nat) (n5 : Nat) (i6 : Int) (p7 : (Option Addr)) (i8 : Int) (i9 : Int) : Pg :=
  .act (newC [(.int .i64 i0), (.int .i64 i1), (.string s2), (.slice p3 n4 n5), (.int .i64 i6), (.pointer p7), (.int .i64 i8)]) fun v10 => asPtr v10 fun p11 => asSome p11 fun a12 => .call 5 [] fun v13 => asBool v13 fun b14 => bif (!b14) then (.ret .ret [(.bool false)]) else (.join (.act (ldN 7 a12) fun v15 => asAgg v15 fun l16 => asCons l16 fun v17 l18 => asInt .i64 v17 fun i19 => asCons l18 fun v20 l21 => asInt .i64 v20 fun i22 => asCons l21 fun v23 l24 => asStr v23 fun s25 => asCons l24 fun v26 l27 => asSlice v26 fun p28 n29 n30 => asCons l27 fun v31 l32 => asInt .i64 v31 fun i33 => asCons l32 fun v34 l35 => asPtr v34 fun p36 => asCons l35 fun v37 l38 => asInt .i64 v37 fun i39 => asNil l38 (.call 6 [(.agg #[(.int .i64 i19), (.int .i64 i22), (.string s25), (.slice p28 n29 n30), (.int .i64 i33), (.pointer p36), (.int .i64 i39)]), (.int .i64 64)] fun v40 => asBool v40 fun b41 => bif ((b41 || (decide (i9 < 1))) || (decide (i9 > 6))) == false then (.act (ld1 (aadd a12 2)) fun v42 => asStr v42 fun s43 => .ret .normal [(.bool (s43.toList == (bs [63]).toList))]) else (.ret .normal [(.bool true)]))) (T3k4 i9 a12))
theorem T3_eq (i0 : Int) (i1 : Int) (s2 : ByteArray) (p3 : (Option Addr)) (n4 : Nat) (n5 : Nat) (i6 : Int) (p7 : (Option Addr)) (i8 : Int) (i9 : Int) : progOf PROG false 3 [(.agg #[(.int .i64 i0), (.int .i64 i1), (.string s2), (.slice p3 n4 n5), (.int .i64 i6), (.pointer p7), (.int .i64 i8)]), (.int .i64 i9)] = T3 i0 i1 s2 p3 n4 n5 i6 p7 i8 i9 := by kernel_rfl


noncomputable def T4k0 (p124 : (Option Addr)) (n125 : Nat) (n126 : Nat) (p27 : (Option Addr)) (i121 : Int) (n28 : Nat) (b129 : Bool) : Ex → List Value → Pg :=
  fun e138 l139 => sw e138 .normal (asCons l139 fun v140 l141 => asBool v140 fun b142 => asNil l141 (bif b142 then (.ret .ret [(.slice p124 n125 n126), (.bool true)]) else (asSome p27 fun a143 => grd ((decide (0 ≤ i121)) && (decide (i121 < ((n28 : Nat) : Int)))) (.act (ld1 (aadd (aadd a143 ((Int.toNat i121) * 2)) 0)) fun v144 => asStr v144 fun s145 => asSome p27 fun a146 => grd ((decide (0 ≤ i121)) && (decide (i121 < ((n28 : Nat) : Int)))) (.act (ld1 (aadd (aadd a146 ((Int.toNat i121) * 2)) 1)) fun v147 => asSlice v147 fun p148 n149 n150 => .act (bdSl 2 1 [(.string s145), (.slice p148 n149 n150)]) fun v151 => asSlice v151 fun p152 n153 n154 => .act (apS 2 40 p124 n125 n126 p152 n153 n154) fun v155 => asSlice v155 fun p156 n157 n158 => .ret .normal [(.slice p156 n157 n158), (.bool b129)]))))) (.fail)

noncomputable def T4k1 (i121 : Int) : Ex → List Value → Pg :=
  fun e159 l160 => sw e159 .ret (asCons l160 fun v161 l162 => asSlice v161 fun p163 n164 n165 => asCons l162 fun v166 l167 => asBool v166 fun b168 => asNil l167 (.ret .ret [(.int .i64 i121), (.slice p163 n164 n165), (.bool b168)])) (sw e159 .normal (asCons l160 fun v169 l170 => asSlice v169 fun p171 n172 n173 => asCons l170 fun v174 l175 => asBool v174 fun b176 => asNil l175 (.ret .normal [(.int .i64 (wi64 (i121 + 1))), (.slice p171 n172 n173), (.bool b176)])) (.fail))

noncomputable def T4b0 (n28 : Nat) (p27 : (Option Addr)) : List Value → Pg :=
  fun l118 => asCons l118 fun v119 l120 => asInt .i64 v119 fun i121 => asCons l120 fun v122 l123 => asSlice v122 fun p124 n125 n126 => asCons l123 fun v127 l128 => asBool v127 fun b129 => asNil l128 (bif (decide (i121 < ((n28 : Nat) : Int))) then (.join (.join (asSome p27 fun a130 => grd ((decide (0 ≤ i121)) && (decide (i121 < ((n28 : Nat) : Int)))) (.act (ld1 (aadd (aadd a130 ((Int.toNat i121) * 2)) 1)) fun v131 => asSlice v131 fun p132 n133 n134 => bif (decide (((n133 : Nat) : Int) > 5)) == false then (asSome p27 fun a135 => grd ((decide (0 ≤ i121)) && (decide (i121 < ((n28 : Nat) : Int)))) (.act (ld1 (aadd (aadd a135 ((Int.toNat i121) * 2)) 0)) fun v136 => asStr v136 fun s137 => .ret .normal [(.bool (decide (((s137.size : Nat) : Int) > 60)))])) else (.ret .normal [(.bool true)]))) (T4k0 p124 n125 n126 p27 i121 n28 b129)) (T4k1 i121)) else (.ret (.exit 0) [(.int .i64 i121), (.slice p124 n125 n126), (.bool b129)]))

noncomputable def T4k2 (i193 : Int) : Ex → List Value → Pg :=
  fun e225 l226 => sw e225 .ret (asCons l226 fun v227 l228 => asBool v227 fun b229 => asNil l228 (.ret .ret [(.int .i64 i193), (.bool b229)])) (sw e225 .normal (asCons l226 fun v230 l231 => asBool v230 fun b232 => asNil l231 (.ret .normal [(.int .i64 (wi64 (i193 + 1))), (.bool b232)])) (.fail))

noncomputable def T4b1 (n25 : Nat) (p24 : (Option Addr)) : List Value → Pg :=
  fun l190 => asCons l190 fun v191 l192 => asInt .i64 v191 fun i193 => asCons l192 fun v194 l195 => asBool v194 fun b196 => asNil l195 (bif (decide (i193 < ((n25 : Nat) : Int))) then (.join (asSome p24 fun a197 => grd ((decide (0 ≤ i193)) && (decide (i193 < ((n25 : Nat) : Int)))) (.act (ldN 7 (aadd a197 ((Int.toNat i193) * 7))) fun v198 => asAgg v198 fun l199 => asCons l199 fun v200 l201 => asInt .i64 v200 fun i202 => asCons l201 fun v203 l204 => asInt .i64 v203 fun i205 => asCons l204 fun v206 l207 => asStr v206 fun s208 => asCons l207 fun v209 l210 => asSlice v209 fun p211 n212 n213 => asCons l210 fun v214 l215 => asInt .i64 v214 fun i216 => asCons l215 fun v217 l218 => asPtr v217 fun p219 => asCons l218 fun v220 l221 => asInt .i64 v220 fun i222 => asNil l221 (.call 6 [(.agg #[(.int .i64 i202), (.int .i64 i205), (.string s208), (.slice p211 n212 n213), (.int .i64 i216), (.pointer p219), (.int .i64 i222)]), (.int .i64 64)] fun v223 => asBool v223 fun b224 => bif b224 then (.ret .ret [(.bool true)]) else (.ret .normal [(.bool b196)])))) (T4k2 i193)) else (.ret (.exit 2) [(.int .i64 i193), (.bool b196)]))

noncomputable def T4k3 : Ex → List Value → Pg :=
  fun e573 l574 => sw e573 .normal (asCons l574 fun v575 l576 => asBool v575 fun b577 => asNil l576 (.ret .ret [(.bool b577)])) (.fail)

noncomputable def T4k4 (a32 : Addr) (a38 : Addr) (p24 : (Option Addr)) (n25 : Nat) (n26 : Nat) (p27 : (Option Addr)) (n28 : Nat) (n29 : Nat) (p184 : (Option Addr)) (n185 : Nat) (n186 : Nat) (a35 : Addr) : Ex → List Value → Pg :=
  fun e233 l234 => sw e233 (.exit 2) (asCons l234 fun v235 l236 => asInt .i64 v235 fun i237 => asCons l236 fun v238 l239 => asBool v238 fun b240 => asNil l239 (.join (.act (ldN 7 a32) fun v241 => asAgg v241 fun l242 => asCons l242 fun v243 l244 => asInt .i64 v243 fun i245 => asCons l244 fun v246 l247 => asInt .i64 v246 fun i248 => asCons l247 fun v249 l250 => asStr v249 fun s251 => asCons l250 fun v252 l253 => asSlice v252 fun p254 n255 n256 => asCons l253 fun v257 l258 => asInt .i64 v257 fun i259 => asCons l258 fun v260 l261 => asPtr v260 fun p262 => asCons l261 fun v263 l264 => asInt .i64 v263 fun i265 => asNil l264 (.act (ldN 4 a38) fun v266 => asAgg v266 fun l267 => asCons l267 fun v268 l269 => asInt .i64 v268 fun i270 => asCons l269 fun v271 l272 => asStr v271 fun s273 => asCons l272 fun v274 l275 => asInt .i64 v274 fun i276 => asCons l275 fun v277 l278 => asSlice v277 fun p279 n280 n281 => asNil l278 (.get fun h283 => .call 7 [(.agg #[(.int .i64 i245), (.int .i64 i248), (.string s251), (.slice p254 n255 n256), (.int .i64 i259), (.pointer p262), (.int .i64 i265)]), (.agg #[(.int .i64 i270), (.string s273), (.int .i64 i276), (.slice p279 n280 n281)]), (.slice p24 n25 n26), (.slice p27 n28 n29)] fun v282 => asStr v282 fun s284 => .act (ldN 7 a32) fun v285 => grd (past (ldN 7 a32) v285 [h283]) (asAgg v285 fun l286 => asCons l286 fun v287 l288 => asInt .i64 v287 fun i289 => asCons l288 fun v290 l291 => asInt .i64 v290 fun i292 => asCons l291 fun v293 l294 => asStr v293 fun s295 => asCons l294 fun v296 l297 => asSlice v296 fun p298 n299 n300 => asCons l297 fun v301 l302 => asInt .i64 v301 fun i303 => asCons l302 fun v304 l305 => asPtr v304 fun p306 => asCons l305 fun v307 l308 => asInt .i64 v307 fun i309 => asNil l308 (.get fun h311 => .call 10 [(.agg #[(.int .i64 i289), (.int .i64 i292), (.string s295), (.slice p298 n299 n300), (.int .i64 i303), (.pointer p306), (.int .i64 i309)])] fun v310 => asAgg v310 fun l312 => asCons l312 fun v313 l314 => asInt .i64 v313 fun i315 => asCons l314 fun v316 l317 => asInt .i64 v316 fun i318 => asCons l317 fun v319 l320 => asStr v319 fun s321 => asCons l320 fun v322 l323 => asSlice v322 fun p324 n325 n326 => asCons l323 fun v327 l328 => asInt .i64 v327 fun i329 => asCons l328 fun v330 l331 => asPtr v330 fun p332 => asCons l331 fun v333 l334 => asInt .i64 v333 fun i335 => asCons l334 fun v336 l337 => asInt .i64 v336 fun i338 => asNil l337 (.act (ldN 4 a38) fun v339 => grd (past (ldN 4 a38) v339 [h311, h283]) (asAgg v339 fun l340 => asCons l340 fun v341 l342 => asInt .i64 v341 fun i343 => asCons l342 fun v344 l345 => asStr v344 fun s346 => asCons l345 fun v347 l348 => asInt .i64 v347 fun i349 => asCons l348 fun v350 l351 => asSlice v350 fun p352 n353 n354 => asNil l351 (.call 11 [(.agg #[(.int .i64 i343), (.string s346), (.int .i64 i349), (.slice p352 n353 n354)])] fun v355 => asAgg v355 fun l356 => asCons l356 fun v357 l358 => asInt .i64 v357 fun i359 => asCons l358 fun v360 l361 => asStr v360 fun s362 => asCons l361 fun v363 l364 => asInt .i64 v363 fun i365 => asCons l364 fun v366 l367 => asSlice v366 fun p368 n369 n370 => asNil l367 (.call 12 [(.slice p24 n25 n26)] fun v371 => asSlice v371 fun p372 n373 n374 => .call 9 [(.agg #[(.int .i64 i315), (.int .i64 i318), (.string s321), (.slice p324 n325 n326), (.int .i64 i329), (.pointer p332), (.int .i64 i335), (.int .i64 i338)]), (.agg #[(.int .i64 i359), (.string s362), (.int .i64 i365), (.slice p368 n369 n370)]), (.slice p372 n373 n374), (.slice p184 n185 n186)] fun v375 => asStr v375 fun s376 => bif (s284.toList == s376.toList) == true then (.act (ldN 7 a32) fun v377 => asAgg v377 fun l378 => asCons l378 fun v379 l380 => asInt .i64 v379 fun i381 => asCons l380 fun v382 l383 => asInt .i64 v382 fun i384 => asCons l383 fun v385 l386 => asStr v385 fun s387 => asCons l386 fun v388 l389 => asSlice v388 fun p390 n391 n392 => asCons l389 fun v393 l394 => asInt .i64 v393 fun i395 => asCons l394 fun v396 l397 => asPtr v396 fun p398 => asCons l397 fun v399 l400 => asInt .i64 v399 fun i401 => asNil l400 (.act (ldN 7 a35) fun v402 => asAgg v402 fun l403 => asCons l403 fun v404 l405 => asInt .i64 v404 fun i406 => asCons l405 fun v407 l408 => asInt .i64 v407 fun i409 => asCons l408 fun v410 l411 => asStr v410 fun s412 => asCons l411 fun v413 l414 => asSlice v413 fun p415 n416 n417 => asCons l414 fun v418 l419 => asInt .i64 v418 fun i420 => asCons l419 fun v421 l422 => asPtr v421 fun p423 => asCons l422 fun v424 l425 => asInt .i64 v424 fun i426 => asNil l425 (.get fun h428 => .call 13 [(.agg #[(.int .i64 i381), (.int .i64 i384), (.string s387), (.slice p390 n391 n392), (.int .i64 i395), (.pointer p398), (.int .i64 i401)]), (.agg #[(.int .i64 i406), (.int .i64 i409), (.string s412), (.slice p415 n416 n417), (.int .i64 i420), (.pointer p423), (.int .i64 i426)])] fun v427 => asBool v427 fun b429 => .act (ldN 7 a32) fun v430 => grd (past (ldN 7 a32) v430 [h428]) (asAgg v430 fun l431 => asCons l431 fun v432 l433 => asInt .i64 v432 fun i434 => asCons l433 fun v435 l436 => asInt .i64 v435 fun i437 => asCons l436 fun v438 l439 => asStr v438 fun s440 => asCons l439 fun v441 l442 => asSlice v441 fun p443 n444 n445 => asCons l442 fun v446 l447 => asInt .i64 v446 fun i448 => asCons l447 fun v449 l450 => asPtr v449 fun p451 => asCons l450 fun v452 l453 => asInt .i64 v452 fun i454 => asNil l453 (.get fun h456 => .call 10 [(.agg #[(.int .i64 i434), (.int .i64 i437), (.string s440), (.slice p443 n444 n445), (.int .i64 i448), (.pointer p451), (.int .i64 i454)])] fun v455 => asAgg v455 fun l457 => asCons l457 fun v458 l459 => asInt .i64 v458 fun i460 => asCons l459 fun v461 l462 => asInt .i64 v461 fun i463 => asCons l462 fun v464 l465 => asStr v464 fun s466 => asCons l465 fun v467 l468 => asSlice v467 fun p469 n470 n471 => asCons l468 fun v472 l473 => asInt .i64 v472 fun i474 => asCons l473 fun v475 l476 => asPtr v475 fun p477 => asCons l476 fun v478 l479 => asInt .i64 v478 fun i480 => asCons l479 fun v481 l482 => asInt .i64 v481 fun i483 => asNil l482 (.act (ldN 7 a35) fun v484 => grd (past (ldN 7 a35) v484 [h456, h428]) (asAgg v484 fun l485 => asCons l485 fun v486 l487 => asInt .i64 v486 fun i488 => asCons l487 fun v489 l490 => asInt .i64 v489 fun i491 => asCons l490 fun v492 l493 => asStr v492 fun s494 => asCons l493 fun v495 l496 => asSlice v495 fun p497 n498 n499 => asCons l496 fun v500 l501 => asInt .i64 v500 fun i502 => asCons l501 fun v503 l504 => asPtr v503 fun p505 => asCons l504 fun v506 l507 => asInt .i64 v506 fun i508 => asNil l507 (.call 10 [(.agg #[(.int .i64 i488), (.int .i64 i491), (.string s494), (.slice p497 n498 n499), (.int .i64 i502), (.pointer p505), (.int .i64 i508)])] fun v509 => asAgg v509 fun l510 => asCons l510 fun v511 l512 => asInt .i64 v511 fun i513 => asCons l512 fun v514 l515 => asInt .i64 v514 fun i516 => asCons l515 fun v517 l518 => asStr v517 fun s519 => asCons l518 fun v520 l521 => asSlice v520 fun p522 n523 n524 => asCons l521 fun v525 l526 => asInt .i64 v525 fun i527 => asCons l526 fun v528 l529 => asPtr v528 fun p530 => asCons l529 fun v531 l532 => asInt .i64 v531 fun i533 => asCons l532 fun v534 l535 => asInt .i64 v534 fun i536 => asNil l535 (.call 14 [(.agg #[(.int .i64 i460), (.int .i64 i463), (.string s466), (.slice p469 n470 n471), (.int .i64 i474), (.pointer p477), (.int .i64 i480), (.int .i64 i483)]), (.agg #[(.int .i64 i513), (.int .i64 i516), (.string s519), (.slice p522 n523 n524), (.int .i64 i527), (.pointer p530), (.int .i64 i533), (.int .i64 i536)])] fun v537 => asBool v537 fun b538 => bif (b429 == b538) == true then (.act (ldN 4 a38) fun v539 => asAgg v539 fun l540 => asCons l540 fun v541 l542 => asInt .i64 v541 fun i543 => asCons l542 fun v544 l545 => asStr v544 fun s546 => asCons l545 fun v547 l548 => asInt .i64 v547 fun i549 => asCons l548 fun v550 l551 => asSlice v550 fun p552 n553 n554 => asNil l551 (.call 11 [(.agg #[(.int .i64 i543), (.string s546), (.int .i64 i549), (.slice p552 n553 n554)])] fun v555 => asAgg v555 fun l556 => asCons l556 fun v557 l558 => asInt .i64 v557 fun i559 => asCons l558 fun v560 l561 => asStr v560 fun s562 => asCons l561 fun v563 l564 => asInt .i64 v563 fun i565 => asCons l564 fun v566 l567 => asSlice v566 fun p568 n569 n570 => asNil l567 (.call 15 [(.agg #[(.int .i64 i559), (.string s562), (.int .i64 i565), (.slice p568 n569 n570)])] fun v571 => asInt .i64 v571 fun i572 => .ret .normal [(.bool (decide (i572 > 0)))]))) else (.ret .normal [(.bool false)])))))))))) else (.ret .normal [(.bool false)])))))))))) (T4k3))) (sw e233 .ret (asCons l234 fun v578 l579 => asInt .i64 v578 fun i580 => asCons l579 fun v581 l582 => asBool v581 fun b583 => asNil l582 (.ret .ret [(.bool b583)])) (.fail))

noncomputable def T4k5 (n25 : Nat) (p24 : (Option Addr)) (a32 : Addr) (a38 : Addr) (n26 : Nat) (p27 : (Option Addr)) (n28 : Nat) (n29 : Nat) (a35 : Addr) : Ex → List Value → Pg :=
  fun e177 l178 => sw e177 (.exit 0) (asCons l178 fun v179 l180 => asInt .i64 v179 fun i181 => asCons l180 fun v182 l183 => asSlice v182 fun p184 n185 n186 => asCons l183 fun v187 l188 => asBool v187 fun b189 => asNil l188 (.loop [(.int .i64 0), (.bool b189)] (T4b1 n25 p24) (T4k4 a32 a38 p24 n25 n26 p27 n28 n29 p184 n185 n186 a35))) (sw e177 .ret (asCons l178 fun v584 l585 => asInt .i64 v584 fun i586 => asCons l585 fun v587 l588 => asSlice v587 fun p589 n590 n591 => asCons l588 fun v592 l593 => asBool v592 fun b594 => asNil l593 (.ret .ret [(.bool b594)])) (.fail))

noncomputable def T4k6 (n28 : Nat) (p27 : (Option Addr)) (n25 : Nat) (p24 : (Option Addr)) (a32 : Addr) (a38 : Addr) (n26 : Nat) (n29 : Nat) (a35 : Addr) : Ex → List Value → Pg :=
  fun e113 l114 => sw e113 .normal (asCons l114 fun v115 l116 => asBool v115 fun b117 => asNil l116 (bif b117 then (.ret .ret [(.bool true)]) else (.loop [(.int .i64 0), (.slice none 0 0), (.bool false)] (T4b0 n28 p27) (T4k5 n25 p24 a32 a38 n26 p27 n28 n29 a35)))) (.fail)

/-- hindsight/hindsightlaw9.ValShows -/
noncomputable def T4 (i0 : Int) (i1 : Int) (s2 : ByteArray) (p3 : (Option Addr)) (n4 : Nat) (n5 : Nat) (i6 : Int) (p7 : (Option Addr)) (i8 : Int) (i9 : Int) (i10 : Int) (s11 : ByteArray) (p12 : (Option Addr)) (n13 : Nat) (n14 : Nat) (i15 : Int) (p16 : (Option Addr)) (i17 : Int) (i18 : Int) (s19 : ByteArray) (i20 : Int) (p21 : (Option Addr)) (n22 : Nat) (n23 : Nat) (p24 : (Option Addr)) (n25 : Nat) (n26 : Nat) (p27 : (Option Addr)) (n28 : Nat) (n29 : Nat) : Pg :=
  .act (newC [(.int .i64 i0), (.int .i64 i1), (.string s2), (.slice p3 n4 n5), (.int .i64 i6), (.pointer p7), (.int .i64 i8)]) fun v30 => asPtr v30 fun p31 => asSome p31 fun a32 => .act (newC [(.int .i64 i9), (.int .i64 i10), (.string s11), (.slice p12 n13 n14), (.int .i64 i15), (.pointer p16), (.int .i64 i17)]) fun v33 => asPtr v33 fun p34 => asSome p34 fun a35 => .act (newC [(.int .i64 i18), (.string s19), (.int .i64 i20), (.slice p21 n22 n23)]) fun v36 => asPtr v36 fun p37 => asSome p37 fun a38 => .call 5 [] fun v39 => asBool v39 fun b40 => bif (!b40) then (.ret .ret [(.bool false)]) else (.join (.act (ldN 7 a32) fun v41 => asAgg v41 fun l42 => asCons l42 fun v43 l44 => asInt .i64 v43 fun i45 => asCons l44 fun v46 l47 => asInt .i64 v46 fun i48 => asCons l47 fun v49 l50 => asStr v49 fun s51 => asCons l50 fun v52 l53 => asSlice v52 fun p54 n55 n56 => asCons l53 fun v57 l58 => asInt .i64 v57 fun i59 => asCons l58 fun v60 l61 => asPtr v60 fun p62 => asCons l61 fun v63 l64 => asInt .i64 v63 fun i65 => asNil l64 (.call 6 [(.agg #[(.int .i64 i45), (.int .i64 i48), (.string s51), (.slice p54 n55 n56), (.int .i64 i59), (.pointer p62), (.int .i64 i65)]), (.int .i64 64)] fun v66 => asBool v66 fun b67 => bif b67 == false then (.act (ldN 7 a35) fun v68 => asAgg v68 fun l69 => asCons l69 fun v70 l71 => asInt .i64 v70 fun i72 => asCons l71 fun v73 l74 => asInt .i64 v73 fun i75 => asCons l74 fun v76 l77 => asStr v76 fun s78 => asCons l77 fun v79 l80 => asSlice v79 fun p81 n82 n83 => asCons l80 fun v84 l85 => asInt .i64 v84 fun i86 => asCons l85 fun v87 l88 => asPtr v87 fun p89 => asCons l88 fun v90 l91 => asInt .i64 v90 fun i92 => asNil l91 (.call 6 [(.agg #[(.int .i64 i72), (.int .i64 i75), (.string s78), (.slice p81 n82 n83), (.int .i64 i86), (.pointer p89), (.int .i64 i92)]), (.int .i64 64)] fun v93 => asBool v93 fun b94 => bif b94 == false then (.act (ldN 4 a38) fun v95 => asAgg v95 fun l96 => asCons l96 fun v97 l98 => asInt .i64 v97 fun i99 => asCons l98 fun v100 l101 => asStr v100 fun s102 => asCons l101 fun v103 l104 => asInt .i64 v103 fun i105 => asCons l104 fun v106 l107 => asSlice v106 fun p108 n109 n110 => asNil l107 (.call 8 [(.agg #[(.int .i64 i99), (.string s102), (.int .i64 i105), (.slice p108 n109 n110)]), (.int .i64 64)] fun v111 => asBool v111 fun b112 => bif (!b112) == false then (bif (decide (((n25 : Nat) : Int) > 6)) == false then (.ret .normal [(.bool (decide (((n28 : Nat) : Int) > 6)))]) else (.ret .normal [(.bool true)])) else (.ret .normal [(.bool true)]))) else (.ret .normal [(.bool true)]))) else (.ret .normal [(.bool true)]))) (T4k6 n28 p27 n25 p24 a32 a38 n26 n29 a35))
theorem T4_eq (i0 : Int) (i1 : Int) (s2 : ByteArray) (p3 : (Option Addr)) (n4 : Nat) (n5 : Nat) (i6 : Int) (p7 : (Option Addr)) (i8 : Int) (i9 : Int) (i10 : Int) (s11 : ByteArray) (p12 : (Option Addr)) (n13 : Nat) (n14 : Nat) (i15 : Int) (p16 : (Option Addr)) (i17 : Int) (i18 : Int) (s19 : ByteArray) (i20 : Int) (p21 : (Option Addr)) (n22 : Nat) (n23 : Nat) (p24 : (Option Addr)) (n25 : Nat) (n26 : Nat) (p27 : (Option Addr)) (n28 : Nat) (n29 : Nat) : progOf PROG false 4 [(.agg #[(.int .i64 i0), (.int .i64 i1), (.string s2), (.slice p3 n4 n5), (.int .i64 i6), (.pointer p7), (.int .i64 i8)]), (.agg #[(.int .i64 i9), (.int .i64 i10), (.string s11), (.slice p12 n13 n14), (.int .i64 i15), (.pointer p16), (.int .i64 i17)]), (.agg #[(.int .i64 i18), (.string s19), (.int .i64 i20), (.slice p21 n22 n23)]), (.slice p24 n25 n26), (.slice p27 n28 n29)] = T4 i0 i1 s2 p3 n4 n5 i6 p7 i8 i9 i10 s11 p12 n13 n14 i15 p16 i17 i18 s19 i20 p21 n22 n23 p24 n25 n26 p27 n28 n29 := by kernel_rfl


noncomputable def T5k0 : Ex → List Value → Pg :=
  fun e44 l45 => sw e44 .normal (asCons l45 fun v46 l47 => asBool v46 fun b48 => asNil l47 (.ret .ret [(.bool b48)])) (.fail)

/-- hindsight/hindsightlaw9.awake -/
noncomputable def T5 : Pg :=
  .call 16 [(.string (bs [43])), (.int .i64 4611686018427387903), (.int .i64 1)] fun v0 => asTuple v0 fun l1 => asCons l1 fun v2 l3 => asAgg v2 fun l4 => asCons l4 fun v5 l6 => asInt .i64 v5 fun i7 => asCons l6 fun v8 l9 => asInt .i64 v8 fun i10 => asCons l9 fun v11 l12 => asStr v11 fun s13 => asCons l12 fun v14 l15 => asSlice v14 fun p16 n17 n18 => asCons l15 fun v19 l20 => asInt .i64 v19 fun i21 => asCons l20 fun v22 l23 => asPtr v22 fun p24 => asCons l23 fun v25 l26 => asInt .i64 v25 fun i27 => asNil l26 (asCons l3 fun v28 l29 => asBool v28 fun b30 => asNil l29 (.act (newC [(.int .i64 0), (.int .i64 0), (.string (bs [])), (.slice none 0 0), (.int .i64 0), (.pointer none), (.int .i64 0)]) fun v31 => asPtr v31 fun p32 => asSome p32 fun a33 => .act (stC a33 [(.int .i64 i7), (.int .i64 i10), (.string s13), (.slice p16 n17 n18), (.int .i64 i21), (.pointer p24), (.int .i64 i27)]) fun v34 => asTuple v34 fun l35 => asNil l35 (.join (.call 17 [(.int .i64 4611686018427387904)] fun v36 => asInt .i64 v36 fun i37 => bif ((i37 == (-4611686018427387904)) && b30) == true then (.act (ld1 (aadd a33 0)) fun v38 => asInt .i64 v38 fun i39 => bif (i39 == 1) == true then (.act (ld1 (aadd a33 1)) fun v40 => asInt .i64 v40 fun i41 => bif (i41 == (-4611686018427387904)) == true then (.call 7 [(.agg #[(.int .i64 2), (.int .i64 1), (.string (bs [])), (.slice none 0 0), (.int .i64 0), (.pointer none), (.int .i64 0)]), (.agg #[(.int .i64 2), (.string (bs [])), (.int .i64 0), (.slice none 0 0)]), (.slice none 0 0), (.slice none 0 0)] fun v42 => asStr v42 fun s43 => .ret .normal [(.bool (s43.toList == (bs [116, 114, 117, 101]).toList))]) else (.ret .normal [(.bool false)])) else (.ret .normal [(.bool false)])) else (.ret .normal [(.bool false)])) (T5k0))))
theorem T5_eq : progOf PROG false 5 [] = T5 := by kernel_rfl


noncomputable def T6k0 (i27 : Int) : Ex → List Value → Pg :=
  fun e67 l68 => sw e67 .ret (asCons l68 fun v69 l70 => asBool v69 fun b71 => asNil l70 (.ret .ret [(.int .i64 i27), (.bool b71)])) (sw e67 .normal (asCons l68 fun v72 l73 => asBool v72 fun b74 => asNil l73 (.ret .normal [(.int .i64 (wi64 (i27 + 1))), (.bool b74)])) (.fail))

noncomputable def T6b0 (a12 : Addr) (i9 : Int) : List Value → Pg :=
  fun l24 => asCons l24 fun v25 l26 => asInt .i64 v25 fun i27 => asCons l26 fun v28 l29 => asBool v28 fun b30 => asNil l29 (.act (ld1 (aadd a12 3)) fun v31 => asSlice v31 fun p32 n33 n34 => bif (decide (i27 < ((n33 : Nat) : Int))) then (.join (.act (ld1 (aadd a12 3)) fun v35 => asSlice v35 fun p36 n37 n38 => asSome p36 fun a39 => grd ((decide (0 ≤ i27)) && (decide (i27 < ((n37 : Nat) : Int)))) (.act (ldN 7 (aadd a39 ((Int.toNat i27) * 7))) fun v40 => asAgg v40 fun l41 => asCons l41 fun v42 l43 => asInt .i64 v42 fun i44 => asCons l43 fun v45 l46 => asInt .i64 v45 fun i47 => asCons l46 fun v48 l49 => asStr v48 fun s50 => asCons l49 fun v51 l52 => asSlice v51 fun p53 n54 n55 => asCons l52 fun v56 l57 => asInt .i64 v56 fun i58 => asCons l57 fun v59 l60 => asPtr v59 fun p61 => asCons l60 fun v62 l63 => asInt .i64 v62 fun i64 => asNil l63 (.call 6 [(.agg #[(.int .i64 i44), (.int .i64 i47), (.string s50), (.slice p53 n54 n55), (.int .i64 i58), (.pointer p61), (.int .i64 i64)]), (.int .i64 (wi64 (Int.tdiv i9 2)))] fun v65 => asBool v65 fun b66 => bif b66 then (.ret .ret [(.bool true)]) else (.ret .normal [(.bool b30)])))) (T6k0 i27)) else (.ret (.exit 0) [(.int .i64 i27), (.bool b30)]))

noncomputable def T6k1 : Ex → List Value → Pg :=
  fun e75 l76 => sw e75 (.exit 0) (asCons l76 fun v77 l78 => asInt .i64 v77 fun i79 => asCons l78 fun v80 l81 => asBool v80 fun b82 => asNil l81 (.ret .ret [(.bool false)])) (sw e75 .ret (asCons l76 fun v83 l84 => asInt .i64 v83 fun i85 => asCons l84 fun v86 l87 => asBool v86 fun b88 => asNil l87 (.ret .ret [(.bool b88)])) (.fail))

noncomputable def T6k2 (a12 : Addr) (i9 : Int) : Ex → List Value → Pg :=
  fun e19 l20 => sw e19 .normal (asCons l20 fun v21 l22 => asBool v21 fun b23 => asNil l22 (bif b23 then (.ret .ret [(.bool true)]) else (.loop [(.int .i64 0), (.bool false)] (T6b0 a12 i9) (T6k1)))) (.fail)

/-- hindsight/hindsightlaw9.big -/
noncomputable def T6 (i0 : Int) (i1 : Int) (s2 : ByteArray) (p3 : (Option Addr)) (n4 : Nat) (n5 : Nat) (i6 : Int) (p7 : (Option Addr)) (i8 : Int) (i9 : Int) : Pg :=
  .act (newC [(.int .i64 i0), (.int .i64 i1), (.string s2), (.slice p3 n4 n5), (.int .i64 i6), (.pointer p7), (.int .i64 i8)]) fun v10 => asPtr v10 fun p11 => asSome p11 fun a12 => .join (bif (decide (i9 ≤ 0)) == false then (.act (ld1 (aadd a12 3)) fun v13 => asSlice v13 fun p14 n15 n16 => bif (decide (((n15 : Nat) : Int) > 4)) == false then (.act (ld1 (aadd a12 2)) fun v17 => asStr v17 fun s18 => .ret .normal [(.bool (decide (((s18.size : Nat) : Int) > 60)))]) else (.ret .normal [(.bool true)])) else (.ret .normal [(.bool true)])) (T6k2 a12 i9)
theorem T6_eq (i0 : Int) (i1 : Int) (s2 : ByteArray) (p3 : (Option Addr)) (n4 : Nat) (n5 : Nat) (i6 : Int) (p7 : (Option Addr)) (i8 : Int) (i9 : Int) : progOf PROG false 6 [(.agg #[(.int .i64 i0), (.int .i64 i1), (.string s2), (.slice p3 n4 n5), (.int .i64 i6), (.pointer p7), (.int .i64 i8)]), (.int .i64 i9)] = T6 i0 i1 s2 p3 n4 n5 i6 p7 i8 i9 := by kernel_rfl


/-- hindsight/val.Render -/
noncomputable def T7 (i0 : Int) (i1 : Int) (s2 : ByteArray) (p3 : (Option Addr)) (n4 : Nat) (n5 : Nat) (i6 : Int) (p7 : (Option Addr)) (i8 : Int) (i9 : Int) (s10 : ByteArray) (i11 : Int) (p12 : (Option Addr)) (n13 : Nat) (n14 : Nat) (p15 : (Option Addr)) (n16 : Nat) (n17 : Nat) (p18 : (Option Addr)) (n19 : Nat) (n20 : Nat) : Pg :=
  .act (newC [(.int .i64 i0), (.int .i64 i1), (.string s2), (.slice p3 n4 n5), (.int .i64 i6), (.pointer p7), (.int .i64 i8)]) fun v21 => asPtr v21 fun p22 => asSome p22 fun a23 => .act (newC [(.int .i64 i9), (.string s10), (.int .i64 i11), (.slice p12 n13 n14)]) fun v24 => asPtr v24 fun p25 => asSome p25 fun a26 => .act (ldN 7 a23) fun v27 => asAgg v27 fun l28 => asCons l28 fun v29 l30 => asInt .i64 v29 fun i31 => asCons l30 fun v32 l33 => asInt .i64 v32 fun i34 => asCons l33 fun v35 l36 => asStr v35 fun s37 => asCons l36 fun v38 l39 => asSlice v38 fun p40 n41 n42 => asCons l39 fun v43 l44 => asInt .i64 v43 fun i45 => asCons l44 fun v46 l47 => asPtr v46 fun p48 => asCons l47 fun v49 l50 => asInt .i64 v49 fun i51 => asNil l50 (.act (ldN 4 a26) fun v52 => asAgg v52 fun l53 => asCons l53 fun v54 l55 => asInt .i64 v54 fun i56 => asCons l55 fun v57 l58 => asStr v57 fun s59 => asCons l58 fun v60 l61 => asInt .i64 v60 fun i62 => asCons l61 fun v63 l64 => asSlice v63 fun p65 n66 n67 => asNil l64 (.call 18 [(.agg #[(.slice p15 n16 n17), (.slice p18 n19 n20)]), (.agg #[(.int .i64 i31), (.int .i64 i34), (.string s37), (.slice p40 n41 n42), (.int .i64 i45), (.pointer p48), (.int .i64 i51)]), (.agg #[(.int .i64 i56), (.string s59), (.int .i64 i62), (.slice p65 n66 n67)]), (.int .i64 0)] fun v68 => asStr v68 fun s69 => .ret .ret [(.string s69)]))
theorem T7_eq (i0 : Int) (i1 : Int) (s2 : ByteArray) (p3 : (Option Addr)) (n4 : Nat) (n5 : Nat) (i6 : Int) (p7 : (Option Addr)) (i8 : Int) (i9 : Int) (s10 : ByteArray) (i11 : Int) (p12 : (Option Addr)) (n13 : Nat) (n14 : Nat) (p15 : (Option Addr)) (n16 : Nat) (n17 : Nat) (p18 : (Option Addr)) (n19 : Nat) (n20 : Nat) : progOf PROG false 7 [(.agg #[(.int .i64 i0), (.int .i64 i1), (.string s2), (.slice p3 n4 n5), (.int .i64 i6), (.pointer p7), (.int .i64 i8)]), (.agg #[(.int .i64 i9), (.string s10), (.int .i64 i11), (.slice p12 n13 n14)]), (.slice p15 n16 n17), (.slice p18 n19 n20)] = T7 i0 i1 s2 p3 n4 n5 i6 p7 i8 i9 s10 i11 p12 n13 n14 p15 n16 n17 p18 n19 n20 := by kernel_rfl


noncomputable def T8k0 (i24 : Int) : Ex → List Value → Pg :=
  fun e55 l56 => sw e55 .ret (asCons l56 fun v57 l58 => asBool v57 fun b59 => asNil l58 (.ret .ret [(.int .i64 i24), (.bool b59)])) (sw e55 .normal (asCons l56 fun v60 l61 => asBool v60 fun b62 => asNil l61 (.ret .normal [(.int .i64 (wi64 (i24 + 1))), (.bool b62)])) (.fail))

noncomputable def T8b0 (a9 : Addr) (i6 : Int) : List Value → Pg :=
  fun l21 => asCons l21 fun v22 l23 => asInt .i64 v22 fun i24 => asCons l23 fun v25 l26 => asBool v25 fun b27 => asNil l26 (.act (ld1 (aadd a9 3)) fun v28 => asSlice v28 fun p29 n30 n31 => bif (decide (i24 < ((n30 : Nat) : Int))) then (.join (.act (ld1 (aadd a9 3)) fun v32 => asSlice v32 fun p33 n34 n35 => asSome p33 fun a36 => grd ((decide (0 ≤ i24)) && (decide (i24 < ((n34 : Nat) : Int)))) (.act (ldN 4 (aadd a36 ((Int.toNat i24) * 4))) fun v37 => asAgg v37 fun l38 => asCons l38 fun v39 l40 => asInt .i64 v39 fun i41 => asCons l40 fun v42 l43 => asStr v42 fun s44 => asCons l43 fun v45 l46 => asInt .i64 v45 fun i47 => asCons l46 fun v48 l49 => asSlice v48 fun p50 n51 n52 => asNil l49 (.call 8 [(.agg #[(.int .i64 i41), (.string s44), (.int .i64 i47), (.slice p50 n51 n52)]), (.int .i64 (wi64 (Int.tdiv i6 2)))] fun v53 => asBool v53 fun b54 => bif (!b54) then (.ret .ret [(.bool false)]) else (.ret .normal [(.bool b27)])))) (T8k0 i24)) else (.ret (.exit 0) [(.int .i64 i24), (.bool b27)]))

noncomputable def T8k1 : Ex → List Value → Pg :=
  fun e63 l64 => sw e63 (.exit 0) (asCons l64 fun v65 l66 => asInt .i64 v65 fun i67 => asCons l66 fun v68 l69 => asBool v68 fun b70 => asNil l69 (.ret .ret [(.bool true)])) (sw e63 .ret (asCons l64 fun v71 l72 => asInt .i64 v71 fun i73 => asCons l72 fun v74 l75 => asBool v74 fun b76 => asNil l75 (.ret .ret [(.bool b76)])) (.fail))

noncomputable def T8k2 (a9 : Addr) (i6 : Int) : Ex → List Value → Pg :=
  fun e16 l17 => sw e16 .normal (asCons l17 fun v18 l19 => asBool v18 fun b20 => asNil l19 (bif b20 then (.ret .ret [(.bool false)]) else (.loop [(.int .i64 0), (.bool false)] (T8b0 a9 i6) (T8k1)))) (.fail)

/-- hindsight/hindsightlaw9.small -/
noncomputable def T8 (i0 : Int) (s1 : ByteArray) (i2 : Int) (p3 : (Option Addr)) (n4 : Nat) (n5 : Nat) (i6 : Int) : Pg :=
  .act (newC [(.int .i64 i0), (.string s1), (.int .i64 i2), (.slice p3 n4 n5)]) fun v7 => asPtr v7 fun p8 => asSome p8 fun a9 => .join (bif (decide (i6 ≤ 0)) == false then (.act (ld1 (aadd a9 3)) fun v10 => asSlice v10 fun p11 n12 n13 => bif (decide (((n12 : Nat) : Int) > 4)) == false then (.act (ld1 (aadd a9 1)) fun v14 => asStr v14 fun s15 => .ret .normal [(.bool (decide (((s15.size : Nat) : Int) > 60)))]) else (.ret .normal [(.bool true)])) else (.ret .normal [(.bool true)])) (T8k2 a9 i6)
theorem T8_eq (i0 : Int) (s1 : ByteArray) (i2 : Int) (p3 : (Option Addr)) (n4 : Nat) (n5 : Nat) (i6 : Int) : progOf PROG false 8 [(.agg #[(.int .i64 i0), (.string s1), (.int .i64 i2), (.slice p3 n4 n5)]), (.int .i64 i6)] = T8 i0 s1 i2 p3 n4 n5 i6 := by kernel_rfl


/-- hindsight/hindsightref9.Render -/
noncomputable def T9 (i0 : Int) (i1 : Int) (s2 : ByteArray) (p3 : (Option Addr)) (n4 : Nat) (n5 : Nat) (i6 : Int) (p7 : (Option Addr)) (i8 : Int) (i9 : Int) (i10 : Int) (s11 : ByteArray) (i12 : Int) (p13 : (Option Addr)) (n14 : Nat) (n15 : Nat) (p16 : (Option Addr)) (n17 : Nat) (n18 : Nat) (p19 : (Option Addr)) (n20 : Nat) (n21 : Nat) : Pg :=
  .act (newC [(.int .i64 i0), (.int .i64 i1), (.string s2), (.slice p3 n4 n5), (.int .i64 i6), (.pointer p7), (.int .i64 i8), (.int .i64 i9)]) fun v22 => asPtr v22 fun p23 => asSome p23 fun a24 => .act (newC [(.int .i64 i10), (.string s11), (.int .i64 i12), (.slice p13 n14 n15)]) fun v25 => asPtr v25 fun p26 => asSome p26 fun a27 => .act (ldN 8 a24) fun v28 => asAgg v28 fun l29 => asCons l29 fun v30 l31 => asInt .i64 v30 fun i32 => asCons l31 fun v33 l34 => asInt .i64 v33 fun i35 => asCons l34 fun v36 l37 => asStr v36 fun s38 => asCons l37 fun v39 l40 => asSlice v39 fun p41 n42 n43 => asCons l40 fun v44 l45 => asInt .i64 v44 fun i46 => asCons l45 fun v47 l48 => asPtr v47 fun p49 => asCons l48 fun v50 l51 => asInt .i64 v50 fun i52 => asCons l51 fun v53 l54 => asInt .i64 v53 fun i55 => asNil l54 (.act (ldN 4 a27) fun v56 => asAgg v56 fun l57 => asCons l57 fun v58 l59 => asInt .i64 v58 fun i60 => asCons l59 fun v61 l62 => asStr v61 fun s63 => asCons l62 fun v64 l65 => asInt .i64 v64 fun i66 => asCons l65 fun v67 l68 => asSlice v67 fun p69 n70 n71 => asNil l68 (.call 19 [(.agg #[(.int .i64 i32), (.int .i64 i35), (.string s38), (.slice p41 n42 n43), (.int .i64 i46), (.pointer p49), (.int .i64 i52), (.int .i64 i55)]), (.agg #[(.int .i64 i60), (.string s63), (.int .i64 i66), (.slice p69 n70 n71)]), (.slice p16 n17 n18), (.slice p19 n20 n21), (.int .i64 0)] fun v72 => asStr v72 fun s73 => .ret .ret [(.string s73)]))
theorem T9_eq (i0 : Int) (i1 : Int) (s2 : ByteArray) (p3 : (Option Addr)) (n4 : Nat) (n5 : Nat) (i6 : Int) (p7 : (Option Addr)) (i8 : Int) (i9 : Int) (i10 : Int) (s11 : ByteArray) (i12 : Int) (p13 : (Option Addr)) (n14 : Nat) (n15 : Nat) (p16 : (Option Addr)) (n17 : Nat) (n18 : Nat) (p19 : (Option Addr)) (n20 : Nat) (n21 : Nat) : progOf PROG false 9 [(.agg #[(.int .i64 i0), (.int .i64 i1), (.string s2), (.slice p3 n4 n5), (.int .i64 i6), (.pointer p7), (.int .i64 i8), (.int .i64 i9)]), (.agg #[(.int .i64 i10), (.string s11), (.int .i64 i12), (.slice p13 n14 n15)]), (.slice p16 n17 n18), (.slice p19 n20 n21)] = T9 i0 i1 s2 p3 n4 n5 i6 p7 i8 i9 i10 s11 i12 p13 n14 n15 p16 n17 n18 p19 n20 n21 := by kernel_rfl


noncomputable def T10k0 (i33 : Int) : Ex → List Value → Pg :=
  fun e112 l113 => sw e112 .normal (asNil l113 (.ret .normal [(.int .i64 (wi64 (i33 + 1)))])) (.fail)

noncomputable def T10b0 (a11 : Addr) (a27 : Addr) : List Value → Pg :=
  fun l30 => asCons l30 fun v31 l32 => asInt .i64 v31 fun i33 => asNil l32 (.act (ld1 (aadd a11 3)) fun v34 => asSlice v34 fun p35 n36 n37 => bif (decide (i33 < ((n36 : Nat) : Int))) then (.join (.act (ld1 (aadd a27 3)) fun v38 => asSlice v38 fun p39 n40 n41 => .act (ld1 (aadd a11 3)) fun v42 => asSlice v42 fun p43 n44 n45 => asSome p43 fun a46 => grd ((decide (0 ≤ i33)) && (decide (i33 < ((n44 : Nat) : Int)))) (.act (ldN 7 (aadd a46 ((Int.toNat i33) * 7))) fun v47 => asAgg v47 fun l48 => asCons l48 fun v49 l50 => asInt .i64 v49 fun i51 => asCons l50 fun v52 l53 => asInt .i64 v52 fun i54 => asCons l53 fun v55 l56 => asStr v55 fun s57 => asCons l56 fun v58 l59 => asSlice v58 fun p60 n61 n62 => asCons l59 fun v63 l64 => asInt .i64 v63 fun i65 => asCons l64 fun v66 l67 => asPtr v66 fun p68 => asCons l67 fun v69 l70 => asInt .i64 v69 fun i71 => asNil l70 (.call 10 [(.agg #[(.int .i64 i51), (.int .i64 i54), (.string s57), (.slice p60 n61 n62), (.int .i64 i65), (.pointer p68), (.int .i64 i71)])] fun v72 => asAgg v72 fun l73 => asCons l73 fun v74 l75 => asInt .i64 v74 fun i76 => asCons l75 fun v77 l78 => asInt .i64 v77 fun i79 => asCons l78 fun v80 l81 => asStr v80 fun s82 => asCons l81 fun v83 l84 => asSlice v83 fun p85 n86 n87 => asCons l84 fun v88 l89 => asInt .i64 v88 fun i90 => asCons l89 fun v91 l92 => asPtr v91 fun p93 => asCons l92 fun v94 l95 => asInt .i64 v94 fun i96 => asCons l95 fun v97 l98 => asInt .i64 v97 fun i99 => asNil l98 (.get fun h111 => grd (chks [((ld1 (aadd a27 3)), v38)] h111) (.act (bdSl 8 1 [(.int .i64 i76), (.int .i64 i79), (.string s82), (.slice p85 n86 n87), (.int .i64 i90), (.pointer p93), (.int .i64 i96), (.int .i64 i99)]) fun v100 => asSlice v100 fun p101 n102 n103 => .get fun h110 => grd (chks [((ld1 (aadd a27 3)), v38)] h110) (.act (apS 8 88 p39 n40 n41 p101 n102 n103) fun v104 => asSlice v104 fun p105 n106 n107 => .act (stC (aadd a27 3) [(.slice p105 n106 n107)]) fun v108 => asTuple v108 fun l109 => asNil l109 (.ret .normal []))))))) (T10k0 i33)) else (.ret (.exit 0) [(.int .i64 i33)]))

noncomputable def T10k1 (a27 : Addr) (a14 : Addr) : Ex → List Value → Pg :=
  fun e114 l115 => sw e114 (.exit 0) (asCons l115 fun v116 l117 => asInt .i64 v116 fun i118 => asNil l117 (.act (ldN 8 a27) fun v119 => asAgg v119 fun l120 => asCons l120 fun v121 l122 => asInt .i64 v121 fun i123 => asCons l122 fun v124 l125 => asInt .i64 v124 fun i126 => asCons l125 fun v127 l128 => asStr v127 fun s129 => asCons l128 fun v130 l131 => asSlice v130 fun p132 n133 n134 => asCons l131 fun v135 l136 => asInt .i64 v135 fun i137 => asCons l136 fun v138 l139 => asPtr v138 fun p140 => asCons l139 fun v141 l142 => asInt .i64 v141 fun i143 => asCons l142 fun v144 l145 => asInt .i64 v144 fun i146 => asNil l145 (.act (stC a14 [(.int .i64 i123), (.int .i64 i126), (.string s129), (.slice p132 n133 n134), (.int .i64 i137), (.pointer p140), (.int .i64 i143), (.int .i64 i146)]) fun v147 => asTuple v147 fun l148 => asNil l148 (.act (ldN 8 a14) fun v149 => .ret .ret [v149])))) (.fail)

/-- hindsight/hindsightlaw9.vl -/
noncomputable def T10 (i0 : Int) (i1 : Int) (s2 : ByteArray) (p3 : (Option Addr)) (n4 : Nat) (n5 : Nat) (i6 : Int) (p7 : (Option Addr)) (i8 : Int) : Pg :=
  .act (newC [(.int .i64 i0), (.int .i64 i1), (.string s2), (.slice p3 n4 n5), (.int .i64 i6), (.pointer p7), (.int .i64 i8)]) fun v9 => asPtr v9 fun p10 => asSome p10 fun a11 => .act (newC [(.int .i64 0), (.int .i64 0), (.string (bs [])), (.slice none 0 0), (.int .i64 0), (.pointer none), (.int .i64 0), (.int .i64 0)]) fun v12 => asPtr v12 fun p13 => asSome p13 fun a14 => .act (ld1 (aadd a11 0)) fun v15 => asInt .i64 v15 fun i16 => .act (ld1 (aadd a11 1)) fun v17 => asInt .i64 v17 fun i18 => .act (ld1 (aadd a11 2)) fun v19 => asStr v19 fun s20 => .act (ld1 (aadd a11 4)) fun v21 => asInt .i64 v21 fun i22 => .act (ld1 (aadd a11 6)) fun v23 => asInt .i64 v23 fun i24 => .act (newC [(.int .i64 0), (.int .i64 0), (.string (bs [])), (.slice none 0 0), (.int .i64 0), (.pointer none), (.int .i64 0), (.int .i64 0)]) fun v25 => asPtr v25 fun p26 => asSome p26 fun a27 => .act (stC a27 [(.int .i64 i16), (.int .i64 i18), (.string s20), (.slice none 0 0), (.int .i64 i22), (.pointer none), (.int .i64 i24), (.int .i64 0)]) fun v28 => asTuple v28 fun l29 => asNil l29 (.loop [(.int .i64 0)] (T10b0 a11 a27) (T10k1 a27 a14))
theorem T10_eq (i0 : Int) (i1 : Int) (s2 : ByteArray) (p3 : (Option Addr)) (n4 : Nat) (n5 : Nat) (i6 : Int) (p7 : (Option Addr)) (i8 : Int) : progOf PROG false 10 [(.agg #[(.int .i64 i0), (.int .i64 i1), (.string s2), (.slice p3 n4 n5), (.int .i64 i6), (.pointer p7), (.int .i64 i8)])] = T10 i0 i1 s2 p3 n4 n5 i6 p7 i8 := by kernel_rfl


noncomputable def T11k0 (i26 : Int) : Ex → List Value → Pg :=
  fun e84 l85 => sw e84 .normal (asNil l85 (.ret .normal [(.int .i64 (wi64 (i26 + 1)))])) (.fail)

noncomputable def T11b0 (a8 : Addr) (a20 : Addr) : List Value → Pg :=
  fun l23 => asCons l23 fun v24 l25 => asInt .i64 v24 fun i26 => asNil l25 (.act (ld1 (aadd a8 3)) fun v27 => asSlice v27 fun p28 n29 n30 => bif (decide (i26 < ((n29 : Nat) : Int))) then (.join (.act (ld1 (aadd a20 3)) fun v31 => asSlice v31 fun p32 n33 n34 => .act (ld1 (aadd a8 3)) fun v35 => asSlice v35 fun p36 n37 n38 => asSome p36 fun a39 => grd ((decide (0 ≤ i26)) && (decide (i26 < ((n37 : Nat) : Int)))) (.act (ldN 4 (aadd a39 ((Int.toNat i26) * 4))) fun v40 => asAgg v40 fun l41 => asCons l41 fun v42 l43 => asInt .i64 v42 fun i44 => asCons l43 fun v45 l46 => asStr v45 fun s47 => asCons l46 fun v48 l49 => asInt .i64 v48 fun i50 => asCons l49 fun v51 l52 => asSlice v51 fun p53 n54 n55 => asNil l52 (.call 11 [(.agg #[(.int .i64 i44), (.string s47), (.int .i64 i50), (.slice p53 n54 n55)])] fun v56 => asAgg v56 fun l57 => asCons l57 fun v58 l59 => asInt .i64 v58 fun i60 => asCons l59 fun v61 l62 => asStr v61 fun s63 => asCons l62 fun v64 l65 => asInt .i64 v64 fun i66 => asCons l65 fun v67 l68 => asSlice v67 fun p69 n70 n71 => asNil l68 (.get fun h83 => grd (chks [((ld1 (aadd a20 3)), v31)] h83) (.act (bdSl 4 1 [(.int .i64 i60), (.string s63), (.int .i64 i66), (.slice p69 n70 n71)]) fun v72 => asSlice v72 fun p73 n74 n75 => .get fun h82 => grd (chks [((ld1 (aadd a20 3)), v31)] h82) (.act (apS 4 56 p32 n33 n34 p73 n74 n75) fun v76 => asSlice v76 fun p77 n78 n79 => .act (stC (aadd a20 3) [(.slice p77 n78 n79)]) fun v80 => asTuple v80 fun l81 => asNil l81 (.ret .normal []))))))) (T11k0 i26)) else (.ret (.exit 0) [(.int .i64 i26)]))

noncomputable def T11k1 (a20 : Addr) (a11 : Addr) : Ex → List Value → Pg :=
  fun e86 l87 => sw e86 (.exit 0) (asCons l87 fun v88 l89 => asInt .i64 v88 fun i90 => asNil l89 (.act (ldN 4 a20) fun v91 => asAgg v91 fun l92 => asCons l92 fun v93 l94 => asInt .i64 v93 fun i95 => asCons l94 fun v96 l97 => asStr v96 fun s98 => asCons l97 fun v99 l100 => asInt .i64 v99 fun i101 => asCons l100 fun v102 l103 => asSlice v102 fun p104 n105 n106 => asNil l103 (.act (stC a11 [(.int .i64 i95), (.string s98), (.int .i64 i101), (.slice p104 n105 n106)]) fun v107 => asTuple v107 fun l108 => asNil l108 (.act (ldN 4 a11) fun v109 => .ret .ret [v109])))) (.fail)

/-- hindsight/hindsightlaw9.ty1 -/
noncomputable def T11 (i0 : Int) (s1 : ByteArray) (i2 : Int) (p3 : (Option Addr)) (n4 : Nat) (n5 : Nat) : Pg :=
  .act (newC [(.int .i64 i0), (.string s1), (.int .i64 i2), (.slice p3 n4 n5)]) fun v6 => asPtr v6 fun p7 => asSome p7 fun a8 => .act (newC [(.int .i64 0), (.string (bs [])), (.int .i64 0), (.slice none 0 0)]) fun v9 => asPtr v9 fun p10 => asSome p10 fun a11 => .act (ld1 (aadd a8 0)) fun v12 => asInt .i64 v12 fun i13 => .act (ld1 (aadd a8 1)) fun v14 => asStr v14 fun s15 => .act (ld1 (aadd a8 2)) fun v16 => asInt .i64 v16 fun i17 => .act (newC [(.int .i64 0), (.string (bs [])), (.int .i64 0), (.slice none 0 0)]) fun v18 => asPtr v18 fun p19 => asSome p19 fun a20 => .act (stC a20 [(.int .i64 i13), (.string s15), (.int .i64 i17), (.slice none 0 0)]) fun v21 => asTuple v21 fun l22 => asNil l22 (.loop [(.int .i64 0)] (T11b0 a8 a20) (T11k1 a20 a11))
theorem T11_eq (i0 : Int) (s1 : ByteArray) (i2 : Int) (p3 : (Option Addr)) (n4 : Nat) (n5 : Nat) : progOf PROG false 11 [(.agg #[(.int .i64 i0), (.string s1), (.int .i64 i2), (.slice p3 n4 n5)])] = T11 i0 s1 i2 p3 n4 n5 := by kernel_rfl


noncomputable def T12k0 (i6 : Int) : Ex → List Value → Pg :=
  fun e74 l75 => sw e74 .normal (asCons l75 fun v76 l77 => asSlice v76 fun p78 n79 n80 => asNil l77 (.ret .normal [(.int .i64 (wi64 (i6 + 1))), (.slice p78 n79 n80)])) (.fail)

noncomputable def T12b0 (n1 : Nat) (p0 : (Option Addr)) : List Value → Pg :=
  fun l3 => asCons l3 fun v4 l5 => asInt .i64 v4 fun i6 => asCons l5 fun v7 l8 => asSlice v7 fun p9 n10 n11 => asNil l8 (bif (decide (i6 < ((n1 : Nat) : Int))) then (.join (asSome p0 fun a12 => grd ((decide (0 ≤ i6)) && (decide (i6 < ((n1 : Nat) : Int)))) (.act (ldN 7 (aadd a12 ((Int.toNat i6) * 7))) fun v13 => asAgg v13 fun l14 => asCons l14 fun v15 l16 => asInt .i64 v15 fun i17 => asCons l16 fun v18 l19 => asInt .i64 v18 fun i20 => asCons l19 fun v21 l22 => asStr v21 fun s23 => asCons l22 fun v24 l25 => asSlice v24 fun p26 n27 n28 => asCons l25 fun v29 l30 => asInt .i64 v29 fun i31 => asCons l30 fun v32 l33 => asPtr v32 fun p34 => asCons l33 fun v35 l36 => asInt .i64 v35 fun i37 => asNil l36 (.call 10 [(.agg #[(.int .i64 i17), (.int .i64 i20), (.string s23), (.slice p26 n27 n28), (.int .i64 i31), (.pointer p34), (.int .i64 i37)])] fun v38 => asAgg v38 fun l39 => asCons l39 fun v40 l41 => asInt .i64 v40 fun i42 => asCons l41 fun v43 l44 => asInt .i64 v43 fun i45 => asCons l44 fun v46 l47 => asStr v46 fun s48 => asCons l47 fun v49 l50 => asSlice v49 fun p51 n52 n53 => asCons l50 fun v54 l55 => asInt .i64 v54 fun i56 => asCons l55 fun v57 l58 => asPtr v57 fun p59 => asCons l58 fun v60 l61 => asInt .i64 v60 fun i62 => asCons l61 fun v63 l64 => asInt .i64 v63 fun i65 => asNil l64 (.act (bdSl 8 1 [(.int .i64 i42), (.int .i64 i45), (.string s48), (.slice p51 n52 n53), (.int .i64 i56), (.pointer p59), (.int .i64 i62), (.int .i64 i65)]) fun v66 => asSlice v66 fun p67 n68 n69 => .act (apS 8 88 p9 n10 n11 p67 n68 n69) fun v70 => asSlice v70 fun p71 n72 n73 => .ret .normal [(.slice p71 n72 n73)])))) (T12k0 i6)) else (.ret (.exit 0) [(.int .i64 i6), (.slice p9 n10 n11)]))

noncomputable def T12k1 : Ex → List Value → Pg :=
  fun e81 l82 => sw e81 (.exit 0) (asCons l82 fun v83 l84 => asInt .i64 v83 fun i85 => asCons l84 fun v86 l87 => asSlice v86 fun p88 n89 n90 => asNil l87 (.ret .ret [(.slice p88 n89 n90)])) (.fail)

/-- hindsight/hindsightlaw9.vls -/
noncomputable def T12 (p0 : (Option Addr)) (n1 : Nat) (n2 : Nat) : Pg :=
  .loop [(.int .i64 0), (.slice none 0 0)] (T12b0 n1 p0) (T12k1)
theorem T12_eq (p0 : (Option Addr)) (n1 : Nat) (n2 : Nat) : progOf PROG false 12 [(.slice p0 n1 n2)] = T12 p0 n1 n2 := by kernel_rfl


noncomputable def T13k0 (i64 : Int) : Ex → List Value → Pg :=
  fun e130 l131 => sw e130 .ret (asCons l131 fun v132 l133 => asBool v132 fun b134 => asNil l133 (.ret .ret [(.int .i64 i64), (.bool b134)])) (sw e130 .normal (asCons l131 fun v135 l136 => asBool v135 fun b137 => asNil l136 (.ret .normal [(.int .i64 (wi64 (i64 + 1))), (.bool b137)])) (.fail))

noncomputable def T13b0 (n59 : Nat) (a20 : Addr) (a23 : Addr) : List Value → Pg :=
  fun l61 => asCons l61 fun v62 l63 => asInt .i64 v62 fun i64 => asCons l63 fun v65 l66 => asBool v65 fun b67 => asNil l66 (bif (decide (i64 < ((n59 : Nat) : Int))) then (.join (.act (ld1 (aadd a20 3)) fun v68 => asSlice v68 fun p69 n70 n71 => asSome p69 fun a72 => grd ((decide (0 ≤ i64)) && (decide (i64 < ((n70 : Nat) : Int)))) (.act (ldN 7 (aadd a72 ((Int.toNat i64) * 7))) fun v73 => asAgg v73 fun l74 => asCons l74 fun v75 l76 => asInt .i64 v75 fun i77 => asCons l76 fun v78 l79 => asInt .i64 v78 fun i80 => asCons l79 fun v81 l82 => asStr v81 fun s83 => asCons l82 fun v84 l85 => asSlice v84 fun p86 n87 n88 => asCons l85 fun v89 l90 => asInt .i64 v89 fun i91 => asCons l90 fun v92 l93 => asPtr v92 fun p94 => asCons l93 fun v95 l96 => asInt .i64 v95 fun i97 => asNil l96 (.act (ld1 (aadd a23 3)) fun v98 => asSlice v98 fun p99 n100 n101 => asSome p99 fun a102 => grd ((decide (0 ≤ i64)) && (decide (i64 < ((n100 : Nat) : Int)))) (.act (ldN 7 (aadd a102 ((Int.toNat i64) * 7))) fun v103 => asAgg v103 fun l104 => asCons l104 fun v105 l106 => asInt .i64 v105 fun i107 => asCons l106 fun v108 l109 => asInt .i64 v108 fun i110 => asCons l109 fun v111 l112 => asStr v111 fun s113 => asCons l112 fun v114 l115 => asSlice v114 fun p116 n117 n118 => asCons l115 fun v119 l120 => asInt .i64 v119 fun i121 => asCons l120 fun v122 l123 => asPtr v122 fun p124 => asCons l123 fun v125 l126 => asInt .i64 v125 fun i127 => asNil l126 (.call 13 [(.agg #[(.int .i64 i77), (.int .i64 i80), (.string s83), (.slice p86 n87 n88), (.int .i64 i91), (.pointer p94), (.int .i64 i97)]), (.agg #[(.int .i64 i107), (.int .i64 i110), (.string s113), (.slice p116 n117 n118), (.int .i64 i121), (.pointer p124), (.int .i64 i127)])] fun v128 => asBool v128 fun b129 => bif (!b129) then (.ret .ret [(.bool false)]) else (.ret .normal [(.bool b67)])))))) (T13k0 i64)) else (.ret (.exit 0) [(.int .i64 i64), (.bool b67)]))

noncomputable def T13k1 : Ex → List Value → Pg :=
  fun e138 l139 => sw e138 (.exit 0) (asCons l139 fun v140 l141 => asInt .i64 v140 fun i142 => asCons l141 fun v143 l144 => asBool v143 fun b145 => asNil l144 (.ret .ret [(.bool true)])) (sw e138 .ret (asCons l139 fun v146 l147 => asInt .i64 v146 fun i148 => asCons l147 fun v149 l150 => asBool v149 fun b151 => asNil l150 (.ret .ret [(.bool b151)])) (.fail))

noncomputable def T13k2 (a20 : Addr) (a23 : Addr) : Ex → List Value → Pg :=
  fun e52 l53 => sw e52 .normal (asCons l53 fun v54 l55 => asBool v54 fun b56 => asNil l55 (bif b56 then (.ret .ret [(.bool false)]) else (.act (ld1 (aadd a20 3)) fun v57 => asSlice v57 fun p58 n59 n60 => .loop [(.int .i64 0), (.bool false)] (T13b0 n59 a20 a23) (T13k1)))) (.fail)

/-- hindsight/val.Same -/
noncomputable def T13 (i0 : Int) (i1 : Int) (s2 : ByteArray) (p3 : (Option Addr)) (n4 : Nat) (n5 : Nat) (i6 : Int) (p7 : (Option Addr)) (i8 : Int) (i9 : Int) (i10 : Int) (s11 : ByteArray) (p12 : (Option Addr)) (n13 : Nat) (n14 : Nat) (i15 : Int) (p16 : (Option Addr)) (i17 : Int) : Pg :=
  .act (newC [(.int .i64 i0), (.int .i64 i1), (.string s2), (.slice p3 n4 n5), (.int .i64 i6), (.pointer p7), (.int .i64 i8)]) fun v18 => asPtr v18 fun p19 => asSome p19 fun a20 => .act (newC [(.int .i64 i9), (.int .i64 i10), (.string s11), (.slice p12 n13 n14), (.int .i64 i15), (.pointer p16), (.int .i64 i17)]) fun v21 => asPtr v21 fun p22 => asSome p22 fun a23 => .join (.act (ld1 (aadd a20 0)) fun v24 => asInt .i64 v24 fun i25 => .act (ld1 (aadd a23 0)) fun v26 => asInt .i64 v26 fun i27 => bif (i25 != i27) == false then (.act (ld1 (aadd a20 1)) fun v28 => asInt .i64 v28 fun i29 => .act (ld1 (aadd a23 1)) fun v30 => asInt .i64 v30 fun i31 => bif (i29 != i31) == false then (.act (ld1 (aadd a20 2)) fun v32 => asStr v32 fun s33 => .act (ld1 (aadd a23 2)) fun v34 => asStr v34 fun s35 => bif (!(s33.toList == s35.toList)) == false then (.act (ld1 (aadd a20 4)) fun v36 => asInt .i64 v36 fun i37 => .act (ld1 (aadd a23 4)) fun v38 => asInt .i64 v38 fun i39 => bif (i37 != i39) == false then (.act (ld1 (aadd a20 6)) fun v40 => asInt .i64 v40 fun i41 => .act (ld1 (aadd a23 6)) fun v42 => asInt .i64 v42 fun i43 => bif (i41 != i43) == false then (.act (ld1 (aadd a20 3)) fun v44 => asSlice v44 fun p45 n46 n47 => .act (ld1 (aadd a23 3)) fun v48 => asSlice v48 fun p49 n50 n51 => .ret .normal [(.bool (((n46 : Nat) : Int) != ((n50 : Nat) : Int)))]) else (.ret .normal [(.bool true)])) else (.ret .normal [(.bool true)])) else (.ret .normal [(.bool true)])) else (.ret .normal [(.bool true)])) else (.ret .normal [(.bool true)])) (T13k2 a20 a23)
theorem T13_eq (i0 : Int) (i1 : Int) (s2 : ByteArray) (p3 : (Option Addr)) (n4 : Nat) (n5 : Nat) (i6 : Int) (p7 : (Option Addr)) (i8 : Int) (i9 : Int) (i10 : Int) (s11 : ByteArray) (p12 : (Option Addr)) (n13 : Nat) (n14 : Nat) (i15 : Int) (p16 : (Option Addr)) (i17 : Int) : progOf PROG false 13 [(.agg #[(.int .i64 i0), (.int .i64 i1), (.string s2), (.slice p3 n4 n5), (.int .i64 i6), (.pointer p7), (.int .i64 i8)]), (.agg #[(.int .i64 i9), (.int .i64 i10), (.string s11), (.slice p12 n13 n14), (.int .i64 i15), (.pointer p16), (.int .i64 i17)])] = T13 i0 i1 s2 p3 n4 n5 i6 p7 i8 i9 i10 s11 p12 n13 n14 i15 p16 i17 := by kernel_rfl


noncomputable def T14k0 (i62 : Int) : Ex → List Value → Pg :=
  fun e138 l139 => sw e138 .ret (asCons l139 fun v140 l141 => asBool v140 fun b142 => asNil l141 (.ret .ret [(.int .i64 i62), (.bool b142)])) (sw e138 .normal (asCons l139 fun v143 l144 => asBool v143 fun b145 => asNil l144 (.ret .normal [(.int .i64 (wi64 (i62 + 1))), (.bool b145)])) (.fail))

noncomputable def T14b0 (a22 : Addr) (a25 : Addr) : List Value → Pg :=
  fun l59 => asCons l59 fun v60 l61 => asInt .i64 v60 fun i62 => asCons l61 fun v63 l64 => asBool v63 fun b65 => asNil l64 (.act (ld1 (aadd a22 3)) fun v66 => asSlice v66 fun p67 n68 n69 => bif (decide (i62 < ((n68 : Nat) : Int))) then (.join (.act (ld1 (aadd a22 3)) fun v70 => asSlice v70 fun p71 n72 n73 => asSome p71 fun a74 => grd ((decide (0 ≤ i62)) && (decide (i62 < ((n72 : Nat) : Int)))) (.act (ldN 8 (aadd a74 ((Int.toNat i62) * 8))) fun v75 => asAgg v75 fun l76 => asCons l76 fun v77 l78 => asInt .i64 v77 fun i79 => asCons l78 fun v80 l81 => asInt .i64 v80 fun i82 => asCons l81 fun v83 l84 => asStr v83 fun s85 => asCons l84 fun v86 l87 => asSlice v86 fun p88 n89 n90 => asCons l87 fun v91 l92 => asInt .i64 v91 fun i93 => asCons l92 fun v94 l95 => asPtr v94 fun p96 => asCons l95 fun v97 l98 => asInt .i64 v97 fun i99 => asCons l98 fun v100 l101 => asInt .i64 v100 fun i102 => asNil l101 (.act (ld1 (aadd a25 3)) fun v103 => asSlice v103 fun p104 n105 n106 => asSome p104 fun a107 => grd ((decide (0 ≤ i62)) && (decide (i62 < ((n105 : Nat) : Int)))) (.act (ldN 8 (aadd a107 ((Int.toNat i62) * 8))) fun v108 => asAgg v108 fun l109 => asCons l109 fun v110 l111 => asInt .i64 v110 fun i112 => asCons l111 fun v113 l114 => asInt .i64 v113 fun i115 => asCons l114 fun v116 l117 => asStr v116 fun s118 => asCons l117 fun v119 l120 => asSlice v119 fun p121 n122 n123 => asCons l120 fun v124 l125 => asInt .i64 v124 fun i126 => asCons l125 fun v127 l128 => asPtr v127 fun p129 => asCons l128 fun v130 l131 => asInt .i64 v130 fun i132 => asCons l131 fun v133 l134 => asInt .i64 v133 fun i135 => asNil l134 (.call 14 [(.agg #[(.int .i64 i79), (.int .i64 i82), (.string s85), (.slice p88 n89 n90), (.int .i64 i93), (.pointer p96), (.int .i64 i99), (.int .i64 i102)]), (.agg #[(.int .i64 i112), (.int .i64 i115), (.string s118), (.slice p121 n122 n123), (.int .i64 i126), (.pointer p129), (.int .i64 i132), (.int .i64 i135)])] fun v136 => asBool v136 fun b137 => bif (!b137) then (.ret .ret [(.bool false)]) else (.ret .normal [(.bool b65)])))))) (T14k0 i62)) else (.ret (.exit 0) [(.int .i64 i62), (.bool b65)]))

noncomputable def T14k1 : Ex → List Value → Pg :=
  fun e146 l147 => sw e146 (.exit 0) (asCons l147 fun v148 l149 => asInt .i64 v148 fun i150 => asCons l149 fun v151 l152 => asBool v151 fun b153 => asNil l152 (.ret .ret [(.bool true)])) (sw e146 .ret (asCons l147 fun v154 l155 => asInt .i64 v154 fun i156 => asCons l155 fun v157 l158 => asBool v157 fun b159 => asNil l158 (.ret .ret [(.bool b159)])) (.fail))

noncomputable def T14k2 (a22 : Addr) (a25 : Addr) : Ex → List Value → Pg :=
  fun e54 l55 => sw e54 .normal (asCons l55 fun v56 l57 => asBool v56 fun b58 => asNil l57 (bif b58 then (.ret .ret [(.bool false)]) else (.loop [(.int .i64 0), (.bool false)] (T14b0 a22 a25) (T14k1)))) (.fail)

/-- hindsight/hindsightref9.Same -/
noncomputable def T14 (i0 : Int) (i1 : Int) (s2 : ByteArray) (p3 : (Option Addr)) (n4 : Nat) (n5 : Nat) (i6 : Int) (p7 : (Option Addr)) (i8 : Int) (i9 : Int) (i10 : Int) (i11 : Int) (s12 : ByteArray) (p13 : (Option Addr)) (n14 : Nat) (n15 : Nat) (i16 : Int) (p17 : (Option Addr)) (i18 : Int) (i19 : Int) : Pg :=
  .act (newC [(.int .i64 i0), (.int .i64 i1), (.string s2), (.slice p3 n4 n5), (.int .i64 i6), (.pointer p7), (.int .i64 i8), (.int .i64 i9)]) fun v20 => asPtr v20 fun p21 => asSome p21 fun a22 => .act (newC [(.int .i64 i10), (.int .i64 i11), (.string s12), (.slice p13 n14 n15), (.int .i64 i16), (.pointer p17), (.int .i64 i18), (.int .i64 i19)]) fun v23 => asPtr v23 fun p24 => asSome p24 fun a25 => .join (.act (ld1 (aadd a22 0)) fun v26 => asInt .i64 v26 fun i27 => .act (ld1 (aadd a25 0)) fun v28 => asInt .i64 v28 fun i29 => bif (i27 != i29) == false then (.act (ld1 (aadd a22 1)) fun v30 => asInt .i64 v30 fun i31 => .act (ld1 (aadd a25 1)) fun v32 => asInt .i64 v32 fun i33 => bif (i31 != i33) == false then (.act (ld1 (aadd a22 2)) fun v34 => asStr v34 fun s35 => .act (ld1 (aadd a25 2)) fun v36 => asStr v36 fun s37 => bif (!(s35.toList == s37.toList)) == false then (.act (ld1 (aadd a22 4)) fun v38 => asInt .i64 v38 fun i39 => .act (ld1 (aadd a25 4)) fun v40 => asInt .i64 v40 fun i41 => bif (i39 != i41) == false then (.act (ld1 (aadd a22 6)) fun v42 => asInt .i64 v42 fun i43 => .act (ld1 (aadd a25 6)) fun v44 => asInt .i64 v44 fun i45 => bif (i43 != i45) == false then (.act (ld1 (aadd a22 3)) fun v46 => asSlice v46 fun p47 n48 n49 => .act (ld1 (aadd a25 3)) fun v50 => asSlice v50 fun p51 n52 n53 => .ret .normal [(.bool (((n48 : Nat) : Int) != ((n52 : Nat) : Int)))]) else (.ret .normal [(.bool true)])) else (.ret .normal [(.bool true)])) else (.ret .normal [(.bool true)])) else (.ret .normal [(.bool true)])) else (.ret .normal [(.bool true)])) (T14k2 a22 a25)
theorem T14_eq (i0 : Int) (i1 : Int) (s2 : ByteArray) (p3 : (Option Addr)) (n4 : Nat) (n5 : Nat) (i6 : Int) (p7 : (Option Addr)) (i8 : Int) (i9 : Int) (i10 : Int) (i11 : Int) (s12 : ByteArray) (p13 : (Option Addr)) (n14 : Nat) (n15 : Nat) (i16 : Int) (p17 : (Option Addr)) (i18 : Int) (i19 : Int) : progOf PROG false 14 [(.agg #[(.int .i64 i0), (.int .i64 i1), (.string s2), (.slice p3 n4 n5), (.int .i64 i6), (.pointer p7), (.int .i64 i8), (.int .i64 i9)]), (.agg #[(.int .i64 i10), (.int .i64 i11), (.string s12), (.slice p13 n14 n15), (.int .i64 i16), (.pointer p17), (.int .i64 i18), (.int .i64 i19)])] = T14 i0 i1 s2 p3 n4 n5 i6 p7 i8 i9 i10 i11 s12 p13 n14 n15 i16 p17 i18 i19 := by kernel_rfl


noncomputable def T15k0 (i12 : Int) : Ex → List Value → Pg :=
  fun e43 l44 => sw e43 .normal (asCons l44 fun v45 l46 => asInt .i64 v45 fun i47 => asNil l46 (.ret .normal [(.int .i64 (wi64 (i12 + 1))), (.int .i64 i47)])) (.fail)

noncomputable def T15b0 (a8 : Addr) : List Value → Pg :=
  fun l9 => asCons l9 fun v10 l11 => asInt .i64 v10 fun i12 => asCons l11 fun v13 l14 => asInt .i64 v13 fun i15 => asNil l14 (.act (ld1 (aadd a8 3)) fun v16 => asSlice v16 fun p17 n18 n19 => bif ((decide (i12 < ((n18 : Nat) : Int))) && (decide (i15 ≤ 500))) then (.join (.act (ld1 (aadd a8 3)) fun v20 => asSlice v20 fun p21 n22 n23 => asSome p21 fun a24 => grd ((decide (0 ≤ i12)) && (decide (i12 < ((n22 : Nat) : Int)))) (.act (ldN 4 (aadd a24 ((Int.toNat i12) * 4))) fun v25 => asAgg v25 fun l26 => asCons l26 fun v27 l28 => asInt .i64 v27 fun i29 => asCons l28 fun v30 l31 => asStr v30 fun s32 => asCons l31 fun v33 l34 => asInt .i64 v33 fun i35 => asCons l34 fun v36 l37 => asSlice v36 fun p38 n39 n40 => asNil l37 (.call 15 [(.agg #[(.int .i64 i29), (.string s32), (.int .i64 i35), (.slice p38 n39 n40)])] fun v41 => asInt .i64 v41 fun i42 => .ret .normal [(.int .i64 (wi64 (i15 + i42)))]))) (T15k0 i12)) else (.ret (.exit 0) [(.int .i64 i12), (.int .i64 i15)]))

noncomputable def T15k1 : Ex → List Value → Pg :=
  fun e48 l49 => sw e48 (.exit 0) (asCons l49 fun v50 l51 => asInt .i64 v50 fun i52 => asCons l51 fun v53 l54 => asInt .i64 v53 fun i55 => asNil l54 (bif (decide (i55 > 501)) then (.ret .ret [(.int .i64 501)]) else (.ret .ret [(.int .i64 i55)]))) (.fail)

/-- hindsight/hindsightref5.Size -/
noncomputable def T15 (i0 : Int) (s1 : ByteArray) (i2 : Int) (p3 : (Option Addr)) (n4 : Nat) (n5 : Nat) : Pg :=
  .act (newC [(.int .i64 i0), (.string s1), (.int .i64 i2), (.slice p3 n4 n5)]) fun v6 => asPtr v6 fun p7 => asSome p7 fun a8 => .loop [(.int .i64 0), (.int .i64 1)] (T15b0 a8) (T15k1)
theorem T15_eq (i0 : Int) (s1 : ByteArray) (i2 : Int) (p3 : (Option Addr)) (n4 : Nat) (n5 : Nat) : progOf PROG false 15 [(.agg #[(.int .i64 i0), (.string s1), (.int .i64 i2), (.slice p3 n4 n5)])] = T15 i0 s1 i2 p3 n4 n5 := by kernel_rfl


noncomputable def T16k0 (a5 : Addr) : Ex → List Value → Pg :=
  fun e141 l142 => sw e141 .ret (asCons l142 fun v143 l144 => asBool v143 fun b145 => asNil l144 (.act (ldN 7 a5) fun v146 => .ret .ret [(.tuple #[v146, (.bool b145)])])) (sw e141 .normal (asCons l142 fun v147 l148 => asBool v147 fun b149 => asNil l148 (.act (stC a5 [(.int .i64 0), (.int .i64 0), (.string (bs [])), (.slice none 0 0), (.int .i64 0), (.pointer none), (.int .i64 0)]) fun v150 => asTuple v150 fun l151 => asNil l151 (.act (ldN 7 a5) fun v152 => .ret .ret [(.tuple #[v152, (.bool false)])]))) (.fail))

/-- hindsight/val.Op -/
noncomputable def T16 (s0 : ByteArray) (i1 : Int) (i2 : Int) : Pg :=
  .act (newC [(.int .i64 0), (.int .i64 0), (.string (bs [])), (.slice none 0 0), (.int .i64 0), (.pointer none), (.int .i64 0)]) fun v3 => asPtr v3 fun p4 => asSome p4 fun a5 => .join (bif (s0.toList == (bs [43]).toList) then (.call 20 [(.int .i64 (wi64 (i1 + i2)))] fun v6 => asAgg v6 fun l7 => asCons l7 fun v8 l9 => asInt .i64 v8 fun i10 => asCons l9 fun v11 l12 => asInt .i64 v11 fun i13 => asCons l12 fun v14 l15 => asStr v14 fun s16 => asCons l15 fun v17 l18 => asSlice v17 fun p19 n20 n21 => asCons l18 fun v22 l23 => asInt .i64 v22 fun i24 => asCons l23 fun v25 l26 => asPtr v25 fun p27 => asCons l26 fun v28 l29 => asInt .i64 v28 fun i30 => asNil l29 (.act (stC a5 [(.int .i64 i10), (.int .i64 i13), (.string s16), (.slice p19 n20 n21), (.int .i64 i24), (.pointer p27), (.int .i64 i30)]) fun v31 => asTuple v31 fun l32 => asNil l32 (.ret .ret [(.bool true)]))) else (bif (s0.toList == (bs [45]).toList) then (.call 20 [(.int .i64 (wi64 (i1 - i2)))] fun v33 => asAgg v33 fun l34 => asCons l34 fun v35 l36 => asInt .i64 v35 fun i37 => asCons l36 fun v38 l39 => asInt .i64 v38 fun i40 => asCons l39 fun v41 l42 => asStr v41 fun s43 => asCons l42 fun v44 l45 => asSlice v44 fun p46 n47 n48 => asCons l45 fun v49 l50 => asInt .i64 v49 fun i51 => asCons l50 fun v52 l53 => asPtr v52 fun p54 => asCons l53 fun v55 l56 => asInt .i64 v55 fun i57 => asNil l56 (.act (stC a5 [(.int .i64 i37), (.int .i64 i40), (.string s43), (.slice p46 n47 n48), (.int .i64 i51), (.pointer p54), (.int .i64 i57)]) fun v58 => asTuple v58 fun l59 => asNil l59 (.ret .ret [(.bool true)]))) else (bif (s0.toList == (bs [42]).toList) then (.call 20 [(.int .i64 (wi64 (i1 * i2)))] fun v60 => asAgg v60 fun l61 => asCons l61 fun v62 l63 => asInt .i64 v62 fun i64 => asCons l63 fun v65 l66 => asInt .i64 v65 fun i67 => asCons l66 fun v68 l69 => asStr v68 fun s70 => asCons l69 fun v71 l72 => asSlice v71 fun p73 n74 n75 => asCons l72 fun v76 l77 => asInt .i64 v76 fun i78 => asCons l77 fun v79 l80 => asPtr v79 fun p81 => asCons l80 fun v82 l83 => asInt .i64 v82 fun i84 => asNil l83 (.act (stC a5 [(.int .i64 i64), (.int .i64 i67), (.string s70), (.slice p73 n74 n75), (.int .i64 i78), (.pointer p81), (.int .i64 i84)]) fun v85 => asTuple v85 fun l86 => asNil l86 (.ret .ret [(.bool true)]))) else (bif (s0.toList == (bs [60]).toList) then (.call 21 [(.bool (decide (i1 < i2)))] fun v87 => asAgg v87 fun l88 => asCons l88 fun v89 l90 => asInt .i64 v89 fun i91 => asCons l90 fun v92 l93 => asInt .i64 v92 fun i94 => asCons l93 fun v95 l96 => asStr v95 fun s97 => asCons l96 fun v98 l99 => asSlice v98 fun p100 n101 n102 => asCons l99 fun v103 l104 => asInt .i64 v103 fun i105 => asCons l104 fun v106 l107 => asPtr v106 fun p108 => asCons l107 fun v109 l110 => asInt .i64 v109 fun i111 => asNil l110 (.act (stC a5 [(.int .i64 i91), (.int .i64 i94), (.string s97), (.slice p100 n101 n102), (.int .i64 i105), (.pointer p108), (.int .i64 i111)]) fun v112 => asTuple v112 fun l113 => asNil l113 (.ret .ret [(.bool true)]))) else (bif (s0.toList == (bs [61]).toList) then (.call 21 [(.bool (i1 == i2))] fun v114 => asAgg v114 fun l115 => asCons l115 fun v116 l117 => asInt .i64 v116 fun i118 => asCons l117 fun v119 l120 => asInt .i64 v119 fun i121 => asCons l120 fun v122 l123 => asStr v122 fun s124 => asCons l123 fun v125 l126 => asSlice v125 fun p127 n128 n129 => asCons l126 fun v130 l131 => asInt .i64 v130 fun i132 => asCons l131 fun v133 l134 => asPtr v133 fun p135 => asCons l134 fun v136 l137 => asInt .i64 v136 fun i138 => asNil l137 (.act (stC a5 [(.int .i64 i118), (.int .i64 i121), (.string s124), (.slice p127 n128 n129), (.int .i64 i132), (.pointer p135), (.int .i64 i138)]) fun v139 => asTuple v139 fun l140 => asNil l140 (.ret .ret [(.bool true)]))) else (.ret .normal [(.bool false)])))))) (T16k0 a5)
theorem T16_eq (s0 : ByteArray) (i1 : Int) (i2 : Int) : progOf PROG false 16 [(.string s0), (.int .i64 i1), (.int .i64 i2)] = T16 s0 i1 i2 := by kernel_rfl


/-- hindsight/val.Wrap -/
noncomputable def T17 (i0 : Int) : Pg :=
  .ret .ret [(.int .i64 (shrI .i64 (shlI .i64 i0 1) 1))]
theorem T17_eq (i0 : Int) : progOf PROG false 17 [(.int .i64 i0)] = T17 i0 := by kernel_rfl


noncomputable def T18k0 : Ex → List Value → Pg :=
  fun e158 l159 => sw e158 .ret (asCons l159 fun v160 l161 => asStr v160 fun s162 => asNil l161 (.ret .ret [(.string s162)])) (sw e158 .normal (asCons l159 fun v163 l164 => asStr v163 fun s165 => asNil l164 (.ret .ret [(.string (bs [63]))])) (.fail))

noncomputable def T18k1 (a27 : Addr) (a24 : Addr) (a30 : Addr) (i21 : Int) : Ex → List Value → Pg :=
  fun e40 l41 => sw e40 .ret (asCons l41 fun v42 l43 => asStr v42 fun s44 => asNil l43 (.ret .ret [(.string s44)])) (sw e40 .normal (asCons l41 fun v45 l46 => asStr v45 fun s47 => asNil l46 (.act (ld1 (aadd a27 0)) fun v48 => asInt .i64 v48 fun i49 => .join (bif (i49 == 1) then (.act (ld1 (aadd a27 1)) fun v50 => asInt .i64 v50 fun i51 => .call 23 [(.int .i64 i51), (.int .i64 10)] fun v52 => asStr v52 fun s53 => .ret .ret [(.string s53)]) else (bif (i49 == 2) then (.act (ld1 (aadd a27 1)) fun v54 => asInt .i64 v54 fun i55 => .call 24 [(.bool (i55 == 1))] fun v56 => asStr v56 fun s57 => .ret .ret [(.string s57)]) else (bif (i49 == 3) then (.ret .ret [(.string (bs [40, 41]))]) else (bif (i49 == 5) then (.ret .ret [(.string (bs [60, 102, 117, 110, 62]))]) else (bif (i49 == 6) then (.act (ldN 2 a24) fun v58 => asAgg v58 fun l59 => asCons l59 fun v60 l61 => asSlice v60 fun p62 n63 n64 => asCons l61 fun v65 l66 => asSlice v65 fun p67 n68 n69 => asNil l66 (.act (ldN 7 a27) fun v70 => asAgg v70 fun l71 => asCons l71 fun v72 l73 => asInt .i64 v72 fun i74 => asCons l73 fun v75 l76 => asInt .i64 v75 fun i77 => asCons l76 fun v78 l79 => asStr v78 fun s80 => asCons l79 fun v81 l82 => asSlice v81 fun p83 n84 n85 => asCons l82 fun v86 l87 => asInt .i64 v86 fun i88 => asCons l87 fun v89 l90 => asPtr v89 fun p91 => asCons l90 fun v92 l93 => asInt .i64 v92 fun i94 => asNil l93 (.act (ldN 4 a30) fun v95 => asAgg v95 fun l96 => asCons l96 fun v97 l98 => asInt .i64 v97 fun i99 => asCons l98 fun v100 l101 => asStr v100 fun s102 => asCons l101 fun v103 l104 => asInt .i64 v103 fun i105 => asCons l104 fun v106 l107 => asSlice v106 fun p108 n109 n110 => asNil l107 (.call 25 [(.agg #[(.slice p62 n63 n64), (.slice p67 n68 n69)]), (.agg #[(.int .i64 i74), (.int .i64 i77), (.string s80), (.slice p83 n84 n85), (.int .i64 i88), (.pointer p91), (.int .i64 i94)]), (.agg #[(.int .i64 i99), (.string s102), (.int .i64 i105), (.slice p108 n109 n110)]), (.int .i64 i21)] fun v111 => asStr v111 fun s112 => .ret .ret [(.string s112)])))) else (bif (i49 == 4) then (.act (ld1 (aadd a27 3)) fun v113 => asSlice v113 fun p114 n115 n116 => bif (decide (((n115 : Nat) : Int) > 0)) then (.act (ldN 2 a24) fun v117 => asAgg v117 fun l118 => asCons l118 fun v119 l120 => asSlice v119 fun p121 n122 n123 => asCons l120 fun v124 l125 => asSlice v124 fun p126 n127 n128 => asNil l125 (.act (ldN 7 a27) fun v129 => asAgg v129 fun l130 => asCons l130 fun v131 l132 => asInt .i64 v131 fun i133 => asCons l132 fun v134 l135 => asInt .i64 v134 fun i136 => asCons l135 fun v137 l138 => asStr v137 fun s139 => asCons l138 fun v140 l141 => asSlice v140 fun p142 n143 n144 => asCons l141 fun v145 l146 => asInt .i64 v145 fun i147 => asCons l146 fun v148 l149 => asPtr v148 fun p150 => asCons l149 fun v151 l152 => asInt .i64 v151 fun i153 => asNil l152 (.call 26 [(.agg #[(.slice p121 n122 n123), (.slice p126 n127 n128)]), (.agg #[(.int .i64 i133), (.int .i64 i136), (.string s139), (.slice p142 n143 n144), (.int .i64 i147), (.pointer p150), (.int .i64 i153)]), (.int .i64 i21)] fun v154 => asStr v154 fun s155 => .ret .ret [(.string s155)]))) else (.act (ld1 (aadd a27 2)) fun v156 => asStr v156 fun s157 => .ret .ret [(.string s157)])) else (.ret .normal [(.string s47)]))))))) (T18k0))) (.fail))

/-- (hindsight/val.renderer).value -/
noncomputable def T18 (p0 : (Option Addr)) (n1 : Nat) (n2 : Nat) (p3 : (Option Addr)) (n4 : Nat) (n5 : Nat) (i6 : Int) (i7 : Int) (s8 : ByteArray) (p9 : (Option Addr)) (n10 : Nat) (n11 : Nat) (i12 : Int) (p13 : (Option Addr)) (i14 : Int) (i15 : Int) (s16 : ByteArray) (i17 : Int) (p18 : (Option Addr)) (n19 : Nat) (n20 : Nat) (i21 : Int) : Pg :=
  .act (newC [(.slice p0 n1 n2), (.slice p3 n4 n5)]) fun v22 => asPtr v22 fun p23 => asSome p23 fun a24 => .act (newC [(.int .i64 i6), (.int .i64 i7), (.string s8), (.slice p9 n10 n11), (.int .i64 i12), (.pointer p13), (.int .i64 i14)]) fun v25 => asPtr v25 fun p26 => asSome p26 fun a27 => .act (newC [(.int .i64 i15), (.string s16), (.int .i64 i17), (.slice p18 n19 n20)]) fun v28 => asPtr v28 fun p29 => asSome p29 fun a30 => .join (bif (decide (i21 ≥ 50)) then (.ret .ret [(.string (bs [46, 46]))]) else (.act (ld1 (aadd a30 0)) fun v31 => asInt .i64 v31 fun i32 => bif (i32 == 7) then (.ret .ret [(.string (bs [60, 112, 111, 108, 121, 62]))]) else (.act (ld1 (aadd a27 0)) fun v33 => asInt .i64 v33 fun i34 => .act (ld1 (aadd a30 0)) fun v35 => asInt .i64 v35 fun i36 => .call 22 [(.int .i64 i36)] fun v37 => asInt .i64 v37 fun i38 => .get fun h39 => grd (chks [((ld1 (aadd a27 0)), v33)] h39) (bif (i34 != i38) then (.ret .ret [(.string (bs [63]))]) else (.ret .normal [(.string (bs []))]))))) (T18k1 a27 a24 a30 i21)
theorem T18_eq (p0 : (Option Addr)) (n1 : Nat) (n2 : Nat) (p3 : (Option Addr)) (n4 : Nat) (n5 : Nat) (i6 : Int) (i7 : Int) (s8 : ByteArray) (p9 : (Option Addr)) (n10 : Nat) (n11 : Nat) (i12 : Int) (p13 : (Option Addr)) (i14 : Int) (i15 : Int) (s16 : ByteArray) (i17 : Int) (p18 : (Option Addr)) (n19 : Nat) (n20 : Nat) (i21 : Int) : progOf PROG false 18 [(.agg #[(.slice p0 n1 n2), (.slice p3 n4 n5)]), (.agg #[(.int .i64 i6), (.int .i64 i7), (.string s8), (.slice p9 n10 n11), (.int .i64 i12), (.pointer p13), (.int .i64 i14)]), (.agg #[(.int .i64 i15), (.string s16), (.int .i64 i17), (.slice p18 n19 n20)]), (.int .i64 i21)] = T18 p0 n1 n2 p3 n4 n5 i6 i7 s8 p9 n10 n11 i12 p13 i14 i15 s16 i17 p18 n19 n20 i21 := by kernel_rfl


noncomputable def T19k0 (a25 : Addr) : Ex → List Value → Pg :=
  fun e41 l42 => sw e41 .normal (asCons l42 fun v43 l44 => asBool v43 fun b45 => asNil l44 (bif b45 then (.ret .ret [(.string (bs [116, 114, 117, 101]))]) else (.act (ld1 (aadd a25 0)) fun v46 => asInt .i64 v46 fun i47 => bif (i47 == 2) then (.ret .ret [(.string (bs [102, 97, 108, 115, 101]))]) else (.ret .normal [(.string (bs []))])))) (.fail)

noncomputable def T19k1 (a25 : Addr) (p16 : (Option Addr)) (n17 : Nat) (a28 : Addr) (n18 : Nat) (p19 : (Option Addr)) (n20 : Nat) (n21 : Nat) (i22 : Int) : Ex → List Value → Pg :=
  fun e62 l63 => sw e62 .normal (asCons l63 fun v64 l65 => asBool v64 fun b66 => asNil l65 (bif b66 then (.ret .ret [(.string (bs [114, 101, 102, 32, 63]))]) else (.act (ld1 (aadd a25 6)) fun v67 => asInt .i64 v67 fun i68 => asSome p16 fun a69 => grd ((decide (0 ≤ i68)) && (decide (i68 < ((n17 : Nat) : Int)))) (.act (ldN 8 (aadd a69 ((Int.toNat i68) * 8))) fun v70 => asAgg v70 fun l71 => asCons l71 fun v72 l73 => asInt .i64 v72 fun i74 => asCons l73 fun v75 l76 => asInt .i64 v75 fun i77 => asCons l76 fun v78 l79 => asStr v78 fun s80 => asCons l79 fun v81 l82 => asSlice v81 fun p83 n84 n85 => asCons l82 fun v86 l87 => asInt .i64 v86 fun i88 => asCons l87 fun v89 l90 => asPtr v89 fun p91 => asCons l90 fun v92 l93 => asInt .i64 v92 fun i94 => asCons l93 fun v95 l96 => asInt .i64 v95 fun i97 => asNil l96 (.act (ld1 (aadd a28 3)) fun v98 => asSlice v98 fun p99 n100 n101 => asSome p99 fun a102 => grd (decide (0 < ((n100 : Nat) : Int))) (.act (ldN 4 (aadd a102 0)) fun v103 => asAgg v103 fun l104 => asCons l104 fun v105 l106 => asInt .i64 v105 fun i107 => asCons l106 fun v108 l109 => asStr v108 fun s110 => asCons l109 fun v111 l112 => asInt .i64 v111 fun i113 => asCons l112 fun v114 l115 => asSlice v114 fun p116 n117 n118 => asNil l115 (.call 19 [(.agg #[(.int .i64 i74), (.int .i64 i77), (.string s80), (.slice p83 n84 n85), (.int .i64 i88), (.pointer p91), (.int .i64 i94), (.int .i64 i97)]), (.agg #[(.int .i64 i107), (.string s110), (.int .i64 i113), (.slice p116 n117 n118)]), (.slice p16 n17 n18), (.slice p19 n20 n21), (.int .i64 (wi64 (i22 + 1)))] fun v119 => asStr v119 fun s120 => grd (Nat.ble (4 + s120.size) 9223372036854775807) (.ret .ret [(.string ((bs [114, 101, 102, 32]) ++ s120))])))))))) (.fail)

noncomputable def T19k2 : Ex → List Value → Pg :=
  fun e156 l157 => sw e156 .ret (asCons l157 fun v158 l159 => asStr v158 fun s160 => asNil l159 (.ret .ret [(.string s160)])) (sw e156 .normal (asCons l157 fun v161 l162 => asStr v161 fun s163 => asNil l162 (.ret .normal [(.string s163)])) (.fail))

noncomputable def T19k3 : Ex → List Value → Pg :=
  fun e164 l165 => sw e164 .ret (asCons l165 fun v166 l167 => asStr v166 fun s168 => asNil l167 (.ret .ret [(.string s168)])) (sw e164 .normal (asCons l165 fun v169 l170 => asStr v169 fun s171 => asNil l170 (.ret .normal [(.string s171)])) (.fail))

noncomputable def T19k4 : Ex → List Value → Pg :=
  fun e172 l173 => sw e172 .ret (asCons l173 fun v174 l175 => asStr v174 fun s176 => asNil l175 (.ret .ret [(.string s176)])) (sw e172 .normal (asCons l173 fun v177 l178 => asStr v177 fun s179 => asNil l178 (.ret .normal [(.string s179)])) (.fail))

noncomputable def T19k5 : Ex → List Value → Pg :=
  fun e180 l181 => sw e180 .ret (asCons l181 fun v182 l183 => asStr v182 fun s184 => asNil l183 (.ret .ret [(.string s184)])) (sw e180 .normal (asCons l181 fun v185 l186 => asStr v185 fun s187 => asNil l186 (.ret .normal [(.string s187)])) (.fail))

noncomputable def T19k6 : Ex → List Value → Pg :=
  fun e188 l189 => sw e188 .ret (asCons l189 fun v190 l191 => asStr v190 fun s192 => asNil l191 (.ret .ret [(.string s192)])) (sw e188 .normal (asCons l189 fun v193 l194 => asStr v193 fun s195 => asNil l194 (.ret .normal [(.string s195)])) (.fail))

noncomputable def T19k7 : Ex → List Value → Pg :=
  fun e196 l197 => sw e196 .ret (asCons l197 fun v198 l199 => asStr v198 fun s200 => asNil l199 (.ret .ret [(.string s200)])) (sw e196 .normal (asCons l197 fun v201 l202 => asStr v201 fun s203 => asNil l202 (.ret .normal [(.string s203)])) (.fail))

noncomputable def T19k8 : Ex → List Value → Pg :=
  fun e204 l205 => sw e204 .ret (asCons l205 fun v206 l207 => asStr v206 fun s208 => asNil l207 (.ret .ret [(.string s208)])) (sw e204 .normal (asCons l205 fun v209 l210 => asStr v209 fun s211 => asNil l210 (.ret .ret [(.string (bs [63]))])) (.fail))

/-- hindsight/hindsightref9.render -/
noncomputable def T19 (i0 : Int) (i1 : Int) (s2 : ByteArray) (p3 : (Option Addr)) (n4 : Nat) (n5 : Nat) (i6 : Int) (p7 : (Option Addr)) (i8 : Int) (i9 : Int) (i10 : Int) (s11 : ByteArray) (i12 : Int) (p13 : (Option Addr)) (n14 : Nat) (n15 : Nat) (p16 : (Option Addr)) (n17 : Nat) (n18 : Nat) (p19 : (Option Addr)) (n20 : Nat) (n21 : Nat) (i22 : Int) : Pg :=
  .act (newC [(.int .i64 i0), (.int .i64 i1), (.string s2), (.slice p3 n4 n5), (.int .i64 i6), (.pointer p7), (.int .i64 i8), (.int .i64 i9)]) fun v23 => asPtr v23 fun p24 => asSome p24 fun a25 => .act (newC [(.int .i64 i10), (.string s11), (.int .i64 i12), (.slice p13 n14 n15)]) fun v26 => asPtr v26 fun p27 => asSome p27 fun a28 => bif (decide (i22 ≥ 50)) then (.ret .ret [(.string (bs [46, 46]))]) else (.act (ld1 (aadd a28 0)) fun v29 => asInt .i64 v29 fun i30 => .join (bif (i30 == 7) then (.ret .ret [(.string (bs [60, 112, 111, 108, 121, 62]))]) else (.join (bif (i30 == 1) then (.act (ld1 (aadd a25 0)) fun v31 => asInt .i64 v31 fun i32 => bif (i32 == 1) then (.act (ld1 (aadd a25 1)) fun v33 => asInt .i64 v33 fun i34 => .call 27 [(.int .i64 i34)] fun v35 => asStr v35 fun s36 => .ret .ret [(.string s36)]) else (.ret .normal [(.string (bs []))])) else (.join (bif (i30 == 2) then (.join (.act (ld1 (aadd a25 0)) fun v37 => asInt .i64 v37 fun i38 => bif (i38 == 2) == true then (.act (ld1 (aadd a25 1)) fun v39 => asInt .i64 v39 fun i40 => .ret .normal [(.bool (i40 == 1))]) else (.ret .normal [(.bool false)])) (T19k0 a25)) else (.join (bif (i30 == 3) then (.act (ld1 (aadd a25 0)) fun v48 => asInt .i64 v48 fun i49 => bif (i49 == 3) then (.ret .ret [(.string (bs [40, 41]))]) else (.ret .normal [(.string (bs []))])) else (.join (bif (i30 == 5) then (.act (ld1 (aadd a25 0)) fun v50 => asInt .i64 v50 fun i51 => bif (i51 == 5) then (.ret .ret [(.string (bs [60, 102, 117, 110, 62]))]) else (.ret .normal [(.string (bs []))])) else (.join (bif (i30 == 6) then (.act (ld1 (aadd a25 0)) fun v52 => asInt .i64 v52 fun i53 => bif (i53 == 6) then (.join (.act (ld1 (aadd a25 6)) fun v54 => asInt .i64 v54 fun i55 => bif (decide (i55 < 0)) == false then (.act (ld1 (aadd a25 6)) fun v56 => asInt .i64 v56 fun i57 => bif (decide (i57 ≥ ((n17 : Nat) : Int))) == false then (.act (ld1 (aadd a28 3)) fun v58 => asSlice v58 fun p59 n60 n61 => .ret .normal [(.bool (((n60 : Nat) : Int) != 1))]) else (.ret .normal [(.bool true)])) else (.ret .normal [(.bool true)])) (T19k1 a25 p16 n17 a28 n18 p19 n20 n21 i22)) else (.ret .normal [(.string (bs []))])) else (.join (bif (i30 == 4) then (.act (ld1 (aadd a25 0)) fun v121 => asInt .i64 v121 fun i122 => bif (i122 == 4) then (.act (ld1 (aadd a25 2)) fun v123 => asStr v123 fun s124 => .act (ldN 8 a25) fun v125 => asAgg v125 fun l126 => asCons l126 fun v127 l128 => asInt .i64 v127 fun i129 => asCons l128 fun v130 l131 => asInt .i64 v130 fun i132 => asCons l131 fun v133 l134 => asStr v133 fun s135 => asCons l134 fun v136 l137 => asSlice v136 fun p138 n139 n140 => asCons l137 fun v141 l142 => asInt .i64 v141 fun i143 => asCons l142 fun v144 l145 => asPtr v144 fun p146 => asCons l145 fun v147 l148 => asInt .i64 v147 fun i149 => asCons l148 fun v150 l151 => asInt .i64 v150 fun i152 => asNil l151 (.call 28 [(.agg #[(.int .i64 i129), (.int .i64 i132), (.string s135), (.slice p138 n139 n140), (.int .i64 i143), (.pointer p146), (.int .i64 i149), (.int .i64 i152)]), (.slice p16 n17 n18), (.slice p19 n20 n21), (.int .i64 i22)] fun v153 => asStr v153 fun s154 => .get fun h155 => grd (chks [((ld1 (aadd a25 2)), v123)] h155) (grd (Nat.ble (s124.size + s154.size) 9223372036854775807) (.ret .ret [(.string (s124 ++ s154))])))) else (.ret .normal [(.string (bs []))])) else (.ret .normal [(.string (bs []))])) (T19k2))) (T19k3))) (T19k4))) (T19k5))) (T19k6))) (T19k7))) (T19k8))
theorem T19_eq (i0 : Int) (i1 : Int) (s2 : ByteArray) (p3 : (Option Addr)) (n4 : Nat) (n5 : Nat) (i6 : Int) (p7 : (Option Addr)) (i8 : Int) (i9 : Int) (i10 : Int) (s11 : ByteArray) (i12 : Int) (p13 : (Option Addr)) (n14 : Nat) (n15 : Nat) (p16 : (Option Addr)) (n17 : Nat) (n18 : Nat) (p19 : (Option Addr)) (n20 : Nat) (n21 : Nat) (i22 : Int) : progOf PROG false 19 [(.agg #[(.int .i64 i0), (.int .i64 i1), (.string s2), (.slice p3 n4 n5), (.int .i64 i6), (.pointer p7), (.int .i64 i8), (.int .i64 i9)]), (.agg #[(.int .i64 i10), (.string s11), (.int .i64 i12), (.slice p13 n14 n15)]), (.slice p16 n17 n18), (.slice p19 n20 n21), (.int .i64 i22)] = T19 i0 i1 s2 p3 n4 n5 i6 p7 i8 i9 i10 s11 i12 p13 n14 n15 p16 n17 n18 p19 n20 n21 i22 := by kernel_rfl


/-- hindsight/val.Number -/
noncomputable def T20 (i0 : Int) : Pg :=
  .act (newC [(.int .i64 0), (.int .i64 0), (.string (bs [])), (.slice none 0 0), (.int .i64 0), (.pointer none), (.int .i64 0)]) fun v1 => asPtr v1 fun p2 => asSome p2 fun a3 => .call 17 [(.int .i64 i0)] fun v4 => asInt .i64 v4 fun i5 => .act (stC a3 [(.int .i64 1), (.int .i64 i5), (.string (bs [])), (.slice none 0 0), (.int .i64 0), (.pointer none), (.int .i64 0)]) fun v6 => asTuple v6 fun l7 => asNil l7 (.act (ldN 7 a3) fun v8 => .ret .ret [v8])
theorem T20_eq (i0 : Int) : progOf PROG false 20 [(.int .i64 i0)] = T20 i0 := by kernel_rfl


noncomputable def T21k0 (a6 : Addr) (a3 : Addr) : Ex → List Value → Pg :=
  fun e11 l12 => sw e11 .normal (asNil l12 (.act (ldN 7 a6) fun v13 => asAgg v13 fun l14 => asCons l14 fun v15 l16 => asInt .i64 v15 fun i17 => asCons l16 fun v18 l19 => asInt .i64 v18 fun i20 => asCons l19 fun v21 l22 => asStr v21 fun s23 => asCons l22 fun v24 l25 => asSlice v24 fun p26 n27 n28 => asCons l25 fun v29 l30 => asInt .i64 v29 fun i31 => asCons l30 fun v32 l33 => asPtr v32 fun p34 => asCons l33 fun v35 l36 => asInt .i64 v35 fun i37 => asNil l36 (.act (stC a3 [(.int .i64 i17), (.int .i64 i20), (.string s23), (.slice p26 n27 n28), (.int .i64 i31), (.pointer p34), (.int .i64 i37)]) fun v38 => asTuple v38 fun l39 => asNil l39 (.act (ldN 7 a3) fun v40 => .ret .ret [v40])))) (.fail)

/-- hindsight/val.truth -/
noncomputable def T21 (b0 : Bool) : Pg :=
  .act (newC [(.int .i64 0), (.int .i64 0), (.string (bs [])), (.slice none 0 0), (.int .i64 0), (.pointer none), (.int .i64 0)]) fun v1 => asPtr v1 fun p2 => asSome p2 fun a3 => .act (newC [(.int .i64 0), (.int .i64 0), (.string (bs [])), (.slice none 0 0), (.int .i64 0), (.pointer none), (.int .i64 0)]) fun v4 => asPtr v4 fun p5 => asSome p5 fun a6 => .act (stC a6 [(.int .i64 2), (.int .i64 0), (.string (bs [])), (.slice none 0 0), (.int .i64 0), (.pointer none), (.int .i64 0)]) fun v7 => asTuple v7 fun l8 => asNil l8 (.join (bif b0 then (.act (stC (aadd a6 1) [(.int .i64 1)]) fun v9 => asTuple v9 fun l10 => asNil l10 (.ret .normal [])) else (.ret .normal [])) (T21k0 a6 a3))
theorem T21_eq (b0 : Bool) : progOf PROG false 21 [(.bool b0)] = T21 b0 := by kernel_rfl


noncomputable def T22k0 : Ex → List Value → Pg :=
  fun e1 l2 => sw e1 .ret (asCons l2 fun v3 l4 => asInt .i64 v3 fun i5 => asNil l4 (.ret .ret [(.int .i64 i5)])) (sw e1 .normal (asCons l2 fun v6 l7 => asInt .i64 v6 fun i8 => asNil l7 (.ret .ret [(.int .i64 0)])) (.fail))

/-- hindsight/val.fits -/
noncomputable def T22 (i0 : Int) : Pg :=
  .join (bif (i0 == 1) then (.ret .ret [(.int .i64 1)]) else (bif (i0 == 2) then (.ret .ret [(.int .i64 2)]) else (bif (i0 == 3) then (.ret .ret [(.int .i64 3)]) else (bif (i0 == 4) then (.ret .ret [(.int .i64 4)]) else (bif (i0 == 5) then (.ret .ret [(.int .i64 5)]) else (bif (i0 == 6) then (.ret .ret [(.int .i64 6)]) else (.ret .normal [(.int .i64 0)]))))))) (T22k0)
theorem T22_eq (i0 : Int) : progOf PROG false 22 [(.int .i64 i0)] = T22 i0 := by kernel_rfl


/-- strconv.FormatBool -/
noncomputable def T24 (b0 : Bool) : Pg :=
  .call 30 [(.bool b0)] fun v1 => asStr v1 fun s2 => .ret .ret [(.string s2)]
theorem T24_eq (b0 : Bool) : progOf PROG false 24 [(.bool b0)] = T24 b0 := by kernel_rfl


noncomputable def T25k0 (a24 : Addr) (a27 : Addr) (a30 : Addr) (i21 : Int) : Ex → List Value → Pg :=
  fun e43 l44 => sw e43 .normal (asCons l44 fun v45 l46 => asBool v45 fun b47 => asNil l46 (bif b47 then (.ret .ret [(.string (bs [114, 101, 102, 32, 63]))]) else (.act (ldN 2 a24) fun v48 => asAgg v48 fun l49 => asCons l49 fun v50 l51 => asSlice v50 fun p52 n53 n54 => asCons l51 fun v55 l56 => asSlice v55 fun p57 n58 n59 => asNil l56 (.act (ld1 (aadd a24 0)) fun v60 => asSlice v60 fun p61 n62 n63 => .act (ld1 (aadd a27 6)) fun v64 => asInt .i64 v64 fun i65 => asSome p61 fun a66 => grd ((decide (0 ≤ i65)) && (decide (i65 < ((n62 : Nat) : Int)))) (.act (ldN 7 (aadd a66 ((Int.toNat i65) * 7))) fun v67 => asAgg v67 fun l68 => asCons l68 fun v69 l70 => asInt .i64 v69 fun i71 => asCons l70 fun v72 l73 => asInt .i64 v72 fun i74 => asCons l73 fun v75 l76 => asStr v75 fun s77 => asCons l76 fun v78 l79 => asSlice v78 fun p80 n81 n82 => asCons l79 fun v83 l84 => asInt .i64 v83 fun i85 => asCons l84 fun v86 l87 => asPtr v86 fun p88 => asCons l87 fun v89 l90 => asInt .i64 v89 fun i91 => asNil l90 (.act (ld1 (aadd a30 3)) fun v92 => asSlice v92 fun p93 n94 n95 => asSome p93 fun a96 => grd (decide (0 < ((n94 : Nat) : Int))) (.act (ldN 4 (aadd a96 0)) fun v97 => asAgg v97 fun l98 => asCons l98 fun v99 l100 => asInt .i64 v99 fun i101 => asCons l100 fun v102 l103 => asStr v102 fun s104 => asCons l103 fun v105 l106 => asInt .i64 v105 fun i107 => asCons l106 fun v108 l109 => asSlice v108 fun p110 n111 n112 => asNil l109 (.call 18 [(.agg #[(.slice p52 n53 n54), (.slice p57 n58 n59)]), (.agg #[(.int .i64 i71), (.int .i64 i74), (.string s77), (.slice p80 n81 n82), (.int .i64 i85), (.pointer p88), (.int .i64 i91)]), (.agg #[(.int .i64 i101), (.string s104), (.int .i64 i107), (.slice p110 n111 n112)]), (.int .i64 (wi64 (i21 + 1)))] fun v113 => asStr v113 fun s114 => grd (Nat.ble (4 + s114.size) 9223372036854775807) (.ret .ret [(.string ((bs [114, 101, 102, 32]) ++ s114))]))))))))) (.fail)

/-- (hindsight/val.renderer).cell -/
noncomputable def T25 (p0 : (Option Addr)) (n1 : Nat) (n2 : Nat) (p3 : (Option Addr)) (n4 : Nat) (n5 : Nat) (i6 : Int) (i7 : Int) (s8 : ByteArray) (p9 : (Option Addr)) (n10 : Nat) (n11 : Nat) (i12 : Int) (p13 : (Option Addr)) (i14 : Int) (i15 : Int) (s16 : ByteArray) (i17 : Int) (p18 : (Option Addr)) (n19 : Nat) (n20 : Nat) (i21 : Int) : Pg :=
  .act (newC [(.slice p0 n1 n2), (.slice p3 n4 n5)]) fun v22 => asPtr v22 fun p23 => asSome p23 fun a24 => .act (newC [(.int .i64 i6), (.int .i64 i7), (.string s8), (.slice p9 n10 n11), (.int .i64 i12), (.pointer p13), (.int .i64 i14)]) fun v25 => asPtr v25 fun p26 => asSome p26 fun a27 => .act (newC [(.int .i64 i15), (.string s16), (.int .i64 i17), (.slice p18 n19 n20)]) fun v28 => asPtr v28 fun p29 => asSome p29 fun a30 => .join (.act (ld1 (aadd a27 6)) fun v31 => asInt .i64 v31 fun i32 => bif (decide (i32 < 0)) == false then (.act (ld1 (aadd a27 6)) fun v33 => asInt .i64 v33 fun i34 => .act (ld1 (aadd a24 0)) fun v35 => asSlice v35 fun p36 n37 n38 => bif (decide (i34 ≥ ((n37 : Nat) : Int))) == false then (.act (ld1 (aadd a30 3)) fun v39 => asSlice v39 fun p40 n41 n42 => .ret .normal [(.bool (((n41 : Nat) : Int) != 1))]) else (.ret .normal [(.bool true)])) else (.ret .normal [(.bool true)])) (T25k0 a24 a27 a30 i21)
theorem T25_eq (p0 : (Option Addr)) (n1 : Nat) (n2 : Nat) (p3 : (Option Addr)) (n4 : Nat) (n5 : Nat) (i6 : Int) (i7 : Int) (s8 : ByteArray) (p9 : (Option Addr)) (n10 : Nat) (n11 : Nat) (i12 : Int) (p13 : (Option Addr)) (i14 : Int) (i15 : Int) (s16 : ByteArray) (i17 : Int) (p18 : (Option Addr)) (n19 : Nat) (n20 : Nat) (i21 : Int) : progOf PROG false 25 [(.agg #[(.slice p0 n1 n2), (.slice p3 n4 n5)]), (.agg #[(.int .i64 i6), (.int .i64 i7), (.string s8), (.slice p9 n10 n11), (.int .i64 i12), (.pointer p13), (.int .i64 i14)]), (.agg #[(.int .i64 i15), (.string s16), (.int .i64 i17), (.slice p18 n19 n20)]), (.int .i64 i21)] = T25 p0 n1 n2 p3 n4 n5 i6 i7 s8 p9 n10 n11 i12 p13 i14 i15 s16 i17 p18 n19 n20 i21 := by kernel_rfl


noncomputable def T26k0 (p54 : (Option Addr)) (n55 : Nat) (n56 : Nat) : Ex → List Value → Pg :=
  fun e147 l148 => sw e147 .normal (asCons l148 fun v149 l150 => asStr v149 fun s151 => asNil l150 (.act (bdSl 1 1 [(.string s151)]) fun v152 => asSlice v152 fun p153 n154 n155 => .act (apS 1 16 p54 n55 n56 p153 n154 n155) fun v156 => asSlice v156 fun p157 n158 n159 => .ret .normal [(.slice p157 n158 n159)])) (.fail)

noncomputable def T26k1 (i51 : Int) : Ex → List Value → Pg :=
  fun e160 l161 => sw e160 .normal (asCons l161 fun v162 l163 => asSlice v162 fun p164 n165 n166 => asNil l163 (.ret .normal [(.int .i64 (wi64 (i51 + 1))), (.slice p164 n165 n166)])) (.fail)

noncomputable def T26b0 (n46 : Nat) (p45 : (Option Addr)) (n42 : Nat) (a18 : Addr) (p41 : (Option Addr)) (i15 : Int) : List Value → Pg :=
  fun l48 => asCons l48 fun v49 l50 => asInt .i64 v49 fun i51 => asCons l50 fun v52 l53 => asSlice v52 fun p54 n55 n56 => asNil l53 (bif (decide (i51 < ((n46 : Nat) : Int))) then (.join (asSome p45 fun a57 => grd ((decide (0 ≤ i51)) && (decide (i51 < ((n46 : Nat) : Int)))) (.act (ldN 7 (aadd a57 ((Int.toNat i51) * 7))) fun v58 => asAgg v58 fun l59 => asCons l59 fun v60 l61 => asInt .i64 v60 fun i62 => asCons l61 fun v63 l64 => asInt .i64 v63 fun i65 => asCons l64 fun v66 l67 => asStr v66 fun s68 => asCons l67 fun v69 l70 => asSlice v69 fun p71 n72 n73 => asCons l70 fun v74 l75 => asInt .i64 v74 fun i76 => asCons l75 fun v77 l78 => asPtr v77 fun p79 => asCons l78 fun v80 l81 => asInt .i64 v80 fun i82 => asNil l81 (.act (newC [(.int .i64 0), (.int .i64 0), (.string (bs [])), (.slice none 0 0), (.int .i64 0), (.pointer none), (.int .i64 0)]) fun v83 => asPtr v83 fun p84 => asSome p84 fun a85 => .act (stC a85 [(.int .i64 i62), (.int .i64 i65), (.string s68), (.slice p71 n72 n73), (.int .i64 i76), (.pointer p79), (.int .i64 i82)]) fun v86 => asTuple v86 fun l87 => asNil l87 (.join (bif (decide (i51 < ((n42 : Nat) : Int))) then (.act (ldN 2 a18) fun v88 => asAgg v88 fun l89 => asCons l89 fun v90 l91 => asSlice v90 fun p92 n93 n94 => asCons l91 fun v95 l96 => asSlice v95 fun p97 n98 n99 => asNil l96 (.act (ldN 7 a85) fun v100 => asAgg v100 fun l101 => asCons l101 fun v102 l103 => asInt .i64 v102 fun i104 => asCons l103 fun v105 l106 => asInt .i64 v105 fun i107 => asCons l106 fun v108 l109 => asStr v108 fun s110 => asCons l109 fun v111 l112 => asSlice v111 fun p113 n114 n115 => asCons l112 fun v116 l117 => asInt .i64 v116 fun i118 => asCons l117 fun v119 l120 => asPtr v119 fun p121 => asCons l120 fun v122 l123 => asInt .i64 v122 fun i124 => asNil l123 (asSome p41 fun a125 => grd ((decide (0 ≤ i51)) && (decide (i51 < ((n42 : Nat) : Int)))) (.act (ld1 (aadd a125 ((Int.toNat i51) * 1))) fun v126 => asStr v126 fun s127 => .call 33 [(.string s127)] fun v128 => asAgg v128 fun l129 => asCons l129 fun v130 l131 => asInt .i64 v130 fun i132 => asCons l131 fun v133 l134 => asStr v133 fun s135 => asCons l134 fun v136 l137 => asInt .i64 v136 fun i138 => asCons l137 fun v139 l140 => asSlice v139 fun p141 n142 n143 => asNil l140 (.get fun h146 => grd (chks [((ldN 7 a85), v100), ((ldN 2 a18), v88)] h146) (.call 18 [(.agg #[(.slice p92 n93 n94), (.slice p97 n98 n99)]), (.agg #[(.int .i64 i104), (.int .i64 i107), (.string s110), (.slice p113 n114 n115), (.int .i64 i118), (.pointer p121), (.int .i64 i124)]), (.agg #[(.int .i64 i132), (.string s135), (.int .i64 i138), (.slice p141 n142 n143)]), (.int .i64 (wi64 (i15 + 1)))] fun v144 => asStr v144 fun s145 => .ret .normal [(.string s145)])))))) else (.ret .normal [(.string (bs [63]))])) (T26k0 p54 n55 n56))))) (T26k1 i51)) else (.ret (.exit 0) [(.int .i64 i51), (.slice p54 n55 n56)]))

noncomputable def T26k2 (a21 : Addr) : Ex → List Value → Pg :=
  fun e167 l168 => sw e167 (.exit 0) (asCons l168 fun v169 l170 => asInt .i64 v169 fun i171 => asCons l170 fun v172 l173 => asSlice v172 fun p174 n175 n176 => asNil l173 (.act (ld1 (aadd a21 2)) fun v177 => asStr v177 fun s178 => grd (Nat.ble (s178.size + 2) 9223372036854775807) (.call 34 [(.slice p174 n175 n176), (.string (bs [44, 32]))] fun v179 => asStr v179 fun s180 => .get fun h181 => grd (chks [((ld1 (aadd a21 2)), v177)] h181) (grd (Nat.ble ((s178 ++ (bs [32, 40])).size + s180.size) 9223372036854775807) (grd (Nat.ble (((s178 ++ (bs [32, 40])) ++ s180).size + 1) 9223372036854775807) (.ret .ret [(.string (((s178 ++ (bs [32, 40])) ++ s180) ++ (bs [41])))])))))) (.fail)

noncomputable def T26k3 (a21 : Addr) (a18 : Addr) (i15 : Int) : Ex → List Value → Pg :=
  fun e37 l38 => sw e37 .normal (asCons l38 fun v39 l40 => asSlice v39 fun p41 n42 n43 => asNil l40 (.act (ld1 (aadd a21 3)) fun v44 => asSlice v44 fun p45 n46 n47 => .loop [(.int .i64 0), (.slice none 0 0)] (T26b0 n46 p45 n42 a18 p41 i15) (T26k2 a21))) (.fail)

/-- (hindsight/val.renderer).args -/
noncomputable def T26 (p0 : (Option Addr)) (n1 : Nat) (n2 : Nat) (p3 : (Option Addr)) (n4 : Nat) (n5 : Nat) (i6 : Int) (i7 : Int) (s8 : ByteArray) (p9 : (Option Addr)) (n10 : Nat) (n11 : Nat) (i12 : Int) (p13 : (Option Addr)) (i14 : Int) (i15 : Int) : Pg :=
  .act (newC [(.slice p0 n1 n2), (.slice p3 n4 n5)]) fun v16 => asPtr v16 fun p17 => asSome p17 fun a18 => .act (newC [(.int .i64 i6), (.int .i64 i7), (.string s8), (.slice p9 n10 n11), (.int .i64 i12), (.pointer p13), (.int .i64 i14)]) fun v19 => asPtr v19 fun p20 => asSome p20 fun a21 => .act (ld1 (aadd a18 1)) fun v22 => asSlice v22 fun p23 n24 n25 => .call 31 [(.slice p23 n24 n25), (.func (.func 32) #[] #[(.pointer (some a21))])] fun v26 => asInt .i64 v26 fun i27 => .join (bif (decide (i27 ≥ 0)) then (.act (ld1 (aadd a18 1)) fun v28 => asSlice v28 fun p29 n30 n31 => asSome p29 fun a32 => grd ((decide (0 ≤ i27)) && (decide (i27 < ((n30 : Nat) : Int)))) (.act (ld1 (aadd (aadd a32 ((Int.toNat i27) * 2)) 1)) fun v33 => asSlice v33 fun p34 n35 n36 => .ret .normal [(.slice p34 n35 n36)])) else (.ret .normal [(.slice none 0 0)])) (T26k3 a21 a18 i15)
theorem T26_eq (p0 : (Option Addr)) (n1 : Nat) (n2 : Nat) (p3 : (Option Addr)) (n4 : Nat) (n5 : Nat) (i6 : Int) (i7 : Int) (s8 : ByteArray) (p9 : (Option Addr)) (n10 : Nat) (n11 : Nat) (i12 : Int) (p13 : (Option Addr)) (i14 : Int) (i15 : Int) : progOf PROG false 26 [(.agg #[(.slice p0 n1 n2), (.slice p3 n4 n5)]), (.agg #[(.int .i64 i6), (.int .i64 i7), (.string s8), (.slice p9 n10 n11), (.int .i64 i12), (.pointer p13), (.int .i64 i14)]), (.int .i64 i15)] = T26 p0 n1 n2 p3 n4 n5 i6 i7 s8 p9 n10 n11 i12 p13 i14 i15 := by kernel_rfl


/-- hindsight/hindsightref1.Digits -/
noncomputable def T27 (i0 : Int) : Pg :=
  bif (decide (i0 < 0)) then (bif (decide ((wu64 (wi64 (0 - i0))) ≥ 10)) then (.call 27 [(.int .i64 (wi64 (wu64 (Int.tdiv (wu64 (wi64 (0 - i0))) 10))))] fun v1 => asStr v1 fun s2 => grd (Nat.ble (1 + s2.size) 9223372036854775807) (.call 27 [(.int .i64 (wi64 (Int.tmod (wu64 (wi64 (0 - i0))) 10)))] fun v3 => asStr v3 fun s4 => grd (Nat.ble (((bs [45]) ++ s2).size + s4.size) 9223372036854775807) (.ret .ret [(.string (((bs [45]) ++ s2) ++ s4))]))) else (.call 27 [(.int .i64 (wi64 (wu64 (wi64 (0 - i0)))))] fun v5 => asStr v5 fun s6 => grd (Nat.ble (1 + s6.size) 9223372036854775807) (.ret .ret [(.string ((bs [45]) ++ s6))]))) else (bif (decide (i0 < 10)) then (.act (bdSl 1 1 [(.int .u8 (wu8 (wi64 (48 + i0))))]) fun v7 => asSlice v7 fun p8 n9 n10 => .act (bytesToStringAct (.slice p8 n9 n10)) fun v11 => asStr v11 fun s12 => .ret .ret [(.string s12)]) else (.call 27 [(.int .i64 (wi64 (Int.tdiv i0 10)))] fun v13 => asStr v13 fun s14 => .call 27 [(.int .i64 (Int.tmod i0 10))] fun v15 => asStr v15 fun s16 => grd (Nat.ble (s14.size + s16.size) 9223372036854775807) (.ret .ret [(.string (s14 ++ s16))])))
theorem T27_eq (i0 : Int) : progOf PROG false 27 [(.int .i64 i0)] = T27 i0 := by kernel_rfl


noncomputable def T28k0 : Ex → List Value → Pg :=
  fun e43 l44 => sw e43 .normal (asCons l44 fun v45 l46 => asSlice v45 fun p47 n48 n49 => asNil l46 (.ret .normal [(.slice p47 n48 n49)])) (.fail)

noncomputable def T28k1 (i27 : Int) : Ex → List Value → Pg :=
  fun e50 l51 => sw e50 .normal (asCons l51 fun v52 l53 => asSlice v52 fun p54 n55 n56 => asNil l53 (.ret .normal [(.int .i64 (wi64 (i27 - 1))), (.slice p54 n55 n56)])) (.fail)

noncomputable def T28b0 (p13 : (Option Addr)) (n14 : Nat) (a19 : Addr) : List Value → Pg :=
  fun l24 => asCons l24 fun v25 l26 => asInt .i64 v25 fun i27 => asCons l26 fun v28 l29 => asSlice v28 fun p30 n31 n32 => asNil l29 (bif (decide (i27 ≥ 0)) then (.join (asSome p13 fun a33 => grd ((decide (0 ≤ i27)) && (decide (i27 < ((n14 : Nat) : Int)))) (.act (ld1 (aadd (aadd a33 ((Int.toNat i27) * 2)) 0)) fun v34 => asStr v34 fun s35 => .act (ld1 (aadd a19 2)) fun v36 => asStr v36 fun s37 => .join (bif (s35.toList == s37.toList) then (asSome p13 fun a38 => grd ((decide (0 ≤ i27)) && (decide (i27 < ((n14 : Nat) : Int)))) (.act (ld1 (aadd (aadd a38 ((Int.toNat i27) * 2)) 1)) fun v39 => asSlice v39 fun p40 n41 n42 => .ret .normal [(.slice p40 n41 n42)])) else (.ret .normal [(.slice p30 n31 n32)])) (T28k0))) (T28k1 i27)) else (.ret (.exit 0) [(.int .i64 i27), (.slice p30 n31 n32)]))

noncomputable def T28k2 : Ex → List Value → Pg :=
  fun e138 l139 => sw e138 .normal (asCons l139 fun v140 l141 => asStr v140 fun s142 => asNil l141 (.ret .normal [(.string s142)])) (.fail)

noncomputable def T28k3 (i70 : Int) (n65 : Nat) (a19 : Addr) (p64 : (Option Addr)) (p10 : (Option Addr)) (n11 : Nat) (n12 : Nat) (p13 : (Option Addr)) (n14 : Nat) (n15 : Nat) (i16 : Int) : Ex → List Value → Pg :=
  fun e78 l79 => sw e78 .normal (asCons l79 fun v80 l81 => asStr v80 fun s82 => asNil l81 (.join (bif (decide (i70 < ((n65 : Nat) : Int))) then (.act (ld1 (aadd a19 3)) fun v83 => asSlice v83 fun p84 n85 n86 => asSome p84 fun a87 => grd ((decide (0 ≤ i70)) && (decide (i70 < ((n85 : Nat) : Int)))) (.act (ldN 8 (aadd a87 ((Int.toNat i70) * 8))) fun v88 => asAgg v88 fun l89 => asCons l89 fun v90 l91 => asInt .i64 v90 fun i92 => asCons l91 fun v93 l94 => asInt .i64 v93 fun i95 => asCons l94 fun v96 l97 => asStr v96 fun s98 => asCons l97 fun v99 l100 => asSlice v99 fun p101 n102 n103 => asCons l100 fun v104 l105 => asInt .i64 v104 fun i106 => asCons l105 fun v107 l108 => asPtr v107 fun p109 => asCons l108 fun v110 l111 => asInt .i64 v110 fun i112 => asCons l111 fun v113 l114 => asInt .i64 v113 fun i115 => asNil l114 (asSome p64 fun a116 => grd ((decide (0 ≤ i70)) && (decide (i70 < ((n65 : Nat) : Int)))) (.act (ld1 (aadd a116 ((Int.toNat i70) * 1))) fun v117 => asStr v117 fun s118 => .call 35 [(.string s118)] fun v119 => asAgg v119 fun l120 => asCons l120 fun v121 l122 => asInt .i64 v121 fun i123 => asCons l122 fun v124 l125 => asStr v124 fun s126 => asCons l125 fun v127 l128 => asInt .i64 v127 fun i129 => asCons l128 fun v130 l131 => asSlice v130 fun p132 n133 n134 => asNil l131 (.get fun h137 => grd (chks [((ldN 8 (aadd a87 ((Int.toNat i70) * 8))), v88), ((ld1 (aadd a19 3)), v83)] h137) (.call 19 [(.agg #[(.int .i64 i92), (.int .i64 i95), (.string s98), (.slice p101 n102 n103), (.int .i64 i106), (.pointer p109), (.int .i64 i112), (.int .i64 i115)]), (.agg #[(.int .i64 i123), (.string s126), (.int .i64 i129), (.slice p132 n133 n134)]), (.slice p10 n11 n12), (.slice p13 n14 n15), (.int .i64 (wi64 (i16 + 1)))] fun v135 => asStr v135 fun s136 => grd (Nat.ble (s82.size + s136.size) 9223372036854775807) (.ret .normal [(.string (s82 ++ s136))]))))))) else (grd (Nat.ble (s82.size + 1) 9223372036854775807) (.ret .normal [(.string (s82 ++ (bs [63])))]))) (T28k2))) (.fail)

noncomputable def T28k4 (i70 : Int) : Ex → List Value → Pg :=
  fun e143 l144 => sw e143 .normal (asCons l144 fun v145 l146 => asStr v145 fun s147 => asNil l146 (.ret .normal [(.int .i64 (wi64 (i70 + 1))), (.string s147)])) (.fail)

noncomputable def T28b1 (a19 : Addr) (n65 : Nat) (p64 : (Option Addr)) (p10 : (Option Addr)) (n11 : Nat) (n12 : Nat) (p13 : (Option Addr)) (n14 : Nat) (n15 : Nat) (i16 : Int) : List Value → Pg :=
  fun l67 => asCons l67 fun v68 l69 => asInt .i64 v68 fun i70 => asCons l69 fun v71 l72 => asStr v71 fun s73 => asNil l72 (.act (ld1 (aadd a19 3)) fun v74 => asSlice v74 fun p75 n76 n77 => bif (decide (i70 < ((n76 : Nat) : Int))) then (.join (.join (bif (decide (i70 > 0)) then (grd (Nat.ble (s73.size + 2) 9223372036854775807) (.ret .normal [(.string (s73 ++ (bs [44, 32])))])) else (.ret .normal [(.string s73)])) (T28k3 i70 n65 a19 p64 p10 n11 n12 p13 n14 n15 i16)) (T28k4 i70)) else (.ret (.exit 2) [(.int .i64 i70), (.string s73)]))

noncomputable def T28k5 : Ex → List Value → Pg :=
  fun e148 l149 => sw e148 (.exit 2) (asCons l149 fun v150 l151 => asInt .i64 v150 fun i152 => asCons l151 fun v153 l154 => asStr v153 fun s155 => asNil l154 (grd (Nat.ble (s155.size + 1) 9223372036854775807) (.ret .ret [(.string (s155 ++ (bs [41])))]))) (.fail)

noncomputable def T28k6 (a19 : Addr) (p10 : (Option Addr)) (n11 : Nat) (n12 : Nat) (p13 : (Option Addr)) (n14 : Nat) (n15 : Nat) (i16 : Int) : Ex → List Value → Pg :=
  fun e57 l58 => sw e57 (.exit 0) (asCons l58 fun v59 l60 => asInt .i64 v59 fun i61 => asCons l60 fun v62 l63 => asSlice v62 fun p64 n65 n66 => asNil l63 (.loop [(.int .i64 0), (.string (bs [32, 40]))] (T28b1 a19 n65 p64 p10 n11 n12 p13 n14 n15 i16) (T28k5))) (.fail)

/-- hindsight/hindsightref9.args -/
noncomputable def T28 (i0 : Int) (i1 : Int) (s2 : ByteArray) (p3 : (Option Addr)) (n4 : Nat) (n5 : Nat) (i6 : Int) (p7 : (Option Addr)) (i8 : Int) (i9 : Int) (p10 : (Option Addr)) (n11 : Nat) (n12 : Nat) (p13 : (Option Addr)) (n14 : Nat) (n15 : Nat) (i16 : Int) : Pg :=
  .act (newC [(.int .i64 i0), (.int .i64 i1), (.string s2), (.slice p3 n4 n5), (.int .i64 i6), (.pointer p7), (.int .i64 i8), (.int .i64 i9)]) fun v17 => asPtr v17 fun p18 => asSome p18 fun a19 => .act (ld1 (aadd a19 3)) fun v20 => asSlice v20 fun p21 n22 n23 => bif (((n22 : Nat) : Int) == 0) then (.ret .ret [(.string (bs []))]) else (.loop [(.int .i64 (wi64 (((n14 : Nat) : Int) - 1))), (.slice none 0 0)] (T28b0 p13 n14 a19) (T28k6 a19 p10 n11 n12 p13 n14 n15 i16))
theorem T28_eq (i0 : Int) (i1 : Int) (s2 : ByteArray) (p3 : (Option Addr)) (n4 : Nat) (n5 : Nat) (i6 : Int) (p7 : (Option Addr)) (i8 : Int) (i9 : Int) (p10 : (Option Addr)) (n11 : Nat) (n12 : Nat) (p13 : (Option Addr)) (n14 : Nat) (n15 : Nat) (i16 : Int) : progOf PROG false 28 [(.agg #[(.int .i64 i0), (.int .i64 i1), (.string s2), (.slice p3 n4 n5), (.int .i64 i6), (.pointer p7), (.int .i64 i8), (.int .i64 i9)]), (.slice p10 n11 n12), (.slice p13 n14 n15), (.int .i64 i16)] = T28 i0 i1 s2 p3 n4 n5 i6 p7 i8 i9 p10 n11 n12 p13 n14 n15 i16 := by kernel_rfl


/-- internal/strconv.FormatBool -/
noncomputable def T30 (b0 : Bool) : Pg :=
  bif b0 then (.ret .ret [(.string (bs [116, 114, 117, 101]))]) else (.ret .ret [(.string (bs [102, 97, 108, 115, 101]))])
theorem T30_eq (b0 : Bool) : progOf PROG false 30 [(.bool b0)] = T30 b0 := by kernel_rfl


noncomputable def T31k0 (i7 : Int) : Ex → List Value → Pg :=
  fun e27 l28 => sw e27 .ret (asCons l28 fun v29 l30 => asInt .i64 v29 fun i31 => asNil l30 (.ret .ret [(.int .i64 i7), (.int .i64 i31)])) (sw e27 .normal (asCons l28 fun v32 l33 => asInt .i64 v32 fun i34 => asNil l33 (.ret .normal [(.int .i64 (wi64 (i7 + 1))), (.int .i64 i34)])) (.fail))

noncomputable def T31b0 (n1 : Nat) (p0 : (Option Addr)) (v3 : Value) : List Value → Pg :=
  fun l4 => asCons l4 fun v5 l6 => asInt .i64 v5 fun i7 => asCons l6 fun v8 l9 => asInt .i64 v8 fun i10 => asNil l9 (bif (decide (i7 < ((n1 : Nat) : Int))) then (.join (asSome p0 fun a11 => grd ((decide (0 ≤ i7)) && (decide (i7 < ((n1 : Nat) : Int)))) (.act (ldN 2 (aadd a11 ((Int.toNat i7) * 2))) fun v12 => asAgg v12 fun l13 => asCons l13 fun v14 l15 => asStr v14 fun s16 => asCons l15 fun v17 l18 => asSlice v17 fun p19 n20 n21 => asNil l18 (asFunc v3 fun n22 l23 l24 => .call n22 (l23 ++ [(.agg #[(.string s16), (.slice p19 n20 n21)])] ++ l24) fun v25 => asBool v25 fun b26 => bif b26 then (.ret .ret [(.int .i64 i7)]) else (.ret .normal [(.int .i64 i10)])))) (T31k0 i7)) else (.ret (.exit 0) [(.int .i64 i7), (.int .i64 i10)]))

noncomputable def T31k1 : Ex → List Value → Pg :=
  fun e35 l36 => sw e35 (.exit 0) (asCons l36 fun v37 l38 => asInt .i64 v37 fun i39 => asCons l38 fun v40 l41 => asInt .i64 v40 fun i42 => asNil l41 (.ret .ret [(.int .i64 (-1))])) (sw e35 .ret (asCons l36 fun v43 l44 => asInt .i64 v43 fun i45 => asCons l44 fun v46 l47 => asInt .i64 v46 fun i48 => asNil l47 (.ret .ret [(.int .i64 i48)])) (.fail))

/-- slices.IndexFunc[[]hindsight/val.Arg,hindsight/val.Arg] -/
noncomputable def T31 (p0 : (Option Addr)) (n1 : Nat) (n2 : Nat) (v3 : Value) : Pg :=
  .loop [(.int .i64 0), (.int .i64 0)] (T31b0 n1 p0 v3) (T31k1)
theorem T31_eq (p0 : (Option Addr)) (n1 : Nat) (n2 : Nat) (v3 : Value) : progOf PROG false 31 [(.slice p0 n1 n2), v3] = T31 p0 n1 n2 v3 := by kernel_rfl


/-- (hindsight/val.renderer).args$1 -/
noncomputable def T32 (s0 : ByteArray) (p1 : (Option Addr)) (n2 : Nat) (n3 : Nat) (a4 : Addr) : Pg :=
  .act (newC [(.string s0), (.slice p1 n2 n3)]) fun v5 => asPtr v5 fun p6 => asSome p6 fun a7 => .act (ld1 (aadd a7 0)) fun v8 => asStr v8 fun s9 => .act (ld1 (aadd a4 2)) fun v10 => asStr v10 fun s11 => .ret .ret [(.bool (s9.toList == s11.toList))]
theorem T32_eq (s0 : ByteArray) (p1 : (Option Addr)) (n2 : Nat) (n3 : Nat) (a4 : Addr) : progOf PROG false 32 [(.agg #[(.string s0), (.slice p1 n2 n3)]), (.pointer (some a4))] = T32 s0 p1 n2 n3 a4 := by kernel_rfl


noncomputable def T33k0 (a3 : Addr) (s0 : ByteArray) : Ex → List Value → Pg :=
  fun e58 l59 => sw e58 .ret (asNil l59 (.act (ldN 4 a3) fun v60 => .ret .ret [v60])) (sw e58 .normal (asNil l59 (.act (stC a3 [(.int .i64 4), (.string s0), (.int .i64 0), (.slice none 0 0)]) fun v61 => asTuple v61 fun l62 => asNil l62 (.act (ldN 4 a3) fun v63 => .ret .ret [v63]))) (.fail))

/-- hindsight/ty.Named -/
noncomputable def T33 (s0 : ByteArray) : Pg :=
  .act (newC [(.int .i64 0), (.string (bs [])), (.int .i64 0), (.slice none 0 0)]) fun v1 => asPtr v1 fun p2 => asSome p2 fun a3 => .join (bif (s0.toList == (bs [105, 110, 116]).toList) then (.call 40 [(.int .i64 1), (.slice none 0 0)] fun v4 => asAgg v4 fun l5 => asCons l5 fun v6 l7 => asInt .i64 v6 fun i8 => asCons l7 fun v9 l10 => asStr v9 fun s11 => asCons l10 fun v12 l13 => asInt .i64 v12 fun i14 => asCons l13 fun v15 l16 => asSlice v15 fun p17 n18 n19 => asNil l16 (.act (stC a3 [(.int .i64 i8), (.string s11), (.int .i64 i14), (.slice p17 n18 n19)]) fun v20 => asTuple v20 fun l21 => asNil l21 (.ret .ret []))) else (bif (s0.toList == (bs [98, 111, 111, 108]).toList) then (.call 40 [(.int .i64 2), (.slice none 0 0)] fun v22 => asAgg v22 fun l23 => asCons l23 fun v24 l25 => asInt .i64 v24 fun i26 => asCons l25 fun v27 l28 => asStr v27 fun s29 => asCons l28 fun v30 l31 => asInt .i64 v30 fun i32 => asCons l31 fun v33 l34 => asSlice v33 fun p35 n36 n37 => asNil l34 (.act (stC a3 [(.int .i64 i26), (.string s29), (.int .i64 i32), (.slice p35 n36 n37)]) fun v38 => asTuple v38 fun l39 => asNil l39 (.ret .ret []))) else (bif (s0.toList == (bs [117, 110, 105, 116]).toList) then (.call 40 [(.int .i64 3), (.slice none 0 0)] fun v40 => asAgg v40 fun l41 => asCons l41 fun v42 l43 => asInt .i64 v42 fun i44 => asCons l43 fun v45 l46 => asStr v45 fun s47 => asCons l46 fun v48 l49 => asInt .i64 v48 fun i50 => asCons l49 fun v51 l52 => asSlice v51 fun p53 n54 n55 => asNil l52 (.act (stC a3 [(.int .i64 i44), (.string s47), (.int .i64 i50), (.slice p53 n54 n55)]) fun v56 => asTuple v56 fun l57 => asNil l57 (.ret .ret []))) else (.ret .normal [])))) (T33k0 a3 s0)
theorem T33_eq (s0 : ByteArray) : progOf PROG false 33 [(.string s0)] = T33 s0 := by kernel_rfl


noncomputable def T35k0 (a3 : Addr) (s0 : ByteArray) : Ex → List Value → Pg :=
  fun e10 l11 => sw e10 .ret (asNil l11 (.act (ldN 4 a3) fun v12 => .ret .ret [v12])) (sw e10 .normal (asNil l11 (.act (stC a3 [(.int .i64 4), (.string s0), (.int .i64 0), (.slice none 0 0)]) fun v13 => asTuple v13 fun l14 => asNil l14 (.act (ldN 4 a3) fun v15 => .ret .ret [v15]))) (.fail))

/-- hindsight/hindsightref9.named -/
noncomputable def T35 (s0 : ByteArray) : Pg :=
  .act (newC [(.int .i64 0), (.string (bs [])), (.int .i64 0), (.slice none 0 0)]) fun v1 => asPtr v1 fun p2 => asSome p2 fun a3 => .join (bif (s0.toList == (bs [105, 110, 116]).toList) then (.act (stC a3 [(.int .i64 1), (.string (bs [])), (.int .i64 0), (.slice none 0 0)]) fun v4 => asTuple v4 fun l5 => asNil l5 (.ret .ret [])) else (bif (s0.toList == (bs [98, 111, 111, 108]).toList) then (.act (stC a3 [(.int .i64 2), (.string (bs [])), (.int .i64 0), (.slice none 0 0)]) fun v6 => asTuple v6 fun l7 => asNil l7 (.ret .ret [])) else (bif (s0.toList == (bs [117, 110, 105, 116]).toList) then (.act (stC a3 [(.int .i64 3), (.string (bs [])), (.int .i64 0), (.slice none 0 0)]) fun v8 => asTuple v8 fun l9 => asNil l9 (.ret .ret [])) else (.ret .normal [])))) (T35k0 a3 s0)
theorem T35_eq (s0 : ByteArray) : progOf PROG false 35 [(.string s0)] = T35 s0 := by kernel_rfl


/-- hindsight/ty.Of -/
noncomputable def T40 (i0 : Int) (p1 : (Option Addr)) (n2 : Nat) (n3 : Nat) : Pg :=
  .act (newC [(.int .i64 0), (.string (bs [])), (.int .i64 0), (.slice none 0 0)]) fun v4 => asPtr v4 fun p5 => asSome p5 fun a6 => .act (stC a6 [(.int .i64 i0), (.string (bs [])), (.int .i64 0), (.slice p1 n2 n3)]) fun v7 => asTuple v7 fun l8 => asNil l8 (.act (ldN 4 a6) fun v9 => .ret .ret [v9])
theorem T40_eq (i0 : Int) (p1 : (Option Addr)) (n2 : Nat) (n3 : Nat) : progOf PROG false 40 [(.int .i64 i0), (.slice p1 n2 n3)] = T40 i0 p1 n2 n3 := by kernel_rfl

noncomputable def A3 : List Value → Option Pg
  | [(.agg c0), (.int .i64 i9)] => (match c0.toList with
    | [(.int .i64 i0), (.int .i64 i1), (.string s2), (.slice p3 n4 n5), (.int .i64 i6), (.pointer p7), (.int .i64 i8)] => some (T3 i0 i1 s2 p3 n4 n5 i6 p7 i8 i9)
    | _ => none)
  | _ => none
theorem A3_ok : ∀ args p, A3 args = some p → progOf PROG false 3 args = p := by
  intro args p h
  unfold A3 at h
  split at h
  · split at h
    · rename_i e0
      have f0 := agg_of e0
      subst f0
      cases h
      exact T3_eq _ _ _ _ _ _ _ _ _ _
    · cases h
  · cases h
noncomputable def A4 : List Value → Option Pg
  | [(.agg c0), (.agg c1), (.agg c2), (.slice p24 n25 n26), (.slice p27 n28 n29)] => (match c0.toList with
    | [(.int .i64 i0), (.int .i64 i1), (.string s2), (.slice p3 n4 n5), (.int .i64 i6), (.pointer p7), (.int .i64 i8)] => (match c1.toList with
    | [(.int .i64 i9), (.int .i64 i10), (.string s11), (.slice p12 n13 n14), (.int .i64 i15), (.pointer p16), (.int .i64 i17)] => (match c2.toList with
    | [(.int .i64 i18), (.string s19), (.int .i64 i20), (.slice p21 n22 n23)] => some (T4 i0 i1 s2 p3 n4 n5 i6 p7 i8 i9 i10 s11 p12 n13 n14 i15 p16 i17 i18 s19 i20 p21 n22 n23 p24 n25 n26 p27 n28 n29)
    | _ => none)
    | _ => none)
    | _ => none)
  | _ => none
theorem A4_ok : ∀ args p, A4 args = some p → progOf PROG false 4 args = p := by
  intro args p h
  unfold A4 at h
  split at h
  · split at h
    · split at h
      · split at h
        · rename_i e0 d1 x1_0 x1_1 x1_2 x1_3 x1_4 x1_5 x1_6 x1_7 x1_8 e1 d2 x2_0 x2_1 x2_2 x2_3 x2_4 x2_5 e2
          have f0 := agg_of e0
          subst f0
          have f1 := agg_of e1
          subst f1
          have f2 := agg_of e2
          subst f2
          cases h
          exact T4_eq _ _ _ _ _ _ _ _ _ _ _ _ _ _ _ _ _ _ _ _ _ _ _ _ _ _ _ _ _ _
        · cases h
      · cases h
    · cases h
  · cases h
noncomputable def A5 : List Value → Option Pg
  | [] => some (T5)
  | _ => none
theorem A5_ok : ∀ args p, A5 args = some p → progOf PROG false 5 args = p := by
  intro args p h
  unfold A5 at h
  split at h
  · cases h; exact T5_eq 
  · cases h
noncomputable def A6 : List Value → Option Pg
  | [(.agg c0), (.int .i64 i9)] => (match c0.toList with
    | [(.int .i64 i0), (.int .i64 i1), (.string s2), (.slice p3 n4 n5), (.int .i64 i6), (.pointer p7), (.int .i64 i8)] => some (T6 i0 i1 s2 p3 n4 n5 i6 p7 i8 i9)
    | _ => none)
  | _ => none
theorem A6_ok : ∀ args p, A6 args = some p → progOf PROG false 6 args = p := by
  intro args p h
  unfold A6 at h
  split at h
  · split at h
    · rename_i e0
      have f0 := agg_of e0
      subst f0
      cases h
      exact T6_eq _ _ _ _ _ _ _ _ _ _
    · cases h
  · cases h
noncomputable def A7 : List Value → Option Pg
  | [(.agg c0), (.agg c1), (.slice p15 n16 n17), (.slice p18 n19 n20)] => (match c0.toList with
    | [(.int .i64 i0), (.int .i64 i1), (.string s2), (.slice p3 n4 n5), (.int .i64 i6), (.pointer p7), (.int .i64 i8)] => (match c1.toList with
    | [(.int .i64 i9), (.string s10), (.int .i64 i11), (.slice p12 n13 n14)] => some (T7 i0 i1 s2 p3 n4 n5 i6 p7 i8 i9 s10 i11 p12 n13 n14 p15 n16 n17 p18 n19 n20)
    | _ => none)
    | _ => none)
  | _ => none
theorem A7_ok : ∀ args p, A7 args = some p → progOf PROG false 7 args = p := by
  intro args p h
  unfold A7 at h
  split at h
  · split at h
    · split at h
      · rename_i e0 d1 x1_0 x1_1 x1_2 x1_3 x1_4 x1_5 e1
        have f0 := agg_of e0
        subst f0
        have f1 := agg_of e1
        subst f1
        cases h
        exact T7_eq _ _ _ _ _ _ _ _ _ _ _ _ _ _ _ _ _ _ _ _ _
      · cases h
    · cases h
  · cases h
noncomputable def A8 : List Value → Option Pg
  | [(.agg c0), (.int .i64 i6)] => (match c0.toList with
    | [(.int .i64 i0), (.string s1), (.int .i64 i2), (.slice p3 n4 n5)] => some (T8 i0 s1 i2 p3 n4 n5 i6)
    | _ => none)
  | _ => none
theorem A8_ok : ∀ args p, A8 args = some p → progOf PROG false 8 args = p := by
  intro args p h
  unfold A8 at h
  split at h
  · split at h
    · rename_i e0
      have f0 := agg_of e0
      subst f0
      cases h
      exact T8_eq _ _ _ _ _ _ _
    · cases h
  · cases h
noncomputable def A9 : List Value → Option Pg
  | [(.agg c0), (.agg c1), (.slice p16 n17 n18), (.slice p19 n20 n21)] => (match c0.toList with
    | [(.int .i64 i0), (.int .i64 i1), (.string s2), (.slice p3 n4 n5), (.int .i64 i6), (.pointer p7), (.int .i64 i8), (.int .i64 i9)] => (match c1.toList with
    | [(.int .i64 i10), (.string s11), (.int .i64 i12), (.slice p13 n14 n15)] => some (T9 i0 i1 s2 p3 n4 n5 i6 p7 i8 i9 i10 s11 i12 p13 n14 n15 p16 n17 n18 p19 n20 n21)
    | _ => none)
    | _ => none)
  | _ => none
theorem A9_ok : ∀ args p, A9 args = some p → progOf PROG false 9 args = p := by
  intro args p h
  unfold A9 at h
  split at h
  · split at h
    · split at h
      · rename_i e0 d1 x1_0 x1_1 x1_2 x1_3 x1_4 x1_5 e1
        have f0 := agg_of e0
        subst f0
        have f1 := agg_of e1
        subst f1
        cases h
        exact T9_eq _ _ _ _ _ _ _ _ _ _ _ _ _ _ _ _ _ _ _ _ _ _
      · cases h
    · cases h
  · cases h
noncomputable def A10 : List Value → Option Pg
  | [(.agg c0)] => (match c0.toList with
    | [(.int .i64 i0), (.int .i64 i1), (.string s2), (.slice p3 n4 n5), (.int .i64 i6), (.pointer p7), (.int .i64 i8)] => some (T10 i0 i1 s2 p3 n4 n5 i6 p7 i8)
    | _ => none)
  | _ => none
theorem A10_ok : ∀ args p, A10 args = some p → progOf PROG false 10 args = p := by
  intro args p h
  unfold A10 at h
  split at h
  · split at h
    · rename_i e0
      have f0 := agg_of e0
      subst f0
      cases h
      exact T10_eq _ _ _ _ _ _ _ _ _
    · cases h
  · cases h
noncomputable def A11 : List Value → Option Pg
  | [(.agg c0)] => (match c0.toList with
    | [(.int .i64 i0), (.string s1), (.int .i64 i2), (.slice p3 n4 n5)] => some (T11 i0 s1 i2 p3 n4 n5)
    | _ => none)
  | _ => none
theorem A11_ok : ∀ args p, A11 args = some p → progOf PROG false 11 args = p := by
  intro args p h
  unfold A11 at h
  split at h
  · split at h
    · rename_i e0
      have f0 := agg_of e0
      subst f0
      cases h
      exact T11_eq _ _ _ _ _ _
    · cases h
  · cases h
noncomputable def A12 : List Value → Option Pg
  | [(.slice p0 n1 n2)] => some (T12 p0 n1 n2)
  | _ => none
theorem A12_ok : ∀ args p, A12 args = some p → progOf PROG false 12 args = p := by
  intro args p h
  unfold A12 at h
  split at h
  · cases h; exact T12_eq _ _ _
  · cases h
noncomputable def A13 : List Value → Option Pg
  | [(.agg c0), (.agg c1)] => (match c0.toList with
    | [(.int .i64 i0), (.int .i64 i1), (.string s2), (.slice p3 n4 n5), (.int .i64 i6), (.pointer p7), (.int .i64 i8)] => (match c1.toList with
    | [(.int .i64 i9), (.int .i64 i10), (.string s11), (.slice p12 n13 n14), (.int .i64 i15), (.pointer p16), (.int .i64 i17)] => some (T13 i0 i1 s2 p3 n4 n5 i6 p7 i8 i9 i10 s11 p12 n13 n14 i15 p16 i17)
    | _ => none)
    | _ => none)
  | _ => none
theorem A13_ok : ∀ args p, A13 args = some p → progOf PROG false 13 args = p := by
  intro args p h
  unfold A13 at h
  split at h
  · split at h
    · split at h
      · rename_i e0 d1 x1_0 x1_1 x1_2 x1_3 x1_4 x1_5 x1_6 x1_7 x1_8 e1
        have f0 := agg_of e0
        subst f0
        have f1 := agg_of e1
        subst f1
        cases h
        exact T13_eq _ _ _ _ _ _ _ _ _ _ _ _ _ _ _ _ _ _
      · cases h
    · cases h
  · cases h
noncomputable def A14 : List Value → Option Pg
  | [(.agg c0), (.agg c1)] => (match c0.toList with
    | [(.int .i64 i0), (.int .i64 i1), (.string s2), (.slice p3 n4 n5), (.int .i64 i6), (.pointer p7), (.int .i64 i8), (.int .i64 i9)] => (match c1.toList with
    | [(.int .i64 i10), (.int .i64 i11), (.string s12), (.slice p13 n14 n15), (.int .i64 i16), (.pointer p17), (.int .i64 i18), (.int .i64 i19)] => some (T14 i0 i1 s2 p3 n4 n5 i6 p7 i8 i9 i10 i11 s12 p13 n14 n15 i16 p17 i18 i19)
    | _ => none)
    | _ => none)
  | _ => none
theorem A14_ok : ∀ args p, A14 args = some p → progOf PROG false 14 args = p := by
  intro args p h
  unfold A14 at h
  split at h
  · split at h
    · split at h
      · rename_i e0 d1 x1_0 x1_1 x1_2 x1_3 x1_4 x1_5 x1_6 x1_7 x1_8 x1_9 e1
        have f0 := agg_of e0
        subst f0
        have f1 := agg_of e1
        subst f1
        cases h
        exact T14_eq _ _ _ _ _ _ _ _ _ _ _ _ _ _ _ _ _ _ _ _
      · cases h
    · cases h
  · cases h
noncomputable def A15 : List Value → Option Pg
  | [(.agg c0)] => (match c0.toList with
    | [(.int .i64 i0), (.string s1), (.int .i64 i2), (.slice p3 n4 n5)] => some (T15 i0 s1 i2 p3 n4 n5)
    | _ => none)
  | _ => none
theorem A15_ok : ∀ args p, A15 args = some p → progOf PROG false 15 args = p := by
  intro args p h
  unfold A15 at h
  split at h
  · split at h
    · rename_i e0
      have f0 := agg_of e0
      subst f0
      cases h
      exact T15_eq _ _ _ _ _ _
    · cases h
  · cases h
noncomputable def A16 : List Value → Option Pg
  | [(.string s0), (.int .i64 i1), (.int .i64 i2)] => some (T16 s0 i1 i2)
  | _ => none
theorem A16_ok : ∀ args p, A16 args = some p → progOf PROG false 16 args = p := by
  intro args p h
  unfold A16 at h
  split at h
  · cases h; exact T16_eq _ _ _
  · cases h
noncomputable def A17 : List Value → Option Pg
  | [(.int .i64 i0)] => some (T17 i0)
  | _ => none
theorem A17_ok : ∀ args p, A17 args = some p → progOf PROG false 17 args = p := by
  intro args p h
  unfold A17 at h
  split at h
  · cases h; exact T17_eq _
  · cases h
noncomputable def A18 : List Value → Option Pg
  | [(.agg c0), (.agg c1), (.agg c2), (.int .i64 i21)] => (match c0.toList with
    | [(.slice p0 n1 n2), (.slice p3 n4 n5)] => (match c1.toList with
    | [(.int .i64 i6), (.int .i64 i7), (.string s8), (.slice p9 n10 n11), (.int .i64 i12), (.pointer p13), (.int .i64 i14)] => (match c2.toList with
    | [(.int .i64 i15), (.string s16), (.int .i64 i17), (.slice p18 n19 n20)] => some (T18 p0 n1 n2 p3 n4 n5 i6 i7 s8 p9 n10 n11 i12 p13 i14 i15 s16 i17 p18 n19 n20 i21)
    | _ => none)
    | _ => none)
    | _ => none)
  | _ => none
theorem A18_ok : ∀ args p, A18 args = some p → progOf PROG false 18 args = p := by
  intro args p h
  unfold A18 at h
  split at h
  · split at h
    · split at h
      · split at h
        · rename_i e0 d1 x1_0 x1_1 x1_2 x1_3 x1_4 x1_5 x1_6 x1_7 x1_8 e1 d2 x2_0 x2_1 x2_2 x2_3 x2_4 x2_5 e2
          have f0 := agg_of e0
          subst f0
          have f1 := agg_of e1
          subst f1
          have f2 := agg_of e2
          subst f2
          cases h
          exact T18_eq _ _ _ _ _ _ _ _ _ _ _ _ _ _ _ _ _ _ _ _ _ _
        · cases h
      · cases h
    · cases h
  · cases h
noncomputable def A19 : List Value → Option Pg
  | [(.agg c0), (.agg c1), (.slice p16 n17 n18), (.slice p19 n20 n21), (.int .i64 i22)] => (match c0.toList with
    | [(.int .i64 i0), (.int .i64 i1), (.string s2), (.slice p3 n4 n5), (.int .i64 i6), (.pointer p7), (.int .i64 i8), (.int .i64 i9)] => (match c1.toList with
    | [(.int .i64 i10), (.string s11), (.int .i64 i12), (.slice p13 n14 n15)] => some (T19 i0 i1 s2 p3 n4 n5 i6 p7 i8 i9 i10 s11 i12 p13 n14 n15 p16 n17 n18 p19 n20 n21 i22)
    | _ => none)
    | _ => none)
  | _ => none
theorem A19_ok : ∀ args p, A19 args = some p → progOf PROG false 19 args = p := by
  intro args p h
  unfold A19 at h
  split at h
  · split at h
    · split at h
      · rename_i e0 d1 x1_0 x1_1 x1_2 x1_3 x1_4 x1_5 e1
        have f0 := agg_of e0
        subst f0
        have f1 := agg_of e1
        subst f1
        cases h
        exact T19_eq _ _ _ _ _ _ _ _ _ _ _ _ _ _ _ _ _ _ _ _ _ _ _
      · cases h
    · cases h
  · cases h
noncomputable def A20 : List Value → Option Pg
  | [(.int .i64 i0)] => some (T20 i0)
  | _ => none
theorem A20_ok : ∀ args p, A20 args = some p → progOf PROG false 20 args = p := by
  intro args p h
  unfold A20 at h
  split at h
  · cases h; exact T20_eq _
  · cases h
noncomputable def A21 : List Value → Option Pg
  | [(.bool b0)] => some (T21 b0)
  | _ => none
theorem A21_ok : ∀ args p, A21 args = some p → progOf PROG false 21 args = p := by
  intro args p h
  unfold A21 at h
  split at h
  · cases h; exact T21_eq _
  · cases h
noncomputable def A22 : List Value → Option Pg
  | [(.int .i64 i0)] => some (T22 i0)
  | _ => none
theorem A22_ok : ∀ args p, A22 args = some p → progOf PROG false 22 args = p := by
  intro args p h
  unfold A22 at h
  split at h
  · cases h; exact T22_eq _
  · cases h
noncomputable def A24 : List Value → Option Pg
  | [(.bool b0)] => some (T24 b0)
  | _ => none
theorem A24_ok : ∀ args p, A24 args = some p → progOf PROG false 24 args = p := by
  intro args p h
  unfold A24 at h
  split at h
  · cases h; exact T24_eq _
  · cases h
noncomputable def A25 : List Value → Option Pg
  | [(.agg c0), (.agg c1), (.agg c2), (.int .i64 i21)] => (match c0.toList with
    | [(.slice p0 n1 n2), (.slice p3 n4 n5)] => (match c1.toList with
    | [(.int .i64 i6), (.int .i64 i7), (.string s8), (.slice p9 n10 n11), (.int .i64 i12), (.pointer p13), (.int .i64 i14)] => (match c2.toList with
    | [(.int .i64 i15), (.string s16), (.int .i64 i17), (.slice p18 n19 n20)] => some (T25 p0 n1 n2 p3 n4 n5 i6 i7 s8 p9 n10 n11 i12 p13 i14 i15 s16 i17 p18 n19 n20 i21)
    | _ => none)
    | _ => none)
    | _ => none)
  | _ => none
theorem A25_ok : ∀ args p, A25 args = some p → progOf PROG false 25 args = p := by
  intro args p h
  unfold A25 at h
  split at h
  · split at h
    · split at h
      · split at h
        · rename_i e0 d1 x1_0 x1_1 x1_2 x1_3 x1_4 x1_5 x1_6 x1_7 x1_8 e1 d2 x2_0 x2_1 x2_2 x2_3 x2_4 x2_5 e2
          have f0 := agg_of e0
          subst f0
          have f1 := agg_of e1
          subst f1
          have f2 := agg_of e2
          subst f2
          cases h
          exact T25_eq _ _ _ _ _ _ _ _ _ _ _ _ _ _ _ _ _ _ _ _ _ _
        · cases h
      · cases h
    · cases h
  · cases h
noncomputable def A26 : List Value → Option Pg
  | [(.agg c0), (.agg c1), (.int .i64 i15)] => (match c0.toList with
    | [(.slice p0 n1 n2), (.slice p3 n4 n5)] => (match c1.toList with
    | [(.int .i64 i6), (.int .i64 i7), (.string s8), (.slice p9 n10 n11), (.int .i64 i12), (.pointer p13), (.int .i64 i14)] => some (T26 p0 n1 n2 p3 n4 n5 i6 i7 s8 p9 n10 n11 i12 p13 i14 i15)
    | _ => none)
    | _ => none)
  | _ => none
theorem A26_ok : ∀ args p, A26 args = some p → progOf PROG false 26 args = p := by
  intro args p h
  unfold A26 at h
  split at h
  · split at h
    · split at h
      · rename_i e0 d1 x1_0 x1_1 x1_2 x1_3 x1_4 x1_5 x1_6 x1_7 x1_8 e1
        have f0 := agg_of e0
        subst f0
        have f1 := agg_of e1
        subst f1
        cases h
        exact T26_eq _ _ _ _ _ _ _ _ _ _ _ _ _ _ _ _
      · cases h
    · cases h
  · cases h
noncomputable def A27 : List Value → Option Pg
  | [(.int .i64 i0)] => some (T27 i0)
  | _ => none
theorem A27_ok : ∀ args p, A27 args = some p → progOf PROG false 27 args = p := by
  intro args p h
  unfold A27 at h
  split at h
  · cases h; exact T27_eq _
  · cases h
noncomputable def A28 : List Value → Option Pg
  | [(.agg c0), (.slice p10 n11 n12), (.slice p13 n14 n15), (.int .i64 i16)] => (match c0.toList with
    | [(.int .i64 i0), (.int .i64 i1), (.string s2), (.slice p3 n4 n5), (.int .i64 i6), (.pointer p7), (.int .i64 i8), (.int .i64 i9)] => some (T28 i0 i1 s2 p3 n4 n5 i6 p7 i8 i9 p10 n11 n12 p13 n14 n15 i16)
    | _ => none)
  | _ => none
theorem A28_ok : ∀ args p, A28 args = some p → progOf PROG false 28 args = p := by
  intro args p h
  unfold A28 at h
  split at h
  · split at h
    · rename_i e0
      have f0 := agg_of e0
      subst f0
      cases h
      exact T28_eq _ _ _ _ _ _ _ _ _ _ _ _ _ _ _ _ _
    · cases h
  · cases h
noncomputable def A30 : List Value → Option Pg
  | [(.bool b0)] => some (T30 b0)
  | _ => none
theorem A30_ok : ∀ args p, A30 args = some p → progOf PROG false 30 args = p := by
  intro args p h
  unfold A30 at h
  split at h
  · cases h; exact T30_eq _
  · cases h
noncomputable def A31 : List Value → Option Pg
  | [(.slice p0 n1 n2), v3] => some (T31 p0 n1 n2 v3)
  | _ => none
theorem A31_ok : ∀ args p, A31 args = some p → progOf PROG false 31 args = p := by
  intro args p h
  unfold A31 at h
  split at h
  · cases h; exact T31_eq _ _ _ _
  · cases h
noncomputable def A32 : List Value → Option Pg
  | [(.agg c0), (.pointer (some a4))] => (match c0.toList with
    | [(.string s0), (.slice p1 n2 n3)] => some (T32 s0 p1 n2 n3 a4)
    | _ => none)
  | _ => none
theorem A32_ok : ∀ args p, A32 args = some p → progOf PROG false 32 args = p := by
  intro args p h
  unfold A32 at h
  split at h
  · split at h
    · rename_i e0
      have f0 := agg_of e0
      subst f0
      cases h
      exact T32_eq _ _ _ _ _
    · cases h
  · cases h
noncomputable def A33 : List Value → Option Pg
  | [(.string s0)] => some (T33 s0)
  | _ => none
theorem A33_ok : ∀ args p, A33 args = some p → progOf PROG false 33 args = p := by
  intro args p h
  unfold A33 at h
  split at h
  · cases h; exact T33_eq _
  · cases h
noncomputable def A35 : List Value → Option Pg
  | [(.string s0)] => some (T35 s0)
  | _ => none
theorem A35_ok : ∀ args p, A35 args = some p → progOf PROG false 35 args = p := by
  intro args p h
  unfold A35 at h
  split at h
  · cases h; exact T35_eq _
  · cases h
noncomputable def A40 : List Value → Option Pg
  | [(.int .i64 i0), (.slice p1 n2 n3)] => some (T40 i0 p1 n2 n3)
  | _ => none
theorem A40_ok : ∀ args p, A40 args = some p → progOf PROG false 40 args = p := by
  intro args p h
  unfold A40 at h
  split at h
  · cases h; exact T40_eq _ _ _ _
  · cases h
noncomputable def TAB : Tab := (.low 17 (.low 9 (.low 5 (.one 3 A3 (.one 4 A4 (.one 5 A5 .nil))) (.low 7 (.one 6 A6 (.one 7 A7 .nil)) (.one 8 A8 (.one 9 A9 .nil)))) (.low 13 (.low 11 (.one 10 A10 (.one 11 A11 .nil)) (.one 12 A12 (.one 13 A13 .nil))) (.low 15 (.one 14 A14 (.one 15 A15 .nil)) (.one 16 A16 (.one 17 A17 .nil))))) (.low 26 (.low 21 (.low 19 (.one 18 A18 (.one 19 A19 .nil)) (.one 20 A20 (.one 21 A21 .nil))) (.low 24 (.one 22 A22 (.one 24 A24 .nil)) (.one 25 A25 (.one 26 A26 .nil)))) (.low 31 (.low 28 (.one 27 A27 (.one 28 A28 .nil)) (.one 30 A30 (.one 31 A31 .nil))) (.low 33 (.one 32 A32 (.one 33 A33 .nil)) (.one 35 A35 (.one 40 A40 .nil))))))
theorem TAB_ok : TabOK PROG TAB := (.low (.low (.low (.one A3_ok (.one A4_ok (.one A5_ok .nil))) (.low (.one A6_ok (.one A7_ok .nil)) (.one A8_ok (.one A9_ok .nil)))) (.low (.low (.one A10_ok (.one A11_ok .nil)) (.one A12_ok (.one A13_ok .nil))) (.low (.one A14_ok (.one A15_ok .nil)) (.one A16_ok (.one A17_ok .nil))))) (.low (.low (.low (.one A18_ok (.one A19_ok .nil)) (.one A20_ok (.one A21_ok .nil))) (.low (.one A22_ok (.one A24_ok .nil)) (.one A25_ok (.one A26_ok .nil)))) (.low (.low (.one A27_ok (.one A28_ok .nil)) (.one A30_ok (.one A31_ok .nil))) (.low (.one A32_ok (.one A33_ok .nil)) (.one A35_ok (.one A40_ok .nil))))))

end Go.Pg
