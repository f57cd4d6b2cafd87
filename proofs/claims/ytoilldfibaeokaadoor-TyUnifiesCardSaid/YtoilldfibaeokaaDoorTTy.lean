/- The trees of the functions that the laws reach, written out by program; each is shown to be the function's own; then their table. -/
import Derived.Test.YtoilldfibaeokaaDoorProg
import Derived.KernelRfl
import Derived.Test.YtoilldfibaeokaaDoorPg3
namespace Go.Pg
open Go.Proofs
set_option linter.unusedVariables false
set_option maxRecDepth 100000
noncomputable abbrev PROG : Program := Tryd.prog
noncomputable def T4k0 : Ex → List Value → Pg :=
  fun e206 l207 => sw e206 .normal (asCons l207 fun v208 l209 => asBool v208 fun b210 => asNil l209 (.ret .ret [(.bool b210)])) (.fail)

noncomputable def T4k1 : Ex → List Value → Pg :=
  fun e281 l282 => sw e281 .normal (asCons l282 fun v283 l284 => asBool v283 fun b285 => asNil l284 (.ret .ret [(.bool b285)])) (.fail)

noncomputable def T4k2 (a14 : Addr) (a17 : Addr) : Ex → List Value → Pg :=
  fun e92 l93 => sw e92 .normal (asCons l93 fun v94 l95 => asBool v94 fun b96 => asNil l95 (bif b96 then (.ret .ret [(.bool true)]) else (.call 11 [] fun v97 => asPtr v97 fun p98 => .call 11 [] fun v99 => asPtr v99 fun p100 => .act (ldN 4 a14) fun v101 => asAgg v101 fun l102 => asCons l102 fun v103 l104 => asInt .i64 v103 fun i105 => asCons l104 fun v106 l107 => asStr v106 fun s108 => asCons l107 fun v109 l110 => asInt .i64 v109 fun i111 => asCons l110 fun v112 l113 => asSlice v112 fun p114 n115 n116 => asNil l113 (.act (ldN 4 a17) fun v117 => asAgg v117 fun l118 => asCons l118 fun v119 l120 => asInt .i64 v119 fun i121 => asCons l120 fun v122 l123 => asStr v122 fun s124 => asCons l123 fun v125 l126 => asInt .i64 v125 fun i127 => asCons l126 fun v128 l129 => asSlice v128 fun p130 n131 n132 => asNil l129 (.get fun h134 => .call 12 [(.pointer p98), (.agg #[(.int .i64 i105), (.string s108), (.int .i64 i111), (.slice p114 n115 n116)]), (.agg #[(.int .i64 i121), (.string s124), (.int .i64 i127), (.slice p130 n131 n132)])] fun v133 => asInt .i64 v133 fun i135 => .act (ldN 4 a17) fun v136 => grd (past (ldN 4 a17) v136 [h134]) (asAgg v136 fun l137 => asCons l137 fun v138 l139 => asInt .i64 v138 fun i140 => asCons l139 fun v141 l142 => asStr v141 fun s143 => asCons l142 fun v144 l145 => asInt .i64 v144 fun i146 => asCons l145 fun v147 l148 => asSlice v147 fun p149 n150 n151 => asNil l148 (.act (ldN 4 a14) fun v152 => grd (past (ldN 4 a14) v152 [h134]) (asAgg v152 fun l153 => asCons l153 fun v154 l155 => asInt .i64 v154 fun i156 => asCons l155 fun v157 l158 => asStr v157 fun s159 => asCons l158 fun v160 l161 => asInt .i64 v160 fun i162 => asCons l161 fun v163 l164 => asSlice v163 fun p165 n166 n167 => asNil l164 (.call 12 [(.pointer p100), (.agg #[(.int .i64 i140), (.string s143), (.int .i64 i146), (.slice p149 n150 n151)]), (.agg #[(.int .i64 i156), (.string s159), (.int .i64 i162), (.slice p165 n166 n167)])] fun v168 => asInt .i64 v168 fun i169 => bif (!((i135 == 0) == (i169 == 0))) then (.join (bif ((i135 != 0) && (i169 != 0)) == false then (.act (ldN 4 a14) fun v170 => asAgg v170 fun l171 => asCons l171 fun v172 l173 => asInt .i64 v172 fun i174 => asCons l173 fun v175 l176 => asStr v175 fun s177 => asCons l176 fun v178 l179 => asInt .i64 v178 fun i180 => asCons l179 fun v181 l182 => asSlice v181 fun p183 n184 n185 => asNil l182 (.call 19 [(.agg #[(.int .i64 i174), (.string s177), (.int .i64 i180), (.slice p183 n184 n185)])] fun v186 => asInt .i64 v186 fun i187 => bif (decide (i187 > 20)) == false then (.act (ldN 4 a17) fun v188 => asAgg v188 fun l189 => asCons l189 fun v190 l191 => asInt .i64 v190 fun i192 => asCons l191 fun v193 l194 => asStr v193 fun s195 => asCons l194 fun v196 l197 => asInt .i64 v196 fun i198 => asCons l197 fun v199 l200 => asSlice v199 fun p201 n202 n203 => asNil l200 (.call 19 [(.agg #[(.int .i64 i192), (.string s195), (.int .i64 i198), (.slice p201 n202 n203)])] fun v204 => asInt .i64 v204 fun i205 => .ret .normal [(.bool (decide (i205 > 20)))])) else (.ret .normal [(.bool true)]))) else (.ret .normal [(.bool true)])) (T4k0)) else (.join (bif (i135 != 0) == false then (.act (ldN 4 a14) fun v211 => asAgg v211 fun l212 => asCons l212 fun v213 l214 => asInt .i64 v213 fun i215 => asCons l214 fun v216 l217 => asStr v216 fun s218 => asCons l217 fun v219 l220 => asInt .i64 v219 fun i221 => asCons l220 fun v222 l223 => asSlice v222 fun p224 n225 n226 => asNil l223 (.get fun h228 => .call 17 [(.pointer p98), (.agg #[(.int .i64 i215), (.string s218), (.int .i64 i221), (.slice p224 n225 n226)])] fun v227 => asAgg v227 fun l229 => asCons l229 fun v230 l231 => asInt .i64 v230 fun i232 => asCons l231 fun v233 l234 => asStr v233 fun s235 => asCons l234 fun v236 l237 => asInt .i64 v236 fun i238 => asCons l237 fun v239 l240 => asSlice v239 fun p241 n242 n243 => asNil l240 (.get fun h245 => .call 20 [(.agg #[(.int .i64 i232), (.string s235), (.int .i64 i238), (.slice p241 n242 n243)])] fun v244 => asStr v244 fun s246 => .act (ldN 4 a14) fun v247 => grd (past (ldN 4 a14) v247 [h245, h228]) (asAgg v247 fun l248 => asCons l248 fun v249 l250 => asInt .i64 v249 fun i251 => asCons l250 fun v252 l253 => asStr v252 fun s254 => asCons l253 fun v255 l256 => asInt .i64 v255 fun i257 => asCons l256 fun v258 l259 => asSlice v258 fun p260 n261 n262 => asNil l259 (.call 17 [(.pointer p100), (.agg #[(.int .i64 i251), (.string s254), (.int .i64 i257), (.slice p260 n261 n262)])] fun v263 => asAgg v263 fun l264 => asCons l264 fun v265 l266 => asInt .i64 v265 fun i267 => asCons l266 fun v268 l269 => asStr v268 fun s270 => asCons l269 fun v271 l272 => asInt .i64 v271 fun i273 => asCons l272 fun v274 l275 => asSlice v274 fun p276 n277 n278 => asNil l275 (.call 20 [(.agg #[(.int .i64 i267), (.string s270), (.int .i64 i273), (.slice p276 n277 n278)])] fun v279 => asStr v279 fun s280 => .ret .normal [(.bool (s246.toList == s280.toList))])))))) else (.ret .normal [(.bool true)])) (T4k1))))))))))) (.fail)

/-- hindsight/hindsightlaw5.TyOrder -/
noncomputable def T4 (i0 : Int) (s1 : ByteArray) (i2 : Int) (p3 : (Option Addr)) (n4 : Nat) (n5 : Nat) (i6 : Int) (s7 : ByteArray) (i8 : Int) (p9 : (Option Addr)) (n10 : Nat) (n11 : Nat) : Pg :=
  .act (newC [(.int .i64 i0), (.string s1), (.int .i64 i2), (.slice p3 n4 n5)]) fun v12 => asPtr v12 fun p13 => asSome p13 fun a14 => .act (newC [(.int .i64 i6), (.string s7), (.int .i64 i8), (.slice p9 n10 n11)]) fun v15 => asPtr v15 fun p16 => asSome p16 fun a17 => .call 9 [] fun v18 => asBool v18 fun b19 => bif (!b19) then (.ret .ret [(.bool false)]) else (.join (.act (ldN 4 a14) fun v20 => asAgg v20 fun l21 => asCons l21 fun v22 l23 => asInt .i64 v22 fun i24 => asCons l23 fun v25 l26 => asStr v25 fun s27 => asCons l26 fun v28 l29 => asInt .i64 v28 fun i30 => asCons l29 fun v31 l32 => asSlice v31 fun p33 n34 n35 => asNil l32 (.call 10 [(.agg #[(.int .i64 i24), (.string s27), (.int .i64 i30), (.slice p33 n34 n35)]), (.int .i64 32)] fun v36 => asBool v36 fun b37 => bif (!b37) == false then (.act (ldN 4 a17) fun v38 => asAgg v38 fun l39 => asCons l39 fun v40 l41 => asInt .i64 v40 fun i42 => asCons l41 fun v43 l44 => asStr v43 fun s45 => asCons l44 fun v46 l47 => asInt .i64 v46 fun i48 => asCons l47 fun v49 l50 => asSlice v49 fun p51 n52 n53 => asNil l50 (.call 10 [(.agg #[(.int .i64 i42), (.string s45), (.int .i64 i48), (.slice p51 n52 n53)]), (.int .i64 32)] fun v54 => asBool v54 fun b55 => bif (!b55) == false then (.act (ldN 4 a14) fun v56 => asAgg v56 fun l57 => asCons l57 fun v58 l59 => asInt .i64 v58 fun i60 => asCons l59 fun v61 l62 => asStr v61 fun s63 => asCons l62 fun v64 l65 => asInt .i64 v64 fun i66 => asCons l65 fun v67 l68 => asSlice v67 fun p69 n70 n71 => asNil l68 (.call 15 [(.agg #[(.int .i64 i60), (.string s63), (.int .i64 i66), (.slice p69 n70 n71)])] fun v72 => asBool v72 fun b73 => bif (!b73) == false then (.act (ldN 4 a17) fun v74 => asAgg v74 fun l75 => asCons l75 fun v76 l77 => asInt .i64 v76 fun i78 => asCons l77 fun v79 l80 => asStr v79 fun s81 => asCons l80 fun v82 l83 => asInt .i64 v82 fun i84 => asCons l83 fun v85 l86 => asSlice v85 fun p87 n88 n89 => asNil l86 (.call 15 [(.agg #[(.int .i64 i78), (.string s81), (.int .i64 i84), (.slice p87 n88 n89)])] fun v90 => asBool v90 fun b91 => .ret .normal [(.bool (!b91))])) else (.ret .normal [(.bool true)]))) else (.ret .normal [(.bool true)]))) else (.ret .normal [(.bool true)]))) (T4k2 a14 a17))
theorem T4_eq (i0 : Int) (s1 : ByteArray) (i2 : Int) (p3 : (Option Addr)) (n4 : Nat) (n5 : Nat) (i6 : Int) (s7 : ByteArray) (i8 : Int) (p9 : (Option Addr)) (n10 : Nat) (n11 : Nat) : progOf PROG false 4 [(.agg #[(.int .i64 i0), (.string s1), (.int .i64 i2), (.slice p3 n4 n5)]), (.agg #[(.int .i64 i6), (.string s7), (.int .i64 i8), (.slice p9 n10 n11)])] = T4 i0 s1 i2 p3 n4 n5 i6 s7 i8 p9 n10 n11 := by kernel_rfl


noncomputable def T5k0 : Ex → List Value → Pg :=
  fun e381 l382 => sw e381 .normal (asCons l382 fun v383 l384 => asBool v383 fun b385 => asNil l384 (.ret .ret [(.bool b385)])) (.fail)

noncomputable def T5k1 (a14 : Addr) (a17 : Addr) : Ex → List Value → Pg :=
  fun e56 l57 => sw e56 .normal (asCons l57 fun v58 l59 => asBool v58 fun b60 => asNil l59 (bif b60 then (.ret .ret [(.bool true)]) else (.get fun h61 => .act (ldN 4 a14) fun v62 => asAgg v62 fun l63 => asCons l63 fun v64 l65 => asInt .i64 v64 fun i66 => asCons l65 fun v67 l68 => asStr v67 fun s69 => asCons l68 fun v70 l71 => asInt .i64 v70 fun i72 => asCons l71 fun v73 l74 => asSlice v73 fun p75 n76 n77 => asNil l74 (.act (ldN 4 a17) fun v78 => asAgg v78 fun l79 => asCons l79 fun v80 l81 => asInt .i64 v80 fun i82 => asCons l81 fun v83 l84 => asStr v83 fun s85 => asCons l84 fun v86 l87 => asInt .i64 v86 fun i88 => asCons l87 fun v89 l90 => asSlice v89 fun p91 n92 n93 => asNil l90 (.get fun h95 => grd (newN h61.n h95 []) (.act (newC [(.int .i64 0), (.string (bs [])), (.int .i64 0), (.slice none 0 0)]) fun v94 => asPtr v94 fun p97 => asSome p97 fun a98 => .get fun h96 => .get fun h100 => grd (newN h61.n h100 [h95.n]) (.act (newC [(.int .i64 0), (.string (bs [])), (.int .i64 0), (.slice none 0 0)]) fun v99 => asPtr v99 fun p102 => asSome p102 fun a103 => .get fun h101 => .call 14 [(.agg #[(.int .i64 i66), (.string s69), (.int .i64 i72), (.slice p75 n76 n77)])] fun v104 => asAgg v104 fun l105 => asCons l105 fun v106 l107 => asInt .i64 v106 fun i108 => asCons l107 fun v109 l110 => asStr v109 fun s111 => asCons l110 fun v112 l113 => asInt .i64 v112 fun i114 => asCons l113 fun v115 l116 => asSlice v115 fun p117 n118 n119 => asNil l116 (.get fun h388 => grd (chks [((ldN 4 a17), v78)] h388) (.get fun h387 => grd (chkO [(h100.n, (h101.get h100.n)), (h95.n, (h96.get h95.n))] h387) (.call 14 [(.agg #[(.int .i64 i82), (.string s85), (.int .i64 i88), (.slice p91 n92 n93)])] fun v120 => asAgg v120 fun l121 => asCons l121 fun v122 l123 => asInt .i64 v122 fun i124 => asCons l123 fun v125 l126 => asStr v125 fun s127 => asCons l126 fun v128 l129 => asInt .i64 v128 fun i130 => asCons l129 fun v131 l132 => asSlice v131 fun p133 n134 n135 => asNil l132 (.get fun h386 => grd (chkO [(h100.n, (h101.get h100.n)), (h95.n, (h96.get h95.n))] h386) (.act (stC a98 [(.int .i64 i108), (.string s111), (.int .i64 i114), (.slice p117 n118 n119)]) fun v136 => asTuple v136 fun l137 => asNil l137 (.act (stC a103 [(.int .i64 i124), (.string s127), (.int .i64 i130), (.slice p133 n134 n135)]) fun v138 => asTuple v138 fun l139 => asNil l139 (.join (.act (ldN 4 a14) fun v140 => asAgg v140 fun l141 => asCons l141 fun v142 l143 => asInt .i64 v142 fun i144 => asCons l143 fun v145 l146 => asStr v145 fun s147 => asCons l146 fun v148 l149 => asInt .i64 v148 fun i150 => asCons l149 fun v151 l152 => asSlice v151 fun p153 n154 n155 => asNil l152 (.get fun h157 => .call 15 [(.agg #[(.int .i64 i144), (.string s147), (.int .i64 i150), (.slice p153 n154 n155)])] fun v156 => asBool v156 fun b158 => .act (ldN 4 a98) fun v159 => grd (past (ldN 4 a98) v159 [h157]) (asAgg v159 fun l160 => asCons l160 fun v161 l162 => asInt .i64 v161 fun i163 => asCons l162 fun v164 l165 => asStr v164 fun s166 => asCons l165 fun v167 l168 => asInt .i64 v167 fun i169 => asCons l168 fun v170 l171 => asSlice v170 fun p172 n173 n174 => asNil l171 (.call 21 [(.agg #[(.int .i64 i163), (.string s166), (.int .i64 i169), (.slice p172 n173 n174)])] fun v175 => asBool v175 fun b176 => bif (b158 == b176) == true then (.act (ldN 4 a14) fun v177 => asAgg v177 fun l178 => asCons l178 fun v179 l180 => asInt .i64 v179 fun i181 => asCons l180 fun v182 l183 => asStr v182 fun s184 => asCons l183 fun v185 l186 => asInt .i64 v185 fun i187 => asCons l186 fun v188 l189 => asSlice v188 fun p190 n191 n192 => asNil l189 (.act (ldN 4 a17) fun v193 => asAgg v193 fun l194 => asCons l194 fun v195 l196 => asInt .i64 v195 fun i197 => asCons l196 fun v198 l199 => asStr v198 fun s200 => asCons l199 fun v201 l202 => asInt .i64 v201 fun i203 => asCons l202 fun v204 l205 => asSlice v204 fun p206 n207 n208 => asNil l205 (.get fun h210 => .call 22 [(.agg #[(.int .i64 i181), (.string s184), (.int .i64 i187), (.slice p190 n191 n192)]), (.agg #[(.int .i64 i197), (.string s200), (.int .i64 i203), (.slice p206 n207 n208)])] fun v209 => asBool v209 fun b211 => .act (ldN 4 a98) fun v212 => grd (past (ldN 4 a98) v212 [h210]) (asAgg v212 fun l213 => asCons l213 fun v214 l215 => asInt .i64 v214 fun i216 => asCons l215 fun v217 l218 => asStr v217 fun s219 => asCons l218 fun v220 l221 => asInt .i64 v220 fun i222 => asCons l221 fun v223 l224 => asSlice v223 fun p225 n226 n227 => asNil l224 (.act (ldN 4 a103) fun v228 => grd (past (ldN 4 a103) v228 [h210]) (asAgg v228 fun l229 => asCons l229 fun v230 l231 => asInt .i64 v230 fun i232 => asCons l231 fun v233 l234 => asStr v233 fun s235 => asCons l234 fun v236 l237 => asInt .i64 v236 fun i238 => asCons l237 fun v239 l240 => asSlice v239 fun p241 n242 n243 => asNil l240 (.call 16 [(.agg #[(.int .i64 i216), (.string s219), (.int .i64 i222), (.slice p225 n226 n227)]), (.agg #[(.int .i64 i232), (.string s235), (.int .i64 i238), (.slice p241 n242 n243)])] fun v244 => asBool v244 fun b245 => bif (b211 == b245) == true then (.act (ldN 4 a14) fun v246 => asAgg v246 fun l247 => asCons l247 fun v248 l249 => asInt .i64 v248 fun i250 => asCons l249 fun v251 l252 => asStr v251 fun s253 => asCons l252 fun v254 l255 => asInt .i64 v254 fun i256 => asCons l255 fun v257 l258 => asSlice v257 fun p259 n260 n261 => asNil l258 (.get fun h263 => .call 19 [(.agg #[(.int .i64 i250), (.string s253), (.int .i64 i256), (.slice p259 n260 n261)])] fun v262 => asInt .i64 v262 fun i264 => .act (ldN 4 a98) fun v265 => grd (past (ldN 4 a98) v265 [h263]) (asAgg v265 fun l266 => asCons l266 fun v267 l268 => asInt .i64 v267 fun i269 => asCons l268 fun v270 l271 => asStr v270 fun s272 => asCons l271 fun v273 l274 => asInt .i64 v273 fun i275 => asCons l274 fun v276 l277 => asSlice v276 fun p278 n279 n280 => asNil l277 (.call 23 [(.agg #[(.int .i64 i269), (.string s272), (.int .i64 i275), (.slice p278 n279 n280)])] fun v281 => asInt .i64 v281 fun i282 => bif (i264 == i282) == true then (.act (ldN 4 a14) fun v283 => asAgg v283 fun l284 => asCons l284 fun v285 l286 => asInt .i64 v285 fun i287 => asCons l286 fun v288 l289 => asStr v288 fun s290 => asCons l289 fun v291 l292 => asInt .i64 v291 fun i293 => asCons l292 fun v294 l295 => asSlice v294 fun p296 n297 n298 => asNil l295 (.call 15 [(.agg #[(.int .i64 i287), (.string s290), (.int .i64 i293), (.slice p296 n297 n298)])] fun v299 => asBool v299 fun b300 => bif (!b300) == false then (.act (ldN 4 a14) fun v301 => asAgg v301 fun l302 => asCons l302 fun v303 l304 => asInt .i64 v303 fun i305 => asCons l304 fun v306 l307 => asStr v306 fun s308 => asCons l307 fun v309 l310 => asInt .i64 v309 fun i311 => asCons l310 fun v312 l313 => asSlice v312 fun p314 n315 n316 => asNil l313 (.get fun h318 => .call 20 [(.agg #[(.int .i64 i305), (.string s308), (.int .i64 i311), (.slice p314 n315 n316)])] fun v317 => asStr v317 fun s319 => .act (ldN 4 a98) fun v320 => grd (past (ldN 4 a98) v320 [h318]) (asAgg v320 fun l321 => asCons l321 fun v322 l323 => asInt .i64 v322 fun i324 => asCons l323 fun v325 l326 => asStr v325 fun s327 => asCons l326 fun v328 l329 => asInt .i64 v328 fun i330 => asCons l329 fun v331 l332 => asSlice v331 fun p333 n334 n335 => asNil l332 (.call 24 [(.agg #[(.int .i64 i324), (.string s327), (.int .i64 i330), (.slice p333 n334 n335)])] fun v336 => asStr v336 fun s337 => bif (s319.toList == s337.toList) == true then (.act (ldN 4 a14) fun v338 => asAgg v338 fun l339 => asCons l339 fun v340 l341 => asInt .i64 v340 fun i342 => asCons l341 fun v343 l344 => asStr v343 fun s345 => asCons l344 fun v346 l347 => asInt .i64 v346 fun i348 => asCons l347 fun v349 l350 => asSlice v349 fun p351 n352 n353 => asNil l350 (.get fun h355 => .call 26 [(.agg #[(.int .i64 i342), (.string s345), (.int .i64 i348), (.slice p351 n352 n353)])] fun v354 => asSlice v354 fun p356 n357 n358 => .act (ldN 4 a98) fun v359 => grd (past (ldN 4 a98) v359 [h355]) (asAgg v359 fun l360 => asCons l360 fun v361 l362 => asInt .i64 v361 fun i363 => asCons l362 fun v364 l365 => asStr v364 fun s366 => asCons l365 fun v367 l368 => asInt .i64 v367 fun i369 => asCons l368 fun v370 l371 => asSlice v370 fun p372 n373 n374 => asNil l371 (.call 27 [(.agg #[(.int .i64 i363), (.string s366), (.int .i64 i369), (.slice p372 n373 n374)])] fun v375 => asSlice v375 fun p376 n377 n378 => .call 25 [(.slice p356 n357 n358), (.slice p376 n377 n378)] fun v379 => asBool v379 fun b380 => .ret .normal [(.bool b380)])))) else (.ret .normal [(.bool false)]))))) else (.ret .normal [(.bool true)]))) else (.ret .normal [(.bool false)]))))) else (.ret .normal [(.bool false)])))))))) else (.ret .normal [(.bool false)]))))) (T5k0))))))))))))))) (.fail)

/-- hindsight/hindsightlaw5.TySays -/
noncomputable def T5 (i0 : Int) (s1 : ByteArray) (i2 : Int) (p3 : (Option Addr)) (n4 : Nat) (n5 : Nat) (i6 : Int) (s7 : ByteArray) (i8 : Int) (p9 : (Option Addr)) (n10 : Nat) (n11 : Nat) : Pg :=
  .act (newC [(.int .i64 i0), (.string s1), (.int .i64 i2), (.slice p3 n4 n5)]) fun v12 => asPtr v12 fun p13 => asSome p13 fun a14 => .act (newC [(.int .i64 i6), (.string s7), (.int .i64 i8), (.slice p9 n10 n11)]) fun v15 => asPtr v15 fun p16 => asSome p16 fun a17 => .call 9 [] fun v18 => asBool v18 fun b19 => bif (!b19) then (.ret .ret [(.bool false)]) else (.join (.act (ldN 4 a14) fun v20 => asAgg v20 fun l21 => asCons l21 fun v22 l23 => asInt .i64 v22 fun i24 => asCons l23 fun v25 l26 => asStr v25 fun s27 => asCons l26 fun v28 l29 => asInt .i64 v28 fun i30 => asCons l29 fun v31 l32 => asSlice v31 fun p33 n34 n35 => asNil l32 (.call 10 [(.agg #[(.int .i64 i24), (.string s27), (.int .i64 i30), (.slice p33 n34 n35)]), (.int .i64 64)] fun v36 => asBool v36 fun b37 => bif (!b37) == false then (.act (ldN 4 a17) fun v38 => asAgg v38 fun l39 => asCons l39 fun v40 l41 => asInt .i64 v40 fun i42 => asCons l41 fun v43 l44 => asStr v43 fun s45 => asCons l44 fun v46 l47 => asInt .i64 v46 fun i48 => asCons l47 fun v49 l50 => asSlice v49 fun p51 n52 n53 => asNil l50 (.call 10 [(.agg #[(.int .i64 i42), (.string s45), (.int .i64 i48), (.slice p51 n52 n53)]), (.int .i64 64)] fun v54 => asBool v54 fun b55 => .ret .normal [(.bool (!b55))])) else (.ret .normal [(.bool true)]))) (T5k1 a14 a17))
theorem T5_eq (i0 : Int) (s1 : ByteArray) (i2 : Int) (p3 : (Option Addr)) (n4 : Nat) (n5 : Nat) (i6 : Int) (s7 : ByteArray) (i8 : Int) (p9 : (Option Addr)) (n10 : Nat) (n11 : Nat) : progOf PROG false 5 [(.agg #[(.int .i64 i0), (.string s1), (.int .i64 i2), (.slice p3 n4 n5)]), (.agg #[(.int .i64 i6), (.string s7), (.int .i64 i8), (.slice p9 n10 n11)])] = T5 i0 s1 i2 p3 n4 n5 i6 s7 i8 p9 n10 n11 := by kernel_rfl


noncomputable def T6k0 (b113 : Bool) : Ex → List Value → Pg :=
  fun e235 l236 => sw e235 .normal (asCons l236 fun v237 l238 => asSlice v237 fun p239 n240 n241 => asNil l238 (.ret .normal [(.slice p239 n240 n241), (.bool b113)])) (.fail)

noncomputable def T6k1 (p108 : (Option Addr)) (n109 : Nat) (n110 : Nat) (p0 : (Option Addr)) (i105 : Int) (n1 : Nat) (p101 : (Option Addr)) (b113 : Bool) : Ex → List Value → Pg :=
  fun e152 l153 => sw e152 .normal (asCons l153 fun v154 l155 => asBool v154 fun b156 => asNil l155 (bif b156 then (.ret .ret [(.slice p108 n109 n110), (.bool true)]) else (asSome p0 fun a157 => grd ((decide (0 ≤ i105)) && (decide (i105 < ((n1 : Nat) : Int)))) (.act (ldN 4 (aadd a157 ((Int.toNat i105) * 4))) fun v158 => asAgg v158 fun l159 => asCons l159 fun v160 l161 => asInt .i64 v160 fun i162 => asCons l161 fun v163 l164 => asStr v163 fun s165 => asCons l164 fun v166 l167 => asInt .i64 v166 fun i168 => asCons l167 fun v169 l170 => asSlice v169 fun p171 n172 n173 => asNil l170 (asSome p0 fun a174 => grd ((decide (0 ≤ (wi64 (i105 + 1)))) && (decide ((wi64 (i105 + 1)) < ((n1 : Nat) : Int)))) (.act (ldN 4 (aadd a174 ((Int.toNat (wi64 (i105 + 1))) * 4))) fun v175 => asAgg v175 fun l176 => asCons l176 fun v177 l178 => asInt .i64 v177 fun i179 => asCons l178 fun v180 l181 => asStr v180 fun s182 => asCons l181 fun v183 l184 => asInt .i64 v183 fun i185 => asCons l184 fun v186 l187 => asSlice v186 fun p188 n189 n190 => asNil l187 (.call 12 [(.pointer p101), (.agg #[(.int .i64 i162), (.string s165), (.int .i64 i168), (.slice p171 n172 n173)]), (.agg #[(.int .i64 i179), (.string s182), (.int .i64 i185), (.slice p188 n189 n190)])] fun v191 => asInt .i64 v191 fun i192 => .join (bif (i192 == 0) then (asSome p0 fun a193 => grd ((decide (0 ≤ i105)) && (decide (i105 < ((n1 : Nat) : Int)))) (.act (ldN 4 (aadd a193 ((Int.toNat i105) * 4))) fun v194 => asAgg v194 fun l195 => asCons l195 fun v196 l197 => asInt .i64 v196 fun i198 => asCons l197 fun v199 l200 => asStr v199 fun s201 => asCons l200 fun v202 l203 => asInt .i64 v202 fun i204 => asCons l203 fun v205 l206 => asSlice v205 fun p207 n208 n209 => asNil l206 (asSome p0 fun a210 => grd ((decide (0 ≤ (wi64 (i105 + 1)))) && (decide ((wi64 (i105 + 1)) < ((n1 : Nat) : Int)))) (.act (ldN 4 (aadd a210 ((Int.toNat (wi64 (i105 + 1))) * 4))) fun v211 => asAgg v211 fun l212 => asCons l212 fun v213 l214 => asInt .i64 v213 fun i215 => asCons l214 fun v216 l217 => asStr v216 fun s218 => asCons l217 fun v219 l220 => asInt .i64 v219 fun i221 => asCons l220 fun v222 l223 => asSlice v222 fun p224 n225 n226 => asNil l223 (.act (bdSl 4 2 [(.int .i64 i198), (.string s201), (.int .i64 i204), (.slice p207 n208 n209), (.int .i64 i215), (.string s218), (.int .i64 i221), (.slice p224 n225 n226)]) fun v227 => asSlice v227 fun p228 n229 n230 => .act (apS 4 56 p108 n109 n110 p228 n229 n230) fun v231 => asSlice v231 fun p232 n233 n234 => .ret .normal [(.slice p232 n233 n234)]))))) else (.ret .normal [(.slice p108 n109 n110)])) (T6k0 b113)))))))) (.fail)

noncomputable def T6k2 (i105 : Int) : Ex → List Value → Pg :=
  fun e242 l243 => sw e242 .ret (asCons l243 fun v244 l245 => asSlice v244 fun p246 n247 n248 => asCons l245 fun v249 l250 => asBool v249 fun b251 => asNil l250 (.ret .ret [(.int .i64 i105), (.slice p246 n247 n248), (.bool b251)])) (sw e242 .normal (asCons l243 fun v252 l253 => asSlice v252 fun p254 n255 n256 => asCons l253 fun v257 l258 => asBool v257 fun b259 => asNil l258 (.ret .normal [(.int .i64 (wi64 (i105 + 2))), (.slice p254 n255 n256), (.bool b259)])) (.fail))

noncomputable def T6b0 (n1 : Nat) (p0 : (Option Addr)) (p101 : (Option Addr)) : List Value → Pg :=
  fun l102 => asCons l102 fun v103 l104 => asInt .i64 v103 fun i105 => asCons l104 fun v106 l107 => asSlice v106 fun p108 n109 n110 => asCons l107 fun v111 l112 => asBool v111 fun b113 => asNil l112 (bif (decide ((wi64 (i105 + 1)) < ((n1 : Nat) : Int))) then (.join (.join (asSome p0 fun a114 => grd ((decide (0 ≤ i105)) && (decide (i105 < ((n1 : Nat) : Int)))) (.act (ldN 4 (aadd a114 ((Int.toNat i105) * 4))) fun v115 => asAgg v115 fun l116 => asCons l116 fun v117 l118 => asInt .i64 v117 fun i119 => asCons l118 fun v120 l121 => asStr v120 fun s122 => asCons l121 fun v123 l124 => asInt .i64 v123 fun i125 => asCons l124 fun v126 l127 => asSlice v126 fun p128 n129 n130 => asNil l127 (.call 10 [(.agg #[(.int .i64 i119), (.string s122), (.int .i64 i125), (.slice p128 n129 n130)]), (.int .i64 64)] fun v131 => asBool v131 fun b132 => bif (!b132) == false then (asSome p0 fun a133 => grd ((decide (0 ≤ (wi64 (i105 + 1)))) && (decide ((wi64 (i105 + 1)) < ((n1 : Nat) : Int)))) (.act (ldN 4 (aadd a133 ((Int.toNat (wi64 (i105 + 1))) * 4))) fun v134 => asAgg v134 fun l135 => asCons l135 fun v136 l137 => asInt .i64 v136 fun i138 => asCons l137 fun v139 l140 => asStr v139 fun s141 => asCons l140 fun v142 l143 => asInt .i64 v142 fun i144 => asCons l143 fun v145 l146 => asSlice v145 fun p147 n148 n149 => asNil l146 (.call 10 [(.agg #[(.int .i64 i138), (.string s141), (.int .i64 i144), (.slice p147 n148 n149)]), (.int .i64 64)] fun v150 => asBool v150 fun b151 => .ret .normal [(.bool (!b151))]))) else (.ret .normal [(.bool true)])))) (T6k1 p108 n109 n110 p0 i105 n1 p101 b113)) (T6k2 i105)) else (.ret (.exit 0) [(.int .i64 i105), (.slice p108 n109 n110), (.bool b113)]))

noncomputable def T6k3 : Ex → List Value → Pg :=
  fun e488 l489 => sw e488 .normal (asCons l489 fun v490 l491 => asBool v490 fun b492 => asNil l491 (.ret .ret [(.bool b492)])) (.fail)

noncomputable def T6k4 (i496 : Int) : Ex → List Value → Pg :=
  fun e569 l570 => sw e569 .ret (asCons l570 fun v571 l572 => asBool v571 fun b573 => asNil l572 (.ret .ret [(.int .i64 i496), (.bool b573)])) (sw e569 .normal (asCons l570 fun v574 l575 => asBool v574 fun b576 => asNil l575 (.ret .normal [(.int .i64 (wi64 (i496 + 2))), (.bool b576)])) (.fail))

noncomputable def T6b1 (n268 : Nat) (p267 : (Option Addr)) (p101 : (Option Addr)) : List Value → Pg :=
  fun l493 => asCons l493 fun v494 l495 => asInt .i64 v494 fun i496 => asCons l495 fun v497 l498 => asBool v497 fun b499 => asNil l498 (bif (decide ((wi64 (i496 + 1)) < ((n268 : Nat) : Int))) then (.join (asSome p267 fun a500 => grd ((decide (0 ≤ i496)) && (decide (i496 < ((n268 : Nat) : Int)))) (.act (ldN 4 (aadd a500 ((Int.toNat i496) * 4))) fun v501 => asAgg v501 fun l502 => asCons l502 fun v503 l504 => asInt .i64 v503 fun i505 => asCons l504 fun v506 l507 => asStr v506 fun s508 => asCons l507 fun v509 l510 => asInt .i64 v509 fun i511 => asCons l510 fun v512 l513 => asSlice v512 fun p514 n515 n516 => asNil l513 (.get fun h518 => .call 17 [(.pointer p101), (.agg #[(.int .i64 i505), (.string s508), (.int .i64 i511), (.slice p514 n515 n516)])] fun v517 => asAgg v517 fun l519 => asCons l519 fun v520 l521 => asInt .i64 v520 fun i522 => asCons l521 fun v523 l524 => asStr v523 fun s525 => asCons l524 fun v526 l527 => asInt .i64 v526 fun i528 => asCons l527 fun v529 l530 => asSlice v529 fun p531 n532 n533 => asNil l530 (asSome p267 fun a534 => grd ((decide (0 ≤ (wi64 (i496 + 1)))) && (decide ((wi64 (i496 + 1)) < ((n268 : Nat) : Int)))) (.act (ldN 4 (aadd a534 ((Int.toNat (wi64 (i496 + 1))) * 4))) fun v535 => grd (past (ldN 4 (aadd a534 ((Int.toNat (wi64 (i496 + 1))) * 4))) v535 [h518]) (asAgg v535 fun l536 => asCons l536 fun v537 l538 => asInt .i64 v537 fun i539 => asCons l538 fun v540 l541 => asStr v540 fun s542 => asCons l541 fun v543 l544 => asInt .i64 v543 fun i545 => asCons l544 fun v546 l547 => asSlice v546 fun p548 n549 n550 => asNil l547 (.call 17 [(.pointer p101), (.agg #[(.int .i64 i539), (.string s542), (.int .i64 i545), (.slice p548 n549 n550)])] fun v551 => asAgg v551 fun l552 => asCons l552 fun v553 l554 => asInt .i64 v553 fun i555 => asCons l554 fun v556 l557 => asStr v556 fun s558 => asCons l557 fun v559 l560 => asInt .i64 v559 fun i561 => asCons l560 fun v562 l563 => asSlice v562 fun p564 n565 n566 => asNil l563 (.call 22 [(.agg #[(.int .i64 i522), (.string s525), (.int .i64 i528), (.slice p531 n532 n533)]), (.agg #[(.int .i64 i555), (.string s558), (.int .i64 i561), (.slice p564 n565 n566)])] fun v567 => asBool v567 fun b568 => bif (!b568) then (.ret .ret [(.bool false)]) else (.ret .normal [(.bool b499)]))))))))) (T6k4 i496)) else (.ret (.exit 2) [(.int .i64 i496), (.bool b499)]))

noncomputable def T6k5 : Ex → List Value → Pg :=
  fun e770 l771 => sw e770 .normal (asCons l771 fun v772 l773 => asBool v772 fun b774 => asNil l773 (.ret .ret [(.bool b774)])) (.fail)

noncomputable def T6k6 (a17 : Addr) (p101 : (Option Addr)) (a20 : Addr) : Ex → List Value → Pg :=
  fun e577 l578 => sw e577 (.exit 2) (asCons l578 fun v579 l580 => asInt .i64 v579 fun i581 => asCons l580 fun v582 l583 => asBool v582 fun b584 => asNil l583 (.join (.act (ldN 4 a17) fun v585 => asAgg v585 fun l586 => asCons l586 fun v587 l588 => asInt .i64 v587 fun i589 => asCons l588 fun v590 l591 => asStr v590 fun s592 => asCons l591 fun v593 l594 => asInt .i64 v593 fun i595 => asCons l594 fun v596 l597 => asSlice v596 fun p598 n599 n600 => asNil l597 (.get fun h602 => .call 17 [(.pointer p101), (.agg #[(.int .i64 i589), (.string s592), (.int .i64 i595), (.slice p598 n599 n600)])] fun v601 => asAgg v601 fun l603 => asCons l603 fun v604 l605 => asInt .i64 v604 fun i606 => asCons l605 fun v607 l608 => asStr v607 fun s609 => asCons l608 fun v610 l611 => asInt .i64 v610 fun i612 => asCons l611 fun v613 l614 => asSlice v613 fun p615 n616 n617 => asNil l614 (.act (ldN 4 a20) fun v618 => grd (past (ldN 4 a20) v618 [h602]) (asAgg v618 fun l619 => asCons l619 fun v620 l621 => asInt .i64 v620 fun i622 => asCons l621 fun v623 l624 => asStr v623 fun s625 => asCons l624 fun v626 l627 => asInt .i64 v626 fun i628 => asCons l627 fun v629 l630 => asSlice v629 fun p631 n632 n633 => asNil l630 (.call 17 [(.pointer p101), (.agg #[(.int .i64 i622), (.string s625), (.int .i64 i628), (.slice p631 n632 n633)])] fun v634 => asAgg v634 fun l635 => asCons l635 fun v636 l637 => asInt .i64 v636 fun i638 => asCons l637 fun v639 l640 => asStr v639 fun s641 => asCons l640 fun v642 l643 => asInt .i64 v642 fun i644 => asCons l643 fun v645 l646 => asSlice v645 fun p647 n648 n649 => asNil l646 (.call 22 [(.agg #[(.int .i64 i606), (.string s609), (.int .i64 i612), (.slice p615 n616 n617)]), (.agg #[(.int .i64 i638), (.string s641), (.int .i64 i644), (.slice p647 n648 n649)])] fun v650 => asBool v650 fun b651 => bif b651 == true then (.act (ldN 4 a17) fun v652 => asAgg v652 fun l653 => asCons l653 fun v654 l655 => asInt .i64 v654 fun i656 => asCons l655 fun v657 l658 => asStr v657 fun s659 => asCons l658 fun v660 l661 => asInt .i64 v660 fun i662 => asCons l661 fun v663 l664 => asSlice v663 fun p665 n666 n667 => asNil l664 (.call 17 [(.pointer p101), (.agg #[(.int .i64 i656), (.string s659), (.int .i64 i662), (.slice p665 n666 n667)])] fun v668 => asAgg v668 fun l669 => asCons l669 fun v670 l671 => asInt .i64 v670 fun i672 => asCons l671 fun v673 l674 => asStr v673 fun s675 => asCons l674 fun v676 l677 => asInt .i64 v676 fun i678 => asCons l677 fun v679 l680 => asSlice v679 fun p681 n682 n683 => asNil l680 (.call 15 [(.agg #[(.int .i64 i672), (.string s675), (.int .i64 i678), (.slice p681 n682 n683)])] fun v684 => asBool v684 fun b685 => bif (!b685) == false then (.act (ldN 4 a17) fun v686 => asAgg v686 fun l687 => asCons l687 fun v688 l689 => asInt .i64 v688 fun i690 => asCons l689 fun v691 l692 => asStr v691 fun s693 => asCons l692 fun v694 l695 => asInt .i64 v694 fun i696 => asCons l695 fun v697 l698 => asSlice v697 fun p699 n700 n701 => asNil l698 (.get fun h703 => .call 17 [(.pointer p101), (.agg #[(.int .i64 i690), (.string s693), (.int .i64 i696), (.slice p699 n700 n701)])] fun v702 => asAgg v702 fun l704 => asCons l704 fun v705 l706 => asInt .i64 v705 fun i707 => asCons l706 fun v708 l709 => asStr v708 fun s710 => asCons l709 fun v711 l712 => asInt .i64 v711 fun i713 => asCons l712 fun v714 l715 => asSlice v714 fun p716 n717 n718 => asNil l715 (.get fun h720 => .call 17 [(.pointer p101), (.agg #[(.int .i64 i707), (.string s710), (.int .i64 i713), (.slice p716 n717 n718)])] fun v719 => asAgg v719 fun l721 => asCons l721 fun v722 l723 => asInt .i64 v722 fun i724 => asCons l723 fun v725 l726 => asStr v725 fun s727 => asCons l726 fun v728 l729 => asInt .i64 v728 fun i730 => asCons l729 fun v731 l732 => asSlice v731 fun p733 n734 n735 => asNil l732 (.act (ldN 4 a17) fun v736 => grd (past (ldN 4 a17) v736 [h720, h703]) (asAgg v736 fun l737 => asCons l737 fun v738 l739 => asInt .i64 v738 fun i740 => asCons l739 fun v741 l742 => asStr v741 fun s743 => asCons l742 fun v744 l745 => asInt .i64 v744 fun i746 => asCons l745 fun v747 l748 => asSlice v747 fun p749 n750 n751 => asNil l748 (.call 17 [(.pointer p101), (.agg #[(.int .i64 i740), (.string s743), (.int .i64 i746), (.slice p749 n750 n751)])] fun v752 => asAgg v752 fun l753 => asCons l753 fun v754 l755 => asInt .i64 v754 fun i756 => asCons l755 fun v757 l758 => asStr v757 fun s759 => asCons l758 fun v760 l761 => asInt .i64 v760 fun i762 => asCons l761 fun v763 l764 => asSlice v763 fun p765 n766 n767 => asNil l764 (.call 22 [(.agg #[(.int .i64 i724), (.string s727), (.int .i64 i730), (.slice p733 n734 n735)]), (.agg #[(.int .i64 i756), (.string s759), (.int .i64 i762), (.slice p765 n766 n767)])] fun v768 => asBool v768 fun b769 => .ret .normal [(.bool b769)]))))))) else (.ret .normal [(.bool true)])))) else (.ret .normal [(.bool false)]))))))) (T6k5))) (sw e577 .ret (asCons l578 fun v775 l776 => asInt .i64 v775 fun i777 => asCons l776 fun v778 l779 => asBool v778 fun b780 => asNil l779 (.ret .ret [(.bool b780)])) (.fail))

noncomputable def T6k7 (a17 : Addr) (a20 : Addr) (p101 : (Option Addr)) : Ex → List Value → Pg :=
  fun e260 l261 => sw e260 (.exit 0) (asCons l261 fun v262 l263 => asInt .i64 v262 fun i264 => asCons l263 fun v265 l266 => asSlice v265 fun p267 n268 n269 => asCons l266 fun v270 l271 => asBool v270 fun b272 => asNil l271 (.get fun h273 => .act (ldN 4 a17) fun v274 => asAgg v274 fun l275 => asCons l275 fun v276 l277 => asInt .i64 v276 fun i278 => asCons l277 fun v279 l280 => asStr v279 fun s281 => asCons l280 fun v282 l283 => asInt .i64 v282 fun i284 => asCons l283 fun v285 l286 => asSlice v285 fun p287 n288 n289 => asNil l286 (.act (ldN 4 a20) fun v290 => asAgg v290 fun l291 => asCons l291 fun v292 l293 => asInt .i64 v292 fun i294 => asCons l293 fun v295 l296 => asStr v295 fun s297 => asCons l296 fun v298 l299 => asInt .i64 v298 fun i300 => asCons l299 fun v301 l302 => asSlice v301 fun p303 n304 n305 => asNil l302 (.get fun h307 => grd (newN h273.n h307 []) (.act (newC [(.int .i64 0), (.string (bs [])), (.int .i64 0), (.slice none 0 0)]) fun v306 => asPtr v306 fun p309 => asSome p309 fun a310 => .get fun h308 => .get fun h312 => grd (newN h273.n h312 [h307.n]) (.act (newC [(.int .i64 0), (.string (bs [])), (.int .i64 0), (.slice none 0 0)]) fun v311 => asPtr v311 fun p314 => asSome p314 fun a315 => .get fun h313 => .call 17 [(.pointer p101), (.agg #[(.int .i64 i278), (.string s281), (.int .i64 i284), (.slice p287 n288 n289)])] fun v316 => asAgg v316 fun l317 => asCons l317 fun v318 l319 => asInt .i64 v318 fun i320 => asCons l319 fun v321 l322 => asStr v321 fun s323 => asCons l322 fun v324 l325 => asInt .i64 v324 fun i326 => asCons l325 fun v327 l328 => asSlice v327 fun p329 n330 n331 => asNil l328 (.get fun h783 => grd (chks [((ldN 4 a20), v290)] h783) (.get fun h782 => grd (chkO [(h312.n, (h313.get h312.n)), (h307.n, (h308.get h307.n))] h782) (.call 17 [(.pointer p101), (.agg #[(.int .i64 i294), (.string s297), (.int .i64 i300), (.slice p303 n304 n305)])] fun v332 => asAgg v332 fun l333 => asCons l333 fun v334 l335 => asInt .i64 v334 fun i336 => asCons l335 fun v337 l338 => asStr v337 fun s339 => asCons l338 fun v340 l341 => asInt .i64 v340 fun i342 => asCons l341 fun v343 l344 => asSlice v343 fun p345 n346 n347 => asNil l344 (.get fun h781 => grd (chkO [(h312.n, (h313.get h312.n)), (h307.n, (h308.get h307.n))] h781) (.act (stC a310 [(.int .i64 i320), (.string s323), (.int .i64 i326), (.slice p329 n330 n331)]) fun v348 => asTuple v348 fun l349 => asNil l349 (.act (stC a315 [(.int .i64 i336), (.string s339), (.int .i64 i342), (.slice p345 n346 n347)]) fun v350 => asTuple v350 fun l351 => asNil l351 (.act (ldN 4 a17) fun v352 => asAgg v352 fun l353 => asCons l353 fun v354 l355 => asInt .i64 v354 fun i356 => asCons l355 fun v357 l358 => asStr v357 fun s359 => asCons l358 fun v360 l361 => asInt .i64 v360 fun i362 => asCons l361 fun v363 l364 => asSlice v363 fun p365 n366 n367 => asNil l364 (.act (ldN 4 a20) fun v368 => asAgg v368 fun l369 => asCons l369 fun v370 l371 => asInt .i64 v370 fun i372 => asCons l371 fun v373 l374 => asStr v373 fun s375 => asCons l374 fun v376 l377 => asInt .i64 v376 fun i378 => asCons l377 fun v379 l380 => asSlice v379 fun p381 n382 n383 => asNil l380 (.call 12 [(.pointer p101), (.agg #[(.int .i64 i356), (.string s359), (.int .i64 i362), (.slice p365 n366 n367)]), (.agg #[(.int .i64 i372), (.string s375), (.int .i64 i378), (.slice p381 n382 n383)])] fun v384 => asInt .i64 v384 fun i385 => bif (i385 != 0) then (.join (.act (ldN 4 a17) fun v386 => asAgg v386 fun l387 => asCons l387 fun v388 l389 => asInt .i64 v388 fun i390 => asCons l389 fun v391 l392 => asStr v391 fun s393 => asCons l392 fun v394 l395 => asInt .i64 v394 fun i396 => asCons l395 fun v397 l398 => asSlice v397 fun p399 n400 n401 => asNil l398 (.get fun h403 => .call 17 [(.pointer p101), (.agg #[(.int .i64 i390), (.string s393), (.int .i64 i396), (.slice p399 n400 n401)])] fun v402 => asAgg v402 fun l404 => asCons l404 fun v405 l406 => asInt .i64 v405 fun i407 => asCons l406 fun v408 l409 => asStr v408 fun s410 => asCons l409 fun v411 l412 => asInt .i64 v411 fun i413 => asCons l412 fun v414 l415 => asSlice v414 fun p416 n417 n418 => asNil l415 (.act (ldN 4 a310) fun v419 => grd (past (ldN 4 a310) v419 [h403]) (asAgg v419 fun l420 => asCons l420 fun v421 l422 => asInt .i64 v421 fun i423 => asCons l422 fun v424 l425 => asStr v424 fun s426 => asCons l425 fun v427 l428 => asInt .i64 v427 fun i429 => asCons l428 fun v430 l431 => asSlice v430 fun p432 n433 n434 => asNil l431 (.call 22 [(.agg #[(.int .i64 i407), (.string s410), (.int .i64 i413), (.slice p416 n417 n418)]), (.agg #[(.int .i64 i423), (.string s426), (.int .i64 i429), (.slice p432 n433 n434)])] fun v435 => asBool v435 fun b436 => bif b436 == true then (.act (ldN 4 a20) fun v437 => asAgg v437 fun l438 => asCons l438 fun v439 l440 => asInt .i64 v439 fun i441 => asCons l440 fun v442 l443 => asStr v442 fun s444 => asCons l443 fun v445 l446 => asInt .i64 v445 fun i447 => asCons l446 fun v448 l449 => asSlice v448 fun p450 n451 n452 => asNil l449 (.get fun h454 => .call 17 [(.pointer p101), (.agg #[(.int .i64 i441), (.string s444), (.int .i64 i447), (.slice p450 n451 n452)])] fun v453 => asAgg v453 fun l455 => asCons l455 fun v456 l457 => asInt .i64 v456 fun i458 => asCons l457 fun v459 l460 => asStr v459 fun s461 => asCons l460 fun v462 l463 => asInt .i64 v462 fun i464 => asCons l463 fun v465 l466 => asSlice v465 fun p467 n468 n469 => asNil l466 (.act (ldN 4 a315) fun v470 => grd (past (ldN 4 a315) v470 [h454]) (asAgg v470 fun l471 => asCons l471 fun v472 l473 => asInt .i64 v472 fun i474 => asCons l473 fun v475 l476 => asStr v475 fun s477 => asCons l476 fun v478 l479 => asInt .i64 v478 fun i480 => asCons l479 fun v481 l482 => asSlice v481 fun p483 n484 n485 => asNil l482 (.call 22 [(.agg #[(.int .i64 i458), (.string s461), (.int .i64 i464), (.slice p467 n468 n469)]), (.agg #[(.int .i64 i474), (.string s477), (.int .i64 i480), (.slice p483 n484 n485)])] fun v486 => asBool v486 fun b487 => .ret .normal [(.bool b487)]))))) else (.ret .normal [(.bool false)])))))) (T6k3)) else (.loop [(.int .i64 0), (.bool b272)] (T6b1 n268 p267 p101) (T6k6 a17 p101 a20))))))))))))))))) (sw e260 .ret (asCons l261 fun v784 l785 => asInt .i64 v784 fun i786 => asCons l785 fun v787 l788 => asSlice v787 fun p789 n790 n791 => asCons l788 fun v792 l793 => asBool v792 fun b794 => asNil l793 (.ret .ret [(.bool b794)])) (.fail))

noncomputable def T6k8 (n1 : Nat) (p0 : (Option Addr)) (a17 : Addr) (a20 : Addr) : Ex → List Value → Pg :=
  fun e95 l96 => sw e95 .normal (asCons l96 fun v97 l98 => asBool v97 fun b99 => asNil l98 (bif b99 then (.ret .ret [(.bool true)]) else (.call 11 [] fun v100 => asPtr v100 fun p101 => .loop [(.int .i64 0), (.slice none 0 0), (.bool false)] (T6b0 n1 p0 p101) (T6k7 a17 a20 p101)))) (.fail)

/-- hindsight/hindsightlaw5.TyOne -/
noncomputable def T6 (p0 : (Option Addr)) (n1 : Nat) (n2 : Nat) (i3 : Int) (s4 : ByteArray) (i5 : Int) (p6 : (Option Addr)) (n7 : Nat) (n8 : Nat) (i9 : Int) (s10 : ByteArray) (i11 : Int) (p12 : (Option Addr)) (n13 : Nat) (n14 : Nat) : Pg :=
  .act (newC [(.int .i64 i3), (.string s4), (.int .i64 i5), (.slice p6 n7 n8)]) fun v15 => asPtr v15 fun p16 => asSome p16 fun a17 => .act (newC [(.int .i64 i9), (.string s10), (.int .i64 i11), (.slice p12 n13 n14)]) fun v18 => asPtr v18 fun p19 => asSome p19 fun a20 => .call 9 [] fun v21 => asBool v21 fun b22 => bif (!b22) then (.ret .ret [(.bool false)]) else (.join (bif (decide (((n1 : Nat) : Int) > 12)) == false then (.act (ldN 4 a17) fun v23 => asAgg v23 fun l24 => asCons l24 fun v25 l26 => asInt .i64 v25 fun i27 => asCons l26 fun v28 l29 => asStr v28 fun s30 => asCons l29 fun v31 l32 => asInt .i64 v31 fun i33 => asCons l32 fun v34 l35 => asSlice v34 fun p36 n37 n38 => asNil l35 (.call 10 [(.agg #[(.int .i64 i27), (.string s30), (.int .i64 i33), (.slice p36 n37 n38)]), (.int .i64 64)] fun v39 => asBool v39 fun b40 => bif (!b40) == false then (.act (ldN 4 a20) fun v41 => asAgg v41 fun l42 => asCons l42 fun v43 l44 => asInt .i64 v43 fun i45 => asCons l44 fun v46 l47 => asStr v46 fun s48 => asCons l47 fun v49 l50 => asInt .i64 v49 fun i51 => asCons l50 fun v52 l53 => asSlice v52 fun p54 n55 n56 => asNil l53 (.call 10 [(.agg #[(.int .i64 i45), (.string s48), (.int .i64 i51), (.slice p54 n55 n56)]), (.int .i64 64)] fun v57 => asBool v57 fun b58 => bif (!b58) == false then (.act (ldN 4 a17) fun v59 => asAgg v59 fun l60 => asCons l60 fun v61 l62 => asInt .i64 v61 fun i63 => asCons l62 fun v64 l65 => asStr v64 fun s66 => asCons l65 fun v67 l68 => asInt .i64 v67 fun i69 => asCons l68 fun v70 l71 => asSlice v70 fun p72 n73 n74 => asNil l71 (.call 15 [(.agg #[(.int .i64 i63), (.string s66), (.int .i64 i69), (.slice p72 n73 n74)])] fun v75 => asBool v75 fun b76 => bif (!b76) == false then (.act (ldN 4 a20) fun v77 => asAgg v77 fun l78 => asCons l78 fun v79 l80 => asInt .i64 v79 fun i81 => asCons l80 fun v82 l83 => asStr v82 fun s84 => asCons l83 fun v85 l86 => asInt .i64 v85 fun i87 => asCons l86 fun v88 l89 => asSlice v88 fun p90 n91 n92 => asNil l89 (.call 15 [(.agg #[(.int .i64 i81), (.string s84), (.int .i64 i87), (.slice p90 n91 n92)])] fun v93 => asBool v93 fun b94 => .ret .normal [(.bool (!b94))])) else (.ret .normal [(.bool true)]))) else (.ret .normal [(.bool true)]))) else (.ret .normal [(.bool true)]))) else (.ret .normal [(.bool true)])) (T6k8 n1 p0 a17 a20))
theorem T6_eq (p0 : (Option Addr)) (n1 : Nat) (n2 : Nat) (i3 : Int) (s4 : ByteArray) (i5 : Int) (p6 : (Option Addr)) (n7 : Nat) (n8 : Nat) (i9 : Int) (s10 : ByteArray) (i11 : Int) (p12 : (Option Addr)) (n13 : Nat) (n14 : Nat) : progOf PROG false 6 [(.slice p0 n1 n2), (.agg #[(.int .i64 i3), (.string s4), (.int .i64 i5), (.slice p6 n7 n8)]), (.agg #[(.int .i64 i9), (.string s10), (.int .i64 i11), (.slice p12 n13 n14)])] = T6 p0 n1 n2 i3 s4 i5 p6 n7 n8 i9 s10 i11 p12 n13 n14 := by kernel_rfl


noncomputable def T7k0 : Ex → List Value → Pg :=
  fun e343 l344 => sw e343 .normal (asCons l344 fun v345 l346 => asBool v345 fun b347 => asNil l346 (.ret .ret [(.bool b347)])) (.fail)

noncomputable def T7k1 (a15 : Addr) (a18 : Addr) : Ex → List Value → Pg :=
  fun e190 l191 => sw e190 .normal (asCons l191 fun v192 l193 => asBool v192 fun b194 => asNil l193 (bif b194 then (.ret .ret [(.bool false)]) else (.join (.act (ldN 4 a15) fun v195 => asAgg v195 fun l196 => asCons l196 fun v197 l198 => asInt .i64 v197 fun i199 => asCons l198 fun v200 l201 => asStr v200 fun s202 => asCons l201 fun v203 l204 => asInt .i64 v203 fun i205 => asCons l204 fun v206 l207 => asSlice v206 fun p208 n209 n210 => asNil l207 (.call 26 [(.agg #[(.int .i64 i199), (.string s202), (.int .i64 i205), (.slice p208 n209 n210)])] fun v211 => asSlice v211 fun p212 n213 n214 => bif (decide (((n213 : Nat) : Int) > 0)) == false then (.act (ldN 4 a18) fun v215 => asAgg v215 fun l216 => asCons l216 fun v217 l218 => asInt .i64 v217 fun i219 => asCons l218 fun v220 l221 => asStr v220 fun s222 => asCons l221 fun v223 l224 => asInt .i64 v223 fun i225 => asCons l224 fun v226 l227 => asSlice v226 fun p228 n229 n230 => asNil l227 (.call 26 [(.agg #[(.int .i64 i219), (.string s222), (.int .i64 i225), (.slice p228 n229 n230)])] fun v231 => asSlice v231 fun p232 n233 n234 => bif (decide (((n233 : Nat) : Int) > 0)) == false then (.act (ldN 4 a15) fun v235 => asAgg v235 fun l236 => asCons l236 fun v237 l238 => asInt .i64 v237 fun i239 => asCons l238 fun v240 l241 => asStr v240 fun s242 => asCons l241 fun v243 l244 => asInt .i64 v243 fun i245 => asCons l244 fun v246 l247 => asSlice v246 fun p248 n249 n250 => asNil l247 (.get fun h252 => .call 20 [(.agg #[(.int .i64 i239), (.string s242), (.int .i64 i245), (.slice p248 n249 n250)])] fun v251 => asStr v251 fun s253 => .act (ldN 4 a18) fun v254 => grd (past (ldN 4 a18) v254 [h252]) (asAgg v254 fun l255 => asCons l255 fun v256 l257 => asInt .i64 v256 fun i258 => asCons l257 fun v259 l260 => asStr v259 fun s261 => asCons l260 fun v262 l263 => asInt .i64 v262 fun i264 => asCons l263 fun v265 l266 => asSlice v265 fun p267 n268 n269 => asNil l266 (.get fun h271 => .call 20 [(.agg #[(.int .i64 i258), (.string s261), (.int .i64 i264), (.slice p267 n268 n269)])] fun v270 => asStr v270 fun s272 => .act (ldN 4 a15) fun v273 => grd (past (ldN 4 a15) v273 [h271, h252]) (asAgg v273 fun l274 => asCons l274 fun v275 l276 => asInt .i64 v275 fun i277 => asCons l276 fun v278 l279 => asStr v278 fun s280 => asCons l279 fun v281 l282 => asInt .i64 v281 fun i283 => asCons l282 fun v284 l285 => asSlice v284 fun p286 n287 n288 => asNil l285 (.act (ldN 4 a18) fun v289 => grd (past (ldN 4 a18) v289 [h271, h252]) (asAgg v289 fun l290 => asCons l290 fun v291 l292 => asInt .i64 v291 fun i293 => asCons l292 fun v294 l295 => asStr v294 fun s296 => asCons l295 fun v297 l298 => asInt .i64 v297 fun i299 => asCons l298 fun v300 l301 => asSlice v300 fun p302 n303 n304 => asNil l301 (.call 22 [(.agg #[(.int .i64 i277), (.string s280), (.int .i64 i283), (.slice p286 n287 n288)]), (.agg #[(.int .i64 i293), (.string s296), (.int .i64 i299), (.slice p302 n303 n304)])] fun v305 => asBool v305 fun b306 => bif ((s253.toList == s272.toList) == b306) == false then (.act (ldN 4 a15) fun v307 => asAgg v307 fun l308 => asCons l308 fun v309 l310 => asInt .i64 v309 fun i311 => asCons l310 fun v312 l313 => asStr v312 fun s314 => asCons l313 fun v315 l316 => asInt .i64 v315 fun i317 => asCons l316 fun v318 l319 => asSlice v318 fun p320 n321 n322 => asNil l319 (.call 29 [(.agg #[(.int .i64 i311), (.string s314), (.int .i64 i317), (.slice p320 n321 n322)])] fun v323 => asBool v323 fun b324 => bif b324 == false then (.act (ldN 4 a18) fun v325 => asAgg v325 fun l326 => asCons l326 fun v327 l328 => asInt .i64 v327 fun i329 => asCons l328 fun v330 l331 => asStr v330 fun s332 => asCons l331 fun v333 l334 => asInt .i64 v333 fun i335 => asCons l334 fun v336 l337 => asSlice v336 fun p338 n339 n340 => asNil l337 (.call 29 [(.agg #[(.int .i64 i329), (.string s332), (.int .i64 i335), (.slice p338 n339 n340)])] fun v341 => asBool v341 fun b342 => .ret .normal [(.bool b342)])) else (.ret .normal [(.bool true)]))) else (.ret .normal [(.bool true)]))))))))) else (.ret .normal [(.bool true)]))) else (.ret .normal [(.bool true)]))) (T7k0)))) (.fail)

noncomputable def T7k2 (a15 : Addr) (i12 : Int) (a18 : Addr) : Ex → List Value → Pg :=
  fun e93 l94 => sw e93 .normal (asCons l94 fun v95 l96 => asBool v95 fun b97 => asNil l96 (bif b97 then (.ret .ret [(.bool true)]) else (.act (ldN 4 a15) fun v98 => asAgg v98 fun l99 => asCons l99 fun v100 l101 => asInt .i64 v100 fun i102 => asCons l101 fun v103 l104 => asStr v103 fun s105 => asCons l104 fun v106 l107 => asInt .i64 v106 fun i108 => asCons l107 fun v109 l110 => asSlice v109 fun p111 n112 n113 => asNil l110 (.call 28 [(.agg #[(.int .i64 i102), (.string s105), (.int .i64 i108), (.slice p111 n112 n113)]), (.int .i64 i12)] fun v114 => asAgg v114 fun l115 => asCons l115 fun v116 l117 => asInt .i64 v116 fun i118 => asCons l117 fun v119 l120 => asStr v119 fun s121 => asCons l120 fun v122 l123 => asInt .i64 v122 fun i124 => asCons l123 fun v125 l126 => asSlice v125 fun p127 n128 n129 => asNil l126 (.act (newC [(.int .i64 0), (.string (bs [])), (.int .i64 0), (.slice none 0 0)]) fun v130 => asPtr v130 fun p131 => asSome p131 fun a132 => .act (stC a132 [(.int .i64 i118), (.string s121), (.int .i64 i124), (.slice p127 n128 n129)]) fun v133 => asTuple v133 fun l134 => asNil l134 (.join (.act (ldN 4 a132) fun v135 => asAgg v135 fun l136 => asCons l136 fun v137 l138 => asInt .i64 v137 fun i139 => asCons l138 fun v140 l141 => asStr v140 fun s142 => asCons l141 fun v143 l144 => asInt .i64 v143 fun i145 => asCons l144 fun v146 l147 => asSlice v146 fun p148 n149 n150 => asNil l147 (.call 15 [(.agg #[(.int .i64 i139), (.string s142), (.int .i64 i145), (.slice p148 n149 n150)])] fun v151 => asBool v151 fun b152 => bif b152 == true then (.act (ldN 4 a132) fun v153 => asAgg v153 fun l154 => asCons l154 fun v155 l156 => asInt .i64 v155 fun i157 => asCons l156 fun v158 l159 => asStr v158 fun s160 => asCons l159 fun v161 l162 => asInt .i64 v161 fun i163 => asCons l162 fun v164 l165 => asSlice v164 fun p166 n167 n168 => asNil l165 (.get fun h170 => .call 20 [(.agg #[(.int .i64 i157), (.string s160), (.int .i64 i163), (.slice p166 n167 n168)])] fun v169 => asStr v169 fun s171 => .act (ldN 4 a15) fun v172 => grd (past (ldN 4 a15) v172 [h170]) (asAgg v172 fun l173 => asCons l173 fun v174 l175 => asInt .i64 v174 fun i176 => asCons l175 fun v177 l178 => asStr v177 fun s179 => asCons l178 fun v180 l181 => asInt .i64 v180 fun i182 => asCons l181 fun v183 l184 => asSlice v183 fun p185 n186 n187 => asNil l184 (.call 20 [(.agg #[(.int .i64 i176), (.string s179), (.int .i64 i182), (.slice p185 n186 n187)])] fun v188 => asStr v188 fun s189 => .ret .normal [(.bool (!(s171.toList == s189.toList)))])))) else (.ret .normal [(.bool false)]))) (T7k1 a15 a18))))))) (.fail)

/-- hindsight/hindsightlaw5.TyRenamed -/
noncomputable def T7 (i0 : Int) (s1 : ByteArray) (i2 : Int) (p3 : (Option Addr)) (n4 : Nat) (n5 : Nat) (i6 : Int) (s7 : ByteArray) (i8 : Int) (p9 : (Option Addr)) (n10 : Nat) (n11 : Nat) (i12 : Int) : Pg :=
  .act (newC [(.int .i64 i0), (.string s1), (.int .i64 i2), (.slice p3 n4 n5)]) fun v13 => asPtr v13 fun p14 => asSome p14 fun a15 => .act (newC [(.int .i64 i6), (.string s7), (.int .i64 i8), (.slice p9 n10 n11)]) fun v16 => asPtr v16 fun p17 => asSome p17 fun a18 => .call 9 [] fun v19 => asBool v19 fun b20 => bif (!b20) then (.ret .ret [(.bool false)]) else (.join (.act (ldN 4 a15) fun v21 => asAgg v21 fun l22 => asCons l22 fun v23 l24 => asInt .i64 v23 fun i25 => asCons l24 fun v26 l27 => asStr v26 fun s28 => asCons l27 fun v29 l30 => asInt .i64 v29 fun i31 => asCons l30 fun v32 l33 => asSlice v32 fun p34 n35 n36 => asNil l33 (.call 10 [(.agg #[(.int .i64 i25), (.string s28), (.int .i64 i31), (.slice p34 n35 n36)]), (.int .i64 64)] fun v37 => asBool v37 fun b38 => bif (!b38) == false then (.act (ldN 4 a18) fun v39 => asAgg v39 fun l40 => asCons l40 fun v41 l42 => asInt .i64 v41 fun i43 => asCons l42 fun v44 l45 => asStr v44 fun s46 => asCons l45 fun v47 l48 => asInt .i64 v47 fun i49 => asCons l48 fun v50 l51 => asSlice v50 fun p52 n53 n54 => asNil l51 (.call 10 [(.agg #[(.int .i64 i43), (.string s46), (.int .i64 i49), (.slice p52 n53 n54)]), (.int .i64 64)] fun v55 => asBool v55 fun b56 => bif (!b56) == false then (.act (ldN 4 a15) fun v57 => asAgg v57 fun l58 => asCons l58 fun v59 l60 => asInt .i64 v59 fun i61 => asCons l60 fun v62 l63 => asStr v62 fun s64 => asCons l63 fun v65 l66 => asInt .i64 v65 fun i67 => asCons l66 fun v68 l69 => asSlice v68 fun p70 n71 n72 => asNil l69 (.call 15 [(.agg #[(.int .i64 i61), (.string s64), (.int .i64 i67), (.slice p70 n71 n72)])] fun v73 => asBool v73 fun b74 => bif (!b74) == false then (.act (ldN 4 a18) fun v75 => asAgg v75 fun l76 => asCons l76 fun v77 l78 => asInt .i64 v77 fun i79 => asCons l78 fun v80 l81 => asStr v80 fun s82 => asCons l81 fun v83 l84 => asInt .i64 v83 fun i85 => asCons l84 fun v86 l87 => asSlice v86 fun p88 n89 n90 => asNil l87 (.call 15 [(.agg #[(.int .i64 i79), (.string s82), (.int .i64 i85), (.slice p88 n89 n90)])] fun v91 => asBool v91 fun b92 => .ret .normal [(.bool (((!b92) || (decide (i12 < 0))) || (decide (i12 > 500))))])) else (.ret .normal [(.bool true)]))) else (.ret .normal [(.bool true)]))) else (.ret .normal [(.bool true)]))) (T7k2 a15 i12 a18))
theorem T7_eq (i0 : Int) (s1 : ByteArray) (i2 : Int) (p3 : (Option Addr)) (n4 : Nat) (n5 : Nat) (i6 : Int) (s7 : ByteArray) (i8 : Int) (p9 : (Option Addr)) (n10 : Nat) (n11 : Nat) (i12 : Int) : progOf PROG false 7 [(.agg #[(.int .i64 i0), (.string s1), (.int .i64 i2), (.slice p3 n4 n5)]), (.agg #[(.int .i64 i6), (.string s7), (.int .i64 i8), (.slice p9 n10 n11)]), (.int .i64 i12)] = T7 i0 s1 i2 p3 n4 n5 i6 s7 i8 p9 n10 n11 i12 := by kernel_rfl


noncomputable def T9k0 : Ex → List Value → Pg :=
  fun e204 l205 => sw e204 .normal (asCons l205 fun v206 l207 => asBool v206 fun b208 => asNil l207 (.ret .ret [(.bool b208)])) (.fail)

/-- hindsight/hindsightlaw5.awake -/
noncomputable def T9 : Pg :=
  .call 11 [] fun v0 => asPtr v0 fun p1 => bif (Option.isNone p1) then (.ret .ret [(.bool false)]) else (.call 32 [(.int .i64 0)] fun v2 => asAgg v2 fun l3 => asCons l3 fun v4 l5 => asInt .i64 v4 fun i6 => asCons l5 fun v7 l8 => asStr v7 fun s9 => asCons l8 fun v10 l11 => asInt .i64 v10 fun i12 => asCons l11 fun v13 l14 => asSlice v13 fun p15 n16 n17 => asNil l14 (.call 31 [(.agg #[(.int .i64 i6), (.string s9), (.int .i64 i12), (.slice p15 n16 n17)]), (.agg #[(.int .i64 1), (.string (bs [])), (.int .i64 0), (.slice none 0 0)])] fun v18 => asAgg v18 fun l19 => asCons l19 fun v20 l21 => asInt .i64 v20 fun i22 => asCons l21 fun v23 l24 => asStr v23 fun s25 => asCons l24 fun v26 l27 => asInt .i64 v26 fun i28 => asCons l27 fun v29 l30 => asSlice v29 fun p31 n32 n33 => asNil l30 (.call 32 [(.int .i64 1)] fun v34 => asAgg v34 fun l35 => asCons l35 fun v36 l37 => asInt .i64 v36 fun i38 => asCons l37 fun v39 l40 => asStr v39 fun s41 => asCons l40 fun v42 l43 => asInt .i64 v42 fun i44 => asCons l43 fun v45 l46 => asSlice v45 fun p47 n48 n49 => asNil l46 (.call 31 [(.agg #[(.int .i64 2), (.string (bs [])), (.int .i64 0), (.slice none 0 0)]), (.agg #[(.int .i64 i38), (.string s41), (.int .i64 i44), (.slice p47 n48 n49)])] fun v50 => asAgg v50 fun l51 => asCons l51 fun v52 l53 => asInt .i64 v52 fun i54 => asCons l53 fun v55 l56 => asStr v55 fun s57 => asCons l56 fun v58 l59 => asInt .i64 v58 fun i60 => asCons l59 fun v61 l62 => asSlice v61 fun p63 n64 n65 => asNil l62 (.call 12 [(.pointer p1), (.agg #[(.int .i64 i22), (.string s25), (.int .i64 i28), (.slice p31 n32 n33)]), (.agg #[(.int .i64 i54), (.string s57), (.int .i64 i60), (.slice p63 n64 n65)])] fun v66 => asInt .i64 v66 fun i67 => .join (bif (i67 == 0) == true then (.call 32 [(.int .i64 0)] fun v68 => asAgg v68 fun l69 => asCons l69 fun v70 l71 => asInt .i64 v70 fun i72 => asCons l71 fun v73 l74 => asStr v73 fun s75 => asCons l74 fun v76 l77 => asInt .i64 v76 fun i78 => asCons l77 fun v79 l80 => asSlice v79 fun p81 n82 n83 => asNil l80 (.call 17 [(.pointer p1), (.agg #[(.int .i64 i72), (.string s75), (.int .i64 i78), (.slice p81 n82 n83)])] fun v84 => asAgg v84 fun l85 => asCons l85 fun v86 l87 => asInt .i64 v86 fun i88 => asCons l87 fun v89 l90 => asStr v89 fun s91 => asCons l90 fun v92 l93 => asInt .i64 v92 fun i94 => asCons l93 fun v95 l96 => asSlice v95 fun p97 n98 n99 => asNil l96 (.call 20 [(.agg #[(.int .i64 i88), (.string s91), (.int .i64 i94), (.slice p97 n98 n99)])] fun v100 => asStr v100 fun s101 => bif (s101.toList == (bs [98, 111, 111, 108]).toList) == true then (.call 32 [(.int .i64 1)] fun v102 => asAgg v102 fun l103 => asCons l103 fun v104 l105 => asInt .i64 v104 fun i106 => asCons l105 fun v107 l108 => asStr v107 fun s109 => asCons l108 fun v110 l111 => asInt .i64 v110 fun i112 => asCons l111 fun v113 l114 => asSlice v113 fun p115 n116 n117 => asNil l114 (.call 17 [(.pointer p1), (.agg #[(.int .i64 i106), (.string s109), (.int .i64 i112), (.slice p115 n116 n117)])] fun v118 => asAgg v118 fun l119 => asCons l119 fun v120 l121 => asInt .i64 v120 fun i122 => asCons l121 fun v123 l124 => asStr v123 fun s125 => asCons l124 fun v126 l127 => asInt .i64 v126 fun i128 => asCons l127 fun v129 l130 => asSlice v129 fun p131 n132 n133 => asNil l130 (.call 20 [(.agg #[(.int .i64 i122), (.string s125), (.int .i64 i128), (.slice p131 n132 n133)])] fun v134 => asStr v134 fun s135 => bif (s135.toList == (bs [105, 110, 116]).toList) == true then (.call 32 [(.int .i64 0)] fun v136 => asAgg v136 fun l137 => asCons l137 fun v138 l139 => asInt .i64 v138 fun i140 => asCons l139 fun v141 l142 => asStr v141 fun s143 => asCons l142 fun v144 l145 => asInt .i64 v144 fun i146 => asCons l145 fun v147 l148 => asSlice v147 fun p149 n150 n151 => asNil l148 (.call 15 [(.agg #[(.int .i64 i140), (.string s143), (.int .i64 i146), (.slice p149 n150 n151)])] fun v152 => asBool v152 fun b153 => bif b153 == true then (.call 32 [(.int .i64 7)] fun v154 => asAgg v154 fun l155 => asCons l155 fun v156 l157 => asInt .i64 v156 fun i158 => asCons l157 fun v159 l160 => asStr v159 fun s161 => asCons l160 fun v162 l163 => asInt .i64 v162 fun i164 => asCons l163 fun v165 l166 => asSlice v165 fun p167 n168 n169 => asNil l166 (.call 32 [(.int .i64 3)] fun v170 => asAgg v170 fun l171 => asCons l171 fun v172 l173 => asInt .i64 v172 fun i174 => asCons l173 fun v175 l176 => asStr v175 fun s177 => asCons l176 fun v178 l179 => asInt .i64 v178 fun i180 => asCons l179 fun v181 l182 => asSlice v181 fun p183 n184 n185 => asNil l182 (.call 31 [(.agg #[(.int .i64 i158), (.string s161), (.int .i64 i164), (.slice p167 n168 n169)]), (.agg #[(.int .i64 i174), (.string s177), (.int .i64 i180), (.slice p183 n184 n185)])] fun v186 => asAgg v186 fun l187 => asCons l187 fun v188 l189 => asInt .i64 v188 fun i190 => asCons l189 fun v191 l192 => asStr v191 fun s193 => asCons l192 fun v194 l195 => asInt .i64 v194 fun i196 => asCons l195 fun v197 l198 => asSlice v197 fun p199 n200 n201 => asNil l198 (.call 20 [(.agg #[(.int .i64 i190), (.string s193), (.int .i64 i196), (.slice p199 n200 n201)])] fun v202 => asStr v202 fun s203 => .ret .normal [(.bool (s203.toList == (bs [40, 39, 97, 32, 45, 62, 32, 39, 98, 41]).toList))])))) else (.ret .normal [(.bool false)]))) else (.ret .normal [(.bool false)])))) else (.ret .normal [(.bool false)])))) else (.ret .normal [(.bool false)])) (T9k0))))))
theorem T9_eq : progOf PROG false 9 [] = T9 := by kernel_rfl


noncomputable def T10k0 (i24 : Int) : Ex → List Value → Pg :=
  fun e55 l56 => sw e55 .ret (asCons l56 fun v57 l58 => asBool v57 fun b59 => asNil l58 (.ret .ret [(.int .i64 i24), (.bool b59)])) (sw e55 .normal (asCons l56 fun v60 l61 => asBool v60 fun b62 => asNil l61 (.ret .normal [(.int .i64 (wi64 (i24 + 1))), (.bool b62)])) (.fail))

noncomputable def T10b0 (a9 : Addr) (i6 : Int) : List Value → Pg :=
  fun l21 => asCons l21 fun v22 l23 => asInt .i64 v22 fun i24 => asCons l23 fun v25 l26 => asBool v25 fun b27 => asNil l26 (.act (ld1 (aadd a9 3)) fun v28 => asSlice v28 fun p29 n30 n31 => bif (decide (i24 < ((n30 : Nat) : Int))) then (.join (.act (ld1 (aadd a9 3)) fun v32 => asSlice v32 fun p33 n34 n35 => asSome p33 fun a36 => grd ((decide (0 ≤ i24)) && (decide (i24 < ((n34 : Nat) : Int)))) (.act (ldN 4 (aadd a36 ((Int.toNat i24) * 4))) fun v37 => asAgg v37 fun l38 => asCons l38 fun v39 l40 => asInt .i64 v39 fun i41 => asCons l40 fun v42 l43 => asStr v42 fun s44 => asCons l43 fun v45 l46 => asInt .i64 v45 fun i47 => asCons l46 fun v48 l49 => asSlice v48 fun p50 n51 n52 => asNil l49 (.call 10 [(.agg #[(.int .i64 i41), (.string s44), (.int .i64 i47), (.slice p50 n51 n52)]), (.int .i64 (wi64 (Int.tdiv i6 2)))] fun v53 => asBool v53 fun b54 => bif (!b54) then (.ret .ret [(.bool false)]) else (.ret .normal [(.bool b27)])))) (T10k0 i24)) else (.ret (.exit 0) [(.int .i64 i24), (.bool b27)]))

noncomputable def T10k1 : Ex → List Value → Pg :=
  fun e63 l64 => sw e63 (.exit 0) (asCons l64 fun v65 l66 => asInt .i64 v65 fun i67 => asCons l66 fun v68 l69 => asBool v68 fun b70 => asNil l69 (.ret .ret [(.bool true)])) (sw e63 .ret (asCons l64 fun v71 l72 => asInt .i64 v71 fun i73 => asCons l72 fun v74 l75 => asBool v74 fun b76 => asNil l75 (.ret .ret [(.bool b76)])) (.fail))

noncomputable def T10k2 (a9 : Addr) (i6 : Int) : Ex → List Value → Pg :=
  fun e16 l17 => sw e16 .normal (asCons l17 fun v18 l19 => asBool v18 fun b20 => asNil l19 (bif b20 then (.ret .ret [(.bool false)]) else (.loop [(.int .i64 0), (.bool false)] (T10b0 a9 i6) (T10k1)))) (.fail)

/-- hindsight/hindsightlaw5.small -/
noncomputable def T10 (i0 : Int) (s1 : ByteArray) (i2 : Int) (p3 : (Option Addr)) (n4 : Nat) (n5 : Nat) (i6 : Int) : Pg :=
  .act (newC [(.int .i64 i0), (.string s1), (.int .i64 i2), (.slice p3 n4 n5)]) fun v7 => asPtr v7 fun p8 => asSome p8 fun a9 => .join (bif (decide (i6 ≤ 0)) == false then (.act (ld1 (aadd a9 3)) fun v10 => asSlice v10 fun p11 n12 n13 => bif (decide (((n12 : Nat) : Int) > 4)) == false then (.act (ld1 (aadd a9 1)) fun v14 => asStr v14 fun s15 => .ret .normal [(.bool (decide (((s15.size : Nat) : Int) > 60)))]) else (.ret .normal [(.bool true)])) else (.ret .normal [(.bool true)])) (T10k2 a9 i6)
theorem T10_eq (i0 : Int) (s1 : ByteArray) (i2 : Int) (p3 : (Option Addr)) (n4 : Nat) (n5 : Nat) (i6 : Int) : progOf PROG false 10 [(.agg #[(.int .i64 i0), (.string s1), (.int .i64 i2), (.slice p3 n4 n5)]), (.int .i64 i6)] = T10 i0 s1 i2 p3 n4 n5 i6 := by kernel_rfl


/-- hindsight/ty.New -/
noncomputable def T11 : Pg :=
  .act makeMapAct fun v0 => asMap v0 fun m1 => .act (newC [(.int .i64 0), (.map m1)]) fun v2 => asPtr v2 fun p3 => asSome p3 fun a4 => .ret .ret [(.pointer (some a4))]
theorem T11_eq : progOf PROG false 11 [] = T11 := by kernel_rfl


noncomputable def T14k0 (i26 : Int) : Ex → List Value → Pg :=
  fun e84 l85 => sw e84 .normal (asNil l85 (.ret .normal [(.int .i64 (wi64 (i26 + 1)))])) (.fail)

noncomputable def T14b0 (a8 : Addr) (a20 : Addr) : List Value → Pg :=
  fun l23 => asCons l23 fun v24 l25 => asInt .i64 v24 fun i26 => asNil l25 (.act (ld1 (aadd a8 3)) fun v27 => asSlice v27 fun p28 n29 n30 => bif (decide (i26 < ((n29 : Nat) : Int))) then (.join (.act (ld1 (aadd a20 3)) fun v31 => asSlice v31 fun p32 n33 n34 => .act (ld1 (aadd a8 3)) fun v35 => asSlice v35 fun p36 n37 n38 => asSome p36 fun a39 => grd ((decide (0 ≤ i26)) && (decide (i26 < ((n37 : Nat) : Int)))) (.act (ldN 4 (aadd a39 ((Int.toNat i26) * 4))) fun v40 => asAgg v40 fun l41 => asCons l41 fun v42 l43 => asInt .i64 v42 fun i44 => asCons l43 fun v45 l46 => asStr v45 fun s47 => asCons l46 fun v48 l49 => asInt .i64 v48 fun i50 => asCons l49 fun v51 l52 => asSlice v51 fun p53 n54 n55 => asNil l52 (.call 14 [(.agg #[(.int .i64 i44), (.string s47), (.int .i64 i50), (.slice p53 n54 n55)])] fun v56 => asAgg v56 fun l57 => asCons l57 fun v58 l59 => asInt .i64 v58 fun i60 => asCons l59 fun v61 l62 => asStr v61 fun s63 => asCons l62 fun v64 l65 => asInt .i64 v64 fun i66 => asCons l65 fun v67 l68 => asSlice v67 fun p69 n70 n71 => asNil l68 (.get fun h83 => grd (chks [((ld1 (aadd a20 3)), v31)] h83) (.act (bdSl 4 1 [(.int .i64 i60), (.string s63), (.int .i64 i66), (.slice p69 n70 n71)]) fun v72 => asSlice v72 fun p73 n74 n75 => .get fun h82 => grd (chks [((ld1 (aadd a20 3)), v31)] h82) (.act (apS 4 56 p32 n33 n34 p73 n74 n75) fun v76 => asSlice v76 fun p77 n78 n79 => .act (stC (aadd a20 3) [(.slice p77 n78 n79)]) fun v80 => asTuple v80 fun l81 => asNil l81 (.ret .normal []))))))) (T14k0 i26)) else (.ret (.exit 0) [(.int .i64 i26)]))

noncomputable def T14k1 (a20 : Addr) (a11 : Addr) : Ex → List Value → Pg :=
  fun e86 l87 => sw e86 (.exit 0) (asCons l87 fun v88 l89 => asInt .i64 v88 fun i90 => asNil l89 (.act (ldN 4 a20) fun v91 => asAgg v91 fun l92 => asCons l92 fun v93 l94 => asInt .i64 v93 fun i95 => asCons l94 fun v96 l97 => asStr v96 fun s98 => asCons l97 fun v99 l100 => asInt .i64 v99 fun i101 => asCons l100 fun v102 l103 => asSlice v102 fun p104 n105 n106 => asNil l103 (.act (stC a11 [(.int .i64 i95), (.string s98), (.int .i64 i101), (.slice p104 n105 n106)]) fun v107 => asTuple v107 fun l108 => asNil l108 (.act (ldN 4 a11) fun v109 => .ret .ret [v109])))) (.fail)

/-- hindsight/hindsightlaw5.ty1 -/
noncomputable def T14 (i0 : Int) (s1 : ByteArray) (i2 : Int) (p3 : (Option Addr)) (n4 : Nat) (n5 : Nat) : Pg :=
  .act (newC [(.int .i64 i0), (.string s1), (.int .i64 i2), (.slice p3 n4 n5)]) fun v6 => asPtr v6 fun p7 => asSome p7 fun a8 => .act (newC [(.int .i64 0), (.string (bs [])), (.int .i64 0), (.slice none 0 0)]) fun v9 => asPtr v9 fun p10 => asSome p10 fun a11 => .act (ld1 (aadd a8 0)) fun v12 => asInt .i64 v12 fun i13 => .act (ld1 (aadd a8 1)) fun v14 => asStr v14 fun s15 => .act (ld1 (aadd a8 2)) fun v16 => asInt .i64 v16 fun i17 => .act (newC [(.int .i64 0), (.string (bs [])), (.int .i64 0), (.slice none 0 0)]) fun v18 => asPtr v18 fun p19 => asSome p19 fun a20 => .act (stC a20 [(.int .i64 i13), (.string s15), (.int .i64 i17), (.slice none 0 0)]) fun v21 => asTuple v21 fun l22 => asNil l22 (.loop [(.int .i64 0)] (T14b0 a8 a20) (T14k1 a20 a11))
theorem T14_eq (i0 : Int) (s1 : ByteArray) (i2 : Int) (p3 : (Option Addr)) (n4 : Nat) (n5 : Nat) : progOf PROG false 14 [(.agg #[(.int .i64 i0), (.string s1), (.int .i64 i2), (.slice p3 n4 n5)])] = T14 i0 s1 i2 p3 n4 n5 := by kernel_rfl


noncomputable def T15k0 : Ex → List Value → Pg :=
  fun e45 l46 => sw e45 .normal (asCons l46 fun v47 l48 => asBool v47 fun b49 => asNil l48 (.ret .ret [(.bool b49)])) (.fail)

/-- hindsight/ty.Good -/
noncomputable def T15 (i0 : Int) (s1 : ByteArray) (i2 : Int) (p3 : (Option Addr)) (n4 : Nat) (n5 : Nat) : Pg :=
  .act (newC [(.int .i64 i0), (.string s1), (.int .i64 i2), (.slice p3 n4 n5)]) fun v6 => asPtr v6 fun p7 => asSome p7 fun a8 => .join (.act (ldN 4 a8) fun v9 => asAgg v9 fun l10 => asCons l10 fun v11 l12 => asInt .i64 v11 fun i13 => asCons l12 fun v14 l15 => asStr v14 fun s16 => asCons l15 fun v17 l18 => asInt .i64 v17 fun i19 => asCons l18 fun v20 l21 => asSlice v20 fun p22 n23 n24 => asNil l21 (.call 19 [(.agg #[(.int .i64 i13), (.string s16), (.int .i64 i19), (.slice p22 n23 n24)])] fun v25 => asInt .i64 v25 fun i26 => bif (decide (i26 ≤ 500)) == true then (.act (ldN 4 a8) fun v27 => asAgg v27 fun l28 => asCons l28 fun v29 l30 => asInt .i64 v29 fun i31 => asCons l30 fun v32 l33 => asStr v32 fun s34 => asCons l33 fun v35 l36 => asInt .i64 v35 fun i37 => asCons l36 fun v38 l39 => asSlice v38 fun p40 n41 n42 => asNil l39 (.call 38 [(.agg #[(.int .i64 i31), (.string s34), (.int .i64 i37), (.slice p40 n41 n42)])] fun v43 => asBool v43 fun b44 => .ret .normal [(.bool b44)])) else (.ret .normal [(.bool false)]))) (T15k0)
theorem T15_eq (i0 : Int) (s1 : ByteArray) (i2 : Int) (p3 : (Option Addr)) (n4 : Nat) (n5 : Nat) : progOf PROG false 15 [(.agg #[(.int .i64 i0), (.string s1), (.int .i64 i2), (.slice p3 n4 n5)])] = T15 i0 s1 i2 p3 n4 n5 := by kernel_rfl


noncomputable def T16k0 (i46 : Int) : Ex → List Value → Pg :=
  fun e98 l99 => sw e98 .ret (asCons l99 fun v100 l101 => asBool v100 fun b102 => asNil l101 (.ret .ret [(.int .i64 i46), (.bool b102)])) (sw e98 .normal (asCons l99 fun v103 l104 => asBool v103 fun b105 => asNil l104 (.ret .normal [(.int .i64 (wi64 (i46 + 1))), (.bool b105)])) (.fail))

noncomputable def T16b0 (a14 : Addr) (a17 : Addr) : List Value → Pg :=
  fun l43 => asCons l43 fun v44 l45 => asInt .i64 v44 fun i46 => asCons l45 fun v47 l48 => asBool v47 fun b49 => asNil l48 (.act (ld1 (aadd a14 3)) fun v50 => asSlice v50 fun p51 n52 n53 => bif (decide (i46 < ((n52 : Nat) : Int))) then (.join (.act (ld1 (aadd a14 3)) fun v54 => asSlice v54 fun p55 n56 n57 => asSome p55 fun a58 => grd ((decide (0 ≤ i46)) && (decide (i46 < ((n56 : Nat) : Int)))) (.act (ldN 4 (aadd a58 ((Int.toNat i46) * 4))) fun v59 => asAgg v59 fun l60 => asCons l60 fun v61 l62 => asInt .i64 v61 fun i63 => asCons l62 fun v64 l65 => asStr v64 fun s66 => asCons l65 fun v67 l68 => asInt .i64 v67 fun i69 => asCons l68 fun v70 l71 => asSlice v70 fun p72 n73 n74 => asNil l71 (.act (ld1 (aadd a17 3)) fun v75 => asSlice v75 fun p76 n77 n78 => asSome p76 fun a79 => grd ((decide (0 ≤ i46)) && (decide (i46 < ((n77 : Nat) : Int)))) (.act (ldN 4 (aadd a79 ((Int.toNat i46) * 4))) fun v80 => asAgg v80 fun l81 => asCons l81 fun v82 l83 => asInt .i64 v82 fun i84 => asCons l83 fun v85 l86 => asStr v85 fun s87 => asCons l86 fun v88 l89 => asInt .i64 v88 fun i90 => asCons l89 fun v91 l92 => asSlice v91 fun p93 n94 n95 => asNil l92 (.call 16 [(.agg #[(.int .i64 i63), (.string s66), (.int .i64 i69), (.slice p72 n73 n74)]), (.agg #[(.int .i64 i84), (.string s87), (.int .i64 i90), (.slice p93 n94 n95)])] fun v96 => asBool v96 fun b97 => bif (!b97) then (.ret .ret [(.bool false)]) else (.ret .normal [(.bool b49)])))))) (T16k0 i46)) else (.ret (.exit 0) [(.int .i64 i46), (.bool b49)]))

noncomputable def T16k1 : Ex → List Value → Pg :=
  fun e106 l107 => sw e106 (.exit 0) (asCons l107 fun v108 l109 => asInt .i64 v108 fun i110 => asCons l109 fun v111 l112 => asBool v111 fun b113 => asNil l112 (.ret .ret [(.bool true)])) (sw e106 .ret (asCons l107 fun v114 l115 => asInt .i64 v114 fun i116 => asCons l115 fun v117 l118 => asBool v117 fun b119 => asNil l118 (.ret .ret [(.bool b119)])) (.fail))

noncomputable def T16k2 (a14 : Addr) (a17 : Addr) : Ex → List Value → Pg :=
  fun e38 l39 => sw e38 .normal (asCons l39 fun v40 l41 => asBool v40 fun b42 => asNil l41 (bif b42 then (.ret .ret [(.bool false)]) else (.loop [(.int .i64 0), (.bool false)] (T16b0 a14 a17) (T16k1)))) (.fail)

/-- hindsight/hindsightref5.Same -/
noncomputable def T16 (i0 : Int) (s1 : ByteArray) (i2 : Int) (p3 : (Option Addr)) (n4 : Nat) (n5 : Nat) (i6 : Int) (s7 : ByteArray) (i8 : Int) (p9 : (Option Addr)) (n10 : Nat) (n11 : Nat) : Pg :=
  .act (newC [(.int .i64 i0), (.string s1), (.int .i64 i2), (.slice p3 n4 n5)]) fun v12 => asPtr v12 fun p13 => asSome p13 fun a14 => .act (newC [(.int .i64 i6), (.string s7), (.int .i64 i8), (.slice p9 n10 n11)]) fun v15 => asPtr v15 fun p16 => asSome p16 fun a17 => .join (.act (ld1 (aadd a14 0)) fun v18 => asInt .i64 v18 fun i19 => .act (ld1 (aadd a17 0)) fun v20 => asInt .i64 v20 fun i21 => bif (i19 != i21) == false then (.act (ld1 (aadd a14 1)) fun v22 => asStr v22 fun s23 => .act (ld1 (aadd a17 1)) fun v24 => asStr v24 fun s25 => bif (!(s23.toList == s25.toList)) == false then (.act (ld1 (aadd a14 2)) fun v26 => asInt .i64 v26 fun i27 => .act (ld1 (aadd a17 2)) fun v28 => asInt .i64 v28 fun i29 => bif (i27 != i29) == false then (.act (ld1 (aadd a14 3)) fun v30 => asSlice v30 fun p31 n32 n33 => .act (ld1 (aadd a17 3)) fun v34 => asSlice v34 fun p35 n36 n37 => .ret .normal [(.bool (((n32 : Nat) : Int) != ((n36 : Nat) : Int)))]) else (.ret .normal [(.bool true)])) else (.ret .normal [(.bool true)])) else (.ret .normal [(.bool true)])) (T16k2 a14 a17)
theorem T16_eq (i0 : Int) (s1 : ByteArray) (i2 : Int) (p3 : (Option Addr)) (n4 : Nat) (n5 : Nat) (i6 : Int) (s7 : ByteArray) (i8 : Int) (p9 : (Option Addr)) (n10 : Nat) (n11 : Nat) : progOf PROG false 16 [(.agg #[(.int .i64 i0), (.string s1), (.int .i64 i2), (.slice p3 n4 n5)]), (.agg #[(.int .i64 i6), (.string s7), (.int .i64 i8), (.slice p9 n10 n11)])] = T16 i0 s1 i2 p3 n4 n5 i6 s7 i8 p9 n10 n11 := by kernel_rfl


/-- (*hindsight/ty.Sub).Apply -/
noncomputable def T17 (p0 : (Option Addr)) (i1 : Int) (s2 : ByteArray) (i3 : Int) (p4 : (Option Addr)) (n5 : Nat) (n6 : Nat) : Pg :=
  .act (newC [(.int .i64 i1), (.string s2), (.int .i64 i3), (.slice p4 n5 n6)]) fun v7 => asPtr v7 fun p8 => asSome p8 fun a9 => .act (newC [(.int .i64 0), (.string (bs [])), (.int .i64 0), (.slice none 0 0)]) fun v10 => asPtr v10 fun p11 => asSome p11 fun a12 => .act (ldN 4 a9) fun v13 => asAgg v13 fun l14 => asCons l14 fun v15 l16 => asInt .i64 v15 fun i17 => asCons l16 fun v18 l19 => asStr v18 fun s20 => asCons l19 fun v21 l22 => asInt .i64 v21 fun i23 => asCons l22 fun v24 l25 => asSlice v24 fun p26 n27 n28 => asNil l25 (.call 15 [(.agg #[(.int .i64 i17), (.string s20), (.int .i64 i23), (.slice p26 n27 n28)])] fun v29 => asBool v29 fun b30 => bif (!b30) then (.act (ldN 4 a9) fun v31 => asAgg v31 fun l32 => asCons l32 fun v33 l34 => asInt .i64 v33 fun i35 => asCons l34 fun v36 l37 => asStr v36 fun s38 => asCons l37 fun v39 l40 => asInt .i64 v39 fun i41 => asCons l40 fun v42 l43 => asSlice v42 fun p44 n45 n46 => asNil l43 (.act (stC a12 [(.int .i64 i35), (.string s38), (.int .i64 i41), (.slice p44 n45 n46)]) fun v47 => asTuple v47 fun l48 => asNil l48 (.act (ldN 4 a12) fun v49 => .ret .ret [v49]))) else (.act (ldN 4 a9) fun v50 => asAgg v50 fun l51 => asCons l51 fun v52 l53 => asInt .i64 v52 fun i54 => asCons l53 fun v55 l56 => asStr v55 fun s57 => asCons l56 fun v58 l59 => asInt .i64 v58 fun i60 => asCons l59 fun v61 l62 => asSlice v61 fun p63 n64 n65 => asNil l62 (.call 39 [(.pointer p0), (.agg #[(.int .i64 i54), (.string s57), (.int .i64 i60), (.slice p63 n64 n65)])] fun v66 => asAgg v66 fun l67 => asCons l67 fun v68 l69 => asInt .i64 v68 fun i70 => asCons l69 fun v71 l72 => asStr v71 fun s73 => asCons l72 fun v74 l75 => asInt .i64 v74 fun i76 => asCons l75 fun v77 l78 => asSlice v77 fun p79 n80 n81 => asNil l78 (.act (stC a12 [(.int .i64 i70), (.string s73), (.int .i64 i76), (.slice p79 n80 n81)]) fun v82 => asTuple v82 fun l83 => asNil l83 (.act (ldN 4 a12) fun v84 => .ret .ret [v84])))))
theorem T17_eq (p0 : (Option Addr)) (i1 : Int) (s2 : ByteArray) (i3 : Int) (p4 : (Option Addr)) (n5 : Nat) (n6 : Nat) : progOf PROG false 17 [(.pointer p0), (.agg #[(.int .i64 i1), (.string s2), (.int .i64 i3), (.slice p4 n5 n6)])] = T17 p0 i1 s2 i3 p4 n5 n6 := by kernel_rfl


/-- hindsight/ty.Size -/
noncomputable def T19 (i0 : Int) (s1 : ByteArray) (i2 : Int) (p3 : (Option Addr)) (n4 : Nat) (n5 : Nat) : Pg :=
  .act (newC [(.int .i64 i0), (.string s1), (.int .i64 i2), (.slice p3 n4 n5)]) fun v6 => asPtr v6 fun p7 => asSome p7 fun a8 => .act (ldN 4 a8) fun v9 => asAgg v9 fun l10 => asCons l10 fun v11 l12 => asInt .i64 v11 fun i13 => asCons l12 fun v14 l15 => asStr v14 fun s16 => asCons l15 fun v17 l18 => asInt .i64 v17 fun i19 => asCons l18 fun v20 l21 => asSlice v20 fun p22 n23 n24 => asNil l21 (.call 41 [(.agg #[(.int .i64 i13), (.string s16), (.int .i64 i19), (.slice p22 n23 n24)]), (.int .i64 0)] fun v25 => asInt .i64 v25 fun i26 => .ret .ret [(.int .i64 i26)])
theorem T19_eq (i0 : Int) (s1 : ByteArray) (i2 : Int) (p3 : (Option Addr)) (n4 : Nat) (n5 : Nat) : progOf PROG false 19 [(.agg #[(.int .i64 i0), (.string s1), (.int .i64 i2), (.slice p3 n4 n5)])] = T19 i0 s1 i2 p3 n4 n5 := by kernel_rfl


noncomputable def T20k0 (i34 : Int) : Ex → List Value → Pg :=
  fun e42 l43 => sw e42 .normal (asNil l43 (.ret .normal [(.int .i64 (wi64 (i34 + 1)))])) (.fail)

noncomputable def T20b0 (n29 : Nat) (p28 : (Option Addr)) (m10 : (Option Nat)) : List Value → Pg :=
  fun l31 => asCons l31 fun v32 l33 => asInt .i64 v32 fun i34 => asNil l33 (bif (decide (i34 < ((n29 : Nat) : Int))) then (.join (asSome p28 fun a35 => grd ((decide (0 ≤ i34)) && (decide (i34 < ((n29 : Nat) : Int)))) (.act (ld1 (aadd a35 ((Int.toNat i34) * 1))) fun v36 => asInt .i64 v36 fun i37 => .call 42 [(.int .i64 i34)] fun v38 => asStr v38 fun s39 => .act (mup (.int .i64) m10 (.int .i64 i37) (.string s39)) fun v40 => asTuple v40 fun l41 => asNil l41 (.ret .normal []))) (T20k0 i34)) else (.ret (.exit 0) [(.int .i64 i34)]))

noncomputable def T20k1 (a8 : Addr) (m10 : (Option Nat)) : Ex → List Value → Pg :=
  fun e44 l45 => sw e44 (.exit 0) (asCons l45 fun v46 l47 => asInt .i64 v46 fun i48 => asNil l47 (.act (ldN 4 a8) fun v49 => asAgg v49 fun l50 => asCons l50 fun v51 l52 => asInt .i64 v51 fun i53 => asCons l52 fun v54 l55 => asStr v54 fun s56 => asCons l55 fun v57 l58 => asInt .i64 v57 fun i59 => asCons l58 fun v60 l61 => asSlice v60 fun p62 n63 n64 => asNil l61 (.call 43 [(.agg #[(.int .i64 i53), (.string s56), (.int .i64 i59), (.slice p62 n63 n64)]), (.map m10)] fun v65 => asStr v65 fun s66 => .ret .ret [(.string s66)]))) (.fail)

/-- hindsight/ty.Show -/
noncomputable def T20 (i0 : Int) (s1 : ByteArray) (i2 : Int) (p3 : (Option Addr)) (n4 : Nat) (n5 : Nat) : Pg :=
  .act (newC [(.int .i64 i0), (.string s1), (.int .i64 i2), (.slice p3 n4 n5)]) fun v6 => asPtr v6 fun p7 => asSome p7 fun a8 => .act makeMapAct fun v9 => asMap v9 fun m10 => .act (ldN 4 a8) fun v11 => asAgg v11 fun l12 => asCons l12 fun v13 l14 => asInt .i64 v13 fun i15 => asCons l14 fun v16 l17 => asStr v16 fun s18 => asCons l17 fun v19 l20 => asInt .i64 v19 fun i21 => asCons l20 fun v22 l23 => asSlice v22 fun p24 n25 n26 => asNil l23 (.call 26 [(.agg #[(.int .i64 i15), (.string s18), (.int .i64 i21), (.slice p24 n25 n26)])] fun v27 => asSlice v27 fun p28 n29 n30 => .loop [(.int .i64 0)] (T20b0 n29 p28 m10) (T20k1 a8 m10))
theorem T20_eq (i0 : Int) (s1 : ByteArray) (i2 : Int) (p3 : (Option Addr)) (n4 : Nat) (n5 : Nat) : progOf PROG false 20 [(.agg #[(.int .i64 i0), (.string s1), (.int .i64 i2), (.slice p3 n4 n5)])] = T20 i0 s1 i2 p3 n4 n5 := by kernel_rfl


noncomputable def T21k0 : Ex → List Value → Pg :=
  fun e45 l46 => sw e45 .normal (asCons l46 fun v47 l48 => asBool v47 fun b49 => asNil l48 (.ret .ret [(.bool b49)])) (.fail)

/-- hindsight/hindsightref5.Good -/
noncomputable def T21 (i0 : Int) (s1 : ByteArray) (i2 : Int) (p3 : (Option Addr)) (n4 : Nat) (n5 : Nat) : Pg :=
  .act (newC [(.int .i64 i0), (.string s1), (.int .i64 i2), (.slice p3 n4 n5)]) fun v6 => asPtr v6 fun p7 => asSome p7 fun a8 => .join (.act (ldN 4 a8) fun v9 => asAgg v9 fun l10 => asCons l10 fun v11 l12 => asInt .i64 v11 fun i13 => asCons l12 fun v14 l15 => asStr v14 fun s16 => asCons l15 fun v17 l18 => asInt .i64 v17 fun i19 => asCons l18 fun v20 l21 => asSlice v20 fun p22 n23 n24 => asNil l21 (.call 23 [(.agg #[(.int .i64 i13), (.string s16), (.int .i64 i19), (.slice p22 n23 n24)])] fun v25 => asInt .i64 v25 fun i26 => bif (decide (i26 ≤ 500)) == true then (.act (ldN 4 a8) fun v27 => asAgg v27 fun l28 => asCons l28 fun v29 l30 => asInt .i64 v29 fun i31 => asCons l30 fun v32 l33 => asStr v32 fun s34 => asCons l33 fun v35 l36 => asInt .i64 v35 fun i37 => asCons l36 fun v38 l39 => asSlice v38 fun p40 n41 n42 => asNil l39 (.call 44 [(.agg #[(.int .i64 i31), (.string s34), (.int .i64 i37), (.slice p40 n41 n42)])] fun v43 => asBool v43 fun b44 => .ret .normal [(.bool b44)])) else (.ret .normal [(.bool false)]))) (T21k0)
theorem T21_eq (i0 : Int) (s1 : ByteArray) (i2 : Int) (p3 : (Option Addr)) (n4 : Nat) (n5 : Nat) : progOf PROG false 21 [(.agg #[(.int .i64 i0), (.string s1), (.int .i64 i2), (.slice p3 n4 n5)])] = T21 i0 s1 i2 p3 n4 n5 := by kernel_rfl


noncomputable def T22k0 (i50 : Int) : Ex → List Value → Pg :=
  fun e98 l99 => sw e98 .ret (asCons l99 fun v100 l101 => asBool v100 fun b102 => asNil l101 (.ret .ret [(.int .i64 i50), (.bool b102)])) (sw e98 .normal (asCons l99 fun v103 l104 => asBool v103 fun b105 => asNil l104 (.ret .normal [(.int .i64 (wi64 (i50 + 1))), (.bool b105)])) (.fail))

noncomputable def T22b0 (n45 : Nat) (a14 : Addr) (a17 : Addr) : List Value → Pg :=
  fun l47 => asCons l47 fun v48 l49 => asInt .i64 v48 fun i50 => asCons l49 fun v51 l52 => asBool v51 fun b53 => asNil l52 (bif (decide (i50 < ((n45 : Nat) : Int))) then (.join (.act (ld1 (aadd a14 3)) fun v54 => asSlice v54 fun p55 n56 n57 => asSome p55 fun a58 => grd ((decide (0 ≤ i50)) && (decide (i50 < ((n56 : Nat) : Int)))) (.act (ldN 4 (aadd a58 ((Int.toNat i50) * 4))) fun v59 => asAgg v59 fun l60 => asCons l60 fun v61 l62 => asInt .i64 v61 fun i63 => asCons l62 fun v64 l65 => asStr v64 fun s66 => asCons l65 fun v67 l68 => asInt .i64 v67 fun i69 => asCons l68 fun v70 l71 => asSlice v70 fun p72 n73 n74 => asNil l71 (.act (ld1 (aadd a17 3)) fun v75 => asSlice v75 fun p76 n77 n78 => asSome p76 fun a79 => grd ((decide (0 ≤ i50)) && (decide (i50 < ((n77 : Nat) : Int)))) (.act (ldN 4 (aadd a79 ((Int.toNat i50) * 4))) fun v80 => asAgg v80 fun l81 => asCons l81 fun v82 l83 => asInt .i64 v82 fun i84 => asCons l83 fun v85 l86 => asStr v85 fun s87 => asCons l86 fun v88 l89 => asInt .i64 v88 fun i90 => asCons l89 fun v91 l92 => asSlice v91 fun p93 n94 n95 => asNil l92 (.call 22 [(.agg #[(.int .i64 i63), (.string s66), (.int .i64 i69), (.slice p72 n73 n74)]), (.agg #[(.int .i64 i84), (.string s87), (.int .i64 i90), (.slice p93 n94 n95)])] fun v96 => asBool v96 fun b97 => bif (!b97) then (.ret .ret [(.bool false)]) else (.ret .normal [(.bool b53)])))))) (T22k0 i50)) else (.ret (.exit 0) [(.int .i64 i50), (.bool b53)]))

noncomputable def T22k1 : Ex → List Value → Pg :=
  fun e106 l107 => sw e106 (.exit 0) (asCons l107 fun v108 l109 => asInt .i64 v108 fun i110 => asCons l109 fun v111 l112 => asBool v111 fun b113 => asNil l112 (.ret .ret [(.bool true)])) (sw e106 .ret (asCons l107 fun v114 l115 => asInt .i64 v114 fun i116 => asCons l115 fun v117 l118 => asBool v117 fun b119 => asNil l118 (.ret .ret [(.bool b119)])) (.fail))

noncomputable def T22k2 (a14 : Addr) (a17 : Addr) : Ex → List Value → Pg :=
  fun e38 l39 => sw e38 .normal (asCons l39 fun v40 l41 => asBool v40 fun b42 => asNil l41 (bif b42 then (.ret .ret [(.bool false)]) else (.act (ld1 (aadd a14 3)) fun v43 => asSlice v43 fun p44 n45 n46 => .loop [(.int .i64 0), (.bool false)] (T22b0 n45 a14 a17) (T22k1)))) (.fail)

/-- hindsight/ty.Same -/
noncomputable def T22 (i0 : Int) (s1 : ByteArray) (i2 : Int) (p3 : (Option Addr)) (n4 : Nat) (n5 : Nat) (i6 : Int) (s7 : ByteArray) (i8 : Int) (p9 : (Option Addr)) (n10 : Nat) (n11 : Nat) : Pg :=
  .act (newC [(.int .i64 i0), (.string s1), (.int .i64 i2), (.slice p3 n4 n5)]) fun v12 => asPtr v12 fun p13 => asSome p13 fun a14 => .act (newC [(.int .i64 i6), (.string s7), (.int .i64 i8), (.slice p9 n10 n11)]) fun v15 => asPtr v15 fun p16 => asSome p16 fun a17 => .join (.act (ld1 (aadd a14 0)) fun v18 => asInt .i64 v18 fun i19 => .act (ld1 (aadd a17 0)) fun v20 => asInt .i64 v20 fun i21 => bif (i19 != i21) == false then (.act (ld1 (aadd a14 1)) fun v22 => asStr v22 fun s23 => .act (ld1 (aadd a17 1)) fun v24 => asStr v24 fun s25 => bif (!(s23.toList == s25.toList)) == false then (.act (ld1 (aadd a14 2)) fun v26 => asInt .i64 v26 fun i27 => .act (ld1 (aadd a17 2)) fun v28 => asInt .i64 v28 fun i29 => bif (i27 != i29) == false then (.act (ld1 (aadd a14 3)) fun v30 => asSlice v30 fun p31 n32 n33 => .act (ld1 (aadd a17 3)) fun v34 => asSlice v34 fun p35 n36 n37 => .ret .normal [(.bool (((n32 : Nat) : Int) != ((n36 : Nat) : Int)))]) else (.ret .normal [(.bool true)])) else (.ret .normal [(.bool true)])) else (.ret .normal [(.bool true)])) (T22k2 a14 a17)
theorem T22_eq (i0 : Int) (s1 : ByteArray) (i2 : Int) (p3 : (Option Addr)) (n4 : Nat) (n5 : Nat) (i6 : Int) (s7 : ByteArray) (i8 : Int) (p9 : (Option Addr)) (n10 : Nat) (n11 : Nat) : progOf PROG false 22 [(.agg #[(.int .i64 i0), (.string s1), (.int .i64 i2), (.slice p3 n4 n5)]), (.agg #[(.int .i64 i6), (.string s7), (.int .i64 i8), (.slice p9 n10 n11)])] = T22 i0 s1 i2 p3 n4 n5 i6 s7 i8 p9 n10 n11 := by kernel_rfl


noncomputable def T23k0 (i12 : Int) : Ex → List Value → Pg :=
  fun e43 l44 => sw e43 .normal (asCons l44 fun v45 l46 => asInt .i64 v45 fun i47 => asNil l46 (.ret .normal [(.int .i64 (wi64 (i12 + 1))), (.int .i64 i47)])) (.fail)

noncomputable def T23b0 (a8 : Addr) : List Value → Pg :=
  fun l9 => asCons l9 fun v10 l11 => asInt .i64 v10 fun i12 => asCons l11 fun v13 l14 => asInt .i64 v13 fun i15 => asNil l14 (.act (ld1 (aadd a8 3)) fun v16 => asSlice v16 fun p17 n18 n19 => bif ((decide (i12 < ((n18 : Nat) : Int))) && (decide (i15 ≤ 500))) then (.join (.act (ld1 (aadd a8 3)) fun v20 => asSlice v20 fun p21 n22 n23 => asSome p21 fun a24 => grd ((decide (0 ≤ i12)) && (decide (i12 < ((n22 : Nat) : Int)))) (.act (ldN 4 (aadd a24 ((Int.toNat i12) * 4))) fun v25 => asAgg v25 fun l26 => asCons l26 fun v27 l28 => asInt .i64 v27 fun i29 => asCons l28 fun v30 l31 => asStr v30 fun s32 => asCons l31 fun v33 l34 => asInt .i64 v33 fun i35 => asCons l34 fun v36 l37 => asSlice v36 fun p38 n39 n40 => asNil l37 (.call 23 [(.agg #[(.int .i64 i29), (.string s32), (.int .i64 i35), (.slice p38 n39 n40)])] fun v41 => asInt .i64 v41 fun i42 => .ret .normal [(.int .i64 (wi64 (i15 + i42)))]))) (T23k0 i12)) else (.ret (.exit 0) [(.int .i64 i12), (.int .i64 i15)]))

noncomputable def T23k1 : Ex → List Value → Pg :=
  fun e48 l49 => sw e48 (.exit 0) (asCons l49 fun v50 l51 => asInt .i64 v50 fun i52 => asCons l51 fun v53 l54 => asInt .i64 v53 fun i55 => asNil l54 (bif (decide (i55 > 501)) then (.ret .ret [(.int .i64 501)]) else (.ret .ret [(.int .i64 i55)]))) (.fail)

/-- hindsight/hindsightref5.Size -/
noncomputable def T23 (i0 : Int) (s1 : ByteArray) (i2 : Int) (p3 : (Option Addr)) (n4 : Nat) (n5 : Nat) : Pg :=
  .act (newC [(.int .i64 i0), (.string s1), (.int .i64 i2), (.slice p3 n4 n5)]) fun v6 => asPtr v6 fun p7 => asSome p7 fun a8 => .loop [(.int .i64 0), (.int .i64 1)] (T23b0 a8) (T23k1)
theorem T23_eq (i0 : Int) (s1 : ByteArray) (i2 : Int) (p3 : (Option Addr)) (n4 : Nat) (n5 : Nat) : progOf PROG false 23 [(.agg #[(.int .i64 i0), (.string s1), (.int .i64 i2), (.slice p3 n4 n5)])] = T23 i0 s1 i2 p3 n4 n5 := by kernel_rfl


/-- hindsight/hindsightref5.Show -/
noncomputable def T24 (i0 : Int) (s1 : ByteArray) (i2 : Int) (p3 : (Option Addr)) (n4 : Nat) (n5 : Nat) : Pg :=
  .act (newC [(.int .i64 i0), (.string s1), (.int .i64 i2), (.slice p3 n4 n5)]) fun v6 => asPtr v6 fun p7 => asSome p7 fun a8 => .act (ldN 4 a8) fun v9 => asAgg v9 fun l10 => asCons l10 fun v11 l12 => asInt .i64 v11 fun i13 => asCons l12 fun v14 l15 => asStr v14 fun s16 => asCons l15 fun v17 l18 => asInt .i64 v17 fun i19 => asCons l18 fun v20 l21 => asSlice v20 fun p22 n23 n24 => asNil l21 (.act (ldN 4 a8) fun v25 => asAgg v25 fun l26 => asCons l26 fun v27 l28 => asInt .i64 v27 fun i29 => asCons l28 fun v30 l31 => asStr v30 fun s32 => asCons l31 fun v33 l34 => asInt .i64 v33 fun i35 => asCons l34 fun v36 l37 => asSlice v36 fun p38 n39 n40 => asNil l37 (.call 27 [(.agg #[(.int .i64 i29), (.string s32), (.int .i64 i35), (.slice p38 n39 n40)])] fun v41 => asSlice v41 fun p42 n43 n44 => .get fun h47 => grd (chks [((ldN 4 a8), v9)] h47) (.call 45 [(.agg #[(.int .i64 i13), (.string s16), (.int .i64 i19), (.slice p22 n23 n24)]), (.slice p42 n43 n44)] fun v45 => asStr v45 fun s46 => .ret .ret [(.string s46)])))
theorem T24_eq (i0 : Int) (s1 : ByteArray) (i2 : Int) (p3 : (Option Addr)) (n4 : Nat) (n5 : Nat) : progOf PROG false 24 [(.agg #[(.int .i64 i0), (.string s1), (.int .i64 i2), (.slice p3 n4 n5)])] = T24 i0 s1 i2 p3 n4 n5 := by kernel_rfl


noncomputable def T25k0 (i9 : Int) : Ex → List Value → Pg :=
  fun e19 l20 => sw e19 .ret (asCons l20 fun v21 l22 => asBool v21 fun b23 => asNil l22 (.ret .ret [(.int .i64 i9), (.bool b23)])) (sw e19 .normal (asCons l20 fun v24 l25 => asBool v24 fun b26 => asNil l25 (.ret .normal [(.int .i64 (wi64 (i9 + 1))), (.bool b26)])) (.fail))

noncomputable def T25b0 (n1 : Nat) (p0 : (Option Addr)) (p3 : (Option Addr)) (n4 : Nat) : List Value → Pg :=
  fun l6 => asCons l6 fun v7 l8 => asInt .i64 v7 fun i9 => asCons l8 fun v10 l11 => asBool v10 fun b12 => asNil l11 (bif (decide (i9 < ((n1 : Nat) : Int))) then (.join (asSome p0 fun a13 => grd ((decide (0 ≤ i9)) && (decide (i9 < ((n1 : Nat) : Int)))) (.act (ld1 (aadd a13 ((Int.toNat i9) * 1))) fun v14 => asInt .i64 v14 fun i15 => asSome p3 fun a16 => grd ((decide (0 ≤ i9)) && (decide (i9 < ((n4 : Nat) : Int)))) (.act (ld1 (aadd a16 ((Int.toNat i9) * 1))) fun v17 => asInt .i64 v17 fun i18 => bif (i15 != i18) then (.ret .ret [(.bool false)]) else (.ret .normal [(.bool b12)])))) (T25k0 i9)) else (.ret (.exit 0) [(.int .i64 i9), (.bool b12)]))

noncomputable def T25k1 : Ex → List Value → Pg :=
  fun e27 l28 => sw e27 (.exit 0) (asCons l28 fun v29 l30 => asInt .i64 v29 fun i31 => asCons l30 fun v32 l33 => asBool v32 fun b34 => asNil l33 (.ret .ret [(.bool true)])) (sw e27 .ret (asCons l28 fun v35 l36 => asInt .i64 v35 fun i37 => asCons l36 fun v38 l39 => asBool v38 fun b40 => asNil l39 (.ret .ret [(.bool b40)])) (.fail))

/-- hindsight/hindsightlaw5.ints -/
noncomputable def T25 (p0 : (Option Addr)) (n1 : Nat) (n2 : Nat) (p3 : (Option Addr)) (n4 : Nat) (n5 : Nat) : Pg :=
  bif (((n1 : Nat) : Int) != ((n4 : Nat) : Int)) then (.ret .ret [(.bool false)]) else (.loop [(.int .i64 0), (.bool false)] (T25b0 n1 p0 p3 n4) (T25k1))
theorem T25_eq (p0 : (Option Addr)) (n1 : Nat) (n2 : Nat) (p3 : (Option Addr)) (n4 : Nat) (n5 : Nat) : progOf PROG false 25 [(.slice p0 n1 n2), (.slice p3 n4 n5)] = T25 p0 n1 n2 p3 n4 n5 := by kernel_rfl


/-- hindsight/ty.Vars -/
noncomputable def T26 (i0 : Int) (s1 : ByteArray) (i2 : Int) (p3 : (Option Addr)) (n4 : Nat) (n5 : Nat) : Pg :=
  .act (newC [(.int .i64 i0), (.string s1), (.int .i64 i2), (.slice p3 n4 n5)]) fun v6 => asPtr v6 fun p7 => asSome p7 fun a8 => .act (ldN 4 a8) fun v9 => asAgg v9 fun l10 => asCons l10 fun v11 l12 => asInt .i64 v11 fun i13 => asCons l12 fun v14 l15 => asStr v14 fun s16 => asCons l15 fun v17 l18 => asInt .i64 v17 fun i19 => asCons l18 fun v20 l21 => asSlice v20 fun p22 n23 n24 => asNil l21 (.call 46 [(.agg #[(.int .i64 i13), (.string s16), (.int .i64 i19), (.slice p22 n23 n24)]), (.slice none 0 0)] fun v25 => asSlice v25 fun p26 n27 n28 => .ret .ret [(.slice p26 n27 n28)])
theorem T26_eq (i0 : Int) (s1 : ByteArray) (i2 : Int) (p3 : (Option Addr)) (n4 : Nat) (n5 : Nat) : progOf PROG false 26 [(.agg #[(.int .i64 i0), (.string s1), (.int .i64 i2), (.slice p3 n4 n5)])] = T26 i0 s1 i2 p3 n4 n5 := by kernel_rfl


/-- hindsight/hindsightref5.Vars -/
noncomputable def T27 (i0 : Int) (s1 : ByteArray) (i2 : Int) (p3 : (Option Addr)) (n4 : Nat) (n5 : Nat) : Pg :=
  .act (newC [(.int .i64 i0), (.string s1), (.int .i64 i2), (.slice p3 n4 n5)]) fun v6 => asPtr v6 fun p7 => asSome p7 fun a8 => .act (ldN 4 a8) fun v9 => asAgg v9 fun l10 => asCons l10 fun v11 l12 => asInt .i64 v11 fun i13 => asCons l12 fun v14 l15 => asStr v14 fun s16 => asCons l15 fun v17 l18 => asInt .i64 v17 fun i19 => asCons l18 fun v20 l21 => asSlice v20 fun p22 n23 n24 => asNil l21 (.call 47 [(.agg #[(.int .i64 i13), (.string s16), (.int .i64 i19), (.slice p22 n23 n24)]), (.slice none 0 0)] fun v25 => asSlice v25 fun p26 n27 n28 => .ret .ret [(.slice p26 n27 n28)])
theorem T27_eq (i0 : Int) (s1 : ByteArray) (i2 : Int) (p3 : (Option Addr)) (n4 : Nat) (n5 : Nat) : progOf PROG false 27 [(.agg #[(.int .i64 i0), (.string s1), (.int .i64 i2), (.slice p3 n4 n5)])] = T27 i0 s1 i2 p3 n4 n5 := by kernel_rfl


noncomputable def T28k0 (i35 : Int) : Ex → List Value → Pg :=
  fun e93 l94 => sw e93 .normal (asNil l94 (.ret .normal [(.int .i64 (wi64 (i35 + 1)))])) (.fail)

noncomputable def T28b0 (a9 : Addr) (a21 : Addr) (i6 : Int) : List Value → Pg :=
  fun l32 => asCons l32 fun v33 l34 => asInt .i64 v33 fun i35 => asNil l34 (.act (ld1 (aadd a9 3)) fun v36 => asSlice v36 fun p37 n38 n39 => bif (decide (i35 < ((n38 : Nat) : Int))) then (.join (.act (ld1 (aadd a21 3)) fun v40 => asSlice v40 fun p41 n42 n43 => .act (ld1 (aadd a9 3)) fun v44 => asSlice v44 fun p45 n46 n47 => asSome p45 fun a48 => grd ((decide (0 ≤ i35)) && (decide (i35 < ((n46 : Nat) : Int)))) (.act (ldN 4 (aadd a48 ((Int.toNat i35) * 4))) fun v49 => asAgg v49 fun l50 => asCons l50 fun v51 l52 => asInt .i64 v51 fun i53 => asCons l52 fun v54 l55 => asStr v54 fun s56 => asCons l55 fun v57 l58 => asInt .i64 v57 fun i59 => asCons l58 fun v60 l61 => asSlice v60 fun p62 n63 n64 => asNil l61 (.call 28 [(.agg #[(.int .i64 i53), (.string s56), (.int .i64 i59), (.slice p62 n63 n64)]), (.int .i64 i6)] fun v65 => asAgg v65 fun l66 => asCons l66 fun v67 l68 => asInt .i64 v67 fun i69 => asCons l68 fun v70 l71 => asStr v70 fun s72 => asCons l71 fun v73 l74 => asInt .i64 v73 fun i75 => asCons l74 fun v76 l77 => asSlice v76 fun p78 n79 n80 => asNil l77 (.get fun h92 => grd (chks [((ld1 (aadd a21 3)), v40)] h92) (.act (bdSl 4 1 [(.int .i64 i69), (.string s72), (.int .i64 i75), (.slice p78 n79 n80)]) fun v81 => asSlice v81 fun p82 n83 n84 => .get fun h91 => grd (chks [((ld1 (aadd a21 3)), v40)] h91) (.act (apS 4 56 p41 n42 n43 p82 n83 n84) fun v85 => asSlice v85 fun p86 n87 n88 => .act (stC (aadd a21 3) [(.slice p86 n87 n88)]) fun v89 => asTuple v89 fun l90 => asNil l90 (.ret .normal []))))))) (T28k0 i35)) else (.ret (.exit 0) [(.int .i64 i35)]))

noncomputable def T28k1 (a21 : Addr) (a12 : Addr) : Ex → List Value → Pg :=
  fun e95 l96 => sw e95 (.exit 0) (asCons l96 fun v97 l98 => asInt .i64 v97 fun i99 => asNil l98 (.act (ldN 4 a21) fun v100 => asAgg v100 fun l101 => asCons l101 fun v102 l103 => asInt .i64 v102 fun i104 => asCons l103 fun v105 l106 => asStr v105 fun s107 => asCons l106 fun v108 l109 => asInt .i64 v108 fun i110 => asCons l109 fun v111 l112 => asSlice v111 fun p113 n114 n115 => asNil l112 (.act (stC a12 [(.int .i64 i104), (.string s107), (.int .i64 i110), (.slice p113 n114 n115)]) fun v116 => asTuple v116 fun l117 => asNil l117 (.act (ldN 4 a12) fun v118 => .ret .ret [v118])))) (.fail)

noncomputable def T28k2 (a9 : Addr) (a21 : Addr) (i6 : Int) (a12 : Addr) : Ex → List Value → Pg :=
  fun e30 l31 => sw e30 .normal (asNil l31 (.loop [(.int .i64 0)] (T28b0 a9 a21 i6) (T28k1 a21 a12))) (.fail)

/-- hindsight/hindsightlaw5.moved -/
noncomputable def T28 (i0 : Int) (s1 : ByteArray) (i2 : Int) (p3 : (Option Addr)) (n4 : Nat) (n5 : Nat) (i6 : Int) : Pg :=
  .act (newC [(.int .i64 i0), (.string s1), (.int .i64 i2), (.slice p3 n4 n5)]) fun v7 => asPtr v7 fun p8 => asSome p8 fun a9 => .act (newC [(.int .i64 0), (.string (bs [])), (.int .i64 0), (.slice none 0 0)]) fun v10 => asPtr v10 fun p11 => asSome p11 fun a12 => .act (ld1 (aadd a9 0)) fun v13 => asInt .i64 v13 fun i14 => .act (ld1 (aadd a9 1)) fun v15 => asStr v15 fun s16 => .act (ld1 (aadd a9 2)) fun v17 => asInt .i64 v17 fun i18 => .act (newC [(.int .i64 0), (.string (bs [])), (.int .i64 0), (.slice none 0 0)]) fun v19 => asPtr v19 fun p20 => asSome p20 fun a21 => .act (stC a21 [(.int .i64 i14), (.string s16), (.int .i64 i18), (.slice none 0 0)]) fun v22 => asTuple v22 fun l23 => asNil l23 (.act (ld1 (aadd a9 0)) fun v24 => asInt .i64 v24 fun i25 => .join (bif (i25 == 7) then (.act (ld1 (aadd a9 2)) fun v26 => asInt .i64 v26 fun i27 => .act (stC (aadd a21 2) [(.int .i64 (wi64 (i27 + i6)))]) fun v28 => asTuple v28 fun l29 => asNil l29 (.ret .normal [])) else (.ret .normal [])) (T28k2 a9 a21 i6 a12))
theorem T28_eq (i0 : Int) (s1 : ByteArray) (i2 : Int) (p3 : (Option Addr)) (n4 : Nat) (n5 : Nat) (i6 : Int) : progOf PROG false 28 [(.agg #[(.int .i64 i0), (.string s1), (.int .i64 i2), (.slice p3 n4 n5)]), (.int .i64 i6)] = T28 i0 s1 i2 p3 n4 n5 i6 := by kernel_rfl


noncomputable def T29k0 (b15 : Bool) : Ex → List Value → Pg :=
  fun e22 l23 => sw e22 .normal (asCons l23 fun v24 l25 => asBool v24 fun b26 => asNil l25 (bif b26 then (.ret .ret [(.bool true)]) else (.ret .normal [(.bool b15)]))) (.fail)

noncomputable def T29k1 (i12 : Int) : Ex → List Value → Pg :=
  fun e27 l28 => sw e27 .ret (asCons l28 fun v29 l30 => asBool v29 fun b31 => asNil l30 (.ret .ret [(.int .i64 i12), (.bool b31)])) (sw e27 .normal (asCons l28 fun v32 l33 => asBool v32 fun b34 => asNil l33 (.ret .normal [(.int .i64 (wi64 (i12 + 1))), (.bool b34)])) (.fail))

noncomputable def T29b0 (a8 : Addr) : List Value → Pg :=
  fun l9 => asCons l9 fun v10 l11 => asInt .i64 v10 fun i12 => asCons l11 fun v13 l14 => asBool v13 fun b15 => asNil l14 (.act (ld1 (aadd a8 1)) fun v16 => asStr v16 fun s17 => bif (decide (i12 < ((s17.size : Nat) : Int))) then (.join (.join (.act (ld1 (aadd a8 1)) fun v18 => asStr v18 fun s19 => grd ((decide (0 ≤ i12)) && (decide (i12 < ((s19.size : Nat) : Int)))) (bif (decide ((byteAt s19 (Int.toNat i12)) < 97)) == false then (.act (ld1 (aadd a8 1)) fun v20 => asStr v20 fun s21 => grd ((decide (0 ≤ i12)) && (decide (i12 < ((s21.size : Nat) : Int)))) (.ret .normal [(.bool (decide ((byteAt s21 (Int.toNat i12)) > 122)))])) else (.ret .normal [(.bool true)]))) (T29k0 b15)) (T29k1 i12)) else (.ret (.exit 0) [(.int .i64 i12), (.bool b15)]))

noncomputable def T29k2 (i57 : Int) : Ex → List Value → Pg :=
  fun e88 l89 => sw e88 .ret (asCons l89 fun v90 l91 => asBool v90 fun b92 => asNil l91 (.ret .ret [(.int .i64 i57), (.bool b92)])) (sw e88 .normal (asCons l89 fun v93 l94 => asBool v93 fun b95 => asNil l94 (.ret .normal [(.int .i64 (wi64 (i57 + 1))), (.bool b95)])) (.fail))

noncomputable def T29b1 (a8 : Addr) : List Value → Pg :=
  fun l54 => asCons l54 fun v55 l56 => asInt .i64 v55 fun i57 => asCons l56 fun v58 l59 => asBool v58 fun b60 => asNil l59 (.act (ld1 (aadd a8 3)) fun v61 => asSlice v61 fun p62 n63 n64 => bif (decide (i57 < ((n63 : Nat) : Int))) then (.join (.act (ld1 (aadd a8 3)) fun v65 => asSlice v65 fun p66 n67 n68 => asSome p66 fun a69 => grd ((decide (0 ≤ i57)) && (decide (i57 < ((n67 : Nat) : Int)))) (.act (ldN 4 (aadd a69 ((Int.toNat i57) * 4))) fun v70 => asAgg v70 fun l71 => asCons l71 fun v72 l73 => asInt .i64 v72 fun i74 => asCons l73 fun v75 l76 => asStr v75 fun s77 => asCons l76 fun v78 l79 => asInt .i64 v78 fun i80 => asCons l79 fun v81 l82 => asSlice v81 fun p83 n84 n85 => asNil l82 (.call 29 [(.agg #[(.int .i64 i74), (.string s77), (.int .i64 i80), (.slice p83 n84 n85)])] fun v86 => asBool v86 fun b87 => bif b87 then (.ret .ret [(.bool true)]) else (.ret .normal [(.bool b60)])))) (T29k2 i57)) else (.ret (.exit 2) [(.int .i64 i57), (.bool b60)]))

noncomputable def T29k3 : Ex → List Value → Pg :=
  fun e96 l97 => sw e96 (.exit 2) (asCons l97 fun v98 l99 => asInt .i64 v98 fun i100 => asCons l99 fun v101 l102 => asBool v101 fun b103 => asNil l102 (.ret .ret [(.bool false)])) (sw e96 .ret (asCons l97 fun v104 l105 => asInt .i64 v104 fun i106 => asCons l105 fun v107 l108 => asBool v107 fun b109 => asNil l108 (.ret .ret [(.bool b109)])) (.fail))

noncomputable def T29k4 (b42 : Bool) (a8 : Addr) : Ex → List Value → Pg :=
  fun e49 l50 => sw e49 .normal (asCons l50 fun v51 l52 => asBool v51 fun b53 => asNil l52 (bif b53 then (.ret .ret [(.bool true)]) else (.loop [(.int .i64 0), (.bool b42)] (T29b1 a8) (T29k3)))) (.fail)

noncomputable def T29k5 (a8 : Addr) : Ex → List Value → Pg :=
  fun e35 l36 => sw e35 (.exit 0) (asCons l36 fun v37 l38 => asInt .i64 v37 fun i39 => asCons l38 fun v40 l41 => asBool v40 fun b42 => asNil l41 (.join (.act (ld1 (aadd a8 1)) fun v43 => asStr v43 fun s44 => bif (s44.toList == (bs [105, 110, 116]).toList) == false then (.act (ld1 (aadd a8 1)) fun v45 => asStr v45 fun s46 => bif (s46.toList == (bs [98, 111, 111, 108]).toList) == false then (.act (ld1 (aadd a8 1)) fun v47 => asStr v47 fun s48 => .ret .normal [(.bool (s48.toList == (bs [117, 110, 105, 116]).toList))]) else (.ret .normal [(.bool true)])) else (.ret .normal [(.bool true)])) (T29k4 b42 a8))) (sw e35 .ret (asCons l36 fun v110 l111 => asInt .i64 v110 fun i112 => asCons l111 fun v113 l114 => asBool v113 fun b115 => asNil l114 (.ret .ret [(.bool b115)])) (.fail))

/-- hindsight/hindsightlaw5.odd -/
noncomputable def T29 (i0 : Int) (s1 : ByteArray) (i2 : Int) (p3 : (Option Addr)) (n4 : Nat) (n5 : Nat) : Pg :=
  .act (newC [(.int .i64 i0), (.string s1), (.int .i64 i2), (.slice p3 n4 n5)]) fun v6 => asPtr v6 fun p7 => asSome p7 fun a8 => .loop [(.int .i64 0), (.bool false)] (T29b0 a8) (T29k5 a8)
theorem T29_eq (i0 : Int) (s1 : ByteArray) (i2 : Int) (p3 : (Option Addr)) (n4 : Nat) (n5 : Nat) : progOf PROG false 29 [(.agg #[(.int .i64 i0), (.string s1), (.int .i64 i2), (.slice p3 n4 n5)])] = T29 i0 s1 i2 p3 n4 n5 := by kernel_rfl


/-- (*hindsight/ty.Sub).Fresh -/
noncomputable def T30 (p0 : (Option Addr)) : Pg :=
  .act (newC [(.int .i64 0), (.string (bs [])), (.int .i64 0), (.slice none 0 0)]) fun v1 => asPtr v1 fun p2 => asSome p2 fun a3 => asSome p0 fun a4 => .act (ld1 (aadd a4 0)) fun v5 => asInt .i64 v5 fun i6 => .act (newC [(.int .i64 0), (.string (bs [])), (.int .i64 0), (.slice none 0 0)]) fun v7 => asPtr v7 fun p8 => asSome p8 fun a9 => .act (stC a9 [(.int .i64 7), (.string (bs [])), (.int .i64 i6), (.slice none 0 0)]) fun v10 => asTuple v10 fun l11 => asNil l11 (asSome p0 fun a12 => .act (ld1 (aadd a12 0)) fun v13 => asInt .i64 v13 fun i14 => asSome p0 fun a15 => .act (stC (aadd a15 0) [(.int .i64 (minV (wi64 (i14 + 1)) 1999))]) fun v16 => asTuple v16 fun l17 => asNil l17 (.act (ldN 4 a9) fun v18 => asAgg v18 fun l19 => asCons l19 fun v20 l21 => asInt .i64 v20 fun i22 => asCons l21 fun v23 l24 => asStr v23 fun s25 => asCons l24 fun v26 l27 => asInt .i64 v26 fun i28 => asCons l27 fun v29 l30 => asSlice v29 fun p31 n32 n33 => asNil l30 (.act (stC a3 [(.int .i64 i22), (.string s25), (.int .i64 i28), (.slice p31 n32 n33)]) fun v34 => asTuple v34 fun l35 => asNil l35 (.act (ldN 4 a3) fun v36 => .ret .ret [v36]))))
theorem T30_eq (p0 : (Option Addr)) : progOf PROG false 30 [(.pointer p0)] = T30 p0 := by kernel_rfl


/-- hindsight/hindsightlaw5.fun -/
noncomputable def T31 (i0 : Int) (s1 : ByteArray) (i2 : Int) (p3 : (Option Addr)) (n4 : Nat) (n5 : Nat) (i6 : Int) (s7 : ByteArray) (i8 : Int) (p9 : (Option Addr)) (n10 : Nat) (n11 : Nat) : Pg :=
  .act (newC [(.int .i64 i0), (.string s1), (.int .i64 i2), (.slice p3 n4 n5)]) fun v12 => asPtr v12 fun p13 => asSome p13 fun a14 => .act (newC [(.int .i64 i6), (.string s7), (.int .i64 i8), (.slice p9 n10 n11)]) fun v15 => asPtr v15 fun p16 => asSome p16 fun a17 => .act (newC [(.int .i64 0), (.string (bs [])), (.int .i64 0), (.slice none 0 0)]) fun v18 => asPtr v18 fun p19 => asSome p19 fun a20 => .act (ldN 4 a14) fun v21 => asAgg v21 fun l22 => asCons l22 fun v23 l24 => asInt .i64 v23 fun i25 => asCons l24 fun v26 l27 => asStr v26 fun s28 => asCons l27 fun v29 l30 => asInt .i64 v29 fun i31 => asCons l30 fun v32 l33 => asSlice v32 fun p34 n35 n36 => asNil l33 (.act (ldN 4 a17) fun v37 => asAgg v37 fun l38 => asCons l38 fun v39 l40 => asInt .i64 v39 fun i41 => asCons l40 fun v42 l43 => asStr v42 fun s44 => asCons l43 fun v45 l46 => asInt .i64 v45 fun i47 => asCons l46 fun v48 l49 => asSlice v48 fun p50 n51 n52 => asNil l49 (.act (bdSl 4 2 [(.int .i64 i25), (.string s28), (.int .i64 i31), (.slice p34 n35 n36), (.int .i64 i41), (.string s44), (.int .i64 i47), (.slice p50 n51 n52)]) fun v53 => asSlice v53 fun p54 n55 n56 => .act (stC a20 [(.int .i64 5), (.string (bs [])), (.int .i64 0), (.slice p54 n55 n56)]) fun v57 => asTuple v57 fun l58 => asNil l58 (.act (ldN 4 a20) fun v59 => .ret .ret [v59])))
theorem T31_eq (i0 : Int) (s1 : ByteArray) (i2 : Int) (p3 : (Option Addr)) (n4 : Nat) (n5 : Nat) (i6 : Int) (s7 : ByteArray) (i8 : Int) (p9 : (Option Addr)) (n10 : Nat) (n11 : Nat) : progOf PROG false 31 [(.agg #[(.int .i64 i0), (.string s1), (.int .i64 i2), (.slice p3 n4 n5)]), (.agg #[(.int .i64 i6), (.string s7), (.int .i64 i8), (.slice p9 n10 n11)])] = T31 i0 s1 i2 p3 n4 n5 i6 s7 i8 p9 n10 n11 := by kernel_rfl


/-- hindsight/hindsightlaw5.v -/
noncomputable def T32 (i0 : Int) : Pg :=
  .act (newC [(.int .i64 0), (.string (bs [])), (.int .i64 0), (.slice none 0 0)]) fun v1 => asPtr v1 fun p2 => asSome p2 fun a3 => .act (stC a3 [(.int .i64 7), (.string (bs [])), (.int .i64 i0), (.slice none 0 0)]) fun v4 => asTuple v4 fun l5 => asNil l5 (.act (ldN 4 a3) fun v6 => .ret .ret [v6])
theorem T32_eq (i0 : Int) : progOf PROG false 32 [(.int .i64 i0)] = T32 i0 := by kernel_rfl


noncomputable def T34k0 : Ex → List Value → Pg :=
  fun e155 l156 => sw e155 .normal (asNil l156 (.ret .ret [(.int .i64 0)])) (.fail)

noncomputable def T34k1 : Ex → List Value → Pg :=
  fun e209 l210 => sw e209 .normal (asCons l210 fun v211 l212 => asBool v211 fun b213 => asNil l212 (bif b213 then (.ret .ret [(.int .i64 5)]) else (.ret .normal [(.int .i64 0)]))) (.fail)

noncomputable def T34k2 (a15 : Addr) (a18 : Addr) (p0 : (Option Addr)) : Ex → List Value → Pg :=
  fun e133 l134 => sw e133 .normal (asCons l134 fun v135 l136 => asBool v135 fun b137 => asNil l136 (bif b137 then (.act (ld1 (aadd a15 2)) fun v138 => asInt .i64 v138 fun i139 => .act (ld1 (aadd a18 2)) fun v140 => asInt .i64 v140 fun i141 => .join (bif (i139 != i141) then (asSome p0 fun a142 => .act (ld1 (aadd a142 1)) fun v143 => asMap v143 fun m144 => .act (ld1 (aadd a15 2)) fun v145 => asInt .i64 v145 fun i146 => .act (ld1 (aadd a18 2)) fun v147 => asInt .i64 v147 fun i148 => .act (ld1 (aadd a15 2)) fun v149 => asInt .i64 v149 fun i150 => .act (ld1 (aadd a18 2)) fun v151 => asInt .i64 v151 fun i152 => .act (mup (.int .i64) m144 (.int .i64 (maxV i146 i148)) (.agg #[(.int .i64 7), (.string (bs [])), (.int .i64 (minV i150 i152)), (.slice none 0 0)])) fun v153 => asTuple v153 fun l154 => asNil l154 (.ret .normal [])) else (.ret .normal [])) (T34k0)) else (.act (ld1 (aadd a15 0)) fun v157 => asInt .i64 v157 fun i158 => bif (i158 == 7) then (.act (ld1 (aadd a15 2)) fun v159 => asInt .i64 v159 fun i160 => .act (ldN 4 a18) fun v161 => asAgg v161 fun l162 => asCons l162 fun v163 l164 => asInt .i64 v163 fun i165 => asCons l164 fun v166 l167 => asStr v166 fun s168 => asCons l167 fun v169 l170 => asInt .i64 v169 fun i171 => asCons l170 fun v172 l173 => asSlice v172 fun p174 n175 n176 => asNil l173 (.call 49 [(.pointer p0), (.int .i64 i160), (.agg #[(.int .i64 i165), (.string s168), (.int .i64 i171), (.slice p174 n175 n176)])] fun v177 => asInt .i64 v177 fun i178 => .ret .ret [(.int .i64 i178)])) else (.act (ld1 (aadd a18 0)) fun v179 => asInt .i64 v179 fun i180 => bif (i180 == 7) then (.act (ld1 (aadd a18 2)) fun v181 => asInt .i64 v181 fun i182 => .act (ldN 4 a15) fun v183 => asAgg v183 fun l184 => asCons l184 fun v185 l186 => asInt .i64 v185 fun i187 => asCons l186 fun v188 l189 => asStr v188 fun s190 => asCons l189 fun v191 l192 => asInt .i64 v191 fun i193 => asCons l192 fun v194 l195 => asSlice v194 fun p196 n197 n198 => asNil l195 (.call 49 [(.pointer p0), (.int .i64 i182), (.agg #[(.int .i64 i187), (.string s190), (.int .i64 i193), (.slice p196 n197 n198)])] fun v199 => asInt .i64 v199 fun i200 => .ret .ret [(.int .i64 i200)])) else (.join (.act (ld1 (aadd a15 0)) fun v201 => asInt .i64 v201 fun i202 => .act (ld1 (aadd a18 0)) fun v203 => asInt .i64 v203 fun i204 => bif (i202 != i204) == false then (.act (ld1 (aadd a15 1)) fun v205 => asStr v205 fun s206 => .act (ld1 (aadd a18 1)) fun v207 => asStr v207 fun s208 => .ret .normal [(.bool (!(s206.toList == s208.toList)))]) else (.ret .normal [(.bool true)])) (T34k1)))))) (.fail)

noncomputable def T34k3 (i229 : Int) : Ex → List Value → Pg :=
  fun e277 l278 => sw e277 .ret (asCons l278 fun v279 l280 => asInt .i64 v279 fun i281 => asNil l280 (.ret .ret [(.int .i64 i229), (.int .i64 i281)])) (sw e277 .normal (asCons l278 fun v282 l283 => asInt .i64 v282 fun i284 => asNil l283 (.ret .normal [(.int .i64 (wi64 (i229 + 1))), (.int .i64 i284)])) (.fail))

noncomputable def T34b0 (n224 : Nat) (a15 : Addr) (a18 : Addr) (p0 : (Option Addr)) : List Value → Pg :=
  fun l226 => asCons l226 fun v227 l228 => asInt .i64 v227 fun i229 => asCons l228 fun v230 l231 => asInt .i64 v230 fun i232 => asNil l231 (bif (decide (i229 < ((n224 : Nat) : Int))) then (.join (.act (ld1 (aadd a15 3)) fun v233 => asSlice v233 fun p234 n235 n236 => asSome p234 fun a237 => grd ((decide (0 ≤ i229)) && (decide (i229 < ((n235 : Nat) : Int)))) (.act (ldN 4 (aadd a237 ((Int.toNat i229) * 4))) fun v238 => asAgg v238 fun l239 => asCons l239 fun v240 l241 => asInt .i64 v240 fun i242 => asCons l241 fun v243 l244 => asStr v243 fun s245 => asCons l244 fun v246 l247 => asInt .i64 v246 fun i248 => asCons l247 fun v249 l250 => asSlice v249 fun p251 n252 n253 => asNil l250 (.act (ld1 (aadd a18 3)) fun v254 => asSlice v254 fun p255 n256 n257 => asSome p255 fun a258 => grd ((decide (0 ≤ i229)) && (decide (i229 < ((n256 : Nat) : Int)))) (.act (ldN 4 (aadd a258 ((Int.toNat i229) * 4))) fun v259 => asAgg v259 fun l260 => asCons l260 fun v261 l262 => asInt .i64 v261 fun i263 => asCons l262 fun v264 l265 => asStr v264 fun s266 => asCons l265 fun v267 l268 => asInt .i64 v267 fun i269 => asCons l268 fun v270 l271 => asSlice v270 fun p272 n273 n274 => asNil l271 (.call 34 [(.pointer p0), (.agg #[(.int .i64 i242), (.string s245), (.int .i64 i248), (.slice p251 n252 n253)]), (.agg #[(.int .i64 i263), (.string s266), (.int .i64 i269), (.slice p272 n273 n274)])] fun v275 => asInt .i64 v275 fun i276 => bif (i276 != 0) then (.ret .ret [(.int .i64 i276)]) else (.ret .normal [(.int .i64 i232)])))))) (T34k3 i229)) else (.ret (.exit 1) [(.int .i64 i229), (.int .i64 i232)]))

noncomputable def T34k4 : Ex → List Value → Pg :=
  fun e285 l286 => sw e285 (.exit 1) (asCons l286 fun v287 l288 => asInt .i64 v287 fun i289 => asCons l288 fun v290 l291 => asInt .i64 v290 fun i292 => asNil l291 (.ret .ret [(.int .i64 0)])) (sw e285 .ret (asCons l286 fun v293 l294 => asInt .i64 v293 fun i295 => asCons l294 fun v296 l297 => asInt .i64 v296 fun i298 => asNil l297 (.ret .ret [(.int .i64 i298)])) (.fail))

noncomputable def T34k5 (a15 : Addr) (a18 : Addr) (p0 : (Option Addr)) : Ex → List Value → Pg :=
  fun e214 l215 => sw e214 .ret (asCons l215 fun v216 l217 => asInt .i64 v216 fun i218 => asNil l217 (.ret .ret [(.int .i64 i218)])) (sw e214 .normal (asCons l215 fun v219 l220 => asInt .i64 v219 fun i221 => asNil l220 (.act (ld1 (aadd a15 3)) fun v222 => asSlice v222 fun p223 n224 n225 => .loop [(.int .i64 0), (.int .i64 i221)] (T34b0 n224 a15 a18 p0) (T34k4))) (.fail))

noncomputable def T34k6 (a15 : Addr) (p0 : (Option Addr)) (a18 : Addr) : Ex → List Value → Pg :=
  fun e55 l56 => sw e55 .normal (asCons l56 fun v57 l58 => asBool v57 fun b59 => asNil l58 (bif b59 then (.ret .ret [(.int .i64 2)]) else (.act (ldN 4 a15) fun v60 => asAgg v60 fun l61 => asCons l61 fun v62 l63 => asInt .i64 v62 fun i64 => asCons l63 fun v65 l66 => asStr v65 fun s67 => asCons l66 fun v68 l69 => asInt .i64 v68 fun i70 => asCons l69 fun v71 l72 => asSlice v71 fun p73 n74 n75 => asNil l72 (.get fun h77 => .call 48 [(.pointer p0), (.agg #[(.int .i64 i64), (.string s67), (.int .i64 i70), (.slice p73 n74 n75)])] fun v76 => asAgg v76 fun l78 => asCons l78 fun v79 l80 => asInt .i64 v79 fun i81 => asCons l80 fun v82 l83 => asStr v82 fun s84 => asCons l83 fun v85 l86 => asInt .i64 v85 fun i87 => asCons l86 fun v88 l89 => asSlice v88 fun p90 n91 n92 => asNil l89 (.act (ldN 4 a18) fun v93 => grd (past (ldN 4 a18) v93 [h77]) (asAgg v93 fun l94 => asCons l94 fun v95 l96 => asInt .i64 v95 fun i97 => asCons l96 fun v98 l99 => asStr v98 fun s100 => asCons l99 fun v101 l102 => asInt .i64 v101 fun i103 => asCons l102 fun v104 l105 => asSlice v104 fun p106 n107 n108 => asNil l105 (.call 48 [(.pointer p0), (.agg #[(.int .i64 i97), (.string s100), (.int .i64 i103), (.slice p106 n107 n108)])] fun v109 => asAgg v109 fun l110 => asCons l110 fun v111 l112 => asInt .i64 v111 fun i113 => asCons l112 fun v114 l115 => asStr v114 fun s116 => asCons l115 fun v117 l118 => asInt .i64 v117 fun i119 => asCons l118 fun v120 l121 => asSlice v120 fun p122 n123 n124 => asNil l121 (.act (stC a15 [(.int .i64 i81), (.string s84), (.int .i64 i87), (.slice p90 n91 n92)]) fun v125 => asTuple v125 fun l126 => asNil l126 (.act (stC a18 [(.int .i64 i113), (.string s116), (.int .i64 i119), (.slice p122 n123 n124)]) fun v127 => asTuple v127 fun l128 => asNil l128 (.join (.join (.act (ld1 (aadd a15 0)) fun v129 => asInt .i64 v129 fun i130 => bif (i130 == 7) == true then (.act (ld1 (aadd a18 0)) fun v131 => asInt .i64 v131 fun i132 => .ret .normal [(.bool (i132 == 7))]) else (.ret .normal [(.bool false)])) (T34k2 a15 a18 p0)) (T34k5 a15 a18 p0))))))))))) (.fail)

/-- (*hindsight/ty.Sub).one -/
noncomputable def T34 (p0 : (Option Addr)) (i1 : Int) (s2 : ByteArray) (i3 : Int) (p4 : (Option Addr)) (n5 : Nat) (n6 : Nat) (i7 : Int) (s8 : ByteArray) (i9 : Int) (p10 : (Option Addr)) (n11 : Nat) (n12 : Nat) : Pg :=
  .act (newC [(.int .i64 i1), (.string s2), (.int .i64 i3), (.slice p4 n5 n6)]) fun v13 => asPtr v13 fun p14 => asSome p14 fun a15 => .act (newC [(.int .i64 i7), (.string s8), (.int .i64 i9), (.slice p10 n11 n12)]) fun v16 => asPtr v16 fun p17 => asSome p17 fun a18 => .join (.act (ldN 4 a15) fun v19 => asAgg v19 fun l20 => asCons l20 fun v21 l22 => asInt .i64 v21 fun i23 => asCons l22 fun v24 l25 => asStr v24 fun s26 => asCons l25 fun v27 l28 => asInt .i64 v27 fun i29 => asCons l28 fun v30 l31 => asSlice v30 fun p32 n33 n34 => asNil l31 (.call 35 [(.pointer p0), (.agg #[(.int .i64 i23), (.string s26), (.int .i64 i29), (.slice p32 n33 n34)])] fun v35 => asBool v35 fun b36 => bif (!b36) == false then (.act (ldN 4 a18) fun v37 => asAgg v37 fun l38 => asCons l38 fun v39 l40 => asInt .i64 v39 fun i41 => asCons l40 fun v42 l43 => asStr v42 fun s44 => asCons l43 fun v45 l46 => asInt .i64 v45 fun i47 => asCons l46 fun v48 l49 => asSlice v48 fun p50 n51 n52 => asNil l49 (.call 35 [(.pointer p0), (.agg #[(.int .i64 i41), (.string s44), (.int .i64 i47), (.slice p50 n51 n52)])] fun v53 => asBool v53 fun b54 => .ret .normal [(.bool (!b54))])) else (.ret .normal [(.bool true)]))) (T34k6 a15 p0 a18)
theorem T34_eq (p0 : (Option Addr)) (i1 : Int) (s2 : ByteArray) (i3 : Int) (p4 : (Option Addr)) (n5 : Nat) (n6 : Nat) (i7 : Int) (s8 : ByteArray) (i9 : Int) (p10 : (Option Addr)) (n11 : Nat) (n12 : Nat) : progOf PROG false 34 [(.pointer p0), (.agg #[(.int .i64 i1), (.string s2), (.int .i64 i3), (.slice p4 n5 n6)]), (.agg #[(.int .i64 i7), (.string s8), (.int .i64 i9), (.slice p10 n11 n12)])] = T34 p0 i1 s2 i3 p4 n5 n6 i7 s8 i9 p10 n11 n12 := by kernel_rfl


/-- (*hindsight/ty.Sub).small -/
noncomputable def T35 (p0 : (Option Addr)) (i1 : Int) (s2 : ByteArray) (i3 : Int) (p4 : (Option Addr)) (n5 : Nat) (n6 : Nat) : Pg :=
  .act (newC [(.int .i64 i1), (.string s2), (.int .i64 i3), (.slice p4 n5 n6)]) fun v7 => asPtr v7 fun p8 => asSome p8 fun a9 => .act (ldN 4 a9) fun v10 => asAgg v10 fun l11 => asCons l11 fun v12 l13 => asInt .i64 v12 fun i14 => asCons l13 fun v15 l16 => asStr v15 fun s17 => asCons l16 fun v18 l19 => asInt .i64 v18 fun i20 => asCons l19 fun v21 l22 => asSlice v21 fun p23 n24 n25 => asNil l22 (.call 50 [(.pointer p0), (.agg #[(.int .i64 i14), (.string s17), (.int .i64 i20), (.slice p23 n24 n25)]), (.int .i64 0)] fun v26 => asInt .i64 v26 fun i27 => .ret .ret [(.bool (decide (i27 ≤ 500)))])
theorem T35_eq (p0 : (Option Addr)) (i1 : Int) (s2 : ByteArray) (i3 : Int) (p4 : (Option Addr)) (n5 : Nat) (n6 : Nat) : progOf PROG false 35 [(.pointer p0), (.agg #[(.int .i64 i1), (.string s2), (.int .i64 i3), (.slice p4 n5 n6)])] = T35 p0 i1 s2 i3 p4 n5 n6 := by kernel_rfl


noncomputable def T38k0 (i51 : Int) : Ex → List Value → Pg :=
  fun e95 l96 => sw e95 .ret (asCons l96 fun v97 l98 => asBool v97 fun b99 => asNil l98 (.ret .ret [(.int .i64 i51), (.bool b99)])) (sw e95 .normal (asCons l96 fun v100 l101 => asBool v100 fun b102 => asNil l101 (.ret .normal [(.int .i64 (wi64 (i51 + 1))), (.bool b102)])) (.fail))

noncomputable def T38b0 (n46 : Nat) (p45 : (Option Addr)) : List Value → Pg :=
  fun l48 => asCons l48 fun v49 l50 => asInt .i64 v49 fun i51 => asCons l50 fun v52 l53 => asBool v52 fun b54 => asNil l53 (bif (decide (i51 < ((n46 : Nat) : Int))) then (.join (asSome p45 fun a55 => grd ((decide (0 ≤ i51)) && (decide (i51 < ((n46 : Nat) : Int)))) (.act (ldN 4 (aadd a55 ((Int.toNat i51) * 4))) fun v56 => asAgg v56 fun l57 => asCons l57 fun v58 l59 => asInt .i64 v58 fun i60 => asCons l59 fun v61 l62 => asStr v61 fun s63 => asCons l62 fun v64 l65 => asInt .i64 v64 fun i66 => asCons l65 fun v67 l68 => asSlice v67 fun p69 n70 n71 => asNil l68 (.act (newC [(.int .i64 0), (.string (bs [])), (.int .i64 0), (.slice none 0 0)]) fun v72 => asPtr v72 fun p73 => asSome p73 fun a74 => .act (stC a74 [(.int .i64 i60), (.string s63), (.int .i64 i66), (.slice p69 n70 n71)]) fun v75 => asTuple v75 fun l76 => asNil l76 (.act (ldN 4 a74) fun v77 => asAgg v77 fun l78 => asCons l78 fun v79 l80 => asInt .i64 v79 fun i81 => asCons l80 fun v82 l83 => asStr v82 fun s84 => asCons l83 fun v85 l86 => asInt .i64 v85 fun i87 => asCons l86 fun v88 l89 => asSlice v88 fun p90 n91 n92 => asNil l89 (.call 38 [(.agg #[(.int .i64 i81), (.string s84), (.int .i64 i87), (.slice p90 n91 n92)])] fun v93 => asBool v93 fun b94 => bif (!b94) then (.ret .ret [(.bool false)]) else (.ret .normal [(.bool b54)])))))) (T38k0 i51)) else (.ret (.exit 0) [(.int .i64 i51), (.bool b54)]))

noncomputable def T38k1 : Ex → List Value → Pg :=
  fun e103 l104 => sw e103 (.exit 0) (asCons l104 fun v105 l106 => asInt .i64 v105 fun i107 => asCons l106 fun v108 l109 => asBool v108 fun b110 => asNil l109 (.ret .ret [(.bool true)])) (sw e103 .ret (asCons l104 fun v111 l112 => asInt .i64 v111 fun i113 => asCons l112 fun v114 l115 => asBool v114 fun b116 => asNil l115 (.ret .ret [(.bool b116)])) (.fail))

noncomputable def T38k2 (a8 : Addr) : Ex → List Value → Pg :=
  fun e39 l40 => sw e39 .normal (asCons l40 fun v41 l42 => asBool v41 fun b43 => asNil l42 (bif b43 then (.ret .ret [(.bool false)]) else (.act (ld1 (aadd a8 3)) fun v44 => asSlice v44 fun p45 n46 n47 => .loop [(.int .i64 0), (.bool false)] (T38b0 n46 p45) (T38k1)))) (.fail)

noncomputable def T38k3 (a8 : Addr) : Ex → List Value → Pg :=
  fun e26 l27 => sw e26 .normal (asCons l27 fun v28 l29 => asBool v28 fun b30 => asNil l29 (bif b30 then (.ret .ret [(.bool false)]) else (.join (.act (ld1 (aadd a8 2)) fun v31 => asInt .i64 v31 fun i32 => bif (decide (i32 < 0)) == false then (.act (ld1 (aadd a8 2)) fun v33 => asInt .i64 v33 fun i34 => bif (decide (i34 > 1999)) == false then (.act (ld1 (aadd a8 2)) fun v35 => asInt .i64 v35 fun i36 => bif (i36 != 0) == true then (.act (ld1 (aadd a8 0)) fun v37 => asInt .i64 v37 fun i38 => .ret .normal [(.bool (i38 != 7))]) else (.ret .normal [(.bool false)])) else (.ret .normal [(.bool true)])) else (.ret .normal [(.bool true)])) (T38k2 a8)))) (.fail)

/-- hindsight/ty.alone -/
noncomputable def T38 (i0 : Int) (s1 : ByteArray) (i2 : Int) (p3 : (Option Addr)) (n4 : Nat) (n5 : Nat) : Pg :=
  .act (newC [(.int .i64 i0), (.string s1), (.int .i64 i2), (.slice p3 n4 n5)]) fun v6 => asPtr v6 fun p7 => asSome p7 fun a8 => .join (.act (ld1 (aadd a8 0)) fun v9 => asInt .i64 v9 fun i10 => bif (decide (i10 < 1)) == false then (.act (ld1 (aadd a8 0)) fun v11 => asInt .i64 v11 fun i12 => bif (decide (i12 > 7)) == false then (.act (ld1 (aadd a8 3)) fun v13 => asSlice v13 fun p14 n15 n16 => .act (ld1 (aadd a8 0)) fun v17 => asInt .i64 v17 fun i18 => .call 54 [(.int .i64 i18)] fun v19 => asInt .i64 v19 fun i20 => .get fun h25 => grd (chks [((ld1 (aadd a8 3)), v13)] h25) (bif (((n15 : Nat) : Int) != i20) == false then (.act (ld1 (aadd a8 1)) fun v21 => asStr v21 fun s22 => .act (ld1 (aadd a8 0)) fun v23 => asInt .i64 v23 fun i24 => .ret .normal [(.bool (!((!(s22.toList == (bs []).toList)) == (i24 == 4))))]) else (.ret .normal [(.bool true)]))) else (.ret .normal [(.bool true)])) else (.ret .normal [(.bool true)])) (T38k3 a8)
theorem T38_eq (i0 : Int) (s1 : ByteArray) (i2 : Int) (p3 : (Option Addr)) (n4 : Nat) (n5 : Nat) : progOf PROG false 38 [(.agg #[(.int .i64 i0), (.string s1), (.int .i64 i2), (.slice p3 n4 n5)])] = T38 i0 s1 i2 p3 n4 n5 := by kernel_rfl


noncomputable def T39k0 (i100 : Int) : Ex → List Value → Pg :=
  fun e171 l172 => sw e171 .normal (asNil l172 (.ret .normal [(.int .i64 (wi64 (i100 + 1)))])) (.fail)

noncomputable def T39b0 (n95 : Nat) (p94 : (Option Addr)) (a88 : Addr) (p0 : (Option Addr)) : List Value → Pg :=
  fun l97 => asCons l97 fun v98 l99 => asInt .i64 v98 fun i100 => asNil l99 (bif (decide (i100 < ((n95 : Nat) : Int))) then (.join (asSome p94 fun a101 => grd ((decide (0 ≤ i100)) && (decide (i100 < ((n95 : Nat) : Int)))) (.act (ldN 4 (aadd a101 ((Int.toNat i100) * 4))) fun v102 => asAgg v102 fun l103 => asCons l103 fun v104 l105 => asInt .i64 v104 fun i106 => asCons l105 fun v107 l108 => asStr v107 fun s109 => asCons l108 fun v110 l111 => asInt .i64 v110 fun i112 => asCons l111 fun v113 l114 => asSlice v113 fun p115 n116 n117 => asNil l114 (.act (newC [(.int .i64 0), (.string (bs [])), (.int .i64 0), (.slice none 0 0)]) fun v118 => asPtr v118 fun p119 => asSome p119 fun a120 => .act (stC a120 [(.int .i64 i106), (.string s109), (.int .i64 i112), (.slice p115 n116 n117)]) fun v121 => asTuple v121 fun l122 => asNil l122 (.act (ld1 (aadd a88 3)) fun v123 => asSlice v123 fun p124 n125 n126 => .act (ldN 4 a120) fun v127 => asAgg v127 fun l128 => asCons l128 fun v129 l130 => asInt .i64 v129 fun i131 => asCons l130 fun v132 l133 => asStr v132 fun s134 => asCons l133 fun v135 l136 => asInt .i64 v135 fun i137 => asCons l136 fun v138 l139 => asSlice v138 fun p140 n141 n142 => asNil l139 (.call 39 [(.pointer p0), (.agg #[(.int .i64 i131), (.string s134), (.int .i64 i137), (.slice p140 n141 n142)])] fun v143 => asAgg v143 fun l144 => asCons l144 fun v145 l146 => asInt .i64 v145 fun i147 => asCons l146 fun v148 l149 => asStr v148 fun s150 => asCons l149 fun v151 l152 => asInt .i64 v151 fun i153 => asCons l152 fun v154 l155 => asSlice v154 fun p156 n157 n158 => asNil l155 (.get fun h170 => grd (chks [((ld1 (aadd a88 3)), v123)] h170) (.act (bdSl 4 1 [(.int .i64 i147), (.string s150), (.int .i64 i153), (.slice p156 n157 n158)]) fun v159 => asSlice v159 fun p160 n161 n162 => .get fun h169 => grd (chks [((ld1 (aadd a88 3)), v123)] h169) (.act (apS 4 56 p124 n125 n126 p160 n161 n162) fun v163 => asSlice v163 fun p164 n165 n166 => .act (stC (aadd a88 3) [(.slice p164 n165 n166)]) fun v167 => asTuple v167 fun l168 => asNil l168 (.ret .normal []))))))))) (T39k0 i100)) else (.ret (.exit 0) [(.int .i64 i100)]))

noncomputable def T39k1 (a88 : Addr) (a12 : Addr) : Ex → List Value → Pg :=
  fun e173 l174 => sw e173 (.exit 0) (asCons l174 fun v175 l176 => asInt .i64 v175 fun i177 => asNil l176 (.act (ldN 4 a88) fun v178 => asAgg v178 fun l179 => asCons l179 fun v180 l181 => asInt .i64 v180 fun i182 => asCons l181 fun v183 l184 => asStr v183 fun s185 => asCons l184 fun v186 l187 => asInt .i64 v186 fun i188 => asCons l187 fun v189 l190 => asSlice v189 fun p191 n192 n193 => asNil l190 (.act (stC a12 [(.int .i64 i182), (.string s185), (.int .i64 i188), (.slice p191 n192 n193)]) fun v194 => asTuple v194 fun l195 => asNil l195 (.act (ldN 4 a12) fun v196 => .ret .ret [v196])))) (.fail)

/-- (*hindsight/ty.Sub).apply -/
noncomputable def T39 (p0 : (Option Addr)) (i1 : Int) (s2 : ByteArray) (i3 : Int) (p4 : (Option Addr)) (n5 : Nat) (n6 : Nat) : Pg :=
  .act (newC [(.int .i64 i1), (.string s2), (.int .i64 i3), (.slice p4 n5 n6)]) fun v7 => asPtr v7 fun p8 => asSome p8 fun a9 => .act (newC [(.int .i64 0), (.string (bs [])), (.int .i64 0), (.slice none 0 0)]) fun v10 => asPtr v10 fun p11 => asSome p11 fun a12 => .act (ldN 4 a9) fun v13 => asAgg v13 fun l14 => asCons l14 fun v15 l16 => asInt .i64 v15 fun i17 => asCons l16 fun v18 l19 => asStr v18 fun s20 => asCons l19 fun v21 l22 => asInt .i64 v21 fun i23 => asCons l22 fun v24 l25 => asSlice v24 fun p26 n27 n28 => asNil l25 (.call 48 [(.pointer p0), (.agg #[(.int .i64 i17), (.string s20), (.int .i64 i23), (.slice p26 n27 n28)])] fun v29 => asAgg v29 fun l30 => asCons l30 fun v31 l32 => asInt .i64 v31 fun i33 => asCons l32 fun v34 l35 => asStr v34 fun s36 => asCons l35 fun v37 l38 => asInt .i64 v37 fun i39 => asCons l38 fun v40 l41 => asSlice v40 fun p42 n43 n44 => asNil l41 (.act (stC a9 [(.int .i64 i33), (.string s36), (.int .i64 i39), (.slice p42 n43 n44)]) fun v45 => asTuple v45 fun l46 => asNil l46 (.act (ld1 (aadd a9 3)) fun v47 => asSlice v47 fun p48 n49 n50 => bif (((n49 : Nat) : Int) == 0) then (.act (ldN 4 a9) fun v51 => asAgg v51 fun l52 => asCons l52 fun v53 l54 => asInt .i64 v53 fun i55 => asCons l54 fun v56 l57 => asStr v56 fun s58 => asCons l57 fun v59 l60 => asInt .i64 v59 fun i61 => asCons l60 fun v62 l63 => asSlice v62 fun p64 n65 n66 => asNil l63 (.act (stC a12 [(.int .i64 i55), (.string s58), (.int .i64 i61), (.slice p64 n65 n66)]) fun v67 => asTuple v67 fun l68 => asNil l68 (.act (ldN 4 a12) fun v69 => .ret .ret [v69]))) else (.act (ldN 4 a9) fun v70 => asAgg v70 fun l71 => asCons l71 fun v72 l73 => asInt .i64 v72 fun i74 => asCons l73 fun v75 l76 => asStr v75 fun s77 => asCons l76 fun v78 l79 => asInt .i64 v78 fun i80 => asCons l79 fun v81 l82 => asSlice v81 fun p83 n84 n85 => asNil l82 (.act (newC [(.int .i64 0), (.string (bs [])), (.int .i64 0), (.slice none 0 0)]) fun v86 => asPtr v86 fun p87 => asSome p87 fun a88 => .act (stC a88 [(.int .i64 i74), (.string s77), (.int .i64 i80), (.slice p83 n84 n85)]) fun v89 => asTuple v89 fun l90 => asNil l90 (.act (stC (aadd a88 3) [(.slice none 0 0)]) fun v91 => asTuple v91 fun l92 => asNil l92 (.act (ld1 (aadd a9 3)) fun v93 => asSlice v93 fun p94 n95 n96 => .loop [(.int .i64 0)] (T39b0 n95 p94 a88 p0) (T39k1 a88 a12))))))))
theorem T39_eq (p0 : (Option Addr)) (i1 : Int) (s2 : ByteArray) (i3 : Int) (p4 : (Option Addr)) (n5 : Nat) (n6 : Nat) : progOf PROG false 39 [(.pointer p0), (.agg #[(.int .i64 i1), (.string s2), (.int .i64 i3), (.slice p4 n5 n6)])] = T39 p0 i1 s2 i3 p4 n5 n6 := by kernel_rfl


noncomputable def T41k0 (i17 : Int) : Ex → List Value → Pg :=
  fun e61 l62 => sw e61 (.exit 0) (asCons l62 fun v63 l64 => asInt .i64 v63 fun i65 => asNil l64 (.ret (.exit 0) [(.int .i64 i17), (.int .i64 i65)])) (sw e61 .normal (asCons l62 fun v66 l67 => asInt .i64 v66 fun i68 => asNil l67 (.ret .normal [(.int .i64 (wi64 (i17 + 1))), (.int .i64 i68)])) (.fail))

noncomputable def T41b0 (n12 : Nat) (p11 : (Option Addr)) : List Value → Pg :=
  fun l14 => asCons l14 fun v15 l16 => asInt .i64 v15 fun i17 => asCons l16 fun v18 l19 => asInt .i64 v18 fun i20 => asNil l19 (bif (decide (i17 < ((n12 : Nat) : Int))) then (.join (asSome p11 fun a21 => grd ((decide (0 ≤ i17)) && (decide (i17 < ((n12 : Nat) : Int)))) (.act (ldN 4 (aadd a21 ((Int.toNat i17) * 4))) fun v22 => asAgg v22 fun l23 => asCons l23 fun v24 l25 => asInt .i64 v24 fun i26 => asCons l25 fun v27 l28 => asStr v27 fun s29 => asCons l28 fun v30 l31 => asInt .i64 v30 fun i32 => asCons l31 fun v33 l34 => asSlice v33 fun p35 n36 n37 => asNil l34 (.act (newC [(.int .i64 0), (.string (bs [])), (.int .i64 0), (.slice none 0 0)]) fun v38 => asPtr v38 fun p39 => asSome p39 fun a40 => .act (stC a40 [(.int .i64 i26), (.string s29), (.int .i64 i32), (.slice p35 n36 n37)]) fun v41 => asTuple v41 fun l42 => asNil l42 (bif (decide (i20 > 500)) then (.ret (.exit 0) [(.int .i64 i20)]) else (.act (ldN 4 a40) fun v43 => asAgg v43 fun l44 => asCons l44 fun v45 l46 => asInt .i64 v45 fun i47 => asCons l46 fun v48 l49 => asStr v48 fun s50 => asCons l49 fun v51 l52 => asInt .i64 v51 fun i53 => asCons l52 fun v54 l55 => asSlice v54 fun p56 n57 n58 => asNil l55 (.call 41 [(.agg #[(.int .i64 i47), (.string s50), (.int .i64 i53), (.slice p56 n57 n58)]), (.int .i64 i20)] fun v59 => asInt .i64 v59 fun i60 => .ret .normal [(.int .i64 i60)])))))) (T41k0 i17)) else (.ret (.exit 0) [(.int .i64 i17), (.int .i64 i20)]))

noncomputable def T41k1 : Ex → List Value → Pg :=
  fun e69 l70 => sw e69 (.exit 0) (asCons l70 fun v71 l72 => asInt .i64 v71 fun i73 => asCons l72 fun v74 l75 => asInt .i64 v74 fun i76 => asNil l75 (.ret .ret [(.int .i64 (minV i76 501))])) (.fail)

/-- hindsight/ty.measure -/
noncomputable def T41 (i0 : Int) (s1 : ByteArray) (i2 : Int) (p3 : (Option Addr)) (n4 : Nat) (n5 : Nat) (i6 : Int) : Pg :=
  .act (newC [(.int .i64 i0), (.string s1), (.int .i64 i2), (.slice p3 n4 n5)]) fun v7 => asPtr v7 fun p8 => asSome p8 fun a9 => .act (ld1 (aadd a9 3)) fun v10 => asSlice v10 fun p11 n12 n13 => .loop [(.int .i64 0), (.int .i64 (wi64 (i6 + 1)))] (T41b0 n12 p11) (T41k1)
theorem T41_eq (i0 : Int) (s1 : ByteArray) (i2 : Int) (p3 : (Option Addr)) (n4 : Nat) (n5 : Nat) (i6 : Int) : progOf PROG false 41 [(.agg #[(.int .i64 i0), (.string s1), (.int .i64 i2), (.slice p3 n4 n5)]), (.int .i64 i6)] = T41 i0 s1 i2 p3 n4 n5 i6 := by kernel_rfl


/-- hindsight/ty.letter -/
noncomputable def T42 (i0 : Int) : Pg :=
  bif (decide (i0 < 26)) then (grd (Nat.ble (1 + (Utf8.encode (wi32 (wi64 (97 + i0)))).size) 9223372036854775807) (.ret .ret [(.string ((bs [39]) ++ (Utf8.encode (wi32 (wi64 (97 + i0))))))])) else (.call 55 [(.int .i64 (wi64 (i0 + 1)))] fun v1 => asStr v1 fun s2 => grd (Nat.ble (1 + s2.size) 9223372036854775807) (.ret .ret [(.string ((bs [39]) ++ s2))]))
theorem T42_eq (i0 : Int) : progOf PROG false 42 [(.int .i64 i0)] = T42 i0 := by kernel_rfl


noncomputable def T43k0 (a9 : Addr) (m6 : (Option Nat)) : Ex → List Value → Pg :=
  fun e80 l81 => sw e80 .normal (asCons l81 fun v82 l83 => asBool v82 fun b84 => asNil l83 (bif b84 then (.act (ld1 (aadd a9 3)) fun v85 => asSlice v85 fun p86 n87 n88 => asSome p86 fun a89 => grd (decide (0 < ((n87 : Nat) : Int))) (.act (ldN 4 (aadd a89 0)) fun v90 => asAgg v90 fun l91 => asCons l91 fun v92 l93 => asInt .i64 v92 fun i94 => asCons l93 fun v95 l96 => asStr v95 fun s97 => asCons l96 fun v98 l99 => asInt .i64 v98 fun i100 => asCons l99 fun v101 l102 => asSlice v101 fun p103 n104 n105 => asNil l102 (.call 43 [(.agg #[(.int .i64 i94), (.string s97), (.int .i64 i100), (.slice p103 n104 n105)]), (.map m6)] fun v106 => asStr v106 fun s107 => grd (Nat.ble (1 + s107.size) 9223372036854775807) (grd (Nat.ble (((bs [40]) ++ s107).size + 5) 9223372036854775807) (.ret .ret [(.string (((bs [40]) ++ s107) ++ (bs [32, 114, 101, 102, 41])))]))))) else (.act (ld1 (aadd a9 0)) fun v108 => asInt .i64 v108 fun i109 => bif (i109 == 1) then (.ret .ret [(.string (bs [105, 110, 116]))]) else (.act (ld1 (aadd a9 0)) fun v110 => asInt .i64 v110 fun i111 => bif (i111 == 2) then (.ret .ret [(.string (bs [98, 111, 111, 108]))]) else (.act (ld1 (aadd a9 0)) fun v112 => asInt .i64 v112 fun i113 => bif (i113 == 3) then (.ret .ret [(.string (bs [117, 110, 105, 116]))]) else (.act (ld1 (aadd a9 0)) fun v114 => asInt .i64 v114 fun i115 => bif (i115 == 4) then (.act (ld1 (aadd a9 1)) fun v116 => asStr v116 fun s117 => .ret .ret [(.string s117)]) else (.ret .normal [(.string (bs []))]))))))) (.fail)

noncomputable def T43k1 (a9 : Addr) (m6 : (Option Nat)) : Ex → List Value → Pg :=
  fun e22 l23 => sw e22 .normal (asCons l23 fun v24 l25 => asBool v24 fun b26 => asNil l25 (bif b26 then (.act (ld1 (aadd a9 3)) fun v27 => asSlice v27 fun p28 n29 n30 => asSome p28 fun a31 => grd (decide (0 < ((n29 : Nat) : Int))) (.act (ldN 4 (aadd a31 0)) fun v32 => asAgg v32 fun l33 => asCons l33 fun v34 l35 => asInt .i64 v34 fun i36 => asCons l35 fun v37 l38 => asStr v37 fun s39 => asCons l38 fun v40 l41 => asInt .i64 v40 fun i42 => asCons l41 fun v43 l44 => asSlice v43 fun p45 n46 n47 => asNil l44 (.get fun h49 => .call 43 [(.agg #[(.int .i64 i36), (.string s39), (.int .i64 i42), (.slice p45 n46 n47)]), (.map m6)] fun v48 => asStr v48 fun s50 => grd (Nat.ble (1 + s50.size) 9223372036854775807) (grd (Nat.ble (((bs [40]) ++ s50).size + 4) 9223372036854775807) (.act (ld1 (aadd a9 3)) fun v51 => grd (past (ld1 (aadd a9 3)) v51 [h49]) (asSlice v51 fun p52 n53 n54 => asSome p52 fun a55 => grd (decide (1 < ((n53 : Nat) : Int))) (.act (ldN 4 (aadd a55 4)) fun v56 => grd (past (ldN 4 (aadd a55 4)) v56 [h49]) (asAgg v56 fun l57 => asCons l57 fun v58 l59 => asInt .i64 v58 fun i60 => asCons l59 fun v61 l62 => asStr v61 fun s63 => asCons l62 fun v64 l65 => asInt .i64 v64 fun i66 => asCons l65 fun v67 l68 => asSlice v67 fun p69 n70 n71 => asNil l68 (.call 43 [(.agg #[(.int .i64 i60), (.string s63), (.int .i64 i66), (.slice p69 n70 n71)]), (.map m6)] fun v72 => asStr v72 fun s73 => grd (Nat.ble ((((bs [40]) ++ s50) ++ (bs [32, 45, 62, 32])).size + s73.size) 9223372036854775807) (grd (Nat.ble (((((bs [40]) ++ s50) ++ (bs [32, 45, 62, 32])) ++ s73).size + 1) 9223372036854775807) (.ret .ret [(.string (((((bs [40]) ++ s50) ++ (bs [32, 45, 62, 32])) ++ s73) ++ (bs [41])))]))))))))))) else (.join (.act (ld1 (aadd a9 0)) fun v74 => asInt .i64 v74 fun i75 => bif (i75 == 6) == true then (.act (ld1 (aadd a9 3)) fun v76 => asSlice v76 fun p77 n78 n79 => .ret .normal [(.bool (((n78 : Nat) : Int) == 1))]) else (.ret .normal [(.bool false)])) (T43k0 a9 m6)))) (.fail)

noncomputable def T43k2 : Ex → List Value → Pg :=
  fun e118 l119 => sw e118 .ret (asCons l119 fun v120 l121 => asStr v120 fun s122 => asNil l121 (.ret .ret [(.string s122)])) (sw e118 .normal (asCons l119 fun v123 l124 => asStr v123 fun s125 => asNil l124 (.ret .ret [(.string (bs []))])) (.fail))

/-- hindsight/ty.show -/
noncomputable def T43 (i0 : Int) (s1 : ByteArray) (i2 : Int) (p3 : (Option Addr)) (n4 : Nat) (n5 : Nat) (m6 : (Option Nat)) : Pg :=
  .act (newC [(.int .i64 i0), (.string s1), (.int .i64 i2), (.slice p3 n4 n5)]) fun v7 => asPtr v7 fun p8 => asSome p8 fun a9 => .join (.act (ld1 (aadd a9 0)) fun v10 => asInt .i64 v10 fun i11 => bif (i11 == 7) then (.act (ld1 (aadd a9 2)) fun v12 => asInt .i64 v12 fun i13 => .act (lkp (.int .i64) (.string (bs [])) m6 (.int .i64 i13) false) fun v14 => asStr v14 fun s15 => .ret .ret [(.string s15)]) else (.join (.act (ld1 (aadd a9 0)) fun v16 => asInt .i64 v16 fun i17 => bif (i17 == 5) == true then (.act (ld1 (aadd a9 3)) fun v18 => asSlice v18 fun p19 n20 n21 => .ret .normal [(.bool (((n20 : Nat) : Int) == 2))]) else (.ret .normal [(.bool false)])) (T43k1 a9 m6))) (T43k2)
theorem T43_eq (i0 : Int) (s1 : ByteArray) (i2 : Int) (p3 : (Option Addr)) (n4 : Nat) (n5 : Nat) (m6 : (Option Nat)) : progOf PROG false 43 [(.agg #[(.int .i64 i0), (.string s1), (.int .i64 i2), (.slice p3 n4 n5)]), (.map m6)] = T43 i0 s1 i2 p3 n4 n5 m6 := by kernel_rfl


noncomputable def T44k0 : Ex → List Value → Pg :=
  fun e11 l12 => sw e11 .normal (asCons l12 fun v13 l14 => asBool v13 fun b15 => asNil l14 (.ret .normal [(.bool b15)])) (.fail)

noncomputable def T44k1 : Ex → List Value → Pg :=
  fun e16 l17 => sw e16 .normal (asCons l17 fun v18 l19 => asBool v18 fun b20 => asNil l19 (.ret .normal [(.bool b20)])) (.fail)

noncomputable def T44k2 : Ex → List Value → Pg :=
  fun e21 l22 => sw e21 .normal (asCons l22 fun v23 l24 => asBool v23 fun b25 => asNil l24 (.ret .normal [(.bool b25)])) (.fail)

noncomputable def T44k3 : Ex → List Value → Pg :=
  fun e31 l32 => sw e31 .normal (asCons l32 fun v33 l34 => asBool v33 fun b35 => asCons l34 fun v36 l37 => asInt .i64 v36 fun i38 => asNil l37 (.ret .normal [(.bool b35), (.int .i64 i38)])) (sw e31 .ret (asCons l32 fun v39 l40 => asBool v39 fun b41 => asCons l40 fun v42 l43 => asInt .i64 v42 fun i44 => asNil l43 (.ret .ret [(.bool b41), (.int .i64 i44)])) (.fail))

noncomputable def T44k4 : Ex → List Value → Pg :=
  fun e45 l46 => sw e45 .normal (asCons l46 fun v47 l48 => asBool v47 fun b49 => asCons l48 fun v50 l51 => asInt .i64 v50 fun i52 => asNil l51 (.ret .normal [(.bool b49), (.int .i64 i52)])) (sw e45 .ret (asCons l46 fun v53 l54 => asBool v53 fun b55 => asCons l54 fun v56 l57 => asInt .i64 v56 fun i58 => asNil l57 (.ret .ret [(.bool b55), (.int .i64 i58)])) (.fail))

noncomputable def T44k5 (i10 : Int) : Ex → List Value → Pg :=
  fun e26 l27 => sw e26 .normal (asCons l27 fun v28 l29 => asBool v28 fun b30 => asNil l29 (.join (bif b30 then (.ret .normal [(.bool false), (.int .i64 0)]) else (.join (bif (i10 == 5) then (.ret .normal [(.bool false), (.int .i64 2)]) else (bif (i10 == 6) then (.ret .normal [(.bool false), (.int .i64 1)]) else (.ret .ret [(.bool false), (.int .i64 0)]))) (T44k3))) (T44k4))) (.fail)

noncomputable def T44k6 (i95 : Int) : Ex → List Value → Pg :=
  fun e126 l127 => sw e126 .ret (asCons l127 fun v128 l129 => asBool v128 fun b130 => asNil l129 (.ret .ret [(.int .i64 i95), (.bool b130)])) (sw e126 .normal (asCons l127 fun v131 l132 => asBool v131 fun b133 => asNil l132 (.ret .normal [(.int .i64 (wi64 (i95 + 1))), (.bool b133)])) (.fail))

noncomputable def T44b0 (a8 : Addr) : List Value → Pg :=
  fun l92 => asCons l92 fun v93 l94 => asInt .i64 v93 fun i95 => asCons l94 fun v96 l97 => asBool v96 fun b98 => asNil l97 (.act (ld1 (aadd a8 3)) fun v99 => asSlice v99 fun p100 n101 n102 => bif (decide (i95 < ((n101 : Nat) : Int))) then (.join (.act (ld1 (aadd a8 3)) fun v103 => asSlice v103 fun p104 n105 n106 => asSome p104 fun a107 => grd ((decide (0 ≤ i95)) && (decide (i95 < ((n105 : Nat) : Int)))) (.act (ldN 4 (aadd a107 ((Int.toNat i95) * 4))) fun v108 => asAgg v108 fun l109 => asCons l109 fun v110 l111 => asInt .i64 v110 fun i112 => asCons l111 fun v113 l114 => asStr v113 fun s115 => asCons l114 fun v116 l117 => asInt .i64 v116 fun i118 => asCons l117 fun v119 l120 => asSlice v119 fun p121 n122 n123 => asNil l120 (.call 44 [(.agg #[(.int .i64 i112), (.string s115), (.int .i64 i118), (.slice p121 n122 n123)])] fun v124 => asBool v124 fun b125 => bif (!b125) then (.ret .ret [(.bool false)]) else (.ret .normal [(.bool b98)])))) (T44k6 i95)) else (.ret (.exit 1) [(.int .i64 i95), (.bool b98)]))

noncomputable def T44k7 : Ex → List Value → Pg :=
  fun e134 l135 => sw e134 (.exit 1) (asCons l135 fun v136 l137 => asInt .i64 v136 fun i138 => asCons l137 fun v139 l140 => asBool v139 fun b141 => asNil l140 (.ret .ret [(.bool true)])) (sw e134 .ret (asCons l135 fun v142 l143 => asInt .i64 v142 fun i144 => asCons l143 fun v145 l146 => asBool v145 fun b147 => asNil l146 (.ret .ret [(.bool b147)])) (.fail))

noncomputable def T44k8 (b63 : Bool) (a8 : Addr) : Ex → List Value → Pg :=
  fun e87 l88 => sw e87 .normal (asCons l88 fun v89 l90 => asBool v89 fun b91 => asNil l90 (bif b91 then (.ret .ret [(.bool false)]) else (.loop [(.int .i64 0), (.bool b63)] (T44b0 a8) (T44k7)))) (.fail)

noncomputable def T44k9 (a8 : Addr) : Ex → List Value → Pg :=
  fun e59 l60 => sw e59 .normal (asCons l60 fun v61 l62 => asBool v61 fun b63 => asCons l62 fun v64 l65 => asInt .i64 v64 fun i66 => asNil l65 (.join (.act (ld1 (aadd a8 3)) fun v67 => asSlice v67 fun p68 n69 n70 => bif (((n69 : Nat) : Int) != i66) == false then (.act (ld1 (aadd a8 1)) fun v71 => asStr v71 fun s72 => .act (ld1 (aadd a8 0)) fun v73 => asInt .i64 v73 fun i74 => bif (!((!(s72.toList == (bs []).toList)) == (i74 == 4))) == false then (.act (ld1 (aadd a8 0)) fun v75 => asInt .i64 v75 fun i76 => bif (i76 != 7) == true then (.act (ld1 (aadd a8 2)) fun v77 => asInt .i64 v77 fun i78 => bif (i78 != 0) == false then (.act (ld1 (aadd a8 2)) fun v79 => asInt .i64 v79 fun i80 => bif (decide (i80 < 0)) == false then (.act (ld1 (aadd a8 2)) fun v81 => asInt .i64 v81 fun i82 => .ret .normal [(.bool (decide (i82 > 1999)))]) else (.ret .normal [(.bool true)])) else (.ret .normal [(.bool true)])) else (.act (ld1 (aadd a8 2)) fun v83 => asInt .i64 v83 fun i84 => bif (decide (i84 < 0)) == false then (.act (ld1 (aadd a8 2)) fun v85 => asInt .i64 v85 fun i86 => .ret .normal [(.bool (decide (i86 > 1999)))]) else (.ret .normal [(.bool true)]))) else (.ret .normal [(.bool true)])) else (.ret .normal [(.bool true)])) (T44k8 b63 a8))) (sw e59 .ret (asCons l60 fun v148 l149 => asBool v148 fun b150 => asCons l149 fun v151 l152 => asInt .i64 v151 fun i153 => asNil l152 (.ret .ret [(.bool b150)])) (.fail))

/-- hindsight/hindsightref5.kinds -/
noncomputable def T44 (i0 : Int) (s1 : ByteArray) (i2 : Int) (p3 : (Option Addr)) (n4 : Nat) (n5 : Nat) : Pg :=
  .act (newC [(.int .i64 i0), (.string s1), (.int .i64 i2), (.slice p3 n4 n5)]) fun v6 => asPtr v6 fun p7 => asSome p7 fun a8 => .act (ld1 (aadd a8 0)) fun v9 => asInt .i64 v9 fun i10 => .join (.join (bif (i10 == 1) then (.ret .normal [(.bool (i10 == 1))]) else (.join (bif (i10 == 2) then (.ret .normal [(.bool (i10 == 2))]) else (.join (bif (i10 == 3) then (.ret .normal [(.bool (i10 == 3))]) else (.join (bif (i10 == 4) then (.ret .normal [(.bool (i10 == 4))]) else (.ret .normal [(.bool (i10 == 7))])) (T44k0))) (T44k1))) (T44k2))) (T44k5 i10)) (T44k9 a8)
theorem T44_eq (i0 : Int) (s1 : ByteArray) (i2 : Int) (p3 : (Option Addr)) (n4 : Nat) (n5 : Nat) : progOf PROG false 44 [(.agg #[(.int .i64 i0), (.string s1), (.int .i64 i2), (.slice p3 n4 n5)])] = T44 i0 s1 i2 p3 n4 n5 := by kernel_rfl


noncomputable def T45k0 (i97 : Int) : Ex → List Value → Pg :=
  fun e114 l115 => sw e114 .ret (asCons l115 fun v116 l117 => asStr v116 fun s118 => asNil l117 (.ret .ret [(.int .i64 i97), (.string s118)])) (sw e114 .normal (asCons l115 fun v119 l120 => asStr v119 fun s121 => asNil l120 (.ret .normal [(.int .i64 (wi64 (i97 + 1))), (.string s121)])) (.fail))

noncomputable def T45b0 (n7 : Nat) (p6 : (Option Addr)) (a11 : Addr) : List Value → Pg :=
  fun l94 => asCons l94 fun v95 l96 => asInt .i64 v95 fun i97 => asCons l96 fun v98 l99 => asStr v98 fun s100 => asNil l99 (bif (decide (i97 < ((n7 : Nat) : Int))) then (.join (asSome p6 fun a101 => grd ((decide (0 ≤ i97)) && (decide (i97 < ((n7 : Nat) : Int)))) (.act (ld1 (aadd a101 ((Int.toNat i97) * 1))) fun v102 => asInt .i64 v102 fun i103 => .act (ld1 (aadd a11 2)) fun v104 => asInt .i64 v104 fun i105 => bif (i103 == i105) then (bif (decide (i97 < 26)) then (.act (bdSl 1 1 [(.int .u8 (wu8 (wi64 (97 + i97))))]) fun v106 => asSlice v106 fun p107 n108 n109 => .act (bytesToStringAct (.slice p107 n108 n109)) fun v110 => asStr v110 fun s111 => grd (Nat.ble (1 + s111.size) 9223372036854775807) (.ret .ret [(.string ((bs [39]) ++ s111))])) else (.call 56 [(.int .i64 (wi64 (i97 + 1)))] fun v112 => asStr v112 fun s113 => grd (Nat.ble (1 + s113.size) 9223372036854775807) (.ret .ret [(.string ((bs [39]) ++ s113))]))) else (.ret .normal [(.string s100)]))) (T45k0 i97)) else (.ret (.exit 1) [(.int .i64 i97), (.string s100)]))

noncomputable def T45k1 : Ex → List Value → Pg :=
  fun e122 l123 => sw e122 (.exit 1) (asCons l123 fun v124 l125 => asInt .i64 v124 fun i126 => asCons l125 fun v127 l128 => asStr v127 fun s129 => asNil l128 (.ret .normal [(.string s129)])) (sw e122 .ret (asCons l123 fun v130 l131 => asInt .i64 v130 fun i132 => asCons l131 fun v133 l134 => asStr v133 fun s135 => asNil l134 (.ret .ret [(.string s135)])) (.fail))

noncomputable def T45k2 : Ex → List Value → Pg :=
  fun e136 l137 => sw e136 .ret (asCons l137 fun v138 l139 => asStr v138 fun s140 => asNil l139 (.ret .ret [(.string s140)])) (sw e136 .normal (asCons l137 fun v141 l142 => asStr v141 fun s143 => asNil l142 (.ret .normal [(.string s143)])) (.fail))

noncomputable def T45k3 : Ex → List Value → Pg :=
  fun e144 l145 => sw e144 .ret (asCons l145 fun v146 l147 => asStr v146 fun s148 => asNil l147 (.ret .ret [(.string s148)])) (sw e144 .normal (asCons l145 fun v149 l150 => asStr v149 fun s151 => asNil l150 (.ret .normal [(.string s151)])) (.fail))

noncomputable def T45k4 : Ex → List Value → Pg :=
  fun e152 l153 => sw e152 .ret (asCons l153 fun v154 l155 => asStr v154 fun s156 => asNil l155 (.ret .ret [(.string s156)])) (sw e152 .normal (asCons l153 fun v157 l158 => asStr v157 fun s159 => asNil l158 (.ret .normal [(.string s159)])) (.fail))

noncomputable def T45k5 : Ex → List Value → Pg :=
  fun e160 l161 => sw e160 .ret (asCons l161 fun v162 l163 => asStr v162 fun s164 => asNil l163 (.ret .ret [(.string s164)])) (sw e160 .normal (asCons l161 fun v165 l166 => asStr v165 fun s167 => asNil l166 (.ret .ret [(.string (bs []))])) (.fail))

/-- hindsight/hindsightref5.show -/
noncomputable def T45 (i0 : Int) (s1 : ByteArray) (i2 : Int) (p3 : (Option Addr)) (n4 : Nat) (n5 : Nat) (p6 : (Option Addr)) (n7 : Nat) (n8 : Nat) : Pg :=
  .act (newC [(.int .i64 i0), (.string s1), (.int .i64 i2), (.slice p3 n4 n5)]) fun v9 => asPtr v9 fun p10 => asSome p10 fun a11 => .act (ld1 (aadd a11 0)) fun v12 => asInt .i64 v12 fun i13 => .join (bif (i13 == 1) then (.ret .ret [(.string (bs [105, 110, 116]))]) else (bif (i13 == 2) then (.ret .ret [(.string (bs [98, 111, 111, 108]))]) else (bif (i13 == 3) then (.ret .ret [(.string (bs [117, 110, 105, 116]))]) else (bif (i13 == 4) then (.act (ld1 (aadd a11 1)) fun v14 => asStr v14 fun s15 => .ret .ret [(.string s15)]) else (.join (bif (i13 == 5) then (.act (ld1 (aadd a11 3)) fun v16 => asSlice v16 fun p17 n18 n19 => bif (((n18 : Nat) : Int) == 2) then (.act (ld1 (aadd a11 3)) fun v20 => asSlice v20 fun p21 n22 n23 => asSome p21 fun a24 => grd (decide (0 < ((n22 : Nat) : Int))) (.act (ldN 4 (aadd a24 0)) fun v25 => asAgg v25 fun l26 => asCons l26 fun v27 l28 => asInt .i64 v27 fun i29 => asCons l28 fun v30 l31 => asStr v30 fun s32 => asCons l31 fun v33 l34 => asInt .i64 v33 fun i35 => asCons l34 fun v36 l37 => asSlice v36 fun p38 n39 n40 => asNil l37 (.get fun h42 => .call 45 [(.agg #[(.int .i64 i29), (.string s32), (.int .i64 i35), (.slice p38 n39 n40)]), (.slice p6 n7 n8)] fun v41 => asStr v41 fun s43 => grd (Nat.ble (1 + s43.size) 9223372036854775807) (grd (Nat.ble (((bs [40]) ++ s43).size + 4) 9223372036854775807) (.act (ld1 (aadd a11 3)) fun v44 => grd (past (ld1 (aadd a11 3)) v44 [h42]) (asSlice v44 fun p45 n46 n47 => asSome p45 fun a48 => grd (decide (1 < ((n46 : Nat) : Int))) (.act (ldN 4 (aadd a48 4)) fun v49 => grd (past (ldN 4 (aadd a48 4)) v49 [h42]) (asAgg v49 fun l50 => asCons l50 fun v51 l52 => asInt .i64 v51 fun i53 => asCons l52 fun v54 l55 => asStr v54 fun s56 => asCons l55 fun v57 l58 => asInt .i64 v57 fun i59 => asCons l58 fun v60 l61 => asSlice v60 fun p62 n63 n64 => asNil l61 (.call 45 [(.agg #[(.int .i64 i53), (.string s56), (.int .i64 i59), (.slice p62 n63 n64)]), (.slice p6 n7 n8)] fun v65 => asStr v65 fun s66 => grd (Nat.ble ((((bs [40]) ++ s43) ++ (bs [32, 45, 62, 32])).size + s66.size) 9223372036854775807) (grd (Nat.ble (((((bs [40]) ++ s43) ++ (bs [32, 45, 62, 32])) ++ s66).size + 1) 9223372036854775807) (.ret .ret [(.string (((((bs [40]) ++ s43) ++ (bs [32, 45, 62, 32])) ++ s66) ++ (bs [41])))]))))))))))) else (.ret .normal [(.string (bs []))])) else (.join (bif (i13 == 6) then (.act (ld1 (aadd a11 3)) fun v67 => asSlice v67 fun p68 n69 n70 => bif (((n69 : Nat) : Int) == 1) then (.act (ld1 (aadd a11 3)) fun v71 => asSlice v71 fun p72 n73 n74 => asSome p72 fun a75 => grd (decide (0 < ((n73 : Nat) : Int))) (.act (ldN 4 (aadd a75 0)) fun v76 => asAgg v76 fun l77 => asCons l77 fun v78 l79 => asInt .i64 v78 fun i80 => asCons l79 fun v81 l82 => asStr v81 fun s83 => asCons l82 fun v84 l85 => asInt .i64 v84 fun i86 => asCons l85 fun v87 l88 => asSlice v87 fun p89 n90 n91 => asNil l88 (.call 45 [(.agg #[(.int .i64 i80), (.string s83), (.int .i64 i86), (.slice p89 n90 n91)]), (.slice p6 n7 n8)] fun v92 => asStr v92 fun s93 => grd (Nat.ble (1 + s93.size) 9223372036854775807) (grd (Nat.ble (((bs [40]) ++ s93).size + 5) 9223372036854775807) (.ret .ret [(.string (((bs [40]) ++ s93) ++ (bs [32, 114, 101, 102, 41])))]))))) else (.ret .normal [(.string (bs []))])) else (.join (bif (i13 == 7) then (.loop [(.int .i64 0), (.string (bs []))] (T45b0 n7 p6 a11) (T45k1)) else (.ret .normal [(.string (bs []))])) (T45k2))) (T45k3))) (T45k4)))))) (T45k5)
theorem T45_eq (i0 : Int) (s1 : ByteArray) (i2 : Int) (p3 : (Option Addr)) (n4 : Nat) (n5 : Nat) (p6 : (Option Addr)) (n7 : Nat) (n8 : Nat) : progOf PROG false 45 [(.agg #[(.int .i64 i0), (.string s1), (.int .i64 i2), (.slice p3 n4 n5)]), (.slice p6 n7 n8)] = T45 i0 s1 i2 p3 n4 n5 p6 n7 n8 := by kernel_rfl


noncomputable def T46k0 (i17 : Int) : Ex → List Value → Pg :=
  fun e28 l29 => sw e28 .ret (asCons l29 fun v30 l31 => asSlice v30 fun p32 n33 n34 => asNil l31 (.ret .ret [(.int .i64 i17), (.slice p32 n33 n34)])) (sw e28 .normal (asCons l29 fun v35 l36 => asSlice v35 fun p37 n38 n39 => asNil l36 (.ret .normal [(.int .i64 (wi64 (i17 + 1))), (.slice p37 n38 n39)])) (.fail))

noncomputable def T46b0 (n7 : Nat) (p6 : (Option Addr)) (a11 : Addr) (n8 : Nat) : List Value → Pg :=
  fun l14 => asCons l14 fun v15 l16 => asInt .i64 v15 fun i17 => asCons l16 fun v18 l19 => asSlice v18 fun p20 n21 n22 => asNil l19 (bif (decide (i17 < ((n7 : Nat) : Int))) then (.join (asSome p6 fun a23 => grd ((decide (0 ≤ i17)) && (decide (i17 < ((n7 : Nat) : Int)))) (.act (ld1 (aadd a23 ((Int.toNat i17) * 1))) fun v24 => asInt .i64 v24 fun i25 => .act (ld1 (aadd a11 2)) fun v26 => asInt .i64 v26 fun i27 => bif (i25 == i27) then (.ret .ret [(.slice p6 n7 n8)]) else (.ret .normal [(.slice p20 n21 n22)]))) (T46k0 i17)) else (.ret (.exit 0) [(.int .i64 i17), (.slice p20 n21 n22)]))

noncomputable def T46k1 (a11 : Addr) (p6 : (Option Addr)) (n7 : Nat) (n8 : Nat) : Ex → List Value → Pg :=
  fun e40 l41 => sw e40 (.exit 0) (asCons l41 fun v42 l43 => asInt .i64 v42 fun i44 => asCons l43 fun v45 l46 => asSlice v45 fun p47 n48 n49 => asNil l46 (.act (ld1 (aadd a11 2)) fun v50 => asInt .i64 v50 fun i51 => .act (bdSl 1 1 [(.int .i64 i51)]) fun v52 => asSlice v52 fun p53 n54 n55 => .act (apS 1 8 p6 n7 n8 p53 n54 n55) fun v56 => asSlice v56 fun p57 n58 n59 => .ret .ret [(.slice p57 n58 n59)])) (sw e40 .ret (asCons l41 fun v60 l61 => asInt .i64 v60 fun i62 => asCons l61 fun v63 l64 => asSlice v63 fun p65 n66 n67 => asNil l64 (.ret .ret [(.slice p65 n66 n67)])) (.fail))

noncomputable def T46k2 (i75 : Int) : Ex → List Value → Pg :=
  fun e123 l124 => sw e123 .normal (asCons l124 fun v125 l126 => asSlice v125 fun p127 n128 n129 => asNil l126 (.ret .normal [(.int .i64 (wi64 (i75 + 1))), (.slice p127 n128 n129)])) (.fail)

noncomputable def T46b1 (n70 : Nat) (p69 : (Option Addr)) : List Value → Pg :=
  fun l72 => asCons l72 fun v73 l74 => asInt .i64 v73 fun i75 => asCons l74 fun v76 l77 => asSlice v76 fun p78 n79 n80 => asNil l77 (bif (decide (i75 < ((n70 : Nat) : Int))) then (.join (asSome p69 fun a81 => grd ((decide (0 ≤ i75)) && (decide (i75 < ((n70 : Nat) : Int)))) (.act (ldN 4 (aadd a81 ((Int.toNat i75) * 4))) fun v82 => asAgg v82 fun l83 => asCons l83 fun v84 l85 => asInt .i64 v84 fun i86 => asCons l85 fun v87 l88 => asStr v87 fun s89 => asCons l88 fun v90 l91 => asInt .i64 v90 fun i92 => asCons l91 fun v93 l94 => asSlice v93 fun p95 n96 n97 => asNil l94 (.act (newC [(.int .i64 0), (.string (bs [])), (.int .i64 0), (.slice none 0 0)]) fun v98 => asPtr v98 fun p99 => asSome p99 fun a100 => .act (stC a100 [(.int .i64 i86), (.string s89), (.int .i64 i92), (.slice p95 n96 n97)]) fun v101 => asTuple v101 fun l102 => asNil l102 (.act (ldN 4 a100) fun v103 => asAgg v103 fun l104 => asCons l104 fun v105 l106 => asInt .i64 v105 fun i107 => asCons l106 fun v108 l109 => asStr v108 fun s110 => asCons l109 fun v111 l112 => asInt .i64 v111 fun i113 => asCons l112 fun v114 l115 => asSlice v114 fun p116 n117 n118 => asNil l115 (.call 46 [(.agg #[(.int .i64 i107), (.string s110), (.int .i64 i113), (.slice p116 n117 n118)]), (.slice p78 n79 n80)] fun v119 => asSlice v119 fun p120 n121 n122 => .ret .normal [(.slice p120 n121 n122)]))))) (T46k2 i75)) else (.ret (.exit 2) [(.int .i64 i75), (.slice p78 n79 n80)]))

noncomputable def T46k3 : Ex → List Value → Pg :=
  fun e130 l131 => sw e130 (.exit 2) (asCons l131 fun v132 l133 => asInt .i64 v132 fun i134 => asCons l133 fun v135 l136 => asSlice v135 fun p137 n138 n139 => asNil l136 (.ret .ret [(.slice p137 n138 n139)])) (.fail)

/-- hindsight/ty.vars -/
noncomputable def T46 (i0 : Int) (s1 : ByteArray) (i2 : Int) (p3 : (Option Addr)) (n4 : Nat) (n5 : Nat) (p6 : (Option Addr)) (n7 : Nat) (n8 : Nat) : Pg :=
  .act (newC [(.int .i64 i0), (.string s1), (.int .i64 i2), (.slice p3 n4 n5)]) fun v9 => asPtr v9 fun p10 => asSome p10 fun a11 => .act (ld1 (aadd a11 0)) fun v12 => asInt .i64 v12 fun i13 => bif (i13 == 7) then (.loop [(.int .i64 0), (.slice none 0 0)] (T46b0 n7 p6 a11 n8) (T46k1 a11 p6 n7 n8)) else (.act (ld1 (aadd a11 3)) fun v68 => asSlice v68 fun p69 n70 n71 => .loop [(.int .i64 0), (.slice p6 n7 n8)] (T46b1 n70 p69) (T46k3))
theorem T46_eq (i0 : Int) (s1 : ByteArray) (i2 : Int) (p3 : (Option Addr)) (n4 : Nat) (n5 : Nat) (p6 : (Option Addr)) (n7 : Nat) (n8 : Nat) : progOf PROG false 46 [(.agg #[(.int .i64 i0), (.string s1), (.int .i64 i2), (.slice p3 n4 n5)]), (.slice p6 n7 n8)] = T46 i0 s1 i2 p3 n4 n5 p6 n7 n8 := by kernel_rfl


noncomputable def T47k0 (i46 : Int) : Ex → List Value → Pg :=
  fun e81 l82 => sw e81 .normal (asCons l82 fun v83 l84 => asSlice v83 fun p85 n86 n87 => asNil l84 (.ret .normal [(.int .i64 (wi64 (i46 + 1))), (.slice p85 n86 n87)])) (.fail)

noncomputable def T47b0 (a11 : Addr) : List Value → Pg :=
  fun l43 => asCons l43 fun v44 l45 => asInt .i64 v44 fun i46 => asCons l45 fun v47 l48 => asSlice v47 fun p49 n50 n51 => asNil l48 (.act (ld1 (aadd a11 3)) fun v52 => asSlice v52 fun p53 n54 n55 => bif (decide (i46 < ((n54 : Nat) : Int))) then (.join (.act (ld1 (aadd a11 3)) fun v56 => asSlice v56 fun p57 n58 n59 => asSome p57 fun a60 => grd ((decide (0 ≤ i46)) && (decide (i46 < ((n58 : Nat) : Int)))) (.act (ldN 4 (aadd a60 ((Int.toNat i46) * 4))) fun v61 => asAgg v61 fun l62 => asCons l62 fun v63 l64 => asInt .i64 v63 fun i65 => asCons l64 fun v66 l67 => asStr v66 fun s68 => asCons l67 fun v69 l70 => asInt .i64 v69 fun i71 => asCons l70 fun v72 l73 => asSlice v72 fun p74 n75 n76 => asNil l73 (.call 47 [(.agg #[(.int .i64 i65), (.string s68), (.int .i64 i71), (.slice p74 n75 n76)]), (.slice p49 n50 n51)] fun v77 => asSlice v77 fun p78 n79 n80 => .ret .normal [(.slice p78 n79 n80)]))) (T47k0 i46)) else (.ret (.exit 0) [(.int .i64 i46), (.slice p49 n50 n51)]))

noncomputable def T47k1 : Ex → List Value → Pg :=
  fun e88 l89 => sw e88 (.exit 0) (asCons l89 fun v90 l91 => asInt .i64 v90 fun i92 => asCons l91 fun v93 l94 => asSlice v93 fun p95 n96 n97 => asNil l94 (.ret .ret [(.slice p95 n96 n97)])) (.fail)

/-- hindsight/hindsightref5.vars -/
noncomputable def T47 (i0 : Int) (s1 : ByteArray) (i2 : Int) (p3 : (Option Addr)) (n4 : Nat) (n5 : Nat) (p6 : (Option Addr)) (n7 : Nat) (n8 : Nat) : Pg :=
  .act (newC [(.int .i64 i0), (.string s1), (.int .i64 i2), (.slice p3 n4 n5)]) fun v9 => asPtr v9 fun p10 => asSome p10 fun a11 => .act (ld1 (aadd a11 0)) fun v12 => asInt .i64 v12 fun i13 => bif (i13 == 7) then (.act (ld1 (aadd a11 2)) fun v14 => asInt .i64 v14 fun i15 => .call 57 [(.slice p6 n7 n8), (.int .i64 i15)] fun v16 => asBool v16 fun b17 => bif b17 then (.ret .ret [(.slice p6 n7 n8)]) else (.get fun h18 => .get fun h20 => grd (newN h18.n h20 []) (.act (bdSl 1 0 []) fun v19 => asSlice v19 fun p22 n23 n24 => .get fun h21 => .act (ld1 (aadd a11 2)) fun v25 => asInt .i64 v25 fun i26 => .get fun h28 => grd (newN h18.n h28 [h20.n]) (.act (bdSl 1 1 [(.int .i64 i26)]) fun v27 => asSlice v27 fun p30 n31 n32 => .get fun h29 => .act (apS 1 8 p22 n23 n24 p6 n7 n8) fun v33 => asSlice v33 fun p34 n35 n36 => .get fun h42 => grd (chks [((ld1 (aadd a11 2)), v25)] h42) (.get fun h41 => grd (chkO [(h28.n, (h29.get h28.n))] h41) (.act (apS 1 8 p34 n35 n36 p30 n31 n32) fun v37 => asSlice v37 fun p38 n39 n40 => .ret .ret [(.slice p38 n39 n40)])))))) else (.loop [(.int .i64 0), (.slice p6 n7 n8)] (T47b0 a11) (T47k1))
theorem T47_eq (i0 : Int) (s1 : ByteArray) (i2 : Int) (p3 : (Option Addr)) (n4 : Nat) (n5 : Nat) (p6 : (Option Addr)) (n7 : Nat) (n8 : Nat) : progOf PROG false 47 [(.agg #[(.int .i64 i0), (.string s1), (.int .i64 i2), (.slice p3 n4 n5)]), (.slice p6 n7 n8)] = T47 i0 s1 i2 p3 n4 n5 p6 n7 n8 := by kernel_rfl


noncomputable def T48k0 : Ex → List Value → Pg :=
  fun e67 l68 => sw e67 (.exit 0) (asNil l68 (.ret (.exit 0) [])) (sw e67 .normal (asNil l68 (.ret .normal [])) (.fail))

noncomputable def T48b0 (a9 : Addr) (p0 : (Option Addr)) : List Value → Pg :=
  fun l13 => asNil l13 (.act (ld1 (aadd a9 0)) fun v14 => asInt .i64 v14 fun i15 => bif (i15 == 7) then (.join (asSome p0 fun a16 => .act (ld1 (aadd a16 1)) fun v17 => asMap v17 fun m18 => .act (ld1 (aadd a9 2)) fun v19 => asInt .i64 v19 fun i20 => .act (lkp (.int .i64) (.agg #[(.int .i64 0), (.string (bs [])), (.int .i64 0), (.slice none 0 0)]) m18 (.int .i64 i20) true) fun v21 => asTuple v21 fun l22 => asCons l22 fun v23 l24 => asAgg v23 fun l25 => asCons l25 fun v26 l27 => asInt .i64 v26 fun i28 => asCons l27 fun v29 l30 => asStr v29 fun s31 => asCons l30 fun v32 l33 => asInt .i64 v32 fun i34 => asCons l33 fun v35 l36 => asSlice v35 fun p37 n38 n39 => asNil l36 (asCons l24 fun v40 l41 => asBool v40 fun b42 => asNil l41 (.act (newC [(.int .i64 0), (.string (bs [])), (.int .i64 0), (.slice none 0 0)]) fun v43 => asPtr v43 fun p44 => asSome p44 fun a45 => .get fun h66 => grd (chks [((lkp (.int .i64) (.agg #[(.int .i64 0), (.string (bs [])), (.int .i64 0), (.slice none 0 0)]) m18 (.int .i64 i20) true), v21), ((ld1 (aadd a9 2)), v19), ((ld1 (aadd a16 1)), v17)] h66) (.act (stC a45 [(.int .i64 i28), (.string s31), (.int .i64 i34), (.slice p37 n38 n39)]) fun v46 => asTuple v46 fun l47 => asNil l47 (bif (!b42) then (.ret (.exit 0) []) else (.act (ldN 4 a45) fun v48 => asAgg v48 fun l49 => asCons l49 fun v50 l51 => asInt .i64 v50 fun i52 => asCons l51 fun v53 l54 => asStr v53 fun s55 => asCons l54 fun v56 l57 => asInt .i64 v56 fun i58 => asCons l57 fun v59 l60 => asSlice v59 fun p61 n62 n63 => asNil l60 (.act (stC a9 [(.int .i64 i52), (.string s55), (.int .i64 i58), (.slice p61 n62 n63)]) fun v64 => asTuple v64 fun l65 => asNil l65 (.ret .normal [])))))))) (T48k0)) else (.ret (.exit 0) []))

noncomputable def T48k1 (a9 : Addr) (a12 : Addr) : Ex → List Value → Pg :=
  fun e69 l70 => sw e69 (.exit 0) (asNil l70 (.act (ldN 4 a9) fun v71 => asAgg v71 fun l72 => asCons l72 fun v73 l74 => asInt .i64 v73 fun i75 => asCons l74 fun v76 l77 => asStr v76 fun s78 => asCons l77 fun v79 l80 => asInt .i64 v79 fun i81 => asCons l80 fun v82 l83 => asSlice v82 fun p84 n85 n86 => asNil l83 (.act (stC a12 [(.int .i64 i75), (.string s78), (.int .i64 i81), (.slice p84 n85 n86)]) fun v87 => asTuple v87 fun l88 => asNil l88 (.act (ldN 4 a12) fun v89 => .ret .ret [v89])))) (.fail)

/-- (*hindsight/ty.Sub).head -/
noncomputable def T48 (p0 : (Option Addr)) (i1 : Int) (s2 : ByteArray) (i3 : Int) (p4 : (Option Addr)) (n5 : Nat) (n6 : Nat) : Pg :=
  .act (newC [(.int .i64 i1), (.string s2), (.int .i64 i3), (.slice p4 n5 n6)]) fun v7 => asPtr v7 fun p8 => asSome p8 fun a9 => .act (newC [(.int .i64 0), (.string (bs [])), (.int .i64 0), (.slice none 0 0)]) fun v10 => asPtr v10 fun p11 => asSome p11 fun a12 => .loop [] (T48b0 a9 p0) (T48k1 a9 a12)
theorem T48_eq (p0 : (Option Addr)) (i1 : Int) (s2 : ByteArray) (i3 : Int) (p4 : (Option Addr)) (n5 : Nat) (n6 : Nat) : progOf PROG false 48 [(.pointer p0), (.agg #[(.int .i64 i1), (.string s2), (.int .i64 i3), (.slice p4 n5 n6)])] = T48 p0 i1 s2 i3 p4 n5 n6 := by kernel_rfl


/-- (*hindsight/ty.Sub).bind -/
noncomputable def T49 (p0 : (Option Addr)) (i1 : Int) (i2 : Int) (s3 : ByteArray) (i4 : Int) (p5 : (Option Addr)) (n6 : Nat) (n7 : Nat) : Pg :=
  .act (newC [(.int .i64 i2), (.string s3), (.int .i64 i4), (.slice p5 n6 n7)]) fun v8 => asPtr v8 fun p9 => asSome p9 fun a10 => .act (ldN 4 a10) fun v11 => asAgg v11 fun l12 => asCons l12 fun v13 l14 => asInt .i64 v13 fun i15 => asCons l14 fun v16 l17 => asStr v16 fun s18 => asCons l17 fun v19 l20 => asInt .i64 v19 fun i21 => asCons l20 fun v22 l23 => asSlice v22 fun p24 n25 n26 => asNil l23 (.act makeMapAct fun v27 => asMap v27 fun m28 => .call 58 [(.pointer p0), (.int .i64 i1), (.agg #[(.int .i64 i15), (.string s18), (.int .i64 i21), (.slice p24 n25 n26)]), (.map m28)] fun v29 => asBool v29 fun b30 => bif b30 then (.ret .ret [(.int .i64 5)]) else (asSome p0 fun a31 => .act (ld1 (aadd a31 1)) fun v32 => asMap v32 fun m33 => .act (ldN 4 a10) fun v34 => asAgg v34 fun l35 => asCons l35 fun v36 l37 => asInt .i64 v36 fun i38 => asCons l37 fun v39 l40 => asStr v39 fun s41 => asCons l40 fun v42 l43 => asInt .i64 v42 fun i44 => asCons l43 fun v45 l46 => asSlice v45 fun p47 n48 n49 => asNil l46 (.act (mup (.int .i64) m33 (.int .i64 i1) (.agg #[(.int .i64 i38), (.string s41), (.int .i64 i44), (.slice p47 n48 n49)])) fun v50 => asTuple v50 fun l51 => asNil l51 (.ret .ret [(.int .i64 0)]))))
theorem T49_eq (p0 : (Option Addr)) (i1 : Int) (i2 : Int) (s3 : ByteArray) (i4 : Int) (p5 : (Option Addr)) (n6 : Nat) (n7 : Nat) : progOf PROG false 49 [(.pointer p0), (.int .i64 i1), (.agg #[(.int .i64 i2), (.string s3), (.int .i64 i4), (.slice p5 n6 n7)])] = T49 p0 i1 i2 s3 i4 p5 n6 n7 := by kernel_rfl


noncomputable def T50k0 (i52 : Int) : Ex → List Value → Pg :=
  fun e96 l97 => sw e96 (.exit 0) (asCons l97 fun v98 l99 => asInt .i64 v98 fun i100 => asNil l99 (.ret (.exit 0) [(.int .i64 i52), (.int .i64 i100)])) (sw e96 .normal (asCons l97 fun v101 l102 => asInt .i64 v101 fun i103 => asNil l102 (.ret .normal [(.int .i64 (wi64 (i52 + 1))), (.int .i64 i103)])) (.fail))

noncomputable def T50b0 (n47 : Nat) (p46 : (Option Addr)) (p0 : (Option Addr)) : List Value → Pg :=
  fun l49 => asCons l49 fun v50 l51 => asInt .i64 v50 fun i52 => asCons l51 fun v53 l54 => asInt .i64 v53 fun i55 => asNil l54 (bif (decide (i52 < ((n47 : Nat) : Int))) then (.join (asSome p46 fun a56 => grd ((decide (0 ≤ i52)) && (decide (i52 < ((n47 : Nat) : Int)))) (.act (ldN 4 (aadd a56 ((Int.toNat i52) * 4))) fun v57 => asAgg v57 fun l58 => asCons l58 fun v59 l60 => asInt .i64 v59 fun i61 => asCons l60 fun v62 l63 => asStr v62 fun s64 => asCons l63 fun v65 l66 => asInt .i64 v65 fun i67 => asCons l66 fun v68 l69 => asSlice v68 fun p70 n71 n72 => asNil l69 (.act (newC [(.int .i64 0), (.string (bs [])), (.int .i64 0), (.slice none 0 0)]) fun v73 => asPtr v73 fun p74 => asSome p74 fun a75 => .act (stC a75 [(.int .i64 i61), (.string s64), (.int .i64 i67), (.slice p70 n71 n72)]) fun v76 => asTuple v76 fun l77 => asNil l77 (bif (decide (i55 > 500)) then (.ret (.exit 0) [(.int .i64 i55)]) else (.act (ldN 4 a75) fun v78 => asAgg v78 fun l79 => asCons l79 fun v80 l81 => asInt .i64 v80 fun i82 => asCons l81 fun v83 l84 => asStr v83 fun s85 => asCons l84 fun v86 l87 => asInt .i64 v86 fun i88 => asCons l87 fun v89 l90 => asSlice v89 fun p91 n92 n93 => asNil l90 (.call 50 [(.pointer p0), (.agg #[(.int .i64 i82), (.string s85), (.int .i64 i88), (.slice p91 n92 n93)]), (.int .i64 i55)] fun v94 => asInt .i64 v94 fun i95 => .ret .normal [(.int .i64 i95)])))))) (T50k0 i52)) else (.ret (.exit 0) [(.int .i64 i52), (.int .i64 i55)]))

noncomputable def T50k1 : Ex → List Value → Pg :=
  fun e104 l105 => sw e104 (.exit 0) (asCons l105 fun v106 l107 => asInt .i64 v106 fun i108 => asCons l107 fun v109 l110 => asInt .i64 v109 fun i111 => asNil l110 (.ret .ret [(.int .i64 (minV i111 501))])) (.fail)

/-- (*hindsight/ty.Sub).size -/
noncomputable def T50 (p0 : (Option Addr)) (i1 : Int) (s2 : ByteArray) (i3 : Int) (p4 : (Option Addr)) (n5 : Nat) (n6 : Nat) (i7 : Int) : Pg :=
  .act (newC [(.int .i64 i1), (.string s2), (.int .i64 i3), (.slice p4 n5 n6)]) fun v8 => asPtr v8 fun p9 => asSome p9 fun a10 => .act (ldN 4 a10) fun v11 => asAgg v11 fun l12 => asCons l12 fun v13 l14 => asInt .i64 v13 fun i15 => asCons l14 fun v16 l17 => asStr v16 fun s18 => asCons l17 fun v19 l20 => asInt .i64 v19 fun i21 => asCons l20 fun v22 l23 => asSlice v22 fun p24 n25 n26 => asNil l23 (.call 48 [(.pointer p0), (.agg #[(.int .i64 i15), (.string s18), (.int .i64 i21), (.slice p24 n25 n26)])] fun v27 => asAgg v27 fun l28 => asCons l28 fun v29 l30 => asInt .i64 v29 fun i31 => asCons l30 fun v32 l33 => asStr v32 fun s34 => asCons l33 fun v35 l36 => asInt .i64 v35 fun i37 => asCons l36 fun v38 l39 => asSlice v38 fun p40 n41 n42 => asNil l39 (.act (stC a10 [(.int .i64 i31), (.string s34), (.int .i64 i37), (.slice p40 n41 n42)]) fun v43 => asTuple v43 fun l44 => asNil l44 (.act (ld1 (aadd a10 3)) fun v45 => asSlice v45 fun p46 n47 n48 => .loop [(.int .i64 0), (.int .i64 (wi64 (i7 + 1)))] (T50b0 n47 p46 p0) (T50k1))))
theorem T50_eq (p0 : (Option Addr)) (i1 : Int) (s2 : ByteArray) (i3 : Int) (p4 : (Option Addr)) (n5 : Nat) (n6 : Nat) (i7 : Int) : progOf PROG false 50 [(.pointer p0), (.agg #[(.int .i64 i1), (.string s2), (.int .i64 i3), (.slice p4 n5 n6)]), (.int .i64 i7)] = T50 p0 i1 s2 i3 p4 n5 n6 i7 := by kernel_rfl


noncomputable def T54k0 : Ex → List Value → Pg :=
  fun e1 l2 => sw e1 .ret (asCons l2 fun v3 l4 => asInt .i64 v3 fun i5 => asNil l4 (.ret .ret [(.int .i64 i5)])) (sw e1 .normal (asCons l2 fun v6 l7 => asInt .i64 v6 fun i8 => asNil l7 (.ret .ret [(.int .i64 0)])) (.fail))

/-- hindsight/ty.args -/
noncomputable def T54 (i0 : Int) : Pg :=
  .join (bif (i0 == 5) then (.ret .ret [(.int .i64 2)]) else (bif (i0 == 6) then (.ret .ret [(.int .i64 1)]) else (.ret .normal [(.int .i64 0)]))) (T54k0)
theorem T54_eq (i0 : Int) : progOf PROG false 54 [(.int .i64 i0)] = T54 i0 := by kernel_rfl


/-- hindsight/hindsightref1.Digits -/
noncomputable def T56 (i0 : Int) : Pg :=
  bif (decide (i0 < 0)) then (bif (decide ((wu64 (wi64 (0 - i0))) ≥ 10)) then (.call 56 [(.int .i64 (wi64 (wu64 (Int.tdiv (wu64 (wi64 (0 - i0))) 10))))] fun v1 => asStr v1 fun s2 => grd (Nat.ble (1 + s2.size) 9223372036854775807) (.call 56 [(.int .i64 (wi64 (Int.tmod (wu64 (wi64 (0 - i0))) 10)))] fun v3 => asStr v3 fun s4 => grd (Nat.ble (((bs [45]) ++ s2).size + s4.size) 9223372036854775807) (.ret .ret [(.string (((bs [45]) ++ s2) ++ s4))]))) else (.call 56 [(.int .i64 (wi64 (wu64 (wi64 (0 - i0)))))] fun v5 => asStr v5 fun s6 => grd (Nat.ble (1 + s6.size) 9223372036854775807) (.ret .ret [(.string ((bs [45]) ++ s6))]))) else (bif (decide (i0 < 10)) then (.act (bdSl 1 1 [(.int .u8 (wu8 (wi64 (48 + i0))))]) fun v7 => asSlice v7 fun p8 n9 n10 => .act (bytesToStringAct (.slice p8 n9 n10)) fun v11 => asStr v11 fun s12 => .ret .ret [(.string s12)]) else (.call 56 [(.int .i64 (wi64 (Int.tdiv i0 10)))] fun v13 => asStr v13 fun s14 => .call 56 [(.int .i64 (Int.tmod i0 10))] fun v15 => asStr v15 fun s16 => grd (Nat.ble (s14.size + s16.size) 9223372036854775807) (.ret .ret [(.string (s14 ++ s16))])))
theorem T56_eq (i0 : Int) : progOf PROG false 56 [(.int .i64 i0)] = T56 i0 := by kernel_rfl


noncomputable def T57k0 (i7 : Int) : Ex → List Value → Pg :=
  fun e14 l15 => sw e14 .ret (asCons l15 fun v16 l17 => asBool v16 fun b18 => asNil l17 (.ret .ret [(.int .i64 i7), (.bool b18)])) (sw e14 .normal (asCons l15 fun v19 l20 => asBool v19 fun b21 => asNil l20 (.ret .normal [(.int .i64 (wi64 (i7 + 1))), (.bool b21)])) (.fail))

noncomputable def T57b0 (n1 : Nat) (p0 : (Option Addr)) (i3 : Int) : List Value → Pg :=
  fun l4 => asCons l4 fun v5 l6 => asInt .i64 v5 fun i7 => asCons l6 fun v8 l9 => asBool v8 fun b10 => asNil l9 (bif (decide (i7 < ((n1 : Nat) : Int))) then (.join (asSome p0 fun a11 => grd ((decide (0 ≤ i7)) && (decide (i7 < ((n1 : Nat) : Int)))) (.act (ld1 (aadd a11 ((Int.toNat i7) * 1))) fun v12 => asInt .i64 v12 fun i13 => bif (i13 == i3) then (.ret .ret [(.bool true)]) else (.ret .normal [(.bool b10)]))) (T57k0 i7)) else (.ret (.exit 0) [(.int .i64 i7), (.bool b10)]))

noncomputable def T57k1 : Ex → List Value → Pg :=
  fun e22 l23 => sw e22 (.exit 0) (asCons l23 fun v24 l25 => asInt .i64 v24 fun i26 => asCons l25 fun v27 l28 => asBool v27 fun b29 => asNil l28 (.ret .ret [(.bool false)])) (sw e22 .ret (asCons l23 fun v30 l31 => asInt .i64 v30 fun i32 => asCons l31 fun v33 l34 => asBool v33 fun b35 => asNil l34 (.ret .ret [(.bool b35)])) (.fail))

/-- hindsight/hindsightref5.has -/
noncomputable def T57 (p0 : (Option Addr)) (n1 : Nat) (n2 : Nat) (i3 : Int) : Pg :=
  .loop [(.int .i64 0), (.bool false)] (T57b0 n1 p0 i3) (T57k1)
theorem T57_eq (p0 : (Option Addr)) (n1 : Nat) (n2 : Nat) (i3 : Int) : progOf PROG false 57 [(.slice p0 n1 n2), (.int .i64 i3)] = T57 p0 n1 n2 i3 := by kernel_rfl


noncomputable def T58k0 : Ex → List Value → Pg :=
  fun e74 l75 => sw e74 .normal (asCons l75 fun v76 l77 => asBool v76 fun b78 => asNil l77 (.ret .ret [(.bool b78)])) (.fail)

noncomputable def T58k1 (i87 : Int) : Ex → List Value → Pg :=
  fun e131 l132 => sw e131 .ret (asCons l132 fun v133 l134 => asBool v133 fun b135 => asNil l134 (.ret .ret [(.int .i64 i87), (.bool b135)])) (sw e131 .normal (asCons l132 fun v136 l137 => asBool v136 fun b138 => asNil l137 (.ret .normal [(.int .i64 (wi64 (i87 + 1))), (.bool b138)])) (.fail))

noncomputable def T58b0 (n82 : Nat) (p81 : (Option Addr)) (p0 : (Option Addr)) (i1 : Int) (m8 : (Option Nat)) : List Value → Pg :=
  fun l84 => asCons l84 fun v85 l86 => asInt .i64 v85 fun i87 => asCons l86 fun v88 l89 => asBool v88 fun b90 => asNil l89 (bif (decide (i87 < ((n82 : Nat) : Int))) then (.join (asSome p81 fun a91 => grd ((decide (0 ≤ i87)) && (decide (i87 < ((n82 : Nat) : Int)))) (.act (ldN 4 (aadd a91 ((Int.toNat i87) * 4))) fun v92 => asAgg v92 fun l93 => asCons l93 fun v94 l95 => asInt .i64 v94 fun i96 => asCons l95 fun v97 l98 => asStr v97 fun s99 => asCons l98 fun v100 l101 => asInt .i64 v100 fun i102 => asCons l101 fun v103 l104 => asSlice v103 fun p105 n106 n107 => asNil l104 (.act (newC [(.int .i64 0), (.string (bs [])), (.int .i64 0), (.slice none 0 0)]) fun v108 => asPtr v108 fun p109 => asSome p109 fun a110 => .act (stC a110 [(.int .i64 i96), (.string s99), (.int .i64 i102), (.slice p105 n106 n107)]) fun v111 => asTuple v111 fun l112 => asNil l112 (.act (ldN 4 a110) fun v113 => asAgg v113 fun l114 => asCons l114 fun v115 l116 => asInt .i64 v115 fun i117 => asCons l116 fun v118 l119 => asStr v118 fun s120 => asCons l119 fun v121 l122 => asInt .i64 v121 fun i123 => asCons l122 fun v124 l125 => asSlice v124 fun p126 n127 n128 => asNil l125 (.call 58 [(.pointer p0), (.int .i64 i1), (.agg #[(.int .i64 i117), (.string s120), (.int .i64 i123), (.slice p126 n127 n128)]), (.map m8)] fun v129 => asBool v129 fun b130 => bif b130 then (.ret .ret [(.bool true)]) else (.ret .normal [(.bool b90)])))))) (T58k1 i87)) else (.ret (.exit 0) [(.int .i64 i87), (.bool b90)]))

noncomputable def T58k2 : Ex → List Value → Pg :=
  fun e139 l140 => sw e139 (.exit 0) (asCons l140 fun v141 l142 => asInt .i64 v141 fun i143 => asCons l142 fun v144 l145 => asBool v144 fun b146 => asNil l145 (.ret .ret [(.bool false)])) (sw e139 .ret (asCons l140 fun v147 l148 => asInt .i64 v147 fun i149 => asCons l148 fun v150 l151 => asBool v150 fun b152 => asNil l151 (.ret .ret [(.bool b152)])) (.fail))

/-- (*hindsight/ty.Sub).within -/
noncomputable def T58 (p0 : (Option Addr)) (i1 : Int) (i2 : Int) (s3 : ByteArray) (i4 : Int) (p5 : (Option Addr)) (n6 : Nat) (n7 : Nat) (m8 : (Option Nat)) : Pg :=
  .act (newC [(.int .i64 i2), (.string s3), (.int .i64 i4), (.slice p5 n6 n7)]) fun v9 => asPtr v9 fun p10 => asSome p10 fun a11 => .act (ld1 (aadd a11 0)) fun v12 => asInt .i64 v12 fun i13 => bif (i13 == 7) then (.act (ld1 (aadd a11 2)) fun v14 => asInt .i64 v14 fun i15 => .act (lkp (.int .i64) (.bool false) m8 (.int .i64 i15) false) fun v16 => asBool v16 fun b17 => bif b17 then (.ret .ret [(.bool false)]) else (.act (ld1 (aadd a11 2)) fun v18 => asInt .i64 v18 fun i19 => .act (mup (.int .i64) m8 (.int .i64 i19) (.bool true)) fun v20 => asTuple v20 fun l21 => asNil l21 (asSome p0 fun a22 => .act (ld1 (aadd a22 1)) fun v23 => asMap v23 fun m24 => .act (ld1 (aadd a11 2)) fun v25 => asInt .i64 v25 fun i26 => .act (lkp (.int .i64) (.agg #[(.int .i64 0), (.string (bs [])), (.int .i64 0), (.slice none 0 0)]) m24 (.int .i64 i26) true) fun v27 => asTuple v27 fun l28 => asCons l28 fun v29 l30 => asAgg v29 fun l31 => asCons l31 fun v32 l33 => asInt .i64 v32 fun i34 => asCons l33 fun v35 l36 => asStr v35 fun s37 => asCons l36 fun v38 l39 => asInt .i64 v38 fun i40 => asCons l39 fun v41 l42 => asSlice v41 fun p43 n44 n45 => asNil l42 (asCons l30 fun v46 l47 => asBool v46 fun b48 => asNil l47 (.act (newC [(.int .i64 0), (.string (bs [])), (.int .i64 0), (.slice none 0 0)]) fun v49 => asPtr v49 fun p50 => asSome p50 fun a51 => .get fun h79 => grd (chks [((lkp (.int .i64) (.agg #[(.int .i64 0), (.string (bs [])), (.int .i64 0), (.slice none 0 0)]) m24 (.int .i64 i26) true), v27), ((ld1 (aadd a11 2)), v25), ((ld1 (aadd a22 1)), v23)] h79) (.act (stC a51 [(.int .i64 i34), (.string s37), (.int .i64 i40), (.slice p43 n44 n45)]) fun v52 => asTuple v52 fun l53 => asNil l53 (.join (.act (ld1 (aadd a11 2)) fun v54 => asInt .i64 v54 fun i55 => bif (i55 == i1) == false then (bif b48 == true then (.act (ldN 4 a51) fun v56 => asAgg v56 fun l57 => asCons l57 fun v58 l59 => asInt .i64 v58 fun i60 => asCons l59 fun v61 l62 => asStr v61 fun s63 => asCons l62 fun v64 l65 => asInt .i64 v64 fun i66 => asCons l65 fun v67 l68 => asSlice v67 fun p69 n70 n71 => asNil l68 (.call 58 [(.pointer p0), (.int .i64 i1), (.agg #[(.int .i64 i60), (.string s63), (.int .i64 i66), (.slice p69 n70 n71)]), (.map m8)] fun v72 => asBool v72 fun b73 => .ret .normal [(.bool b73)])) else (.ret .normal [(.bool false)])) else (.ret .normal [(.bool true)])) (T58k0)))))))) else (.act (ld1 (aadd a11 3)) fun v80 => asSlice v80 fun p81 n82 n83 => .loop [(.int .i64 0), (.bool false)] (T58b0 n82 p81 p0 i1 m8) (T58k2))
theorem T58_eq (p0 : (Option Addr)) (i1 : Int) (i2 : Int) (s3 : ByteArray) (i4 : Int) (p5 : (Option Addr)) (n6 : Nat) (n7 : Nat) (m8 : (Option Nat)) : progOf PROG false 58 [(.pointer p0), (.int .i64 i1), (.agg #[(.int .i64 i2), (.string s3), (.int .i64 i4), (.slice p5 n6 n7)]), (.map m8)] = T58 p0 i1 i2 s3 i4 p5 n6 n7 m8 := by kernel_rfl

noncomputable def A4 : List Value → Option Pg
  | [(.agg c0), (.agg c1)] => (match c0.toList with
    | [(.int .i64 i0), (.string s1), (.int .i64 i2), (.slice p3 n4 n5)] => (match c1.toList with
    | [(.int .i64 i6), (.string s7), (.int .i64 i8), (.slice p9 n10 n11)] => some (T4 i0 s1 i2 p3 n4 n5 i6 s7 i8 p9 n10 n11)
    | _ => none)
    | _ => none)
  | _ => none
theorem A4_ok : ∀ args p, A4 args = some p → progOf PROG false 4 args = p := by
  intro args p h
  unfold A4 at h
  split at h
  · split at h
    · split at h
      · rename_i e0 d1 x1_0 x1_1 x1_2 x1_3 x1_4 x1_5 e1
        have f0 := agg_of e0
        subst f0
        have f1 := agg_of e1
        subst f1
        cases h
        exact T4_eq _ _ _ _ _ _ _ _ _ _ _ _
      · cases h
    · cases h
  · cases h
noncomputable def A5 : List Value → Option Pg
  | [(.agg c0), (.agg c1)] => (match c0.toList with
    | [(.int .i64 i0), (.string s1), (.int .i64 i2), (.slice p3 n4 n5)] => (match c1.toList with
    | [(.int .i64 i6), (.string s7), (.int .i64 i8), (.slice p9 n10 n11)] => some (T5 i0 s1 i2 p3 n4 n5 i6 s7 i8 p9 n10 n11)
    | _ => none)
    | _ => none)
  | _ => none
theorem A5_ok : ∀ args p, A5 args = some p → progOf PROG false 5 args = p := by
  intro args p h
  unfold A5 at h
  split at h
  · split at h
    · split at h
      · rename_i e0 d1 x1_0 x1_1 x1_2 x1_3 x1_4 x1_5 e1
        have f0 := agg_of e0
        subst f0
        have f1 := agg_of e1
        subst f1
        cases h
        exact T5_eq _ _ _ _ _ _ _ _ _ _ _ _
      · cases h
    · cases h
  · cases h
noncomputable def A6 : List Value → Option Pg
  | [(.slice p0 n1 n2), (.agg c0), (.agg c1)] => (match c0.toList with
    | [(.int .i64 i3), (.string s4), (.int .i64 i5), (.slice p6 n7 n8)] => (match c1.toList with
    | [(.int .i64 i9), (.string s10), (.int .i64 i11), (.slice p12 n13 n14)] => some (T6 p0 n1 n2 i3 s4 i5 p6 n7 n8 i9 s10 i11 p12 n13 n14)
    | _ => none)
    | _ => none)
  | _ => none
theorem A6_ok : ∀ args p, A6 args = some p → progOf PROG false 6 args = p := by
  intro args p h
  unfold A6 at h
  split at h
  · split at h
    · split at h
      · rename_i e0 d1 x1_0 x1_1 x1_2 x1_3 x1_4 x1_5 e1
        have f0 := agg_of e0
        subst f0
        have f1 := agg_of e1
        subst f1
        cases h
        exact T6_eq _ _ _ _ _ _ _ _ _ _ _ _ _ _ _
      · cases h
    · cases h
  · cases h
noncomputable def A7 : List Value → Option Pg
  | [(.agg c0), (.agg c1), (.int .i64 i12)] => (match c0.toList with
    | [(.int .i64 i0), (.string s1), (.int .i64 i2), (.slice p3 n4 n5)] => (match c1.toList with
    | [(.int .i64 i6), (.string s7), (.int .i64 i8), (.slice p9 n10 n11)] => some (T7 i0 s1 i2 p3 n4 n5 i6 s7 i8 p9 n10 n11 i12)
    | _ => none)
    | _ => none)
  | _ => none
theorem A7_ok : ∀ args p, A7 args = some p → progOf PROG false 7 args = p := by
  intro args p h
  unfold A7 at h
  split at h
  · split at h
    · split at h
      · rename_i e0 d1 x1_0 x1_1 x1_2 x1_3 x1_4 x1_5 e1
        have f0 := agg_of e0
        subst f0
        have f1 := agg_of e1
        subst f1
        cases h
        exact T7_eq _ _ _ _ _ _ _ _ _ _ _ _ _
      · cases h
    · cases h
  · cases h
noncomputable def A8 (args : List Value) : Option Pg := some (progOf PROG false 8 args)
theorem A8_ok : ∀ args p, A8 args = some p → progOf PROG false 8 args = p := fun args p h => Option.some.inj h
noncomputable def A9 : List Value → Option Pg
  | [] => some (T9)
  | _ => none
theorem A9_ok : ∀ args p, A9 args = some p → progOf PROG false 9 args = p := by
  intro args p h
  unfold A9 at h
  split at h
  · cases h; exact T9_eq 
  · cases h
noncomputable def A10 : List Value → Option Pg
  | [(.agg c0), (.int .i64 i6)] => (match c0.toList with
    | [(.int .i64 i0), (.string s1), (.int .i64 i2), (.slice p3 n4 n5)] => some (T10 i0 s1 i2 p3 n4 n5 i6)
    | _ => none)
  | _ => none
theorem A10_ok : ∀ args p, A10 args = some p → progOf PROG false 10 args = p := by
  intro args p h
  unfold A10 at h
  split at h
  · split at h
    · rename_i e0
      have f0 := agg_of e0
      subst f0
      cases h
      exact T10_eq _ _ _ _ _ _ _
    · cases h
  · cases h
noncomputable def A11 : List Value → Option Pg
  | [] => some (T11)
  | _ => none
theorem A11_ok : ∀ args p, A11 args = some p → progOf PROG false 11 args = p := by
  intro args p h
  unfold A11 at h
  split at h
  · cases h; exact T11_eq 
  · cases h
noncomputable def A14 : List Value → Option Pg
  | [(.agg c0)] => (match c0.toList with
    | [(.int .i64 i0), (.string s1), (.int .i64 i2), (.slice p3 n4 n5)] => some (T14 i0 s1 i2 p3 n4 n5)
    | _ => none)
  | _ => none
theorem A14_ok : ∀ args p, A14 args = some p → progOf PROG false 14 args = p := by
  intro args p h
  unfold A14 at h
  split at h
  · split at h
    · rename_i e0
      have f0 := agg_of e0
      subst f0
      cases h
      exact T14_eq _ _ _ _ _ _
    · cases h
  · cases h
noncomputable def A15 : List Value → Option Pg
  | [(.agg c0)] => (match c0.toList with
    | [(.int .i64 i0), (.string s1), (.int .i64 i2), (.slice p3 n4 n5)] => some (T15 i0 s1 i2 p3 n4 n5)
    | _ => none)
  | _ => none
theorem A15_ok : ∀ args p, A15 args = some p → progOf PROG false 15 args = p := by
  intro args p h
  unfold A15 at h
  split at h
  · split at h
    · rename_i e0
      have f0 := agg_of e0
      subst f0
      cases h
      exact T15_eq _ _ _ _ _ _
    · cases h
  · cases h
noncomputable def A16 : List Value → Option Pg
  | [(.agg c0), (.agg c1)] => (match c0.toList with
    | [(.int .i64 i0), (.string s1), (.int .i64 i2), (.slice p3 n4 n5)] => (match c1.toList with
    | [(.int .i64 i6), (.string s7), (.int .i64 i8), (.slice p9 n10 n11)] => some (T16 i0 s1 i2 p3 n4 n5 i6 s7 i8 p9 n10 n11)
    | _ => none)
    | _ => none)
  | _ => none
theorem A16_ok : ∀ args p, A16 args = some p → progOf PROG false 16 args = p := by
  intro args p h
  unfold A16 at h
  split at h
  · split at h
    · split at h
      · rename_i e0 d1 x1_0 x1_1 x1_2 x1_3 x1_4 x1_5 e1
        have f0 := agg_of e0
        subst f0
        have f1 := agg_of e1
        subst f1
        cases h
        exact T16_eq _ _ _ _ _ _ _ _ _ _ _ _
      · cases h
    · cases h
  · cases h
noncomputable def A17 : List Value → Option Pg
  | [(.pointer p0), (.agg c0)] => (match c0.toList with
    | [(.int .i64 i1), (.string s2), (.int .i64 i3), (.slice p4 n5 n6)] => some (T17 p0 i1 s2 i3 p4 n5 n6)
    | _ => none)
  | _ => none
theorem A17_ok : ∀ args p, A17 args = some p → progOf PROG false 17 args = p := by
  intro args p h
  unfold A17 at h
  split at h
  · split at h
    · rename_i e0
      have f0 := agg_of e0
      subst f0
      cases h
      exact T17_eq _ _ _ _ _ _ _
    · cases h
  · cases h
noncomputable def A19 : List Value → Option Pg
  | [(.agg c0)] => (match c0.toList with
    | [(.int .i64 i0), (.string s1), (.int .i64 i2), (.slice p3 n4 n5)] => some (T19 i0 s1 i2 p3 n4 n5)
    | _ => none)
  | _ => none
theorem A19_ok : ∀ args p, A19 args = some p → progOf PROG false 19 args = p := by
  intro args p h
  unfold A19 at h
  split at h
  · split at h
    · rename_i e0
      have f0 := agg_of e0
      subst f0
      cases h
      exact T19_eq _ _ _ _ _ _
    · cases h
  · cases h
noncomputable def A20 : List Value → Option Pg
  | [(.agg c0)] => (match c0.toList with
    | [(.int .i64 i0), (.string s1), (.int .i64 i2), (.slice p3 n4 n5)] => some (T20 i0 s1 i2 p3 n4 n5)
    | _ => none)
  | _ => none
theorem A20_ok : ∀ args p, A20 args = some p → progOf PROG false 20 args = p := by
  intro args p h
  unfold A20 at h
  split at h
  · split at h
    · rename_i e0
      have f0 := agg_of e0
      subst f0
      cases h
      exact T20_eq _ _ _ _ _ _
    · cases h
  · cases h
noncomputable def A21 : List Value → Option Pg
  | [(.agg c0)] => (match c0.toList with
    | [(.int .i64 i0), (.string s1), (.int .i64 i2), (.slice p3 n4 n5)] => some (T21 i0 s1 i2 p3 n4 n5)
    | _ => none)
  | _ => none
theorem A21_ok : ∀ args p, A21 args = some p → progOf PROG false 21 args = p := by
  intro args p h
  unfold A21 at h
  split at h
  · split at h
    · rename_i e0
      have f0 := agg_of e0
      subst f0
      cases h
      exact T21_eq _ _ _ _ _ _
    · cases h
  · cases h
noncomputable def A22 : List Value → Option Pg
  | [(.agg c0), (.agg c1)] => (match c0.toList with
    | [(.int .i64 i0), (.string s1), (.int .i64 i2), (.slice p3 n4 n5)] => (match c1.toList with
    | [(.int .i64 i6), (.string s7), (.int .i64 i8), (.slice p9 n10 n11)] => some (T22 i0 s1 i2 p3 n4 n5 i6 s7 i8 p9 n10 n11)
    | _ => none)
    | _ => none)
  | _ => none
theorem A22_ok : ∀ args p, A22 args = some p → progOf PROG false 22 args = p := by
  intro args p h
  unfold A22 at h
  split at h
  · split at h
    · split at h
      · rename_i e0 d1 x1_0 x1_1 x1_2 x1_3 x1_4 x1_5 e1
        have f0 := agg_of e0
        subst f0
        have f1 := agg_of e1
        subst f1
        cases h
        exact T22_eq _ _ _ _ _ _ _ _ _ _ _ _
      · cases h
    · cases h
  · cases h
noncomputable def A23 : List Value → Option Pg
  | [(.agg c0)] => (match c0.toList with
    | [(.int .i64 i0), (.string s1), (.int .i64 i2), (.slice p3 n4 n5)] => some (T23 i0 s1 i2 p3 n4 n5)
    | _ => none)
  | _ => none
theorem A23_ok : ∀ args p, A23 args = some p → progOf PROG false 23 args = p := by
  intro args p h
  unfold A23 at h
  split at h
  · split at h
    · rename_i e0
      have f0 := agg_of e0
      subst f0
      cases h
      exact T23_eq _ _ _ _ _ _
    · cases h
  · cases h
noncomputable def A24 : List Value → Option Pg
  | [(.agg c0)] => (match c0.toList with
    | [(.int .i64 i0), (.string s1), (.int .i64 i2), (.slice p3 n4 n5)] => some (T24 i0 s1 i2 p3 n4 n5)
    | _ => none)
  | _ => none
theorem A24_ok : ∀ args p, A24 args = some p → progOf PROG false 24 args = p := by
  intro args p h
  unfold A24 at h
  split at h
  · split at h
    · rename_i e0
      have f0 := agg_of e0
      subst f0
      cases h
      exact T24_eq _ _ _ _ _ _
    · cases h
  · cases h
noncomputable def A25 : List Value → Option Pg
  | [(.slice p0 n1 n2), (.slice p3 n4 n5)] => some (T25 p0 n1 n2 p3 n4 n5)
  | _ => none
theorem A25_ok : ∀ args p, A25 args = some p → progOf PROG false 25 args = p := by
  intro args p h
  unfold A25 at h
  split at h
  · cases h; exact T25_eq _ _ _ _ _ _
  · cases h
noncomputable def A26 : List Value → Option Pg
  | [(.agg c0)] => (match c0.toList with
    | [(.int .i64 i0), (.string s1), (.int .i64 i2), (.slice p3 n4 n5)] => some (T26 i0 s1 i2 p3 n4 n5)
    | _ => none)
  | _ => none
theorem A26_ok : ∀ args p, A26 args = some p → progOf PROG false 26 args = p := by
  intro args p h
  unfold A26 at h
  split at h
  · split at h
    · rename_i e0
      have f0 := agg_of e0
      subst f0
      cases h
      exact T26_eq _ _ _ _ _ _
    · cases h
  · cases h
noncomputable def A27 : List Value → Option Pg
  | [(.agg c0)] => (match c0.toList with
    | [(.int .i64 i0), (.string s1), (.int .i64 i2), (.slice p3 n4 n5)] => some (T27 i0 s1 i2 p3 n4 n5)
    | _ => none)
  | _ => none
theorem A27_ok : ∀ args p, A27 args = some p → progOf PROG false 27 args = p := by
  intro args p h
  unfold A27 at h
  split at h
  · split at h
    · rename_i e0
      have f0 := agg_of e0
      subst f0
      cases h
      exact T27_eq _ _ _ _ _ _
    · cases h
  · cases h
noncomputable def A28 : List Value → Option Pg
  | [(.agg c0), (.int .i64 i6)] => (match c0.toList with
    | [(.int .i64 i0), (.string s1), (.int .i64 i2), (.slice p3 n4 n5)] => some (T28 i0 s1 i2 p3 n4 n5 i6)
    | _ => none)
  | _ => none
theorem A28_ok : ∀ args p, A28 args = some p → progOf PROG false 28 args = p := by
  intro args p h
  unfold A28 at h
  split at h
  · split at h
    · rename_i e0
      have f0 := agg_of e0
      subst f0
      cases h
      exact T28_eq _ _ _ _ _ _ _
    · cases h
  · cases h
noncomputable def A29 : List Value → Option Pg
  | [(.agg c0)] => (match c0.toList with
    | [(.int .i64 i0), (.string s1), (.int .i64 i2), (.slice p3 n4 n5)] => some (T29 i0 s1 i2 p3 n4 n5)
    | _ => none)
  | _ => none
theorem A29_ok : ∀ args p, A29 args = some p → progOf PROG false 29 args = p := by
  intro args p h
  unfold A29 at h
  split at h
  · split at h
    · rename_i e0
      have f0 := agg_of e0
      subst f0
      cases h
      exact T29_eq _ _ _ _ _ _
    · cases h
  · cases h
noncomputable def A30 : List Value → Option Pg
  | [(.pointer p0)] => some (T30 p0)
  | _ => none
theorem A30_ok : ∀ args p, A30 args = some p → progOf PROG false 30 args = p := by
  intro args p h
  unfold A30 at h
  split at h
  · cases h; exact T30_eq _
  · cases h
noncomputable def A31 : List Value → Option Pg
  | [(.agg c0), (.agg c1)] => (match c0.toList with
    | [(.int .i64 i0), (.string s1), (.int .i64 i2), (.slice p3 n4 n5)] => (match c1.toList with
    | [(.int .i64 i6), (.string s7), (.int .i64 i8), (.slice p9 n10 n11)] => some (T31 i0 s1 i2 p3 n4 n5 i6 s7 i8 p9 n10 n11)
    | _ => none)
    | _ => none)
  | _ => none
theorem A31_ok : ∀ args p, A31 args = some p → progOf PROG false 31 args = p := by
  intro args p h
  unfold A31 at h
  split at h
  · split at h
    · split at h
      · rename_i e0 d1 x1_0 x1_1 x1_2 x1_3 x1_4 x1_5 e1
        have f0 := agg_of e0
        subst f0
        have f1 := agg_of e1
        subst f1
        cases h
        exact T31_eq _ _ _ _ _ _ _ _ _ _ _ _
      · cases h
    · cases h
  · cases h
noncomputable def A32 : List Value → Option Pg
  | [(.int .i64 i0)] => some (T32 i0)
  | _ => none
theorem A32_ok : ∀ args p, A32 args = some p → progOf PROG false 32 args = p := by
  intro args p h
  unfold A32 at h
  split at h
  · cases h; exact T32_eq _
  · cases h
noncomputable def A34 : List Value → Option Pg
  | [(.pointer p0), (.agg c0), (.agg c1)] => (match c0.toList with
    | [(.int .i64 i1), (.string s2), (.int .i64 i3), (.slice p4 n5 n6)] => (match c1.toList with
    | [(.int .i64 i7), (.string s8), (.int .i64 i9), (.slice p10 n11 n12)] => some (T34 p0 i1 s2 i3 p4 n5 n6 i7 s8 i9 p10 n11 n12)
    | _ => none)
    | _ => none)
  | _ => none
theorem A34_ok : ∀ args p, A34 args = some p → progOf PROG false 34 args = p := by
  intro args p h
  unfold A34 at h
  split at h
  · split at h
    · split at h
      · rename_i e0 d1 x1_0 x1_1 x1_2 x1_3 x1_4 x1_5 e1
        have f0 := agg_of e0
        subst f0
        have f1 := agg_of e1
        subst f1
        cases h
        exact T34_eq _ _ _ _ _ _ _ _ _ _ _ _ _
      · cases h
    · cases h
  · cases h
noncomputable def A35 : List Value → Option Pg
  | [(.pointer p0), (.agg c0)] => (match c0.toList with
    | [(.int .i64 i1), (.string s2), (.int .i64 i3), (.slice p4 n5 n6)] => some (T35 p0 i1 s2 i3 p4 n5 n6)
    | _ => none)
  | _ => none
theorem A35_ok : ∀ args p, A35 args = some p → progOf PROG false 35 args = p := by
  intro args p h
  unfold A35 at h
  split at h
  · split at h
    · rename_i e0
      have f0 := agg_of e0
      subst f0
      cases h
      exact T35_eq _ _ _ _ _ _ _
    · cases h
  · cases h
noncomputable def A38 : List Value → Option Pg
  | [(.agg c0)] => (match c0.toList with
    | [(.int .i64 i0), (.string s1), (.int .i64 i2), (.slice p3 n4 n5)] => some (T38 i0 s1 i2 p3 n4 n5)
    | _ => none)
  | _ => none
theorem A38_ok : ∀ args p, A38 args = some p → progOf PROG false 38 args = p := by
  intro args p h
  unfold A38 at h
  split at h
  · split at h
    · rename_i e0
      have f0 := agg_of e0
      subst f0
      cases h
      exact T38_eq _ _ _ _ _ _
    · cases h
  · cases h
noncomputable def A39 : List Value → Option Pg
  | [(.pointer p0), (.agg c0)] => (match c0.toList with
    | [(.int .i64 i1), (.string s2), (.int .i64 i3), (.slice p4 n5 n6)] => some (T39 p0 i1 s2 i3 p4 n5 n6)
    | _ => none)
  | _ => none
theorem A39_ok : ∀ args p, A39 args = some p → progOf PROG false 39 args = p := by
  intro args p h
  unfold A39 at h
  split at h
  · split at h
    · rename_i e0
      have f0 := agg_of e0
      subst f0
      cases h
      exact T39_eq _ _ _ _ _ _ _
    · cases h
  · cases h
noncomputable def A41 : List Value → Option Pg
  | [(.agg c0), (.int .i64 i6)] => (match c0.toList with
    | [(.int .i64 i0), (.string s1), (.int .i64 i2), (.slice p3 n4 n5)] => some (T41 i0 s1 i2 p3 n4 n5 i6)
    | _ => none)
  | _ => none
theorem A41_ok : ∀ args p, A41 args = some p → progOf PROG false 41 args = p := by
  intro args p h
  unfold A41 at h
  split at h
  · split at h
    · rename_i e0
      have f0 := agg_of e0
      subst f0
      cases h
      exact T41_eq _ _ _ _ _ _ _
    · cases h
  · cases h
noncomputable def A42 : List Value → Option Pg
  | [(.int .i64 i0)] => some (T42 i0)
  | _ => none
theorem A42_ok : ∀ args p, A42 args = some p → progOf PROG false 42 args = p := by
  intro args p h
  unfold A42 at h
  split at h
  · cases h; exact T42_eq _
  · cases h
noncomputable def A43 : List Value → Option Pg
  | [(.agg c0), (.map m6)] => (match c0.toList with
    | [(.int .i64 i0), (.string s1), (.int .i64 i2), (.slice p3 n4 n5)] => some (T43 i0 s1 i2 p3 n4 n5 m6)
    | _ => none)
  | _ => none
theorem A43_ok : ∀ args p, A43 args = some p → progOf PROG false 43 args = p := by
  intro args p h
  unfold A43 at h
  split at h
  · split at h
    · rename_i e0
      have f0 := agg_of e0
      subst f0
      cases h
      exact T43_eq _ _ _ _ _ _ _
    · cases h
  · cases h
noncomputable def A44 : List Value → Option Pg
  | [(.agg c0)] => (match c0.toList with
    | [(.int .i64 i0), (.string s1), (.int .i64 i2), (.slice p3 n4 n5)] => some (T44 i0 s1 i2 p3 n4 n5)
    | _ => none)
  | _ => none
theorem A44_ok : ∀ args p, A44 args = some p → progOf PROG false 44 args = p := by
  intro args p h
  unfold A44 at h
  split at h
  · split at h
    · rename_i e0
      have f0 := agg_of e0
      subst f0
      cases h
      exact T44_eq _ _ _ _ _ _
    · cases h
  · cases h
noncomputable def A45 : List Value → Option Pg
  | [(.agg c0), (.slice p6 n7 n8)] => (match c0.toList with
    | [(.int .i64 i0), (.string s1), (.int .i64 i2), (.slice p3 n4 n5)] => some (T45 i0 s1 i2 p3 n4 n5 p6 n7 n8)
    | _ => none)
  | _ => none
theorem A45_ok : ∀ args p, A45 args = some p → progOf PROG false 45 args = p := by
  intro args p h
  unfold A45 at h
  split at h
  · split at h
    · rename_i e0
      have f0 := agg_of e0
      subst f0
      cases h
      exact T45_eq _ _ _ _ _ _ _ _ _
    · cases h
  · cases h
noncomputable def A46 : List Value → Option Pg
  | [(.agg c0), (.slice p6 n7 n8)] => (match c0.toList with
    | [(.int .i64 i0), (.string s1), (.int .i64 i2), (.slice p3 n4 n5)] => some (T46 i0 s1 i2 p3 n4 n5 p6 n7 n8)
    | _ => none)
  | _ => none
theorem A46_ok : ∀ args p, A46 args = some p → progOf PROG false 46 args = p := by
  intro args p h
  unfold A46 at h
  split at h
  · split at h
    · rename_i e0
      have f0 := agg_of e0
      subst f0
      cases h
      exact T46_eq _ _ _ _ _ _ _ _ _
    · cases h
  · cases h
noncomputable def A47 : List Value → Option Pg
  | [(.agg c0), (.slice p6 n7 n8)] => (match c0.toList with
    | [(.int .i64 i0), (.string s1), (.int .i64 i2), (.slice p3 n4 n5)] => some (T47 i0 s1 i2 p3 n4 n5 p6 n7 n8)
    | _ => none)
  | _ => none
theorem A47_ok : ∀ args p, A47 args = some p → progOf PROG false 47 args = p := by
  intro args p h
  unfold A47 at h
  split at h
  · split at h
    · rename_i e0
      have f0 := agg_of e0
      subst f0
      cases h
      exact T47_eq _ _ _ _ _ _ _ _ _
    · cases h
  · cases h
noncomputable def A48 : List Value → Option Pg
  | [(.pointer p0), (.agg c0)] => (match c0.toList with
    | [(.int .i64 i1), (.string s2), (.int .i64 i3), (.slice p4 n5 n6)] => some (T48 p0 i1 s2 i3 p4 n5 n6)
    | _ => none)
  | _ => none
theorem A48_ok : ∀ args p, A48 args = some p → progOf PROG false 48 args = p := by
  intro args p h
  unfold A48 at h
  split at h
  · split at h
    · rename_i e0
      have f0 := agg_of e0
      subst f0
      cases h
      exact T48_eq _ _ _ _ _ _ _
    · cases h
  · cases h
noncomputable def A49 : List Value → Option Pg
  | [(.pointer p0), (.int .i64 i1), (.agg c0)] => (match c0.toList with
    | [(.int .i64 i2), (.string s3), (.int .i64 i4), (.slice p5 n6 n7)] => some (T49 p0 i1 i2 s3 i4 p5 n6 n7)
    | _ => none)
  | _ => none
theorem A49_ok : ∀ args p, A49 args = some p → progOf PROG false 49 args = p := by
  intro args p h
  unfold A49 at h
  split at h
  · split at h
    · rename_i e0
      have f0 := agg_of e0
      subst f0
      cases h
      exact T49_eq _ _ _ _ _ _ _ _
    · cases h
  · cases h
noncomputable def A50 : List Value → Option Pg
  | [(.pointer p0), (.agg c0), (.int .i64 i7)] => (match c0.toList with
    | [(.int .i64 i1), (.string s2), (.int .i64 i3), (.slice p4 n5 n6)] => some (T50 p0 i1 s2 i3 p4 n5 n6 i7)
    | _ => none)
  | _ => none
theorem A50_ok : ∀ args p, A50 args = some p → progOf PROG false 50 args = p := by
  intro args p h
  unfold A50 at h
  split at h
  · split at h
    · rename_i e0
      have f0 := agg_of e0
      subst f0
      cases h
      exact T50_eq _ _ _ _ _ _ _ _
    · cases h
  · cases h
noncomputable def A54 : List Value → Option Pg
  | [(.int .i64 i0)] => some (T54 i0)
  | _ => none
theorem A54_ok : ∀ args p, A54 args = some p → progOf PROG false 54 args = p := by
  intro args p h
  unfold A54 at h
  split at h
  · cases h; exact T54_eq _
  · cases h
noncomputable def A56 : List Value → Option Pg
  | [(.int .i64 i0)] => some (T56 i0)
  | _ => none
theorem A56_ok : ∀ args p, A56 args = some p → progOf PROG false 56 args = p := by
  intro args p h
  unfold A56 at h
  split at h
  · cases h; exact T56_eq _
  · cases h
noncomputable def A57 : List Value → Option Pg
  | [(.slice p0 n1 n2), (.int .i64 i3)] => some (T57 p0 n1 n2 i3)
  | _ => none
theorem A57_ok : ∀ args p, A57 args = some p → progOf PROG false 57 args = p := by
  intro args p h
  unfold A57 at h
  split at h
  · cases h; exact T57_eq _ _ _ _
  · cases h
noncomputable def A58 : List Value → Option Pg
  | [(.pointer p0), (.int .i64 i1), (.agg c0), (.map m8)] => (match c0.toList with
    | [(.int .i64 i2), (.string s3), (.int .i64 i4), (.slice p5 n6 n7)] => some (T58 p0 i1 i2 s3 i4 p5 n6 n7 m8)
    | _ => none)
  | _ => none
theorem A58_ok : ∀ args p, A58 args = some p → progOf PROG false 58 args = p := by
  intro args p h
  unfold A58 at h
  split at h
  · split at h
    · rename_i e0
      have f0 := agg_of e0
      subst f0
      cases h
      exact T58_eq _ _ _ _ _ _ _ _ _
    · cases h
  · cases h
noncomputable def TAB : Tab := (.low 28 (.low 16 (.low 8 (.low 5 (.one 4 A4 (.one 5 A5 .nil)) (.one 6 A6 (.one 7 A7 (.one 8 A8 .nil)))) (.low 11 (.one 9 A9 (.one 10 A10 (.one 11 A11 .nil))) (.one 14 A14 (.one 15 A15 (.one 16 A16 .nil))))) (.low 22 (.low 19 (.one 17 A17 (.one 19 A19 .nil)) (.one 20 A20 (.one 21 A21 (.one 22 A22 .nil)))) (.low 25 (.one 23 A23 (.one 24 A24 (.one 25 A25 .nil))) (.one 26 A26 (.one 27 A27 (.one 28 A28 .nil)))))) (.low 43 (.low 34 (.low 30 (.one 29 A29 (.one 30 A30 .nil)) (.one 31 A31 (.one 32 A32 (.one 34 A34 .nil)))) (.low 39 (.one 35 A35 (.one 38 A38 (.one 39 A39 .nil))) (.one 41 A41 (.one 42 A42 (.one 43 A43 .nil))))) (.low 48 (.low 45 (.one 44 A44 (.one 45 A45 .nil)) (.one 46 A46 (.one 47 A47 (.one 48 A48 .nil)))) (.low 54 (.one 49 A49 (.one 50 A50 (.one 54 A54 .nil))) (.one 56 A56 (.one 57 A57 (.one 58 A58 .nil)))))))
theorem TAB_ok : TabOK PROG TAB := (.low (.low (.low (.low (.one A4_ok (.one A5_ok .nil)) (.one A6_ok (.one A7_ok (.one A8_ok .nil)))) (.low (.one A9_ok (.one A10_ok (.one A11_ok .nil))) (.one A14_ok (.one A15_ok (.one A16_ok .nil))))) (.low (.low (.one A17_ok (.one A19_ok .nil)) (.one A20_ok (.one A21_ok (.one A22_ok .nil)))) (.low (.one A23_ok (.one A24_ok (.one A25_ok .nil))) (.one A26_ok (.one A27_ok (.one A28_ok .nil)))))) (.low (.low (.low (.one A29_ok (.one A30_ok .nil)) (.one A31_ok (.one A32_ok (.one A34_ok .nil)))) (.low (.one A35_ok (.one A38_ok (.one A39_ok .nil))) (.one A41_ok (.one A42_ok (.one A43_ok .nil))))) (.low (.low (.one A44_ok (.one A45_ok .nil)) (.one A46_ok (.one A47_ok (.one A48_ok .nil)))) (.low (.one A49_ok (.one A50_ok (.one A54_ok .nil))) (.one A56_ok (.one A57_ok (.one A58_ok .nil)))))))

end Go.Pg
