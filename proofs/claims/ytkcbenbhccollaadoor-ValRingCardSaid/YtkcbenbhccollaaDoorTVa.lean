/- The trees of the functions that the laws reach, written out by program; each is shown to be the function's own; then their table. -/
import Derived.Test.YtkcbenbhccollaaDoorProg
import Derived.KernelRfl
import Derived.Test.YtkcbenbhccollaaDoorPg3
namespace Go.Pg
open Go.Proofs
set_option linter.unusedVariables false
noncomputable abbrev PROG : Program := Tryd.prog
noncomputable def T3k0 : Ex → List Value → Pg :=
  fun e178 l179 => sw e178 .normal (asCons l179 fun v180 l181 => asBool v180 fun b182 => asNil l181 (.ret .ret [(.bool b182)])) (.fail)

/-- hindsight/hindsightlaw9.ValOps -/
noncomputable def T3 (s0 : ByteArray) (i1 : Int) (i2 : Int) : Pg :=
  .call 5 [] fun v3 => asBool v3 fun b4 => bif (!b4) then (.ret .ret [(.bool false)]) else (bif (decide (((s0.size : Nat) : Int) > 20)) then (.ret .ret [(.bool true)]) else (.call 6 [(.string s0), (.int .i64 i1), (.int .i64 i2)] fun v5 => asTuple v5 fun l6 => asCons l6 fun v7 l8 => asAgg v7 fun l9 => asCons l9 fun v10 l11 => asInt .i64 v10 fun i12 => asCons l11 fun v13 l14 => asInt .i64 v13 fun i15 => asCons l14 fun v16 l17 => asStr v16 fun s18 => asCons l17 fun v19 l20 => asSlice v19 fun p21 n22 n23 => asCons l20 fun v24 l25 => asInt .i64 v24 fun i26 => asCons l25 fun v27 l28 => asPtr v27 fun p29 => asCons l28 fun v30 l31 => asInt .i64 v30 fun i32 => asNil l31 (asCons l8 fun v33 l34 => asBool v33 fun b35 => asNil l34 (.act (newC [(.int .i64 0), (.int .i64 0), (.string (bs [])), (.slice none 0 0), (.int .i64 0), (.pointer none), (.int .i64 0)]) fun v36 => asPtr v36 fun p37 => asSome p37 fun a38 => .act (stC a38 [(.int .i64 i12), (.int .i64 i15), (.string s18), (.slice p21 n22 n23), (.int .i64 i26), (.pointer p29), (.int .i64 i32)]) fun v39 => asTuple v39 fun l40 => asNil l40 (.call 7 [(.string s0), (.int .i64 i1), (.int .i64 i2)] fun v41 => asTuple v41 fun l42 => asCons l42 fun v43 l44 => asAgg v43 fun l45 => asCons l45 fun v46 l47 => asInt .i64 v46 fun i48 => asCons l47 fun v49 l50 => asInt .i64 v49 fun i51 => asCons l50 fun v52 l53 => asStr v52 fun s54 => asCons l53 fun v55 l56 => asSlice v55 fun p57 n58 n59 => asCons l56 fun v60 l61 => asInt .i64 v60 fun i62 => asCons l61 fun v63 l64 => asPtr v63 fun p65 => asCons l64 fun v66 l67 => asInt .i64 v66 fun i68 => asCons l67 fun v69 l70 => asInt .i64 v69 fun i71 => asNil l70 (asCons l44 fun v72 l73 => asBool v72 fun b74 => asNil l73 (.act (newC [(.int .i64 0), (.int .i64 0), (.string (bs [])), (.slice none 0 0), (.int .i64 0), (.pointer none), (.int .i64 0), (.int .i64 0)]) fun v75 => asPtr v75 fun p76 => asSome p76 fun a77 => .act (stC a77 [(.int .i64 i48), (.int .i64 i51), (.string s54), (.slice p57 n58 n59), (.int .i64 i62), (.pointer p65), (.int .i64 i68), (.int .i64 i71)]) fun v78 => asTuple v78 fun l79 => asNil l79 (.join (bif (b35 == b74) == true then (.act (ldN 7 a38) fun v80 => asAgg v80 fun l81 => asCons l81 fun v82 l83 => asInt .i64 v82 fun i84 => asCons l83 fun v85 l86 => asInt .i64 v85 fun i87 => asCons l86 fun v88 l89 => asStr v88 fun s90 => asCons l89 fun v91 l92 => asSlice v91 fun p93 n94 n95 => asCons l92 fun v96 l97 => asInt .i64 v96 fun i98 => asCons l97 fun v99 l100 => asPtr v99 fun p101 => asCons l100 fun v102 l103 => asInt .i64 v102 fun i104 => asNil l103 (.get fun h106 => .call 9 [(.agg #[(.int .i64 i84), (.int .i64 i87), (.string s90), (.slice p93 n94 n95), (.int .i64 i98), (.pointer p101), (.int .i64 i104)])] fun v105 => asAgg v105 fun l107 => asCons l107 fun v108 l109 => asInt .i64 v108 fun i110 => asCons l109 fun v111 l112 => asInt .i64 v111 fun i113 => asCons l112 fun v114 l115 => asStr v114 fun s116 => asCons l115 fun v117 l118 => asSlice v117 fun p119 n120 n121 => asCons l118 fun v122 l123 => asInt .i64 v122 fun i124 => asCons l123 fun v125 l126 => asPtr v125 fun p127 => asCons l126 fun v128 l129 => asInt .i64 v128 fun i130 => asCons l129 fun v131 l132 => asInt .i64 v131 fun i133 => asNil l132 (.act (ldN 8 a77) fun v134 => grd (past (ldN 8 a77) v134 [h106]) (asAgg v134 fun l135 => asCons l135 fun v136 l137 => asInt .i64 v136 fun i138 => asCons l137 fun v139 l140 => asInt .i64 v139 fun i141 => asCons l140 fun v142 l143 => asStr v142 fun s144 => asCons l143 fun v145 l146 => asSlice v145 fun p147 n148 n149 => asCons l146 fun v150 l151 => asInt .i64 v150 fun i152 => asCons l151 fun v153 l154 => asPtr v153 fun p155 => asCons l154 fun v156 l157 => asInt .i64 v156 fun i158 => asCons l157 fun v159 l160 => asInt .i64 v159 fun i161 => asNil l160 (.call 8 [(.agg #[(.int .i64 i110), (.int .i64 i113), (.string s116), (.slice p119 n120 n121), (.int .i64 i124), (.pointer p127), (.int .i64 i130), (.int .i64 i133)]), (.agg #[(.int .i64 i138), (.int .i64 i141), (.string s144), (.slice p147 n148 n149), (.int .i64 i152), (.pointer p155), (.int .i64 i158), (.int .i64 i161)])] fun v162 => asBool v162 fun b163 => bif b163 == true then (.call 10 [(.int .i64 i1)] fun v164 => asInt .i64 v164 fun i165 => .call 11 [(.int .i64 i1)] fun v166 => asInt .i64 v166 fun i167 => bif (i165 == i167) == true then (.call 10 [(.int .i64 i1)] fun v168 => asInt .i64 v168 fun i169 => .call 10 [(.int .i64 i169)] fun v170 => asInt .i64 v170 fun i171 => .call 10 [(.int .i64 i1)] fun v172 => asInt .i64 v172 fun i173 => bif (i171 == i173) == true then (.call 10 [(.int .i64 i1)] fun v174 => asInt .i64 v174 fun i175 => bif (decide (i175 ≥ (-4611686018427387904))) == true then (.call 10 [(.int .i64 i1)] fun v176 => asInt .i64 v176 fun i177 => .ret .normal [(.bool (decide (i177 < 4611686018427387904)))]) else (.ret .normal [(.bool false)])) else (.ret .normal [(.bool false)])) else (.ret .normal [(.bool false)])) else (.ret .normal [(.bool false)])))))) else (.ret .normal [(.bool false)])) (T3k0)))))))))
theorem T3_eq (s0 : ByteArray) (i1 : Int) (i2 : Int) : progOf PROG false 3 [(.string s0), (.int .i64 i1), (.int .i64 i2)] = T3 s0 i1 i2 := by kernel_rfl


noncomputable def T4k0 (i122 : Int) : Ex → List Value → Pg :=
  fun e164 l165 => sw e164 .normal (asCons l165 fun v166 l167 => asInt .i64 v166 fun i168 => asNil l167 (.ret .normal [(.int .i64 (wi64 (i122 + 1))), (.int .i64 i168)])) (.fail)

noncomputable def T4b0 (i2 : Int) (i6 : Int) : List Value → Pg :=
  fun l119 => asCons l119 fun v120 l121 => asInt .i64 v120 fun i122 => asCons l121 fun v123 l124 => asInt .i64 v123 fun i125 => asNil l124 (bif (decide (i122 < i2)) then (.join (.call 6 [(.string (bs [43])), (.int .i64 i125), (.int .i64 i6)] fun v126 => asTuple v126 fun l127 => asCons l127 fun v128 l129 => asAgg v128 fun l130 => asCons l130 fun v131 l132 => asInt .i64 v131 fun i133 => asCons l132 fun v134 l135 => asInt .i64 v134 fun i136 => asCons l135 fun v137 l138 => asStr v137 fun s139 => asCons l138 fun v140 l141 => asSlice v140 fun p142 n143 n144 => asCons l141 fun v145 l146 => asInt .i64 v145 fun i147 => asCons l146 fun v148 l149 => asPtr v148 fun p150 => asCons l149 fun v151 l152 => asInt .i64 v151 fun i153 => asNil l152 (asCons l129 fun v154 l155 => asBool v154 fun b156 => asNil l155 (.act (newC [(.int .i64 0), (.int .i64 0), (.string (bs [])), (.slice none 0 0), (.int .i64 0), (.pointer none), (.int .i64 0)]) fun v157 => asPtr v157 fun p158 => asSome p158 fun a159 => .act (stC a159 [(.int .i64 i133), (.int .i64 i136), (.string s139), (.slice p142 n143 n144), (.int .i64 i147), (.pointer p150), (.int .i64 i153)]) fun v160 => asTuple v160 fun l161 => asNil l161 (.act (ld1 (aadd a159 1)) fun v162 => asInt .i64 v162 fun i163 => .ret .normal [(.int .i64 i163)])))) (T4k0 i122)) else (.ret (.exit 0) [(.int .i64 i122), (.int .i64 i125)]))

noncomputable def T4k1 : Ex → List Value → Pg :=
  fun e295 l296 => sw e295 .normal (asCons l296 fun v297 l298 => asBool v297 fun b299 => asNil l298 (.ret .ret [(.bool b299)])) (.fail)

noncomputable def T4k2 (i6 : Int) (i8 : Int) (a80 : Addr) (a116 : Addr) : Ex → List Value → Pg :=
  fun e169 l170 => sw e169 (.exit 0) (asCons l170 fun v171 l172 => asInt .i64 v171 fun i173 => asCons l172 fun v174 l175 => asInt .i64 v174 fun i176 => asNil l175 (.call 6 [(.string (bs [60])), (.int .i64 i6), (.int .i64 i8)] fun v177 => asTuple v177 fun l178 => asCons l178 fun v179 l180 => asAgg v179 fun l181 => asCons l181 fun v182 l183 => asInt .i64 v182 fun i184 => asCons l183 fun v185 l186 => asInt .i64 v185 fun i187 => asCons l186 fun v188 l189 => asStr v188 fun s190 => asCons l189 fun v191 l192 => asSlice v191 fun p193 n194 n195 => asCons l192 fun v196 l197 => asInt .i64 v196 fun i198 => asCons l197 fun v199 l200 => asPtr v199 fun p201 => asCons l200 fun v202 l203 => asInt .i64 v202 fun i204 => asNil l203 (asCons l180 fun v205 l206 => asBool v205 fun b207 => asNil l206 (.act (newC [(.int .i64 0), (.int .i64 0), (.string (bs [])), (.slice none 0 0), (.int .i64 0), (.pointer none), (.int .i64 0)]) fun v208 => asPtr v208 fun p209 => asSome p209 fun a210 => .act (stC a210 [(.int .i64 i184), (.int .i64 i187), (.string s190), (.slice p193 n194 n195), (.int .i64 i198), (.pointer p201), (.int .i64 i204)]) fun v211 => asTuple v211 fun l212 => asNil l212 (.call 6 [(.string (bs [60])), (.int .i64 i8), (.int .i64 i6)] fun v213 => asTuple v213 fun l214 => asCons l214 fun v215 l216 => asAgg v215 fun l217 => asCons l217 fun v218 l219 => asInt .i64 v218 fun i220 => asCons l219 fun v221 l222 => asInt .i64 v221 fun i223 => asCons l222 fun v224 l225 => asStr v224 fun s226 => asCons l225 fun v227 l228 => asSlice v227 fun p229 n230 n231 => asCons l228 fun v232 l233 => asInt .i64 v232 fun i234 => asCons l233 fun v235 l236 => asPtr v235 fun p237 => asCons l236 fun v238 l239 => asInt .i64 v238 fun i240 => asNil l239 (asCons l216 fun v241 l242 => asBool v241 fun b243 => asNil l242 (.act (newC [(.int .i64 0), (.int .i64 0), (.string (bs [])), (.slice none 0 0), (.int .i64 0), (.pointer none), (.int .i64 0)]) fun v244 => asPtr v244 fun p245 => asSome p245 fun a246 => .act (stC a246 [(.int .i64 i220), (.int .i64 i223), (.string s226), (.slice p229 n230 n231), (.int .i64 i234), (.pointer p237), (.int .i64 i240)]) fun v247 => asTuple v247 fun l248 => asNil l248 (.call 6 [(.string (bs [61])), (.int .i64 i6), (.int .i64 i8)] fun v249 => asTuple v249 fun l250 => asCons l250 fun v251 l252 => asAgg v251 fun l253 => asCons l253 fun v254 l255 => asInt .i64 v254 fun i256 => asCons l255 fun v257 l258 => asInt .i64 v257 fun i259 => asCons l258 fun v260 l261 => asStr v260 fun s262 => asCons l261 fun v263 l264 => asSlice v263 fun p265 n266 n267 => asCons l264 fun v268 l269 => asInt .i64 v268 fun i270 => asCons l269 fun v271 l272 => asPtr v271 fun p273 => asCons l272 fun v274 l275 => asInt .i64 v274 fun i276 => asNil l275 (asCons l252 fun v277 l278 => asBool v277 fun b279 => asNil l278 (.act (newC [(.int .i64 0), (.int .i64 0), (.string (bs [])), (.slice none 0 0), (.int .i64 0), (.pointer none), (.int .i64 0)]) fun v280 => asPtr v280 fun p281 => asSome p281 fun a282 => .act (stC a282 [(.int .i64 i256), (.int .i64 i259), (.string s262), (.slice p265 n266 n267), (.int .i64 i270), (.pointer p273), (.int .i64 i276)]) fun v283 => asTuple v283 fun l284 => asNil l284 (.join (.act (ld1 (aadd a80 1)) fun v285 => asInt .i64 v285 fun i286 => bif (i286 == i6) == true then (.act (ld1 (aadd a116 1)) fun v287 => asInt .i64 v287 fun i288 => bif (i288 == i176) == true then (.act (ld1 (aadd a210 1)) fun v289 => asInt .i64 v289 fun i290 => .act (ld1 (aadd a246 1)) fun v291 => asInt .i64 v291 fun i292 => .act (ld1 (aadd a282 1)) fun v293 => asInt .i64 v293 fun i294 => .ret .normal [(.bool ((wi64 ((wi64 (i290 + i292)) + i294)) == 1))]) else (.ret .normal [(.bool false)])) else (.ret .normal [(.bool false)])) (T4k1)))))))))))) (.fail)

/-- hindsight/hindsightlaw9.ValRing -/
noncomputable def T4 (i0 : Int) (i1 : Int) (i2 : Int) : Pg :=
  .call 5 [] fun v3 => asBool v3 fun b4 => bif (!b4) then (.ret .ret [(.bool false)]) else (bif ((decide (i2 < 0)) || (decide (i2 > 50))) then (.ret .ret [(.bool true)]) else (.call 10 [(.int .i64 i0)] fun v5 => asInt .i64 v5 fun i6 => .call 10 [(.int .i64 i1)] fun v7 => asInt .i64 v7 fun i8 => .call 6 [(.string (bs [43])), (.int .i64 i6), (.int .i64 i8)] fun v9 => asTuple v9 fun l10 => asCons l10 fun v11 l12 => asAgg v11 fun l13 => asCons l13 fun v14 l15 => asInt .i64 v14 fun i16 => asCons l15 fun v17 l18 => asInt .i64 v17 fun i19 => asCons l18 fun v20 l21 => asStr v20 fun s22 => asCons l21 fun v23 l24 => asSlice v23 fun p25 n26 n27 => asCons l24 fun v28 l29 => asInt .i64 v28 fun i30 => asCons l29 fun v31 l32 => asPtr v31 fun p33 => asCons l32 fun v34 l35 => asInt .i64 v34 fun i36 => asNil l35 (asCons l12 fun v37 l38 => asBool v37 fun b39 => asNil l38 (.act (newC [(.int .i64 0), (.int .i64 0), (.string (bs [])), (.slice none 0 0), (.int .i64 0), (.pointer none), (.int .i64 0)]) fun v40 => asPtr v40 fun p41 => asSome p41 fun a42 => .act (stC a42 [(.int .i64 i16), (.int .i64 i19), (.string s22), (.slice p25 n26 n27), (.int .i64 i30), (.pointer p33), (.int .i64 i36)]) fun v43 => asTuple v43 fun l44 => asNil l44 (.act (ld1 (aadd a42 1)) fun v45 => asInt .i64 v45 fun i46 => .call 6 [(.string (bs [45])), (.int .i64 i46), (.int .i64 i8)] fun v47 => asTuple v47 fun l48 => asCons l48 fun v49 l50 => asAgg v49 fun l51 => asCons l51 fun v52 l53 => asInt .i64 v52 fun i54 => asCons l53 fun v55 l56 => asInt .i64 v55 fun i57 => asCons l56 fun v58 l59 => asStr v58 fun s60 => asCons l59 fun v61 l62 => asSlice v61 fun p63 n64 n65 => asCons l62 fun v66 l67 => asInt .i64 v66 fun i68 => asCons l67 fun v69 l70 => asPtr v69 fun p71 => asCons l70 fun v72 l73 => asInt .i64 v72 fun i74 => asNil l73 (asCons l50 fun v75 l76 => asBool v75 fun b77 => asNil l76 (.act (newC [(.int .i64 0), (.int .i64 0), (.string (bs [])), (.slice none 0 0), (.int .i64 0), (.pointer none), (.int .i64 0)]) fun v78 => asPtr v78 fun p79 => asSome p79 fun a80 => .act (stC a80 [(.int .i64 i54), (.int .i64 i57), (.string s60), (.slice p63 n64 n65), (.int .i64 i68), (.pointer p71), (.int .i64 i74)]) fun v81 => asTuple v81 fun l82 => asNil l82 (.call 6 [(.string (bs [42])), (.int .i64 i6), (.int .i64 i2)] fun v83 => asTuple v83 fun l84 => asCons l84 fun v85 l86 => asAgg v85 fun l87 => asCons l87 fun v88 l89 => asInt .i64 v88 fun i90 => asCons l89 fun v91 l92 => asInt .i64 v91 fun i93 => asCons l92 fun v94 l95 => asStr v94 fun s96 => asCons l95 fun v97 l98 => asSlice v97 fun p99 n100 n101 => asCons l98 fun v102 l103 => asInt .i64 v102 fun i104 => asCons l103 fun v105 l106 => asPtr v105 fun p107 => asCons l106 fun v108 l109 => asInt .i64 v108 fun i110 => asNil l109 (asCons l86 fun v111 l112 => asBool v111 fun b113 => asNil l112 (.act (newC [(.int .i64 0), (.int .i64 0), (.string (bs [])), (.slice none 0 0), (.int .i64 0), (.pointer none), (.int .i64 0)]) fun v114 => asPtr v114 fun p115 => asSome p115 fun a116 => .act (stC a116 [(.int .i64 i90), (.int .i64 i93), (.string s96), (.slice p99 n100 n101), (.int .i64 i104), (.pointer p107), (.int .i64 i110)]) fun v117 => asTuple v117 fun l118 => asNil l118 (.loop [(.int .i64 0), (.int .i64 0)] (T4b0 i2 i6) (T4k2 i6 i8 a80 a116))))))))))))
theorem T4_eq (i0 : Int) (i1 : Int) (i2 : Int) : progOf PROG false 4 [(.int .i64 i0), (.int .i64 i1), (.int .i64 i2)] = T4 i0 i1 i2 := by kernel_rfl


noncomputable def T5k0 : Ex → List Value → Pg :=
  fun e44 l45 => sw e44 .normal (asCons l45 fun v46 l47 => asBool v46 fun b48 => asNil l47 (.ret .ret [(.bool b48)])) (.fail)

/-- hindsight/hindsightlaw9.awake -/
noncomputable def T5 : Pg :=
  .call 6 [(.string (bs [43])), (.int .i64 4611686018427387903), (.int .i64 1)] fun v0 => asTuple v0 fun l1 => asCons l1 fun v2 l3 => asAgg v2 fun l4 => asCons l4 fun v5 l6 => asInt .i64 v5 fun i7 => asCons l6 fun v8 l9 => asInt .i64 v8 fun i10 => asCons l9 fun v11 l12 => asStr v11 fun s13 => asCons l12 fun v14 l15 => asSlice v14 fun p16 n17 n18 => asCons l15 fun v19 l20 => asInt .i64 v19 fun i21 => asCons l20 fun v22 l23 => asPtr v22 fun p24 => asCons l23 fun v25 l26 => asInt .i64 v25 fun i27 => asNil l26 (asCons l3 fun v28 l29 => asBool v28 fun b30 => asNil l29 (.act (newC [(.int .i64 0), (.int .i64 0), (.string (bs [])), (.slice none 0 0), (.int .i64 0), (.pointer none), (.int .i64 0)]) fun v31 => asPtr v31 fun p32 => asSome p32 fun a33 => .act (stC a33 [(.int .i64 i7), (.int .i64 i10), (.string s13), (.slice p16 n17 n18), (.int .i64 i21), (.pointer p24), (.int .i64 i27)]) fun v34 => asTuple v34 fun l35 => asNil l35 (.join (.call 10 [(.int .i64 4611686018427387904)] fun v36 => asInt .i64 v36 fun i37 => bif ((i37 == (-4611686018427387904)) && b30) == true then (.act (ld1 (aadd a33 0)) fun v38 => asInt .i64 v38 fun i39 => bif (i39 == 1) == true then (.act (ld1 (aadd a33 1)) fun v40 => asInt .i64 v40 fun i41 => bif (i41 == (-4611686018427387904)) == true then (.call 12 [(.agg #[(.int .i64 2), (.int .i64 1), (.string (bs [])), (.slice none 0 0), (.int .i64 0), (.pointer none), (.int .i64 0)]), (.agg #[(.int .i64 2), (.string (bs [])), (.int .i64 0), (.slice none 0 0)]), (.slice none 0 0), (.slice none 0 0)] fun v42 => asStr v42 fun s43 => .ret .normal [(.bool (s43.toList == (bs [116, 114, 117, 101]).toList))]) else (.ret .normal [(.bool false)])) else (.ret .normal [(.bool false)])) else (.ret .normal [(.bool false)])) (T5k0))))
theorem T5_eq : progOf PROG false 5 [] = T5 := by kernel_rfl


noncomputable def T6k0 (a5 : Addr) : Ex → List Value → Pg :=
  fun e141 l142 => sw e141 .ret (asCons l142 fun v143 l144 => asBool v143 fun b145 => asNil l144 (.act (ldN 7 a5) fun v146 => .ret .ret [(.tuple #[v146, (.bool b145)])])) (sw e141 .normal (asCons l142 fun v147 l148 => asBool v147 fun b149 => asNil l148 (.act (stC a5 [(.int .i64 0), (.int .i64 0), (.string (bs [])), (.slice none 0 0), (.int .i64 0), (.pointer none), (.int .i64 0)]) fun v150 => asTuple v150 fun l151 => asNil l151 (.act (ldN 7 a5) fun v152 => .ret .ret [(.tuple #[v152, (.bool false)])]))) (.fail))

/-- hindsight/val.Op -/
noncomputable def T6 (s0 : ByteArray) (i1 : Int) (i2 : Int) : Pg :=
  .act (newC [(.int .i64 0), (.int .i64 0), (.string (bs [])), (.slice none 0 0), (.int .i64 0), (.pointer none), (.int .i64 0)]) fun v3 => asPtr v3 fun p4 => asSome p4 fun a5 => .join (bif (s0.toList == (bs [43]).toList) then (.call 13 [(.int .i64 (wi64 (i1 + i2)))] fun v6 => asAgg v6 fun l7 => asCons l7 fun v8 l9 => asInt .i64 v8 fun i10 => asCons l9 fun v11 l12 => asInt .i64 v11 fun i13 => asCons l12 fun v14 l15 => asStr v14 fun s16 => asCons l15 fun v17 l18 => asSlice v17 fun p19 n20 n21 => asCons l18 fun v22 l23 => asInt .i64 v22 fun i24 => asCons l23 fun v25 l26 => asPtr v25 fun p27 => asCons l26 fun v28 l29 => asInt .i64 v28 fun i30 => asNil l29 (.act (stC a5 [(.int .i64 i10), (.int .i64 i13), (.string s16), (.slice p19 n20 n21), (.int .i64 i24), (.pointer p27), (.int .i64 i30)]) fun v31 => asTuple v31 fun l32 => asNil l32 (.ret .ret [(.bool true)]))) else (bif (s0.toList == (bs [45]).toList) then (.call 13 [(.int .i64 (wi64 (i1 - i2)))] fun v33 => asAgg v33 fun l34 => asCons l34 fun v35 l36 => asInt .i64 v35 fun i37 => asCons l36 fun v38 l39 => asInt .i64 v38 fun i40 => asCons l39 fun v41 l42 => asStr v41 fun s43 => asCons l42 fun v44 l45 => asSlice v44 fun p46 n47 n48 => asCons l45 fun v49 l50 => asInt .i64 v49 fun i51 => asCons l50 fun v52 l53 => asPtr v52 fun p54 => asCons l53 fun v55 l56 => asInt .i64 v55 fun i57 => asNil l56 (.act (stC a5 [(.int .i64 i37), (.int .i64 i40), (.string s43), (.slice p46 n47 n48), (.int .i64 i51), (.pointer p54), (.int .i64 i57)]) fun v58 => asTuple v58 fun l59 => asNil l59 (.ret .ret [(.bool true)]))) else (bif (s0.toList == (bs [42]).toList) then (.call 13 [(.int .i64 (wi64 (i1 * i2)))] fun v60 => asAgg v60 fun l61 => asCons l61 fun v62 l63 => asInt .i64 v62 fun i64 => asCons l63 fun v65 l66 => asInt .i64 v65 fun i67 => asCons l66 fun v68 l69 => asStr v68 fun s70 => asCons l69 fun v71 l72 => asSlice v71 fun p73 n74 n75 => asCons l72 fun v76 l77 => asInt .i64 v76 fun i78 => asCons l77 fun v79 l80 => asPtr v79 fun p81 => asCons l80 fun v82 l83 => asInt .i64 v82 fun i84 => asNil l83 (.act (stC a5 [(.int .i64 i64), (.int .i64 i67), (.string s70), (.slice p73 n74 n75), (.int .i64 i78), (.pointer p81), (.int .i64 i84)]) fun v85 => asTuple v85 fun l86 => asNil l86 (.ret .ret [(.bool true)]))) else (bif (s0.toList == (bs [60]).toList) then (.call 14 [(.bool (decide (i1 < i2)))] fun v87 => asAgg v87 fun l88 => asCons l88 fun v89 l90 => asInt .i64 v89 fun i91 => asCons l90 fun v92 l93 => asInt .i64 v92 fun i94 => asCons l93 fun v95 l96 => asStr v95 fun s97 => asCons l96 fun v98 l99 => asSlice v98 fun p100 n101 n102 => asCons l99 fun v103 l104 => asInt .i64 v103 fun i105 => asCons l104 fun v106 l107 => asPtr v106 fun p108 => asCons l107 fun v109 l110 => asInt .i64 v109 fun i111 => asNil l110 (.act (stC a5 [(.int .i64 i91), (.int .i64 i94), (.string s97), (.slice p100 n101 n102), (.int .i64 i105), (.pointer p108), (.int .i64 i111)]) fun v112 => asTuple v112 fun l113 => asNil l113 (.ret .ret [(.bool true)]))) else (bif (s0.toList == (bs [61]).toList) then (.call 14 [(.bool (i1 == i2))] fun v114 => asAgg v114 fun l115 => asCons l115 fun v116 l117 => asInt .i64 v116 fun i118 => asCons l117 fun v119 l120 => asInt .i64 v119 fun i121 => asCons l120 fun v122 l123 => asStr v122 fun s124 => asCons l123 fun v125 l126 => asSlice v125 fun p127 n128 n129 => asCons l126 fun v130 l131 => asInt .i64 v130 fun i132 => asCons l131 fun v133 l134 => asPtr v133 fun p135 => asCons l134 fun v136 l137 => asInt .i64 v136 fun i138 => asNil l137 (.act (stC a5 [(.int .i64 i118), (.int .i64 i121), (.string s124), (.slice p127 n128 n129), (.int .i64 i132), (.pointer p135), (.int .i64 i138)]) fun v139 => asTuple v139 fun l140 => asNil l140 (.ret .ret [(.bool true)]))) else (.ret .normal [(.bool false)])))))) (T6k0 a5)
theorem T6_eq (s0 : ByteArray) (i1 : Int) (i2 : Int) : progOf PROG false 6 [(.string s0), (.int .i64 i1), (.int .i64 i2)] = T6 s0 i1 i2 := by kernel_rfl


noncomputable def T7k0 (a5 : Addr) : Ex → List Value → Pg :=
  fun e78 l79 => sw e78 .ret (asCons l79 fun v80 l81 => asBool v80 fun b82 => asNil l81 (.act (ldN 8 a5) fun v83 => .ret .ret [(.tuple #[v83, (.bool b82)])])) (sw e78 .normal (asCons l79 fun v84 l85 => asBool v84 fun b86 => asNil l85 (.act (stC a5 [(.int .i64 0), (.int .i64 0), (.string (bs [])), (.slice none 0 0), (.int .i64 0), (.pointer none), (.int .i64 0), (.int .i64 0)]) fun v87 => asTuple v87 fun l88 => asNil l88 (.act (ldN 8 a5) fun v89 => .ret .ret [(.tuple #[v89, (.bool false)])]))) (.fail))

/-- hindsight/hindsightref9.Op -/
noncomputable def T7 (s0 : ByteArray) (i1 : Int) (i2 : Int) : Pg :=
  .act (newC [(.int .i64 0), (.int .i64 0), (.string (bs [])), (.slice none 0 0), (.int .i64 0), (.pointer none), (.int .i64 0), (.int .i64 0)]) fun v3 => asPtr v3 fun p4 => asSome p4 fun a5 => .join (bif (s0.toList == (bs [43]).toList) then (.call 11 [(.int .i64 (wi64 (i1 + i2)))] fun v6 => asInt .i64 v6 fun i7 => .act (stC a5 [(.int .i64 1), (.int .i64 i7), (.string (bs [])), (.slice none 0 0), (.int .i64 0), (.pointer none), (.int .i64 0), (.int .i64 0)]) fun v8 => asTuple v8 fun l9 => asNil l9 (.ret .ret [(.bool true)])) else (bif (s0.toList == (bs [45]).toList) then (.call 11 [(.int .i64 (wi64 (i1 - i2)))] fun v10 => asInt .i64 v10 fun i11 => .act (stC a5 [(.int .i64 1), (.int .i64 i11), (.string (bs [])), (.slice none 0 0), (.int .i64 0), (.pointer none), (.int .i64 0), (.int .i64 0)]) fun v12 => asTuple v12 fun l13 => asNil l13 (.ret .ret [(.bool true)])) else (bif (s0.toList == (bs [42]).toList) then (.call 11 [(.int .i64 (wi64 (i1 * i2)))] fun v14 => asInt .i64 v14 fun i15 => .act (stC a5 [(.int .i64 1), (.int .i64 i15), (.string (bs [])), (.slice none 0 0), (.int .i64 0), (.pointer none), (.int .i64 0), (.int .i64 0)]) fun v16 => asTuple v16 fun l17 => asNil l17 (.ret .ret [(.bool true)])) else (bif (s0.toList == (bs [60]).toList) then (.call 15 [(.bool (decide (i1 < i2)))] fun v18 => asAgg v18 fun l19 => asCons l19 fun v20 l21 => asInt .i64 v20 fun i22 => asCons l21 fun v23 l24 => asInt .i64 v23 fun i25 => asCons l24 fun v26 l27 => asStr v26 fun s28 => asCons l27 fun v29 l30 => asSlice v29 fun p31 n32 n33 => asCons l30 fun v34 l35 => asInt .i64 v34 fun i36 => asCons l35 fun v37 l38 => asPtr v37 fun p39 => asCons l38 fun v40 l41 => asInt .i64 v40 fun i42 => asCons l41 fun v43 l44 => asInt .i64 v43 fun i45 => asNil l44 (.act (stC a5 [(.int .i64 i22), (.int .i64 i25), (.string s28), (.slice p31 n32 n33), (.int .i64 i36), (.pointer p39), (.int .i64 i42), (.int .i64 i45)]) fun v46 => asTuple v46 fun l47 => asNil l47 (.ret .ret [(.bool true)]))) else (bif (s0.toList == (bs [61]).toList) then (.call 15 [(.bool (i1 == i2))] fun v48 => asAgg v48 fun l49 => asCons l49 fun v50 l51 => asInt .i64 v50 fun i52 => asCons l51 fun v53 l54 => asInt .i64 v53 fun i55 => asCons l54 fun v56 l57 => asStr v56 fun s58 => asCons l57 fun v59 l60 => asSlice v59 fun p61 n62 n63 => asCons l60 fun v64 l65 => asInt .i64 v64 fun i66 => asCons l65 fun v67 l68 => asPtr v67 fun p69 => asCons l68 fun v70 l71 => asInt .i64 v70 fun i72 => asCons l71 fun v73 l74 => asInt .i64 v73 fun i75 => asNil l74 (.act (stC a5 [(.int .i64 i52), (.int .i64 i55), (.string s58), (.slice p61 n62 n63), (.int .i64 i66), (.pointer p69), (.int .i64 i72), (.int .i64 i75)]) fun v76 => asTuple v76 fun l77 => asNil l77 (.ret .ret [(.bool true)]))) else (.ret .normal [(.bool false)])))))) (T7k0 a5)
theorem T7_eq (s0 : ByteArray) (i1 : Int) (i2 : Int) : progOf PROG false 7 [(.string s0), (.int .i64 i1), (.int .i64 i2)] = T7 s0 i1 i2 := by kernel_rfl


noncomputable def T8k0 (i62 : Int) : Ex → List Value → Pg :=
  fun e138 l139 => sw e138 .ret (asCons l139 fun v140 l141 => asBool v140 fun b142 => asNil l141 (.ret .ret [(.int .i64 i62), (.bool b142)])) (sw e138 .normal (asCons l139 fun v143 l144 => asBool v143 fun b145 => asNil l144 (.ret .normal [(.int .i64 (wi64 (i62 + 1))), (.bool b145)])) (.fail))

noncomputable def T8b0 (a22 : Addr) (a25 : Addr) : List Value → Pg :=
  fun l59 => asCons l59 fun v60 l61 => asInt .i64 v60 fun i62 => asCons l61 fun v63 l64 => asBool v63 fun b65 => asNil l64 (.act (ld1 (aadd a22 3)) fun v66 => asSlice v66 fun p67 n68 n69 => bif (decide (i62 < ((n68 : Nat) : Int))) then (.join (.act (ld1 (aadd a22 3)) fun v70 => asSlice v70 fun p71 n72 n73 => asSome p71 fun a74 => grd ((decide (0 ≤ i62)) && (decide (i62 < ((n72 : Nat) : Int)))) (.act (ldN 8 (aadd a74 ((Int.toNat i62) * 8))) fun v75 => asAgg v75 fun l76 => asCons l76 fun v77 l78 => asInt .i64 v77 fun i79 => asCons l78 fun v80 l81 => asInt .i64 v80 fun i82 => asCons l81 fun v83 l84 => asStr v83 fun s85 => asCons l84 fun v86 l87 => asSlice v86 fun p88 n89 n90 => asCons l87 fun v91 l92 => asInt .i64 v91 fun i93 => asCons l92 fun v94 l95 => asPtr v94 fun p96 => asCons l95 fun v97 l98 => asInt .i64 v97 fun i99 => asCons l98 fun v100 l101 => asInt .i64 v100 fun i102 => asNil l101 (.act (ld1 (aadd a25 3)) fun v103 => asSlice v103 fun p104 n105 n106 => asSome p104 fun a107 => grd ((decide (0 ≤ i62)) && (decide (i62 < ((n105 : Nat) : Int)))) (.act (ldN 8 (aadd a107 ((Int.toNat i62) * 8))) fun v108 => asAgg v108 fun l109 => asCons l109 fun v110 l111 => asInt .i64 v110 fun i112 => asCons l111 fun v113 l114 => asInt .i64 v113 fun i115 => asCons l114 fun v116 l117 => asStr v116 fun s118 => asCons l117 fun v119 l120 => asSlice v119 fun p121 n122 n123 => asCons l120 fun v124 l125 => asInt .i64 v124 fun i126 => asCons l125 fun v127 l128 => asPtr v127 fun p129 => asCons l128 fun v130 l131 => asInt .i64 v130 fun i132 => asCons l131 fun v133 l134 => asInt .i64 v133 fun i135 => asNil l134 (.call 8 [(.agg #[(.int .i64 i79), (.int .i64 i82), (.string s85), (.slice p88 n89 n90), (.int .i64 i93), (.pointer p96), (.int .i64 i99), (.int .i64 i102)]), (.agg #[(.int .i64 i112), (.int .i64 i115), (.string s118), (.slice p121 n122 n123), (.int .i64 i126), (.pointer p129), (.int .i64 i132), (.int .i64 i135)])] fun v136 => asBool v136 fun b137 => bif (!b137) then (.ret .ret [(.bool false)]) else (.ret .normal [(.bool b65)])))))) (T8k0 i62)) else (.ret (.exit 0) [(.int .i64 i62), (.bool b65)]))

noncomputable def T8k1 : Ex → List Value → Pg :=
  fun e146 l147 => sw e146 (.exit 0) (asCons l147 fun v148 l149 => asInt .i64 v148 fun i150 => asCons l149 fun v151 l152 => asBool v151 fun b153 => asNil l152 (.ret .ret [(.bool true)])) (sw e146 .ret (asCons l147 fun v154 l155 => asInt .i64 v154 fun i156 => asCons l155 fun v157 l158 => asBool v157 fun b159 => asNil l158 (.ret .ret [(.bool b159)])) (.fail))

noncomputable def T8k2 (a22 : Addr) (a25 : Addr) : Ex → List Value → Pg :=
  fun e54 l55 => sw e54 .normal (asCons l55 fun v56 l57 => asBool v56 fun b58 => asNil l57 (bif b58 then (.ret .ret [(.bool false)]) else (.loop [(.int .i64 0), (.bool false)] (T8b0 a22 a25) (T8k1)))) (.fail)

/-- hindsight/hindsightref9.Same -/
noncomputable def T8 (i0 : Int) (i1 : Int) (s2 : ByteArray) (p3 : (Option Addr)) (n4 : Nat) (n5 : Nat) (i6 : Int) (p7 : (Option Addr)) (i8 : Int) (i9 : Int) (i10 : Int) (i11 : Int) (s12 : ByteArray) (p13 : (Option Addr)) (n14 : Nat) (n15 : Nat) (i16 : Int) (p17 : (Option Addr)) (i18 : Int) (i19 : Int) : Pg :=
  .act (newC [(.int .i64 i0), (.int .i64 i1), (.string s2), (.slice p3 n4 n5), (.int .i64 i6), (.pointer p7), (.int .i64 i8), (.int .i64 i9)]) fun v20 => asPtr v20 fun p21 => asSome p21 fun a22 => .act (newC [(.int .i64 i10), (.int .i64 i11), (.string s12), (.slice p13 n14 n15), (.int .i64 i16), (.pointer p17), (.int .i64 i18), (.int .i64 i19)]) fun v23 => asPtr v23 fun p24 => asSome p24 fun a25 => .join (.act (ld1 (aadd a22 0)) fun v26 => asInt .i64 v26 fun i27 => .act (ld1 (aadd a25 0)) fun v28 => asInt .i64 v28 fun i29 => bif (i27 != i29) == false then (.act (ld1 (aadd a22 1)) fun v30 => asInt .i64 v30 fun i31 => .act (ld1 (aadd a25 1)) fun v32 => asInt .i64 v32 fun i33 => bif (i31 != i33) == false then (.act (ld1 (aadd a22 2)) fun v34 => asStr v34 fun s35 => .act (ld1 (aadd a25 2)) fun v36 => asStr v36 fun s37 => bif (!(s35.toList == s37.toList)) == false then (.act (ld1 (aadd a22 4)) fun v38 => asInt .i64 v38 fun i39 => .act (ld1 (aadd a25 4)) fun v40 => asInt .i64 v40 fun i41 => bif (i39 != i41) == false then (.act (ld1 (aadd a22 6)) fun v42 => asInt .i64 v42 fun i43 => .act (ld1 (aadd a25 6)) fun v44 => asInt .i64 v44 fun i45 => bif (i43 != i45) == false then (.act (ld1 (aadd a22 3)) fun v46 => asSlice v46 fun p47 n48 n49 => .act (ld1 (aadd a25 3)) fun v50 => asSlice v50 fun p51 n52 n53 => .ret .normal [(.bool (((n48 : Nat) : Int) != ((n52 : Nat) : Int)))]) else (.ret .normal [(.bool true)])) else (.ret .normal [(.bool true)])) else (.ret .normal [(.bool true)])) else (.ret .normal [(.bool true)])) else (.ret .normal [(.bool true)])) (T8k2 a22 a25)
theorem T8_eq (i0 : Int) (i1 : Int) (s2 : ByteArray) (p3 : (Option Addr)) (n4 : Nat) (n5 : Nat) (i6 : Int) (p7 : (Option Addr)) (i8 : Int) (i9 : Int) (i10 : Int) (i11 : Int) (s12 : ByteArray) (p13 : (Option Addr)) (n14 : Nat) (n15 : Nat) (i16 : Int) (p17 : (Option Addr)) (i18 : Int) (i19 : Int) : progOf PROG false 8 [(.agg #[(.int .i64 i0), (.int .i64 i1), (.string s2), (.slice p3 n4 n5), (.int .i64 i6), (.pointer p7), (.int .i64 i8), (.int .i64 i9)]), (.agg #[(.int .i64 i10), (.int .i64 i11), (.string s12), (.slice p13 n14 n15), (.int .i64 i16), (.pointer p17), (.int .i64 i18), (.int .i64 i19)])] = T8 i0 i1 s2 p3 n4 n5 i6 p7 i8 i9 i10 i11 s12 p13 n14 n15 i16 p17 i18 i19 := by kernel_rfl


noncomputable def T9k0 (i33 : Int) : Ex → List Value → Pg :=
  fun e112 l113 => sw e112 .normal (asNil l113 (.ret .normal [(.int .i64 (wi64 (i33 + 1)))])) (.fail)

noncomputable def T9b0 (a11 : Addr) (a27 : Addr) : List Value → Pg :=
  fun l30 => asCons l30 fun v31 l32 => asInt .i64 v31 fun i33 => asNil l32 (.act (ld1 (aadd a11 3)) fun v34 => asSlice v34 fun p35 n36 n37 => bif (decide (i33 < ((n36 : Nat) : Int))) then (.join (.act (ld1 (aadd a27 3)) fun v38 => asSlice v38 fun p39 n40 n41 => .act (ld1 (aadd a11 3)) fun v42 => asSlice v42 fun p43 n44 n45 => asSome p43 fun a46 => grd ((decide (0 ≤ i33)) && (decide (i33 < ((n44 : Nat) : Int)))) (.act (ldN 7 (aadd a46 ((Int.toNat i33) * 7))) fun v47 => asAgg v47 fun l48 => asCons l48 fun v49 l50 => asInt .i64 v49 fun i51 => asCons l50 fun v52 l53 => asInt .i64 v52 fun i54 => asCons l53 fun v55 l56 => asStr v55 fun s57 => asCons l56 fun v58 l59 => asSlice v58 fun p60 n61 n62 => asCons l59 fun v63 l64 => asInt .i64 v63 fun i65 => asCons l64 fun v66 l67 => asPtr v66 fun p68 => asCons l67 fun v69 l70 => asInt .i64 v69 fun i71 => asNil l70 (.call 9 [(.agg #[(.int .i64 i51), (.int .i64 i54), (.string s57), (.slice p60 n61 n62), (.int .i64 i65), (.pointer p68), (.int .i64 i71)])] fun v72 => asAgg v72 fun l73 => asCons l73 fun v74 l75 => asInt .i64 v74 fun i76 => asCons l75 fun v77 l78 => asInt .i64 v77 fun i79 => asCons l78 fun v80 l81 => asStr v80 fun s82 => asCons l81 fun v83 l84 => asSlice v83 fun p85 n86 n87 => asCons l84 fun v88 l89 => asInt .i64 v88 fun i90 => asCons l89 fun v91 l92 => asPtr v91 fun p93 => asCons l92 fun v94 l95 => asInt .i64 v94 fun i96 => asCons l95 fun v97 l98 => asInt .i64 v97 fun i99 => asNil l98 (.get fun h111 => grd (chks [((ld1 (aadd a27 3)), v38)] h111) (.act (bdSl 8 1 [(.int .i64 i76), (.int .i64 i79), (.string s82), (.slice p85 n86 n87), (.int .i64 i90), (.pointer p93), (.int .i64 i96), (.int .i64 i99)]) fun v100 => asSlice v100 fun p101 n102 n103 => .get fun h110 => grd (chks [((ld1 (aadd a27 3)), v38)] h110) (.act (apS 8 88 p39 n40 n41 p101 n102 n103) fun v104 => asSlice v104 fun p105 n106 n107 => .act (stC (aadd a27 3) [(.slice p105 n106 n107)]) fun v108 => asTuple v108 fun l109 => asNil l109 (.ret .normal []))))))) (T9k0 i33)) else (.ret (.exit 0) [(.int .i64 i33)]))

noncomputable def T9k1 (a27 : Addr) (a14 : Addr) : Ex → List Value → Pg :=
  fun e114 l115 => sw e114 (.exit 0) (asCons l115 fun v116 l117 => asInt .i64 v116 fun i118 => asNil l117 (.act (ldN 8 a27) fun v119 => asAgg v119 fun l120 => asCons l120 fun v121 l122 => asInt .i64 v121 fun i123 => asCons l122 fun v124 l125 => asInt .i64 v124 fun i126 => asCons l125 fun v127 l128 => asStr v127 fun s129 => asCons l128 fun v130 l131 => asSlice v130 fun p132 n133 n134 => asCons l131 fun v135 l136 => asInt .i64 v135 fun i137 => asCons l136 fun v138 l139 => asPtr v138 fun p140 => asCons l139 fun v141 l142 => asInt .i64 v141 fun i143 => asCons l142 fun v144 l145 => asInt .i64 v144 fun i146 => asNil l145 (.act (stC a14 [(.int .i64 i123), (.int .i64 i126), (.string s129), (.slice p132 n133 n134), (.int .i64 i137), (.pointer p140), (.int .i64 i143), (.int .i64 i146)]) fun v147 => asTuple v147 fun l148 => asNil l148 (.act (ldN 8 a14) fun v149 => .ret .ret [v149])))) (.fail)

/-- hindsight/hindsightlaw9.vl -/
noncomputable def T9 (i0 : Int) (i1 : Int) (s2 : ByteArray) (p3 : (Option Addr)) (n4 : Nat) (n5 : Nat) (i6 : Int) (p7 : (Option Addr)) (i8 : Int) : Pg :=
  .act (newC [(.int .i64 i0), (.int .i64 i1), (.string s2), (.slice p3 n4 n5), (.int .i64 i6), (.pointer p7), (.int .i64 i8)]) fun v9 => asPtr v9 fun p10 => asSome p10 fun a11 => .act (newC [(.int .i64 0), (.int .i64 0), (.string (bs [])), (.slice none 0 0), (.int .i64 0), (.pointer none), (.int .i64 0), (.int .i64 0)]) fun v12 => asPtr v12 fun p13 => asSome p13 fun a14 => .act (ld1 (aadd a11 0)) fun v15 => asInt .i64 v15 fun i16 => .act (ld1 (aadd a11 1)) fun v17 => asInt .i64 v17 fun i18 => .act (ld1 (aadd a11 2)) fun v19 => asStr v19 fun s20 => .act (ld1 (aadd a11 4)) fun v21 => asInt .i64 v21 fun i22 => .act (ld1 (aadd a11 6)) fun v23 => asInt .i64 v23 fun i24 => .act (newC [(.int .i64 0), (.int .i64 0), (.string (bs [])), (.slice none 0 0), (.int .i64 0), (.pointer none), (.int .i64 0), (.int .i64 0)]) fun v25 => asPtr v25 fun p26 => asSome p26 fun a27 => .act (stC a27 [(.int .i64 i16), (.int .i64 i18), (.string s20), (.slice none 0 0), (.int .i64 i22), (.pointer none), (.int .i64 i24), (.int .i64 0)]) fun v28 => asTuple v28 fun l29 => asNil l29 (.loop [(.int .i64 0)] (T9b0 a11 a27) (T9k1 a27 a14))
theorem T9_eq (i0 : Int) (i1 : Int) (s2 : ByteArray) (p3 : (Option Addr)) (n4 : Nat) (n5 : Nat) (i6 : Int) (p7 : (Option Addr)) (i8 : Int) : progOf PROG false 9 [(.agg #[(.int .i64 i0), (.int .i64 i1), (.string s2), (.slice p3 n4 n5), (.int .i64 i6), (.pointer p7), (.int .i64 i8)])] = T9 i0 i1 s2 p3 n4 n5 i6 p7 i8 := by kernel_rfl


/-- hindsight/val.Wrap -/
noncomputable def T10 (i0 : Int) : Pg :=
  .ret .ret [(.int .i64 (shrI .i64 (shlI .i64 i0 1) 1))]
theorem T10_eq (i0 : Int) : progOf PROG false 10 [(.int .i64 i0)] = T10 i0 := by kernel_rfl


/-- hindsight/hindsightref9.Wrap -/
noncomputable def T11 (i0 : Int) : Pg :=
  .ret .ret [(.int .i64 (shrI .i64 (shlI .i64 i0 1) 1))]
theorem T11_eq (i0 : Int) : progOf PROG false 11 [(.int .i64 i0)] = T11 i0 := by kernel_rfl


/-- hindsight/val.Render -/
noncomputable def T12 (i0 : Int) (i1 : Int) (s2 : ByteArray) (p3 : (Option Addr)) (n4 : Nat) (n5 : Nat) (i6 : Int) (p7 : (Option Addr)) (i8 : Int) (i9 : Int) (s10 : ByteArray) (i11 : Int) (p12 : (Option Addr)) (n13 : Nat) (n14 : Nat) (p15 : (Option Addr)) (n16 : Nat) (n17 : Nat) (p18 : (Option Addr)) (n19 : Nat) (n20 : Nat) : Pg :=
  .act (newC [(.int .i64 i0), (.int .i64 i1), (.string s2), (.slice p3 n4 n5), (.int .i64 i6), (.pointer p7), (.int .i64 i8)]) fun v21 => asPtr v21 fun p22 => asSome p22 fun a23 => .act (newC [(.int .i64 i9), (.string s10), (.int .i64 i11), (.slice p12 n13 n14)]) fun v24 => asPtr v24 fun p25 => asSome p25 fun a26 => .act (ldN 7 a23) fun v27 => asAgg v27 fun l28 => asCons l28 fun v29 l30 => asInt .i64 v29 fun i31 => asCons l30 fun v32 l33 => asInt .i64 v32 fun i34 => asCons l33 fun v35 l36 => asStr v35 fun s37 => asCons l36 fun v38 l39 => asSlice v38 fun p40 n41 n42 => asCons l39 fun v43 l44 => asInt .i64 v43 fun i45 => asCons l44 fun v46 l47 => asPtr v46 fun p48 => asCons l47 fun v49 l50 => asInt .i64 v49 fun i51 => asNil l50 (.act (ldN 4 a26) fun v52 => asAgg v52 fun l53 => asCons l53 fun v54 l55 => asInt .i64 v54 fun i56 => asCons l55 fun v57 l58 => asStr v57 fun s59 => asCons l58 fun v60 l61 => asInt .i64 v60 fun i62 => asCons l61 fun v63 l64 => asSlice v63 fun p65 n66 n67 => asNil l64 (.call 16 [(.agg #[(.slice p15 n16 n17), (.slice p18 n19 n20)]), (.agg #[(.int .i64 i31), (.int .i64 i34), (.string s37), (.slice p40 n41 n42), (.int .i64 i45), (.pointer p48), (.int .i64 i51)]), (.agg #[(.int .i64 i56), (.string s59), (.int .i64 i62), (.slice p65 n66 n67)]), (.int .i64 0)] fun v68 => asStr v68 fun s69 => .ret .ret [(.string s69)]))
theorem T12_eq (i0 : Int) (i1 : Int) (s2 : ByteArray) (p3 : (Option Addr)) (n4 : Nat) (n5 : Nat) (i6 : Int) (p7 : (Option Addr)) (i8 : Int) (i9 : Int) (s10 : ByteArray) (i11 : Int) (p12 : (Option Addr)) (n13 : Nat) (n14 : Nat) (p15 : (Option Addr)) (n16 : Nat) (n17 : Nat) (p18 : (Option Addr)) (n19 : Nat) (n20 : Nat) : progOf PROG false 12 [(.agg #[(.int .i64 i0), (.int .i64 i1), (.string s2), (.slice p3 n4 n5), (.int .i64 i6), (.pointer p7), (.int .i64 i8)]), (.agg #[(.int .i64 i9), (.string s10), (.int .i64 i11), (.slice p12 n13 n14)]), (.slice p15 n16 n17), (.slice p18 n19 n20)] = T12 i0 i1 s2 p3 n4 n5 i6 p7 i8 i9 s10 i11 p12 n13 n14 p15 n16 n17 p18 n19 n20 := by kernel_rfl


/-- hindsight/val.Number -/
noncomputable def T13 (i0 : Int) : Pg :=
  .act (newC [(.int .i64 0), (.int .i64 0), (.string (bs [])), (.slice none 0 0), (.int .i64 0), (.pointer none), (.int .i64 0)]) fun v1 => asPtr v1 fun p2 => asSome p2 fun a3 => .call 10 [(.int .i64 i0)] fun v4 => asInt .i64 v4 fun i5 => .act (stC a3 [(.int .i64 1), (.int .i64 i5), (.string (bs [])), (.slice none 0 0), (.int .i64 0), (.pointer none), (.int .i64 0)]) fun v6 => asTuple v6 fun l7 => asNil l7 (.act (ldN 7 a3) fun v8 => .ret .ret [v8])
theorem T13_eq (i0 : Int) : progOf PROG false 13 [(.int .i64 i0)] = T13 i0 := by kernel_rfl


noncomputable def T14k0 (a6 : Addr) (a3 : Addr) : Ex → List Value → Pg :=
  fun e11 l12 => sw e11 .normal (asNil l12 (.act (ldN 7 a6) fun v13 => asAgg v13 fun l14 => asCons l14 fun v15 l16 => asInt .i64 v15 fun i17 => asCons l16 fun v18 l19 => asInt .i64 v18 fun i20 => asCons l19 fun v21 l22 => asStr v21 fun s23 => asCons l22 fun v24 l25 => asSlice v24 fun p26 n27 n28 => asCons l25 fun v29 l30 => asInt .i64 v29 fun i31 => asCons l30 fun v32 l33 => asPtr v32 fun p34 => asCons l33 fun v35 l36 => asInt .i64 v35 fun i37 => asNil l36 (.act (stC a3 [(.int .i64 i17), (.int .i64 i20), (.string s23), (.slice p26 n27 n28), (.int .i64 i31), (.pointer p34), (.int .i64 i37)]) fun v38 => asTuple v38 fun l39 => asNil l39 (.act (ldN 7 a3) fun v40 => .ret .ret [v40])))) (.fail)

/-- hindsight/val.truth -/
noncomputable def T14 (b0 : Bool) : Pg :=
  .act (newC [(.int .i64 0), (.int .i64 0), (.string (bs [])), (.slice none 0 0), (.int .i64 0), (.pointer none), (.int .i64 0)]) fun v1 => asPtr v1 fun p2 => asSome p2 fun a3 => .act (newC [(.int .i64 0), (.int .i64 0), (.string (bs [])), (.slice none 0 0), (.int .i64 0), (.pointer none), (.int .i64 0)]) fun v4 => asPtr v4 fun p5 => asSome p5 fun a6 => .act (stC a6 [(.int .i64 2), (.int .i64 0), (.string (bs [])), (.slice none 0 0), (.int .i64 0), (.pointer none), (.int .i64 0)]) fun v7 => asTuple v7 fun l8 => asNil l8 (.join (bif b0 then (.act (stC (aadd a6 1) [(.int .i64 1)]) fun v9 => asTuple v9 fun l10 => asNil l10 (.ret .normal [])) else (.ret .normal [])) (T14k0 a6 a3))
theorem T14_eq (b0 : Bool) : progOf PROG false 14 [(.bool b0)] = T14 b0 := by kernel_rfl


/-- hindsight/hindsightref9.truth -/
noncomputable def T15 (b0 : Bool) : Pg :=
  .act (newC [(.int .i64 0), (.int .i64 0), (.string (bs [])), (.slice none 0 0), (.int .i64 0), (.pointer none), (.int .i64 0), (.int .i64 0)]) fun v1 => asPtr v1 fun p2 => asSome p2 fun a3 => bif b0 then (.act (stC a3 [(.int .i64 2), (.int .i64 1), (.string (bs [])), (.slice none 0 0), (.int .i64 0), (.pointer none), (.int .i64 0), (.int .i64 0)]) fun v4 => asTuple v4 fun l5 => asNil l5 (.act (ldN 8 a3) fun v6 => .ret .ret [v6])) else (.act (stC a3 [(.int .i64 2), (.int .i64 0), (.string (bs [])), (.slice none 0 0), (.int .i64 0), (.pointer none), (.int .i64 0), (.int .i64 0)]) fun v7 => asTuple v7 fun l8 => asNil l8 (.act (ldN 8 a3) fun v9 => .ret .ret [v9]))
theorem T15_eq (b0 : Bool) : progOf PROG false 15 [(.bool b0)] = T15 b0 := by kernel_rfl


noncomputable def T16k0 : Ex → List Value → Pg :=
  fun e158 l159 => sw e158 .ret (asCons l159 fun v160 l161 => asStr v160 fun s162 => asNil l161 (.ret .ret [(.string s162)])) (sw e158 .normal (asCons l159 fun v163 l164 => asStr v163 fun s165 => asNil l164 (.ret .ret [(.string (bs [63]))])) (.fail))

noncomputable def T16k1 (a27 : Addr) (a24 : Addr) (a30 : Addr) (i21 : Int) : Ex → List Value → Pg :=
  fun e40 l41 => sw e40 .ret (asCons l41 fun v42 l43 => asStr v42 fun s44 => asNil l43 (.ret .ret [(.string s44)])) (sw e40 .normal (asCons l41 fun v45 l46 => asStr v45 fun s47 => asNil l46 (.act (ld1 (aadd a27 0)) fun v48 => asInt .i64 v48 fun i49 => .join (bif (i49 == 1) then (.act (ld1 (aadd a27 1)) fun v50 => asInt .i64 v50 fun i51 => .call 18 [(.int .i64 i51), (.int .i64 10)] fun v52 => asStr v52 fun s53 => .ret .ret [(.string s53)]) else (bif (i49 == 2) then (.act (ld1 (aadd a27 1)) fun v54 => asInt .i64 v54 fun i55 => .call 19 [(.bool (i55 == 1))] fun v56 => asStr v56 fun s57 => .ret .ret [(.string s57)]) else (bif (i49 == 3) then (.ret .ret [(.string (bs [40, 41]))]) else (bif (i49 == 5) then (.ret .ret [(.string (bs [60, 102, 117, 110, 62]))]) else (bif (i49 == 6) then (.act (ldN 2 a24) fun v58 => asAgg v58 fun l59 => asCons l59 fun v60 l61 => asSlice v60 fun p62 n63 n64 => asCons l61 fun v65 l66 => asSlice v65 fun p67 n68 n69 => asNil l66 (.act (ldN 7 a27) fun v70 => asAgg v70 fun l71 => asCons l71 fun v72 l73 => asInt .i64 v72 fun i74 => asCons l73 fun v75 l76 => asInt .i64 v75 fun i77 => asCons l76 fun v78 l79 => asStr v78 fun s80 => asCons l79 fun v81 l82 => asSlice v81 fun p83 n84 n85 => asCons l82 fun v86 l87 => asInt .i64 v86 fun i88 => asCons l87 fun v89 l90 => asPtr v89 fun p91 => asCons l90 fun v92 l93 => asInt .i64 v92 fun i94 => asNil l93 (.act (ldN 4 a30) fun v95 => asAgg v95 fun l96 => asCons l96 fun v97 l98 => asInt .i64 v97 fun i99 => asCons l98 fun v100 l101 => asStr v100 fun s102 => asCons l101 fun v103 l104 => asInt .i64 v103 fun i105 => asCons l104 fun v106 l107 => asSlice v106 fun p108 n109 n110 => asNil l107 (.call 20 [(.agg #[(.slice p62 n63 n64), (.slice p67 n68 n69)]), (.agg #[(.int .i64 i74), (.int .i64 i77), (.string s80), (.slice p83 n84 n85), (.int .i64 i88), (.pointer p91), (.int .i64 i94)]), (.agg #[(.int .i64 i99), (.string s102), (.int .i64 i105), (.slice p108 n109 n110)]), (.int .i64 i21)] fun v111 => asStr v111 fun s112 => .ret .ret [(.string s112)])))) else (bif (i49 == 4) then (.act (ld1 (aadd a27 3)) fun v113 => asSlice v113 fun p114 n115 n116 => bif (decide (((n115 : Nat) : Int) > 0)) then (.act (ldN 2 a24) fun v117 => asAgg v117 fun l118 => asCons l118 fun v119 l120 => asSlice v119 fun p121 n122 n123 => asCons l120 fun v124 l125 => asSlice v124 fun p126 n127 n128 => asNil l125 (.act (ldN 7 a27) fun v129 => asAgg v129 fun l130 => asCons l130 fun v131 l132 => asInt .i64 v131 fun i133 => asCons l132 fun v134 l135 => asInt .i64 v134 fun i136 => asCons l135 fun v137 l138 => asStr v137 fun s139 => asCons l138 fun v140 l141 => asSlice v140 fun p142 n143 n144 => asCons l141 fun v145 l146 => asInt .i64 v145 fun i147 => asCons l146 fun v148 l149 => asPtr v148 fun p150 => asCons l149 fun v151 l152 => asInt .i64 v151 fun i153 => asNil l152 (.call 21 [(.agg #[(.slice p121 n122 n123), (.slice p126 n127 n128)]), (.agg #[(.int .i64 i133), (.int .i64 i136), (.string s139), (.slice p142 n143 n144), (.int .i64 i147), (.pointer p150), (.int .i64 i153)]), (.int .i64 i21)] fun v154 => asStr v154 fun s155 => .ret .ret [(.string s155)]))) else (.act (ld1 (aadd a27 2)) fun v156 => asStr v156 fun s157 => .ret .ret [(.string s157)])) else (.ret .normal [(.string s47)]))))))) (T16k0))) (.fail))

/-- (hindsight/val.renderer).value -/
noncomputable def T16 (p0 : (Option Addr)) (n1 : Nat) (n2 : Nat) (p3 : (Option Addr)) (n4 : Nat) (n5 : Nat) (i6 : Int) (i7 : Int) (s8 : ByteArray) (p9 : (Option Addr)) (n10 : Nat) (n11 : Nat) (i12 : Int) (p13 : (Option Addr)) (i14 : Int) (i15 : Int) (s16 : ByteArray) (i17 : Int) (p18 : (Option Addr)) (n19 : Nat) (n20 : Nat) (i21 : Int) : Pg :=
  .act (newC [(.slice p0 n1 n2), (.slice p3 n4 n5)]) fun v22 => asPtr v22 fun p23 => asSome p23 fun a24 => .act (newC [(.int .i64 i6), (.int .i64 i7), (.string s8), (.slice p9 n10 n11), (.int .i64 i12), (.pointer p13), (.int .i64 i14)]) fun v25 => asPtr v25 fun p26 => asSome p26 fun a27 => .act (newC [(.int .i64 i15), (.string s16), (.int .i64 i17), (.slice p18 n19 n20)]) fun v28 => asPtr v28 fun p29 => asSome p29 fun a30 => .join (bif (decide (i21 ≥ 50)) then (.ret .ret [(.string (bs [46, 46]))]) else (.act (ld1 (aadd a30 0)) fun v31 => asInt .i64 v31 fun i32 => bif (i32 == 7) then (.ret .ret [(.string (bs [60, 112, 111, 108, 121, 62]))]) else (.act (ld1 (aadd a27 0)) fun v33 => asInt .i64 v33 fun i34 => .act (ld1 (aadd a30 0)) fun v35 => asInt .i64 v35 fun i36 => .call 17 [(.int .i64 i36)] fun v37 => asInt .i64 v37 fun i38 => .get fun h39 => grd (chks [((ld1 (aadd a27 0)), v33)] h39) (bif (i34 != i38) then (.ret .ret [(.string (bs [63]))]) else (.ret .normal [(.string (bs []))]))))) (T16k1 a27 a24 a30 i21)
theorem T16_eq (p0 : (Option Addr)) (n1 : Nat) (n2 : Nat) (p3 : (Option Addr)) (n4 : Nat) (n5 : Nat) (i6 : Int) (i7 : Int) (s8 : ByteArray) (p9 : (Option Addr)) (n10 : Nat) (n11 : Nat) (i12 : Int) (p13 : (Option Addr)) (i14 : Int) (i15 : Int) (s16 : ByteArray) (i17 : Int) (p18 : (Option Addr)) (n19 : Nat) (n20 : Nat) (i21 : Int) : progOf PROG false 16 [(.agg #[(.slice p0 n1 n2), (.slice p3 n4 n5)]), (.agg #[(.int .i64 i6), (.int .i64 i7), (.string s8), (.slice p9 n10 n11), (.int .i64 i12), (.pointer p13), (.int .i64 i14)]), (.agg #[(.int .i64 i15), (.string s16), (.int .i64 i17), (.slice p18 n19 n20)]), (.int .i64 i21)] = T16 p0 n1 n2 p3 n4 n5 i6 i7 s8 p9 n10 n11 i12 p13 i14 i15 s16 i17 p18 n19 n20 i21 := by kernel_rfl


noncomputable def T17k0 : Ex → List Value → Pg :=
  fun e1 l2 => sw e1 .ret (asCons l2 fun v3 l4 => asInt .i64 v3 fun i5 => asNil l4 (.ret .ret [(.int .i64 i5)])) (sw e1 .normal (asCons l2 fun v6 l7 => asInt .i64 v6 fun i8 => asNil l7 (.ret .ret [(.int .i64 0)])) (.fail))

/-- hindsight/val.fits -/
noncomputable def T17 (i0 : Int) : Pg :=
  .join (bif (i0 == 1) then (.ret .ret [(.int .i64 1)]) else (bif (i0 == 2) then (.ret .ret [(.int .i64 2)]) else (bif (i0 == 3) then (.ret .ret [(.int .i64 3)]) else (bif (i0 == 4) then (.ret .ret [(.int .i64 4)]) else (bif (i0 == 5) then (.ret .ret [(.int .i64 5)]) else (bif (i0 == 6) then (.ret .ret [(.int .i64 6)]) else (.ret .normal [(.int .i64 0)]))))))) (T17k0)
theorem T17_eq (i0 : Int) : progOf PROG false 17 [(.int .i64 i0)] = T17 i0 := by kernel_rfl


/-- strconv.FormatBool -/
noncomputable def T19 (b0 : Bool) : Pg :=
  .call 23 [(.bool b0)] fun v1 => asStr v1 fun s2 => .ret .ret [(.string s2)]
theorem T19_eq (b0 : Bool) : progOf PROG false 19 [(.bool b0)] = T19 b0 := by kernel_rfl


/-- internal/strconv.FormatBool -/
noncomputable def T23 (b0 : Bool) : Pg :=
  bif b0 then (.ret .ret [(.string (bs [116, 114, 117, 101]))]) else (.ret .ret [(.string (bs [102, 97, 108, 115, 101]))])
theorem T23_eq (b0 : Bool) : progOf PROG false 23 [(.bool b0)] = T23 b0 := by kernel_rfl

noncomputable def A3 : List Value → Option Pg
  | [(.string s0), (.int .i64 i1), (.int .i64 i2)] => some (T3 s0 i1 i2)
  | _ => none
theorem A3_ok : ∀ args p, A3 args = some p → progOf PROG false 3 args = p := by
  intro args p h
  unfold A3 at h
  split at h
  · cases h; exact T3_eq _ _ _
  · cases h
noncomputable def A4 : List Value → Option Pg
  | [(.int .i64 i0), (.int .i64 i1), (.int .i64 i2)] => some (T4 i0 i1 i2)
  | _ => none
theorem A4_ok : ∀ args p, A4 args = some p → progOf PROG false 4 args = p := by
  intro args p h
  unfold A4 at h
  split at h
  · cases h; exact T4_eq _ _ _
  · cases h
noncomputable def A5 : List Value → Option Pg
  | [] => some (T5)
  | _ => none
theorem A5_ok : ∀ args p, A5 args = some p → progOf PROG false 5 args = p := by
  intro args p h
  unfold A5 at h
  split at h
  · cases h; exact T5_eq 
  · cases h
noncomputable def A6 : List Value → Option Pg
  | [(.string s0), (.int .i64 i1), (.int .i64 i2)] => some (T6 s0 i1 i2)
  | _ => none
theorem A6_ok : ∀ args p, A6 args = some p → progOf PROG false 6 args = p := by
  intro args p h
  unfold A6 at h
  split at h
  · cases h; exact T6_eq _ _ _
  · cases h
noncomputable def A7 : List Value → Option Pg
  | [(.string s0), (.int .i64 i1), (.int .i64 i2)] => some (T7 s0 i1 i2)
  | _ => none
theorem A7_ok : ∀ args p, A7 args = some p → progOf PROG false 7 args = p := by
  intro args p h
  unfold A7 at h
  split at h
  · cases h; exact T7_eq _ _ _
  · cases h
noncomputable def A8 : List Value → Option Pg
  | [(.agg c0), (.agg c1)] => (match c0.toList with
    | [(.int .i64 i0), (.int .i64 i1), (.string s2), (.slice p3 n4 n5), (.int .i64 i6), (.pointer p7), (.int .i64 i8), (.int .i64 i9)] => (match c1.toList with
    | [(.int .i64 i10), (.int .i64 i11), (.string s12), (.slice p13 n14 n15), (.int .i64 i16), (.pointer p17), (.int .i64 i18), (.int .i64 i19)] => some (T8 i0 i1 s2 p3 n4 n5 i6 p7 i8 i9 i10 i11 s12 p13 n14 n15 i16 p17 i18 i19)
    | _ => none)
    | _ => none)
  | _ => none
theorem A8_ok : ∀ args p, A8 args = some p → progOf PROG false 8 args = p := by
  intro args p h
  unfold A8 at h
  split at h
  · split at h
    · split at h
      · rename_i e0 d1 x1_0 x1_1 x1_2 x1_3 x1_4 x1_5 x1_6 x1_7 x1_8 x1_9 e1
        have f0 := agg_of e0
        subst f0
        have f1 := agg_of e1
        subst f1
        cases h
        exact T8_eq _ _ _ _ _ _ _ _ _ _ _ _ _ _ _ _ _ _ _ _
      · cases h
    · cases h
  · cases h
noncomputable def A9 : List Value → Option Pg
  | [(.agg c0)] => (match c0.toList with
    | [(.int .i64 i0), (.int .i64 i1), (.string s2), (.slice p3 n4 n5), (.int .i64 i6), (.pointer p7), (.int .i64 i8)] => some (T9 i0 i1 s2 p3 n4 n5 i6 p7 i8)
    | _ => none)
  | _ => none
theorem A9_ok : ∀ args p, A9 args = some p → progOf PROG false 9 args = p := by
  intro args p h
  unfold A9 at h
  split at h
  · split at h
    · rename_i e0
      have f0 := agg_of e0
      subst f0
      cases h
      exact T9_eq _ _ _ _ _ _ _ _ _
    · cases h
  · cases h
noncomputable def A10 : List Value → Option Pg
  | [(.int .i64 i0)] => some (T10 i0)
  | _ => none
theorem A10_ok : ∀ args p, A10 args = some p → progOf PROG false 10 args = p := by
  intro args p h
  unfold A10 at h
  split at h
  · cases h; exact T10_eq _
  · cases h
noncomputable def A11 : List Value → Option Pg
  | [(.int .i64 i0)] => some (T11 i0)
  | _ => none
theorem A11_ok : ∀ args p, A11 args = some p → progOf PROG false 11 args = p := by
  intro args p h
  unfold A11 at h
  split at h
  · cases h; exact T11_eq _
  · cases h
noncomputable def A12 : List Value → Option Pg
  | [(.agg c0), (.agg c1), (.slice p15 n16 n17), (.slice p18 n19 n20)] => (match c0.toList with
    | [(.int .i64 i0), (.int .i64 i1), (.string s2), (.slice p3 n4 n5), (.int .i64 i6), (.pointer p7), (.int .i64 i8)] => (match c1.toList with
    | [(.int .i64 i9), (.string s10), (.int .i64 i11), (.slice p12 n13 n14)] => some (T12 i0 i1 s2 p3 n4 n5 i6 p7 i8 i9 s10 i11 p12 n13 n14 p15 n16 n17 p18 n19 n20)
    | _ => none)
    | _ => none)
  | _ => none
theorem A12_ok : ∀ args p, A12 args = some p → progOf PROG false 12 args = p := by
  intro args p h
  unfold A12 at h
  split at h
  · split at h
    · split at h
      · rename_i e0 d1 x1_0 x1_1 x1_2 x1_3 x1_4 x1_5 e1
        have f0 := agg_of e0
        subst f0
        have f1 := agg_of e1
        subst f1
        cases h
        exact T12_eq _ _ _ _ _ _ _ _ _ _ _ _ _ _ _ _ _ _ _ _ _
      · cases h
    · cases h
  · cases h
noncomputable def A13 : List Value → Option Pg
  | [(.int .i64 i0)] => some (T13 i0)
  | _ => none
theorem A13_ok : ∀ args p, A13 args = some p → progOf PROG false 13 args = p := by
  intro args p h
  unfold A13 at h
  split at h
  · cases h; exact T13_eq _
  · cases h
noncomputable def A14 : List Value → Option Pg
  | [(.bool b0)] => some (T14 b0)
  | _ => none
theorem A14_ok : ∀ args p, A14 args = some p → progOf PROG false 14 args = p := by
  intro args p h
  unfold A14 at h
  split at h
  · cases h; exact T14_eq _
  · cases h
noncomputable def A15 : List Value → Option Pg
  | [(.bool b0)] => some (T15 b0)
  | _ => none
theorem A15_ok : ∀ args p, A15 args = some p → progOf PROG false 15 args = p := by
  intro args p h
  unfold A15 at h
  split at h
  · cases h; exact T15_eq _
  · cases h
noncomputable def A16 : List Value → Option Pg
  | [(.agg c0), (.agg c1), (.agg c2), (.int .i64 i21)] => (match c0.toList with
    | [(.slice p0 n1 n2), (.slice p3 n4 n5)] => (match c1.toList with
    | [(.int .i64 i6), (.int .i64 i7), (.string s8), (.slice p9 n10 n11), (.int .i64 i12), (.pointer p13), (.int .i64 i14)] => (match c2.toList with
    | [(.int .i64 i15), (.string s16), (.int .i64 i17), (.slice p18 n19 n20)] => some (T16 p0 n1 n2 p3 n4 n5 i6 i7 s8 p9 n10 n11 i12 p13 i14 i15 s16 i17 p18 n19 n20 i21)
    | _ => none)
    | _ => none)
    | _ => none)
  | _ => none
theorem A16_ok : ∀ args p, A16 args = some p → progOf PROG false 16 args = p := by
  intro args p h
  unfold A16 at h
  split at h
  · split at h
    · split at h
      · split at h
        · rename_i e0 d1 x1_0 x1_1 x1_2 x1_3 x1_4 x1_5 x1_6 x1_7 x1_8 e1 d2 x2_0 x2_1 x2_2 x2_3 x2_4 x2_5 e2
          have f0 := agg_of e0
          subst f0
          have f1 := agg_of e1
          subst f1
          have f2 := agg_of e2
          subst f2
          cases h
          exact T16_eq _ _ _ _ _ _ _ _ _ _ _ _ _ _ _ _ _ _ _ _ _ _
        · cases h
      · cases h
    · cases h
  · cases h
noncomputable def A17 : List Value → Option Pg
  | [(.int .i64 i0)] => some (T17 i0)
  | _ => none
theorem A17_ok : ∀ args p, A17 args = some p → progOf PROG false 17 args = p := by
  intro args p h
  unfold A17 at h
  split at h
  · cases h; exact T17_eq _
  · cases h
noncomputable def A19 : List Value → Option Pg
  | [(.bool b0)] => some (T19 b0)
  | _ => none
theorem A19_ok : ∀ args p, A19 args = some p → progOf PROG false 19 args = p := by
  intro args p h
  unfold A19 at h
  split at h
  · cases h; exact T19_eq _
  · cases h
noncomputable def A23 : List Value → Option Pg
  | [(.bool b0)] => some (T23 b0)
  | _ => none
theorem A23_ok : ∀ args p, A23 args = some p → progOf PROG false 23 args = p := by
  intro args p h
  unfold A23 at h
  split at h
  · cases h; exact T23_eq _
  · cases h
noncomputable def TAB : Tab := (.low 10 (.low 6 (.low 4 (.one 3 A3 (.one 4 A4 .nil)) (.one 5 A5 (.one 6 A6 .nil))) (.low 8 (.one 7 A7 (.one 8 A8 .nil)) (.one 9 A9 (.one 10 A10 .nil)))) (.low 14 (.low 12 (.one 11 A11 (.one 12 A12 .nil)) (.one 13 A13 (.one 14 A14 .nil))) (.low 16 (.one 15 A15 (.one 16 A16 .nil)) (.one 17 A17 (.one 19 A19 (.one 23 A23 .nil))))))
theorem TAB_ok : TabOK PROG TAB := (.low (.low (.low (.one A3_ok (.one A4_ok .nil)) (.one A5_ok (.one A6_ok .nil))) (.low (.one A7_ok (.one A8_ok .nil)) (.one A9_ok (.one A10_ok .nil)))) (.low (.low (.one A11_ok (.one A12_ok .nil)) (.one A13_ok (.one A14_ok .nil))) (.low (.one A15_ok (.one A16_ok .nil)) (.one A17_ok (.one A19_ok (.one A23_ok .nil))))))

end Go.Pg
