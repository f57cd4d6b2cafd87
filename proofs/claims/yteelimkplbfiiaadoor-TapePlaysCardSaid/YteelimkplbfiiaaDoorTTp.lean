/- The trees of the functions that the laws reach, written out by program; each is shown to be the function's own; then their table. -/
import Derived.Test.YteelimkplbfiiaaDoorProg
import Derived.KernelRfl
import Derived.Test.YteelimkplbfiiaaDoorPg3
namespace Go.Pg
open Go.Proofs
set_option linter.unusedVariables false
noncomputable abbrev PROG : Program := Tryd.prog
noncomputable def T3k0 (p27 : (Option Addr)) (n28 : Nat) (n29 : Nat) (b35 : Bool) : Ex → List Value → Pg :=
  fun e74 l75 => sw e74 .normal (asCons l75 fun v76 l77 => asInt .i64 v76 fun i78 => asNil l77 (.ret .normal [(.slice p27 n28 n29), (.int .i64 i78), (.bool b35)])) (.fail)

noncomputable def T3k1 (p27 : (Option Addr)) (n28 : Nat) (n29 : Nat) (i32 : Int) (b65 : Bool) (b35 : Bool) : Ex → List Value → Pg :=
  fun e69 l70 => sw e69 .normal (asCons l70 fun v71 l72 => asBool v71 fun b73 => asNil l72 (bif b73 then (.ret .ret [(.slice p27 n28 n29), (.int .i64 i32), (.bool false)]) else (.join (bif b65 then (.ret .normal [(.int .i64 (wi64 (i32 + 1)))]) else (.ret .normal [(.int .i64 i32)])) (T3k0 p27 n28 n29 b35)))) (.fail)

noncomputable def T3k2 (b35 : Bool) : Ex → List Value → Pg :=
  fun e133 l134 => sw e133 .normal (asCons l134 fun v135 l136 => asSlice v135 fun p137 n138 n139 => asCons l136 fun v140 l141 => asInt .i64 v140 fun i142 => asNil l141 (.ret .normal [(.int .i64 i142), (.bool b35), (.slice p137 n138 n139)])) (.fail)

noncomputable def T3k3 (a53 : Addr) (p12 : (Option Addr)) (i32 : Int) (p27 : (Option Addr)) (n28 : Nat) (n29 : Nat) (b35 : Bool) : Ex → List Value → Pg :=
  fun e116 l117 => sw e116 .normal (asCons l117 fun v118 l119 => asBool v118 fun b120 => asNil l119 (.act (ld1 (aadd a53 1)) fun v121 => asInt .i64 v121 fun i122 => .act (ld1 (aadd a53 2)) fun v123 => asInt .i64 v123 fun i124 => .call 9 [(.pointer p12), (.int .i64 i122), (.int .i64 i124)] fun v125 => asInt .i64 v125 fun i126 => bif ((!((i126 == 0) == b120)) || ((i126 != 0) && (i126 != 1))) then (.ret .ret [(.int .i64 i32), (.bool false), (.slice p27 n28 n29)]) else (.join (bif b120 then (.act (ld1 (aadd a53 1)) fun v127 => asInt .i64 v127 fun i128 => .act (ld1 (aadd a53 2)) fun v129 => asInt .i64 v129 fun i130 => .act (ld1 (aadd a53 2)) fun v131 => asInt .i64 v131 fun i132 => grd ((((decide (0 ≤ i130)) && (decide (i130 ≤ i132))) && (decide (i132 ≤ ((n29 : Nat) : Int)))) && ((mayCut p27 1) || true)) (.ret .normal [(.slice p27 (Int.toNat i130) (Int.toNat i132)), (.int .i64 i128)])) else (.ret .normal [(.slice p27 n28 n29), (.int .i64 i32)])) (T3k2 b35)))) (.fail)

noncomputable def T3k4 : Ex → List Value → Pg :=
  fun e143 l144 => sw e143 .normal (asCons l144 fun v145 l146 => asInt .i64 v145 fun i147 => asCons l146 fun v148 l149 => asBool v148 fun b150 => asCons l149 fun v151 l152 => asSlice v151 fun p153 n154 n155 => asNil l152 (.ret .normal [(.slice p153 n154 n155), (.int .i64 i147), (.bool b150)])) (sw e143 .ret (asCons l144 fun v156 l157 => asInt .i64 v156 fun i158 => asCons l157 fun v159 l160 => asBool v159 fun b161 => asCons l160 fun v162 l163 => asSlice v162 fun p164 n165 n166 => asNil l163 (.ret .ret [(.slice p164 n165 n166), (.int .i64 i158), (.bool b161)])) (.fail))

noncomputable def T3k5 : Ex → List Value → Pg :=
  fun e167 l168 => sw e167 .ret (asCons l168 fun v169 l170 => asSlice v169 fun p171 n172 n173 => asCons l170 fun v174 l175 => asInt .i64 v174 fun i176 => asCons l175 fun v177 l178 => asBool v177 fun b179 => asNil l178 (.ret .ret [(.slice p171 n172 n173), (.int .i64 i176), (.bool b179)])) (sw e167 .normal (asCons l168 fun v180 l181 => asSlice v180 fun p182 n183 n184 => asCons l181 fun v185 l186 => asInt .i64 v185 fun i187 => asCons l186 fun v188 l189 => asBool v188 fun b190 => asNil l189 (.ret .normal [(.slice p182 n183 n184), (.int .i64 i187), (.bool b190)])) (.fail))

noncomputable def T3k6 (i235 : Int) : Ex → List Value → Pg :=
  fun e253 l254 => sw e253 .ret (asCons l254 fun v255 l256 => asStr v255 fun s257 => asCons l256 fun v258 l259 => asBool v258 fun b260 => asNil l259 (.ret .ret [(.int .i64 i235), (.string s257), (.bool b260)])) (sw e253 .normal (asCons l254 fun v261 l262 => asStr v261 fun s263 => asCons l262 fun v264 l265 => asBool v264 fun b266 => asNil l265 (.ret .normal [(.int .i64 (wi64 (i235 + 1))), (.string s263), (.bool b266)])) (.fail))

noncomputable def T3b0 (n225 : Nat) (p224 : (Option Addr)) (p206 : (Option Addr)) (n207 : Nat) : List Value → Pg :=
  fun l232 => asCons l232 fun v233 l234 => asInt .i64 v233 fun i235 => asCons l234 fun v236 l237 => asStr v236 fun s238 => asCons l237 fun v239 l240 => asBool v239 fun b241 => asNil l240 (bif (decide (i235 < ((n225 : Nat) : Int))) then (.join (asSome p224 fun a242 => grd ((decide (0 ≤ i235)) && (decide (i235 < ((n225 : Nat) : Int)))) (.act (ld1 (aadd a242 ((Int.toNat i235) * 1))) fun v243 => asInt .i64 v243 fun i244 => asSome p206 fun a245 => grd ((decide (0 ≤ i235)) && (decide (i235 < ((n207 : Nat) : Int)))) (.act (ld1 (aadd a245 ((Int.toNat i235) * 1))) fun v246 => asInt .i64 v246 fun i247 => bif (i244 != i247) then (.ret .ret [(.string s238), (.bool false)]) else (asSome p224 fun a248 => grd ((decide (0 ≤ i235)) && (decide (i235 < ((n225 : Nat) : Int)))) (.act (ld1 (aadd a248 ((Int.toNat i235) * 1))) fun v249 => asInt .i64 v249 fun i250 => .call 12 [(.int .i64 i250)] fun v251 => asStr v251 fun s252 => grd (Nat.ble (s238.size + s252.size) 9223372036854775807) (grd (Nat.ble ((s238 ++ s252).size + 1) 9223372036854775807) (.ret .normal [(.string ((s238 ++ s252) ++ (bs [10]))), (.bool b241)]))))))) (T3k6 i235)) else (.ret (.exit 3) [(.int .i64 i235), (.string s238), (.bool b241)]))

noncomputable def T3k7 (p12 : (Option Addr)) (p206 : (Option Addr)) (n207 : Nat) (n208 : Nat) (i211 : Int) : Ex → List Value → Pg :=
  fun e267 l268 => sw e267 (.exit 3) (asCons l268 fun v269 l270 => asInt .i64 v269 fun i271 => asCons l270 fun v272 l273 => asStr v272 fun s274 => asCons l273 fun v275 l276 => asBool v275 fun b277 => asNil l276 (.call 13 [(.pointer p12)] fun v278 => asStr v278 fun s279 => bif (!(s279.toList == s274.toList)) then (.ret .ret [(.slice p206 n207 n208), (.int .i64 i211), (.bool false)]) else (.ret .normal [(.slice p206 n207 n208), (.int .i64 i211), (.bool b277)]))) (sw e267 .ret (asCons l268 fun v280 l281 => asInt .i64 v280 fun i282 => asCons l281 fun v283 l284 => asStr v283 fun s285 => asCons l284 fun v286 l287 => asBool v286 fun b288 => asNil l287 (.ret .ret [(.slice p206 n207 n208), (.int .i64 i211), (.bool b288)])) (.fail))

noncomputable def T3k8 (p206 : (Option Addr)) (n207 : Nat) (n208 : Nat) (i211 : Int) (b214 : Bool) (n225 : Nat) (p224 : (Option Addr)) (p12 : (Option Addr)) : Ex → List Value → Pg :=
  fun e227 l228 => sw e227 .normal (asCons l228 fun v229 l230 => asBool v229 fun b231 => asNil l230 (bif b231 then (.ret .ret [(.slice p206 n207 n208), (.int .i64 i211), (.bool false)]) else (.loop [(.int .i64 0), (.string (bs [])), (.bool b214)] (T3b0 n225 p224 p206 n207) (T3k7 p12 p206 n207 n208 i211)))) (.fail)

noncomputable def T3k9 (p12 : (Option Addr)) : Ex → List Value → Pg :=
  fun e191 l192 => sw e191 .ret (asCons l192 fun v193 l194 => asSlice v193 fun p195 n196 n197 => asCons l194 fun v198 l199 => asInt .i64 v198 fun i200 => asCons l199 fun v201 l202 => asBool v201 fun b203 => asNil l202 (.ret .ret [(.slice p195 n196 n197), (.int .i64 i200), (.bool b203)])) (sw e191 .normal (asCons l192 fun v204 l205 => asSlice v204 fun p206 n207 n208 => asCons l205 fun v209 l210 => asInt .i64 v209 fun i211 => asCons l210 fun v212 l213 => asBool v212 fun b214 => asNil l213 (.call 10 [(.pointer p12)] fun v215 => asTuple v215 fun l216 => asCons l216 fun v217 l218 => asInt .i64 v217 fun i219 => asCons l218 fun v220 l221 => asInt .i64 v220 fun i222 => asNil l221 (.call 11 [(.pointer p12)] fun v223 => asSlice v223 fun p224 n225 n226 => .join (bif (i219 != i211) == false then (bif (i222 != ((n207 : Nat) : Int)) == false then (.ret .normal [(.bool (((n225 : Nat) : Int) != ((n207 : Nat) : Int)))]) else (.ret .normal [(.bool true)])) else (.ret .normal [(.bool true)])) (T3k8 p206 n207 n208 i211 b214 n225 p224 p12)))) (.fail))

noncomputable def T3k10 (i24 : Int) : Ex → List Value → Pg :=
  fun e289 l290 => sw e289 .ret (asCons l290 fun v291 l292 => asSlice v291 fun p293 n294 n295 => asCons l292 fun v296 l297 => asInt .i64 v296 fun i298 => asCons l297 fun v299 l300 => asBool v299 fun b301 => asNil l300 (.ret .ret [(.int .i64 i24), (.slice p293 n294 n295), (.int .i64 i298), (.bool b301)])) (sw e289 .normal (asCons l290 fun v302 l303 => asSlice v302 fun p304 n305 n306 => asCons l303 fun v307 l308 => asInt .i64 v307 fun i309 => asCons l308 fun v310 l311 => asBool v310 fun b312 => asNil l311 (.ret .normal [(.int .i64 (wi64 (i24 + 1))), (.slice p304 n305 n306), (.int .i64 i309), (.bool b312)])) (.fail))

noncomputable def T3b1 (n4 : Nat) (p3 : (Option Addr)) (p12 : (Option Addr)) (n1 : Nat) (p0 : (Option Addr)) : List Value → Pg :=
  fun l21 => asCons l21 fun v22 l23 => asInt .i64 v22 fun i24 => asCons l23 fun v25 l26 => asSlice v25 fun p27 n28 n29 => asCons l26 fun v30 l31 => asInt .i64 v30 fun i32 => asCons l31 fun v33 l34 => asBool v33 fun b35 => asNil l34 (bif (decide (i24 < ((n4 : Nat) : Int))) then (.join (asSome p3 fun a36 => grd ((decide (0 ≤ i24)) && (decide (i24 < ((n4 : Nat) : Int)))) (.act (ldN 4 (aadd a36 ((Int.toNat i24) * 4))) fun v37 => asAgg v37 fun l38 => asCons l38 fun v39 l40 => asInt .i64 v39 fun i41 => asCons l40 fun v42 l43 => asInt .i64 v42 fun i44 => asCons l43 fun v45 l46 => asInt .i64 v45 fun i47 => asCons l46 fun v48 l49 => asInt .i64 v48 fun i50 => asNil l49 (.act (newC [(.int .i64 0), (.int .i64 0), (.int .i64 0), (.int .i64 0)]) fun v51 => asPtr v51 fun p52 => asSome p52 fun a53 => .act (stC a53 [(.int .i64 i41), (.int .i64 i44), (.int .i64 i47), (.int .i64 i50)]) fun v54 => asTuple v54 fun l55 => asNil l55 (.act (ld1 (aadd a53 0)) fun v56 => asInt .i64 v56 fun i57 => .join (.join (bif (i57 == 0) then (.call 7 [(.pointer p12)] fun v58 => asTuple v58 fun l59 => asCons l59 fun v60 l61 => asInt .i64 v60 fun i62 => asCons l61 fun v63 l64 => asBool v63 fun b65 => asNil l64 (.join (bif (!(b65 == (decide (i32 < ((n1 : Nat) : Int))))) == false then (bif b65 == true then (asSome p0 fun a66 => grd ((decide (0 ≤ i32)) && (decide (i32 < ((n1 : Nat) : Int)))) (.act (ld1 (aadd a66 ((Int.toNat i32) * 1))) fun v67 => asInt .i64 v67 fun i68 => .ret .normal [(.bool ((i62 != i68) || ((!b65) && (i62 != 0))))])) else (.ret .normal [(.bool ((!b65) && (i62 != 0)))])) else (.ret .normal [(.bool true)])) (T3k1 p27 n28 n29 i32 b65 b35))) else (.join (bif (i57 == 1) then (.act (ld1 (aadd a53 3)) fun v79 => asInt .i64 v79 fun i80 => .call 8 [(.pointer p12), (.int .i64 i80)] fun v81 => asTuple v81 fun l82 => asNil l82 (.get fun h83 => .get fun h85 => grd (newN h83.n h85 []) (.act (bdSl 1 0 []) fun v84 => asSlice v84 fun p87 n88 n89 => .get fun h86 => .act (ld1 (aadd a53 3)) fun v90 => asInt .i64 v90 fun i91 => .get fun h93 => grd (newN h83.n h93 [h85.n]) (.act (bdSl 1 1 [(.int .i64 i91)]) fun v92 => asSlice v92 fun p95 n96 n97 => .get fun h94 => .act (apS 1 8 p87 n88 n89 p27 n28 n29) fun v98 => asSlice v98 fun p99 n100 n101 => .get fun h107 => grd (chks [((ld1 (aadd a53 3)), v90)] h107) (.get fun h106 => grd (chkO [(h93.n, (h94.get h93.n))] h106) (.act (apS 1 8 p99 n100 n101 p95 n96 n97) fun v102 => asSlice v102 fun p103 n104 n105 => .ret .normal [(.int .i64 i32), (.bool b35), (.slice p103 n104 n105)])))))) else (.join (.act (ld1 (aadd a53 1)) fun v108 => asInt .i64 v108 fun i109 => bif (decide (i109 ≥ 0)) == true then (.act (ld1 (aadd a53 1)) fun v110 => asInt .i64 v110 fun i111 => bif (decide (i111 ≤ i32)) == true then (.act (ld1 (aadd a53 2)) fun v112 => asInt .i64 v112 fun i113 => bif (decide (i113 ≥ 0)) == true then (.act (ld1 (aadd a53 2)) fun v114 => asInt .i64 v114 fun i115 => .ret .normal [(.bool (decide (i115 ≤ ((n28 : Nat) : Int))))]) else (.ret .normal [(.bool false)])) else (.ret .normal [(.bool false)])) else (.ret .normal [(.bool false)])) (T3k3 a53 p12 i32 p27 n28 n29 b35))) (T3k4))) (T3k5)) (T3k9 p12))))) (T3k10 i24)) else (.ret (.exit 0) [(.int .i64 i24), (.slice p27 n28 n29), (.int .i64 i32), (.bool b35)]))

noncomputable def T3k11 : Ex → List Value → Pg :=
  fun e313 l314 => sw e313 (.exit 0) (asCons l314 fun v315 l316 => asInt .i64 v315 fun i317 => asCons l316 fun v318 l319 => asSlice v318 fun p320 n321 n322 => asCons l319 fun v323 l324 => asInt .i64 v323 fun i325 => asCons l324 fun v326 l327 => asBool v326 fun b328 => asNil l327 (.ret .ret [(.bool true)])) (sw e313 .ret (asCons l314 fun v329 l330 => asInt .i64 v329 fun i331 => asCons l330 fun v332 l333 => asSlice v332 fun p334 n335 n336 => asCons l333 fun v337 l338 => asInt .i64 v337 fun i339 => asCons l338 fun v340 l341 => asBool v340 fun b342 => asNil l341 (.ret .ret [(.bool b342)])) (.fail))

noncomputable def T3k12 (i15 : Int) (p12 : (Option Addr)) (n4 : Nat) (p3 : (Option Addr)) (n1 : Nat) (p0 : (Option Addr)) : Ex → List Value → Pg :=
  fun e16 l17 => sw e16 .normal (asCons l17 fun v18 l19 => asBool v18 fun b20 => asNil l19 (bif b20 then (.ret .ret [(.bool ((i15 == 0) && (!(Option.isNone p12))))]) else (.loop [(.int .i64 0), (.slice none 0 0), (.int .i64 0), (.bool false)] (T3b1 n4 p3 p12 n1 p0) (T3k11)))) (.fail)

/-- hindsight/hindsightlaw18.TapePlays -/
noncomputable def T3 (p0 : (Option Addr)) (n1 : Nat) (n2 : Nat) (p3 : (Option Addr)) (n4 : Nat) (n5 : Nat) : Pg :=
  .call 5 [] fun v6 => asBool v6 fun b7 => bif (!b7) then (.ret .ret [(.bool false)]) else (bif (decide (((n1 : Nat) : Int) > 250)) then (.ret .ret [(.bool true)]) else (.call 6 [(.slice p0 n1 n2)] fun v8 => asTuple v8 fun l9 => asCons l9 fun v10 l11 => asPtr v10 fun p12 => asCons l11 fun v13 l14 => asInt .i64 v13 fun i15 => asNil l14 (bif (decide (((n1 : Nat) : Int) > 200)) then (.ret .ret [(.bool ((i15 == 1) && (Option.isNone p12)))]) else (.join (bif ((i15 != 0) || (Option.isNone p12)) == false then (.ret .normal [(.bool (decide (((n4 : Nat) : Int) > 60)))]) else (.ret .normal [(.bool true)])) (T3k12 i15 p12 n4 p3 n1 p0)))))
theorem T3_eq (p0 : (Option Addr)) (n1 : Nat) (n2 : Nat) (p3 : (Option Addr)) (n4 : Nat) (n5 : Nat) : progOf PROG false 3 [(.slice p0 n1 n2), (.slice p3 n4 n5)] = T3 p0 n1 n2 p3 n4 n5 := by kernel_rfl


noncomputable def T4k0 (i26 : Int) : Ex → List Value → Pg :=
  fun e48 l49 => sw e48 .normal (asCons l49 fun v50 l51 => asSlice v50 fun p52 n53 n54 => asNil l51 (.ret .normal [(.int .i64 (wi64 (i26 + 1))), (.slice p52 n53 n54)])) (.fail)

noncomputable def T4b0 (i3 : Int) (p19 : (Option Addr)) : List Value → Pg :=
  fun l23 => asCons l23 fun v24 l25 => asInt .i64 v24 fun i26 => asCons l25 fun v27 l28 => asSlice v27 fun p29 n30 n31 => asNil l28 (bif (decide (i26 < i3)) then (.join (.call 7 [(.pointer p19)] fun v32 => asTuple v32 fun l33 => asCons l33 fun v34 l35 => asInt .i64 v34 fun i36 => asCons l35 fun v37 l38 => asBool v37 fun b39 => asNil l38 (.act (bdSl 1 1 [(.int .i64 i36)]) fun v40 => asSlice v40 fun p41 n42 n43 => .act (apS 1 8 p29 n30 n31 p41 n42 n43) fun v44 => asSlice v44 fun p45 n46 n47 => .ret .normal [(.slice p45 n46 n47)])) (T4k0 i26)) else (.ret (.exit 0) [(.int .i64 i26), (.slice p29 n30 n31)]))

noncomputable def T4k1 (i68 : Int) : Ex → List Value → Pg :=
  fun e74 l75 => sw e74 .normal (asNil l75 (.ret .normal [(.int .i64 (wi64 (i68 + 1)))])) (.fail)

noncomputable def T4b1 (n6 : Nat) (p5 : (Option Addr)) (p19 : (Option Addr)) : List Value → Pg :=
  fun l65 => asCons l65 fun v66 l67 => asInt .i64 v66 fun i68 => asNil l67 (bif (decide (i68 < ((n6 : Nat) : Int))) then (.join (asSome p5 fun a69 => grd ((decide (0 ≤ i68)) && (decide (i68 < ((n6 : Nat) : Int)))) (.act (ld1 (aadd a69 ((Int.toNat i68) * 1))) fun v70 => asInt .i64 v70 fun i71 => .call 8 [(.pointer p19), (.int .i64 i71)] fun v72 => asTuple v72 fun l73 => asNil l73 (.ret .normal []))) (T4k1 i68)) else (.ret (.exit 2) [(.int .i64 i68)]))

noncomputable def T4k2 (i88 : Int) : Ex → List Value → Pg :=
  fun e103 l104 => sw e103 .ret (asCons l104 fun v105 l106 => asBool v105 fun b107 => asNil l106 (.ret .ret [(.int .i64 i88), (.bool b107)])) (sw e103 .normal (asCons l104 fun v108 l109 => asBool v108 fun b110 => asNil l109 (.ret .normal [(.int .i64 (wi64 (i88 + 1))), (.bool b110)])) (.fail))

noncomputable def T4b2 (i3 : Int) (p19 : (Option Addr)) (p62 : (Option Addr)) (n63 : Nat) : List Value → Pg :=
  fun l85 => asCons l85 fun v86 l87 => asInt .i64 v86 fun i88 => asCons l87 fun v89 l90 => asBool v89 fun b91 => asNil l90 (bif (decide (i88 < i3)) then (.join (.call 7 [(.pointer p19)] fun v92 => asTuple v92 fun l93 => asCons l93 fun v94 l95 => asInt .i64 v94 fun i96 => asCons l95 fun v97 l98 => asBool v97 fun b99 => asNil l98 (asSome p62 fun a100 => grd ((decide (0 ≤ i88)) && (decide (i88 < ((n63 : Nat) : Int)))) (.act (ld1 (aadd a100 ((Int.toNat i88) * 1))) fun v101 => asInt .i64 v101 fun i102 => bif (i96 != i102) then (.ret .ret [(.bool false)]) else (.ret .normal [(.bool b91)])))) (T4k2 i88)) else (.ret (.exit 4) [(.int .i64 i88), (.bool b91)]))

noncomputable def T4k3 (i122 : Int) : Ex → List Value → Pg :=
  fun e128 l129 => sw e128 .normal (asNil l129 (.ret .normal [(.int .i64 (wi64 (i122 + 1)))])) (.fail)

noncomputable def T4b3 (n6 : Nat) (p5 : (Option Addr)) (p19 : (Option Addr)) : List Value → Pg :=
  fun l119 => asCons l119 fun v120 l121 => asInt .i64 v120 fun i122 => asNil l121 (bif (decide (i122 < ((n6 : Nat) : Int))) then (.join (asSome p5 fun a123 => grd ((decide (0 ≤ i122)) && (decide (i122 < ((n6 : Nat) : Int)))) (.act (ld1 (aadd a123 ((Int.toNat i122) * 1))) fun v124 => asInt .i64 v124 fun i125 => .call 8 [(.pointer p19), (.int .i64 i125)] fun v126 => asTuple v126 fun l127 => asNil l127 (.ret .normal []))) (T4k3 i122)) else (.ret (.exit 6) [(.int .i64 i122)]))

noncomputable def T4k4 : Ex → List Value → Pg :=
  fun e145 l146 => sw e145 .normal (asCons l146 fun v147 l148 => asBool v147 fun b149 => asNil l148 (.ret .ret [(.bool b149)])) (.fail)

noncomputable def T4k5 (p19 : (Option Addr)) (s82 : ByteArray) (n6 : Nat) (n1 : Nat) (i3 : Int) : Ex → List Value → Pg :=
  fun e130 l131 => sw e130 (.exit 6) (asCons l131 fun v132 l133 => asInt .i64 v132 fun i134 => asNil l133 (.call 10 [(.pointer p19)] fun v135 => asTuple v135 fun l136 => asCons l136 fun v137 l138 => asInt .i64 v137 fun i139 => asCons l138 fun v140 l141 => asInt .i64 v140 fun i142 => asNil l141 (.join (.call 13 [(.pointer p19)] fun v143 => asStr v143 fun s144 => bif (s144.toList == s82.toList) == true then (bif (i142 == ((n6 : Nat) : Int)) == true then (.ret .normal [(.bool ((decide (i139 ≤ ((n1 : Nat) : Int))) && (decide (i139 ≤ i3))))]) else (.ret .normal [(.bool false)])) else (.ret .normal [(.bool false)])) (T4k4)))) (.fail)

noncomputable def T4k6 (i4 : Int) (n6 : Nat) (p5 : (Option Addr)) (p19 : (Option Addr)) (s82 : ByteArray) (n1 : Nat) (i3 : Int) : Ex → List Value → Pg :=
  fun e111 l112 => sw e111 (.exit 4) (asCons l112 fun v113 l114 => asInt .i64 v113 fun i115 => asCons l114 fun v116 l117 => asBool v116 fun b118 => asNil l117 (.loop [(.int .i64 i4)] (T4b3 n6 p5 p19) (T4k5 p19 s82 n6 n1 i3))) (sw e111 .ret (asCons l112 fun v150 l151 => asInt .i64 v150 fun i152 => asCons l151 fun v153 l154 => asBool v153 fun b155 => asNil l154 (.ret .ret [(.bool b155)])) (.fail))

noncomputable def T4k7 (p19 : (Option Addr)) (i4 : Int) (i3 : Int) (p62 : (Option Addr)) (n63 : Nat) (n6 : Nat) (p5 : (Option Addr)) (n1 : Nat) : Ex → List Value → Pg :=
  fun e76 l77 => sw e76 (.exit 2) (asCons l77 fun v78 l79 => asInt .i64 v78 fun i80 => asNil l79 (.call 13 [(.pointer p19)] fun v81 => asStr v81 fun s82 => .call 9 [(.pointer p19), (.int .i64 0), (.int .i64 i4)] fun v83 => asInt .i64 v83 fun i84 => bif (i84 != 0) then (.ret .ret [(.bool false)]) else (.loop [(.int .i64 0), (.bool false)] (T4b2 i3 p19 p62 n63) (T4k6 i4 n6 p5 p19 s82 n1 i3)))) (.fail)

noncomputable def T4k8 (n6 : Nat) (p5 : (Option Addr)) (p19 : (Option Addr)) (i4 : Int) (i3 : Int) (n1 : Nat) : Ex → List Value → Pg :=
  fun e55 l56 => sw e55 (.exit 0) (asCons l56 fun v57 l58 => asInt .i64 v57 fun i59 => asCons l58 fun v60 l61 => asSlice v60 fun p62 n63 n64 => asNil l61 (.loop [(.int .i64 0)] (T4b1 n6 p5 p19) (T4k7 p19 i4 i3 p62 n63 n6 p5 n1))) (.fail)

noncomputable def T4k9 (p0 : (Option Addr)) (n1 : Nat) (n2 : Nat) (i3 : Int) (n6 : Nat) (p5 : (Option Addr)) (i4 : Int) : Ex → List Value → Pg :=
  fun e10 l11 => sw e10 .normal (asCons l11 fun v12 l13 => asBool v12 fun b14 => asNil l13 (bif b14 then (.ret .ret [(.bool true)]) else (.call 6 [(.slice p0 n1 n2)] fun v15 => asTuple v15 fun l16 => asCons l16 fun v17 l18 => asPtr v17 fun p19 => asCons l18 fun v20 l21 => asInt .i64 v20 fun i22 => asNil l21 (bif ((i22 != 0) || (Option.isNone p19)) then (.ret .ret [(.bool false)]) else (.loop [(.int .i64 0), (.slice none 0 0)] (T4b0 i3 p19) (T4k8 n6 p5 p19 i4 i3 n1)))))) (.fail)

/-- hindsight/hindsightlaw18.TapeAgain -/
noncomputable def T4 (p0 : (Option Addr)) (n1 : Nat) (n2 : Nat) (i3 : Int) (i4 : Int) (p5 : (Option Addr)) (n6 : Nat) (n7 : Nat) : Pg :=
  .call 5 [] fun v8 => asBool v8 fun b9 => bif (!b9) then (.ret .ret [(.bool false)]) else (.join (bif (decide (((n1 : Nat) : Int) > 50)) == false then (bif ((((decide (((n6 : Nat) : Int) > 30)) || (decide (i3 < 0))) || (decide (i3 > 60))) || (decide (i4 < 0))) == false then (.ret .normal [(.bool (decide (i4 > ((n6 : Nat) : Int))))]) else (.ret .normal [(.bool true)])) else (.ret .normal [(.bool true)])) (T4k9 p0 n1 n2 i3 n6 p5 i4))
theorem T4_eq (p0 : (Option Addr)) (n1 : Nat) (n2 : Nat) (i3 : Int) (i4 : Int) (p5 : (Option Addr)) (n6 : Nat) (n7 : Nat) : progOf PROG false 4 [(.slice p0 n1 n2), (.int .i64 i3), (.int .i64 i4), (.slice p5 n6 n7)] = T4 p0 n1 n2 i3 i4 p5 n6 n7 := by kernel_rfl


noncomputable def T5k0 : Ex → List Value → Pg :=
  fun e43 l44 => sw e43 .normal (asCons l44 fun v45 l46 => asBool v45 fun b47 => asNil l46 (.ret .ret [(.bool b47)])) (.fail)

/-- hindsight/hindsightlaw18.awake -/
noncomputable def T5 : Pg :=
  .act (bdSl 1 1 [(.int .i64 4)]) fun v0 => asSlice v0 fun p1 n2 n3 => .call 6 [(.slice p1 n2 n3)] fun v4 => asTuple v4 fun l5 => asCons l5 fun v6 l7 => asPtr v6 fun p8 => asCons l7 fun v9 l10 => asInt .i64 v9 fun i11 => asNil l10 (bif ((i11 != 0) || (Option.isNone p8)) then (.ret .ret [(.bool false)]) else (.call 8 [(.pointer p8), (.int .i64 5)] fun v12 => asTuple v12 fun l13 => asNil l13 (.call 8 [(.pointer p8), (.int .i64 6)] fun v14 => asTuple v14 fun l15 => asNil l15 (.call 9 [(.pointer p8), (.int .i64 0), (.int .i64 1)] fun v16 => asInt .i64 v16 fun i17 => .call 11 [(.pointer p8)] fun v18 => asSlice v18 fun p19 n20 n21 => .call 7 [(.pointer p8)] fun v22 => asTuple v22 fun l23 => asCons l23 fun v24 l25 => asInt .i64 v24 fun i26 => asCons l25 fun v27 l28 => asBool v27 fun b29 => asNil l28 (.call 7 [(.pointer p8)] fun v30 => asTuple v30 fun l31 => asCons l31 fun v32 l33 => asInt .i64 v32 fun i34 => asCons l33 fun v35 l36 => asBool v35 fun b37 => asNil l36 (.join (bif (i17 == 0) == true then (bif (((n20 : Nat) : Int) == 1) == true then (asSome p19 fun a38 => grd (decide (0 < ((n20 : Nat) : Int))) (.act (ld1 (aadd a38 0)) fun v39 => asInt .i64 v39 fun i40 => bif ((((i40 == 5) && b29) && (i26 == 4)) && (!b37)) == true then (.call 13 [(.pointer p8)] fun v41 => asStr v41 fun s42 => .ret .normal [(.bool (s42.toList == (bs [53, 10]).toList))]) else (.ret .normal [(.bool false)]))) else (.ret .normal [(.bool false)])) else (.ret .normal [(.bool false)])) (T5k0)))))))
theorem T5_eq : progOf PROG false 5 [] = T5 := by kernel_rfl


/-- hindsight/tape.New -/
noncomputable def T6 (p0 : (Option Addr)) (n1 : Nat) (n2 : Nat) : Pg :=
  bif (decide (((n1 : Nat) : Int) > 200)) then (.ret .ret [(.tuple #[(.pointer none), (.int .i64 1)])]) else (.call 14 [(.slice p0 n1 n2)] fun v3 => asSlice v3 fun p4 n5 n6 => .act (newC [(.slice p4 n5 n6), (.slice none 0 0), (.int .i64 0)]) fun v7 => asPtr v7 fun p8 => asSome p8 fun a9 => .ret .ret [(.tuple #[(.pointer (some a9)), (.int .i64 0)])])
theorem T6_eq (p0 : (Option Addr)) (n1 : Nat) (n2 : Nat) : progOf PROG false 6 [(.slice p0 n1 n2)] = T6 p0 n1 n2 := by kernel_rfl


/-- (*hindsight/tape.Tape).Read -/
noncomputable def T7 (p0 : (Option Addr)) : Pg :=
  asSome p0 fun a1 => .act (ld1 (aadd a1 2)) fun v2 => asInt .i64 v2 fun i3 => asSome p0 fun a4 => .act (ld1 (aadd a4 0)) fun v5 => asSlice v5 fun p6 n7 n8 => bif (decide (i3 ≥ ((n7 : Nat) : Int))) then (.ret .ret [(.tuple #[(.int .i64 0), (.bool false)])]) else (asSome p0 fun a9 => .act (ld1 (aadd a9 2)) fun v10 => asInt .i64 v10 fun i11 => asSome p0 fun a12 => .act (stC (aadd a12 2) [(.int .i64 (wi64 (i11 + 1)))]) fun v13 => asTuple v13 fun l14 => asNil l14 (asSome p0 fun a15 => .act (ld1 (aadd a15 0)) fun v16 => asSlice v16 fun p17 n18 n19 => asSome p0 fun a20 => .act (ld1 (aadd a20 2)) fun v21 => asInt .i64 v21 fun i22 => asSome p17 fun a23 => grd ((decide (0 ≤ (wi64 (i22 - 1)))) && (decide ((wi64 (i22 - 1)) < ((n18 : Nat) : Int)))) (.act (ld1 (aadd a23 ((Int.toNat (wi64 (i22 - 1))) * 1))) fun v24 => asInt .i64 v24 fun i25 => .ret .ret [(.tuple #[(.int .i64 i25), (.bool true)])])))
theorem T7_eq (p0 : (Option Addr)) : progOf PROG false 7 [(.pointer p0)] = T7 p0 := by kernel_rfl


/-- (*hindsight/tape.Tape).Print -/
noncomputable def T8 (p0 : (Option Addr)) (i1 : Int) : Pg :=
  asSome p0 fun a2 => .act (ld1 (aadd a2 1)) fun v3 => asSlice v3 fun p4 n5 n6 => .act (bdSl 1 1 [(.int .i64 i1)]) fun v7 => asSlice v7 fun p8 n9 n10 => .act (apS 1 8 p4 n5 n6 p8 n9 n10) fun v11 => asSlice v11 fun p12 n13 n14 => asSome p0 fun a15 => .act (stC (aadd a15 1) [(.slice p12 n13 n14)]) fun v16 => asTuple v16 fun l17 => asNil l17 (.ret .ret [(.tuple #[])])
theorem T8_eq (p0 : (Option Addr)) (i1 : Int) : progOf PROG false 8 [(.pointer p0), (.int .i64 i1)] = T8 p0 i1 := by kernel_rfl


noncomputable def T9k0 (p0 : (Option Addr)) (i2 : Int) (i1 : Int) : Ex → List Value → Pg :=
  fun e11 l12 => sw e11 .normal (asCons l12 fun v13 l14 => asBool v13 fun b15 => asNil l14 (bif b15 then (.ret .ret [(.int .i64 1)]) else (asSome p0 fun a16 => .act (ld1 (aadd a16 1)) fun v17 => asSlice v17 fun p18 n19 n20 => grd ((((decide (0 ≤ i2)) && (decide (i2 ≤ ((n20 : Nat) : Int)))) && (decide (((n20 : Nat) : Int) ≤ ((n20 : Nat) : Int)))) && ((mayCut p18 1) || true)) (asSome p0 fun a21 => .act (stC (aadd a21 2) [(.int .i64 i1)]) fun v22 => asTuple v22 fun l23 => asNil l23 (asSome p0 fun a24 => .act (stC (aadd a24 1) [(.slice p18 (Int.toNat i2) n20)]) fun v25 => asTuple v25 fun l26 => asNil l26 (.ret .ret [(.int .i64 0)])))))) (.fail)

/-- (*hindsight/tape.Tape).Back -/
noncomputable def T9 (p0 : (Option Addr)) (i1 : Int) (i2 : Int) : Pg :=
  .join (bif (decide (i1 < 0)) == false then (asSome p0 fun a3 => .act (ld1 (aadd a3 2)) fun v4 => asInt .i64 v4 fun i5 => bif ((decide (i1 > i5)) || (decide (i2 < 0))) == false then (asSome p0 fun a6 => .act (ld1 (aadd a6 1)) fun v7 => asSlice v7 fun p8 n9 n10 => .ret .normal [(.bool (decide (i2 > ((n9 : Nat) : Int))))]) else (.ret .normal [(.bool true)])) else (.ret .normal [(.bool true)])) (T9k0 p0 i2 i1)
theorem T9_eq (p0 : (Option Addr)) (i1 : Int) (i2 : Int) : progOf PROG false 9 [(.pointer p0), (.int .i64 i1), (.int .i64 i2)] = T9 p0 i1 i2 := by kernel_rfl


/-- (*hindsight/tape.Tape).Marks -/
noncomputable def T10 (p0 : (Option Addr)) : Pg :=
  asSome p0 fun a1 => .act (ld1 (aadd a1 2)) fun v2 => asInt .i64 v2 fun i3 => asSome p0 fun a4 => .act (ld1 (aadd a4 1)) fun v5 => asSlice v5 fun p6 n7 n8 => .ret .ret [(.tuple #[(.int .i64 i3), (.int .i64 ((n7 : Nat) : Int))])]
theorem T10_eq (p0 : (Option Addr)) : progOf PROG false 10 [(.pointer p0)] = T10 p0 := by kernel_rfl


/-- (*hindsight/tape.Tape).Out -/
noncomputable def T11 (p0 : (Option Addr)) : Pg :=
  asSome p0 fun a1 => .act (ld1 (aadd a1 1)) fun v2 => asSlice v2 fun p3 n4 n5 => .call 14 [(.slice p3 n4 n5)] fun v6 => asSlice v6 fun p7 n8 n9 => .ret .ret [(.slice p7 n8 n9)]
theorem T11_eq (p0 : (Option Addr)) : progOf PROG false 11 [(.pointer p0)] = T11 p0 := by kernel_rfl


/-- hindsight/hindsightref1.Digits -/
noncomputable def T12 (i0 : Int) : Pg :=
  bif (decide (i0 < 0)) then (bif (decide ((wu64 (wi64 (0 - i0))) ≥ 10)) then (.call 12 [(.int .i64 (wi64 (wu64 (Int.tdiv (wu64 (wi64 (0 - i0))) 10))))] fun v1 => asStr v1 fun s2 => grd (Nat.ble (1 + s2.size) 9223372036854775807) (.call 12 [(.int .i64 (wi64 (Int.tmod (wu64 (wi64 (0 - i0))) 10)))] fun v3 => asStr v3 fun s4 => grd (Nat.ble (((bs [45]) ++ s2).size + s4.size) 9223372036854775807) (.ret .ret [(.string (((bs [45]) ++ s2) ++ s4))]))) else (.call 12 [(.int .i64 (wi64 (wu64 (wi64 (0 - i0)))))] fun v5 => asStr v5 fun s6 => grd (Nat.ble (1 + s6.size) 9223372036854775807) (.ret .ret [(.string ((bs [45]) ++ s6))]))) else (bif (decide (i0 < 10)) then (.act (bdSl 1 1 [(.int .u8 (wu8 (wi64 (48 + i0))))]) fun v7 => asSlice v7 fun p8 n9 n10 => .act (bytesToStringAct (.slice p8 n9 n10)) fun v11 => asStr v11 fun s12 => .ret .ret [(.string s12)]) else (.call 12 [(.int .i64 (wi64 (Int.tdiv i0 10)))] fun v13 => asStr v13 fun s14 => .call 12 [(.int .i64 (Int.tmod i0 10))] fun v15 => asStr v15 fun s16 => grd (Nat.ble (s14.size + s16.size) 9223372036854775807) (.ret .ret [(.string (s14 ++ s16))])))
theorem T12_eq (i0 : Int) : progOf PROG false 12 [(.int .i64 i0)] = T12 i0 := by kernel_rfl


/-- slices.Clone[[]int64,int64] -/
noncomputable def T14 (p0 : (Option Addr)) (n1 : Nat) (n2 : Nat) : Pg :=
  bif (Option.isNone p0) then (.ret .ret [(.slice none 0 0)]) else (.act (bdSl 1 0 []) fun v3 => asSlice v3 fun p4 n5 n6 => .act (apS 1 8 p4 n5 n6 p0 n1 n2) fun v7 => asSlice v7 fun p8 n9 n10 => .ret .ret [(.slice p8 n9 n10)])
theorem T14_eq (p0 : (Option Addr)) (n1 : Nat) (n2 : Nat) : progOf PROG false 14 [(.slice p0 n1 n2)] = T14 p0 n1 n2 := by kernel_rfl

noncomputable def A3 : List Value → Option Pg
  | [(.slice p0 n1 n2), (.slice p3 n4 n5)] => some (T3 p0 n1 n2 p3 n4 n5)
  | _ => none
theorem A3_ok : ∀ args p, A3 args = some p → progOf PROG false 3 args = p := by
  intro args p h
  unfold A3 at h
  split at h
  · cases h; exact T3_eq _ _ _ _ _ _
  · cases h
noncomputable def A4 : List Value → Option Pg
  | [(.slice p0 n1 n2), (.int .i64 i3), (.int .i64 i4), (.slice p5 n6 n7)] => some (T4 p0 n1 n2 i3 i4 p5 n6 n7)
  | _ => none
theorem A4_ok : ∀ args p, A4 args = some p → progOf PROG false 4 args = p := by
  intro args p h
  unfold A4 at h
  split at h
  · cases h; exact T4_eq _ _ _ _ _ _ _ _
  · cases h
noncomputable def A5 : List Value → Option Pg
  | [] => some (T5)
  | _ => none
theorem A5_ok : ∀ args p, A5 args = some p → progOf PROG false 5 args = p := by
  intro args p h
  unfold A5 at h
  split at h
  · cases h; exact T5_eq 
  · cases h
noncomputable def A6 : List Value → Option Pg
  | [(.slice p0 n1 n2)] => some (T6 p0 n1 n2)
  | _ => none
theorem A6_ok : ∀ args p, A6 args = some p → progOf PROG false 6 args = p := by
  intro args p h
  unfold A6 at h
  split at h
  · cases h; exact T6_eq _ _ _
  · cases h
noncomputable def A7 : List Value → Option Pg
  | [(.pointer p0)] => some (T7 p0)
  | _ => none
theorem A7_ok : ∀ args p, A7 args = some p → progOf PROG false 7 args = p := by
  intro args p h
  unfold A7 at h
  split at h
  · cases h; exact T7_eq _
  · cases h
noncomputable def A8 : List Value → Option Pg
  | [(.pointer p0), (.int .i64 i1)] => some (T8 p0 i1)
  | _ => none
theorem A8_ok : ∀ args p, A8 args = some p → progOf PROG false 8 args = p := by
  intro args p h
  unfold A8 at h
  split at h
  · cases h; exact T8_eq _ _
  · cases h
noncomputable def A9 : List Value → Option Pg
  | [(.pointer p0), (.int .i64 i1), (.int .i64 i2)] => some (T9 p0 i1 i2)
  | _ => none
theorem A9_ok : ∀ args p, A9 args = some p → progOf PROG false 9 args = p := by
  intro args p h
  unfold A9 at h
  split at h
  · cases h; exact T9_eq _ _ _
  · cases h
noncomputable def A10 : List Value → Option Pg
  | [(.pointer p0)] => some (T10 p0)
  | _ => none
theorem A10_ok : ∀ args p, A10 args = some p → progOf PROG false 10 args = p := by
  intro args p h
  unfold A10 at h
  split at h
  · cases h; exact T10_eq _
  · cases h
noncomputable def A11 : List Value → Option Pg
  | [(.pointer p0)] => some (T11 p0)
  | _ => none
theorem A11_ok : ∀ args p, A11 args = some p → progOf PROG false 11 args = p := by
  intro args p h
  unfold A11 at h
  split at h
  · cases h; exact T11_eq _
  · cases h
noncomputable def A12 : List Value → Option Pg
  | [(.int .i64 i0)] => some (T12 i0)
  | _ => none
theorem A12_ok : ∀ args p, A12 args = some p → progOf PROG false 12 args = p := by
  intro args p h
  unfold A12 at h
  split at h
  · cases h; exact T12_eq _
  · cases h
noncomputable def A14 : List Value → Option Pg
  | [(.slice p0 n1 n2)] => some (T14 p0 n1 n2)
  | _ => none
theorem A14_ok : ∀ args p, A14 args = some p → progOf PROG false 14 args = p := by
  intro args p h
  unfold A14 at h
  split at h
  · cases h; exact T14_eq _ _ _
  · cases h
noncomputable def TAB : Tab := (.low 7 (.low 4 (.one 3 A3 (.one 4 A4 .nil)) (.one 5 A5 (.one 6 A6 (.one 7 A7 .nil)))) (.low 10 (.one 8 A8 (.one 9 A9 (.one 10 A10 .nil))) (.one 11 A11 (.one 12 A12 (.one 14 A14 .nil)))))
theorem TAB_ok : TabOK PROG TAB := (.low (.low (.one A3_ok (.one A4_ok .nil)) (.one A5_ok (.one A6_ok (.one A7_ok .nil)))) (.low (.one A8_ok (.one A9_ok (.one A10_ok .nil))) (.one A11_ok (.one A12_ok (.one A14_ok .nil)))))

end Go.Pg
