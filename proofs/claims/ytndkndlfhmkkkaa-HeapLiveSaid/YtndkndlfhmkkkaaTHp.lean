/- The trees of the functions that the laws reach, written out by program; each is shown to be the function's own; then their table. -/
import Derived.Test.YtndkndlfhmkkkaaProg
import Derived.KernelRfl
import Derived.Test.YtndkndlfhmkkkaaPg3
namespace Go.Pg
open Go.Proofs
set_option linter.unusedVariables false
noncomputable abbrev PROG : Program := Try.prog
noncomputable def T3k0 (i19 : Int) : Ex → List Value → Pg :=
  fun e25 l26 => sw e25 .normal (asNil l26 (.ret .normal [(.int .i64 (wi64 (i19 + 1)))])) (.fail)

noncomputable def T3b0 (i1 : Int) (p13 : (Option Addr)) (n14 : Nat) : List Value → Pg :=
  fun l16 => asCons l16 fun v17 l18 => asInt .i64 v17 fun i19 => asNil l18 (bif (decide (i19 < i1)) then (.join (.call 11 [(.int .i64 i19)] fun v20 => asInt .u64 v20 fun i21 => asSome p13 fun a22 => grd ((decide (0 ≤ i19)) && (decide (i19 < ((n14 : Nat) : Int)))) (.act (stC (aadd a22 ((Int.toNat i19) * 1)) [(.int .u64 i21)]) fun v23 => asTuple v23 fun l24 => asNil l24 (.ret .normal []))) (T3k0 i19)) else (.ret (.exit 0) [(.int .i64 i19)]))

noncomputable def T3k1 : Ex → List Value → Pg :=
  fun e51 l52 => sw e51 (.exit 4) (asCons l52 fun v53 l54 => asInt .i64 v53 fun i55 => asNil l54 (.ret (.exit 4) [(.int .i64 i55)])) (sw e51 .normal (asCons l52 fun v56 l57 => asInt .i64 v56 fun i58 => asNil l57 (.ret .normal [(.int .i64 i58)])) (.fail))

noncomputable def T3b1 (i0 : Int) (p8 : (Option Addr)) (p13 : (Option Addr)) (n14 : Nat) (n15 : Nat) : List Value → Pg :=
  fun l39 => asCons l39 fun v40 l41 => asInt .i64 v40 fun i42 => asNil l41 (bif (decide (i42 ≤ i0)) then (.join (.call 12 [(.pointer p8), (.int .i64 2), (.int .i64 3), (.slice p13 n14 n15)] fun v43 => asTuple v43 fun l44 => asCons l44 fun v45 l46 => asInt .u64 v45 fun i47 => asCons l46 fun v48 l49 => asInt .i64 v48 fun i50 => asNil l49 (bif (i50 != 0) then (.ret (.exit 4) [(.int .i64 i42)]) else (.ret .normal [(.int .i64 (wi64 (i42 + 1)))]))) (T3k1)) else (.ret (.exit 4) [(.int .i64 i42)]))

noncomputable def T3k2 (p8 : (Option Addr)) (b38 : Bool) : Ex → List Value → Pg :=
  fun e66 l67 => sw e66 .normal (asCons l67 fun v68 l69 => asBool v68 fun b70 => asNil l69 (bif b70 then (.ret .ret [(.bool false)]) else (.call 14 [(.pointer p8), (.slice none 0 0)] fun v71 => asSlice v71 fun p72 n73 n74 => .ret .normal [(.bool b38)]))) (.fail)

noncomputable def T3k3 (i1 : Int) (i0 : Int) (p8 : (Option Addr)) (b38 : Bool) : Ex → List Value → Pg :=
  fun e59 l60 => sw e59 (.exit 4) (asCons l60 fun v61 l62 => asInt .i64 v61 fun i63 => asNil l62 (.join (grd (!(decide ((wi64 (i1 + 1)) = 0))) (bif (i63 != (wi64 (Int.tdiv i0 (wi64 (i1 + 1))))) == false then (.call 13 [(.pointer p8)] fun v64 => asInt .i64 v64 fun i65 => .ret .normal [(.bool (i65 != (wi64 (i63 * (wi64 (i1 + 1))))))]) else (.ret .normal [(.bool true)]))) (T3k2 p8 b38))) (.fail)

noncomputable def T3k4 (i35 : Int) : Ex → List Value → Pg :=
  fun e75 l76 => sw e75 .ret (asCons l76 fun v77 l78 => asBool v77 fun b79 => asNil l78 (.ret .ret [(.int .i64 i35), (.bool b79)])) (sw e75 .normal (asCons l76 fun v80 l81 => asBool v80 fun b82 => asNil l81 (.ret .normal [(.int .i64 (wi64 (i35 + 1))), (.bool b82)])) (.fail))

noncomputable def T3b2 (i0 : Int) (p8 : (Option Addr)) (p13 : (Option Addr)) (n14 : Nat) (n15 : Nat) (i1 : Int) : List Value → Pg :=
  fun l32 => asCons l32 fun v33 l34 => asInt .i64 v33 fun i35 => asCons l34 fun v36 l37 => asBool v36 fun b38 => asNil l37 (bif (decide (i35 < 2)) then (.join (.loop [(.int .i64 0)] (T3b1 i0 p8 p13 n14 n15) (T3k3 i1 i0 p8 b38)) (T3k4 i35)) else (.ret (.exit 2) [(.int .i64 i35), (.bool b38)]))

noncomputable def T3k5 (p8 : (Option Addr)) : Ex → List Value → Pg :=
  fun e83 l84 => sw e83 (.exit 2) (asCons l84 fun v85 l86 => asInt .i64 v85 fun i87 => asCons l86 fun v88 l89 => asBool v88 fun b90 => asNil l89 (.call 13 [(.pointer p8)] fun v91 => asInt .i64 v91 fun i92 => .ret .ret [(.bool (i92 == 0))])) (sw e83 .ret (asCons l84 fun v93 l94 => asInt .i64 v93 fun i95 => asCons l94 fun v96 l97 => asBool v96 fun b98 => asNil l97 (.ret .ret [(.bool b98)])) (.fail))

noncomputable def T3k6 (i0 : Int) (p8 : (Option Addr)) (p13 : (Option Addr)) (n14 : Nat) (n15 : Nat) (i1 : Int) : Ex → List Value → Pg :=
  fun e27 l28 => sw e27 (.exit 0) (asCons l28 fun v29 l30 => asInt .i64 v29 fun i31 => asNil l30 (.loop [(.int .i64 0), (.bool false)] (T3b2 i0 p8 p13 n14 n15 i1) (T3k5 p8))) (.fail)

/-- hindsight/hindsightlaw12.HeapRoom -/
noncomputable def T3 (i0 : Int) (i1 : Int) : Pg :=
  .call 9 [] fun v2 => asBool v2 fun b3 => bif (!b3) then (.ret .ret [(.bool false)]) else (bif ((((decide (i0 < 16)) || (decide (i0 > 2000))) || (decide (i1 < 0))) || (decide (i1 > 50))) then (.ret .ret [(.bool true)]) else (.call 10 [(.int .i64 i0)] fun v4 => asTuple v4 fun l5 => asCons l5 fun v6 l7 => asPtr v6 fun p8 => asCons l7 fun v9 l10 => asInt .i64 v9 fun i11 => asNil l10 (.act (mkSl 1 8 [(.int .u64 0)] i1 i1) fun v12 => asSlice v12 fun p13 n14 n15 => .loop [(.int .i64 0)] (T3b0 i1 p13 n14) (T3k6 i0 p8 p13 n14 n15 i1))))
theorem T3_eq (i0 : Int) (i1 : Int) : progOf PROG false 3 [(.int .i64 i0), (.int .i64 i1)] = T3 i0 i1 := by kernel_rfl


noncomputable def T4k0 : Ex → List Value → Pg :=
  fun e151 l152 => sw e151 .normal (asCons l152 fun v153 l154 => asBool v153 fun b155 => asNil l154 (.ret .normal [(.bool b155)])) (.fail)

noncomputable def T4k1 : Ex → List Value → Pg :=
  fun e156 l157 => sw e156 .normal (asCons l157 fun v158 l159 => asBool v158 fun b160 => asNil l159 (.ret .normal [(.bool b160)])) (.fail)

noncomputable def T4k2 (b30 : Bool) : Ex → List Value → Pg :=
  fun e235 l236 => sw e235 .normal (asCons l236 fun v237 l238 => asBool v237 fun b239 => asNil l238 (bif b239 then (.ret .ret [(.bool false)]) else (.ret .normal [(.bool b30)]))) (.fail)

noncomputable def T4k3 (p12 : (Option Addr)) (i4 : Int) (i5 : Int) (a23 : Addr) (b30 : Bool) : Ex → List Value → Pg :=
  fun e161 l162 => sw e161 .normal (asCons l162 fun v163 l164 => asBool v163 fun b165 => asNil l164 (.call 22 [(.pointer p12), (.int .u64 i4), (.int .i64 i5)] fun v166 => asTuple v166 fun l167 => asCons l167 fun v168 l169 => asInt .u64 v168 fun i170 => asCons l169 fun v171 l172 => asInt .i64 v171 fun i173 => asNil l172 (.call 23 [(.pointer (some a23)), (.int .u64 i4), (.int .i64 i5)] fun v174 => asTuple v174 fun l175 => asCons l175 fun v176 l177 => asInt .u64 v176 fun i178 => asCons l177 fun v179 l180 => asInt .i64 v179 fun i181 => asNil l180 (.call 24 [(.pointer p12), (.int .u64 i4)] fun v182 => asTuple v182 fun l183 => asCons l183 fun v184 l185 => asInt .i64 v184 fun i186 => asCons l185 fun v187 l188 => asInt .i64 v187 fun i189 => asCons l188 fun v190 l191 => asInt .i64 v190 fun i192 => asCons l191 fun v193 l194 => asInt .i64 v193 fun i195 => asNil l194 (.call 25 [(.pointer (some a23)), (.int .u64 i4)] fun v196 => asTuple v196 fun l197 => asCons l197 fun v198 l199 => asInt .i64 v198 fun i200 => asCons l199 fun v201 l202 => asInt .i64 v201 fun i203 => asCons l202 fun v204 l205 => asInt .i64 v204 fun i206 => asCons l205 fun v207 l208 => asInt .i64 v207 fun i209 => asNil l208 (.join (bif (!b165) == false then (bif (i170 != i178) == false then (bif (i173 != i181) == false then (bif (i186 != i200) == false then (bif (i189 != i203) == false then (bif (i192 != i206) == false then (bif (i195 != i209) == false then (.get fun h211 => .call 13 [(.pointer p12)] fun v210 => asInt .i64 v210 fun i212 => .act (ld1 (aadd a23 1)) fun v213 => grd (past (ld1 (aadd a23 1)) v213 [h211]) (asSlice v213 fun p214 n215 n216 => bif (i212 != ((n215 : Nat) : Int)) == false then (.get fun h218 => .call 26 [(.pointer p12)] fun v217 => asInt .i64 v217 fun i219 => .act (ld1 (aadd a23 2)) fun v220 => grd (past (ld1 (aadd a23 2)) v220 [h218]) (asInt .i64 v220 fun i221 => bif (i219 != i221) == false then (.call 27 [(.pointer p12)] fun v222 => asSlice v222 fun p223 n224 n225 => .act (bytesToStringAct (.slice p223 n224 n225)) fun v226 => asStr v226 fun s227 => .call 28 [(.pointer (some a23))] fun v228 => asSlice v228 fun p229 n230 n231 => .get fun h234 => grd (chks [((bytesToStringAct (.slice p223 n224 n225)), v226)] h234) (.act (bytesToStringAct (.slice p229 n230 n231)) fun v232 => asStr v232 fun s233 => .ret .normal [(.bool (!(s227.toList == s233.toList)))])) else (.ret .normal [(.bool true)]))) else (.ret .normal [(.bool true)]))) else (.ret .normal [(.bool true)])) else (.ret .normal [(.bool true)])) else (.ret .normal [(.bool true)])) else (.ret .normal [(.bool true)])) else (.ret .normal [(.bool true)])) else (.ret .normal [(.bool true)])) else (.ret .normal [(.bool true)])) (T4k2 b30))))))) (.fail)

noncomputable def T4k4 (i27 : Int) : Ex → List Value → Pg :=
  fun e240 l241 => sw e240 .ret (asCons l241 fun v242 l243 => asBool v242 fun b244 => asNil l243 (.ret .ret [(.int .i64 i27), (.bool b244)])) (sw e240 .normal (asCons l241 fun v245 l246 => asBool v245 fun b247 => asNil l246 (.ret .normal [(.int .i64 (wi64 (i27 + 1))), (.bool b247)])) (.fail))

noncomputable def T4b0 (n2 : Nat) (p1 : (Option Addr)) (p12 : (Option Addr)) (a23 : Addr) (i4 : Int) (i5 : Int) : List Value → Pg :=
  fun l24 => asCons l24 fun v25 l26 => asInt .i64 v25 fun i27 => asCons l26 fun v28 l29 => asBool v28 fun b30 => asNil l29 (bif (decide (i27 < ((n2 : Nat) : Int))) then (.join (asSome p1 fun a31 => grd ((decide (0 ≤ i27)) && (decide (i27 < ((n2 : Nat) : Int)))) (.act (ldN 7 (aadd a31 ((Int.toNat i27) * 7))) fun v32 => asAgg v32 fun l33 => asCons l33 fun v34 l35 => asInt .i64 v34 fun i36 => asCons l35 fun v37 l38 => asInt .i64 v37 fun i39 => asCons l38 fun v40 l41 => asInt .i64 v40 fun i42 => asCons l41 fun v43 l44 => asInt .i64 v43 fun i45 => asCons l44 fun v46 l47 => asInt .u64 v46 fun i48 => asCons l47 fun v49 l50 => asInt .u64 v49 fun i51 => asCons l50 fun v52 l53 => asSlice v52 fun p54 n55 n56 => asNil l53 (.act (newC [(.int .i64 0), (.int .i64 0), (.int .i64 0), (.int .i64 0), (.int .u64 0), (.int .u64 0), (.slice none 0 0)]) fun v57 => asPtr v57 fun p58 => asSome p58 fun a59 => .act (stC a59 [(.int .i64 i36), (.int .i64 i39), (.int .i64 i42), (.int .i64 i45), (.int .u64 i48), (.int .u64 i51), (.slice p54 n55 n56)]) fun v60 => asTuple v60 fun l61 => asNil l61 (.act (ld1 (aadd a59 6)) fun v62 => asSlice v62 fun p63 n64 n65 => bif (decide (((n64 : Nat) : Int) > 20)) then (.ret .ret [(.bool true)]) else (.act (ld1 (aadd a59 0)) fun v66 => asInt .i64 v66 fun i67 => .join (.join (bif (i67 == 0) then (.act (ld1 (aadd a59 1)) fun v68 => asInt .i64 v68 fun i69 => .act (ld1 (aadd a59 2)) fun v70 => asInt .i64 v70 fun i71 => .act (ld1 (aadd a59 6)) fun v72 => asSlice v72 fun p73 n74 n75 => .call 15 [(.slice p73 n74 n75)] fun v76 => asSlice v76 fun p77 n78 n79 => .get fun h104 => grd (chks [((ld1 (aadd a59 2)), v70), ((ld1 (aadd a59 1)), v68)] h104) (.call 12 [(.pointer p12), (.int .i64 i69), (.int .i64 i71), (.slice p77 n78 n79)] fun v80 => asTuple v80 fun l81 => asCons l81 fun v82 l83 => asInt .u64 v82 fun i84 => asCons l83 fun v85 l86 => asInt .i64 v85 fun i87 => asNil l86 (.act (ld1 (aadd a59 1)) fun v88 => asInt .i64 v88 fun i89 => .act (ld1 (aadd a59 2)) fun v90 => asInt .i64 v90 fun i91 => .act (ld1 (aadd a59 6)) fun v92 => asSlice v92 fun p93 n94 n95 => .call 16 [(.pointer (some a23)), (.int .i64 i89), (.int .i64 i91), (.slice p93 n94 n95)] fun v96 => asTuple v96 fun l97 => asCons l97 fun v98 l99 => asInt .u64 v98 fun i100 => asCons l99 fun v101 l102 => asInt .i64 v101 fun i103 => asNil l102 (.ret .normal [(.bool ((i84 == i100) && (i87 == i103)))])))) else (.join (bif (i67 == 1) then (.act (ld1 (aadd a59 4)) fun v105 => asInt .u64 v105 fun i106 => .act (ld1 (aadd a59 3)) fun v107 => asInt .i64 v107 fun i108 => .act (ld1 (aadd a59 5)) fun v109 => asInt .u64 v109 fun i110 => .get fun h112 => .call 17 [(.pointer p12), (.int .u64 i106), (.int .i64 i108), (.int .u64 i110)] fun v111 => asInt .i64 v111 fun i113 => .act (ld1 (aadd a59 4)) fun v114 => grd (past (ld1 (aadd a59 4)) v114 [h112]) (asInt .u64 v114 fun i115 => .act (ld1 (aadd a59 3)) fun v116 => grd (past (ld1 (aadd a59 3)) v116 [h112]) (asInt .i64 v116 fun i117 => .act (ld1 (aadd a59 5)) fun v118 => grd (past (ld1 (aadd a59 5)) v118 [h112]) (asInt .u64 v118 fun i119 => .call 18 [(.pointer (some a23)), (.int .u64 i115), (.int .i64 i117), (.int .u64 i119)] fun v120 => asInt .i64 v120 fun i121 => .ret .normal [(.bool (i113 == i121))])))) else (.act (ld1 (aadd a59 6)) fun v122 => asSlice v122 fun p123 n124 n125 => .get fun h127 => .call 15 [(.slice p123 n124 n125)] fun v126 => asSlice v126 fun p128 n129 n130 => .get fun h132 => .call 14 [(.pointer p12), (.slice p128 n129 n130)] fun v131 => asSlice v131 fun p133 n134 n135 => .get fun h137 => .call 20 [(.slice p133 n134 n135)] fun v136 => asSlice v136 fun p138 n139 n140 => .act (ld1 (aadd a59 6)) fun v141 => grd (past (ld1 (aadd a59 6)) v141 [h137, h132, h127]) (asSlice v141 fun p142 n143 n144 => .call 21 [(.pointer (some a23)), (.slice p142 n143 n144)] fun v145 => asSlice v145 fun p146 n147 n148 => .call 19 [(.slice p138 n139 n140), (.slice p146 n147 n148)] fun v149 => asBool v149 fun b150 => .ret .normal [(.bool b150)]))) (T4k0))) (T4k1)) (T4k3 p12 i4 i5 a23 b30)))))) (T4k4 i27)) else (.ret (.exit 0) [(.int .i64 i27), (.bool b30)]))

noncomputable def T4k5 : Ex → List Value → Pg :=
  fun e248 l249 => sw e248 (.exit 0) (asCons l249 fun v250 l251 => asInt .i64 v250 fun i252 => asCons l251 fun v253 l254 => asBool v253 fun b255 => asNil l254 (.ret .ret [(.bool true)])) (sw e248 .ret (asCons l249 fun v256 l257 => asInt .i64 v256 fun i258 => asCons l257 fun v259 l260 => asBool v259 fun b261 => asNil l260 (.ret .ret [(.bool b261)])) (.fail))

noncomputable def T4k6 (i15 : Int) (p12 : (Option Addr)) (i0 : Int) (n2 : Nat) (p1 : (Option Addr)) (i4 : Int) (i5 : Int) : Ex → List Value → Pg :=
  fun e16 l17 => sw e16 .normal (asCons l17 fun v18 l19 => asBool v18 fun b20 => asNil l19 (bif b20 then (.ret .ret [(.bool ((i15 == 0) && (!(Option.isNone p12))))]) else (.act (newC [(.int .i64 i0), (.slice none 0 0), (.int .i64 0)]) fun v21 => asPtr v21 fun p22 => asSome p22 fun a23 => .loop [(.int .i64 0), (.bool false)] (T4b0 n2 p1 p12 a23 i4 i5) (T4k5)))) (.fail)

/-- hindsight/hindsightlaw12.HeapPlays -/
noncomputable def T4 (i0 : Int) (p1 : (Option Addr)) (n2 : Nat) (n3 : Nat) (i4 : Int) (i5 : Int) : Pg :=
  .call 9 [] fun v6 => asBool v6 fun b7 => bif (!b7) then (.ret .ret [(.bool false)]) else (.call 10 [(.int .i64 i0)] fun v8 => asTuple v8 fun l9 => asCons l9 fun v10 l11 => asPtr v10 fun p12 => asCons l11 fun v13 l14 => asInt .i64 v13 fun i15 => asNil l14 (bif ((decide (i0 < 16)) || (decide (i0 > 65536))) then (.ret .ret [(.bool ((i15 == 1) && (Option.isNone p12)))]) else (.join (bif ((i15 != 0) || (Option.isNone p12)) == false then (.ret .normal [(.bool (decide (((n2 : Nat) : Int) > 40)))]) else (.ret .normal [(.bool true)])) (T4k6 i15 p12 i0 n2 p1 i4 i5))))
theorem T4_eq (i0 : Int) (p1 : (Option Addr)) (n2 : Nat) (n3 : Nat) (i4 : Int) (i5 : Int) : progOf PROG false 4 [(.int .i64 i0), (.slice p1 n2 n3), (.int .u64 i4), (.int .i64 i5)] = T4 i0 p1 n2 n3 i4 i5 := by kernel_rfl


noncomputable def T5k0 (i87 : Int) : Ex → List Value → Pg :=
  fun e120 l121 => sw e120 .ret (asCons l121 fun v122 l123 => asBool v122 fun b124 => asNil l123 (.ret .ret [(.int .i64 i87), (.bool b124)])) (sw e120 .normal (asCons l121 fun v125 l126 => asBool v125 fun b127 => asNil l126 (.ret .normal [(.int .i64 (wi64 (i87 + 1))), (.bool b127)])) (.fail))

noncomputable def T5b0 (n4 : Nat) (p3 : (Option Addr)) (p80 : (Option Addr)) : List Value → Pg :=
  fun l84 => asCons l84 fun v85 l86 => asInt .i64 v85 fun i87 => asCons l86 fun v88 l89 => asBool v88 fun b90 => asNil l89 (bif (decide (i87 < ((n4 : Nat) : Int))) then (.join (asSome p3 fun a91 => grd ((decide (0 ≤ i87)) && (decide (i87 < ((n4 : Nat) : Int)))) (.act (ld1 (aadd (aadd a91 ((Int.toNat i87) * 7)) 6)) fun v92 => asSlice v92 fun p93 n94 n95 => bif (decide (((n94 : Nat) : Int) > 20)) then (.ret .ret [(.bool true)]) else (asSome p3 fun a96 => grd ((decide (0 ≤ i87)) && (decide (i87 < ((n4 : Nat) : Int)))) (.act (ld1 (aadd (aadd a96 ((Int.toNat i87) * 7)) 1)) fun v97 => asInt .i64 v97 fun i98 => asSome p3 fun a99 => grd ((decide (0 ≤ i87)) && (decide (i87 < ((n4 : Nat) : Int)))) (.act (ld1 (aadd (aadd a99 ((Int.toNat i87) * 7)) 2)) fun v100 => asInt .i64 v100 fun i101 => asSome p3 fun a102 => grd ((decide (0 ≤ i87)) && (decide (i87 < ((n4 : Nat) : Int)))) (.act (ld1 (aadd (aadd a102 ((Int.toNat i87) * 7)) 6)) fun v103 => asSlice v103 fun p104 n105 n106 => .call 15 [(.slice p104 n105 n106)] fun v107 => asSlice v107 fun p108 n109 n110 => .get fun h119 => grd (chks [((ld1 (aadd (aadd a99 ((Int.toNat i87) * 7)) 2)), v100), ((ld1 (aadd (aadd a96 ((Int.toNat i87) * 7)) 1)), v97)] h119) (.call 12 [(.pointer p80), (.int .i64 i98), (.int .i64 i101), (.slice p108 n109 n110)] fun v111 => asTuple v111 fun l112 => asCons l112 fun v113 l114 => asInt .u64 v113 fun i115 => asCons l114 fun v116 l117 => asInt .i64 v116 fun i118 => asNil l117 (.ret .normal [(.bool b90)])))))))) (T5k0 i87)) else (.ret (.exit 0) [(.int .i64 i87), (.bool b90)]))

noncomputable def T5k1 : Ex → List Value → Pg :=
  fun e234 l235 => sw e234 .normal (asCons l235 fun v236 l237 => asBool v236 fun b238 => asNil l237 (.ret .ret [(.bool b238)])) (.fail)

noncomputable def T5k2 (p80 : (Option Addr)) (a17 : Addr) : Ex → List Value → Pg :=
  fun e128 l129 => sw e128 (.exit 0) (asCons l129 fun v130 l131 => asInt .i64 v130 fun i132 => asCons l131 fun v133 l134 => asBool v133 fun b135 => asNil l134 (.call 27 [(.pointer p80)] fun v136 => asSlice v136 fun p137 n138 n139 => .call 29 [(.slice p137 n138 n139)] fun v140 => asTuple v140 fun l141 => asCons l141 fun v142 l143 => asPtr v142 fun p144 => asCons l143 fun v145 l146 => asInt .i64 v145 fun i147 => asNil l146 (bif ((i147 != 0) || (Option.isNone p144)) then (.ret .ret [(.bool false)]) else (.act (ld1 (aadd a17 1)) fun v148 => asInt .i64 v148 fun i149 => .act (ld1 (aadd a17 2)) fun v150 => asInt .i64 v150 fun i151 => .act (ld1 (aadd a17 6)) fun v152 => asSlice v152 fun p153 n154 n155 => .call 15 [(.slice p153 n154 n155)] fun v156 => asSlice v156 fun p157 n158 n159 => .get fun h240 => grd (chks [((ld1 (aadd a17 2)), v150), ((ld1 (aadd a17 1)), v148)] h240) (.call 12 [(.pointer p80), (.int .i64 i149), (.int .i64 i151), (.slice p157 n158 n159)] fun v160 => asTuple v160 fun l161 => asCons l161 fun v162 l163 => asInt .u64 v162 fun i164 => asCons l163 fun v165 l166 => asInt .i64 v165 fun i167 => asNil l166 (.act (ld1 (aadd a17 1)) fun v168 => asInt .i64 v168 fun i169 => .act (ld1 (aadd a17 2)) fun v170 => asInt .i64 v170 fun i171 => .act (ld1 (aadd a17 6)) fun v172 => asSlice v172 fun p173 n174 n175 => .call 15 [(.slice p173 n174 n175)] fun v176 => asSlice v176 fun p177 n178 n179 => .get fun h239 => grd (chks [((ld1 (aadd a17 2)), v170), ((ld1 (aadd a17 1)), v168)] h239) (.call 12 [(.pointer p144), (.int .i64 i169), (.int .i64 i171), (.slice p177 n178 n179)] fun v180 => asTuple v180 fun l181 => asCons l181 fun v182 l183 => asInt .u64 v182 fun i184 => asCons l183 fun v185 l186 => asInt .i64 v185 fun i187 => asNil l186 (.join (.get fun h188 => bif (i164 == i184) == true then (bif (i167 == i187) == true then (.get fun h190 => grd (newN h188.n h190 []) (.act (bdSl 1 1 [(.int .u64 i164)]) fun v189 => asSlice v189 fun p192 n193 n194 => .get fun h191 => .get fun h196 => grd (newN h188.n h196 [h190.n]) (.act (bdSl 1 1 [(.int .u64 i184)]) fun v195 => asSlice v195 fun p198 n199 n200 => .get fun h197 => .call 14 [(.pointer p80), (.slice p192 n193 n194)] fun v201 => asSlice v201 fun p202 n203 n204 => .get fun h233 => grd (chkO [(h196.n, (h197.get h196.n))] h233) (.call 20 [(.slice p202 n203 n204)] fun v205 => asSlice v205 fun p206 n207 n208 => .get fun h232 => grd (chkO [(h196.n, (h197.get h196.n))] h232) (.call 14 [(.pointer p144), (.slice p198 n199 n200)] fun v209 => asSlice v209 fun p210 n211 n212 => .call 20 [(.slice p210 n211 n212)] fun v213 => asSlice v213 fun p214 n215 n216 => .call 19 [(.slice p206 n207 n208), (.slice p214 n215 n216)] fun v217 => asBool v217 fun b218 => bif b218 == true then (.call 27 [(.pointer p80)] fun v219 => asSlice v219 fun p220 n221 n222 => .act (bytesToStringAct (.slice p220 n221 n222)) fun v223 => asStr v223 fun s224 => .call 27 [(.pointer p144)] fun v225 => asSlice v225 fun p226 n227 n228 => .get fun h231 => grd (chks [((bytesToStringAct (.slice p220 n221 n222)), v223)] h231) (.act (bytesToStringAct (.slice p226 n227 n228)) fun v229 => asStr v229 fun s230 => .ret .normal [(.bool (s224.toList == s230.toList))])) else (.ret .normal [(.bool false)])))))) else (.ret .normal [(.bool false)])) else (.ret .normal [(.bool false)])) (T5k1))))))))) (sw e128 .ret (asCons l129 fun v241 l242 => asInt .i64 v241 fun i243 => asCons l242 fun v244 l245 => asBool v244 fun b246 => asNil l245 (.ret .ret [(.bool b246)])) (.fail))

noncomputable def T5k3 (n4 : Nat) (p3 : (Option Addr)) (a17 : Addr) : Ex → List Value → Pg :=
  fun e71 l72 => sw e71 .normal (asCons l72 fun v73 l74 => asBool v73 fun b75 => asNil l74 (bif b75 then (.ret .ret [(.bool false)]) else (.call 10 [(.int .i64 200)] fun v76 => asTuple v76 fun l77 => asCons l77 fun v78 l79 => asPtr v78 fun p80 => asCons l79 fun v81 l82 => asInt .i64 v81 fun i83 => asNil l82 (.loop [(.int .i64 0), (.bool false)] (T5b0 n4 p3 p80) (T5k2 p80 a17))))) (.fail)

noncomputable def T5k4 (p0 : (Option Addr)) (n1 : Nat) (n2 : Nat) (n4 : Nat) (p3 : (Option Addr)) (a17 : Addr) : Ex → List Value → Pg :=
  fun e24 l25 => sw e24 .normal (asCons l25 fun v26 l27 => asBool v26 fun b28 => asNil l27 (bif b28 then (.ret .ret [(.bool true)]) else (.call 29 [(.slice p0 n1 n2)] fun v29 => asTuple v29 fun l30 => asCons l30 fun v31 l32 => asPtr v31 fun p33 => asCons l32 fun v34 l35 => asInt .i64 v34 fun i36 => asNil l35 (.call 30 [(.slice p0 n1 n2)] fun v37 => asTuple v37 fun l38 => asCons l38 fun v39 l40 => asPtr v39 fun p41 => asCons l40 fun v42 l43 => asBool v42 fun b44 => asNil l43 (.join (bif (!((i36 == 0) == b44)) == false then (bif (!b44) == true then (bif (i36 != 3) == false then (bif (!(Option.isNone p33)) == false then (bif b44 == true then (bif (Option.isNone p33) == false then (.call 27 [(.pointer p33)] fun v45 => asSlice v45 fun p46 n47 n48 => .act (bytesToStringAct (.slice p46 n47 n48)) fun v49 => asStr v49 fun s50 => .call 28 [(.pointer p41)] fun v51 => asSlice v51 fun p52 n53 n54 => .get fun h57 => grd (chks [((bytesToStringAct (.slice p46 n47 n48)), v49)] h57) (.act (bytesToStringAct (.slice p52 n53 n54)) fun v55 => asStr v55 fun s56 => .ret .normal [(.bool (!(s50.toList == s56.toList)))])) else (.ret .normal [(.bool true)])) else (.ret .normal [(.bool false)])) else (.ret .normal [(.bool true)])) else (.ret .normal [(.bool true)])) else (bif b44 == true then (bif (Option.isNone p33) == false then (.call 27 [(.pointer p33)] fun v58 => asSlice v58 fun p59 n60 n61 => .act (bytesToStringAct (.slice p59 n60 n61)) fun v62 => asStr v62 fun s63 => .call 28 [(.pointer p41)] fun v64 => asSlice v64 fun p65 n66 n67 => .get fun h70 => grd (chks [((bytesToStringAct (.slice p59 n60 n61)), v62)] h70) (.act (bytesToStringAct (.slice p65 n66 n67)) fun v68 => asStr v68 fun s69 => .ret .normal [(.bool (!(s63.toList == s69.toList)))])) else (.ret .normal [(.bool true)])) else (.ret .normal [(.bool false)]))) else (.ret .normal [(.bool true)])) (T5k3 n4 p3 a17)))))) (.fail)

/-- hindsight/hindsightlaw12.HeapBytes -/
noncomputable def T5 (p0 : (Option Addr)) (n1 : Nat) (n2 : Nat) (p3 : (Option Addr)) (n4 : Nat) (n5 : Nat) (i6 : Int) (i7 : Int) (i8 : Int) (i9 : Int) (i10 : Int) (i11 : Int) (p12 : (Option Addr)) (n13 : Nat) (n14 : Nat) : Pg :=
  .act (newC [(.int .i64 i6), (.int .i64 i7), (.int .i64 i8), (.int .i64 i9), (.int .u64 i10), (.int .u64 i11), (.slice p12 n13 n14)]) fun v15 => asPtr v15 fun p16 => asSome p16 fun a17 => .call 9 [] fun v18 => asBool v18 fun b19 => bif (!b19) then (.ret .ret [(.bool false)]) else (.join (bif (decide (((n1 : Nat) : Int) > 600)) == false then (bif (decide (((n4 : Nat) : Int) > 20)) == false then (.act (ld1 (aadd a17 6)) fun v20 => asSlice v20 fun p21 n22 n23 => .ret .normal [(.bool (decide (((n22 : Nat) : Int) > 20)))]) else (.ret .normal [(.bool true)])) else (.ret .normal [(.bool true)])) (T5k4 p0 n1 n2 n4 p3 a17))
theorem T5_eq (p0 : (Option Addr)) (n1 : Nat) (n2 : Nat) (p3 : (Option Addr)) (n4 : Nat) (n5 : Nat) (i6 : Int) (i7 : Int) (i8 : Int) (i9 : Int) (i10 : Int) (i11 : Int) (p12 : (Option Addr)) (n13 : Nat) (n14 : Nat) : progOf PROG false 5 [(.slice p0 n1 n2), (.slice p3 n4 n5), (.agg #[(.int .i64 i6), (.int .i64 i7), (.int .i64 i8), (.int .i64 i9), (.int .u64 i10), (.int .u64 i11), (.slice p12 n13 n14)])] = T5 p0 n1 n2 p3 n4 n5 i6 i7 i8 i9 i10 i11 p12 n13 n14 := by kernel_rfl


noncomputable def T6k0 (i16 : Int) : Ex → List Value → Pg :=
  fun e49 l50 => sw e49 .ret (asCons l50 fun v51 l52 => asBool v51 fun b53 => asNil l52 (.ret .ret [(.int .i64 i16), (.bool b53)])) (sw e49 .normal (asCons l50 fun v54 l55 => asBool v54 fun b56 => asNil l55 (.ret .normal [(.int .i64 (wi64 (i16 + 1))), (.bool b56)])) (.fail))

noncomputable def T6b0 (n1 : Nat) (p0 : (Option Addr)) (p9 : (Option Addr)) : List Value → Pg :=
  fun l13 => asCons l13 fun v14 l15 => asInt .i64 v14 fun i16 => asCons l15 fun v17 l18 => asBool v17 fun b19 => asNil l18 (bif (decide (i16 < ((n1 : Nat) : Int))) then (.join (asSome p0 fun a20 => grd ((decide (0 ≤ i16)) && (decide (i16 < ((n1 : Nat) : Int)))) (.act (ld1 (aadd (aadd a20 ((Int.toNat i16) * 7)) 6)) fun v21 => asSlice v21 fun p22 n23 n24 => bif (decide (((n23 : Nat) : Int) > 10)) then (.ret .ret [(.bool true)]) else (asSome p0 fun a25 => grd ((decide (0 ≤ i16)) && (decide (i16 < ((n1 : Nat) : Int)))) (.act (ld1 (aadd (aadd a25 ((Int.toNat i16) * 7)) 1)) fun v26 => asInt .i64 v26 fun i27 => asSome p0 fun a28 => grd ((decide (0 ≤ i16)) && (decide (i16 < ((n1 : Nat) : Int)))) (.act (ld1 (aadd (aadd a28 ((Int.toNat i16) * 7)) 2)) fun v29 => asInt .i64 v29 fun i30 => asSome p0 fun a31 => grd ((decide (0 ≤ i16)) && (decide (i16 < ((n1 : Nat) : Int)))) (.act (ld1 (aadd (aadd a31 ((Int.toNat i16) * 7)) 6)) fun v32 => asSlice v32 fun p33 n34 n35 => .call 15 [(.slice p33 n34 n35)] fun v36 => asSlice v36 fun p37 n38 n39 => .get fun h48 => grd (chks [((ld1 (aadd (aadd a28 ((Int.toNat i16) * 7)) 2)), v29), ((ld1 (aadd (aadd a25 ((Int.toNat i16) * 7)) 1)), v26)] h48) (.call 12 [(.pointer p9), (.int .i64 i27), (.int .i64 i30), (.slice p37 n38 n39)] fun v40 => asTuple v40 fun l41 => asCons l41 fun v42 l43 => asInt .u64 v42 fun i44 => asCons l43 fun v45 l46 => asInt .i64 v45 fun i47 => asNil l46 (.ret .normal [(.bool b19)])))))))) (T6k0 i16)) else (.ret (.exit 0) [(.int .i64 i16), (.bool b19)]))

noncomputable def T6k1 (i82 : Int) : Ex → List Value → Pg :=
  fun e89 l90 => sw e89 .normal (asNil l90 (.ret .normal [(.int .i64 (wi64 (i82 + 1)))])) (.fail)

noncomputable def T6b1 (n67 : Nat) (p66 : (Option Addr)) : List Value → Pg :=
  fun l79 => asCons l79 fun v80 l81 => asInt .i64 v80 fun i82 => asNil l81 (bif (decide (i82 < ((n67 : Nat) : Int))) then (.join (asSome p66 fun a83 => grd ((decide (0 ≤ i82)) && (decide (i82 < ((n67 : Nat) : Int)))) (.act (ld1 (aadd a83 ((Int.toNat i82) * 1))) fun v84 => asInt .u8 v84 fun i85 => asSome p66 fun a86 => grd ((decide (0 ≤ i82)) && (decide (i82 < ((n67 : Nat) : Int)))) (.act (stC (aadd a86 ((Int.toNat i82) * 1)) [(.int .u8 (wu8 (i85 + 1)))]) fun v87 => asTuple v87 fun l88 => asNil l88 (.ret .normal [])))) (T6k1 i82)) else (.ret (.exit 2) [(.int .i64 i82)]))

noncomputable def T6k2 : Ex → List Value → Pg :=
  fun e120 l121 => sw e120 .normal (asCons l121 fun v122 l123 => asBool v122 fun b124 => asNil l123 (.ret .ret [(.bool b124)])) (.fail)

noncomputable def T6k3 (p75 : (Option Addr)) (p9 : (Option Addr)) (s70 : ByteArray) : Ex → List Value → Pg :=
  fun e91 l92 => sw e91 (.exit 2) (asCons l92 fun v93 l94 => asInt .i64 v93 fun i95 => asNil l94 (.call 11 [(.int .i64 5)] fun v96 => asInt .u64 v96 fun i97 => .act (bdSl 1 1 [(.int .u64 i97)]) fun v98 => asSlice v98 fun p99 n100 n101 => .call 12 [(.pointer p75), (.int .i64 1), (.int .i64 1), (.slice p99 n100 n101)] fun v102 => asTuple v102 fun l103 => asCons l103 fun v104 l105 => asInt .u64 v104 fun i106 => asCons l105 fun v107 l108 => asInt .i64 v107 fun i109 => asNil l108 (.join (.call 27 [(.pointer p9)] fun v110 => asSlice v110 fun p111 n112 n113 => .act (bytesToStringAct (.slice p111 n112 n113)) fun v114 => asStr v114 fun s115 => bif ((s115.toList == s70.toList) && ((i109 == 0) || (i109 == 8))) == true then (bif (i109 != 0) == false then (.call 13 [(.pointer p75)] fun v116 => asInt .i64 v116 fun i117 => .call 13 [(.pointer p9)] fun v118 => asInt .i64 v118 fun i119 => .ret .normal [(.bool (i117 == (wi64 (i119 + 2))))]) else (.ret .normal [(.bool true)])) else (.ret .normal [(.bool false)])) (T6k2)))) (.fail)

noncomputable def T6k4 (p9 : (Option Addr)) : Ex → List Value → Pg :=
  fun e57 l58 => sw e57 (.exit 0) (asCons l58 fun v59 l60 => asInt .i64 v59 fun i61 => asCons l60 fun v62 l63 => asBool v62 fun b64 => asNil l63 (.call 27 [(.pointer p9)] fun v65 => asSlice v65 fun p66 n67 n68 => .act (bytesToStringAct (.slice p66 n67 n68)) fun v69 => asStr v69 fun s70 => .call 29 [(.slice p66 n67 n68)] fun v71 => asTuple v71 fun l72 => asCons l72 fun v73 l74 => asPtr v73 fun p75 => asCons l74 fun v76 l77 => asInt .i64 v76 fun i78 => asNil l77 (bif ((i78 != 0) || (Option.isNone p75)) then (.ret .ret [(.bool false)]) else (.loop [(.int .i64 0)] (T6b1 n67 p66) (T6k3 p75 p9 s70))))) (sw e57 .ret (asCons l58 fun v125 l126 => asInt .i64 v125 fun i127 => asCons l126 fun v128 l129 => asBool v128 fun b130 => asNil l129 (.ret .ret [(.bool b130)])) (.fail))

/-- hindsight/hindsightlaw12.HeapOwn -/
noncomputable def T6 (p0 : (Option Addr)) (n1 : Nat) (n2 : Nat) : Pg :=
  .call 9 [] fun v3 => asBool v3 fun b4 => bif (!b4) then (.ret .ret [(.bool false)]) else (bif (decide (((n1 : Nat) : Int) > 20)) then (.ret .ret [(.bool true)]) else (.call 10 [(.int .i64 500)] fun v5 => asTuple v5 fun l6 => asCons l6 fun v7 l8 => asPtr v7 fun p9 => asCons l8 fun v10 l11 => asInt .i64 v10 fun i12 => asNil l11 (.loop [(.int .i64 0), (.bool false)] (T6b0 n1 p0 p9) (T6k4 p9))))
theorem T6_eq (p0 : (Option Addr)) (n1 : Nat) (n2 : Nat) : progOf PROG false 6 [(.slice p0 n1 n2)] = T6 p0 n1 n2 := by kernel_rfl


noncomputable def T7k0 (b27 : Bool) : Ex → List Value → Pg :=
  fun e71 l72 => sw e71 .normal (asNil l72 (.ret .normal [(.bool b27)])) (.fail)

noncomputable def T7k1 (i24 : Int) : Ex → List Value → Pg :=
  fun e73 l74 => sw e73 .ret (asCons l74 fun v75 l76 => asBool v75 fun b77 => asNil l76 (.ret .ret [(.int .i64 i24), (.bool b77)])) (sw e73 .normal (asCons l74 fun v78 l79 => asBool v78 fun b80 => asNil l79 (.ret .normal [(.int .i64 (wi64 (i24 + 1))), (.bool b80)])) (.fail))

noncomputable def T7b0 (n1 : Nat) (p0 : (Option Addr)) (p17 : (Option Addr)) : List Value → Pg :=
  fun l21 => asCons l21 fun v22 l23 => asInt .i64 v22 fun i24 => asCons l23 fun v25 l26 => asBool v25 fun b27 => asNil l26 (bif (decide (i24 < ((n1 : Nat) : Int))) then (.join (asSome p0 fun a28 => grd ((decide (0 ≤ i24)) && (decide (i24 < ((n1 : Nat) : Int)))) (.act (ld1 (aadd (aadd a28 ((Int.toNat i24) * 7)) 6)) fun v29 => asSlice v29 fun p30 n31 n32 => bif (decide (((n31 : Nat) : Int) > 10)) then (.ret .ret [(.bool true)]) else (asSome p0 fun a33 => grd ((decide (0 ≤ i24)) && (decide (i24 < ((n1 : Nat) : Int)))) (.act (ld1 (aadd (aadd a33 ((Int.toNat i24) * 7)) 0)) fun v34 => asInt .i64 v34 fun i35 => .join (bif (i35 == 1) then (asSome p0 fun a36 => grd ((decide (0 ≤ i24)) && (decide (i24 < ((n1 : Nat) : Int)))) (.act (ld1 (aadd (aadd a36 ((Int.toNat i24) * 7)) 4)) fun v37 => asInt .u64 v37 fun i38 => asSome p0 fun a39 => grd ((decide (0 ≤ i24)) && (decide (i24 < ((n1 : Nat) : Int)))) (.act (ld1 (aadd (aadd a39 ((Int.toNat i24) * 7)) 3)) fun v40 => asInt .i64 v40 fun i41 => asSome p0 fun a42 => grd ((decide (0 ≤ i24)) && (decide (i24 < ((n1 : Nat) : Int)))) (.act (ld1 (aadd (aadd a42 ((Int.toNat i24) * 7)) 5)) fun v43 => asInt .u64 v43 fun i44 => .call 17 [(.pointer p17), (.int .u64 i38), (.int .i64 i41), (.int .u64 i44)] fun v45 => asInt .i64 v45 fun i46 => .ret .normal [])))) else (asSome p0 fun a47 => grd ((decide (0 ≤ i24)) && (decide (i24 < ((n1 : Nat) : Int)))) (.act (ld1 (aadd (aadd a47 ((Int.toNat i24) * 7)) 1)) fun v48 => asInt .i64 v48 fun i49 => asSome p0 fun a50 => grd ((decide (0 ≤ i24)) && (decide (i24 < ((n1 : Nat) : Int)))) (.act (ld1 (aadd (aadd a50 ((Int.toNat i24) * 7)) 2)) fun v51 => asInt .i64 v51 fun i52 => asSome p0 fun a53 => grd ((decide (0 ≤ i24)) && (decide (i24 < ((n1 : Nat) : Int)))) (.act (ld1 (aadd (aadd a53 ((Int.toNat i24) * 7)) 6)) fun v54 => asSlice v54 fun p55 n56 n57 => .call 15 [(.slice p55 n56 n57)] fun v58 => asSlice v58 fun p59 n60 n61 => .get fun h70 => grd (chks [((ld1 (aadd (aadd a50 ((Int.toNat i24) * 7)) 2)), v51), ((ld1 (aadd (aadd a47 ((Int.toNat i24) * 7)) 1)), v48)] h70) (.call 12 [(.pointer p17), (.int .i64 i49), (.int .i64 i52), (.slice p59 n60 n61)] fun v62 => asTuple v62 fun l63 => asCons l63 fun v64 l65 => asInt .u64 v64 fun i66 => asCons l65 fun v67 l68 => asInt .i64 v67 fun i69 => asNil l68 (.ret .normal []))))))) (T7k0 b27))))) (T7k1 i24)) else (.ret (.exit 0) [(.int .i64 i24), (.bool b27)]))

noncomputable def T7k2 (i112 : Int) : Ex → List Value → Pg :=
  fun e152 l153 => sw e152 .normal (asCons l153 fun v154 l155 => asSlice v154 fun p156 n157 n158 => asCons l155 fun v159 l160 => asSlice v159 fun p161 n162 n163 => asNil l160 (.ret .normal [(.int .i64 (wi64 (i112 + 1))), (.slice p156 n157 n158), (.slice p161 n162 n163)])) (.fail)

noncomputable def T7b1 (n4 : Nat) (p3 : (Option Addr)) (p106 : (Option Addr)) (n107 : Nat) : List Value → Pg :=
  fun l109 => asCons l109 fun v110 l111 => asInt .i64 v110 fun i112 => asCons l111 fun v113 l114 => asSlice v113 fun p115 n116 n117 => asCons l114 fun v118 l119 => asSlice v118 fun p120 n121 n122 => asNil l119 (bif (decide (i112 < ((n4 : Nat) : Int))) then (.join (.get fun h123 => asSome p3 fun a124 => grd ((decide (0 ≤ i112)) && (decide (i112 < ((n4 : Nat) : Int)))) (.act (ld1 (aadd a124 ((Int.toNat i112) * 1))) fun v125 => asInt .u64 v125 fun i126 => .get fun h128 => grd (newN h123.n h128 []) (.act (bdSl 1 1 [(.int .u64 i126)]) fun v127 => asSlice v127 fun p130 n131 n132 => .get fun h129 => asSome p106 fun a133 => grd ((decide (0 ≤ i112)) && (decide (i112 < ((n107 : Nat) : Int)))) (.act (ld1 (aadd a133 ((Int.toNat i112) * 1))) fun v134 => asInt .u64 v134 fun i135 => .get fun h137 => grd (newN h123.n h137 [h128.n]) (.act (bdSl 1 1 [(.int .u64 i135)]) fun v136 => asSlice v136 fun p139 n140 n141 => .get fun h138 => .act (apS 1 8 p120 n121 n122 p130 n131 n132) fun v142 => asSlice v142 fun p143 n144 n145 => .get fun h151 => grd (chks [((ld1 (aadd a133 ((Int.toNat i112) * 1))), v134)] h151) (.get fun h150 => grd (chkO [(h137.n, (h138.get h137.n))] h150) (.act (apS 1 8 p115 n116 n117 p139 n140 n141) fun v146 => asSlice v146 fun p147 n148 n149 => .ret .normal [(.slice p147 n148 n149), (.slice p143 n144 n145)]))))))) (T7k2 i112)) else (.ret (.exit 2) [(.int .i64 i112), (.slice p115 n116 n117), (.slice p120 n121 n122)]))

noncomputable def T7k3 (i266 : Int) : Ex → List Value → Pg :=
  fun e315 l316 => sw e315 .normal (asCons l316 fun v317 l318 => asSlice v317 fun p319 n320 n321 => asCons l318 fun v322 l323 => asSlice v322 fun p324 n325 n326 => asNil l323 (.ret .normal [(.int .i64 (wi64 (i266 + 1))), (.slice p319 n320 n321), (.slice p324 n325 n326)])) (.fail)

noncomputable def T7b2 (i214 : Int) (i184 : Int) (p97 : (Option Addr)) (p17 : (Option Addr)) : List Value → Pg :=
  fun l263 => asCons l263 fun v264 l265 => asInt .i64 v264 fun i266 => asCons l265 fun v267 l268 => asSlice v267 fun p269 n270 n271 => asCons l268 fun v272 l273 => asSlice v272 fun p274 n275 n276 => asNil l273 (bif (decide (i266 < i214)) then (.join (asSome p274 fun a277 => grd ((decide (0 ≤ i184)) && (decide (i184 < ((n275 : Nat) : Int)))) (.act (ld1 (aadd a277 ((Int.toNat i184) * 1))) fun v278 => asInt .u64 v278 fun i279 => .call 22 [(.pointer p97), (.int .u64 i279), (.int .i64 i266)] fun v280 => asTuple v280 fun l281 => asCons l281 fun v282 l283 => asInt .u64 v282 fun i284 => asCons l283 fun v285 l286 => asInt .i64 v285 fun i287 => asNil l286 (asSome p269 fun a288 => grd ((decide (0 ≤ i184)) && (decide (i184 < ((n270 : Nat) : Int)))) (.act (ld1 (aadd a288 ((Int.toNat i184) * 1))) fun v289 => asInt .u64 v289 fun i290 => .call 22 [(.pointer p17), (.int .u64 i290), (.int .i64 i266)] fun v291 => asTuple v291 fun l292 => asCons l292 fun v293 l294 => asInt .u64 v293 fun i295 => asCons l294 fun v296 l297 => asInt .i64 v296 fun i298 => asNil l297 (.act (bdSl 1 1 [(.int .u64 i284)]) fun v299 => asSlice v299 fun p300 n301 n302 => .act (apS 1 8 p274 n275 n276 p300 n301 n302) fun v303 => asSlice v303 fun p304 n305 n306 => .act (bdSl 1 1 [(.int .u64 i295)]) fun v307 => asSlice v307 fun p308 n309 n310 => .act (apS 1 8 p269 n270 n271 p308 n309 n310) fun v311 => asSlice v311 fun p312 n313 n314 => .ret .normal [(.slice p312 n313 n314), (.slice p304 n305 n306)]))))) (T7k3 i266)) else (.ret (.exit 6) [(.int .i64 i266), (.slice p269 n270 n271), (.slice p274 n275 n276)]))

noncomputable def T7k4 (i197 : Int) (i214 : Int) (b200 : Bool) : Ex → List Value → Pg :=
  fun e327 l328 => sw e327 (.exit 6) (asCons l328 fun v329 l330 => asInt .i64 v329 fun i331 => asCons l330 fun v332 l333 => asSlice v332 fun p334 n335 n336 => asCons l333 fun v337 l338 => asSlice v337 fun p339 n340 n341 => asNil l338 (.ret .normal [(.slice p334 n335 n336), (.slice p339 n340 n341), (.int .i64 (wi64 ((wi64 (i197 + i214)) + 1))), (.bool b200)])) (.fail)

noncomputable def T7k5 (i184 : Int) : Ex → List Value → Pg :=
  fun e342 l343 => sw e342 .ret (asCons l343 fun v344 l345 => asSlice v344 fun p346 n347 n348 => asCons l345 fun v349 l350 => asSlice v349 fun p351 n352 n353 => asCons l350 fun v354 l355 => asInt .i64 v354 fun i356 => asCons l355 fun v357 l358 => asBool v357 fun b359 => asNil l358 (.ret .ret [(.int .i64 i184), (.slice p346 n347 n348), (.slice p351 n352 n353), (.int .i64 i356), (.bool b359)])) (sw e342 .normal (asCons l343 fun v360 l361 => asSlice v360 fun p362 n363 n364 => asCons l361 fun v365 l366 => asSlice v365 fun p367 n368 n369 => asCons l366 fun v370 l371 => asInt .i64 v370 fun i372 => asCons l371 fun v373 l374 => asBool v373 fun b375 => asNil l374 (.ret .normal [(.int .i64 (wi64 (i184 + 1))), (.slice p362 n363 n364), (.slice p367 n368 n369), (.int .i64 i372), (.bool b375)])) (.fail))

noncomputable def T7b3 (p97 : (Option Addr)) (m180 : (Option Nat)) (p17 : (Option Addr)) : List Value → Pg :=
  fun l181 => asCons l181 fun v182 l183 => asInt .i64 v182 fun i184 => asCons l183 fun v185 l186 => asSlice v185 fun p187 n188 n189 => asCons l186 fun v190 l191 => asSlice v190 fun p192 n193 n194 => asCons l191 fun v195 l196 => asInt .i64 v195 fun i197 => asCons l196 fun v198 l199 => asBool v198 fun b200 => asNil l199 (bif ((decide (i184 < ((n193 : Nat) : Int))) && (decide (i184 < 3000))) then (.join (asSome p192 fun a201 => grd ((decide (0 ≤ i184)) && (decide (i184 < ((n193 : Nat) : Int)))) (.act (ld1 (aadd a201 ((Int.toNat i184) * 1))) fun v202 => asInt .u64 v202 fun i203 => .call 24 [(.pointer p97), (.int .u64 i203)] fun v204 => asTuple v204 fun l205 => asCons l205 fun v206 l207 => asInt .i64 v206 fun i208 => asCons l207 fun v209 l210 => asInt .i64 v209 fun i211 => asCons l210 fun v212 l213 => asInt .i64 v212 fun i214 => asCons l213 fun v215 l216 => asInt .i64 v215 fun i217 => asNil l216 (bif (i217 != 0) then (asSome p192 fun a218 => grd ((decide (0 ≤ i184)) && (decide (i184 < ((n193 : Nat) : Int)))) (.act (ld1 (aadd a218 ((Int.toNat i184) * 1))) fun v219 => asInt .u64 v219 fun i220 => asSome p187 fun a221 => grd ((decide (0 ≤ i184)) && (decide (i184 < ((n188 : Nat) : Int)))) (.act (ld1 (aadd a221 ((Int.toNat i184) * 1))) fun v222 => asInt .u64 v222 fun i223 => bif (i220 != i223) then (.ret .ret [(.slice p187 n188 n189), (.slice p192 n193 n194), (.int .i64 i197), (.bool false)]) else (.ret .normal [(.slice p187 n188 n189), (.slice p192 n193 n194), (.int .i64 i197), (.bool b200)])))) else (asSome p192 fun a224 => grd ((decide (0 ≤ i184)) && (decide (i184 < ((n193 : Nat) : Int)))) (.act (ld1 (aadd a224 ((Int.toNat i184) * 1))) fun v225 => asInt .u64 v225 fun i226 => .act (lkp (.int .u64) (.int .u64 0) m180 (.int .u64 i226) true) fun v227 => asTuple v227 fun l228 => asCons l228 fun v229 l230 => asInt .u64 v229 fun i231 => asCons l230 fun v232 l233 => asBool v232 fun b234 => asNil l233 (bif b234 then (asSome p187 fun a235 => grd ((decide (0 ≤ i184)) && (decide (i184 < ((n188 : Nat) : Int)))) (.act (ld1 (aadd a235 ((Int.toNat i184) * 1))) fun v236 => asInt .u64 v236 fun i237 => bif (i231 != i237) then (.ret .ret [(.slice p187 n188 n189), (.slice p192 n193 n194), (.int .i64 i197), (.bool false)]) else (.ret .normal [(.slice p187 n188 n189), (.slice p192 n193 n194), (.int .i64 i197), (.bool b200)]))) else (asSome p192 fun a238 => grd ((decide (0 ≤ i184)) && (decide (i184 < ((n193 : Nat) : Int)))) (.act (ld1 (aadd a238 ((Int.toNat i184) * 1))) fun v239 => asInt .u64 v239 fun i240 => asSome p187 fun a241 => grd ((decide (0 ≤ i184)) && (decide (i184 < ((n188 : Nat) : Int)))) (.act (ld1 (aadd a241 ((Int.toNat i184) * 1))) fun v242 => asInt .u64 v242 fun i243 => .act (mup (.int .u64) m180 (.int .u64 i240) (.int .u64 i243)) fun v244 => asTuple v244 fun l245 => asNil l245 (asSome p187 fun a246 => grd ((decide (0 ≤ i184)) && (decide (i184 < ((n188 : Nat) : Int)))) (.act (ld1 (aadd a246 ((Int.toNat i184) * 1))) fun v247 => asInt .u64 v247 fun i248 => .call 24 [(.pointer p17), (.int .u64 i248)] fun v249 => asTuple v249 fun l250 => asCons l250 fun v251 l252 => asInt .i64 v251 fun i253 => asCons l252 fun v254 l255 => asInt .i64 v254 fun i256 => asCons l255 fun v257 l258 => asInt .i64 v257 fun i259 => asCons l258 fun v260 l261 => asInt .i64 v260 fun i262 => asNil l261 (bif ((((i262 != 0) || (i208 != i253)) || (i211 != i256)) || (i214 != i259)) then (.ret .ret [(.slice p187 n188 n189), (.slice p192 n193 n194), (.int .i64 i197), (.bool false)]) else (.loop [(.int .i64 0), (.slice p187 n188 n189), (.slice p192 n193 n194)] (T7b2 i214 i184 p97 p17) (T7k4 i197 i214 b200)))))))))))))) (T7k5 i184)) else (.ret (.exit 4) [(.int .i64 i184), (.slice p187 n188 n189), (.slice p192 n193 n194), (.int .i64 i197), (.bool b200)]))

noncomputable def T7k6 (p17 : (Option Addr)) : Ex → List Value → Pg :=
  fun e376 l377 => sw e376 (.exit 4) (asCons l377 fun v378 l379 => asInt .i64 v378 fun i380 => asCons l379 fun v381 l382 => asSlice v381 fun p383 n384 n385 => asCons l382 fun v386 l387 => asSlice v386 fun p388 n389 n390 => asCons l387 fun v391 l392 => asInt .i64 v391 fun i393 => asCons l392 fun v394 l395 => asBool v394 fun b396 => asNil l395 (.call 13 [(.pointer p17)] fun v397 => asInt .i64 v397 fun i398 => .ret .ret [(.bool (i398 == i393))])) (sw e376 .ret (asCons l377 fun v399 l400 => asInt .i64 v399 fun i401 => asCons l400 fun v402 l403 => asSlice v402 fun p404 n405 n406 => asCons l403 fun v407 l408 => asSlice v407 fun p409 n410 n411 => asCons l408 fun v412 l413 => asInt .i64 v412 fun i414 => asCons l413 fun v415 l416 => asBool v415 fun b417 => asNil l416 (.ret .ret [(.bool b417)])) (.fail))

noncomputable def T7k7 (b88 : Bool) (p97 : (Option Addr)) (p17 : (Option Addr)) : Ex → List Value → Pg :=
  fun e164 l165 => sw e164 (.exit 2) (asCons l165 fun v166 l167 => asInt .i64 v166 fun i168 => asCons l167 fun v169 l170 => asSlice v169 fun p171 n172 n173 => asCons l170 fun v174 l175 => asSlice v174 fun p176 n177 n178 => asNil l175 (.act makeMapAct fun v179 => asMap v179 fun m180 => .loop [(.int .i64 0), (.slice p171 n172 n173), (.slice p176 n177 n178), (.int .i64 0), (.bool b88)] (T7b3 p97 m180 p17) (T7k6 p17))) (.fail)

noncomputable def T7k8 (p17 : (Option Addr)) (p3 : (Option Addr)) (n4 : Nat) (n5 : Nat) : Ex → List Value → Pg :=
  fun e81 l82 => sw e81 (.exit 0) (asCons l82 fun v83 l84 => asInt .i64 v83 fun i85 => asCons l84 fun v86 l87 => asBool v86 fun b88 => asNil l87 (.call 27 [(.pointer p17)] fun v89 => asSlice v89 fun p90 n91 n92 => .call 29 [(.slice p90 n91 n92)] fun v93 => asTuple v93 fun l94 => asCons l94 fun v95 l96 => asPtr v95 fun p97 => asCons l96 fun v98 l99 => asInt .i64 v98 fun i100 => asNil l99 (bif ((i100 != 0) || (Option.isNone p97)) then (.ret .ret [(.bool false)]) else (.call 15 [(.slice p3 n4 n5)] fun v101 => asSlice v101 fun p102 n103 n104 => .call 14 [(.pointer p17), (.slice p102 n103 n104)] fun v105 => asSlice v105 fun p106 n107 n108 => bif (((n107 : Nat) : Int) != ((n4 : Nat) : Int)) then (.ret .ret [(.bool false)]) else (.loop [(.int .i64 0), (.slice none 0 0), (.slice none 0 0)] (T7b1 n4 p3 p106 n107) (T7k7 b88 p97 p17)))))) (sw e81 .ret (asCons l82 fun v418 l419 => asInt .i64 v418 fun i420 => asCons l419 fun v421 l422 => asBool v421 fun b423 => asNil l422 (.ret .ret [(.bool b423)])) (.fail))

noncomputable def T7k9 (n1 : Nat) (p0 : (Option Addr)) (p3 : (Option Addr)) (n4 : Nat) (n5 : Nat) : Ex → List Value → Pg :=
  fun e8 l9 => sw e8 .normal (asCons l9 fun v10 l11 => asBool v10 fun b12 => asNil l11 (bif b12 then (.ret .ret [(.bool true)]) else (.call 10 [(.int .i64 2000)] fun v13 => asTuple v13 fun l14 => asCons l14 fun v15 l16 => asPtr v15 fun p17 => asCons l16 fun v18 l19 => asInt .i64 v18 fun i20 => asNil l19 (.loop [(.int .i64 0), (.bool false)] (T7b0 n1 p0 p17) (T7k8 p17 p3 n4 n5))))) (.fail)

/-- hindsight/hindsightlaw12.HeapLive -/
noncomputable def T7 (p0 : (Option Addr)) (n1 : Nat) (n2 : Nat) (p3 : (Option Addr)) (n4 : Nat) (n5 : Nat) : Pg :=
  .call 9 [] fun v6 => asBool v6 fun b7 => bif (!b7) then (.ret .ret [(.bool false)]) else (.join (bif (decide (((n1 : Nat) : Int) > 30)) == false then (.ret .normal [(.bool (decide (((n4 : Nat) : Int) > 10)))]) else (.ret .normal [(.bool true)])) (T7k9 n1 p0 p3 n4 n5))
theorem T7_eq (p0 : (Option Addr)) (n1 : Nat) (n2 : Nat) (p3 : (Option Addr)) (n4 : Nat) (n5 : Nat) : progOf PROG false 7 [(.slice p0 n1 n2), (.slice p3 n4 n5)] = T7 p0 n1 n2 p3 n4 n5 := by kernel_rfl


noncomputable def T9k0 : Ex → List Value → Pg :=
  fun e72 l73 => sw e72 .normal (asCons l73 fun v74 l75 => asBool v74 fun b76 => asNil l75 (.ret .ret [(.bool b76)])) (.fail)

/-- hindsight/hindsightlaw12.awake -/
noncomputable def T9 : Pg :=
  .call 10 [(.int .i64 100)] fun v0 => asTuple v0 fun l1 => asCons l1 fun v2 l3 => asPtr v2 fun p4 => asCons l3 fun v5 l6 => asInt .i64 v5 fun i7 => asNil l6 (bif ((i7 != 0) || (Option.isNone p4)) then (.ret .ret [(.bool false)]) else (.call 11 [(.int .i64 5)] fun v8 => asInt .u64 v8 fun i9 => .act (bdSl 1 1 [(.int .u64 i9)]) fun v10 => asSlice v10 fun p11 n12 n13 => .call 12 [(.pointer p4), (.int .i64 1), (.int .i64 7), (.slice p11 n12 n13)] fun v14 => asTuple v14 fun l15 => asCons l15 fun v16 l17 => asInt .u64 v16 fun i18 => asCons l17 fun v19 l20 => asInt .i64 v19 fun i21 => asNil l20 (.call 11 [(.int .i64 6)] fun v22 => asInt .u64 v22 fun i23 => .call 11 [(.int .i64 7)] fun v24 => asInt .u64 v24 fun i25 => .act (bdSl 1 2 [(.int .u64 i23), (.int .u64 i25)]) fun v26 => asSlice v26 fun p27 n28 n29 => .call 12 [(.pointer p4), (.int .i64 1), (.int .i64 8), (.slice p27 n28 n29)] fun v30 => asTuple v30 fun l31 => asCons l31 fun v32 l33 => asInt .u64 v32 fun i34 => asCons l33 fun v35 l36 => asInt .i64 v35 fun i37 => asNil l36 (.act (bdSl 1 1 [(.int .u64 i34)]) fun v38 => asSlice v38 fun p39 n40 n41 => .call 14 [(.pointer p4), (.slice p39 n40 n41)] fun v42 => asSlice v42 fun p43 n44 n45 => .call 31 [(.int .i64 0)] fun v46 => asInt .u64 v46 fun i47 => .call 22 [(.pointer p4), (.int .u64 i47), (.int .i64 1)] fun v48 => asTuple v48 fun l49 => asCons l49 fun v50 l51 => asInt .u64 v50 fun i52 => asCons l51 fun v53 l54 => asInt .i64 v53 fun i55 => asNil l54 (.join (bif (i21 == 0) == true then (bif (i37 == 0) == true then (.call 31 [(.int .i64 0)] fun v56 => asInt .u64 v56 fun i57 => bif (i18 == i57) == true then (.call 31 [(.int .i64 2)] fun v58 => asInt .u64 v58 fun i59 => bif (i34 == i59) == true then (bif (((n44 : Nat) : Int) == 1) == true then (asSome p43 fun a60 => grd (decide (0 < ((n44 : Nat) : Int))) (.act (ld1 (aadd a60 0)) fun v61 => asInt .u64 v61 fun i62 => .call 31 [(.int .i64 0)] fun v63 => asInt .u64 v63 fun i64 => .get fun h71 => grd (chks [((ld1 (aadd a60 0)), v61)] h71) (bif (i62 == i64) == true then (bif (i55 == 0) == true then (.call 11 [(.int .i64 7)] fun v65 => asInt .u64 v65 fun i66 => bif (i52 == i66) == true then (.call 13 [(.pointer p4)] fun v67 => asInt .i64 v67 fun i68 => bif (i68 == 3) == true then (.call 26 [(.pointer p4)] fun v69 => asInt .i64 v69 fun i70 => .ret .normal [(.bool (i70 == 1))]) else (.ret .normal [(.bool false)])) else (.ret .normal [(.bool false)])) else (.ret .normal [(.bool false)])) else (.ret .normal [(.bool false)])))) else (.ret .normal [(.bool false)])) else (.ret .normal [(.bool false)])) else (.ret .normal [(.bool false)])) else (.ret .normal [(.bool false)])) else (.ret .normal [(.bool false)])) (T9k0))))))
theorem T9_eq : progOf PROG false 9 [] = T9 := by kernel_rfl


/-- hindsight/heap.New -/
noncomputable def T10 (i0 : Int) : Pg :=
  bif ((decide (i0 < 16)) || (decide (i0 > 65536))) then (.ret .ret [(.tuple #[(.pointer none), (.int .i64 1)])]) else (.act (newC [(.int .i64 i0), (.int .i64 0), (.slice none 0 0), (.slice none 0 0)]) fun v1 => asPtr v1 fun p2 => asSome p2 fun a3 => .ret .ret [(.tuple #[(.pointer (some a3)), (.int .i64 0)])])
theorem T10_eq (i0 : Int) : progOf PROG false 10 [(.int .i64 i0)] = T10 i0 := by kernel_rfl


/-- hindsight/word.Num -/
noncomputable def T11 (i0 : Int) : Pg :=
  .ret .ret [(.int .u64 (orI .u64 (shlI .u64 (wu64 i0) 1) 1))]
theorem T11_eq (i0 : Int) : progOf PROG false 11 [(.int .i64 i0)] = T11 i0 := by kernel_rfl


noncomputable def T12k0 (a8 : Addr) (n4 : Nat) (i13 : Int) (p3 : (Option Addr)) (n5 : Nat) : Ex → List Value → Pg :=
  fun e19 l20 => sw e19 .normal (asCons l20 fun v21 l22 => asBool v21 fun b23 => asNil l22 (bif b23 then (.ret .ret [(.tuple #[(.int .u64 0), (.int .i64 1)])]) else (.act (ld1 a8) fun v24 => asPtr v24 fun p25 => .call 37 [(.pointer p25), (.int .i64 ((n4 : Nat) : Int))] fun v26 => asBool v26 fun b27 => bif (!b27) then (.ret .ret [(.tuple #[(.int .u64 0), (.int .i64 8)])]) else (.act (ld1 a8) fun v28 => asPtr v28 fun p29 => .call 38 [(.pointer p29), (.int .u64 i13), (.slice p3 n4 n5)] fun v30 => asInt .u64 v30 fun i31 => .ret .ret [(.tuple #[(.int .u64 i31), (.int .i64 0)])])))) (.fail)

/-- (*hindsight/heap.Heap).Make -/
noncomputable def T12 (p0 : (Option Addr)) (i1 : Int) (i2 : Int) (p3 : (Option Addr)) (n4 : Nat) (n5 : Nat) : Pg :=
  .act (newC [(.pointer p0)]) fun v6 => asPtr v6 fun p7 => asSome p7 fun a8 => .call 33 [(.int .i64 i1), (.int .i64 i2), (.int .i64 ((n4 : Nat) : Int))] fun v9 => asTuple v9 fun l10 => asCons l10 fun v11 l12 => asInt .u64 v11 fun i13 => asCons l12 fun v14 l15 => asBool v14 fun b16 => asNil l15 (.join (bif (!b16) == false then (.call 34 [(.slice p3 n4 n5), (.func (.func 35) #[] #[(.pointer (some a8))])] fun v17 => asBool v17 fun b18 => .ret .normal [(.bool b18)]) else (.ret .normal [(.bool true)])) (T12k0 a8 n4 i13 p3 n5))
theorem T12_eq (p0 : (Option Addr)) (i1 : Int) (i2 : Int) (p3 : (Option Addr)) (n4 : Nat) (n5 : Nat) : progOf PROG false 12 [(.pointer p0), (.int .i64 i1), (.int .i64 i2), (.slice p3 n4 n5)] = T12 p0 i1 i2 p3 n4 n5 := by kernel_rfl


/-- (*hindsight/heap.Heap).Used -/
noncomputable def T13 (p0 : (Option Addr)) : Pg :=
  asSome p0 fun a1 => .act (ld1 (aadd a1 2)) fun v2 => asSlice v2 fun p3 n4 n5 => .ret .ret [(.int .i64 ((n4 : Nat) : Int))]
theorem T13_eq (p0 : (Option Addr)) : progOf PROG false 13 [(.pointer p0)] = T13 p0 := by kernel_rfl


noncomputable def T14k0 (i28 : Int) : Ex → List Value → Pg :=
  fun e47 l48 => sw e47 .normal (asCons l48 fun v49 l50 => asSlice v49 fun p51 n52 n53 => asNil l50 (.ret .normal [(.int .i64 (wi64 (i28 + 1))), (.slice p51 n52 n53)])) (.fail)

noncomputable def T14b0 (n2 : Nat) (p1 : (Option Addr)) (a24 : Addr) : List Value → Pg :=
  fun l25 => asCons l25 fun v26 l27 => asInt .i64 v26 fun i28 => asCons l27 fun v29 l30 => asSlice v29 fun p31 n32 n33 => asNil l30 (bif (decide (i28 < ((n2 : Nat) : Int))) then (.join (asSome p1 fun a34 => grd ((decide (0 ≤ i28)) && (decide (i28 < ((n2 : Nat) : Int)))) (.act (ld1 (aadd a34 ((Int.toNat i28) * 1))) fun v35 => asInt .u64 v35 fun i36 => .call 39 [(.pointer (some a24)), (.int .u64 i36)] fun v37 => asInt .u64 v37 fun i38 => .act (bdSl 1 1 [(.int .u64 i38)]) fun v39 => asSlice v39 fun p40 n41 n42 => .act (apS 1 8 p31 n32 n33 p40 n41 n42) fun v43 => asSlice v43 fun p44 n45 n46 => .ret .normal [(.slice p44 n45 n46)])) (T14k0 i28)) else (.ret (.exit 0) [(.int .i64 i28), (.slice p31 n32 n33)]))

noncomputable def T14k1 : Ex → List Value → Pg :=
  fun e107 l108 => sw e107 .normal (asNil l108 (.ret .normal [])) (.fail)

noncomputable def T14k2 (i67 : Int) : Ex → List Value → Pg :=
  fun e109 l110 => sw e109 .normal (asNil l110 (.ret .normal [(.int .i64 (wi64 (i67 + 1)))])) (.fail)

noncomputable def T14b1 (a24 : Addr) : List Value → Pg :=
  fun l64 => asCons l64 fun v65 l66 => asInt .i64 v65 fun i67 => asNil l66 (.act (ld1 (aadd a24 1)) fun v68 => asPtr v68 fun p69 => asSome p69 fun a70 => .act (ld1 (aadd a70 2)) fun v71 => asSlice v71 fun p72 n73 n74 => bif (decide (i67 < ((n73 : Nat) : Int))) then (.join (.act (ld1 (aadd a24 1)) fun v75 => asPtr v75 fun p76 => asSome p76 fun a77 => .act (ld1 (aadd a77 3)) fun v78 => asSlice v78 fun p79 n80 n81 => asSome p79 fun a82 => grd ((decide (0 ≤ i67)) && (decide (i67 < ((n80 : Nat) : Int)))) (.act (ld1 (aadd a82 ((Int.toNat i67) * 1))) fun v83 => asBool v83 fun b84 => .join (bif (!b84) then (.act (ld1 (aadd a24 1)) fun v85 => asPtr v85 fun p86 => asSome p86 fun a87 => .act (ld1 (aadd a87 2)) fun v88 => asSlice v88 fun p89 n90 n91 => asSome p89 fun a92 => grd ((decide (0 ≤ i67)) && (decide (i67 < ((n90 : Nat) : Int)))) (.act (ld1 (aadd a92 ((Int.toNat i67) * 1))) fun v93 => asInt .u64 v93 fun i94 => .call 39 [(.pointer (some a24)), (.int .u64 i94)] fun v95 => asInt .u64 v95 fun i96 => .act (ld1 (aadd a24 1)) fun v97 => asPtr v97 fun p98 => asSome p98 fun a99 => .act (ld1 (aadd a99 2)) fun v100 => asSlice v100 fun p101 n102 n103 => asSome p101 fun a104 => grd ((decide (0 ≤ i67)) && (decide (i67 < ((n102 : Nat) : Int)))) (.act (stC (aadd a104 ((Int.toNat i67) * 1)) [(.int .u64 i96)]) fun v105 => asTuple v105 fun l106 => asNil l106 (.ret .normal [])))) else (.ret .normal [])) (T14k1))) (T14k2 i67)) else (.ret (.exit 2) [(.int .i64 i67)]))

noncomputable def T14k3 (a24 : Addr) (p0 : (Option Addr)) (p61 : (Option Addr)) (n62 : Nat) (n63 : Nat) : Ex → List Value → Pg :=
  fun e111 l112 => sw e111 (.exit 2) (asCons l112 fun v113 l114 => asInt .i64 v113 fun i115 => asNil l114 (.act (ld1 (aadd a24 1)) fun v116 => asPtr v116 fun p117 => asSome p117 fun a118 => .act (ldN 4 a118) fun v119 => asAgg v119 fun l120 => asCons l120 fun v121 l122 => asInt .i64 v121 fun i123 => asCons l122 fun v124 l125 => asInt .i64 v124 fun i126 => asCons l125 fun v127 l128 => asSlice v127 fun p129 n130 n131 => asCons l128 fun v132 l133 => asSlice v132 fun p134 n135 n136 => asNil l133 (asSome p0 fun a137 => .act (stC a137 [(.int .i64 i123), (.int .i64 i126), (.slice p129 n130 n131), (.slice p134 n135 n136)]) fun v138 => asTuple v138 fun l139 => asNil l139 (.ret .ret [(.slice p61 n62 n63)])))) (.fail)

noncomputable def T14k4 (a24 : Addr) (p0 : (Option Addr)) : Ex → List Value → Pg :=
  fun e54 l55 => sw e54 (.exit 0) (asCons l55 fun v56 l57 => asInt .i64 v56 fun i58 => asCons l57 fun v59 l60 => asSlice v59 fun p61 n62 n63 => asNil l60 (.loop [(.int .i64 0)] (T14b1 a24) (T14k3 a24 p0 p61 n62 n63))) (.fail)

/-- (*hindsight/heap.Heap).Collect -/
noncomputable def T14 (p0 : (Option Addr)) (p1 : (Option Addr)) (n2 : Nat) (n3 : Nat) : Pg :=
  .get fun h4 => asSome p0 fun a5 => .act (ld1 (aadd a5 0)) fun v6 => asInt .i64 v6 fun i7 => asSome p0 fun a8 => .act (ld1 (aadd a8 1)) fun v9 => asInt .i64 v9 fun i10 => .get fun h12 => grd (newN h4.n h12 []) (.act (newC [(.int .i64 i7), (.int .i64 (wi64 (i10 + 1))), (.slice none 0 0), (.slice none 0 0)]) fun v11 => asPtr v11 fun p14 => asSome p14 fun a15 => .get fun h13 => .get fun h17 => grd (newN h4.n h17 [h12.n]) (.act makeMapAct fun v16 => asMap v16 fun m19 => .get fun h18 => .get fun h21 => grd (newN h4.n h21 [h17.n, h12.n]) (.act (newC [(.pointer p0), (.pointer (some a15)), (.map m19)]) fun v20 => asPtr v20 fun p23 => asSome p23 fun a24 => .get fun h22 => .loop [(.int .i64 0), (.slice none 0 0)] (T14b0 n2 p1 a24) (T14k4 a24 p0))))
theorem T14_eq (p0 : (Option Addr)) (p1 : (Option Addr)) (n2 : Nat) (n3 : Nat) : progOf PROG false 14 [(.pointer p0), (.slice p1 n2 n3)] = T14 p0 p1 n2 n3 := by kernel_rfl


noncomputable def T15k0 (i6 : Int) : Ex → List Value → Pg :=
  fun e23 l24 => sw e23 .normal (asCons l24 fun v25 l26 => asSlice v25 fun p27 n28 n29 => asNil l26 (.ret .normal [(.int .i64 (wi64 (i6 + 1))), (.slice p27 n28 n29)])) (.fail)

noncomputable def T15b0 (n1 : Nat) (p0 : (Option Addr)) : List Value → Pg :=
  fun l3 => asCons l3 fun v4 l5 => asInt .i64 v4 fun i6 => asCons l5 fun v7 l8 => asSlice v7 fun p9 n10 n11 => asNil l8 (bif (decide (i6 < ((n1 : Nat) : Int))) then (.join (asSome p0 fun a12 => grd ((decide (0 ≤ i6)) && (decide (i6 < ((n1 : Nat) : Int)))) (.act (ld1 (aadd a12 ((Int.toNat i6) * 1))) fun v13 => asInt .u64 v13 fun i14 => .act (bdSl 1 1 [(.int .u64 i14)]) fun v15 => asSlice v15 fun p16 n17 n18 => .act (apS 1 8 p9 n10 n11 p16 n17 n18) fun v19 => asSlice v19 fun p20 n21 n22 => .ret .normal [(.slice p20 n21 n22)])) (T15k0 i6)) else (.ret (.exit 0) [(.int .i64 i6), (.slice p9 n10 n11)]))

noncomputable def T15k1 : Ex → List Value → Pg :=
  fun e30 l31 => sw e30 (.exit 0) (asCons l31 fun v32 l33 => asInt .i64 v32 fun i34 => asCons l33 fun v35 l36 => asSlice v35 fun p37 n38 n39 => asNil l36 (.ret .ret [(.slice p37 n38 n39)])) (.fail)

/-- hindsight/hindsightlaw12.back -/
noncomputable def T15 (p0 : (Option Addr)) (n1 : Nat) (n2 : Nat) : Pg :=
  .loop [(.int .i64 0), (.slice none 0 0)] (T15b0 n1 p0) (T15k1)
theorem T15_eq (p0 : (Option Addr)) (n1 : Nat) (n2 : Nat) : progOf PROG false 15 [(.slice p0 n1 n2)] = T15 p0 n1 n2 := by kernel_rfl


noncomputable def T16k0 : Ex → List Value → Pg :=
  fun e26 l27 => sw e26 .normal (asCons l27 fun v28 l29 => asBool v28 fun b30 => asNil l29 (.ret .normal [(.bool b30)])) (.fail)

noncomputable def T16k1 (i17 : Int) : Ex → List Value → Pg :=
  fun e31 l32 => sw e31 .normal (asCons l32 fun v33 l34 => asBool v33 fun b35 => asNil l34 (.ret .normal [(.int .i64 (wi64 (i17 + 1))), (.bool b35)])) (.fail)

noncomputable def T16b0 (n4 : Nat) (p3 : (Option Addr)) (p0 : (Option Addr)) : List Value → Pg :=
  fun l14 => asCons l14 fun v15 l16 => asInt .i64 v15 fun i17 => asCons l16 fun v18 l19 => asBool v18 fun b20 => asNil l19 (bif (decide (i17 < ((n4 : Nat) : Int))) then (.join (.join (bif b20 == true then (asSome p3 fun a21 => grd ((decide (0 ≤ i17)) && (decide (i17 < ((n4 : Nat) : Int)))) (.act (ld1 (aadd a21 ((Int.toNat i17) * 1))) fun v22 => asInt .u64 v22 fun i23 => .call 41 [(.pointer p0), (.int .u64 i23)] fun v24 => asBool v24 fun b25 => .ret .normal [(.bool b25)])) else (.ret .normal [(.bool false)])) (T16k0)) (T16k1 i17)) else (.ret (.exit 0) [(.int .i64 i17), (.bool b20)]))

noncomputable def T16k2 (p0 : (Option Addr)) (n4 : Nat) (i10 : Int) (p3 : (Option Addr)) (n5 : Nat) : Ex → List Value → Pg :=
  fun e36 l37 => sw e36 (.exit 0) (asCons l37 fun v38 l39 => asInt .i64 v38 fun i40 => asCons l39 fun v41 l42 => asBool v41 fun b43 => asNil l42 (bif (!b43) then (.ret .ret [(.tuple #[(.int .u64 0), (.int .i64 1)])]) else (asSome p0 fun a44 => .act (ld1 (aadd a44 0)) fun v45 => asInt .i64 v45 fun i46 => asSome p0 fun a47 => .act (ld1 (aadd a47 1)) fun v48 => asSlice v48 fun p49 n50 n51 => bif (decide ((wi64 (((n4 : Nat) : Int) + 1)) > (wi64 (i46 - ((n50 : Nat) : Int))))) then (.ret .ret [(.tuple #[(.int .u64 0), (.int .i64 8)])]) else (asSome p0 fun a52 => .act (ld1 (aadd a52 1)) fun v53 => asSlice v53 fun p54 n55 n56 => .act (bdSl 1 0 []) fun v57 => asSlice v57 fun p58 n59 n60 => asSome p0 fun a61 => .act (ld1 (aadd a61 1)) fun v62 => asSlice v62 fun p63 n64 n65 => .act (apS 1 8 p58 n59 n60 p63 n64 n65) fun v66 => asSlice v66 fun p67 n68 n69 => .act (bdSl 1 1 [(.int .u64 i10)]) fun v70 => asSlice v70 fun p71 n72 n73 => .act (apS 1 8 p67 n68 n69 p71 n72 n73) fun v74 => asSlice v74 fun p75 n76 n77 => .act (apS 1 8 p75 n76 n77 p3 n4 n5) fun v78 => asSlice v78 fun p79 n80 n81 => asSome p0 fun a82 => .act (stC (aadd a82 1) [(.slice p79 n80 n81)]) fun v83 => asTuple v83 fun l84 => asNil l84 (.call 42 [(.int .i64 ((n55 : Nat) : Int))] fun v85 => asInt .u64 v85 fun i86 => .ret .ret [(.tuple #[(.int .u64 i86), (.int .i64 0)])]))))) (.fail)

/-- (*hindsight/hindsightref11.Heap).Make -/
noncomputable def T16 (p0 : (Option Addr)) (i1 : Int) (i2 : Int) (p3 : (Option Addr)) (n4 : Nat) (n5 : Nat) : Pg :=
  .call 40 [(.int .i64 i1), (.int .i64 i2), (.int .i64 ((n4 : Nat) : Int))] fun v6 => asTuple v6 fun l7 => asCons l7 fun v8 l9 => asInt .u64 v8 fun i10 => asCons l9 fun v11 l12 => asBool v11 fun b13 => asNil l12 (.loop [(.int .i64 0), (.bool b13)] (T16b0 n4 p3 p0) (T16k2 p0 n4 i10 p3 n5))
theorem T16_eq (p0 : (Option Addr)) (i1 : Int) (i2 : Int) (p3 : (Option Addr)) (n4 : Nat) (n5 : Nat) : progOf PROG false 16 [(.pointer p0), (.int .i64 i1), (.int .i64 i2), (.slice p3 n4 n5)] = T16 p0 i1 i2 p3 n4 n5 := by kernel_rfl


noncomputable def T17k0 (p8 : (Option Addr)) (i3 : Int) : Ex → List Value → Pg :=
  fun e14 l15 => sw e14 .ret (asCons l15 fun v16 l17 => asInt .i64 v16 fun i18 => asNil l17 (.ret .ret [(.int .i64 i18)])) (sw e14 .normal (asCons l15 fun v19 l20 => asInt .i64 v19 fun i21 => asNil l20 (asSome p8 fun a22 => .act (stC a22 [(.int .u64 i3)]) fun v23 => asTuple v23 fun l24 => asNil l24 (.ret .ret [(.int .i64 0)]))) (.fail))

/-- (*hindsight/heap.Heap).Set -/
noncomputable def T17 (p0 : (Option Addr)) (i1 : Int) (i2 : Int) (i3 : Int) : Pg :=
  .call 43 [(.pointer p0), (.int .u64 i1), (.int .i64 i2)] fun v4 => asTuple v4 fun l5 => asCons l5 fun v6 l7 => asPtr v6 fun p8 => asCons l7 fun v9 l10 => asInt .i64 v9 fun i11 => asNil l10 (.join (bif (i11 != 0) then (.ret .ret [(.int .i64 i11)]) else (.call 36 [(.pointer p0), (.int .u64 i3)] fun v12 => asBool v12 fun b13 => bif (!b13) then (.ret .ret [(.int .i64 1)]) else (.ret .normal [(.int .i64 0)]))) (T17k0 p8 i3))
theorem T17_eq (p0 : (Option Addr)) (i1 : Int) (i2 : Int) (i3 : Int) : progOf PROG false 17 [(.pointer p0), (.int .u64 i1), (.int .i64 i2), (.int .u64 i3)] = T17 p0 i1 i2 i3 := by kernel_rfl


noncomputable def T18k0 (p0 : (Option Addr)) (i8 : Int) (i2 : Int) (i3 : Int) : Ex → List Value → Pg :=
  fun e17 l18 => sw e17 .normal (asCons l18 fun v19 l20 => asBool v19 fun b21 => asNil l20 (bif b21 then (.ret .ret [(.int .i64 1)]) else (asSome p0 fun a22 => .act (ld1 (aadd a22 1)) fun v23 => asSlice v23 fun p24 n25 n26 => asSome p24 fun a27 => grd ((decide (0 ≤ (wi64 ((wi64 (i8 + 1)) + i2)))) && (decide ((wi64 ((wi64 (i8 + 1)) + i2)) < ((n25 : Nat) : Int)))) (.act (stC (aadd a27 ((Int.toNat (wi64 ((wi64 (i8 + 1)) + i2))) * 1)) [(.int .u64 i3)]) fun v28 => asTuple v28 fun l29 => asNil l29 (.ret .ret [(.int .i64 0)]))))) (.fail)

/-- (*hindsight/hindsightref11.Heap).Set -/
noncomputable def T18 (p0 : (Option Addr)) (i1 : Int) (i2 : Int) (i3 : Int) : Pg :=
  .call 44 [(.pointer p0), (.int .u64 i1)] fun v4 => asTuple v4 fun l5 => asCons l5 fun v6 l7 => asInt .i64 v6 fun i8 => asCons l7 fun v9 l10 => asInt .i64 v9 fun i11 => asCons l10 fun v12 l13 => asBool v12 fun b14 => asNil l13 (bif (!b14) then (.ret .ret [(.int .i64 4)]) else (.join (bif ((decide (i2 < 0)) || (decide (i2 ≥ i11))) == false then (.call 41 [(.pointer p0), (.int .u64 i3)] fun v15 => asBool v15 fun b16 => .ret .normal [(.bool (!b16))]) else (.ret .normal [(.bool true)])) (T18k0 p0 i8 i2 i3)))
theorem T18_eq (p0 : (Option Addr)) (i1 : Int) (i2 : Int) (i3 : Int) : progOf PROG false 18 [(.pointer p0), (.int .u64 i1), (.int .i64 i2), (.int .u64 i3)] = T18 p0 i1 i2 i3 := by kernel_rfl


noncomputable def T19k0 (i9 : Int) : Ex → List Value → Pg :=
  fun e19 l20 => sw e19 .ret (asCons l20 fun v21 l22 => asBool v21 fun b23 => asNil l22 (.ret .ret [(.int .i64 i9), (.bool b23)])) (sw e19 .normal (asCons l20 fun v24 l25 => asBool v24 fun b26 => asNil l25 (.ret .normal [(.int .i64 (wi64 (i9 + 1))), (.bool b26)])) (.fail))

noncomputable def T19b0 (n1 : Nat) (p0 : (Option Addr)) (p3 : (Option Addr)) (n4 : Nat) : List Value → Pg :=
  fun l6 => asCons l6 fun v7 l8 => asInt .i64 v7 fun i9 => asCons l8 fun v10 l11 => asBool v10 fun b12 => asNil l11 (bif (decide (i9 < ((n1 : Nat) : Int))) then (.join (asSome p0 fun a13 => grd ((decide (0 ≤ i9)) && (decide (i9 < ((n1 : Nat) : Int)))) (.act (ld1 (aadd a13 ((Int.toNat i9) * 1))) fun v14 => asInt .u64 v14 fun i15 => asSome p3 fun a16 => grd ((decide (0 ≤ i9)) && (decide (i9 < ((n4 : Nat) : Int)))) (.act (ld1 (aadd a16 ((Int.toNat i9) * 1))) fun v17 => asInt .u64 v17 fun i18 => bif (i15 != i18) then (.ret .ret [(.bool false)]) else (.ret .normal [(.bool b12)])))) (T19k0 i9)) else (.ret (.exit 0) [(.int .i64 i9), (.bool b12)]))

noncomputable def T19k1 : Ex → List Value → Pg :=
  fun e27 l28 => sw e27 (.exit 0) (asCons l28 fun v29 l30 => asInt .i64 v29 fun i31 => asCons l30 fun v32 l33 => asBool v32 fun b34 => asNil l33 (.ret .ret [(.bool true)])) (sw e27 .ret (asCons l28 fun v35 l36 => asInt .i64 v35 fun i37 => asCons l36 fun v38 l39 => asBool v38 fun b40 => asNil l39 (.ret .ret [(.bool b40)])) (.fail))

/-- hindsight/hindsightlaw12.same -/
noncomputable def T19 (p0 : (Option Addr)) (n1 : Nat) (n2 : Nat) (p3 : (Option Addr)) (n4 : Nat) (n5 : Nat) : Pg :=
  bif (((n1 : Nat) : Int) != ((n4 : Nat) : Int)) then (.ret .ret [(.bool false)]) else (.loop [(.int .i64 0), (.bool false)] (T19b0 n1 p0 p3 n4) (T19k1))
theorem T19_eq (p0 : (Option Addr)) (n1 : Nat) (n2 : Nat) (p3 : (Option Addr)) (n4 : Nat) (n5 : Nat) : progOf PROG false 19 [(.slice p0 n1 n2), (.slice p3 n4 n5)] = T19 p0 n1 n2 p3 n4 n5 := by kernel_rfl


noncomputable def T20k0 (i6 : Int) : Ex → List Value → Pg :=
  fun e23 l24 => sw e23 .normal (asCons l24 fun v25 l26 => asSlice v25 fun p27 n28 n29 => asNil l26 (.ret .normal [(.int .i64 (wi64 (i6 + 1))), (.slice p27 n28 n29)])) (.fail)

noncomputable def T20b0 (n1 : Nat) (p0 : (Option Addr)) : List Value → Pg :=
  fun l3 => asCons l3 fun v4 l5 => asInt .i64 v4 fun i6 => asCons l5 fun v7 l8 => asSlice v7 fun p9 n10 n11 => asNil l8 (bif (decide (i6 < ((n1 : Nat) : Int))) then (.join (asSome p0 fun a12 => grd ((decide (0 ≤ i6)) && (decide (i6 < ((n1 : Nat) : Int)))) (.act (ld1 (aadd a12 ((Int.toNat i6) * 1))) fun v13 => asInt .u64 v13 fun i14 => .act (bdSl 1 1 [(.int .u64 i14)]) fun v15 => asSlice v15 fun p16 n17 n18 => .act (apS 1 8 p9 n10 n11 p16 n17 n18) fun v19 => asSlice v19 fun p20 n21 n22 => .ret .normal [(.slice p20 n21 n22)])) (T20k0 i6)) else (.ret (.exit 0) [(.int .i64 i6), (.slice p9 n10 n11)]))

noncomputable def T20k1 : Ex → List Value → Pg :=
  fun e30 l31 => sw e30 (.exit 0) (asCons l31 fun v32 l33 => asInt .i64 v32 fun i34 => asCons l33 fun v35 l36 => asSlice v35 fun p37 n38 n39 => asNil l36 (.ret .ret [(.slice p37 n38 n39)])) (.fail)

/-- hindsight/hindsightlaw12.words -/
noncomputable def T20 (p0 : (Option Addr)) (n1 : Nat) (n2 : Nat) : Pg :=
  .loop [(.int .i64 0), (.slice none 0 0)] (T20b0 n1 p0) (T20k1)
theorem T20_eq (p0 : (Option Addr)) (n1 : Nat) (n2 : Nat) : progOf PROG false 20 [(.slice p0 n1 n2)] = T20 p0 n1 n2 := by kernel_rfl


noncomputable def T21k0 (i15 : Int) : Ex → List Value → Pg :=
  fun e57 l58 => sw e57 .normal (asCons l58 fun v59 l60 => asSlice v59 fun p61 n62 n63 => asCons l60 fun v64 l65 => asSlice v64 fun p66 n67 n68 => asCons l65 fun v69 l70 => asSlice v69 fun p71 n72 n73 => asNil l70 (.ret .normal [(.int .i64 (wi64 (i15 + 1))), (.slice p61 n62 n63), (.slice p66 n67 n68), (.slice p71 n72 n73)])) (.fail)

noncomputable def T21b0 (n10 : Nat) (p9 : (Option Addr)) (p0 : (Option Addr)) : List Value → Pg :=
  fun l12 => asCons l12 fun v13 l14 => asInt .i64 v13 fun i15 => asCons l14 fun v16 l17 => asSlice v16 fun p18 n19 n20 => asCons l17 fun v21 l22 => asSlice v21 fun p23 n24 n25 => asCons l22 fun v26 l27 => asSlice v26 fun p28 n29 n30 => asNil l27 (bif (decide (i15 < ((n10 : Nat) : Int))) then (.join (asSome p9 fun a31 => grd ((decide (0 ≤ i15)) && (decide (i15 < ((n10 : Nat) : Int)))) (.act (ld1 (aadd a31 ((Int.toNat i15) * 1))) fun v32 => asInt .u64 v32 fun i33 => .call 45 [(.pointer p0), (.int .u64 i33), (.slice p28 n29 n30), (.slice p23 n24 n25), (.slice p18 n19 n20)] fun v34 => asTuple v34 fun l35 => asCons l35 fun v36 l37 => asInt .u64 v36 fun i38 => asCons l37 fun v39 l40 => asSlice v39 fun p41 n42 n43 => asCons l40 fun v44 l45 => asSlice v44 fun p46 n47 n48 => asCons l45 fun v49 l50 => asSlice v49 fun p51 n52 n53 => asNil l50 (asSome p9 fun a54 => grd ((decide (0 ≤ i15)) && (decide (i15 < ((n10 : Nat) : Int)))) (.act (stC (aadd a54 ((Int.toNat i15) * 1)) [(.int .u64 i38)]) fun v55 => asTuple v55 fun l56 => asNil l56 (.ret .normal [(.slice p51 n52 n53), (.slice p46 n47 n48), (.slice p41 n42 n43)]))))) (T21k0 i15)) else (.ret (.exit 0) [(.int .i64 i15), (.slice p18 n19 n20), (.slice p23 n24 n25), (.slice p28 n29 n30)]))

noncomputable def T21k1 (i133 : Int) : Ex → List Value → Pg :=
  fun e175 l176 => sw e175 .normal (asCons l176 fun v177 l178 => asSlice v177 fun p179 n180 n181 => asCons l178 fun v182 l183 => asSlice v182 fun p184 n185 n186 => asCons l183 fun v187 l188 => asSlice v187 fun p189 n190 n191 => asNil l188 (.ret .normal [(.int .i64 (wi64 (i133 + 1))), (.slice p179 n180 n181), (.slice p184 n185 n186), (.slice p189 n190 n191)])) (.fail)

noncomputable def T21b1 (i126 : Int) (i97 : Int) (p0 : (Option Addr)) : List Value → Pg :=
  fun l130 => asCons l130 fun v131 l132 => asInt .i64 v131 fun i133 => asCons l132 fun v134 l135 => asSlice v134 fun p136 n137 n138 => asCons l135 fun v139 l140 => asSlice v139 fun p141 n142 n143 => asCons l140 fun v144 l145 => asSlice v144 fun p146 n147 n148 => asNil l145 (bif (decide (i133 ≤ i126)) then (.join (asSome p146 fun a149 => grd ((decide (0 ≤ (wi64 (i97 + i133)))) && (decide ((wi64 (i97 + i133)) < ((n147 : Nat) : Int)))) (.act (ld1 (aadd a149 ((Int.toNat (wi64 (i97 + i133))) * 1))) fun v150 => asInt .u64 v150 fun i151 => .call 45 [(.pointer p0), (.int .u64 i151), (.slice p146 n147 n148), (.slice p141 n142 n143), (.slice p136 n137 n138)] fun v152 => asTuple v152 fun l153 => asCons l153 fun v154 l155 => asInt .u64 v154 fun i156 => asCons l155 fun v157 l158 => asSlice v157 fun p159 n160 n161 => asCons l158 fun v162 l163 => asSlice v162 fun p164 n165 n166 => asCons l163 fun v167 l168 => asSlice v167 fun p169 n170 n171 => asNil l168 (asSome p159 fun a172 => grd ((decide (0 ≤ (wi64 (i97 + i133)))) && (decide ((wi64 (i97 + i133)) < ((n160 : Nat) : Int)))) (.act (stC (aadd a172 ((Int.toNat (wi64 (i97 + i133))) * 1)) [(.int .u64 i156)]) fun v173 => asTuple v173 fun l174 => asNil l174 (.ret .normal [(.slice p169 n170 n171), (.slice p164 n165 n166), (.slice p159 n160 n161)]))))) (T21k1 i133)) else (.ret (.exit 4) [(.int .i64 i133), (.slice p136 n137 n138), (.slice p141 n142 n143), (.slice p146 n147 n148)]))

noncomputable def T21k2 (i97 : Int) (i126 : Int) : Ex → List Value → Pg :=
  fun e192 l193 => sw e192 (.exit 4) (asCons l193 fun v194 l195 => asInt .i64 v194 fun i196 => asCons l195 fun v197 l198 => asSlice v197 fun p199 n200 n201 => asCons l198 fun v202 l203 => asSlice v202 fun p204 n205 n206 => asCons l203 fun v207 l208 => asSlice v207 fun p209 n210 n211 => asNil l208 (.ret .normal [(.int .i64 (wi64 ((wi64 (i97 + i126)) + 1))), (.slice p199 n200 n201), (.slice p204 n205 n206), (.slice p209 n210 n211)])) (.fail)

noncomputable def T21k3 : Ex → List Value → Pg :=
  fun e212 l213 => sw e212 .normal (asCons l213 fun v214 l215 => asInt .i64 v214 fun i216 => asCons l215 fun v217 l218 => asSlice v217 fun p219 n220 n221 => asCons l218 fun v222 l223 => asSlice v222 fun p224 n225 n226 => asCons l223 fun v227 l228 => asSlice v227 fun p229 n230 n231 => asNil l228 (.ret .normal [(.int .i64 i216), (.slice p219 n220 n221), (.slice p224 n225 n226), (.slice p229 n230 n231)])) (.fail)

noncomputable def T21b2 (p0 : (Option Addr)) : List Value → Pg :=
  fun l94 => asCons l94 fun v95 l96 => asInt .i64 v95 fun i97 => asCons l96 fun v98 l99 => asSlice v98 fun p100 n101 n102 => asCons l99 fun v103 l104 => asSlice v103 fun p105 n106 n107 => asCons l104 fun v108 l109 => asSlice v108 fun p110 n111 n112 => asNil l109 (bif (decide (i97 < ((n111 : Nat) : Int))) then (.join (asSome p110 fun a113 => grd ((decide (0 ≤ i97)) && (decide (i97 < ((n111 : Nat) : Int)))) (.act (ld1 (aadd a113 ((Int.toNat i97) * 1))) fun v114 => asInt .u64 v114 fun i115 => .call 46 [(.int .u64 i115)] fun v116 => asTuple v116 fun l117 => asCons l117 fun v118 l119 => asInt .i64 v118 fun i120 => asCons l119 fun v121 l122 => asInt .i64 v121 fun i123 => asCons l122 fun v124 l125 => asInt .i64 v124 fun i126 => asCons l125 fun v127 l128 => asBool v127 fun b129 => asNil l128 (.loop [(.int .i64 1), (.slice p100 n101 n102), (.slice p105 n106 n107), (.slice p110 n111 n112)] (T21b1 i126 i97 p0) (T21k2 i97 i126)))) (T21k3)) else (.ret (.exit 2) [(.int .i64 i97), (.slice p100 n101 n102), (.slice p105 n106 n107), (.slice p110 n111 n112)]))

noncomputable def T21k4 (p0 : (Option Addr)) (p9 : (Option Addr)) (n10 : Nat) (n11 : Nat) : Ex → List Value → Pg :=
  fun e232 l233 => sw e232 (.exit 2) (asCons l233 fun v234 l235 => asInt .i64 v234 fun i236 => asCons l235 fun v237 l238 => asSlice v237 fun p239 n240 n241 => asCons l238 fun v242 l243 => asSlice v242 fun p244 n245 n246 => asCons l243 fun v247 l248 => asSlice v247 fun p249 n250 n251 => asNil l248 (asSome p0 fun a252 => .act (stC (aadd a252 1) [(.slice p249 n250 n251)]) fun v253 => asTuple v253 fun l254 => asNil l254 (asSome p0 fun a255 => .act (ld1 (aadd a255 2)) fun v256 => asInt .i64 v256 fun i257 => asSome p0 fun a258 => .act (stC (aadd a258 2) [(.int .i64 (wi64 (i257 + 1)))]) fun v259 => asTuple v259 fun l260 => asNil l260 (.ret .ret [(.slice p9 n10 n11)])))) (.fail)

noncomputable def T21k5 (p0 : (Option Addr)) (p9 : (Option Addr)) (n10 : Nat) (n11 : Nat) : Ex → List Value → Pg :=
  fun e74 l75 => sw e74 (.exit 0) (asCons l75 fun v76 l77 => asInt .i64 v76 fun i78 => asCons l77 fun v79 l80 => asSlice v79 fun p81 n82 n83 => asCons l80 fun v84 l85 => asSlice v84 fun p86 n87 n88 => asCons l85 fun v89 l90 => asSlice v89 fun p91 n92 n93 => asNil l90 (.loop [(.int .i64 0), (.slice p81 n82 n83), (.slice p86 n87 n88), (.slice p91 n92 n93)] (T21b2 p0) (T21k4 p0 p9 n10 n11))) (.fail)

/-- (*hindsight/hindsightref11.Heap).Collect -/
noncomputable def T21 (p0 : (Option Addr)) (p1 : (Option Addr)) (n2 : Nat) (n3 : Nat) : Pg :=
  .act (bdSl 1 0 []) fun v4 => asSlice v4 fun p5 n6 n7 => .act (apS 1 8 p5 n6 n7 p1 n2 n3) fun v8 => asSlice v8 fun p9 n10 n11 => .loop [(.int .i64 0), (.slice none 0 0), (.slice none 0 0), (.slice none 0 0)] (T21b0 n10 p9 p0) (T21k5 p0 p9 n10 n11)
theorem T21_eq (p0 : (Option Addr)) (p1 : (Option Addr)) (n2 : Nat) (n3 : Nat) : progOf PROG false 21 [(.pointer p0), (.slice p1 n2 n3)] = T21 p0 p1 n2 n3 := by kernel_rfl


/-- (*hindsight/heap.Heap).Get -/
noncomputable def T22 (p0 : (Option Addr)) (i1 : Int) (i2 : Int) : Pg :=
  .call 43 [(.pointer p0), (.int .u64 i1), (.int .i64 i2)] fun v3 => asTuple v3 fun l4 => asCons l4 fun v5 l6 => asPtr v5 fun p7 => asCons l6 fun v8 l9 => asInt .i64 v8 fun i10 => asNil l9 (bif (i10 != 0) then (.ret .ret [(.tuple #[(.int .u64 0), (.int .i64 i10)])]) else (asSome p7 fun a11 => .act (ld1 a11) fun v12 => asInt .u64 v12 fun i13 => .ret .ret [(.tuple #[(.int .u64 i13), (.int .i64 0)])]))
theorem T22_eq (p0 : (Option Addr)) (i1 : Int) (i2 : Int) : progOf PROG false 22 [(.pointer p0), (.int .u64 i1), (.int .i64 i2)] = T22 p0 i1 i2 := by kernel_rfl


/-- (*hindsight/hindsightref11.Heap).Get -/
noncomputable def T23 (p0 : (Option Addr)) (i1 : Int) (i2 : Int) : Pg :=
  .call 44 [(.pointer p0), (.int .u64 i1)] fun v3 => asTuple v3 fun l4 => asCons l4 fun v5 l6 => asInt .i64 v5 fun i7 => asCons l6 fun v8 l9 => asInt .i64 v8 fun i10 => asCons l9 fun v11 l12 => asBool v11 fun b13 => asNil l12 (bif (!b13) then (.ret .ret [(.tuple #[(.int .u64 0), (.int .i64 4)])]) else (bif ((decide (i2 < 0)) || (decide (i2 ≥ i10))) then (.ret .ret [(.tuple #[(.int .u64 0), (.int .i64 1)])]) else (asSome p0 fun a14 => .act (ld1 (aadd a14 1)) fun v15 => asSlice v15 fun p16 n17 n18 => asSome p16 fun a19 => grd ((decide (0 ≤ (wi64 ((wi64 (i7 + 1)) + i2)))) && (decide ((wi64 ((wi64 (i7 + 1)) + i2)) < ((n17 : Nat) : Int)))) (.act (ld1 (aadd a19 ((Int.toNat (wi64 ((wi64 (i7 + 1)) + i2))) * 1))) fun v20 => asInt .u64 v20 fun i21 => .ret .ret [(.tuple #[(.int .u64 i21), (.int .i64 0)])]))))
theorem T23_eq (p0 : (Option Addr)) (i1 : Int) (i2 : Int) : progOf PROG false 23 [(.pointer p0), (.int .u64 i1), (.int .i64 i2)] = T23 p0 i1 i2 := by kernel_rfl


/-- (*hindsight/heap.Heap).Head -/
noncomputable def T24 (p0 : (Option Addr)) (i1 : Int) : Pg :=
  .call 47 [(.pointer p0), (.int .u64 i1)] fun v2 => asTuple v2 fun l3 => asCons l3 fun v4 l5 => asInt .i64 v4 fun i6 => asCons l5 fun v7 l8 => asBool v7 fun b9 => asNil l8 (bif (!b9) then (.ret .ret [(.tuple #[(.int .i64 0), (.int .i64 0), (.int .i64 0), (.int .i64 4)])]) else (asSome p0 fun a10 => .act (ld1 (aadd a10 2)) fun v11 => asSlice v11 fun p12 n13 n14 => asSome p12 fun a15 => grd ((decide (0 ≤ i6)) && (decide (i6 < ((n13 : Nat) : Int)))) (.act (ld1 (aadd a15 ((Int.toNat i6) * 1))) fun v16 => asInt .u64 v16 fun i17 => .call 48 [(.int .u64 i17)] fun v18 => asTuple v18 fun l19 => asCons l19 fun v20 l21 => asInt .i64 v20 fun i22 => asCons l21 fun v23 l24 => asInt .i64 v23 fun i25 => asCons l24 fun v26 l27 => asInt .i64 v26 fun i28 => asCons l27 fun v29 l30 => asBool v29 fun b31 => asNil l30 (.ret .ret [(.tuple #[(.int .i64 i22), (.int .i64 i25), (.int .i64 i28), (.int .i64 0)])]))))
theorem T24_eq (p0 : (Option Addr)) (i1 : Int) : progOf PROG false 24 [(.pointer p0), (.int .u64 i1)] = T24 p0 i1 := by kernel_rfl


/-- (*hindsight/hindsightref11.Heap).Head -/
noncomputable def T25 (p0 : (Option Addr)) (i1 : Int) : Pg :=
  .call 44 [(.pointer p0), (.int .u64 i1)] fun v2 => asTuple v2 fun l3 => asCons l3 fun v4 l5 => asInt .i64 v4 fun i6 => asCons l5 fun v7 l8 => asInt .i64 v7 fun i9 => asCons l8 fun v10 l11 => asBool v10 fun b12 => asNil l11 (bif (!b12) then (.ret .ret [(.tuple #[(.int .i64 0), (.int .i64 0), (.int .i64 0), (.int .i64 4)])]) else (asSome p0 fun a13 => .act (ld1 (aadd a13 1)) fun v14 => asSlice v14 fun p15 n16 n17 => asSome p15 fun a18 => grd ((decide (0 ≤ i6)) && (decide (i6 < ((n16 : Nat) : Int)))) (.act (ld1 (aadd a18 ((Int.toNat i6) * 1))) fun v19 => asInt .u64 v19 fun i20 => .call 46 [(.int .u64 i20)] fun v21 => asTuple v21 fun l22 => asCons l22 fun v23 l24 => asInt .i64 v23 fun i25 => asCons l24 fun v26 l27 => asInt .i64 v26 fun i28 => asCons l27 fun v29 l30 => asInt .i64 v29 fun i31 => asCons l30 fun v32 l33 => asBool v32 fun b34 => asNil l33 (.ret .ret [(.tuple #[(.int .i64 i25), (.int .i64 i28), (.int .i64 i31), (.int .i64 0)])]))))
theorem T25_eq (p0 : (Option Addr)) (i1 : Int) : progOf PROG false 25 [(.pointer p0), (.int .u64 i1)] = T25 p0 i1 := by kernel_rfl


/-- (*hindsight/heap.Heap).Turns -/
noncomputable def T26 (p0 : (Option Addr)) : Pg :=
  asSome p0 fun a1 => .act (ld1 (aadd a1 1)) fun v2 => asInt .i64 v2 fun i3 => .ret .ret [(.int .i64 i3)]
theorem T26_eq (p0 : (Option Addr)) : progOf PROG false 26 [(.pointer p0)] = T26 p0 := by kernel_rfl


noncomputable def T27k0 (i23 : Int) : Ex → List Value → Pg :=
  fun e36 l37 => sw e36 .normal (asCons l37 fun v38 l39 => asSlice v38 fun p40 n41 n42 => asNil l39 (.ret .normal [(.int .i64 (wi64 (i23 + 1))), (.slice p40 n41 n42)])) (.fail)

noncomputable def T27b0 (n18 : Nat) (p17 : (Option Addr)) : List Value → Pg :=
  fun l20 => asCons l20 fun v21 l22 => asInt .i64 v21 fun i23 => asCons l22 fun v24 l25 => asSlice v24 fun p26 n27 n28 => asNil l25 (bif (decide (i23 < ((n18 : Nat) : Int))) then (.join (asSome p17 fun a29 => grd ((decide (0 ≤ i23)) && (decide (i23 < ((n18 : Nat) : Int)))) (.act (ld1 (aadd a29 ((Int.toNat i23) * 1))) fun v30 => asInt .u64 v30 fun i31 => .call 49 [(.slice p26 n27 n28), (.int .u64 i31)] fun v32 => asSlice v32 fun p33 n34 n35 => .ret .normal [(.slice p33 n34 n35)])) (T27k0 i23)) else (.ret (.exit 0) [(.int .i64 i23), (.slice p26 n27 n28)]))

noncomputable def T27k1 : Ex → List Value → Pg :=
  fun e43 l44 => sw e43 (.exit 0) (asCons l44 fun v45 l46 => asInt .i64 v45 fun i47 => asCons l46 fun v48 l49 => asSlice v48 fun p50 n51 n52 => asNil l49 (.ret .ret [(.slice p50 n51 n52)])) (.fail)

/-- (*hindsight/heap.Heap).Put -/
noncomputable def T27 (p0 : (Option Addr)) : Pg :=
  asSome p0 fun a1 => .act (ld1 (aadd a1 0)) fun v2 => asInt .i64 v2 fun i3 => .call 49 [(.slice none 0 0), (.int .u64 (wu64 i3))] fun v4 => asSlice v4 fun p5 n6 n7 => asSome p0 fun a8 => .act (ld1 (aadd a8 1)) fun v9 => asInt .i64 v9 fun i10 => .call 49 [(.slice p5 n6 n7), (.int .u64 (wu64 i10))] fun v11 => asSlice v11 fun p12 n13 n14 => asSome p0 fun a15 => .act (ld1 (aadd a15 2)) fun v16 => asSlice v16 fun p17 n18 n19 => .loop [(.int .i64 0), (.slice p12 n13 n14)] (T27b0 n18 p17) (T27k1)
theorem T27_eq (p0 : (Option Addr)) : progOf PROG false 27 [(.pointer p0)] = T27 p0 := by kernel_rfl


noncomputable def T28k0 (i19 : Int) : Ex → List Value → Pg :=
  fun e42 l43 => sw e42 .normal (asCons l43 fun v44 l45 => asSlice v44 fun p46 n47 n48 => asNil l45 (.ret .normal [(.int .i64 (wi64 (i19 + 1))), (.slice p46 n47 n48)])) (.fail)

noncomputable def T28b0 (p0 : (Option Addr)) : List Value → Pg :=
  fun l16 => asCons l16 fun v17 l18 => asInt .i64 v17 fun i19 => asCons l18 fun v20 l21 => asSlice v20 fun p22 n23 n24 => asNil l21 (asSome p0 fun a25 => .act (ld1 (aadd a25 1)) fun v26 => asSlice v26 fun p27 n28 n29 => bif (decide (i19 < ((n28 : Nat) : Int))) then (.join (asSome p0 fun a30 => .act (ld1 (aadd a30 1)) fun v31 => asSlice v31 fun p32 n33 n34 => asSome p32 fun a35 => grd ((decide (0 ≤ i19)) && (decide (i19 < ((n33 : Nat) : Int)))) (.act (ld1 (aadd a35 ((Int.toNat i19) * 1))) fun v36 => asInt .u64 v36 fun i37 => .call 50 [(.slice p22 n23 n24), (.int .u64 i37)] fun v38 => asSlice v38 fun p39 n40 n41 => .ret .normal [(.slice p39 n40 n41)])) (T28k0 i19)) else (.ret (.exit 0) [(.int .i64 i19), (.slice p22 n23 n24)]))

noncomputable def T28k1 : Ex → List Value → Pg :=
  fun e49 l50 => sw e49 (.exit 0) (asCons l50 fun v51 l52 => asInt .i64 v51 fun i53 => asCons l52 fun v54 l55 => asSlice v54 fun p56 n57 n58 => asNil l55 (.ret .ret [(.slice p56 n57 n58)])) (.fail)

/-- (*hindsight/hindsightref11.Heap).Put -/
noncomputable def T28 (p0 : (Option Addr)) : Pg :=
  asSome p0 fun a1 => .act (ld1 (aadd a1 0)) fun v2 => asInt .i64 v2 fun i3 => .get fun h5 => .call 50 [(.slice none 0 0), (.int .u64 (wu64 i3))] fun v4 => asSlice v4 fun p6 n7 n8 => asSome p0 fun a9 => .act (ld1 (aadd a9 2)) fun v10 => grd (past (ld1 (aadd a9 2)) v10 [h5]) (asInt .i64 v10 fun i11 => .call 50 [(.slice p6 n7 n8), (.int .u64 (wu64 i11))] fun v12 => asSlice v12 fun p13 n14 n15 => .loop [(.int .i64 0), (.slice p13 n14 n15)] (T28b0 p0) (T28k1))
theorem T28_eq (p0 : (Option Addr)) : progOf PROG false 28 [(.pointer p0)] = T28 p0 := by kernel_rfl


noncomputable def T29k0 (n27 : Nat) (n28 : Nat) (p26 : (Option Addr)) : Ex → List Value → Pg :=
  fun e44 l45 => sw e44 .normal (asCons l45 fun v46 l47 => asSlice v46 fun p48 n49 n50 => asNil l47 (grd ((((decide (8 ≤ ((n27 : Nat) : Int))) && (decide (((n27 : Nat) : Int) ≤ ((n28 : Nat) : Int)))) && (decide (((n28 : Nat) : Int) ≤ ((n28 : Nat) : Int)))) && ((mayCut p26 1) || false)) (.ret .normal [(.slice (cutS p26 8) (n27 - 8) (n28 - 8)), (.slice p48 n49 n50)]))) (.fail)

noncomputable def T29b0 : List Value → Pg :=
  fun l23 => asCons l23 fun v24 l25 => asSlice v24 fun p26 n27 n28 => asCons l25 fun v29 l30 => asSlice v29 fun p31 n32 n33 => asNil l30 (bif (decide (((n27 : Nat) : Int) > 0)) then (.join (.call 51 [(.slice p26 n27 n28)] fun v34 => asInt .u64 v34 fun i35 => .act (bdSl 1 1 [(.int .u64 i35)]) fun v36 => asSlice v36 fun p37 n38 n39 => .act (apS 1 8 p31 n32 n33 p37 n38 n39) fun v40 => asSlice v40 fun p41 n42 n43 => .ret .normal [(.slice p41 n42 n43)]) (T29k0 n27 n28 p26)) else (.ret (.exit 0) [(.slice p26 n27 n28), (.slice p31 n32 n33)]))

noncomputable def T29k1 (p16 : (Option Addr)) : Ex → List Value → Pg :=
  fun e51 l52 => sw e51 (.exit 0) (asCons l52 fun v53 l54 => asSlice v53 fun p55 n56 n57 => asCons l54 fun v58 l59 => asSlice v58 fun p60 n61 n62 => asNil l59 (.call 52 [(.pointer p16), (.slice p60 n61 n62)] fun v63 => asBool v63 fun b64 => bif (!b64) then (.ret .ret [(.tuple #[(.pointer none), (.int .i64 3)])]) else (.ret .ret [(.tuple #[(.pointer p16), (.int .i64 0)])]))) (.fail)

noncomputable def T29k2 (p0 : (Option Addr)) (n1 : Nat) (n2 : Nat) : Ex → List Value → Pg :=
  fun e3 l4 => sw e3 .normal (asCons l4 fun v5 l6 => asBool v5 fun b7 => asNil l6 (bif b7 then (.ret .ret [(.tuple #[(.pointer none), (.int .i64 3)])]) else (.call 51 [(.slice p0 n1 n2)] fun v8 => asInt .u64 v8 fun i9 => grd ((((decide (8 ≤ ((n1 : Nat) : Int))) && (decide (((n1 : Nat) : Int) ≤ ((n2 : Nat) : Int)))) && (decide (((n2 : Nat) : Int) ≤ ((n2 : Nat) : Int)))) && ((mayCut p0 1) || false)) (.call 51 [(.slice (cutS p0 8) (n1 - 8) (n2 - 8))] fun v10 => asInt .u64 v10 fun i11 => bif ((decide (i9 > 65536)) || (decide (i11 > 9223372036854775807))) then (.ret .ret [(.tuple #[(.pointer none), (.int .i64 3)])]) else (.call 10 [(.int .i64 (wi64 i9))] fun v12 => asTuple v12 fun l13 => asCons l13 fun v14 l15 => asPtr v14 fun p16 => asCons l15 fun v17 l18 => asInt .i64 v17 fun i19 => asNil l18 (bif (i19 != 0) then (.ret .ret [(.tuple #[(.pointer none), (.int .i64 3)])]) else (asSome p16 fun a20 => .act (stC (aadd a20 1) [(.int .i64 (wi64 i11))]) fun v21 => asTuple v21 fun l22 => asNil l22 (grd ((((decide (16 ≤ ((n1 : Nat) : Int))) && (decide (((n1 : Nat) : Int) ≤ ((n2 : Nat) : Int)))) && (decide (((n2 : Nat) : Int) ≤ ((n2 : Nat) : Int)))) && ((mayCut p0 1) || false)) (.loop [(.slice (cutS p0 16) (n1 - 16) (n2 - 16)), (.slice none 0 0)] (T29b0) (T29k1 p16)))))))))) (.fail)

/-- hindsight/heap.Load -/
noncomputable def T29 (p0 : (Option Addr)) (n1 : Nat) (n2 : Nat) : Pg :=
  .join (bif (decide (((n1 : Nat) : Int) < 16)) == false then (.ret .normal [(.bool ((Int.tmod ((n1 : Nat) : Int) 8) != 0))]) else (.ret .normal [(.bool true)])) (T29k2 p0 n1 n2)
theorem T29_eq (p0 : (Option Addr)) (n1 : Nat) (n2 : Nat) : progOf PROG false 29 [(.slice p0 n1 n2)] = T29 p0 n1 n2 := by kernel_rfl


noncomputable def T30k0 (i11 : Int) (p0 : (Option Addr)) (n1 : Nat) : Ex → List Value → Pg :=
  fun e25 l26 => sw e25 .normal (asCons l26 fun v27 l28 => asSlice v27 fun p29 n30 n31 => asNil l28 (asSome p29 fun a32 => grd ((decide (0 ≤ (wi64 (Int.tdiv i11 8)))) && (decide ((wi64 (Int.tdiv i11 8)) < ((n30 : Nat) : Int)))) (.act (ld1 (aadd a32 ((Int.toNat (wi64 (Int.tdiv i11 8))) * 1))) fun v33 => asInt .u64 v33 fun i34 => asSome p0 fun a35 => grd ((decide (0 ≤ i11)) && (decide (i11 < ((n1 : Nat) : Int)))) (.act (ld1 (aadd a35 ((Int.toNat i11) * 1))) fun v36 => asInt .u8 v36 fun i37 => asSome p29 fun a38 => grd ((decide (0 ≤ (wi64 (Int.tdiv i11 8)))) && (decide ((wi64 (Int.tdiv i11 8)) < ((n30 : Nat) : Int)))) (.act (stC (aadd a38 ((Int.toNat (wi64 (Int.tdiv i11 8))) * 1)) [(.int .u64 (orI .u64 (shlI .u64 i34 8) (wu64 i37)))]) fun v39 => asTuple v39 fun l40 => asNil l40 (.ret .normal [(.slice p29 n30 n31)])))))) (.fail)

noncomputable def T30k1 (i11 : Int) : Ex → List Value → Pg :=
  fun e41 l42 => sw e41 .normal (asCons l42 fun v43 l44 => asSlice v43 fun p45 n46 n47 => asNil l44 (.ret .normal [(.int .i64 (wi64 (i11 + 1))), (.slice p45 n46 n47)])) (.fail)

noncomputable def T30b0 (n1 : Nat) (p0 : (Option Addr)) : List Value → Pg :=
  fun l8 => asCons l8 fun v9 l10 => asInt .i64 v9 fun i11 => asCons l10 fun v12 l13 => asSlice v12 fun p14 n15 n16 => asNil l13 (bif (decide (i11 < ((n1 : Nat) : Int))) then (.join (.join (bif ((Int.tmod i11 8) == 0) then (.act (bdSl 1 1 [(.int .u64 0)]) fun v17 => asSlice v17 fun p18 n19 n20 => .act (apS 1 8 p14 n15 n16 p18 n19 n20) fun v21 => asSlice v21 fun p22 n23 n24 => .ret .normal [(.slice p22 n23 n24)]) else (.ret .normal [(.slice p14 n15 n16)])) (T30k0 i11 p0 n1)) (T30k1 i11)) else (.ret (.exit 0) [(.int .i64 i11), (.slice p14 n15 n16)]))

noncomputable def T30k2 (i87 : Int) (i115 : Int) (b90 : Bool) (p93 : (Option Addr)) : Ex → List Value → Pg :=
  fun e123 l124 => sw e123 .normal (asCons l124 fun v125 l126 => asBool v125 fun b127 => asNil l126 (bif b127 then (.ret .ret [(.int .i64 i87), (.bool false), (.pointer none)]) else (.ret .normal [(.int .i64 (wi64 ((wi64 (i87 + i115)) + 1))), (.bool b90), (.pointer p93)]))) (.fail)

noncomputable def T30k3 : Ex → List Value → Pg :=
  fun e128 l129 => sw e128 .ret (asCons l129 fun v130 l131 => asInt .i64 v130 fun i132 => asCons l131 fun v133 l134 => asBool v133 fun b135 => asCons l134 fun v136 l137 => asPtr v136 fun p138 => asNil l137 (.ret .ret [(.int .i64 i132), (.bool b135), (.pointer p138)])) (sw e128 .normal (asCons l129 fun v139 l140 => asInt .i64 v139 fun i141 => asCons l140 fun v142 l143 => asBool v142 fun b144 => asCons l143 fun v145 l146 => asPtr v145 fun p147 => asNil l146 (.ret .normal [(.int .i64 i141), (.bool b144), (.pointer p147)])) (.fail))

noncomputable def T30b1 (a83 : Addr) : List Value → Pg :=
  fun l84 => asCons l84 fun v85 l86 => asInt .i64 v85 fun i87 => asCons l86 fun v88 l89 => asBool v88 fun b90 => asCons l89 fun v91 l92 => asPtr v91 fun p93 => asNil l92 (.act (ld1 (aadd a83 1)) fun v94 => asSlice v94 fun p95 n96 n97 => bif (decide (i87 < ((n96 : Nat) : Int))) then (.join (.act (ld1 (aadd a83 1)) fun v98 => asSlice v98 fun p99 n100 n101 => asSome p99 fun a102 => grd ((decide (0 ≤ i87)) && (decide (i87 < ((n100 : Nat) : Int)))) (.act (ld1 (aadd a102 ((Int.toNat i87) * 1))) fun v103 => asInt .u64 v103 fun i104 => .call 46 [(.int .u64 i104)] fun v105 => asTuple v105 fun l106 => asCons l106 fun v107 l108 => asInt .i64 v107 fun i109 => asCons l108 fun v110 l111 => asInt .i64 v110 fun i112 => asCons l111 fun v113 l114 => asInt .i64 v113 fun i115 => asCons l114 fun v116 l117 => asBool v116 fun b118 => asNil l117 (.join (bif (!b118) == false then (.act (ld1 (aadd a83 1)) fun v119 => asSlice v119 fun p120 n121 n122 => .ret .normal [(.bool (decide ((wi64 (i87 + i115)) ≥ ((n121 : Nat) : Int))))]) else (.ret .normal [(.bool true)])) (T30k2 i87 i115 b90 p93)))) (T30k3)) else (.ret (.exit 2) [(.int .i64 i87), (.bool b90), (.pointer p93)]))

noncomputable def T30k4 (i197 : Int) : Ex → List Value → Pg :=
  fun e213 l214 => sw e213 .ret (asCons l214 fun v215 l216 => asBool v215 fun b217 => asCons l216 fun v218 l219 => asPtr v218 fun p220 => asNil l219 (.ret .ret [(.int .i64 i197), (.bool b217), (.pointer p220)])) (sw e213 .normal (asCons l214 fun v221 l222 => asBool v221 fun b223 => asCons l222 fun v224 l225 => asPtr v224 fun p226 => asNil l225 (.ret .normal [(.int .i64 (wi64 (i197 + 1))), (.bool b223), (.pointer p226)])) (.fail))

noncomputable def T30b2 (i190 : Int) (a83 : Addr) (i162 : Int) : List Value → Pg :=
  fun l194 => asCons l194 fun v195 l196 => asInt .i64 v195 fun i197 => asCons l196 fun v198 l199 => asBool v198 fun b200 => asCons l199 fun v201 l202 => asPtr v201 fun p203 => asNil l202 (bif (decide (i197 ≤ i190)) then (.join (.act (ld1 (aadd a83 1)) fun v204 => asSlice v204 fun p205 n206 n207 => asSome p205 fun a208 => grd ((decide (0 ≤ (wi64 (i162 + i197)))) && (decide ((wi64 (i162 + i197)) < ((n206 : Nat) : Int)))) (.act (ld1 (aadd a208 ((Int.toNat (wi64 (i162 + i197))) * 1))) fun v209 => asInt .u64 v209 fun i210 => .call 41 [(.pointer (some a83)), (.int .u64 i210)] fun v211 => asBool v211 fun b212 => bif (!b212) then (.ret .ret [(.bool false), (.pointer none)]) else (.ret .normal [(.bool b200), (.pointer p203)]))) (T30k4 i197)) else (.ret (.exit 6) [(.int .i64 i197), (.bool b200), (.pointer p203)]))

noncomputable def T30k5 (i162 : Int) (i190 : Int) : Ex → List Value → Pg :=
  fun e227 l228 => sw e227 (.exit 6) (asCons l228 fun v229 l230 => asInt .i64 v229 fun i231 => asCons l230 fun v232 l233 => asBool v232 fun b234 => asCons l233 fun v235 l236 => asPtr v235 fun p237 => asNil l236 (.ret .normal [(.int .i64 (wi64 ((wi64 (i162 + i190)) + 1))), (.bool b234), (.pointer p237)])) (sw e227 .ret (asCons l228 fun v238 l239 => asInt .i64 v238 fun i240 => asCons l239 fun v241 l242 => asBool v241 fun b243 => asCons l242 fun v244 l245 => asPtr v244 fun p246 => asNil l245 (.ret .ret [(.int .i64 i162), (.bool b243), (.pointer p246)])) (.fail))

noncomputable def T30k6 : Ex → List Value → Pg :=
  fun e247 l248 => sw e247 .ret (asCons l248 fun v249 l250 => asInt .i64 v249 fun i251 => asCons l250 fun v252 l253 => asBool v252 fun b254 => asCons l253 fun v255 l256 => asPtr v255 fun p257 => asNil l256 (.ret .ret [(.int .i64 i251), (.bool b254), (.pointer p257)])) (sw e247 .normal (asCons l248 fun v258 l259 => asInt .i64 v258 fun i260 => asCons l259 fun v261 l262 => asBool v261 fun b263 => asCons l262 fun v264 l265 => asPtr v264 fun p266 => asNil l265 (.ret .normal [(.int .i64 i260), (.bool b263), (.pointer p266)])) (.fail))

noncomputable def T30b3 (a83 : Addr) : List Value → Pg :=
  fun l159 => asCons l159 fun v160 l161 => asInt .i64 v160 fun i162 => asCons l161 fun v163 l164 => asBool v163 fun b165 => asCons l164 fun v166 l167 => asPtr v166 fun p168 => asNil l167 (.act (ld1 (aadd a83 1)) fun v169 => asSlice v169 fun p170 n171 n172 => bif (decide (i162 < ((n171 : Nat) : Int))) then (.join (.act (ld1 (aadd a83 1)) fun v173 => asSlice v173 fun p174 n175 n176 => asSome p174 fun a177 => grd ((decide (0 ≤ i162)) && (decide (i162 < ((n175 : Nat) : Int)))) (.act (ld1 (aadd a177 ((Int.toNat i162) * 1))) fun v178 => asInt .u64 v178 fun i179 => .call 46 [(.int .u64 i179)] fun v180 => asTuple v180 fun l181 => asCons l181 fun v182 l183 => asInt .i64 v182 fun i184 => asCons l183 fun v185 l186 => asInt .i64 v185 fun i187 => asCons l186 fun v188 l189 => asInt .i64 v188 fun i190 => asCons l189 fun v191 l192 => asBool v191 fun b193 => asNil l192 (.loop [(.int .i64 1), (.bool b165), (.pointer p168)] (T30b2 i190 a83 i162) (T30k5 i162 i190)))) (T30k6)) else (.ret (.exit 4) [(.int .i64 i162), (.bool b165), (.pointer p168)]))

noncomputable def T30k7 (a83 : Addr) : Ex → List Value → Pg :=
  fun e267 l268 => sw e267 (.exit 4) (asCons l268 fun v269 l270 => asInt .i64 v269 fun i271 => asCons l270 fun v272 l273 => asBool v272 fun b274 => asCons l273 fun v275 l276 => asPtr v275 fun p277 => asNil l276 (.ret .ret [(.tuple #[(.pointer (some a83)), (.bool true)])])) (sw e267 .ret (asCons l268 fun v278 l279 => asInt .i64 v278 fun i280 => asCons l279 fun v281 l282 => asBool v281 fun b283 => asCons l282 fun v284 l285 => asPtr v284 fun p286 => asNil l285 (.ret .ret [(.tuple #[(.pointer p286), (.bool b283)])])) (.fail))

noncomputable def T30k8 (a83 : Addr) : Ex → List Value → Pg :=
  fun e148 l149 => sw e148 (.exit 2) (asCons l149 fun v150 l151 => asInt .i64 v150 fun i152 => asCons l151 fun v153 l154 => asBool v153 fun b155 => asCons l154 fun v156 l157 => asPtr v156 fun p158 => asNil l157 (.loop [(.int .i64 0), (.bool b155), (.pointer p158)] (T30b3 a83) (T30k7 a83))) (sw e148 .ret (asCons l149 fun v287 l288 => asInt .i64 v287 fun i289 => asCons l288 fun v290 l291 => asBool v290 fun b292 => asCons l291 fun v293 l294 => asPtr v293 fun p295 => asNil l294 (.ret .ret [(.tuple #[(.pointer p295), (.bool b292)])])) (.fail))

noncomputable def T30k9 (p55 : (Option Addr)) (n56 : Nat) (n57 : Nat) : Ex → List Value → Pg :=
  fun e70 l71 => sw e70 .normal (asCons l71 fun v72 l73 => asBool v72 fun b74 => asNil l73 (bif b74 then (.ret .ret [(.tuple #[(.pointer none), (.bool false)])]) else (asSome p55 fun a75 => grd (decide (0 < ((n56 : Nat) : Int))) (.act (ld1 (aadd a75 0)) fun v76 => asInt .u64 v76 fun i77 => grd ((((decide (2 ≤ ((n56 : Nat) : Int))) && (decide (((n56 : Nat) : Int) ≤ ((n57 : Nat) : Int)))) && (decide (((n57 : Nat) : Int) ≤ ((n57 : Nat) : Int)))) && ((mayCut p55 1) || false)) (asSome p55 fun a78 => grd (decide (1 < ((n56 : Nat) : Int))) (.act (ld1 (aadd a78 1)) fun v79 => asInt .u64 v79 fun i80 => .act (newC [(.int .i64 (wi64 i77)), (.slice (cutS p55 2) (n56 - 2) (n57 - 2)), (.int .i64 (wi64 i80))]) fun v81 => asPtr v81 fun p82 => asSome p82 fun a83 => .loop [(.int .i64 0), (.bool false), (.pointer none)] (T30b1 a83) (T30k8 a83))))))) (.fail)

noncomputable def T30k10 : Ex → List Value → Pg :=
  fun e48 l49 => sw e48 (.exit 0) (asCons l49 fun v50 l51 => asInt .i64 v50 fun i52 => asCons l51 fun v53 l54 => asSlice v53 fun p55 n56 n57 => asNil l54 (.join (asSome p55 fun a58 => grd (decide (0 < ((n56 : Nat) : Int))) (.act (ld1 (aadd a58 0)) fun v59 => asInt .u64 v59 fun i60 => bif (decide (i60 < 16)) == false then (asSome p55 fun a61 => grd (decide (0 < ((n56 : Nat) : Int))) (.act (ld1 (aadd a61 0)) fun v62 => asInt .u64 v62 fun i63 => bif (decide (i63 > 65536)) == false then (asSome p55 fun a64 => grd (decide (1 < ((n56 : Nat) : Int))) (.act (ld1 (aadd a64 1)) fun v65 => asInt .u64 v65 fun i66 => bif (decide (i66 > 9223372036854775807)) == false then (asSome p55 fun a67 => grd (decide (0 < ((n56 : Nat) : Int))) (.act (ld1 (aadd a67 0)) fun v68 => asInt .u64 v68 fun i69 => .ret .normal [(.bool (decide ((wu64 (wi64 (((n56 : Nat) : Int) - 2))) > i69)))])) else (.ret .normal [(.bool true)]))) else (.ret .normal [(.bool true)]))) else (.ret .normal [(.bool true)]))) (T30k9 p55 n56 n57))) (.fail)

noncomputable def T30k11 (n1 : Nat) (p0 : (Option Addr)) : Ex → List Value → Pg :=
  fun e3 l4 => sw e3 .normal (asCons l4 fun v5 l6 => asBool v5 fun b7 => asNil l6 (bif b7 then (.ret .ret [(.tuple #[(.pointer none), (.bool false)])]) else (.loop [(.int .i64 0), (.slice none 0 0)] (T30b0 n1 p0) (T30k10)))) (.fail)

/-- hindsight/hindsightref11.Load -/
noncomputable def T30 (p0 : (Option Addr)) (n1 : Nat) (n2 : Nat) : Pg :=
  .join (bif (decide (((n1 : Nat) : Int) < 16)) == false then (.ret .normal [(.bool ((Int.tmod ((n1 : Nat) : Int) 8) != 0))]) else (.ret .normal [(.bool true)])) (T30k11 n1 p0)
theorem T30_eq (p0 : (Option Addr)) (n1 : Nat) (n2 : Nat) : progOf PROG false 30 [(.slice p0 n1 n2)] = T30 p0 n1 n2 := by kernel_rfl


/-- hindsight/word.Ptr -/
noncomputable def T31 (i0 : Int) : Pg :=
  .ret .ret [(.int .u64 (shlI .u64 (wu64 (minV (maxV i0 0) 2147483647)) 1))]
theorem T31_eq (i0 : Int) : progOf PROG false 31 [(.int .i64 i0)] = T31 i0 := by kernel_rfl


/-- hindsight/word.Head -/
noncomputable def T33 (i0 : Int) (i1 : Int) (i2 : Int) : Pg :=
  bif ((((((decide (i0 < 1)) || (decide (i0 > 3))) || (decide (i1 < 0))) || (decide (i1 > 255))) || (decide (i2 < 0))) || (decide (i2 > 65535))) then (.ret .ret [(.tuple #[(.int .u64 0), (.bool false)])]) else (.call 11 [(.int .i64 (orI .i64 (orI .i64 i2 (shlI .i64 i1 16)) (shlI .i64 i0 24)))] fun v3 => asInt .u64 v3 fun i4 => .ret .ret [(.tuple #[(.int .u64 i4), (.bool true)])])
theorem T33_eq (i0 : Int) (i1 : Int) (i2 : Int) : progOf PROG false 33 [(.int .i64 i0), (.int .i64 i1), (.int .i64 i2)] = T33 i0 i1 i2 := by kernel_rfl


/-- slices.ContainsFunc[[]hindsight/word.Word,hindsight/word.Word] -/
noncomputable def T34 (p0 : (Option Addr)) (n1 : Nat) (n2 : Nat) (v3 : Value) : Pg :=
  .call 53 [(.slice p0 n1 n2), v3] fun v4 => asInt .i64 v4 fun i5 => .ret .ret [(.bool (decide (i5 ≥ 0)))]
theorem T34_eq (p0 : (Option Addr)) (n1 : Nat) (n2 : Nat) (v3 : Value) : progOf PROG false 34 [(.slice p0 n1 n2), v3] = T34 p0 n1 n2 v3 := by kernel_rfl


/-- (*hindsight/heap.Heap).Make$1 -/
noncomputable def T35 (i0 : Int) (a1 : Addr) : Pg :=
  .act (ld1 a1) fun v2 => asPtr v2 fun p3 => .call 36 [(.pointer p3), (.int .u64 i0)] fun v4 => asBool v4 fun b5 => .ret .ret [(.bool (!b5))]
theorem T35_eq (i0 : Int) (a1 : Addr) : progOf PROG false 35 [(.int .u64 i0), (.pointer (some a1))] = T35 i0 a1 := by kernel_rfl


/-- (*hindsight/heap.Heap).may -/
noncomputable def T36 (p0 : (Option Addr)) (i1 : Int) : Pg :=
  .call 54 [(.int .u64 i1)] fun v2 => asTuple v2 fun l3 => asCons l3 fun v4 l5 => asInt .i64 v4 fun i6 => asCons l5 fun v7 l8 => asBool v7 fun b9 => asNil l8 (bif b9 then (.ret .ret [(.bool true)]) else (.call 47 [(.pointer p0), (.int .u64 i1)] fun v10 => asTuple v10 fun l11 => asCons l11 fun v12 l13 => asInt .i64 v12 fun i14 => asCons l13 fun v15 l16 => asBool v15 fun b17 => asNil l16 (.ret .ret [(.bool b17)])))
theorem T36_eq (p0 : (Option Addr)) (i1 : Int) : progOf PROG false 36 [(.pointer p0), (.int .u64 i1)] = T36 p0 i1 := by kernel_rfl


/-- (*hindsight/heap.Heap).Fits -/
noncomputable def T37 (p0 : (Option Addr)) (i1 : Int) : Pg :=
  asSome p0 fun a2 => .act (ld1 (aadd a2 0)) fun v3 => asInt .i64 v3 fun i4 => asSome p0 fun a5 => .act (ld1 (aadd a5 2)) fun v6 => asSlice v6 fun p7 n8 n9 => .ret .ret [(.bool (decide (i1 < (wi64 (i4 - ((n8 : Nat) : Int))))))]
theorem T37_eq (p0 : (Option Addr)) (i1 : Int) : progOf PROG false 37 [(.pointer p0), (.int .i64 i1)] = T37 p0 i1 := by kernel_rfl


/-- (*hindsight/heap.Heap).put -/
noncomputable def T38 (p0 : (Option Addr)) (i1 : Int) (p2 : (Option Addr)) (n3 : Nat) (n4 : Nat) : Pg :=
  asSome p0 fun a5 => .act (ld1 (aadd a5 2)) fun v6 => asSlice v6 fun p7 n8 n9 => asSome p0 fun a10 => .act (ld1 (aadd a10 2)) fun v11 => asSlice v11 fun p12 n13 n14 => .act (bdSl 1 1 [(.int .u64 i1)]) fun v15 => asSlice v15 fun p16 n17 n18 => .act (apS 1 8 p12 n13 n14 p16 n17 n18) fun v19 => asSlice v19 fun p20 n21 n22 => .act (apS 1 8 p20 n21 n22 p2 n3 n4) fun v23 => asSlice v23 fun p24 n25 n26 => asSome p0 fun a27 => .act (stC (aadd a27 2) [(.slice p24 n25 n26)]) fun v28 => asTuple v28 fun l29 => asNil l29 (asSome p0 fun a30 => .act (ld1 (aadd a30 3)) fun v31 => asSlice v31 fun p32 n33 n34 => .act (apI 1 1 p32 n33 n34 [(.bool false)] (wi64 (((n3 : Nat) : Int) + 1))) fun v35 => asSlice v35 fun p36 n37 n38 => asSome p0 fun a39 => .act (stC (aadd a39 3) [(.slice p36 n37 n38)]) fun v40 => asTuple v40 fun l41 => asNil l41 (asSome p0 fun a42 => .act (ld1 (aadd a42 3)) fun v43 => asSlice v43 fun p44 n45 n46 => asSome p44 fun a47 => grd (decide (((n8 : Nat) : Int) < ((n45 : Nat) : Int))) (.act (stC (aadd a47 (n8 * 1)) [(.bool true)]) fun v48 => asTuple v48 fun l49 => asNil l49 (.call 31 [(.int .i64 ((n8 : Nat) : Int))] fun v50 => asInt .u64 v50 fun i51 => .ret .ret [(.int .u64 i51)]))))
theorem T38_eq (p0 : (Option Addr)) (i1 : Int) (p2 : (Option Addr)) (n3 : Nat) (n4 : Nat) : progOf PROG false 38 [(.pointer p0), (.int .u64 i1), (.slice p2 n3 n4)] = T38 p0 i1 p2 n3 n4 := by kernel_rfl


noncomputable def T39k0 : Ex → List Value → Pg :=
  fun e53 l54 => sw e53 .normal (asCons l54 fun v55 l56 => asInt .u64 v55 fun i57 => asNil l56 (.ret .ret [(.int .u64 i57)])) (.fail)

/-- (*hindsight/heap.mover).moved -/
noncomputable def T39 (p0 : (Option Addr)) (i1 : Int) : Pg :=
  asSome p0 fun a2 => .act (ld1 (aadd a2 0)) fun v3 => asPtr v3 fun p4 => .call 47 [(.pointer p4), (.int .u64 i1)] fun v5 => asTuple v5 fun l6 => asCons l6 fun v7 l8 => asInt .i64 v7 fun i9 => asCons l8 fun v10 l11 => asBool v10 fun b12 => asNil l11 (bif (!b12) then (.ret .ret [(.int .u64 i1)]) else (asSome p0 fun a13 => .act (ld1 (aadd a13 2)) fun v14 => asMap v14 fun m15 => .act (lkp (.int .i64) (.int .u64 0) m15 (.int .i64 i9) true) fun v16 => asTuple v16 fun l17 => asCons l17 fun v18 l19 => asInt .u64 v18 fun i20 => asCons l19 fun v21 l22 => asBool v21 fun b23 => asNil l22 (.join (bif (!b23) then (asSome p0 fun a24 => .act (ld1 (aadd a24 1)) fun v25 => asPtr v25 fun p26 => asSome p0 fun a27 => .act (ld1 (aadd a27 0)) fun v28 => asPtr v28 fun p29 => asSome p29 fun a30 => .act (ld1 (aadd a30 2)) fun v31 => asSlice v31 fun p32 n33 n34 => asSome p32 fun a35 => grd ((decide (0 ≤ i9)) && (decide (i9 < ((n33 : Nat) : Int)))) (.act (ld1 (aadd a35 ((Int.toNat i9) * 1))) fun v36 => asInt .u64 v36 fun i37 => asSome p0 fun a38 => .act (ld1 (aadd a38 0)) fun v39 => asPtr v39 fun p40 => .call 55 [(.pointer p40), (.int .i64 i9)] fun v41 => asSlice v41 fun p42 n43 n44 => .get fun h52 => grd (chks [((ld1 (aadd a35 ((Int.toNat i9) * 1))), v36), ((ld1 (aadd a30 2)), v31), ((ld1 (aadd a27 0)), v28), ((ld1 (aadd a24 1)), v25)] h52) (.call 38 [(.pointer p26), (.int .u64 i37), (.slice p42 n43 n44)] fun v45 => asInt .u64 v45 fun i46 => asSome p0 fun a47 => .act (ld1 (aadd a47 2)) fun v48 => asMap v48 fun m49 => .act (mup (.int .i64) m49 (.int .i64 i9) (.int .u64 i46)) fun v50 => asTuple v50 fun l51 => asNil l51 (.ret .normal [(.int .u64 i46)])))) else (.ret .normal [(.int .u64 i20)])) (T39k0))))
theorem T39_eq (p0 : (Option Addr)) (i1 : Int) : progOf PROG false 39 [(.pointer p0), (.int .u64 i1)] = T39 p0 i1 := by kernel_rfl


/-- hindsight/hindsightref11.Head -/
noncomputable def T40 (i0 : Int) (i1 : Int) (i2 : Int) : Pg :=
  bif ((((((decide (i0 < 1)) || (decide (i0 > 3))) || (decide (i1 < 0))) || (decide (i1 > 255))) || (decide (i2 < 0))) || (decide (i2 > 65535))) then (.ret .ret [(.tuple #[(.int .u64 0), (.bool false)])]) else (.ret .ret [(.tuple #[(.int .u64 (wu64 ((wu64 ((wu64 (wi64 ((wi64 (i2 + (wi64 (i1 * 65536)))) + (wi64 (i0 * 16777216))))) * 2)) + 1))), (.bool true)])])
theorem T40_eq (i0 : Int) (i1 : Int) (i2 : Int) : progOf PROG false 40 [(.int .i64 i0), (.int .i64 i1), (.int .i64 i2)] = T40 i0 i1 i2 := by kernel_rfl


/-- (*hindsight/hindsightref11.Heap).word -/
noncomputable def T41 (p0 : (Option Addr)) (i1 : Int) : Pg :=
  .call 44 [(.pointer p0), (.int .u64 i1)] fun v2 => asTuple v2 fun l3 => asCons l3 fun v4 l5 => asInt .i64 v4 fun i6 => asCons l5 fun v7 l8 => asInt .i64 v7 fun i9 => asCons l8 fun v10 l11 => asBool v10 fun b12 => asNil l11 (.ret .ret [(.bool (((Int.tmod i1 2) == 1) || b12))])
theorem T41_eq (p0 : (Option Addr)) (i1 : Int) : progOf PROG false 41 [(.pointer p0), (.int .u64 i1)] = T41 p0 i1 := by kernel_rfl


noncomputable def T42k0 : Ex → List Value → Pg :=
  fun e6 l7 => sw e6 .normal (asCons l7 fun v8 l9 => asInt .i64 v8 fun i10 => asNil l9 (.ret .ret [(.int .u64 (wu64 ((wu64 i10) * 2)))])) (.fail)

noncomputable def T42k1 : Ex → List Value → Pg :=
  fun e1 l2 => sw e1 .normal (asCons l2 fun v3 l4 => asInt .i64 v3 fun i5 => asNil l4 (.join (bif (decide (i5 > 2147483647)) then (.ret .normal [(.int .i64 2147483647)]) else (.ret .normal [(.int .i64 i5)])) (T42k0))) (.fail)

/-- hindsight/hindsightref11.Ptr -/
noncomputable def T42 (i0 : Int) : Pg :=
  .join (bif (decide (i0 < 0)) then (.ret .normal [(.int .i64 0)]) else (.ret .normal [(.int .i64 i0)])) (T42k1)
theorem T42_eq (i0 : Int) : progOf PROG false 42 [(.int .i64 i0)] = T42 i0 := by kernel_rfl


noncomputable def T43k0 (p12 : (Option Addr)) (i2 : Int) (n13 : Nat) : Ex → List Value → Pg :=
  fun e15 l16 => sw e15 .normal (asCons l16 fun v17 l18 => asBool v17 fun b19 => asNil l18 (bif b19 then (.ret .ret [(.tuple #[(.pointer none), (.int .i64 1)])]) else (asSome p12 fun a20 => grd ((decide (0 ≤ i2)) && (decide (i2 < ((n13 : Nat) : Int)))) (.ret .ret [(.tuple #[(.pointer (some (aadd a20 ((Int.toNat i2) * 1)))), (.int .i64 0)])])))) (.fail)

/-- (*hindsight/heap.Heap).find -/
noncomputable def T43 (p0 : (Option Addr)) (i1 : Int) (i2 : Int) : Pg :=
  .call 47 [(.pointer p0), (.int .u64 i1)] fun v3 => asTuple v3 fun l4 => asCons l4 fun v5 l6 => asInt .i64 v5 fun i7 => asCons l6 fun v8 l9 => asBool v8 fun b10 => asNil l9 (bif (!b10) then (.ret .ret [(.tuple #[(.pointer none), (.int .i64 4)])]) else (.call 55 [(.pointer p0), (.int .i64 i7)] fun v11 => asSlice v11 fun p12 n13 n14 => .join (bif (decide (i2 < 0)) == false then (.ret .normal [(.bool (decide (i2 ≥ ((n13 : Nat) : Int))))]) else (.ret .normal [(.bool true)])) (T43k0 p12 i2 n13)))
theorem T43_eq (p0 : (Option Addr)) (i1 : Int) (i2 : Int) : progOf PROG false 43 [(.pointer p0), (.int .u64 i1), (.int .i64 i2)] = T43 p0 i1 i2 := by kernel_rfl


noncomputable def T44k0 : Ex → List Value → Pg :=
  fun e50 l51 => sw e50 .ret (asCons l51 fun v52 l53 => asInt .i64 v52 fun i54 => asCons l53 fun v55 l56 => asBool v55 fun b57 => asCons l56 fun v58 l59 => asInt .i64 v58 fun i60 => asCons l59 fun v61 l62 => asInt .i64 v61 fun i63 => asNil l62 (.ret .ret [(.int .i64 i54), (.bool b57), (.int .i64 i60), (.int .i64 i63)])) (sw e50 .normal (asCons l51 fun v64 l65 => asInt .i64 v64 fun i66 => asCons l65 fun v67 l68 => asBool v67 fun b69 => asCons l68 fun v70 l71 => asInt .i64 v70 fun i72 => asCons l71 fun v73 l74 => asInt .i64 v73 fun i75 => asNil l74 (.ret .normal [(.int .i64 i66), (.bool b69), (.int .i64 i72), (.int .i64 i75)])) (.fail))

noncomputable def T44b0 (p0 : (Option Addr)) (i6 : Int) : List Value → Pg :=
  fun l10 => asCons l10 fun v11 l12 => asInt .i64 v11 fun i13 => asCons l12 fun v14 l15 => asBool v14 fun b16 => asCons l15 fun v17 l18 => asInt .i64 v17 fun i19 => asCons l18 fun v20 l21 => asInt .i64 v20 fun i22 => asNil l21 (asSome p0 fun a23 => .act (ld1 (aadd a23 1)) fun v24 => asSlice v24 fun p25 n26 n27 => bif (decide (i13 < ((n26 : Nat) : Int))) then (.join (asSome p0 fun a28 => .act (ld1 (aadd a28 1)) fun v29 => asSlice v29 fun p30 n31 n32 => asSome p30 fun a33 => grd ((decide (0 ≤ i13)) && (decide (i13 < ((n31 : Nat) : Int)))) (.act (ld1 (aadd a33 ((Int.toNat i13) * 1))) fun v34 => asInt .u64 v34 fun i35 => .call 46 [(.int .u64 i35)] fun v36 => asTuple v36 fun l37 => asCons l37 fun v38 l39 => asInt .i64 v38 fun i40 => asCons l39 fun v41 l42 => asInt .i64 v41 fun i43 => asCons l42 fun v44 l45 => asInt .i64 v44 fun i46 => asCons l45 fun v47 l48 => asBool v47 fun b49 => asNil l48 (bif (i13 == i6) then (.ret .ret [(.int .i64 i13), (.bool true), (.int .i64 i46), (.int .i64 i13)]) else (.ret .normal [(.int .i64 (wi64 ((wi64 (i13 + i46)) + 1))), (.bool b16), (.int .i64 i19), (.int .i64 i22)])))) (T44k0)) else (.ret (.exit 0) [(.int .i64 i13), (.bool b16), (.int .i64 i19), (.int .i64 i22)]))

noncomputable def T44k1 : Ex → List Value → Pg :=
  fun e76 l77 => sw e76 (.exit 0) (asCons l77 fun v78 l79 => asInt .i64 v78 fun i80 => asCons l79 fun v81 l82 => asBool v81 fun b83 => asCons l82 fun v84 l85 => asInt .i64 v84 fun i86 => asCons l85 fun v87 l88 => asInt .i64 v87 fun i89 => asNil l88 (.ret .ret [(.tuple #[(.int .i64 0), (.int .i64 0), (.bool false)])])) (sw e76 .ret (asCons l77 fun v90 l91 => asInt .i64 v90 fun i92 => asCons l91 fun v93 l94 => asBool v93 fun b95 => asCons l94 fun v96 l97 => asInt .i64 v96 fun i98 => asCons l97 fun v99 l100 => asInt .i64 v99 fun i101 => asNil l100 (.ret .ret [(.tuple #[(.int .i64 i101), (.int .i64 i98), (.bool b95)])])) (.fail))

/-- (*hindsight/hindsightref11.Heap).thing -/
noncomputable def T44 (p0 : (Option Addr)) (i1 : Int) : Pg :=
  .call 56 [(.int .u64 i1)] fun v2 => asTuple v2 fun l3 => asCons l3 fun v4 l5 => asInt .i64 v4 fun i6 => asCons l5 fun v7 l8 => asBool v7 fun b9 => asNil l8 (bif (!b9) then (.ret .ret [(.tuple #[(.int .i64 0), (.int .i64 0), (.bool false)])]) else (.loop [(.int .i64 0), (.bool false), (.int .i64 0), (.int .i64 0)] (T44b0 p0 i6) (T44k1)))
theorem T44_eq (p0 : (Option Addr)) (i1 : Int) : progOf PROG false 44 [(.pointer p0), (.int .u64 i1)] = T44 p0 i1 := by kernel_rfl


noncomputable def T45k0 (i25 : Int) : Ex → List Value → Pg :=
  fun e52 l53 => sw e52 .ret (asCons l53 fun v54 l55 => asSlice v54 fun p56 n57 n58 => asCons l55 fun v59 l60 => asSlice v59 fun p61 n62 n63 => asCons l60 fun v64 l65 => asSlice v64 fun p66 n67 n68 => asCons l65 fun v69 l70 => asInt .u64 v69 fun i71 => asNil l70 (.ret .ret [(.int .i64 i25), (.slice p56 n57 n58), (.slice p61 n62 n63), (.slice p66 n67 n68), (.int .u64 i71)])) (sw e52 .normal (asCons l53 fun v72 l73 => asSlice v72 fun p74 n75 n76 => asCons l73 fun v77 l78 => asSlice v77 fun p79 n80 n81 => asCons l78 fun v82 l83 => asSlice v82 fun p84 n85 n86 => asCons l83 fun v87 l88 => asInt .u64 v87 fun i89 => asNil l88 (.ret .normal [(.int .i64 (wi64 (i25 + 1))), (.slice p74 n75 n76), (.slice p79 n80 n81), (.slice p84 n85 n86), (.int .u64 i89)])) (.fail))

noncomputable def T45b0 (n6 : Nat) (p5 : (Option Addr)) (i15 : Int) (p8 : (Option Addr)) (n9 : Nat) (n10 : Nat) (n7 : Nat) (p2 : (Option Addr)) (n3 : Nat) (n4 : Nat) : List Value → Pg :=
  fun l22 => asCons l22 fun v23 l24 => asInt .i64 v23 fun i25 => asCons l24 fun v26 l27 => asSlice v26 fun p28 n29 n30 => asCons l27 fun v31 l32 => asSlice v31 fun p33 n34 n35 => asCons l32 fun v36 l37 => asSlice v36 fun p38 n39 n40 => asCons l37 fun v41 l42 => asInt .u64 v41 fun i43 => asNil l42 (bif (decide (i25 < ((n6 : Nat) : Int))) then (.join (asSome p5 fun a44 => grd ((decide (0 ≤ i25)) && (decide (i25 < ((n6 : Nat) : Int)))) (.act (ld1 (aadd a44 ((Int.toNat i25) * 1))) fun v45 => asInt .i64 v45 fun i46 => bif (i46 == i15) then (asSome p8 fun a47 => grd ((decide (0 ≤ i25)) && (decide (i25 < ((n9 : Nat) : Int)))) (.act (ld1 (aadd a47 ((Int.toNat i25) * 1))) fun v48 => asInt .i64 v48 fun i49 => .call 42 [(.int .i64 i49)] fun v50 => asInt .u64 v50 fun i51 => .ret .ret [(.slice p8 n9 n10), (.slice p5 n6 n7), (.slice p2 n3 n4), (.int .u64 i51)])) else (.ret .normal [(.slice p28 n29 n30), (.slice p33 n34 n35), (.slice p38 n39 n40), (.int .u64 i43)]))) (T45k0 i25)) else (.ret (.exit 0) [(.int .i64 i25), (.slice p28 n29 n30), (.slice p33 n34 n35), (.slice p38 n39 n40), (.int .u64 i43)]))

noncomputable def T45k1 (p0 : (Option Addr)) (i15 : Int) (i18 : Int) (n3 : Nat) (p2 : (Option Addr)) (n4 : Nat) (p5 : (Option Addr)) (n6 : Nat) (n7 : Nat) (p8 : (Option Addr)) (n9 : Nat) (n10 : Nat) : Ex → List Value → Pg :=
  fun e90 l91 => sw e90 (.exit 0) (asCons l91 fun v92 l93 => asInt .i64 v92 fun i94 => asCons l93 fun v95 l96 => asSlice v95 fun p97 n98 n99 => asCons l96 fun v100 l101 => asSlice v100 fun p102 n103 n104 => asCons l101 fun v105 l106 => asSlice v105 fun p107 n108 n109 => asCons l106 fun v110 l111 => asInt .u64 v110 fun i112 => asNil l111 (.get fun h113 => asSome p0 fun a114 => .act (ld1 (aadd a114 1)) fun v115 => asSlice v115 fun p116 n117 n118 => grd (((((decide (0 ≤ i15)) && (decide (i15 ≤ (wi64 ((wi64 (i15 + i18)) + 1))))) && (decide ((wi64 ((wi64 (i15 + i18)) + 1)) ≤ ((n118 : Nat) : Int)))) && (decide (((n118 : Nat) : Int) ≤ ((n118 : Nat) : Int)))) && ((mayCut p116 1) || (decide (i15 = 0)))) (.get fun h120 => grd (newN h113.n h120 []) (.act (bdSl 1 1 [(.int .i64 i15)]) fun v119 => asSlice v119 fun p122 n123 n124 => .get fun h121 => .get fun h126 => grd (newN h113.n h126 [h120.n]) (.act (bdSl 1 1 [(.int .i64 ((n3 : Nat) : Int))]) fun v125 => asSlice v125 fun p128 n129 n130 => .get fun h127 => .call 42 [(.int .i64 ((n3 : Nat) : Int))] fun v131 => asInt .u64 v131 fun i132 => .get fun h148 => grd (chks [((ld1 (aadd a114 1)), v115)] h148) (.get fun h147 => grd (chkO [(h126.n, (h127.get h126.n)), (h120.n, (h121.get h120.n))] h147) (.act (apS 1 8 p2 n3 n4 (cutS p116 ((Int.toNat i15) * 1)) ((Int.toNat (wi64 ((wi64 (i15 + i18)) + 1))) - (Int.toNat i15)) (n118 - (Int.toNat i15))) fun v133 => asSlice v133 fun p134 n135 n136 => .get fun h146 => grd (chkO [(h126.n, (h127.get h126.n)), (h120.n, (h121.get h120.n))] h146) (.act (apS 1 8 p5 n6 n7 p122 n123 n124) fun v137 => asSlice v137 fun p138 n139 n140 => .get fun h145 => grd (chkO [(h126.n, (h127.get h126.n))] h145) (.act (apS 1 8 p8 n9 n10 p128 n129 n130) fun v141 => asSlice v141 fun p142 n143 n144 => .ret .ret [(.tuple #[(.int .u64 i132), (.slice p134 n135 n136), (.slice p138 n139 n140), (.slice p142 n143 n144)])]))))))))) (sw e90 .ret (asCons l91 fun v149 l150 => asInt .i64 v149 fun i151 => asCons l150 fun v152 l153 => asSlice v152 fun p154 n155 n156 => asCons l153 fun v157 l158 => asSlice v157 fun p159 n160 n161 => asCons l158 fun v162 l163 => asSlice v162 fun p164 n165 n166 => asCons l163 fun v167 l168 => asInt .u64 v167 fun i169 => asNil l168 (.ret .ret [(.tuple #[(.int .u64 i169), (.slice p164 n165 n166), (.slice p159 n160 n161), (.slice p154 n155 n156)])])) (.fail))

/-- (*hindsight/hindsightref11.Heap).move -/
noncomputable def T45 (p0 : (Option Addr)) (i1 : Int) (p2 : (Option Addr)) (n3 : Nat) (n4 : Nat) (p5 : (Option Addr)) (n6 : Nat) (n7 : Nat) (p8 : (Option Addr)) (n9 : Nat) (n10 : Nat) : Pg :=
  .call 44 [(.pointer p0), (.int .u64 i1)] fun v11 => asTuple v11 fun l12 => asCons l12 fun v13 l14 => asInt .i64 v13 fun i15 => asCons l14 fun v16 l17 => asInt .i64 v16 fun i18 => asCons l17 fun v19 l20 => asBool v19 fun b21 => asNil l20 (bif (!b21) then (.ret .ret [(.tuple #[(.int .u64 i1), (.slice p2 n3 n4), (.slice p5 n6 n7), (.slice p8 n9 n10)])]) else (.loop [(.int .i64 0), (.slice none 0 0), (.slice none 0 0), (.slice none 0 0), (.int .u64 0)] (T45b0 n6 p5 i15 p8 n9 n10 n7 p2 n3 n4) (T45k1 p0 i15 i18 n3 p2 n4 p5 n6 n7 p8 n9 n10)))
theorem T45_eq (p0 : (Option Addr)) (i1 : Int) (p2 : (Option Addr)) (n3 : Nat) (n4 : Nat) (p5 : (Option Addr)) (n6 : Nat) (n7 : Nat) (p8 : (Option Addr)) (n9 : Nat) (n10 : Nat) : progOf PROG false 45 [(.pointer p0), (.int .u64 i1), (.slice p2 n3 n4), (.slice p5 n6 n7), (.slice p8 n9 n10)] = T45 p0 i1 p2 n3 n4 p5 n6 n7 p8 n9 n10 := by kernel_rfl


noncomputable def T46k0 (i0 : Int) : Ex → List Value → Pg :=
  fun e1 l2 => sw e1 .normal (asCons l2 fun v3 l4 => asBool v3 fun b5 => asNil l4 (bif b5 then (.ret .ret [(.tuple #[(.int .i64 0), (.int .i64 0), (.int .i64 0), (.bool false)])]) else (.ret .ret [(.tuple #[(.int .i64 (wi64 (Int.tdiv (wi64 (wu64 (Int.tdiv i0 2))) 16777216))), (.int .i64 (Int.tmod (wi64 (Int.tdiv (wi64 (wu64 (Int.tdiv i0 2))) 65536)) 256)), (.int .i64 (Int.tmod (wi64 (wu64 (Int.tdiv i0 2))) 65536)), (.bool true)])]))) (.fail)

/-- hindsight/hindsightref11.Split -/
noncomputable def T46 (i0 : Int) : Pg :=
  .join (bif ((Int.tmod i0 2) == 0) == false then (bif (decide ((wu64 (Int.tdiv i0 2)) ≥ 67108864)) == false then (.ret .normal [(.bool (decide ((wu64 (Int.tdiv i0 2)) < 16777216)))]) else (.ret .normal [(.bool true)])) else (.ret .normal [(.bool true)])) (T46k0 i0)
theorem T46_eq (i0 : Int) : progOf PROG false 46 [(.int .u64 i0)] = T46 i0 := by kernel_rfl


noncomputable def T47k0 : Ex → List Value → Pg :=
  fun e23 l24 => sw e23 .normal (asCons l24 fun v25 l26 => asBool v25 fun b27 => asCons l26 fun v28 l29 => asInt .i64 v28 fun i30 => asNil l29 (.ret .ret [(.tuple #[(.int .i64 i30), (.bool b27)])])) (.fail)

/-- (*hindsight/heap.Heap).place -/
noncomputable def T47 (p0 : (Option Addr)) (i1 : Int) : Pg :=
  .call 57 [(.int .u64 i1)] fun v2 => asTuple v2 fun l3 => asCons l3 fun v4 l5 => asInt .i64 v4 fun i6 => asCons l5 fun v7 l8 => asBool v7 fun b9 => asNil l8 (.join (bif b9 == true then (asSome p0 fun a10 => .act (ld1 (aadd a10 3)) fun v11 => asSlice v11 fun p12 n13 n14 => bif (decide (i6 < ((n13 : Nat) : Int))) == true then (asSome p0 fun a15 => .act (ld1 (aadd a15 3)) fun v16 => asSlice v16 fun p17 n18 n19 => asSome p17 fun a20 => grd ((decide (0 ≤ i6)) && (decide (i6 < ((n18 : Nat) : Int)))) (.act (ld1 (aadd a20 ((Int.toNat i6) * 1))) fun v21 => asBool v21 fun b22 => .ret .normal [(.bool b22), (.int .i64 i6)])) else (.ret .normal [(.bool false), (.int .i64 i6)])) else (.ret .normal [(.bool false), (.int .i64 i6)])) (T47k0))
theorem T47_eq (p0 : (Option Addr)) (i1 : Int) : progOf PROG false 47 [(.pointer p0), (.int .u64 i1)] = T47 p0 i1 := by kernel_rfl


/-- hindsight/word.Split -/
noncomputable def T48 (i0 : Int) : Pg :=
  .call 54 [(.int .u64 i0)] fun v1 => asTuple v1 fun l2 => asCons l2 fun v3 l4 => asInt .i64 v3 fun i5 => asCons l4 fun v6 l7 => asBool v6 fun b8 => asNil l7 (bif ((((!b8) || (decide (i5 < 0))) || (decide (i5 > 67108863))) || (decide ((shrI .i64 i5 24) < 1))) then (.ret .ret [(.tuple #[(.int .i64 0), (.int .i64 0), (.int .i64 0), (.bool false)])]) else (.ret .ret [(.tuple #[(.int .i64 (shrI .i64 i5 24)), (.int .i64 (andI .i64 (shrI .i64 i5 16) 255)), (.int .i64 (andI .i64 i5 65535)), (.bool true)])]))
theorem T48_eq (i0 : Int) : progOf PROG false 48 [(.int .u64 i0)] = T48 i0 := by kernel_rfl


noncomputable def T49k0 (i7 : Int) : Ex → List Value → Pg :=
  fun e21 l22 => sw e21 .normal (asCons l22 fun v23 l24 => asSlice v23 fun p25 n26 n27 => asNil l24 (.ret .normal [(.int .i64 (wi64 (i7 - 1))), (.slice p25 n26 n27)])) (.fail)

noncomputable def T49b0 (i3 : Int) : List Value → Pg :=
  fun l4 => asCons l4 fun v5 l6 => asInt .i64 v5 fun i7 => asCons l6 fun v8 l9 => asSlice v8 fun p10 n11 n12 => asNil l9 (bif (decide (i7 ≥ 0)) then (.join (grd (decide (0 ≤ (wi64 (8 * i7)))) (.act (bdSl 1 1 [(.int .u8 (wu8 (shrI .u64 i3 (wi64 (8 * i7)))))]) fun v13 => asSlice v13 fun p14 n15 n16 => .act (apS 1 1 p10 n11 n12 p14 n15 n16) fun v17 => asSlice v17 fun p18 n19 n20 => .ret .normal [(.slice p18 n19 n20)])) (T49k0 i7)) else (.ret (.exit 0) [(.int .i64 i7), (.slice p10 n11 n12)]))

noncomputable def T49k1 : Ex → List Value → Pg :=
  fun e28 l29 => sw e28 (.exit 0) (asCons l29 fun v30 l31 => asInt .i64 v30 fun i32 => asCons l31 fun v33 l34 => asSlice v33 fun p35 n36 n37 => asNil l34 (.ret .ret [(.slice p35 n36 n37)])) (.fail)

/-- hindsight/heap.number -/
noncomputable def T49 (p0 : (Option Addr)) (n1 : Nat) (n2 : Nat) (i3 : Int) : Pg :=
  .loop [(.int .i64 7), (.slice p0 n1 n2)] (T49b0 i3) (T49k1)
theorem T49_eq (p0 : (Option Addr)) (n1 : Nat) (n2 : Nat) (i3 : Int) : progOf PROG false 49 [(.slice p0 n1 n2), (.int .u64 i3)] = T49 p0 n1 n2 i3 := by kernel_rfl


noncomputable def T50k0 (i7 : Int) : Ex → List Value → Pg :=
  fun e21 l22 => sw e21 .normal (asCons l22 fun v23 l24 => asSlice v23 fun p25 n26 n27 => asNil l24 (.ret .normal [(.int .i64 (wi64 (i7 - 1))), (.slice p25 n26 n27)])) (.fail)

noncomputable def T50b0 (i3 : Int) : List Value → Pg :=
  fun l4 => asCons l4 fun v5 l6 => asInt .i64 v5 fun i7 => asCons l6 fun v8 l9 => asSlice v8 fun p10 n11 n12 => asNil l9 (bif (decide (i7 ≥ 0)) then (.join (grd (decide (0 ≤ (wu64 (wi64 (8 * i7))))) (.act (bdSl 1 1 [(.int .u8 (wu8 (shrI .u64 i3 (wu64 (wi64 (8 * i7))))))]) fun v13 => asSlice v13 fun p14 n15 n16 => .act (apS 1 1 p10 n11 n12 p14 n15 n16) fun v17 => asSlice v17 fun p18 n19 n20 => .ret .normal [(.slice p18 n19 n20)])) (T50k0 i7)) else (.ret (.exit 0) [(.int .i64 i7), (.slice p10 n11 n12)]))

noncomputable def T50k1 : Ex → List Value → Pg :=
  fun e28 l29 => sw e28 (.exit 0) (asCons l29 fun v30 l31 => asInt .i64 v30 fun i32 => asCons l31 fun v33 l34 => asSlice v33 fun p35 n36 n37 => asNil l34 (.ret .ret [(.slice p35 n36 n37)])) (.fail)

/-- hindsight/hindsightref11.eight -/
noncomputable def T50 (p0 : (Option Addr)) (n1 : Nat) (n2 : Nat) (i3 : Int) : Pg :=
  .loop [(.int .i64 7), (.slice p0 n1 n2)] (T50b0 i3) (T50k1)
theorem T50_eq (p0 : (Option Addr)) (n1 : Nat) (n2 : Nat) (i3 : Int) : progOf PROG false 50 [(.slice p0 n1 n2), (.int .u64 i3)] = T50 p0 n1 n2 i3 := by kernel_rfl


noncomputable def T51k0 (i6 : Int) : Ex → List Value → Pg :=
  fun e13 l14 => sw e13 .normal (asCons l14 fun v15 l16 => asInt .u64 v15 fun i17 => asNil l16 (.ret .normal [(.int .i64 (wi64 (i6 + 1))), (.int .u64 i17)])) (.fail)

noncomputable def T51b0 (p0 : (Option Addr)) : List Value → Pg :=
  fun l3 => asCons l3 fun v4 l5 => asInt .i64 v4 fun i6 => asCons l5 fun v7 l8 => asInt .u64 v7 fun i9 => asNil l8 (bif (decide (i6 < 8)) then (.join (asSome p0 fun a10 => grd ((decide (0 ≤ i6)) && (decide (i6 < 8))) (.act (ld1 (aadd a10 ((Int.toNat i6) * 1))) fun v11 => asInt .u8 v11 fun i12 => .ret .normal [(.int .u64 (orI .u64 (shlI .u64 i9 8) (wu64 i12)))])) (T51k0 i6)) else (.ret (.exit 0) [(.int .i64 i6), (.int .u64 i9)]))

noncomputable def T51k1 : Ex → List Value → Pg :=
  fun e18 l19 => sw e18 (.exit 0) (asCons l19 fun v20 l21 => asInt .i64 v20 fun i22 => asCons l21 fun v23 l24 => asInt .u64 v23 fun i25 => asNil l24 (.ret .ret [(.int .u64 i25)])) (.fail)

/-- hindsight/heap.read -/
noncomputable def T51 (p0 : (Option Addr)) (n1 : Nat) (n2 : Nat) : Pg :=
  grd (((decide (8 ≤ ((n2 : Nat) : Int))) && (decide (((n2 : Nat) : Int) ≤ ((n2 : Nat) : Int)))) && ((mayCut p0 1) || true)) (.loop [(.int .i64 0), (.int .u64 0)] (T51b0 p0) (T51k1))
theorem T51_eq (p0 : (Option Addr)) (n1 : Nat) (n2 : Nat) : progOf PROG false 51 [(.slice p0 n1 n2)] = T51 p0 n1 n2 := by kernel_rfl


noncomputable def T52k0 (p7 : (Option Addr)) (n8 : Nat) (n9 : Nat) (i26 : Int) (p0 : (Option Addr)) (b12 : Bool) : Ex → List Value → Pg :=
  fun e30 l31 => sw e30 .normal (asCons l31 fun v32 l33 => asBool v32 fun b34 => asNil l33 (bif b34 then (.ret .ret [(.slice p7 n8 n9), (.bool false)]) else (asSome p7 fun a35 => grd (decide (0 < ((n8 : Nat) : Int))) (.act (ld1 (aadd a35 0)) fun v36 => asInt .u64 v36 fun i37 => grd ((((decide (1 ≤ (wi64 (1 + i26)))) && (decide ((wi64 (1 + i26)) ≤ ((n9 : Nat) : Int)))) && (decide (((n9 : Nat) : Int) ≤ ((n9 : Nat) : Int)))) && ((mayCut p7 1) || false)) (.call 38 [(.pointer p0), (.int .u64 i37), (.slice (cutS p7 1) ((Int.toNat (wi64 (1 + i26))) - 1) (n9 - 1))] fun v38 => asInt .u64 v38 fun i39 => grd (((((decide (0 ≤ (wi64 (1 + i26)))) && (decide ((wi64 (1 + i26)) ≤ ((n8 : Nat) : Int)))) && (decide (((n8 : Nat) : Int) ≤ ((n9 : Nat) : Int)))) && (decide (((n9 : Nat) : Int) ≤ ((n9 : Nat) : Int)))) && ((mayCut p7 1) || (decide ((wi64 (1 + i26)) = 0)))) (.ret .normal [(.slice (cutS p7 ((Int.toNat (wi64 (1 + i26))) * 1)) (n8 - (Int.toNat (wi64 (1 + i26)))) (n9 - (Int.toNat (wi64 (1 + i26))))), (.bool b12)])))))) (.fail)

noncomputable def T52k1 : Ex → List Value → Pg :=
  fun e40 l41 => sw e40 .ret (asCons l41 fun v42 l43 => asSlice v42 fun p44 n45 n46 => asCons l43 fun v47 l48 => asBool v47 fun b49 => asNil l48 (.ret .ret [(.slice p44 n45 n46), (.bool b49)])) (sw e40 .normal (asCons l41 fun v50 l51 => asSlice v50 fun p52 n53 n54 => asCons l51 fun v55 l56 => asBool v55 fun b57 => asNil l56 (.ret .normal [(.slice p52 n53 n54), (.bool b57)])) (.fail))

noncomputable def T52b0 (p0 : (Option Addr)) : List Value → Pg :=
  fun l4 => asCons l4 fun v5 l6 => asSlice v5 fun p7 n8 n9 => asCons l6 fun v10 l11 => asBool v10 fun b12 => asNil l11 (bif (decide (((n8 : Nat) : Int) > 0)) then (.join (asSome p7 fun a13 => grd (decide (0 < ((n8 : Nat) : Int))) (.act (ld1 (aadd a13 0)) fun v14 => asInt .u64 v14 fun i15 => .call 48 [(.int .u64 i15)] fun v16 => asTuple v16 fun l17 => asCons l17 fun v18 l19 => asInt .i64 v18 fun i20 => asCons l19 fun v21 l22 => asInt .i64 v21 fun i23 => asCons l22 fun v24 l25 => asInt .i64 v24 fun i26 => asCons l25 fun v27 l28 => asBool v27 fun b29 => asNil l28 (.join (bif (!b29) == false then (.ret .normal [(.bool (decide (i26 ≥ ((n8 : Nat) : Int))))]) else (.ret .normal [(.bool true)])) (T52k0 p7 n8 n9 i26 p0 b12)))) (T52k1)) else (.ret (.exit 0) [(.slice p7 n8 n9), (.bool b12)]))

noncomputable def T52k2 (b79 : Bool) : Ex → List Value → Pg :=
  fun e93 l94 => sw e93 .normal (asCons l94 fun v95 l96 => asBool v95 fun b97 => asNil l96 (bif b97 then (.ret .ret [(.bool false)]) else (.ret .normal [(.bool b79)]))) (.fail)

noncomputable def T52k3 (i76 : Int) : Ex → List Value → Pg :=
  fun e98 l99 => sw e98 .ret (asCons l99 fun v100 l101 => asBool v100 fun b102 => asNil l101 (.ret .ret [(.int .i64 i76), (.bool b102)])) (sw e98 .normal (asCons l99 fun v103 l104 => asBool v103 fun b105 => asNil l104 (.ret .normal [(.int .i64 (wi64 (i76 + 1))), (.bool b105)])) (.fail))

noncomputable def T52b1 (n71 : Nat) (p70 : (Option Addr)) (p0 : (Option Addr)) : List Value → Pg :=
  fun l73 => asCons l73 fun v74 l75 => asInt .i64 v74 fun i76 => asCons l75 fun v77 l78 => asBool v77 fun b79 => asNil l78 (bif (decide (i76 < ((n71 : Nat) : Int))) then (.join (asSome p70 fun a80 => grd ((decide (0 ≤ i76)) && (decide (i76 < ((n71 : Nat) : Int)))) (.act (ld1 (aadd a80 ((Int.toNat i76) * 1))) fun v81 => asInt .u64 v81 fun i82 => .join (asSome p0 fun a83 => .act (ld1 (aadd a83 3)) fun v84 => asSlice v84 fun p85 n86 n87 => asSome p85 fun a88 => grd ((decide (0 ≤ i76)) && (decide (i76 < ((n86 : Nat) : Int)))) (.act (ld1 (aadd a88 ((Int.toNat i76) * 1))) fun v89 => asBool v89 fun b90 => bif (!b90) == true then (.call 36 [(.pointer p0), (.int .u64 i82)] fun v91 => asBool v91 fun b92 => .ret .normal [(.bool (!b92))]) else (.ret .normal [(.bool false)]))) (T52k2 b79))) (T52k3 i76)) else (.ret (.exit 2) [(.int .i64 i76), (.bool b79)]))

noncomputable def T52k4 (p0 : (Option Addr)) : Ex → List Value → Pg :=
  fun e106 l107 => sw e106 (.exit 2) (asCons l107 fun v108 l109 => asInt .i64 v108 fun i110 => asCons l109 fun v111 l112 => asBool v111 fun b113 => asNil l112 (asSome p0 fun a114 => .act (ld1 (aadd a114 2)) fun v115 => asSlice v115 fun p116 n117 n118 => asSome p0 fun a119 => .act (ld1 (aadd a119 0)) fun v120 => asInt .i64 v120 fun i121 => .ret .ret [(.bool (decide (((n117 : Nat) : Int) ≤ i121)))])) (sw e106 .ret (asCons l107 fun v122 l123 => asInt .i64 v122 fun i124 => asCons l123 fun v125 l126 => asBool v125 fun b127 => asNil l126 (.ret .ret [(.bool b127)])) (.fail))

noncomputable def T52k5 (p0 : (Option Addr)) : Ex → List Value → Pg :=
  fun e58 l59 => sw e58 (.exit 0) (asCons l59 fun v60 l61 => asSlice v60 fun p62 n63 n64 => asCons l61 fun v65 l66 => asBool v65 fun b67 => asNil l66 (asSome p0 fun a68 => .act (ld1 (aadd a68 2)) fun v69 => asSlice v69 fun p70 n71 n72 => .loop [(.int .i64 0), (.bool b67)] (T52b1 n71 p70 p0) (T52k4 p0))) (sw e58 .ret (asCons l59 fun v128 l129 => asSlice v128 fun p130 n131 n132 => asCons l129 fun v133 l134 => asBool v133 fun b135 => asNil l134 (.ret .ret [(.bool b135)])) (.fail))

/-- (*hindsight/heap.Heap).load -/
noncomputable def T52 (p0 : (Option Addr)) (p1 : (Option Addr)) (n2 : Nat) (n3 : Nat) : Pg :=
  .loop [(.slice p1 n2 n3), (.bool false)] (T52b0 p0) (T52k5 p0)
theorem T52_eq (p0 : (Option Addr)) (p1 : (Option Addr)) (n2 : Nat) (n3 : Nat) : progOf PROG false 52 [(.pointer p0), (.slice p1 n2 n3)] = T52 p0 p1 n2 n3 := by kernel_rfl


noncomputable def T53k0 (i7 : Int) : Ex → List Value → Pg :=
  fun e19 l20 => sw e19 .ret (asCons l20 fun v21 l22 => asInt .i64 v21 fun i23 => asNil l22 (.ret .ret [(.int .i64 i7), (.int .i64 i23)])) (sw e19 .normal (asCons l20 fun v24 l25 => asInt .i64 v24 fun i26 => asNil l25 (.ret .normal [(.int .i64 (wi64 (i7 + 1))), (.int .i64 i26)])) (.fail))

noncomputable def T53b0 (n1 : Nat) (p0 : (Option Addr)) (v3 : Value) : List Value → Pg :=
  fun l4 => asCons l4 fun v5 l6 => asInt .i64 v5 fun i7 => asCons l6 fun v8 l9 => asInt .i64 v8 fun i10 => asNil l9 (bif (decide (i7 < ((n1 : Nat) : Int))) then (.join (asSome p0 fun a11 => grd ((decide (0 ≤ i7)) && (decide (i7 < ((n1 : Nat) : Int)))) (.act (ld1 (aadd a11 ((Int.toNat i7) * 1))) fun v12 => asInt .u64 v12 fun i13 => asFunc v3 fun n14 l15 l16 => .call n14 (l15 ++ [(.int .u64 i13)] ++ l16) fun v17 => asBool v17 fun b18 => bif b18 then (.ret .ret [(.int .i64 i7)]) else (.ret .normal [(.int .i64 i10)]))) (T53k0 i7)) else (.ret (.exit 0) [(.int .i64 i7), (.int .i64 i10)]))

noncomputable def T53k1 : Ex → List Value → Pg :=
  fun e27 l28 => sw e27 (.exit 0) (asCons l28 fun v29 l30 => asInt .i64 v29 fun i31 => asCons l30 fun v32 l33 => asInt .i64 v32 fun i34 => asNil l33 (.ret .ret [(.int .i64 (-1))])) (sw e27 .ret (asCons l28 fun v35 l36 => asInt .i64 v35 fun i37 => asCons l36 fun v38 l39 => asInt .i64 v38 fun i40 => asNil l39 (.ret .ret [(.int .i64 i40)])) (.fail))

/-- slices.IndexFunc[[]hindsight/word.Word,hindsight/word.Word] -/
noncomputable def T53 (p0 : (Option Addr)) (n1 : Nat) (n2 : Nat) (v3 : Value) : Pg :=
  .loop [(.int .i64 0), (.int .i64 0)] (T53b0 n1 p0 v3) (T53k1)
theorem T53_eq (p0 : (Option Addr)) (n1 : Nat) (n2 : Nat) (v3 : Value) : progOf PROG false 53 [(.slice p0 n1 n2), v3] = T53 p0 n1 n2 v3 := by kernel_rfl


/-- hindsight/word.Int -/
noncomputable def T54 (i0 : Int) : Pg :=
  bif ((andI .u64 i0 1) == 0) then (.ret .ret [(.tuple #[(.int .i64 0), (.bool false)])]) else (.ret .ret [(.tuple #[(.int .i64 (shrI .i64 (wi64 i0) 1)), (.bool true)])])
theorem T54_eq (i0 : Int) : progOf PROG false 54 [(.int .u64 i0)] = T54 i0 := by kernel_rfl


/-- (*hindsight/heap.Heap).thing -/
noncomputable def T55 (p0 : (Option Addr)) (i1 : Int) : Pg :=
  asSome p0 fun a2 => .act (ld1 (aadd a2 2)) fun v3 => asSlice v3 fun p4 n5 n6 => asSome p4 fun a7 => grd ((decide (0 ≤ i1)) && (decide (i1 < ((n5 : Nat) : Int)))) (.act (ld1 (aadd a7 ((Int.toNat i1) * 1))) fun v8 => asInt .u64 v8 fun i9 => .call 48 [(.int .u64 i9)] fun v10 => asTuple v10 fun l11 => asCons l11 fun v12 l13 => asInt .i64 v12 fun i14 => asCons l13 fun v15 l16 => asInt .i64 v15 fun i17 => asCons l16 fun v18 l19 => asInt .i64 v18 fun i20 => asCons l19 fun v21 l22 => asBool v21 fun b23 => asNil l22 (asSome p0 fun a24 => .act (ld1 (aadd a24 2)) fun v25 => asSlice v25 fun p26 n27 n28 => grd (((((decide (0 ≤ (wi64 (i1 + 1)))) && (decide ((wi64 (i1 + 1)) ≤ (wi64 ((wi64 (i1 + 1)) + i20))))) && (decide ((wi64 ((wi64 (i1 + 1)) + i20)) ≤ ((n28 : Nat) : Int)))) && (decide (((n28 : Nat) : Int) ≤ ((n28 : Nat) : Int)))) && ((mayCut p26 1) || (decide ((wi64 (i1 + 1)) = 0)))) (.ret .ret [(.slice (cutS p26 ((Int.toNat (wi64 (i1 + 1))) * 1)) ((Int.toNat (wi64 ((wi64 (i1 + 1)) + i20))) - (Int.toNat (wi64 (i1 + 1)))) (n28 - (Int.toNat (wi64 (i1 + 1)))))])))
theorem T55_eq (p0 : (Option Addr)) (i1 : Int) : progOf PROG false 55 [(.pointer p0), (.int .i64 i1)] = T55 p0 i1 := by kernel_rfl


/-- hindsight/hindsightref11.At -/
noncomputable def T56 (i0 : Int) : Pg :=
  bif (((Int.tmod i0 2) == 1) || (decide (i0 > 4294967294))) then (.ret .ret [(.tuple #[(.int .i64 0), (.bool false)])]) else (.ret .ret [(.tuple #[(.int .i64 (wi64 (wu64 (Int.tdiv i0 2)))), (.bool true)])])
theorem T56_eq (i0 : Int) : progOf PROG false 56 [(.int .u64 i0)] = T56 i0 := by kernel_rfl


noncomputable def T57k0 (i0 : Int) : Ex → List Value → Pg :=
  fun e1 l2 => sw e1 .normal (asCons l2 fun v3 l4 => asBool v3 fun b5 => asNil l4 (bif b5 then (.ret .ret [(.tuple #[(.int .i64 0), (.bool false)])]) else (.ret .ret [(.tuple #[(.int .i64 (wi64 (shrI .u64 i0 1))), (.bool true)])]))) (.fail)

/-- hindsight/word.At -/
noncomputable def T57 (i0 : Int) : Pg :=
  .join (bif ((andI .u64 i0 1) == 1) == false then (.ret .normal [(.bool (decide ((shrI .u64 i0 1) > 2147483647)))]) else (.ret .normal [(.bool true)])) (T57k0 i0)
theorem T57_eq (i0 : Int) : progOf PROG false 57 [(.int .u64 i0)] = T57 i0 := by kernel_rfl

noncomputable def A3 : List Value → Option Pg
  | [(.int .i64 i0), (.int .i64 i1)] => some (T3 i0 i1)
  | _ => none
theorem A3_ok : ∀ args p, A3 args = some p → progOf PROG false 3 args = p := by
  intro args p h
  unfold A3 at h
  split at h
  · cases h; exact T3_eq _ _
  · cases h
noncomputable def A4 : List Value → Option Pg
  | [(.int .i64 i0), (.slice p1 n2 n3), (.int .u64 i4), (.int .i64 i5)] => some (T4 i0 p1 n2 n3 i4 i5)
  | _ => none
theorem A4_ok : ∀ args p, A4 args = some p → progOf PROG false 4 args = p := by
  intro args p h
  unfold A4 at h
  split at h
  · cases h; exact T4_eq _ _ _ _ _ _
  · cases h
noncomputable def A5 : List Value → Option Pg
  | [(.slice p0 n1 n2), (.slice p3 n4 n5), (.agg c0)] => (match c0.toList with
    | [(.int .i64 i6), (.int .i64 i7), (.int .i64 i8), (.int .i64 i9), (.int .u64 i10), (.int .u64 i11), (.slice p12 n13 n14)] => some (T5 p0 n1 n2 p3 n4 n5 i6 i7 i8 i9 i10 i11 p12 n13 n14)
    | _ => none)
  | _ => none
theorem A5_ok : ∀ args p, A5 args = some p → progOf PROG false 5 args = p := by
  intro args p h
  unfold A5 at h
  split at h
  · split at h
    · rename_i e0
      have f0 := agg_of e0
      subst f0
      cases h
      exact T5_eq _ _ _ _ _ _ _ _ _ _ _ _ _ _ _
    · cases h
  · cases h
noncomputable def A6 : List Value → Option Pg
  | [(.slice p0 n1 n2)] => some (T6 p0 n1 n2)
  | _ => none
theorem A6_ok : ∀ args p, A6 args = some p → progOf PROG false 6 args = p := by
  intro args p h
  unfold A6 at h
  split at h
  · cases h; exact T6_eq _ _ _
  · cases h
noncomputable def A7 : List Value → Option Pg
  | [(.slice p0 n1 n2), (.slice p3 n4 n5)] => some (T7 p0 n1 n2 p3 n4 n5)
  | _ => none
theorem A7_ok : ∀ args p, A7 args = some p → progOf PROG false 7 args = p := by
  intro args p h
  unfold A7 at h
  split at h
  · cases h; exact T7_eq _ _ _ _ _ _
  · cases h
noncomputable def A9 : List Value → Option Pg
  | [] => some (T9)
  | _ => none
theorem A9_ok : ∀ args p, A9 args = some p → progOf PROG false 9 args = p := by
  intro args p h
  unfold A9 at h
  split at h
  · cases h; exact T9_eq 
  · cases h
noncomputable def A10 : List Value → Option Pg
  | [(.int .i64 i0)] => some (T10 i0)
  | _ => none
theorem A10_ok : ∀ args p, A10 args = some p → progOf PROG false 10 args = p := by
  intro args p h
  unfold A10 at h
  split at h
  · cases h; exact T10_eq _
  · cases h
noncomputable def A11 : List Value → Option Pg
  | [(.int .i64 i0)] => some (T11 i0)
  | _ => none
theorem A11_ok : ∀ args p, A11 args = some p → progOf PROG false 11 args = p := by
  intro args p h
  unfold A11 at h
  split at h
  · cases h; exact T11_eq _
  · cases h
noncomputable def A12 : List Value → Option Pg
  | [(.pointer p0), (.int .i64 i1), (.int .i64 i2), (.slice p3 n4 n5)] => some (T12 p0 i1 i2 p3 n4 n5)
  | _ => none
theorem A12_ok : ∀ args p, A12 args = some p → progOf PROG false 12 args = p := by
  intro args p h
  unfold A12 at h
  split at h
  · cases h; exact T12_eq _ _ _ _ _ _
  · cases h
noncomputable def A13 : List Value → Option Pg
  | [(.pointer p0)] => some (T13 p0)
  | _ => none
theorem A13_ok : ∀ args p, A13 args = some p → progOf PROG false 13 args = p := by
  intro args p h
  unfold A13 at h
  split at h
  · cases h; exact T13_eq _
  · cases h
noncomputable def A14 : List Value → Option Pg
  | [(.pointer p0), (.slice p1 n2 n3)] => some (T14 p0 p1 n2 n3)
  | _ => none
theorem A14_ok : ∀ args p, A14 args = some p → progOf PROG false 14 args = p := by
  intro args p h
  unfold A14 at h
  split at h
  · cases h; exact T14_eq _ _ _ _
  · cases h
noncomputable def A15 : List Value → Option Pg
  | [(.slice p0 n1 n2)] => some (T15 p0 n1 n2)
  | _ => none
theorem A15_ok : ∀ args p, A15 args = some p → progOf PROG false 15 args = p := by
  intro args p h
  unfold A15 at h
  split at h
  · cases h; exact T15_eq _ _ _
  · cases h
noncomputable def A16 : List Value → Option Pg
  | [(.pointer p0), (.int .i64 i1), (.int .i64 i2), (.slice p3 n4 n5)] => some (T16 p0 i1 i2 p3 n4 n5)
  | _ => none
theorem A16_ok : ∀ args p, A16 args = some p → progOf PROG false 16 args = p := by
  intro args p h
  unfold A16 at h
  split at h
  · cases h; exact T16_eq _ _ _ _ _ _
  · cases h
noncomputable def A17 : List Value → Option Pg
  | [(.pointer p0), (.int .u64 i1), (.int .i64 i2), (.int .u64 i3)] => some (T17 p0 i1 i2 i3)
  | _ => none
theorem A17_ok : ∀ args p, A17 args = some p → progOf PROG false 17 args = p := by
  intro args p h
  unfold A17 at h
  split at h
  · cases h; exact T17_eq _ _ _ _
  · cases h
noncomputable def A18 : List Value → Option Pg
  | [(.pointer p0), (.int .u64 i1), (.int .i64 i2), (.int .u64 i3)] => some (T18 p0 i1 i2 i3)
  | _ => none
theorem A18_ok : ∀ args p, A18 args = some p → progOf PROG false 18 args = p := by
  intro args p h
  unfold A18 at h
  split at h
  · cases h; exact T18_eq _ _ _ _
  · cases h
noncomputable def A19 : List Value → Option Pg
  | [(.slice p0 n1 n2), (.slice p3 n4 n5)] => some (T19 p0 n1 n2 p3 n4 n5)
  | _ => none
theorem A19_ok : ∀ args p, A19 args = some p → progOf PROG false 19 args = p := by
  intro args p h
  unfold A19 at h
  split at h
  · cases h; exact T19_eq _ _ _ _ _ _
  · cases h
noncomputable def A20 : List Value → Option Pg
  | [(.slice p0 n1 n2)] => some (T20 p0 n1 n2)
  | _ => none
theorem A20_ok : ∀ args p, A20 args = some p → progOf PROG false 20 args = p := by
  intro args p h
  unfold A20 at h
  split at h
  · cases h; exact T20_eq _ _ _
  · cases h
noncomputable def A21 : List Value → Option Pg
  | [(.pointer p0), (.slice p1 n2 n3)] => some (T21 p0 p1 n2 n3)
  | _ => none
theorem A21_ok : ∀ args p, A21 args = some p → progOf PROG false 21 args = p := by
  intro args p h
  unfold A21 at h
  split at h
  · cases h; exact T21_eq _ _ _ _
  · cases h
noncomputable def A22 : List Value → Option Pg
  | [(.pointer p0), (.int .u64 i1), (.int .i64 i2)] => some (T22 p0 i1 i2)
  | _ => none
theorem A22_ok : ∀ args p, A22 args = some p → progOf PROG false 22 args = p := by
  intro args p h
  unfold A22 at h
  split at h
  · cases h; exact T22_eq _ _ _
  · cases h
noncomputable def A23 : List Value → Option Pg
  | [(.pointer p0), (.int .u64 i1), (.int .i64 i2)] => some (T23 p0 i1 i2)
  | _ => none
theorem A23_ok : ∀ args p, A23 args = some p → progOf PROG false 23 args = p := by
  intro args p h
  unfold A23 at h
  split at h
  · cases h; exact T23_eq _ _ _
  · cases h
noncomputable def A24 : List Value → Option Pg
  | [(.pointer p0), (.int .u64 i1)] => some (T24 p0 i1)
  | _ => none
theorem A24_ok : ∀ args p, A24 args = some p → progOf PROG false 24 args = p := by
  intro args p h
  unfold A24 at h
  split at h
  · cases h; exact T24_eq _ _
  · cases h
noncomputable def A25 : List Value → Option Pg
  | [(.pointer p0), (.int .u64 i1)] => some (T25 p0 i1)
  | _ => none
theorem A25_ok : ∀ args p, A25 args = some p → progOf PROG false 25 args = p := by
  intro args p h
  unfold A25 at h
  split at h
  · cases h; exact T25_eq _ _
  · cases h
noncomputable def A26 : List Value → Option Pg
  | [(.pointer p0)] => some (T26 p0)
  | _ => none
theorem A26_ok : ∀ args p, A26 args = some p → progOf PROG false 26 args = p := by
  intro args p h
  unfold A26 at h
  split at h
  · cases h; exact T26_eq _
  · cases h
noncomputable def A27 : List Value → Option Pg
  | [(.pointer p0)] => some (T27 p0)
  | _ => none
theorem A27_ok : ∀ args p, A27 args = some p → progOf PROG false 27 args = p := by
  intro args p h
  unfold A27 at h
  split at h
  · cases h; exact T27_eq _
  · cases h
noncomputable def A28 : List Value → Option Pg
  | [(.pointer p0)] => some (T28 p0)
  | _ => none
theorem A28_ok : ∀ args p, A28 args = some p → progOf PROG false 28 args = p := by
  intro args p h
  unfold A28 at h
  split at h
  · cases h; exact T28_eq _
  · cases h
noncomputable def A29 : List Value → Option Pg
  | [(.slice p0 n1 n2)] => some (T29 p0 n1 n2)
  | _ => none
theorem A29_ok : ∀ args p, A29 args = some p → progOf PROG false 29 args = p := by
  intro args p h
  unfold A29 at h
  split at h
  · cases h; exact T29_eq _ _ _
  · cases h
noncomputable def A30 : List Value → Option Pg
  | [(.slice p0 n1 n2)] => some (T30 p0 n1 n2)
  | _ => none
theorem A30_ok : ∀ args p, A30 args = some p → progOf PROG false 30 args = p := by
  intro args p h
  unfold A30 at h
  split at h
  · cases h; exact T30_eq _ _ _
  · cases h
noncomputable def A31 : List Value → Option Pg
  | [(.int .i64 i0)] => some (T31 i0)
  | _ => none
theorem A31_ok : ∀ args p, A31 args = some p → progOf PROG false 31 args = p := by
  intro args p h
  unfold A31 at h
  split at h
  · cases h; exact T31_eq _
  · cases h
noncomputable def A33 : List Value → Option Pg
  | [(.int .i64 i0), (.int .i64 i1), (.int .i64 i2)] => some (T33 i0 i1 i2)
  | _ => none
theorem A33_ok : ∀ args p, A33 args = some p → progOf PROG false 33 args = p := by
  intro args p h
  unfold A33 at h
  split at h
  · cases h; exact T33_eq _ _ _
  · cases h
noncomputable def A34 : List Value → Option Pg
  | [(.slice p0 n1 n2), v3] => some (T34 p0 n1 n2 v3)
  | _ => none
theorem A34_ok : ∀ args p, A34 args = some p → progOf PROG false 34 args = p := by
  intro args p h
  unfold A34 at h
  split at h
  · cases h; exact T34_eq _ _ _ _
  · cases h
noncomputable def A35 : List Value → Option Pg
  | [(.int .u64 i0), (.pointer (some a1))] => some (T35 i0 a1)
  | _ => none
theorem A35_ok : ∀ args p, A35 args = some p → progOf PROG false 35 args = p := by
  intro args p h
  unfold A35 at h
  split at h
  · cases h; exact T35_eq _ _
  · cases h
noncomputable def A36 : List Value → Option Pg
  | [(.pointer p0), (.int .u64 i1)] => some (T36 p0 i1)
  | _ => none
theorem A36_ok : ∀ args p, A36 args = some p → progOf PROG false 36 args = p := by
  intro args p h
  unfold A36 at h
  split at h
  · cases h; exact T36_eq _ _
  · cases h
noncomputable def A37 : List Value → Option Pg
  | [(.pointer p0), (.int .i64 i1)] => some (T37 p0 i1)
  | _ => none
theorem A37_ok : ∀ args p, A37 args = some p → progOf PROG false 37 args = p := by
  intro args p h
  unfold A37 at h
  split at h
  · cases h; exact T37_eq _ _
  · cases h
noncomputable def A38 : List Value → Option Pg
  | [(.pointer p0), (.int .u64 i1), (.slice p2 n3 n4)] => some (T38 p0 i1 p2 n3 n4)
  | _ => none
theorem A38_ok : ∀ args p, A38 args = some p → progOf PROG false 38 args = p := by
  intro args p h
  unfold A38 at h
  split at h
  · cases h; exact T38_eq _ _ _ _ _
  · cases h
noncomputable def A39 : List Value → Option Pg
  | [(.pointer p0), (.int .u64 i1)] => some (T39 p0 i1)
  | _ => none
theorem A39_ok : ∀ args p, A39 args = some p → progOf PROG false 39 args = p := by
  intro args p h
  unfold A39 at h
  split at h
  · cases h; exact T39_eq _ _
  · cases h
noncomputable def A40 : List Value → Option Pg
  | [(.int .i64 i0), (.int .i64 i1), (.int .i64 i2)] => some (T40 i0 i1 i2)
  | _ => none
theorem A40_ok : ∀ args p, A40 args = some p → progOf PROG false 40 args = p := by
  intro args p h
  unfold A40 at h
  split at h
  · cases h; exact T40_eq _ _ _
  · cases h
noncomputable def A41 : List Value → Option Pg
  | [(.pointer p0), (.int .u64 i1)] => some (T41 p0 i1)
  | _ => none
theorem A41_ok : ∀ args p, A41 args = some p → progOf PROG false 41 args = p := by
  intro args p h
  unfold A41 at h
  split at h
  · cases h; exact T41_eq _ _
  · cases h
noncomputable def A42 : List Value → Option Pg
  | [(.int .i64 i0)] => some (T42 i0)
  | _ => none
theorem A42_ok : ∀ args p, A42 args = some p → progOf PROG false 42 args = p := by
  intro args p h
  unfold A42 at h
  split at h
  · cases h; exact T42_eq _
  · cases h
noncomputable def A43 : List Value → Option Pg
  | [(.pointer p0), (.int .u64 i1), (.int .i64 i2)] => some (T43 p0 i1 i2)
  | _ => none
theorem A43_ok : ∀ args p, A43 args = some p → progOf PROG false 43 args = p := by
  intro args p h
  unfold A43 at h
  split at h
  · cases h; exact T43_eq _ _ _
  · cases h
noncomputable def A44 : List Value → Option Pg
  | [(.pointer p0), (.int .u64 i1)] => some (T44 p0 i1)
  | _ => none
theorem A44_ok : ∀ args p, A44 args = some p → progOf PROG false 44 args = p := by
  intro args p h
  unfold A44 at h
  split at h
  · cases h; exact T44_eq _ _
  · cases h
noncomputable def A45 : List Value → Option Pg
  | [(.pointer p0), (.int .u64 i1), (.slice p2 n3 n4), (.slice p5 n6 n7), (.slice p8 n9 n10)] => some (T45 p0 i1 p2 n3 n4 p5 n6 n7 p8 n9 n10)
  | _ => none
theorem A45_ok : ∀ args p, A45 args = some p → progOf PROG false 45 args = p := by
  intro args p h
  unfold A45 at h
  split at h
  · cases h; exact T45_eq _ _ _ _ _ _ _ _ _ _ _
  · cases h
noncomputable def A46 : List Value → Option Pg
  | [(.int .u64 i0)] => some (T46 i0)
  | _ => none
theorem A46_ok : ∀ args p, A46 args = some p → progOf PROG false 46 args = p := by
  intro args p h
  unfold A46 at h
  split at h
  · cases h; exact T46_eq _
  · cases h
noncomputable def A47 : List Value → Option Pg
  | [(.pointer p0), (.int .u64 i1)] => some (T47 p0 i1)
  | _ => none
theorem A47_ok : ∀ args p, A47 args = some p → progOf PROG false 47 args = p := by
  intro args p h
  unfold A47 at h
  split at h
  · cases h; exact T47_eq _ _
  · cases h
noncomputable def A48 : List Value → Option Pg
  | [(.int .u64 i0)] => some (T48 i0)
  | _ => none
theorem A48_ok : ∀ args p, A48 args = some p → progOf PROG false 48 args = p := by
  intro args p h
  unfold A48 at h
  split at h
  · cases h; exact T48_eq _
  · cases h
noncomputable def A49 : List Value → Option Pg
  | [(.slice p0 n1 n2), (.int .u64 i3)] => some (T49 p0 n1 n2 i3)
  | _ => none
theorem A49_ok : ∀ args p, A49 args = some p → progOf PROG false 49 args = p := by
  intro args p h
  unfold A49 at h
  split at h
  · cases h; exact T49_eq _ _ _ _
  · cases h
noncomputable def A50 : List Value → Option Pg
  | [(.slice p0 n1 n2), (.int .u64 i3)] => some (T50 p0 n1 n2 i3)
  | _ => none
theorem A50_ok : ∀ args p, A50 args = some p → progOf PROG false 50 args = p := by
  intro args p h
  unfold A50 at h
  split at h
  · cases h; exact T50_eq _ _ _ _
  · cases h
noncomputable def A51 : List Value → Option Pg
  | [(.slice p0 n1 n2)] => some (T51 p0 n1 n2)
  | _ => none
theorem A51_ok : ∀ args p, A51 args = some p → progOf PROG false 51 args = p := by
  intro args p h
  unfold A51 at h
  split at h
  · cases h; exact T51_eq _ _ _
  · cases h
noncomputable def A52 : List Value → Option Pg
  | [(.pointer p0), (.slice p1 n2 n3)] => some (T52 p0 p1 n2 n3)
  | _ => none
theorem A52_ok : ∀ args p, A52 args = some p → progOf PROG false 52 args = p := by
  intro args p h
  unfold A52 at h
  split at h
  · cases h; exact T52_eq _ _ _ _
  · cases h
noncomputable def A53 : List Value → Option Pg
  | [(.slice p0 n1 n2), v3] => some (T53 p0 n1 n2 v3)
  | _ => none
theorem A53_ok : ∀ args p, A53 args = some p → progOf PROG false 53 args = p := by
  intro args p h
  unfold A53 at h
  split at h
  · cases h; exact T53_eq _ _ _ _
  · cases h
noncomputable def A54 : List Value → Option Pg
  | [(.int .u64 i0)] => some (T54 i0)
  | _ => none
theorem A54_ok : ∀ args p, A54 args = some p → progOf PROG false 54 args = p := by
  intro args p h
  unfold A54 at h
  split at h
  · cases h; exact T54_eq _
  · cases h
noncomputable def A55 : List Value → Option Pg
  | [(.pointer p0), (.int .i64 i1)] => some (T55 p0 i1)
  | _ => none
theorem A55_ok : ∀ args p, A55 args = some p → progOf PROG false 55 args = p := by
  intro args p h
  unfold A55 at h
  split at h
  · cases h; exact T55_eq _ _
  · cases h
noncomputable def A56 : List Value → Option Pg
  | [(.int .u64 i0)] => some (T56 i0)
  | _ => none
theorem A56_ok : ∀ args p, A56 args = some p → progOf PROG false 56 args = p := by
  intro args p h
  unfold A56 at h
  split at h
  · cases h; exact T56_eq _
  · cases h
noncomputable def A57 : List Value → Option Pg
  | [(.int .u64 i0)] => some (T57 i0)
  | _ => none
theorem A57_ok : ∀ args p, A57 args = some p → progOf PROG false 57 args = p := by
  intro args p h
  unfold A57 at h
  split at h
  · cases h; exact T57_eq _
  · cases h
noncomputable def TAB : Tab := (.low 29 (.low 16 (.low 9 (.low 5 (.one 3 A3 (.one 4 A4 (.one 5 A5 .nil))) (.one 6 A6 (.one 7 A7 (.one 9 A9 .nil)))) (.low 12 (.one 10 A10 (.one 11 A11 (.one 12 A12 .nil))) (.low 14 (.one 13 A13 (.one 14 A14 .nil)) (.one 15 A15 (.one 16 A16 .nil))))) (.low 22 (.low 19 (.one 17 A17 (.one 18 A18 (.one 19 A19 .nil))) (.one 20 A20 (.one 21 A21 (.one 22 A22 .nil)))) (.low 25 (.one 23 A23 (.one 24 A24 (.one 25 A25 .nil))) (.low 27 (.one 26 A26 (.one 27 A27 .nil)) (.one 28 A28 (.one 29 A29 .nil)))))) (.low 43 (.low 36 (.low 33 (.one 30 A30 (.one 31 A31 (.one 33 A33 .nil))) (.one 34 A34 (.one 35 A35 (.one 36 A36 .nil)))) (.low 39 (.one 37 A37 (.one 38 A38 (.one 39 A39 .nil))) (.low 41 (.one 40 A40 (.one 41 A41 .nil)) (.one 42 A42 (.one 43 A43 .nil))))) (.low 50 (.low 46 (.one 44 A44 (.one 45 A45 (.one 46 A46 .nil))) (.low 48 (.one 47 A47 (.one 48 A48 .nil)) (.one 49 A49 (.one 50 A50 .nil)))) (.low 53 (.one 51 A51 (.one 52 A52 (.one 53 A53 .nil))) (.low 55 (.one 54 A54 (.one 55 A55 .nil)) (.one 56 A56 (.one 57 A57 .nil)))))))
theorem TAB_ok : TabOK PROG TAB := (.low (.low (.low (.low (.one A3_ok (.one A4_ok (.one A5_ok .nil))) (.one A6_ok (.one A7_ok (.one A9_ok .nil)))) (.low (.one A10_ok (.one A11_ok (.one A12_ok .nil))) (.low (.one A13_ok (.one A14_ok .nil)) (.one A15_ok (.one A16_ok .nil))))) (.low (.low (.one A17_ok (.one A18_ok (.one A19_ok .nil))) (.one A20_ok (.one A21_ok (.one A22_ok .nil)))) (.low (.one A23_ok (.one A24_ok (.one A25_ok .nil))) (.low (.one A26_ok (.one A27_ok .nil)) (.one A28_ok (.one A29_ok .nil)))))) (.low (.low (.low (.one A30_ok (.one A31_ok (.one A33_ok .nil))) (.one A34_ok (.one A35_ok (.one A36_ok .nil)))) (.low (.one A37_ok (.one A38_ok (.one A39_ok .nil))) (.low (.one A40_ok (.one A41_ok .nil)) (.one A42_ok (.one A43_ok .nil))))) (.low (.low (.one A44_ok (.one A45_ok (.one A46_ok .nil))) (.low (.one A47_ok (.one A48_ok .nil)) (.one A49_ok (.one A50_ok .nil)))) (.low (.one A51_ok (.one A52_ok (.one A53_ok .nil))) (.low (.one A54_ok (.one A55_ok .nil)) (.one A56_ok (.one A57_ok .nil)))))))

end Go.Pg
