/- The trees of the functions that the law reaches, written out by program; each is shown to be the function's own; then their table. -/
import Derived.Test.YtlafmapnfbefiaaGreatDoorProg
import Derived.Test.YtlafmapnfbefiaaGreatDoorTSkA
import Derived.KernelRfl
import Derived.Test.YtlafmapnfbefiaaGreatDoorPg3
namespace Go.Pg
open Go.Proofs
set_option linter.unusedVariables false
set_option maxRecDepth 100000


noncomputable def T100k0 (p0 : (Option Addr)) (a90 : Addr) : Ex → List Value → Pg :=
  fun e130 l131 => sw e130 .normal (asCons l131 fun v132 l133 => asBool v132 fun b134 => asNil l133 (bif b134 then (.call 104 [(.pointer p0)] fun v135 => asTuple v135 fun l136 => asNil l136 (.ret .ret [])) else (.act (ldN 7 a90) fun v137 => asAgg v137 fun l138 => asCons l138 fun v139 l140 => asInt .i64 v139 fun i141 => asCons l140 fun v142 l143 => asInt .i64 v142 fun i144 => asCons l143 fun v145 l146 => asStr v145 fun s147 => asCons l146 fun v148 l149 => asSlice v148 fun p150 n151 n152 => asCons l149 fun v153 l154 => asInt .i64 v153 fun i155 => asCons l154 fun v156 l157 => asPtr v156 fun p158 => asCons l157 fun v159 l160 => asInt .i64 v159 fun i161 => asNil l160 (.call 95 [(.pointer p0), (.agg #[(.int .i64 i141), (.int .i64 i144), (.string s147), (.slice p150 n151 n152), (.int .i64 i155), (.pointer p158), (.int .i64 i161)])] fun v162 => asTuple v162 fun l163 => asNil l163 (.ret .normal []))))) (.fail)

noncomputable def T100k1 : Ex → List Value → Pg :=
  fun e272 l273 => sw e272 .normal (asNil l273 (.ret .normal [])) (.fail)

noncomputable def T100k2 : Ex → List Value → Pg :=
  fun e274 l275 => sw e274 .ret (asNil l275 (.ret .ret [])) (sw e274 .normal (asNil l275 (.ret .normal [])) (.fail))

noncomputable def T100k3 : Ex → List Value → Pg :=
  fun e276 l277 => sw e276 .ret (asNil l277 (.ret .ret [])) (sw e276 .normal (asNil l277 (.ret .normal [])) (.fail))

noncomputable def T100k4 : Ex → List Value → Pg :=
  fun e278 l279 => sw e278 .normal (asNil l279 (.ret .normal [])) (sw e278 .ret (asNil l279 (.ret .ret [])) (.fail))

noncomputable def T100k5 : Ex → List Value → Pg :=
  fun e280 l281 => sw e280 .normal (asNil l281 (.ret .normal [])) (sw e280 .ret (asNil l281 (.ret .ret [])) (.fail))

noncomputable def T100k6 : Ex → List Value → Pg :=
  fun e282 l283 => sw e282 .normal (asNil l283 (.ret .ret [(.tuple #[])])) (sw e282 .ret (asNil l283 (.ret .ret [(.tuple #[])])) (.fail))

/-- (*hindsight/source.Machine).done -/
noncomputable def T100 (p0 : (Option Addr)) (i1 : Int) (i2 : Int) (i3 : Int) (s4 : ByteArray) (s5 : ByteArray) (p6 : (Option Addr)) (n7 : Nat) (n8 : Nat) (i9 : Int) (i10 : Int) (p11 : (Option Addr)) (n12 : Nat) (n13 : Nat) : Pg :=
  .act (newC [(.int .i64 i2), (.int .i64 i3), (.string s4), (.string s5), (.slice p6 n7 n8), (.int .i64 i9), (.int .i64 i10)]) fun v14 => asPtr v14 fun p15 => asSome p15 fun a16 => .act (ld1 (aadd a16 0)) fun v17 => asInt .i64 v17 fun i18 => .join (.join (bif (i18 == 7) then (asSome p11 fun a19 => grd (decide (0 < ((n12 : Nat) : Int))) (.act (ldN 7 (aadd a19 0)) fun v20 => asAgg v20 fun l21 => asCons l21 fun v22 l23 => asInt .i64 v22 fun i24 => asCons l23 fun v25 l26 => asInt .i64 v25 fun i27 => asCons l26 fun v28 l29 => asStr v28 fun s30 => asCons l29 fun v31 l32 => asSlice v31 fun p33 n34 n35 => asCons l32 fun v36 l37 => asInt .i64 v36 fun i38 => asCons l37 fun v39 l40 => asPtr v39 fun p41 => asCons l40 fun v42 l43 => asInt .i64 v42 fun i44 => asNil l43 (asSome p11 fun a45 => grd (decide (1 < ((n12 : Nat) : Int))) (.act (ldN 7 (aadd a45 7)) fun v46 => asAgg v46 fun l47 => asCons l47 fun v48 l49 => asInt .i64 v48 fun i50 => asCons l49 fun v51 l52 => asInt .i64 v51 fun i53 => asCons l52 fun v54 l55 => asStr v54 fun s56 => asCons l55 fun v57 l58 => asSlice v57 fun p59 n60 n61 => asCons l58 fun v62 l63 => asInt .i64 v62 fun i64 => asCons l63 fun v65 l66 => asPtr v65 fun p67 => asCons l66 fun v68 l69 => asInt .i64 v68 fun i70 => asNil l69 (.call 118 [(.pointer p0), (.int .i64 i1), (.agg #[(.int .i64 i24), (.int .i64 i27), (.string s30), (.slice p33 n34 n35), (.int .i64 i38), (.pointer p41), (.int .i64 i44)]), (.agg #[(.int .i64 i50), (.int .i64 i53), (.string s56), (.slice p59 n60 n61), (.int .i64 i64), (.pointer p67), (.int .i64 i70)])] fun v71 => asTuple v71 fun l72 => asNil l72 (.ret .normal [])))))) else (.join (bif (i18 == 5) then (.act (ld1 (aadd a16 2)) fun v73 => asStr v73 fun s74 => .call 95 [(.pointer p0), (.agg #[(.int .i64 4), (.int .i64 0), (.string s74), (.slice p11 n12 n13), (.int .i64 0), (.pointer none), (.int .i64 0)])] fun v75 => asTuple v75 fun l76 => asNil l76 (.ret .normal [])) else (.join (bif (i18 == 14) then (.get fun h77 => .act (ld1 (aadd a16 2)) fun v78 => asStr v78 fun s79 => asSome p11 fun a80 => grd (decide (0 < ((n12 : Nat) : Int))) (.act (ld1 (aadd (aadd a80 0) 1)) fun v81 => asInt .i64 v81 fun i82 => asSome p11 fun a83 => grd (decide (1 < ((n12 : Nat) : Int))) (.act (ld1 (aadd (aadd a83 7) 1)) fun v84 => asInt .i64 v84 fun i85 => .get fun h87 => grd (newN h77.n h87 []) (.act (newC [(.int .i64 0), (.int .i64 0), (.string (bs [])), (.slice none 0 0), (.int .i64 0), (.pointer none), (.int .i64 0)]) fun v86 => asPtr v86 fun p89 => asSome p89 fun a90 => .get fun h88 => .call 119 [(.string s79), (.int .i64 i82), (.int .i64 i85)] fun v91 => asTuple v91 fun l92 => asCons l92 fun v93 l94 => asAgg v93 fun l95 => asCons l95 fun v96 l97 => asInt .i64 v96 fun i98 => asCons l97 fun v99 l100 => asInt .i64 v99 fun i101 => asCons l100 fun v102 l103 => asStr v102 fun s104 => asCons l103 fun v105 l106 => asSlice v105 fun p107 n108 n109 => asCons l106 fun v110 l111 => asInt .i64 v110 fun i112 => asCons l111 fun v113 l114 => asPtr v113 fun p115 => asCons l114 fun v116 l117 => asInt .i64 v116 fun i118 => asNil l117 (asCons l94 fun v119 l120 => asBool v119 fun b121 => asNil l120 (.get fun h164 => grd (chkO [(h87.n, (h88.get h87.n))] h164) (.act (stC a90 [(.int .i64 i98), (.int .i64 i101), (.string s104), (.slice p107 n108 n109), (.int .i64 i112), (.pointer p115), (.int .i64 i118)]) fun v122 => asTuple v122 fun l123 => asNil l123 (.join (bif (!b121) == false then (asSome p11 fun a124 => grd (decide (0 < ((n12 : Nat) : Int))) (.act (ld1 (aadd (aadd a124 0) 0)) fun v125 => asInt .i64 v125 fun i126 => bif (i126 != 1) == false then (asSome p11 fun a127 => grd (decide (1 < ((n12 : Nat) : Int))) (.act (ld1 (aadd (aadd a127 7) 0)) fun v128 => asInt .i64 v128 fun i129 => .ret .normal [(.bool (i129 != 1))])) else (.ret .normal [(.bool true)]))) else (.ret .normal [(.bool true)])) (T100k0 p0 a90))))))))) else (.join (bif (i18 == 17) then (asSome p11 fun a165 => grd (decide (0 < ((n12 : Nat) : Int))) (.act (ld1 (aadd (aadd a165 0) 0)) fun v166 => asInt .i64 v166 fun i167 => bif (i167 != 1) then (.call 104 [(.pointer p0)] fun v168 => asTuple v168 fun l169 => asNil l169 (.ret .ret [])) else (asSome p0 fun a170 => .act (ld1 (aadd a170 4)) fun v171 => asSlice v171 fun p172 n173 n174 => asSome p11 fun a175 => grd (decide (0 < ((n12 : Nat) : Int))) (.act (ld1 (aadd (aadd a175 0) 1)) fun v176 => asInt .i64 v176 fun i177 => .act (bdSl 1 1 [(.int .i64 i177)]) fun v178 => asSlice v178 fun p179 n180 n181 => .get fun h216 => grd (chks [((ld1 (aadd a170 4)), v171)] h216) (.act (apS 1 8 p172 n173 n174 p179 n180 n181) fun v182 => asSlice v182 fun p183 n184 n185 => asSome p0 fun a186 => .act (stC (aadd a186 4) [(.slice p183 n184 n185)]) fun v187 => asTuple v187 fun l188 => asNil l188 (.call 102 [] fun v189 => asAgg v189 fun l190 => asCons l190 fun v191 l192 => asInt .i64 v191 fun i193 => asCons l192 fun v194 l195 => asInt .i64 v194 fun i196 => asCons l195 fun v197 l198 => asStr v197 fun s199 => asCons l198 fun v200 l201 => asSlice v200 fun p202 n203 n204 => asCons l201 fun v205 l206 => asInt .i64 v205 fun i207 => asCons l206 fun v208 l209 => asPtr v208 fun p210 => asCons l209 fun v211 l212 => asInt .i64 v211 fun i213 => asNil l212 (.call 95 [(.pointer p0), (.agg #[(.int .i64 i193), (.int .i64 i196), (.string s199), (.slice p202 n203 n204), (.int .i64 i207), (.pointer p210), (.int .i64 i213)])] fun v214 => asTuple v214 fun l215 => asNil l215 (.ret .normal [])))))))) else (.join (bif (i18 == 19) then (asSome p11 fun a217 => grd (decide (0 < ((n12 : Nat) : Int))) (.act (ldN 7 (aadd a217 0)) fun v218 => asAgg v218 fun l219 => asCons l219 fun v220 l221 => asInt .i64 v220 fun i222 => asCons l221 fun v223 l224 => asInt .i64 v223 fun i225 => asCons l224 fun v226 l227 => asStr v226 fun s228 => asCons l227 fun v229 l230 => asSlice v229 fun p231 n232 n233 => asCons l230 fun v234 l235 => asInt .i64 v234 fun i236 => asCons l235 fun v237 l238 => asPtr v237 fun p239 => asCons l238 fun v240 l241 => asInt .i64 v240 fun i242 => asNil l241 (.call 120 [(.pointer p0), (.agg #[(.int .i64 i222), (.int .i64 i225), (.string s228), (.slice p231 n232 n233), (.int .i64 i236), (.pointer p239), (.int .i64 i242)])] fun v243 => asTuple v243 fun l244 => asNil l244 (.ret .normal [])))) else (.act (ldN 7 a16) fun v245 => asAgg v245 fun l246 => asCons l246 fun v247 l248 => asInt .i64 v247 fun i249 => asCons l248 fun v250 l251 => asInt .i64 v250 fun i252 => asCons l251 fun v253 l254 => asStr v253 fun s255 => asCons l254 fun v256 l257 => asStr v256 fun s258 => asCons l257 fun v259 l260 => asSlice v259 fun p261 n262 n263 => asCons l260 fun v264 l265 => asInt .i64 v264 fun i266 => asCons l265 fun v267 l268 => asInt .i64 v267 fun i269 => asNil l268 (.call 121 [(.pointer p0), (.agg #[(.int .i64 i249), (.int .i64 i252), (.string s255), (.string s258), (.slice p261 n262 n263), (.int .i64 i266), (.int .i64 i269)]), (.slice p11 n12 n13)] fun v270 => asTuple v270 fun l271 => asNil l271 (.ret .normal [])))) (T100k1))) (T100k2))) (T100k3))) (T100k4))) (T100k5)) (T100k6)
theorem T100_eq (p0 : (Option Addr)) (i1 : Int) (i2 : Int) (i3 : Int) (s4 : ByteArray) (s5 : ByteArray) (p6 : (Option Addr)) (n7 : Nat) (n8 : Nat) (i9 : Int) (i10 : Int) (p11 : (Option Addr)) (n12 : Nat) (n13 : Nat) : progOf PROG false 100 [(.pointer p0), (.int .i64 i1), (.agg #[(.int .i64 i2), (.int .i64 i3), (.string s4), (.string s5), (.slice p6 n7 n8), (.int .i64 i9), (.int .i64 i10)]), (.slice p11 n12 n13)] = T100 p0 i1 i2 i3 s4 s5 p6 n7 n8 i9 i10 p11 n12 n13 := by kernel_rfl


/-- hindsight/val.Number -/
noncomputable def T101 (i0 : Int) : Pg :=
  .act (newC [(.int .i64 0), (.int .i64 0), (.string (bs [])), (.slice none 0 0), (.int .i64 0), (.pointer none), (.int .i64 0)]) fun v1 => asPtr v1 fun p2 => asSome p2 fun a3 => .call 23 [(.int .i64 i0)] fun v4 => asInt .i64 v4 fun i5 => .act (stC a3 [(.int .i64 1), (.int .i64 i5), (.string (bs [])), (.slice none 0 0), (.int .i64 0), (.pointer none), (.int .i64 0)]) fun v6 => asTuple v6 fun l7 => asNil l7 (.act (ldN 7 a3) fun v8 => .ret .ret [v8])
theorem T101_eq (i0 : Int) : progOf PROG false 101 [(.int .i64 i0)] = T101 i0 := by kernel_rfl


/-- hindsight/source.unit -/
noncomputable def T102 : Pg :=
  .act (newC [(.int .i64 0), (.int .i64 0), (.string (bs [])), (.slice none 0 0), (.int .i64 0), (.pointer none), (.int .i64 0)]) fun v0 => asPtr v0 fun p1 => asSome p1 fun a2 => .act (stC a2 [(.int .i64 3), (.int .i64 0), (.string (bs [])), (.slice none 0 0), (.int .i64 0), (.pointer none), (.int .i64 0)]) fun v3 => asTuple v3 fun l4 => asNil l4 (.act (ldN 7 a2) fun v5 => .ret .ret [v5])
theorem T102_eq : progOf PROG false 102 [] = T102 := by kernel_rfl


noncomputable def T103k0 (p8 : (Option Addr)) : Ex → List Value → Pg :=
  fun e43 l44 => sw e43 .ret (asCons l44 fun v45 l46 => asBool v45 fun b47 => asNil l46 (.ret .ret [(.pointer p8), (.bool b47)])) (sw e43 .normal (asCons l44 fun v48 l49 => asBool v48 fun b50 => asNil l49 (asSome p8 fun a51 => .act (ld1 (aadd a51 8)) fun v52 => asPtr v52 fun p53 => .ret .normal [(.pointer p53), (.bool b50)])) (.fail))

noncomputable def T103b0 (s1 : ByteArray) (a4 : Addr) : List Value → Pg :=
  fun l5 => asCons l5 fun v6 l7 => asPtr v6 fun p8 => asCons l7 fun v9 l10 => asBool v9 fun b11 => asNil l10 (bif (!(Option.isNone p8)) then (.join (asSome p8 fun a12 => .act (ld1 (aadd a12 0)) fun v13 => asStr v13 fun s14 => bif (s14.toList == s1.toList) then (asSome p8 fun a15 => .act (ldN 7 (aadd a15 1)) fun v16 => asAgg v16 fun l17 => asCons l17 fun v18 l19 => asInt .i64 v18 fun i20 => asCons l19 fun v21 l22 => asInt .i64 v21 fun i23 => asCons l22 fun v24 l25 => asStr v24 fun s26 => asCons l25 fun v27 l28 => asSlice v27 fun p29 n30 n31 => asCons l28 fun v32 l33 => asInt .i64 v32 fun i34 => asCons l33 fun v35 l36 => asPtr v35 fun p37 => asCons l36 fun v38 l39 => asInt .i64 v38 fun i40 => asNil l39 (.act (stC a4 [(.int .i64 i20), (.int .i64 i23), (.string s26), (.slice p29 n30 n31), (.int .i64 i34), (.pointer p37), (.int .i64 i40)]) fun v41 => asTuple v41 fun l42 => asNil l42 (.ret .ret [(.bool true)]))) else (.ret .normal [(.bool b11)])) (T103k0 p8)) else (.ret (.exit 0) [(.pointer p8), (.bool b11)]))

noncomputable def T103k1 (a4 : Addr) : Ex → List Value → Pg :=
  fun e54 l55 => sw e54 (.exit 0) (asCons l55 fun v56 l57 => asPtr v56 fun p58 => asCons l57 fun v59 l60 => asBool v59 fun b61 => asNil l60 (.act (stC a4 [(.int .i64 0), (.int .i64 0), (.string (bs [])), (.slice none 0 0), (.int .i64 0), (.pointer none), (.int .i64 0)]) fun v62 => asTuple v62 fun l63 => asNil l63 (.act (ldN 7 a4) fun v64 => .ret .ret [(.tuple #[v64, (.bool false)])]))) (sw e54 .ret (asCons l55 fun v65 l66 => asPtr v65 fun p67 => asCons l66 fun v68 l69 => asBool v68 fun b70 => asNil l69 (.act (ldN 7 a4) fun v71 => .ret .ret [(.tuple #[v71, (.bool b70)])])) (.fail))

/-- hindsight/val.Find -/
noncomputable def T103 (p0 : (Option Addr)) (s1 : ByteArray) : Pg :=
  .act (newC [(.int .i64 0), (.int .i64 0), (.string (bs [])), (.slice none 0 0), (.int .i64 0), (.pointer none), (.int .i64 0)]) fun v2 => asPtr v2 fun p3 => asSome p3 fun a4 => .loop [(.pointer p0), (.bool false)] (T103b0 s1 a4) (T103k1 a4)
theorem T103_eq (p0 : (Option Addr)) (s1 : ByteArray) : progOf PROG false 103 [(.pointer p0), (.string s1)] = T103 p0 s1 := by kernel_rfl


/-- (*hindsight/source.Machine).stuck -/
noncomputable def T104 (p0 : (Option Addr)) : Pg :=
  asSome p0 fun a1 => .act (stC (aadd a1 9) [(.int .i64 2)]) fun v2 => asTuple v2 fun l3 => asNil l3 (.ret .ret [(.tuple #[])])
theorem T104_eq (p0 : (Option Addr)) : progOf PROG false 104 [(.pointer p0)] = T104 p0 := by kernel_rfl


/-- (*hindsight/source.Machine).input -/
noncomputable def T105 (p0 : (Option Addr)) : Pg :=
  asSome p0 fun a1 => .act (ld1 (aadd a1 3)) fun v2 => asInt .i64 v2 fun i3 => asSome p0 fun a4 => .act (ld1 (aadd a4 2)) fun v5 => asSlice v5 fun p6 n7 n8 => bif (decide (i3 ≥ ((n7 : Nat) : Int))) then (asSome p0 fun a9 => .act (stC (aadd a9 9) [(.int .i64 3)]) fun v10 => asTuple v10 fun l11 => asNil l11 (.ret .ret [(.tuple #[])])) else (asSome p0 fun a12 => .act (ld1 (aadd a12 3)) fun v13 => asInt .i64 v13 fun i14 => asSome p0 fun a15 => .act (stC (aadd a15 3) [(.int .i64 (wi64 (i14 + 1)))]) fun v16 => asTuple v16 fun l17 => asNil l17 (asSome p0 fun a18 => .act (ld1 (aadd a18 2)) fun v19 => asSlice v19 fun p20 n21 n22 => asSome p0 fun a23 => .act (ld1 (aadd a23 3)) fun v24 => asInt .i64 v24 fun i25 => asSome p20 fun a26 => grd ((decide (0 ≤ (wi64 (i25 - 1)))) && (decide ((wi64 (i25 - 1)) < ((n21 : Nat) : Int)))) (.act (ld1 (aadd a26 ((Int.toNat (wi64 (i25 - 1))) * 1))) fun v27 => asInt .i64 v27 fun i28 => .call 101 [(.int .i64 i28)] fun v29 => asAgg v29 fun l30 => asCons l30 fun v31 l32 => asInt .i64 v31 fun i33 => asCons l32 fun v34 l35 => asInt .i64 v34 fun i36 => asCons l35 fun v37 l38 => asStr v37 fun s39 => asCons l38 fun v40 l41 => asSlice v40 fun p42 n43 n44 => asCons l41 fun v45 l46 => asInt .i64 v45 fun i47 => asCons l46 fun v48 l49 => asPtr v48 fun p50 => asCons l49 fun v51 l52 => asInt .i64 v51 fun i53 => asNil l52 (.call 95 [(.pointer p0), (.agg #[(.int .i64 i33), (.int .i64 i36), (.string s39), (.slice p42 n43 n44), (.int .i64 i47), (.pointer p50), (.int .i64 i53)])] fun v54 => asTuple v54 fun l55 => asNil l55 (.ret .ret [(.tuple #[])])))))
theorem T105_eq (p0 : (Option Addr)) : progOf PROG false 105 [(.pointer p0)] = T105 p0 := by kernel_rfl


noncomputable def T107k0 : Ex → List Value → Pg :=
  fun e22 l23 => sw e22 .normal (asCons l23 fun v24 l25 => asPtr v24 fun p26 => asNil l25 (.ret .normal [(.pointer p26)])) (sw e22 (.exit 0) (asCons l23 fun v27 l28 => asPtr v27 fun p29 => asNil l28 (.ret (.exit 0) [(.pointer p29)])) (.fail))

noncomputable def T107k1 : Ex → List Value → Pg :=
  fun e30 l31 => sw e30 .normal (asCons l31 fun v32 l33 => asPtr v32 fun p34 => asNil l33 (.ret .normal [(.pointer p34)])) (sw e30 (.exit 0) (asCons l31 fun v35 l36 => asPtr v35 fun p37 => asNil l36 (.ret (.exit 0) [(.pointer p37)])) (.fail))

noncomputable def T107b0 (p0 : (Option Addr)) : List Value → Pg :=
  fun l3 => asCons l3 fun v4 l5 => asPtr v4 fun p6 => asNil l5 (asSome p0 fun a7 => .act (ld1 (aadd a7 3)) fun v8 => asBool v8 fun b9 => bif (!b9) then (.join (.call 64 [(.pointer p0), (.string (bs [43]))] fun v10 => asBool v10 fun b11 => .join (bif b11 then (.call 124 [(.pointer p0)] fun v12 => asPtr v12 fun p13 => .call 68 [(.int .i64 14), (.string (bs [43])), (.pointer p6), (.pointer p13)] fun v14 => asPtr v14 fun p15 => .ret .normal [(.pointer p15)]) else (.call 64 [(.pointer p0), (.string (bs [45]))] fun v16 => asBool v16 fun b17 => bif b17 then (.call 124 [(.pointer p0)] fun v18 => asPtr v18 fun p19 => .call 68 [(.int .i64 14), (.string (bs [45])), (.pointer p6), (.pointer p19)] fun v20 => asPtr v20 fun p21 => .ret .normal [(.pointer p21)]) else (.ret (.exit 0) [(.pointer p6)]))) (T107k0)) (T107k1)) else (.ret (.exit 0) [(.pointer p6)]))

noncomputable def T107k2 : Ex → List Value → Pg :=
  fun e38 l39 => sw e38 (.exit 0) (asCons l39 fun v40 l41 => asPtr v40 fun p42 => asNil l41 (.ret .ret [(.pointer p42)])) (.fail)

/-- (*hindsight/hindsightref3.reader).sum -/
noncomputable def T107 (p0 : (Option Addr)) : Pg :=
  .call 124 [(.pointer p0)] fun v1 => asPtr v1 fun p2 => .loop [(.pointer p2)] (T107b0 p0) (T107k2)
theorem T107_eq (p0 : (Option Addr)) : progOf PROG false 107 [(.pointer p0)] = T107 p0 := by kernel_rfl


noncomputable def T108k0 : Ex → List Value → Pg :=
  fun e20 l21 => sw e20 .normal (asCons l21 fun v22 l23 => asBool v22 fun b24 => asNil l23 (.ret .ret [(.bool b24)])) (.fail)

/-- hindsight/hindsightref1.Name -/
noncomputable def T108 (s0 : ByteArray) : Pg :=
  .call 42 [(.string s0)] fun v1 => asTuple v1 fun l2 => asCons l2 fun v3 l4 => asSlice v3 fun p5 n6 n7 => asCons l4 fun v8 l9 => asInt .i64 v8 fun i10 => asCons l9 fun v11 l12 => asInt .i64 v11 fun i13 => asNil l12 (.join (bif (i10 == 0) == true then (bif (((n6 : Nat) : Int) == 1) == true then (asSome p5 fun a14 => grd (decide (0 < ((n6 : Nat) : Int))) (.act (ld1 (aadd (aadd a14 0) 0)) fun v15 => asInt .i64 v15 fun i16 => bif (i16 == 2) == true then (asSome p5 fun a17 => grd (decide (0 < ((n6 : Nat) : Int))) (.act (ld1 (aadd (aadd a17 0) 1)) fun v18 => asStr v18 fun s19 => .ret .normal [(.bool (s19.toList == s0.toList))])) else (.ret .normal [(.bool false)]))) else (.ret .normal [(.bool false)])) else (.ret .normal [(.bool false)])) (T108k0))
theorem T108_eq (s0 : ByteArray) : progOf PROG false 108 [(.string s0)] = T108 s0 := by kernel_rfl


/-- hindsight/hindsightref3.most -/
noncomputable def T109 : Pg :=
  .ret .ret [(.int .i64 4611686018427387903)]
theorem T109_eq : progOf PROG false 109 [] = T109 := by kernel_rfl


noncomputable def T110k0 (s0 : ByteArray) : Ex → List Value → Pg :=
  fun e1 l2 => sw e1 .normal (asCons l2 fun v3 l4 => asBool v3 fun b5 => asNil l4 (bif b5 then (grd (decide (0 < ((s0.size : Nat) : Int))) (.ret .ret [(.tuple #[(.int .i32 (wi32 (byteAt s0 0))), (.int .i64 1)])])) else (.call 125 [(.string s0)] fun v6 => asTuple v6 fun l7 => asCons l7 fun v8 l9 => asInt .i32 v8 fun i10 => asCons l9 fun v11 l12 => asInt .i64 v11 fun i13 => asNil l12 (.ret .ret [(.tuple #[(.int .i32 i10), (.int .i64 i13)])])))) (.fail)

/-- unicode/utf8.DecodeRuneInString -/
noncomputable def T110 (s0 : ByteArray) : Pg :=
  .join (bif (!(s0.toList == (bs []).toList)) == true then (grd (decide (0 < ((s0.size : Nat) : Int))) (.ret .normal [(.bool (decide ((byteAt s0 0) < 128)))])) else (.ret .normal [(.bool false)])) (T110k0 s0)
theorem T110_eq (s0 : ByteArray) : progOf PROG false 110 [(.string s0)] = T110 s0 := by kernel_rfl


noncomputable def T111k0 (i0 : Int) : Ex → List Value → Pg :=
  fun e3 l4 => sw e3 .normal (asCons l4 fun v5 l6 => asBool v5 fun b7 => asNil l6 (bif b7 then (.ret .ret [(.int .i64 1)]) else (bif ((decide (i0 ≥ 48)) && (decide (i0 ≤ 57))) then (.ret .ret [(.int .i64 2)]) else (.ret .normal [(.int .i64 0)])))) (.fail)

noncomputable def T111k1 : Ex → List Value → Pg :=
  fun e16 l17 => sw e16 .normal (asCons l17 fun v18 l19 => asBool v18 fun b20 => asNil l19 (.ret .normal [(.bool b20)])) (.fail)

noncomputable def T111k2 : Ex → List Value → Pg :=
  fun e21 l22 => sw e21 .normal (asCons l22 fun v23 l24 => asBool v23 fun b25 => asNil l24 (.ret .normal [(.bool b25)])) (.fail)

noncomputable def T111k3 : Ex → List Value → Pg :=
  fun e31 l32 => sw e31 .normal (asCons l32 fun v33 l34 => asBool v33 fun b35 => asNil l34 (.ret .normal [(.bool b35)])) (.fail)

noncomputable def T111k4 : Ex → List Value → Pg :=
  fun e36 l37 => sw e36 .normal (asCons l37 fun v38 l39 => asBool v38 fun b40 => asNil l39 (.ret .normal [(.bool b40)])) (.fail)

noncomputable def T111k5 : Ex → List Value → Pg :=
  fun e41 l42 => sw e41 .normal (asCons l42 fun v43 l44 => asBool v43 fun b45 => asNil l44 (.ret .normal [(.bool b45)])) (.fail)

noncomputable def T111k6 : Ex → List Value → Pg :=
  fun e46 l47 => sw e46 .normal (asCons l47 fun v48 l49 => asBool v48 fun b50 => asNil l49 (.ret .normal [(.bool b50)])) (.fail)

noncomputable def T111k7 : Ex → List Value → Pg :=
  fun e51 l52 => sw e51 .normal (asCons l52 fun v53 l54 => asBool v53 fun b55 => asNil l54 (.ret .normal [(.bool b55)])) (.fail)

noncomputable def T111k8 : Ex → List Value → Pg :=
  fun e56 l57 => sw e56 .normal (asCons l57 fun v58 l59 => asBool v58 fun b60 => asNil l59 (.ret .normal [(.bool b60)])) (.fail)

noncomputable def T111k9 : Ex → List Value → Pg :=
  fun e61 l62 => sw e61 .normal (asCons l62 fun v63 l64 => asBool v63 fun b65 => asNil l64 (.ret .normal [(.bool b65)])) (.fail)

noncomputable def T111k10 : Ex → List Value → Pg :=
  fun e66 l67 => sw e66 .normal (asCons l67 fun v68 l69 => asBool v68 fun b70 => asNil l69 (.ret .normal [(.bool b70)])) (.fail)

noncomputable def T111k11 : Ex → List Value → Pg :=
  fun e71 l72 => sw e71 .normal (asCons l72 fun v73 l74 => asBool v73 fun b75 => asNil l74 (.ret .normal [(.bool b75)])) (.fail)

noncomputable def T111k12 : Ex → List Value → Pg :=
  fun e76 l77 => sw e76 .normal (asCons l77 fun v78 l79 => asBool v78 fun b80 => asNil l79 (.ret .normal [(.bool b80)])) (.fail)

noncomputable def T111k13 : Ex → List Value → Pg :=
  fun e81 l82 => sw e81 .normal (asCons l82 fun v83 l84 => asBool v83 fun b85 => asNil l84 (.ret .normal [(.bool b85)])) (.fail)

noncomputable def T111k14 (i15 : Int) : Ex → List Value → Pg :=
  fun e86 l87 => sw e86 .normal (asCons l87 fun v88 l89 => asBool v88 fun b90 => asNil l89 (bif b90 then (.ret .ret [(.int .i64 4)]) else (.ret .normal [(.int .i64 i15)]))) (.fail)

noncomputable def T111k15 (i0 : Int) (i15 : Int) : Ex → List Value → Pg :=
  fun e26 l27 => sw e26 .normal (asCons l27 fun v28 l29 => asBool v28 fun b30 => asNil l29 (bif b30 then (.ret .ret [(.int .i64 3)]) else (.join (bif (i0 == 40) then (.ret .normal [(.bool (i0 == 40))]) else (.join (bif (i0 == 41) then (.ret .normal [(.bool (i0 == 41))]) else (.join (bif (i0 == 44) then (.ret .normal [(.bool (i0 == 44))]) else (.join (bif (i0 == 59) then (.ret .normal [(.bool (i0 == 59))]) else (.join (bif (i0 == 61) then (.ret .normal [(.bool (i0 == 61))]) else (.join (bif (i0 == 60) then (.ret .normal [(.bool (i0 == 60))]) else (.join (bif (i0 == 62) then (.ret .normal [(.bool (i0 == 62))]) else (.join (bif (i0 == 43) then (.ret .normal [(.bool (i0 == 43))]) else (.join (bif (i0 == 45) then (.ret .normal [(.bool (i0 == 45))]) else (.join (bif (i0 == 42) then (.ret .normal [(.bool (i0 == 42))]) else (.join (bif (i0 == 124) then (.ret .normal [(.bool (i0 == 124))]) else (.join (bif (i0 == 33) then (.ret .normal [(.bool (i0 == 33))]) else (.ret .normal [(.bool (i0 == 58))])) (T111k3))) (T111k4))) (T111k5))) (T111k6))) (T111k7))) (T111k8))) (T111k9))) (T111k10))) (T111k11))) (T111k12))) (T111k13))) (T111k14 i15)))) (.fail)

noncomputable def T111k16 : Ex → List Value → Pg :=
  fun e91 l92 => sw e91 .ret (asCons l92 fun v93 l94 => asInt .i64 v93 fun i95 => asNil l94 (.ret .ret [(.int .i64 i95)])) (sw e91 .normal (asCons l92 fun v96 l97 => asInt .i64 v96 fun i98 => asNil l97 (.ret .ret [(.int .i64 0)])) (.fail))

noncomputable def T111k17 (i0 : Int) : Ex → List Value → Pg :=
  fun e8 l9 => sw e8 .ret (asCons l9 fun v10 l11 => asInt .i64 v10 fun i12 => asNil l11 (.ret .ret [(.int .i64 i12)])) (sw e8 .normal (asCons l9 fun v13 l14 => asInt .i64 v13 fun i15 => asNil l14 (.join (.join (bif (i0 == 32) then (.ret .normal [(.bool (i0 == 32))]) else (.join (bif (i0 == 9) then (.ret .normal [(.bool (i0 == 9))]) else (.join (bif (i0 == 10) then (.ret .normal [(.bool (i0 == 10))]) else (.ret .normal [(.bool (i0 == 13))])) (T111k1))) (T111k2))) (T111k15 i0 i15)) (T111k16))) (.fail))

/-- hindsight/chars.Class -/
noncomputable def T111 (i0 : Int) : Pg :=
  .join (.join (bif ((i0 == 95) || (i0 == 39)) == false then (.call 80 [(.int .i32 i0)] fun v1 => asBool v1 fun b2 => .ret .normal [(.bool b2)]) else (.ret .normal [(.bool true)])) (T111k0 i0)) (T111k17 i0)
theorem T111_eq (i0 : Int) : progOf PROG false 111 [(.int .i32 i0)] = T111 i0 := by kernel_rfl


noncomputable def T112k0 : Ex → List Value → Pg :=
  fun e21 l22 => sw e21 .normal (asNil l22 (.ret .normal [])) (.fail)

noncomputable def T112k1 : Ex → List Value → Pg :=
  fun e23 l24 => sw e23 .normal (asNil l24 (.ret .normal [])) (.fail)

noncomputable def T112k2 (a8 : Addr) (a3 : Addr) : Ex → List Value → Pg :=
  fun e25 l26 => sw e25 .normal (asNil l26 (.act (ldN 4 a8) fun v27 => asAgg v27 fun l28 => asCons l28 fun v29 l30 => asInt .i64 v29 fun i31 => asCons l30 fun v32 l33 => asStr v32 fun s34 => asCons l33 fun v35 l36 => asInt .i64 v35 fun i37 => asCons l36 fun v38 l39 => asInt .i64 v38 fun i40 => asNil l39 (.act (stC a3 [(.int .i64 i31), (.string s34), (.int .i64 i37), (.int .i64 i40)]) fun v41 => asTuple v41 fun l42 => asNil l42 (.act (ldN 4 a3) fun v43 => .ret .ret [v43])))) (.fail)

/-- hindsight/lex.named -/
noncomputable def T112 (s0 : ByteArray) : Pg :=
  .act (newC [(.int .i64 0), (.string (bs [])), (.int .i64 0), (.int .i64 0)]) fun v1 => asPtr v1 fun p2 => asSome p2 fun a3 => .call 113 [(.string s0), (.func (.func 126) #[] #[])] fun v4 => asInt .i64 v4 fun i5 => grd ((decide (0 ≤ i5)) && (decide (i5 ≤ ((s0.size : Nat) : Int)))) (.act (newC [(.int .i64 0), (.string (bs [])), (.int .i64 0), (.int .i64 0)]) fun v6 => asPtr v6 fun p7 => asSome p7 fun a8 => .act (stC a8 [(.int .i64 2), (.string (s0.extract 0 (Int.toNat i5))), (.int .i64 0), (.int .i64 0)]) fun v9 => asTuple v9 fun l10 => asNil l10 (.join (.call 127 [(.string s0)] fun v11 => asBool v11 fun b12 => .join (bif b12 then (.act (stC (aadd a8 0) [(.int .i64 3)]) fun v13 => asTuple v13 fun l14 => asNil l14 (.ret .normal [])) else (.act (ld1 (aadd a8 1)) fun v15 => asStr v15 fun s16 => .call 128 [(.string s16)] fun v17 => asBool v17 fun b18 => .join (bif b18 then (.act (stC (aadd a8 0) [(.int .i64 4)]) fun v19 => asTuple v19 fun l20 => asNil l20 (.ret .normal [])) else (.ret .normal [])) (T112k0))) (T112k1)) (T112k2 a8 a3)))
theorem T112_eq (s0 : ByteArray) : progOf PROG false 112 [(.string s0)] = T112 s0 := by kernel_rfl


noncomputable def T113k0 : Ex → List Value → Pg :=
  fun e17 l18 => sw e17 .ret (asCons l18 fun v19 l20 => asInt .i64 v19 fun i21 => asNil l20 (.ret .ret [(.int .i64 i21)])) (sw e17 .normal (asCons l18 fun v22 l23 => asInt .i64 v22 fun i24 => asNil l23 (.ret .normal [(.int .i64 i24)])) (.fail))

noncomputable def T113b0 (a4 : Addr) (v1 : Value) : List Value → Pg :=
  fun l5 => asCons l5 fun v6 l7 => asInt .i64 v6 fun i8 => asNil l7 (.act (nxt (some a4)) fun v9 => asNx v9 (fun i10 i11 => .join (asFunc v1 fun n12 l13 l14 => .call n12 (l13 ++ [(.int .i32 i11)] ++ l14) fun v15 => asBool v15 fun b16 => bif (!b16) then (.ret .ret [(.int .i64 i10)]) else (.ret .normal [(.int .i64 i8)])) (T113k0)) (.ret (.exit 0) [(.int .i64 i8)]))

noncomputable def T113k1 (s0 : ByteArray) : Ex → List Value → Pg :=
  fun e25 l26 => sw e25 (.exit 0) (asCons l26 fun v27 l28 => asInt .i64 v27 fun i29 => asNil l28 (.ret .ret [(.int .i64 ((s0.size : Nat) : Int))])) (sw e25 .ret (asCons l26 fun v30 l31 => asInt .i64 v30 fun i32 => asNil l31 (.ret .ret [(.int .i64 i32)])) (.fail))

/-- hindsight/lex.run -/
noncomputable def T113 (s0 : ByteArray) (v1 : Value) : Pg :=
  .act (rng s0) fun v2 => asPtr v2 fun p3 => asSome p3 fun a4 => .loop [(.int .i64 0)] (T113b0 a4 v1) (T113k1 s0)
theorem T113_eq (s0 : ByteArray) (v1 : Value) : progOf PROG false 113 [(.string s0), v1] = T113 s0 v1 := by kernel_rfl


/-- hindsight/lex.word$1 -/
noncomputable def T114 (i0 : Int) : Pg :=
  .call 111 [(.int .i32 i0)] fun v1 => asInt .i64 v1 fun i2 => .ret .ret [(.bool (i2 == 2))]
theorem T114_eq (i0 : Int) : progOf PROG false 114 [(.int .i32 i0)] = T114 i0 := by kernel_rfl


noncomputable def T115k0 : Ex → List Value → Pg :=
  fun e17 l18 => sw e17 .ret (asCons l18 fun v19 l20 => asInt .i64 v19 fun i21 => asCons l20 fun v22 l23 => asBool v22 fun b24 => asCons l23 fun v25 l26 => asInt .i64 v25 fun i27 => asNil l26 (.ret .ret [(.int .i64 i21), (.bool b24), (.int .i64 i27)])) (sw e17 .normal (asCons l18 fun v28 l29 => asInt .i64 v28 fun i30 => asCons l29 fun v31 l32 => asBool v31 fun b33 => asCons l32 fun v34 l35 => asInt .i64 v34 fun i36 => asNil l35 (.ret .normal [(.int .i64 i30), (.bool b33), (.int .i64 i36)])) (.fail))

noncomputable def T115b0 (a3 : Addr) : List Value → Pg :=
  fun l4 => asCons l4 fun v5 l6 => asInt .i64 v5 fun i7 => asCons l6 fun v8 l9 => asBool v8 fun b10 => asCons l9 fun v11 l12 => asInt .i64 v11 fun i13 => asNil l12 (.act (nxt (some a3)) fun v14 => asNx v14 (fun i15 i16 => .join (bif (decide (i7 > (wi64 (Int.tdiv (wi64 (4611686018427387903 - (wi64 (wi32 (i16 - 48))))) 10)))) then (.ret .ret [(.int .i64 i7), (.bool false), (.int .i64 0)]) else (.ret .normal [(.int .i64 (wi64 ((wi64 (10 * i7)) + (wi64 (wi32 (i16 - 48)))))), (.bool b10), (.int .i64 i13)])) (T115k0)) (.ret (.exit 0) [(.int .i64 i7), (.bool b10), (.int .i64 i13)]))

noncomputable def T115k1 : Ex → List Value → Pg :=
  fun e37 l38 => sw e37 (.exit 0) (asCons l38 fun v39 l40 => asInt .i64 v39 fun i41 => asCons l40 fun v42 l43 => asBool v42 fun b44 => asCons l43 fun v45 l46 => asInt .i64 v45 fun i47 => asNil l46 (.ret .ret [(.tuple #[(.int .i64 i41), (.bool true)])])) (sw e37 .ret (asCons l38 fun v48 l49 => asInt .i64 v48 fun i50 => asCons l49 fun v51 l52 => asBool v51 fun b53 => asCons l52 fun v54 l55 => asInt .i64 v54 fun i56 => asNil l55 (.ret .ret [(.tuple #[(.int .i64 i56), (.bool b53)])])) (.fail))

/-- hindsight/lex.Value -/
noncomputable def T115 (s0 : ByteArray) : Pg :=
  .act (rng s0) fun v1 => asPtr v1 fun p2 => asSome p2 fun a3 => .loop [(.int .i64 0), (.bool false), (.int .i64 0)] (T115b0 a3) (T115k1)
theorem T115_eq (s0 : ByteArray) : progOf PROG false 115 [(.string s0)] = T115 s0 := by kernel_rfl


noncomputable def T116k0 (i11 : Int) : Ex → List Value → Pg :=
  fun e19 l20 => sw e19 .ret (asNil l20 (.ret .ret [(.int .i64 i11)])) (sw e19 .normal (asNil l20 (.ret .normal [(.int .i64 (wi64 (i11 + 1)))])) (.fail))

noncomputable def T116b0 (n6 : Nat) (p5 : (Option Addr)) (s0 : ByteArray) (a3 : Addr) : List Value → Pg :=
  fun l8 => asCons l8 fun v9 l10 => asInt .i64 v9 fun i11 => asNil l10 (bif (decide (i11 < ((n6 : Nat) : Int))) then (.join (asSome p5 fun a12 => grd ((decide (0 ≤ i11)) && (decide (i11 < ((n6 : Nat) : Int)))) (.act (ld1 (aadd a12 ((Int.toNat i11) * 1))) fun v13 => asStr v13 fun s14 => .call 129 [(.string s0), (.string s14)] fun v15 => asBool v15 fun b16 => bif b16 then (.act (stC a3 [(.int .i64 5), (.string s14), (.int .i64 0), (.int .i64 0)]) fun v17 => asTuple v17 fun l18 => asNil l18 (.ret .ret [])) else (.ret .normal []))) (T116k0 i11)) else (.ret (.exit 0) [(.int .i64 i11)]))

noncomputable def T116k1 (a3 : Addr) (s0 : ByteArray) : Ex → List Value → Pg :=
  fun e26 l27 => sw e26 .normal (asCons l27 fun v28 l29 => asBool v28 fun b30 => asNil l29 (bif b30 then (.act (stC a3 [(.int .i64 0), (.string (bs [])), (.int .i64 0), (.int .i64 0)]) fun v31 => asTuple v31 fun l32 => asNil l32 (.act (ldN 4 a3) fun v33 => .ret .ret [v33])) else (grd (decide (1 ≤ ((s0.size : Nat) : Int))) (.act (stC a3 [(.int .i64 5), (.string (s0.extract 0 1)), (.int .i64 0), (.int .i64 0)]) fun v34 => asTuple v34 fun l35 => asNil l35 (.act (ldN 4 a3) fun v36 => .ret .ret [v36]))))) (.fail)

noncomputable def T116k2 (s0 : ByteArray) (a3 : Addr) : Ex → List Value → Pg :=
  fun e21 l22 => sw e21 (.exit 0) (asCons l22 fun v23 l24 => asInt .i64 v23 fun i25 => asNil l24 (.join (grd (decide (0 < ((s0.size : Nat) : Int))) (bif ((byteAt s0 0) == 62) == false then (grd (decide (0 < ((s0.size : Nat) : Int))) (.ret .normal [(.bool ((byteAt s0 0) == 58))])) else (.ret .normal [(.bool true)]))) (T116k1 a3 s0))) (sw e21 .ret (asCons l22 fun v37 l38 => asInt .i64 v37 fun i39 => asNil l38 (.act (ldN 4 a3) fun v40 => .ret .ret [v40])) (.fail))

/-- hindsight/lex.marked -/
noncomputable def T116 (s0 : ByteArray) : Pg :=
  .act (newC [(.int .i64 0), (.string (bs [])), (.int .i64 0), (.int .i64 0)]) fun v1 => asPtr v1 fun p2 => asSome p2 fun a3 => .act (bdSl 1 2 [(.string (bs [58, 61])), (.string (bs [45, 62]))]) fun v4 => asSlice v4 fun p5 n6 n7 => .loop [(.int .i64 0)] (T116b0 n6 p5 s0 a3) (T116k2 s0 a3)
theorem T116_eq (s0 : ByteArray) : progOf PROG false 116 [(.string s0)] = T116 s0 := by kernel_rfl


noncomputable def T117k0 : Ex → List Value → Pg :=
  fun e89 l90 => sw e89 .normal (asCons l90 fun v91 l92 => asBool v91 fun b93 => asCons l92 fun v94 l95 => asPtr v94 fun p96 => asNil l95 (.ret .ret [(.bool b93), (.pointer p96)])) (.fail)

noncomputable def T117k1 : Ex → List Value → Pg :=
  fun e103 l104 => sw e103 .normal (asCons l104 fun v105 l106 => asBool v105 fun b107 => asCons l106 fun v108 l109 => asPtr v108 fun p110 => asNil l109 (.ret .ret [(.bool b107), (.pointer p110)])) (.fail)

noncomputable def T117k2 (i153 : Int) : Ex → List Value → Pg :=
  fun e204 l205 => sw e204 .ret (asCons l205 fun v206 l207 => asBool v206 fun b208 => asCons l207 fun v209 l210 => asPtr v209 fun p211 => asCons l210 fun v212 l213 => asPtr v212 fun p214 => asNil l213 (.ret .ret [(.int .i64 i153), (.bool b208), (.pointer p211), (.pointer p214)])) (sw e204 .normal (asCons l205 fun v215 l216 => asBool v215 fun b217 => asCons l216 fun v218 l219 => asPtr v218 fun p220 => asCons l219 fun v221 l222 => asPtr v221 fun p223 => asNil l222 (.ret .normal [(.int .i64 (wi64 (i153 + 1))), (.bool b217), (.pointer p220), (.pointer p223)])) (.fail))

noncomputable def T117b0 (n148 : Nat) (p147 : (Option Addr)) (a14 : Addr) (p0 : (Option Addr)) : List Value → Pg :=
  fun l150 => asCons l150 fun v151 l152 => asInt .i64 v151 fun i153 => asCons l152 fun v154 l155 => asBool v154 fun b156 => asCons l155 fun v157 l158 => asPtr v157 fun p159 => asCons l158 fun v160 l161 => asPtr v160 fun p162 => asNil l161 (bif (decide (i153 < ((n148 : Nat) : Int))) then (.join (asSome p147 fun a163 => grd ((decide (0 ≤ i153)) && (decide (i153 < ((n148 : Nat) : Int)))) (.act (ld1 (aadd a163 ((Int.toNat i153) * 1))) fun v164 => asInt .i64 v164 fun i165 => .act (ld1 (aadd a14 3)) fun v166 => asSlice v166 fun p167 n168 n169 => asSome p167 fun a170 => grd ((decide (0 ≤ i153)) && (decide (i153 < ((n168 : Nat) : Int)))) (.act (ldN 7 (aadd a170 ((Int.toNat i153) * 7))) fun v171 => asAgg v171 fun l172 => asCons l172 fun v173 l174 => asInt .i64 v173 fun i175 => asCons l174 fun v176 l177 => asInt .i64 v176 fun i178 => asCons l177 fun v179 l180 => asStr v179 fun s181 => asCons l180 fun v182 l183 => asSlice v182 fun p184 n185 n186 => asCons l183 fun v187 l188 => asInt .i64 v187 fun i189 => asCons l188 fun v190 l191 => asPtr v190 fun p192 => asCons l191 fun v193 l194 => asInt .i64 v193 fun i195 => asNil l194 (.call 117 [(.pointer p0), (.int .i64 i165), (.agg #[(.int .i64 i175), (.int .i64 i178), (.string s181), (.slice p184 n185 n186), (.int .i64 i189), (.pointer p192), (.int .i64 i195)]), (.pointer p162)] fun v196 => asTuple v196 fun l197 => asCons l197 fun v198 l199 => asPtr v198 fun p200 => asCons l199 fun v201 l202 => asBool v201 fun b203 => asNil l202 (bif (!b203) then (.ret .ret [(.bool false), (.pointer p200), (.pointer p200)]) else (.ret .normal [(.bool b156), (.pointer p159), (.pointer p200)])))))) (T117k2 i153)) else (.ret (.exit 1) [(.int .i64 i153), (.bool b156), (.pointer p159), (.pointer p162)]))

noncomputable def T117k3 : Ex → List Value → Pg :=
  fun e224 l225 => sw e224 (.exit 1) (asCons l225 fun v226 l227 => asInt .i64 v226 fun i228 => asCons l227 fun v229 l230 => asBool v229 fun b231 => asCons l230 fun v232 l233 => asPtr v232 fun p234 => asCons l233 fun v235 l236 => asPtr v235 fun p237 => asNil l236 (.ret .ret [(.tuple #[(.pointer p237), (.bool true)])])) (sw e224 .ret (asCons l225 fun v238 l239 => asInt .i64 v238 fun i240 => asCons l239 fun v241 l242 => asBool v241 fun b243 => asCons l242 fun v244 l245 => asPtr v244 fun p246 => asCons l245 fun v247 l248 => asPtr v247 fun p249 => asNil l248 (.ret .ret [(.tuple #[(.pointer p246), (.bool b243)])])) (.fail))

noncomputable def T117k4 (p11 : (Option Addr)) (a48 : Addr) (b123 : Bool) (p126 : (Option Addr)) (a14 : Addr) (p0 : (Option Addr)) : Ex → List Value → Pg :=
  fun e141 l142 => sw e141 .normal (asCons l142 fun v143 l144 => asBool v143 fun b145 => asNil l144 (bif b145 then (.ret .ret [(.tuple #[(.pointer p11), (.bool false)])]) else (.act (ld1 (aadd a48 4)) fun v146 => asSlice v146 fun p147 n148 n149 => .loop [(.int .i64 0), (.bool b123), (.pointer p126), (.pointer p11)] (T117b0 n148 p147 a14 p0) (T117k3)))) (.fail)

noncomputable def T117k5 (a14 : Addr) (a48 : Addr) (p11 : (Option Addr)) (p0 : (Option Addr)) : Ex → List Value → Pg :=
  fun e113 l114 => sw e113 .ret (asCons l114 fun v115 l116 => asBool v115 fun b117 => asCons l116 fun v118 l119 => asPtr v118 fun p120 => asNil l119 (.ret .ret [(.tuple #[(.pointer p120), (.bool b117)])])) (sw e113 .normal (asCons l114 fun v121 l122 => asBool v121 fun b123 => asCons l122 fun v124 l125 => asPtr v124 fun p126 => asNil l125 (.join (.act (ld1 (aadd a14 0)) fun v127 => asInt .i64 v127 fun i128 => bif (i128 != 4) == false then (.act (ld1 (aadd a14 2)) fun v129 => asStr v129 fun s130 => .act (ld1 (aadd a48 2)) fun v131 => asStr v131 fun s132 => bif (!(s130.toList == s132.toList)) == false then (.act (ld1 (aadd a14 3)) fun v133 => asSlice v133 fun p134 n135 n136 => .act (ld1 (aadd a48 4)) fun v137 => asSlice v137 fun p138 n139 n140 => .ret .normal [(.bool (((n135 : Nat) : Int) != ((n139 : Nat) : Int)))]) else (.ret .normal [(.bool true)])) else (.ret .normal [(.bool true)])) (T117k4 p11 a48 b123 p126 a14 p0))) (.fail))

/-- (*hindsight/source.Machine).meets -/
noncomputable def T117 (p0 : (Option Addr)) (i1 : Int) (i2 : Int) (i3 : Int) (s4 : ByteArray) (p5 : (Option Addr)) (n6 : Nat) (n7 : Nat) (i8 : Int) (p9 : (Option Addr)) (i10 : Int) (p11 : (Option Addr)) : Pg :=
  .act (newC [(.int .i64 i2), (.int .i64 i3), (.string s4), (.slice p5 n6 n7), (.int .i64 i8), (.pointer p9), (.int .i64 i10)]) fun v12 => asPtr v12 fun p13 => asSome p13 fun a14 => asSome p0 fun a15 => .act (ld1 (aadd (aadd a15 0) 0)) fun v16 => asSlice v16 fun p17 n18 n19 => asSome p17 fun a20 => grd ((decide (0 ≤ i1)) && (decide (i1 < ((n18 : Nat) : Int)))) (.act (ldN 7 (aadd a20 ((Int.toNat i1) * 7))) fun v21 => asAgg v21 fun l22 => asCons l22 fun v23 l24 => asInt .i64 v23 fun i25 => asCons l24 fun v26 l27 => asInt .i64 v26 fun i28 => asCons l27 fun v29 l30 => asStr v29 fun s31 => asCons l30 fun v32 l33 => asStr v32 fun s34 => asCons l33 fun v35 l36 => asSlice v35 fun p37 n38 n39 => asCons l36 fun v40 l41 => asInt .i64 v40 fun i42 => asCons l41 fun v43 l44 => asInt .i64 v43 fun i45 => asNil l44 (.act (newC [(.int .i64 0), (.int .i64 0), (.string (bs [])), (.string (bs [])), (.slice none 0 0), (.int .i64 0), (.int .i64 0)]) fun v46 => asPtr v46 fun p47 => asSome p47 fun a48 => .act (stC a48 [(.int .i64 i25), (.int .i64 i28), (.string s31), (.string s34), (.slice p37 n38 n39), (.int .i64 i42), (.int .i64 i45)]) fun v49 => asTuple v49 fun l50 => asNil l50 (.act (ld1 (aadd a48 0)) fun v51 => asInt .i64 v51 fun i52 => .join (bif (i52 == 21) then (.ret .ret [(.bool true), (.pointer p11)]) else (bif (i52 == 22) then (.act (ld1 (aadd a48 2)) fun v53 => asStr v53 fun s54 => .act (ldN 7 a14) fun v55 => asAgg v55 fun l56 => asCons l56 fun v57 l58 => asInt .i64 v57 fun i59 => asCons l58 fun v60 l61 => asInt .i64 v60 fun i62 => asCons l61 fun v63 l64 => asStr v63 fun s65 => asCons l64 fun v66 l67 => asSlice v66 fun p68 n69 n70 => asCons l67 fun v71 l72 => asInt .i64 v71 fun i73 => asCons l72 fun v74 l75 => asPtr v74 fun p76 => asCons l75 fun v77 l78 => asInt .i64 v77 fun i79 => asNil l78 (.act (newC [(.string s54), (.int .i64 i59), (.int .i64 i62), (.string s65), (.slice p68 n69 n70), (.int .i64 i73), (.pointer p76), (.int .i64 i79), (.pointer p11)]) fun v80 => asPtr v80 fun p81 => asSome p81 fun a82 => .ret .ret [(.bool true), (.pointer (some a82))])) else (bif (i52 == 23) then (.join (.act (ld1 (aadd a14 0)) fun v83 => asInt .i64 v83 fun i84 => bif (i84 == 1) == true then (.act (ld1 (aadd a14 1)) fun v85 => asInt .i64 v85 fun i86 => .act (ld1 (aadd a48 1)) fun v87 => asInt .i64 v87 fun i88 => .ret .normal [(.bool (i86 == i88)), (.pointer p11)]) else (.ret .normal [(.bool false), (.pointer p11)])) (T117k0)) else (bif (i52 == 24) then (.join (.act (ld1 (aadd a14 0)) fun v97 => asInt .i64 v97 fun i98 => bif (i98 == 2) == true then (.act (ld1 (aadd a14 1)) fun v99 => asInt .i64 v99 fun i100 => .act (ld1 (aadd a48 1)) fun v101 => asInt .i64 v101 fun i102 => .ret .normal [(.bool (i100 == i102)), (.pointer p11)]) else (.ret .normal [(.bool false), (.pointer p11)])) (T117k1)) else (bif (i52 == 25) then (.act (ld1 (aadd a14 0)) fun v111 => asInt .i64 v111 fun i112 => .ret .ret [(.bool (i112 == 3)), (.pointer p11)]) else (.ret .normal [(.bool false), (.pointer none)])))))) (T117k5 a14 a48 p11 p0))))
theorem T117_eq (p0 : (Option Addr)) (i1 : Int) (i2 : Int) (i3 : Int) (s4 : ByteArray) (p5 : (Option Addr)) (n6 : Nat) (n7 : Nat) (i8 : Int) (p9 : (Option Addr)) (i10 : Int) (p11 : (Option Addr)) : progOf PROG false 117 [(.pointer p0), (.int .i64 i1), (.agg #[(.int .i64 i2), (.int .i64 i3), (.string s4), (.slice p5 n6 n7), (.int .i64 i8), (.pointer p9), (.int .i64 i10)]), (.pointer p11)] = T117 p0 i1 i2 i3 s4 p5 n6 n7 i8 p9 i10 p11 := by kernel_rfl


noncomputable def T118k0 (a22 : Addr) (p0 : (Option Addr)) (i1 : Int) (a65 : Addr) (a25 : Addr) (p106 : (Option Addr)) : Ex → List Value → Pg :=
  fun e128 l129 => sw e128 .normal (asCons l129 fun v130 l131 => asInt .i64 v130 fun i132 => asNil l131 (.act (ld1 (aadd a22 4)) fun v133 => asInt .i64 v133 fun i134 => asSome p0 fun a135 => .act (ld1 (aadd a135 22)) fun v136 => asPtr v136 fun p137 => .act (newC [(.int .i64 i1), (.int .i64 i134), (.pointer p137), (.int .i64 i132)]) fun v138 => asPtr v138 fun p139 => asSome p139 fun a140 => asSome p0 fun a141 => .act (stC (aadd a141 22) [(.pointer (some a140))]) fun v142 => asTuple v142 fun l143 => asNil l143 (.act (ld1 (aadd a65 4)) fun v144 => asSlice v144 fun p145 n146 n147 => asSome p145 fun a148 => grd (decide (0 < ((n146 : Nat) : Int))) (.act (ld1 (aadd a148 0)) fun v149 => asInt .i64 v149 fun i150 => .act (ld1 (aadd a65 3)) fun v151 => asStr v151 fun s152 => .act (ldN 7 a25) fun v153 => asAgg v153 fun l154 => asCons l154 fun v155 l156 => asInt .i64 v155 fun i157 => asCons l156 fun v158 l159 => asInt .i64 v158 fun i160 => asCons l159 fun v161 l162 => asStr v161 fun s163 => asCons l162 fun v164 l165 => asSlice v164 fun p166 n167 n168 => asCons l165 fun v169 l170 => asInt .i64 v169 fun i171 => asCons l170 fun v172 l173 => asPtr v172 fun p174 => asCons l173 fun v175 l176 => asInt .i64 v175 fun i177 => asNil l176 (.act (newC [(.string s152), (.int .i64 i157), (.int .i64 i160), (.string s163), (.slice p166 n167 n168), (.int .i64 i171), (.pointer p174), (.int .i64 i177), (.pointer p106)]) fun v178 => asPtr v178 fun p179 => asSome p179 fun a180 => .get fun h183 => grd (chks [((ld1 (aadd a148 0)), v149), ((ld1 (aadd a65 4)), v144)] h183) (.call 97 [(.pointer p0), (.int .i64 i150), (.pointer (some a180))] fun v181 => asTuple v181 fun l182 => asNil l182 (.ret .ret [(.tuple #[])]))))))) (.fail)

noncomputable def T118k1 (p0 : (Option Addr)) (a22 : Addr) (i1 : Int) (a65 : Addr) (a25 : Addr) : Ex → List Value → Pg :=
  fun e102 l103 => sw e102 .normal (asCons l103 fun v104 l105 => asPtr v104 fun p106 => asNil l105 (asSome p0 fun a107 => .act (ld1 (aadd a107 22)) fun v108 => asPtr v108 fun p109 => asSome p0 fun a110 => .act (ld1 (aadd a110 21)) fun v111 => asPtr v111 fun p112 => .act (newC [(.int .i64 (-1)), (.pointer none), (.slice none 0 0), (.pointer p109), (.pointer p112)]) fun v113 => asPtr v113 fun p114 => asSome p114 fun a115 => asSome p0 fun a116 => .act (stC (aadd a116 21) [(.pointer (some a115))]) fun v117 => asTuple v117 fun l118 => asNil l118 (asSome p0 fun a119 => .act (ld1 (aadd a119 22)) fun v120 => asPtr v120 fun p121 => .join (bif (!(Option.isNone p121)) then (asSome p0 fun a122 => .act (ld1 (aadd a122 22)) fun v123 => asPtr v123 fun p124 => asSome p124 fun a125 => .act (ld1 (aadd a125 3)) fun v126 => asInt .i64 v126 fun i127 => .ret .normal [(.int .i64 (wi64 (i127 + 1)))]) else (.ret .normal [(.int .i64 1)])) (T118k0 a22 p0 i1 a65 a25 p106)))) (.fail)

/-- (*hindsight/source.Machine).call -/
noncomputable def T118 (p0 : (Option Addr)) (i1 : Int) (i2 : Int) (i3 : Int) (s4 : ByteArray) (p5 : (Option Addr)) (n6 : Nat) (n7 : Nat) (i8 : Int) (p9 : (Option Addr)) (i10 : Int) (i11 : Int) (i12 : Int) (s13 : ByteArray) (p14 : (Option Addr)) (n15 : Nat) (n16 : Nat) (i17 : Int) (p18 : (Option Addr)) (i19 : Int) : Pg :=
  .act (newC [(.int .i64 i2), (.int .i64 i3), (.string s4), (.slice p5 n6 n7), (.int .i64 i8), (.pointer p9), (.int .i64 i10)]) fun v20 => asPtr v20 fun p21 => asSome p21 fun a22 => .act (newC [(.int .i64 i11), (.int .i64 i12), (.string s13), (.slice p14 n15 n16), (.int .i64 i17), (.pointer p18), (.int .i64 i19)]) fun v23 => asPtr v23 fun p24 => asSome p24 fun a25 => .act (ld1 (aadd a22 0)) fun v26 => asInt .i64 v26 fun i27 => bif (i27 != 5) then (.call 104 [(.pointer p0)] fun v28 => asTuple v28 fun l29 => asNil l29 (.ret .ret [(.tuple #[])])) else (asSome p0 fun a30 => .act (ld1 (aadd (aadd a30 0) 0)) fun v31 => asSlice v31 fun p32 n33 n34 => .act (ld1 (aadd a22 4)) fun v35 => asInt .i64 v35 fun i36 => asSome p32 fun a37 => grd ((decide (0 ≤ i36)) && (decide (i36 < ((n33 : Nat) : Int)))) (.act (ldN 7 (aadd a37 ((Int.toNat i36) * 7))) fun v38 => asAgg v38 fun l39 => asCons l39 fun v40 l41 => asInt .i64 v40 fun i42 => asCons l41 fun v43 l44 => asInt .i64 v43 fun i45 => asCons l44 fun v46 l47 => asStr v46 fun s48 => asCons l47 fun v49 l50 => asStr v49 fun s51 => asCons l50 fun v52 l53 => asSlice v52 fun p54 n55 n56 => asCons l53 fun v57 l58 => asInt .i64 v57 fun i59 => asCons l58 fun v60 l61 => asInt .i64 v60 fun i62 => asNil l61 (.act (newC [(.int .i64 0), (.int .i64 0), (.string (bs [])), (.string (bs [])), (.slice none 0 0), (.int .i64 0), (.int .i64 0)]) fun v63 => asPtr v63 fun p64 => asSome p64 fun a65 => .get fun h184 => grd (chks [((ldN 7 (aadd a37 ((Int.toNat i36) * 7))), v38), ((ld1 (aadd a22 4)), v35), ((ld1 (aadd (aadd a30 0) 0)), v31)] h184) (.act (stC a65 [(.int .i64 i42), (.int .i64 i45), (.string s48), (.string s51), (.slice p54 n55 n56), (.int .i64 i59), (.int .i64 i62)]) fun v66 => asTuple v66 fun l67 => asNil l67 (.act (ld1 (aadd a22 5)) fun v68 => asPtr v68 fun p69 => .act (ld1 (aadd a65 0)) fun v70 => asInt .i64 v70 fun i71 => .join (bif (i71 == 9) then (.act (ld1 (aadd a65 2)) fun v72 => asStr v72 fun s73 => .act (ldN 7 a22) fun v74 => asAgg v74 fun l75 => asCons l75 fun v76 l77 => asInt .i64 v76 fun i78 => asCons l77 fun v79 l80 => asInt .i64 v79 fun i81 => asCons l80 fun v82 l83 => asStr v82 fun s84 => asCons l83 fun v85 l86 => asSlice v85 fun p87 n88 n89 => asCons l86 fun v90 l91 => asInt .i64 v90 fun i92 => asCons l91 fun v93 l94 => asPtr v93 fun p95 => asCons l94 fun v96 l97 => asInt .i64 v96 fun i98 => asNil l97 (.act (newC [(.string s73), (.int .i64 i78), (.int .i64 i81), (.string s84), (.slice p87 n88 n89), (.int .i64 i92), (.pointer p95), (.int .i64 i98), (.pointer p69)]) fun v99 => asPtr v99 fun p100 => asSome p100 fun a101 => .ret .normal [(.pointer (some a101))])) else (.ret .normal [(.pointer p69)])) (T118k1 p0 a22 i1 a65 a25))))))
theorem T118_eq (p0 : (Option Addr)) (i1 : Int) (i2 : Int) (i3 : Int) (s4 : ByteArray) (p5 : (Option Addr)) (n6 : Nat) (n7 : Nat) (i8 : Int) (p9 : (Option Addr)) (i10 : Int) (i11 : Int) (i12 : Int) (s13 : ByteArray) (p14 : (Option Addr)) (n15 : Nat) (n16 : Nat) (i17 : Int) (p18 : (Option Addr)) (i19 : Int) : progOf PROG false 118 [(.pointer p0), (.int .i64 i1), (.agg #[(.int .i64 i2), (.int .i64 i3), (.string s4), (.slice p5 n6 n7), (.int .i64 i8), (.pointer p9), (.int .i64 i10)]), (.agg #[(.int .i64 i11), (.int .i64 i12), (.string s13), (.slice p14 n15 n16), (.int .i64 i17), (.pointer p18), (.int .i64 i19)])] = T118 p0 i1 i2 i3 s4 p5 n6 n7 i8 p9 i10 i11 i12 s13 p14 n15 n16 i17 p18 i19 := by kernel_rfl


noncomputable def T119k0 (a5 : Addr) : Ex → List Value → Pg :=
  fun e141 l142 => sw e141 .ret (asCons l142 fun v143 l144 => asBool v143 fun b145 => asNil l144 (.act (ldN 7 a5) fun v146 => .ret .ret [(.tuple #[v146, (.bool b145)])])) (sw e141 .normal (asCons l142 fun v147 l148 => asBool v147 fun b149 => asNil l148 (.act (stC a5 [(.int .i64 0), (.int .i64 0), (.string (bs [])), (.slice none 0 0), (.int .i64 0), (.pointer none), (.int .i64 0)]) fun v150 => asTuple v150 fun l151 => asNil l151 (.act (ldN 7 a5) fun v152 => .ret .ret [(.tuple #[v152, (.bool false)])]))) (.fail))

/-- hindsight/val.Op -/
noncomputable def T119 (s0 : ByteArray) (i1 : Int) (i2 : Int) : Pg :=
  .act (newC [(.int .i64 0), (.int .i64 0), (.string (bs [])), (.slice none 0 0), (.int .i64 0), (.pointer none), (.int .i64 0)]) fun v3 => asPtr v3 fun p4 => asSome p4 fun a5 => .join (bif (s0.toList == (bs [43]).toList) then (.call 101 [(.int .i64 (wi64 (i1 + i2)))] fun v6 => asAgg v6 fun l7 => asCons l7 fun v8 l9 => asInt .i64 v8 fun i10 => asCons l9 fun v11 l12 => asInt .i64 v11 fun i13 => asCons l12 fun v14 l15 => asStr v14 fun s16 => asCons l15 fun v17 l18 => asSlice v17 fun p19 n20 n21 => asCons l18 fun v22 l23 => asInt .i64 v22 fun i24 => asCons l23 fun v25 l26 => asPtr v25 fun p27 => asCons l26 fun v28 l29 => asInt .i64 v28 fun i30 => asNil l29 (.act (stC a5 [(.int .i64 i10), (.int .i64 i13), (.string s16), (.slice p19 n20 n21), (.int .i64 i24), (.pointer p27), (.int .i64 i30)]) fun v31 => asTuple v31 fun l32 => asNil l32 (.ret .ret [(.bool true)]))) else (bif (s0.toList == (bs [45]).toList) then (.call 101 [(.int .i64 (wi64 (i1 - i2)))] fun v33 => asAgg v33 fun l34 => asCons l34 fun v35 l36 => asInt .i64 v35 fun i37 => asCons l36 fun v38 l39 => asInt .i64 v38 fun i40 => asCons l39 fun v41 l42 => asStr v41 fun s43 => asCons l42 fun v44 l45 => asSlice v44 fun p46 n47 n48 => asCons l45 fun v49 l50 => asInt .i64 v49 fun i51 => asCons l50 fun v52 l53 => asPtr v52 fun p54 => asCons l53 fun v55 l56 => asInt .i64 v55 fun i57 => asNil l56 (.act (stC a5 [(.int .i64 i37), (.int .i64 i40), (.string s43), (.slice p46 n47 n48), (.int .i64 i51), (.pointer p54), (.int .i64 i57)]) fun v58 => asTuple v58 fun l59 => asNil l59 (.ret .ret [(.bool true)]))) else (bif (s0.toList == (bs [42]).toList) then (.call 101 [(.int .i64 (wi64 (i1 * i2)))] fun v60 => asAgg v60 fun l61 => asCons l61 fun v62 l63 => asInt .i64 v62 fun i64 => asCons l63 fun v65 l66 => asInt .i64 v65 fun i67 => asCons l66 fun v68 l69 => asStr v68 fun s70 => asCons l69 fun v71 l72 => asSlice v71 fun p73 n74 n75 => asCons l72 fun v76 l77 => asInt .i64 v76 fun i78 => asCons l77 fun v79 l80 => asPtr v79 fun p81 => asCons l80 fun v82 l83 => asInt .i64 v82 fun i84 => asNil l83 (.act (stC a5 [(.int .i64 i64), (.int .i64 i67), (.string s70), (.slice p73 n74 n75), (.int .i64 i78), (.pointer p81), (.int .i64 i84)]) fun v85 => asTuple v85 fun l86 => asNil l86 (.ret .ret [(.bool true)]))) else (bif (s0.toList == (bs [60]).toList) then (.call 130 [(.bool (decide (i1 < i2)))] fun v87 => asAgg v87 fun l88 => asCons l88 fun v89 l90 => asInt .i64 v89 fun i91 => asCons l90 fun v92 l93 => asInt .i64 v92 fun i94 => asCons l93 fun v95 l96 => asStr v95 fun s97 => asCons l96 fun v98 l99 => asSlice v98 fun p100 n101 n102 => asCons l99 fun v103 l104 => asInt .i64 v103 fun i105 => asCons l104 fun v106 l107 => asPtr v106 fun p108 => asCons l107 fun v109 l110 => asInt .i64 v109 fun i111 => asNil l110 (.act (stC a5 [(.int .i64 i91), (.int .i64 i94), (.string s97), (.slice p100 n101 n102), (.int .i64 i105), (.pointer p108), (.int .i64 i111)]) fun v112 => asTuple v112 fun l113 => asNil l113 (.ret .ret [(.bool true)]))) else (bif (s0.toList == (bs [61]).toList) then (.call 130 [(.bool (i1 == i2))] fun v114 => asAgg v114 fun l115 => asCons l115 fun v116 l117 => asInt .i64 v116 fun i118 => asCons l117 fun v119 l120 => asInt .i64 v119 fun i121 => asCons l120 fun v122 l123 => asStr v122 fun s124 => asCons l123 fun v125 l126 => asSlice v125 fun p127 n128 n129 => asCons l126 fun v130 l131 => asInt .i64 v130 fun i132 => asCons l131 fun v133 l134 => asPtr v133 fun p135 => asCons l134 fun v136 l137 => asInt .i64 v136 fun i138 => asNil l137 (.act (stC a5 [(.int .i64 i118), (.int .i64 i121), (.string s124), (.slice p127 n128 n129), (.int .i64 i132), (.pointer p135), (.int .i64 i138)]) fun v139 => asTuple v139 fun l140 => asNil l140 (.ret .ret [(.bool true)]))) else (.ret .normal [(.bool false)])))))) (T119k0 a5)
theorem T119_eq (s0 : ByteArray) (i1 : Int) (i2 : Int) : progOf PROG false 119 [(.string s0), (.int .i64 i1), (.int .i64 i2)] = T119 s0 i1 i2 := by kernel_rfl


noncomputable def T120k0 (p0 : (Option Addr)) (p23 : (Option Addr)) (a12 : Addr) : Ex → List Value → Pg :=
  fun e38 l39 => sw e38 .normal (asCons l39 fun v40 l41 => asBool v40 fun b42 => asNil l41 (bif b42 then (asSome p0 fun a43 => .act (ld1 (aadd (aadd a43 0) 0)) fun v44 => asSlice v44 fun p45 n46 n47 => asSome p23 fun a48 => .act (ld1 (aadd a48 0)) fun v49 => asInt .i64 v49 fun i50 => asSome p45 fun a51 => grd ((decide (0 ≤ i50)) && (decide (i50 < ((n46 : Nat) : Int)))) (.act (ldN 7 (aadd a51 ((Int.toNat i50) * 7))) fun v52 => asAgg v52 fun l53 => asCons l53 fun v54 l55 => asInt .i64 v54 fun i56 => asCons l55 fun v57 l58 => asInt .i64 v57 fun i59 => asCons l58 fun v60 l61 => asStr v60 fun s62 => asCons l61 fun v63 l64 => asStr v63 fun s65 => asCons l64 fun v66 l67 => asSlice v66 fun p68 n69 n70 => asCons l67 fun v71 l72 => asInt .i64 v71 fun i73 => asCons l72 fun v74 l75 => asInt .i64 v74 fun i76 => asNil l75 (.act (newC [(.int .i64 0), (.int .i64 0), (.string (bs [])), (.string (bs [])), (.slice none 0 0), (.int .i64 0), (.int .i64 0)]) fun v77 => asPtr v77 fun p78 => asSome p78 fun a79 => .get fun h137 => grd (chks [((ldN 7 (aadd a51 ((Int.toNat i50) * 7))), v52), ((ld1 (aadd a48 0)), v49), ((ld1 (aadd (aadd a43 0) 0)), v44)] h137) (.act (stC a79 [(.int .i64 i56), (.int .i64 i59), (.string s62), (.string s65), (.slice p68 n69 n70), (.int .i64 i73), (.int .i64 i76)]) fun v80 => asTuple v80 fun l81 => asNil l81 (asSome p23 fun a82 => .act (ld1 (aadd a82 4)) fun v83 => asPtr v83 fun p84 => asSome p23 fun a85 => .act (ld1 (aadd a85 3)) fun v86 => asPtr v86 fun p87 => asSome p0 fun a88 => .act (stC (aadd a88 21) [(.pointer p84)]) fun v89 => asTuple v89 fun l90 => asNil l90 (asSome p0 fun a91 => .act (stC (aadd a91 22) [(.pointer p87)]) fun v92 => asTuple v92 fun l93 => asNil l93 (.act (ld1 (aadd a79 4)) fun v94 => asSlice v94 fun p95 n96 n97 => asSome p95 fun a98 => grd (decide (1 < ((n96 : Nat) : Int))) (.act (ld1 (aadd a98 1)) fun v99 => asInt .i64 v99 fun i100 => .act (ld1 (aadd a79 3)) fun v101 => asStr v101 fun s102 => .act (ldN 7 a12) fun v103 => asAgg v103 fun l104 => asCons l104 fun v105 l106 => asInt .i64 v105 fun i107 => asCons l106 fun v108 l109 => asInt .i64 v108 fun i110 => asCons l109 fun v111 l112 => asStr v111 fun s113 => asCons l112 fun v114 l115 => asSlice v114 fun p116 n117 n118 => asCons l115 fun v119 l120 => asInt .i64 v119 fun i121 => asCons l120 fun v122 l123 => asPtr v122 fun p124 => asCons l123 fun v125 l126 => asInt .i64 v125 fun i127 => asNil l126 (asSome p23 fun a128 => .act (ld1 (aadd a128 1)) fun v129 => asPtr v129 fun p130 => .act (newC [(.string s102), (.int .i64 i107), (.int .i64 i110), (.string s113), (.slice p116 n117 n118), (.int .i64 i121), (.pointer p124), (.int .i64 i127), (.pointer p130)]) fun v131 => asPtr v131 fun p132 => asSome p132 fun a133 => .get fun h136 => grd (chks [((ld1 (aadd a98 1)), v99), ((ld1 (aadd a79 4)), v94)] h136) (.call 97 [(.pointer p0), (.int .i64 i100), (.pointer (some a133))] fun v134 => asTuple v134 fun l135 => asNil l135 (.ret .ret []))))))))))) else (.ret .normal []))) (.fail)

noncomputable def T120k1 (p0 : (Option Addr)) : Ex → List Value → Pg :=
  fun e138 l139 => sw e138 .ret (asNil l139 (.ret .ret [])) (sw e138 .normal (asNil l139 (asSome p0 fun a140 => .act (ld1 (aadd a140 21)) fun v141 => asPtr v141 fun p142 => asSome p142 fun a143 => .act (ld1 (aadd a143 4)) fun v144 => asPtr v144 fun p145 => asSome p0 fun a146 => .act (stC (aadd a146 21) [(.pointer p145)]) fun v147 => asTuple v147 fun l148 => asNil l148 (.ret .normal []))) (.fail))

noncomputable def T120b0 (p0 : (Option Addr)) (a12 : Addr) : List Value → Pg :=
  fun l17 => asNil l17 (asSome p0 fun a18 => .act (ld1 (aadd a18 21)) fun v19 => asPtr v19 fun p20 => bif (!(Option.isNone p20)) then (.join (asSome p0 fun a21 => .act (ld1 (aadd a21 21)) fun v22 => asPtr v22 fun p23 => .join (asSome p23 fun a24 => .act (ld1 (aadd a24 0)) fun v25 => asInt .i64 v25 fun i26 => bif (decide (i26 ≥ 0)) == true then (asSome p0 fun a27 => .act (ld1 (aadd (aadd a27 0) 0)) fun v28 => asSlice v28 fun p29 n30 n31 => asSome p23 fun a32 => .act (ld1 (aadd a32 0)) fun v33 => asInt .i64 v33 fun i34 => asSome p29 fun a35 => grd ((decide (0 ≤ i34)) && (decide (i34 < ((n30 : Nat) : Int)))) (.act (ld1 (aadd (aadd a35 ((Int.toNat i34) * 7)) 0)) fun v36 => asInt .i64 v36 fun i37 => .ret .normal [(.bool (i37 == 20))])) else (.ret .normal [(.bool false)])) (T120k0 p0 p23 a12)) (T120k1 p0)) else (.ret (.exit 0) []))

noncomputable def T120k2 (a12 : Addr) (p0 : (Option Addr)) : Ex → List Value → Pg :=
  fun e149 l150 => sw e149 (.exit 0) (asNil l150 (.act (ld1 (aadd a12 1)) fun v151 => asInt .i64 v151 fun i152 => asSome p0 fun a153 => .act (stC (aadd a153 9) [(.int .i64 2)]) fun v154 => asTuple v154 fun l155 => asNil l155 (.get fun h159 => grd (chks [((ld1 (aadd a12 1)), v151)] h159) (asSome p0 fun a156 => .act (stC (aadd a156 10) [(.int .i64 i152)]) fun v157 => asTuple v157 fun l158 => asNil l158 (.ret .ret [(.tuple #[])]))))) (sw e149 .ret (asNil l150 (.ret .ret [(.tuple #[])])) (.fail))

/-- (*hindsight/source.Machine).raise -/
noncomputable def T120 (p0 : (Option Addr)) (i1 : Int) (i2 : Int) (s3 : ByteArray) (p4 : (Option Addr)) (n5 : Nat) (n6 : Nat) (i7 : Int) (p8 : (Option Addr)) (i9 : Int) : Pg :=
  .act (newC [(.int .i64 i1), (.int .i64 i2), (.string s3), (.slice p4 n5 n6), (.int .i64 i7), (.pointer p8), (.int .i64 i9)]) fun v10 => asPtr v10 fun p11 => asSome p11 fun a12 => .act (ld1 (aadd a12 0)) fun v13 => asInt .i64 v13 fun i14 => bif (i14 != 1) then (.call 104 [(.pointer p0)] fun v15 => asTuple v15 fun l16 => asNil l16 (.ret .ret [(.tuple #[])])) else (.loop [] (T120b0 p0 a12) (T120k2 a12 p0))
theorem T120_eq (p0 : (Option Addr)) (i1 : Int) (i2 : Int) (s3 : ByteArray) (p4 : (Option Addr)) (n5 : Nat) (n6 : Nat) (i7 : Int) (p8 : (Option Addr)) (i9 : Int) : progOf PROG false 120 [(.pointer p0), (.agg #[(.int .i64 i1), (.int .i64 i2), (.string s3), (.slice p4 n5 n6), (.int .i64 i7), (.pointer p8), (.int .i64 i9)])] = T120 p0 i1 i2 s3 p4 n5 n6 i7 p8 i9 := by kernel_rfl


/-- (*hindsight/source.Machine).cell -/
noncomputable def T121 (p0 : (Option Addr)) (i1 : Int) (i2 : Int) (s3 : ByteArray) (s4 : ByteArray) (p5 : (Option Addr)) (n6 : Nat) (n7 : Nat) (i8 : Int) (i9 : Int) (p10 : (Option Addr)) (n11 : Nat) (n12 : Nat) : Pg :=
  .act (newC [(.int .i64 i1), (.int .i64 i2), (.string s3), (.string s4), (.slice p5 n6 n7), (.int .i64 i8), (.int .i64 i9)]) fun v13 => asPtr v13 fun p14 => asSome p14 fun a15 => .act (ld1 (aadd a15 0)) fun v16 => asInt .i64 v16 fun i17 => bif (i17 == 15) then (asSome p0 fun a18 => .act (ld1 (aadd a18 6)) fun v19 => asSlice v19 fun p20 n21 n22 => asSome p0 fun a23 => .act (ld1 (aadd a23 5)) fun v24 => asSlice v24 fun p25 n26 n27 => asSome p10 fun a28 => grd (decide (0 < ((n11 : Nat) : Int))) (.act (ldN 7 (aadd a28 0)) fun v29 => asAgg v29 fun l30 => asCons l30 fun v31 l32 => asInt .i64 v31 fun i33 => asCons l32 fun v34 l35 => asInt .i64 v34 fun i36 => asCons l35 fun v37 l38 => asStr v37 fun s39 => asCons l38 fun v40 l41 => asSlice v40 fun p42 n43 n44 => asCons l41 fun v45 l46 => asInt .i64 v45 fun i47 => asCons l46 fun v48 l49 => asPtr v48 fun p50 => asCons l49 fun v51 l52 => asInt .i64 v51 fun i53 => asNil l52 (.act (bdSl 8 1 [(.int .i64 ((n26 : Nat) : Int)), (.int .i64 i33), (.int .i64 i36), (.string s39), (.slice p42 n43 n44), (.int .i64 i47), (.pointer p50), (.int .i64 i53)]) fun v54 => asSlice v54 fun p55 n56 n57 => .get fun h172 => grd (chks [((ld1 (aadd a18 6)), v19)] h172) (.act (apS 8 88 p20 n21 n22 p55 n56 n57) fun v58 => asSlice v58 fun p59 n60 n61 => asSome p0 fun a62 => .act (stC (aadd a62 6) [(.slice p59 n60 n61)]) fun v63 => asTuple v63 fun l64 => asNil l64 (.get fun h65 => .join (asSome p0 fun a71 => .act (ld1 (aadd a71 5)) fun v72 => asSlice v72 fun p73 n74 n75 => asSome p10 fun a76 => grd (decide (0 < ((n11 : Nat) : Int))) (.act (ldN 7 (aadd a76 0)) fun v77 => asAgg v77 fun l78 => asCons l78 fun v79 l80 => asInt .i64 v79 fun i81 => asCons l80 fun v82 l83 => asInt .i64 v82 fun i84 => asCons l83 fun v85 l86 => asStr v85 fun s87 => asCons l86 fun v88 l89 => asSlice v88 fun p90 n91 n92 => asCons l89 fun v93 l94 => asInt .i64 v93 fun i95 => asCons l94 fun v96 l97 => asPtr v96 fun p98 => asCons l97 fun v99 l100 => asInt .i64 v99 fun i101 => asNil l100 (.get fun h103 => grd (newN h65.n h103 []) (.act (bdSl 7 1 [(.int .i64 0), (.int .i64 0), (.string (bs [])), (.slice none 0 0), (.int .i64 0), (.pointer none), (.int .i64 0)]) fun v102 => asSlice v102 fun p105 n106 n107 => .get fun h104 => .act (apS 7 80 p73 n74 n75 p105 n106 n107) fun v108 => asSlice v108 fun p109 n110 n111 => asSome p109 fun a112 => grd (decide (((n74 : Nat) : Int) < ((n110 : Nat) : Int))) (asSome p0 fun a113 => .act (stC (aadd a113 5) [(.slice p109 n110 n111)]) fun v114 => asTuple v114 fun l115 => asNil l115 (.act (stC (aadd a112 (n74 * 7)) [(.int .i64 i81), (.int .i64 i84), (.string s87), (.slice p90 n91 n92), (.int .i64 i95), (.pointer p98), (.int .i64 i101)]) fun v116 => asTuple v116 fun l117 => asNil l117 (.ret .normal [(.pointer (some (aadd a113 5))), (.pointer (some a113)), (.pointer (some (aadd a112 (n74 * 7)))), (.slice p109 n110 n111), (.slice p105 n106 n107), (.int .i64 ((n74 : Nat) : Int)), (.agg #[(.int .i64 i81), (.int .i64 i84), (.string s87), (.slice p90 n91 n92), (.int .i64 i95), (.pointer p98), (.int .i64 i101)]), (.pointer (some (aadd a76 0))), (.slice p10 n11 n12), (.slice p73 n74 n75), (.pointer (some (aadd a71 5))), (.pointer (some a71)), (.pointer p0)]))))))) fun e66 l67 => .get fun h68 => .act (fun _ => some (.tuple #[], h65)) fun v70 => asSome p0 fun a118 => .act (ld1 (aadd a118 5)) fun v119 => asSlice v119 fun p120 n121 n122 => asSome p10 fun a123 => grd (decide (0 < ((n11 : Nat) : Int))) (.act (ldN 7 (aadd a123 0)) fun v124 => asAgg v124 fun l125 => asCons l125 fun v126 l127 => asInt .i64 v126 fun i128 => asCons l127 fun v129 l130 => asInt .i64 v129 fun i131 => asCons l130 fun v132 l133 => asStr v132 fun s134 => asCons l133 fun v135 l136 => asSlice v135 fun p137 n138 n139 => asCons l136 fun v140 l141 => asInt .i64 v140 fun i142 => asCons l141 fun v143 l144 => asPtr v143 fun p145 => asCons l144 fun v146 l147 => asInt .i64 v146 fun i148 => asNil l147 (.get fun h150 => grd (newN h65.n h150 []) (.act (bdSl 7 1 [(.int .i64 0), (.int .i64 0), (.string (bs [])), (.slice none 0 0), (.int .i64 0), (.pointer none), (.int .i64 0)]) fun v149 => asSlice v149 fun p152 n153 n154 => .get fun h151 => .act (apS 7 80 p120 n121 n122 p152 n153 n154) fun v155 => asSlice v155 fun p156 n157 n158 => asSome p156 fun a159 => grd (decide (((n121 : Nat) : Int) < ((n157 : Nat) : Int))) (.act (stC (aadd a159 (n121 * 7)) [(.int .i64 i128), (.int .i64 i131), (.string s134), (.slice p137 n138 n139), (.int .i64 i142), (.pointer p145), (.int .i64 i148)]) fun v160 => asTuple v160 fun l161 => asNil l161 (asSome p0 fun a162 => .act (stC (aadd a162 5) [(.slice p156 n157 n158)]) fun v163 => asTuple v163 fun l164 => asNil l164 (.get fun h69 => grd (heapEq h69 h68 && eqvs [(.pointer (some (aadd a162 5))), (.pointer (some a162)), (.pointer (some (aadd a159 (n121 * 7)))), (.slice p156 n157 n158), (.slice p152 n153 n154), (.int .i64 ((n121 : Nat) : Int)), (.agg #[(.int .i64 i128), (.int .i64 i131), (.string s134), (.slice p137 n138 n139), (.int .i64 i142), (.pointer p145), (.int .i64 i148)]), (.pointer (some (aadd a123 0))), (.slice p10 n11 n12), (.slice p120 n121 n122), (.pointer (some (aadd a118 5))), (.pointer (some a118)), (.pointer p0)] l67) (asSome p0 fun a165 => .act (ld1 (aadd a165 5)) fun v166 => asSlice v166 fun p167 n168 n169 => .call 95 [(.pointer p0), (.agg #[(.int .i64 6), (.int .i64 0), (.string (bs [])), (.slice none 0 0), (.int .i64 0), (.pointer none), (.int .i64 (wi64 (((n168 : Nat) : Int) - 1)))])] fun v170 => asTuple v170 fun l171 => asNil l171 (.ret .ret [(.tuple #[])]))))))))))))) else (asSome p10 fun a173 => grd (decide (0 < ((n11 : Nat) : Int))) (.act (ldN 7 (aadd a173 0)) fun v174 => asAgg v174 fun l175 => asCons l175 fun v176 l177 => asInt .i64 v176 fun i178 => asCons l177 fun v179 l180 => asInt .i64 v179 fun i181 => asCons l180 fun v182 l183 => asStr v182 fun s184 => asCons l183 fun v185 l186 => asSlice v185 fun p187 n188 n189 => asCons l186 fun v190 l191 => asInt .i64 v190 fun i192 => asCons l191 fun v193 l194 => asPtr v193 fun p195 => asCons l194 fun v196 l197 => asInt .i64 v196 fun i198 => asNil l197 (.act (newC [(.int .i64 0), (.int .i64 0), (.string (bs [])), (.slice none 0 0), (.int .i64 0), (.pointer none), (.int .i64 0)]) fun v199 => asPtr v199 fun p200 => asSome p200 fun a201 => .act (stC a201 [(.int .i64 i178), (.int .i64 i181), (.string s184), (.slice p187 n188 n189), (.int .i64 i192), (.pointer p195), (.int .i64 i198)]) fun v202 => asTuple v202 fun l203 => asNil l203 (.act (ld1 (aadd a201 0)) fun v204 => asInt .i64 v204 fun i205 => bif (i205 != 6) then (.call 104 [(.pointer p0)] fun v206 => asTuple v206 fun l207 => asNil l207 (.ret .ret [(.tuple #[])])) else (.act (ld1 (aadd a15 0)) fun v208 => asInt .i64 v208 fun i209 => bif (i209 == 16) then (asSome p0 fun a210 => .act (ld1 (aadd a210 5)) fun v211 => asSlice v211 fun p212 n213 n214 => .act (ld1 (aadd a201 6)) fun v215 => asInt .i64 v215 fun i216 => asSome p212 fun a217 => grd ((decide (0 ≤ i216)) && (decide (i216 < ((n213 : Nat) : Int)))) (.act (ldN 7 (aadd a217 ((Int.toNat i216) * 7))) fun v218 => asAgg v218 fun l219 => asCons l219 fun v220 l221 => asInt .i64 v220 fun i222 => asCons l221 fun v223 l224 => asInt .i64 v223 fun i225 => asCons l224 fun v226 l227 => asStr v226 fun s228 => asCons l227 fun v229 l230 => asSlice v229 fun p231 n232 n233 => asCons l230 fun v234 l235 => asInt .i64 v234 fun i236 => asCons l235 fun v237 l238 => asPtr v237 fun p239 => asCons l238 fun v240 l241 => asInt .i64 v240 fun i242 => asNil l241 (.call 95 [(.pointer p0), (.agg #[(.int .i64 i222), (.int .i64 i225), (.string s228), (.slice p231 n232 n233), (.int .i64 i236), (.pointer p239), (.int .i64 i242)])] fun v243 => asTuple v243 fun l244 => asNil l244 (.ret .ret [(.tuple #[])])))) else (asSome p0 fun a245 => .act (ld1 (aadd a245 6)) fun v246 => asSlice v246 fun p247 n248 n249 => .act (ld1 (aadd a201 6)) fun v250 => asInt .i64 v250 fun i251 => asSome p10 fun a252 => grd (decide (1 < ((n11 : Nat) : Int))) (.act (ldN 7 (aadd a252 7)) fun v253 => asAgg v253 fun l254 => asCons l254 fun v255 l256 => asInt .i64 v255 fun i257 => asCons l256 fun v258 l259 => asInt .i64 v258 fun i260 => asCons l259 fun v261 l262 => asStr v261 fun s263 => asCons l262 fun v264 l265 => asSlice v264 fun p266 n267 n268 => asCons l265 fun v269 l270 => asInt .i64 v269 fun i271 => asCons l270 fun v272 l273 => asPtr v272 fun p274 => asCons l273 fun v275 l276 => asInt .i64 v275 fun i277 => asNil l276 (.act (bdSl 8 1 [(.int .i64 i251), (.int .i64 i257), (.int .i64 i260), (.string s263), (.slice p266 n267 n268), (.int .i64 i271), (.pointer p274), (.int .i64 i277)]) fun v278 => asSlice v278 fun p279 n280 n281 => .get fun h352 => grd (chks [((ld1 (aadd a245 6)), v246)] h352) (.act (apS 8 88 p247 n248 n249 p279 n280 n281) fun v282 => asSlice v282 fun p283 n284 n285 => asSome p0 fun a286 => .act (stC (aadd a286 6) [(.slice p283 n284 n285)]) fun v287 => asTuple v287 fun l288 => asNil l288 (asSome p0 fun a289 => .act (ld1 (aadd a289 5)) fun v290 => asSlice v290 fun p291 n292 n293 => .act (ld1 (aadd a201 6)) fun v294 => asInt .i64 v294 fun i295 => asSome p10 fun a296 => grd (decide (1 < ((n11 : Nat) : Int))) (.act (ldN 7 (aadd a296 7)) fun v297 => asAgg v297 fun l298 => asCons l298 fun v299 l300 => asInt .i64 v299 fun i301 => asCons l300 fun v302 l303 => asInt .i64 v302 fun i304 => asCons l303 fun v305 l306 => asStr v305 fun s307 => asCons l306 fun v308 l309 => asSlice v308 fun p310 n311 n312 => asCons l309 fun v313 l314 => asInt .i64 v313 fun i315 => asCons l314 fun v316 l317 => asPtr v316 fun p318 => asCons l317 fun v319 l320 => asInt .i64 v319 fun i321 => asNil l320 (asSome p291 fun a322 => grd ((decide (0 ≤ i295)) && (decide (i295 < ((n292 : Nat) : Int)))) (.act (stC (aadd a322 ((Int.toNat i295) * 7)) [(.int .i64 i301), (.int .i64 i304), (.string s307), (.slice p310 n311 n312), (.int .i64 i315), (.pointer p318), (.int .i64 i321)]) fun v323 => asTuple v323 fun l324 => asNil l324 (.call 102 [] fun v325 => asAgg v325 fun l326 => asCons l326 fun v327 l328 => asInt .i64 v327 fun i329 => asCons l328 fun v330 l331 => asInt .i64 v330 fun i332 => asCons l331 fun v333 l334 => asStr v333 fun s335 => asCons l334 fun v336 l337 => asSlice v336 fun p338 n339 n340 => asCons l337 fun v341 l342 => asInt .i64 v341 fun i343 => asCons l342 fun v344 l345 => asPtr v344 fun p346 => asCons l345 fun v347 l348 => asInt .i64 v347 fun i349 => asNil l348 (.call 95 [(.pointer p0), (.agg #[(.int .i64 i329), (.int .i64 i332), (.string s335), (.slice p338 n339 n340), (.int .i64 i343), (.pointer p346), (.int .i64 i349)])] fun v350 => asTuple v350 fun l351 => asNil l351 (.ret .ret [(.tuple #[])]))))))))))))))))
theorem T121_eq (p0 : (Option Addr)) (i1 : Int) (i2 : Int) (s3 : ByteArray) (s4 : ByteArray) (p5 : (Option Addr)) (n6 : Nat) (n7 : Nat) (i8 : Int) (i9 : Int) (p10 : (Option Addr)) (n11 : Nat) (n12 : Nat) : progOf PROG false 121 [(.pointer p0), (.agg #[(.int .i64 i1), (.int .i64 i2), (.string s3), (.string s4), (.slice p5 n6 n7), (.int .i64 i8), (.int .i64 i9)]), (.slice p10 n11 n12)] = T121 p0 i1 i2 s3 s4 p5 n6 n7 i8 i9 p10 n11 n12 := by kernel_rfl


noncomputable def T124k0 : Ex → List Value → Pg :=
  fun e13 l14 => sw e13 .normal (asCons l14 fun v15 l16 => asPtr v15 fun p17 => asNil l16 (.ret .normal [(.pointer p17)])) (.fail)

noncomputable def T124b0 (p0 : (Option Addr)) : List Value → Pg :=
  fun l3 => asCons l3 fun v4 l5 => asPtr v4 fun p6 => asNil l5 (.call 64 [(.pointer p0), (.string (bs [42]))] fun v7 => asBool v7 fun b8 => bif b8 then (.join (.call 131 [(.pointer p0)] fun v9 => asPtr v9 fun p10 => .call 68 [(.int .i64 14), (.string (bs [42])), (.pointer p6), (.pointer p10)] fun v11 => asPtr v11 fun p12 => .ret .normal [(.pointer p12)]) (T124k0)) else (.ret (.exit 0) [(.pointer p6)]))

noncomputable def T124k1 : Ex → List Value → Pg :=
  fun e18 l19 => sw e18 (.exit 0) (asCons l19 fun v20 l21 => asPtr v20 fun p22 => asNil l21 (.ret .ret [(.pointer p22)])) (.fail)

/-- (*hindsight/hindsightref3.reader).mul -/
noncomputable def T124 (p0 : (Option Addr)) : Pg :=
  .call 131 [(.pointer p0)] fun v1 => asPtr v1 fun p2 => .loop [(.pointer p2)] (T124b0 p0) (T124k1)
theorem T124_eq (p0 : (Option Addr)) : progOf PROG false 124 [(.pointer p0)] = T124 p0 := by kernel_rfl


noncomputable def T125k0 (i2 : Int) (s0 : ByteArray) : Ex → List Value → Pg :=
  fun e20 l21 => sw e20 .normal (asCons l21 fun v22 l23 => asBool v22 fun b24 => asNil l23 (bif b24 then (.ret .ret [(.tuple #[(.int .i32 65533), (.int .i64 1)])]) else (bif (decide ((wi64 (andI .u8 i2 7)) ≤ 2)) then (.ret .ret [(.tuple #[(.int .i32 (orI .i32 (shlI .i32 (wi32 (andI .u8 (byteAt s0 0) 31)) 6) (wi32 (andI .u8 (byteAt s0 1) 63)))), (.int .i64 2)])]) else (grd (decide (2 < ((s0.size : Nat) : Int))) (bif ((decide ((byteAt s0 2) < 128)) || (decide (191 < (byteAt s0 2)))) then (.ret .ret [(.tuple #[(.int .i32 65533), (.int .i64 1)])]) else (bif (decide ((wi64 (andI .u8 i2 7)) ≤ 3)) then (.ret .ret [(.tuple #[(.int .i32 (orI .i32 (orI .i32 (shlI .i32 (wi32 (andI .u8 (byteAt s0 0) 15)) 12) (shlI .i32 (wi32 (andI .u8 (byteAt s0 1) 63)) 6)) (wi32 (andI .u8 (byteAt s0 2) 63)))), (.int .i64 3)])]) else (grd (decide (3 < ((s0.size : Nat) : Int))) (bif ((decide ((byteAt s0 3) < 128)) || (decide (191 < (byteAt s0 3)))) then (.ret .ret [(.tuple #[(.int .i32 65533), (.int .i64 1)])]) else (.ret .ret [(.tuple #[(.int .i32 (orI .i32 (orI .i32 (orI .i32 (shlI .i32 (wi32 (andI .u8 (byteAt s0 0) 7)) 18) (shlI .i32 (wi32 (andI .u8 (byteAt s0 1) 63)) 12)) (shlI .i32 (wi32 (andI .u8 (byteAt s0 2) 63)) 6)) (wi32 (andI .u8 (byteAt s0 3) 63)))), (.int .i64 4)])]))))))))) (.fail)

/-- unicode/utf8.decodeRuneInStringSlow -/
noncomputable def T125 (s0 : ByteArray) : Pg :=
  bif (decide (((s0.size : Nat) : Int) < 1)) then (.ret .ret [(.tuple #[(.int .i32 65533), (.int .i64 0)])]) else (grd (decide (0 < ((s0.size : Nat) : Int))) (grd ((decide (0 ≤ (byteAt s0 0))) && (decide ((byteAt s0 0) < 256))) (.act (ld1 (aadd ⟨3, 0, none⟩ ((Int.toNat (byteAt s0 0)) * 1))) fun v1 => asInt .u8 v1 fun i2 => bif (decide (i2 ≥ 240)) then (grd (decide (0 < ((s0.size : Nat) : Int))) (.ret .ret [(.tuple #[(.int .i32 (orI .i32 (andNotI .i32 (wi32 (byteAt s0 0)) (shrI .i32 (shlI .i32 (wi32 i2) 31) 31)) (andI .i32 65533 (shrI .i32 (shlI .i32 (wi32 i2) 31) 31)))), (.int .i64 1)])])) else (grd ((decide (0 ≤ (shrI .u8 i2 4))) && (decide ((shrI .u8 i2 4) < 16))) (.act (ldN 2 (aadd ⟨4, 0, none⟩ ((Int.toNat (shrI .u8 i2 4)) * 2))) fun v3 => asAgg v3 fun l4 => asCons l4 fun v5 l6 => asInt .u8 v5 fun i7 => asCons l6 fun v8 l9 => asInt .u8 v8 fun i10 => asNil l9 (.act (newC [(.int .u8 0), (.int .u8 0)]) fun v11 => asPtr v11 fun p12 => asSome p12 fun a13 => .act (stC a13 [(.int .u8 i7), (.int .u8 i10)]) fun v14 => asTuple v14 fun l15 => asNil l15 (bif (decide (((s0.size : Nat) : Int) < (wi64 (andI .u8 i2 7)))) then (.ret .ret [(.tuple #[(.int .i32 65533), (.int .i64 1)])]) else (grd (decide (1 < ((s0.size : Nat) : Int))) (.join (.act (ld1 (aadd a13 0)) fun v16 => asInt .u8 v16 fun i17 => bif (decide ((byteAt s0 1) < i17)) == false then (.act (ld1 (aadd a13 1)) fun v18 => asInt .u8 v18 fun i19 => .ret .normal [(.bool (decide (i19 < (byteAt s0 1))))]) else (.ret .normal [(.bool true)])) (T125k0 i2 s0))))))))))
theorem T125_eq (s0 : ByteArray) : progOf PROG false 125 [(.string s0)] = T125 s0 := by kernel_rfl


/-- hindsight/lex.named$1 -/
noncomputable def T126 (i0 : Int) : Pg :=
  .call 111 [(.int .i32 i0)] fun v1 => asInt .i64 v1 fun i2 => .ret .ret [(.bool ((i2 == 1) || (i2 == 2)))]
theorem T126_eq (i0 : Int) : progOf PROG false 126 [(.int .i32 i0)] = T126 i0 := by kernel_rfl


noncomputable def T127k0 : Ex → List Value → Pg :=
  fun e13 l14 => sw e13 .ret (asCons l14 fun v15 l16 => asBool v15 fun b17 => asNil l16 (.ret .ret [(.bool b17)])) (.fail)

noncomputable def T127b0 (a3 : Addr) : List Value → Pg :=
  fun l4 => asCons l4 fun v5 l6 => asBool v5 fun b7 => asNil l6 (.act (nxt (some a3)) fun v8 => asNx v8 (fun i9 i10 => .join (.call 82 [(.int .i32 i10)] fun v11 => asBool v11 fun b12 => .ret .ret [(.bool b12)]) (T127k0)) (.ret (.exit 0) [(.bool b7)]))

noncomputable def T127k1 : Ex → List Value → Pg :=
  fun e18 l19 => sw e18 (.exit 0) (asCons l19 fun v20 l21 => asBool v20 fun b22 => asNil l21 (.ret .ret [(.bool false)])) (sw e18 .ret (asCons l19 fun v23 l24 => asBool v23 fun b25 => asNil l24 (.ret .ret [(.bool b25)])) (.fail))

/-- hindsight/chars.Upper -/
noncomputable def T127 (s0 : ByteArray) : Pg :=
  .act (rng s0) fun v1 => asPtr v1 fun p2 => asSome p2 fun a3 => .loop [(.bool false)] (T127b0 a3) (T127k1)
theorem T127_eq (s0 : ByteArray) : progOf PROG false 127 [(.string s0)] = T127 s0 := by kernel_rfl


noncomputable def T128k0 : Ex → List Value → Pg :=
  fun e1 l2 => sw e1 .normal (asCons l2 fun v3 l4 => asBool v3 fun b5 => asNil l4 (.ret .normal [(.bool b5)])) (.fail)

noncomputable def T128k1 : Ex → List Value → Pg :=
  fun e6 l7 => sw e6 .normal (asCons l7 fun v8 l9 => asBool v8 fun b10 => asNil l9 (.ret .normal [(.bool b10)])) (.fail)

noncomputable def T128k2 : Ex → List Value → Pg :=
  fun e11 l12 => sw e11 .normal (asCons l12 fun v13 l14 => asBool v13 fun b15 => asNil l14 (.ret .normal [(.bool b15)])) (.fail)

noncomputable def T128k3 : Ex → List Value → Pg :=
  fun e16 l17 => sw e16 .normal (asCons l17 fun v18 l19 => asBool v18 fun b20 => asNil l19 (.ret .normal [(.bool b20)])) (.fail)

noncomputable def T128k4 : Ex → List Value → Pg :=
  fun e21 l22 => sw e21 .normal (asCons l22 fun v23 l24 => asBool v23 fun b25 => asNil l24 (.ret .normal [(.bool b25)])) (.fail)

noncomputable def T128k5 : Ex → List Value → Pg :=
  fun e26 l27 => sw e26 .normal (asCons l27 fun v28 l29 => asBool v28 fun b30 => asNil l29 (.ret .normal [(.bool b30)])) (.fail)

noncomputable def T128k6 : Ex → List Value → Pg :=
  fun e31 l32 => sw e31 .normal (asCons l32 fun v33 l34 => asBool v33 fun b35 => asNil l34 (.ret .normal [(.bool b35)])) (.fail)

noncomputable def T128k7 : Ex → List Value → Pg :=
  fun e36 l37 => sw e36 .normal (asCons l37 fun v38 l39 => asBool v38 fun b40 => asNil l39 (.ret .normal [(.bool b40)])) (.fail)

noncomputable def T128k8 : Ex → List Value → Pg :=
  fun e41 l42 => sw e41 .normal (asCons l42 fun v43 l44 => asBool v43 fun b45 => asNil l44 (.ret .normal [(.bool b45)])) (.fail)

noncomputable def T128k9 : Ex → List Value → Pg :=
  fun e46 l47 => sw e46 .normal (asCons l47 fun v48 l49 => asBool v48 fun b50 => asNil l49 (.ret .normal [(.bool b50)])) (.fail)

noncomputable def T128k10 : Ex → List Value → Pg :=
  fun e51 l52 => sw e51 .normal (asCons l52 fun v53 l54 => asBool v53 fun b55 => asNil l54 (.ret .normal [(.bool b55)])) (.fail)

noncomputable def T128k11 : Ex → List Value → Pg :=
  fun e56 l57 => sw e56 .normal (asCons l57 fun v58 l59 => asBool v58 fun b60 => asNil l59 (.ret .normal [(.bool b60)])) (.fail)

noncomputable def T128k12 : Ex → List Value → Pg :=
  fun e61 l62 => sw e61 .normal (asCons l62 fun v63 l64 => asBool v63 fun b65 => asNil l64 (.ret .normal [(.bool b65)])) (.fail)

noncomputable def T128k13 : Ex → List Value → Pg :=
  fun e66 l67 => sw e66 .normal (asCons l67 fun v68 l69 => asBool v68 fun b70 => asNil l69 (.ret .normal [(.bool b70)])) (.fail)

noncomputable def T128k14 : Ex → List Value → Pg :=
  fun e71 l72 => sw e71 .normal (asCons l72 fun v73 l74 => asBool v73 fun b75 => asNil l74 (.ret .normal [(.bool b75)])) (.fail)

noncomputable def T128k15 : Ex → List Value → Pg :=
  fun e76 l77 => sw e76 .normal (asCons l77 fun v78 l79 => asBool v78 fun b80 => asNil l79 (.ret .normal [(.bool b80)])) (.fail)

noncomputable def T128k16 : Ex → List Value → Pg :=
  fun e81 l82 => sw e81 .normal (asCons l82 fun v83 l84 => asBool v83 fun b85 => asNil l84 (.ret .normal [(.bool b85)])) (.fail)

noncomputable def T128k17 : Ex → List Value → Pg :=
  fun e86 l87 => sw e86 .normal (asCons l87 fun v88 l89 => asBool v88 fun b90 => asNil l89 (bif b90 then (.ret .ret [(.bool true)]) else (.ret .normal [(.bool false)]))) (.fail)

noncomputable def T128k18 : Ex → List Value → Pg :=
  fun e91 l92 => sw e91 .ret (asCons l92 fun v93 l94 => asBool v93 fun b95 => asNil l94 (.ret .ret [(.bool b95)])) (sw e91 .normal (asCons l92 fun v96 l97 => asBool v96 fun b98 => asNil l97 (.ret .ret [(.bool false)])) (.fail))

/-- hindsight/lex.IsKey -/
noncomputable def T128 (s0 : ByteArray) : Pg :=
  .join (.join (bif (s0.toList == (bs [116, 121, 112, 101]).toList) then (.ret .normal [(.bool (s0.toList == (bs [116, 121, 112, 101]).toList))]) else (.join (bif (s0.toList == (bs [111, 102]).toList) then (.ret .normal [(.bool (s0.toList == (bs [111, 102]).toList))]) else (.join (bif (s0.toList == (bs [108, 101, 116]).toList) then (.ret .normal [(.bool (s0.toList == (bs [108, 101, 116]).toList))]) else (.join (bif (s0.toList == (bs [114, 101, 99]).toList) then (.ret .normal [(.bool (s0.toList == (bs [114, 101, 99]).toList))]) else (.join (bif (s0.toList == (bs [105, 110]).toList) then (.ret .normal [(.bool (s0.toList == (bs [105, 110]).toList))]) else (.join (bif (s0.toList == (bs [102, 117, 110]).toList) then (.ret .normal [(.bool (s0.toList == (bs [102, 117, 110]).toList))]) else (.join (bif (s0.toList == (bs [105, 102]).toList) then (.ret .normal [(.bool (s0.toList == (bs [105, 102]).toList))]) else (.join (bif (s0.toList == (bs [116, 104, 101, 110]).toList) then (.ret .normal [(.bool (s0.toList == (bs [116, 104, 101, 110]).toList))]) else (.join (bif (s0.toList == (bs [101, 108, 115, 101]).toList) then (.ret .normal [(.bool (s0.toList == (bs [101, 108, 115, 101]).toList))]) else (.join (bif (s0.toList == (bs [109, 97, 116, 99, 104]).toList) then (.ret .normal [(.bool (s0.toList == (bs [109, 97, 116, 99, 104]).toList))]) else (.join (bif (s0.toList == (bs [119, 105, 116, 104]).toList) then (.ret .normal [(.bool (s0.toList == (bs [119, 105, 116, 104]).toList))]) else (.join (bif (s0.toList == (bs [101, 110, 100]).toList) then (.ret .normal [(.bool (s0.toList == (bs [101, 110, 100]).toList))]) else (.join (bif (s0.toList == (bs [114, 101, 102]).toList) then (.ret .normal [(.bool (s0.toList == (bs [114, 101, 102]).toList))]) else (.join (bif (s0.toList == (bs [112, 114, 105, 110, 116]).toList) then (.ret .normal [(.bool (s0.toList == (bs [112, 114, 105, 110, 116]).toList))]) else (.join (bif (s0.toList == (bs [114, 101, 97, 100]).toList) then (.ret .normal [(.bool (s0.toList == (bs [114, 101, 97, 100]).toList))]) else (.join (bif (s0.toList == (bs [114, 97, 105, 115, 101]).toList) then (.ret .normal [(.bool (s0.toList == (bs [114, 97, 105, 115, 101]).toList))]) else (.join (bif (s0.toList == (bs [116, 114, 121]).toList) then (.ret .normal [(.bool (s0.toList == (bs [116, 114, 121]).toList))]) else (.join (bif (s0.toList == (bs [116, 114, 117, 101]).toList) then (.ret .normal [(.bool (s0.toList == (bs [116, 114, 117, 101]).toList))]) else (.ret .normal [(.bool (s0.toList == (bs [102, 97, 108, 115, 101]).toList))])) (T128k0))) (T128k1))) (T128k2))) (T128k3))) (T128k4))) (T128k5))) (T128k6))) (T128k7))) (T128k8))) (T128k9))) (T128k10))) (T128k11))) (T128k12))) (T128k13))) (T128k14))) (T128k15))) (T128k16))) (T128k17)) (T128k18)
theorem T128_eq (s0 : ByteArray) : progOf PROG false 128 [(.string s0)] = T128 s0 := by kernel_rfl


/-- strings.HasPrefix -/
noncomputable def T129 (s0 : ByteArray) (s1 : ByteArray) : Pg :=
  .call 132 [(.string s0), (.string s1)] fun v2 => asBool v2 fun b3 => .ret .ret [(.bool b3)]
theorem T129_eq (s0 : ByteArray) (s1 : ByteArray) : progOf PROG false 129 [(.string s0), (.string s1)] = T129 s0 s1 := by kernel_rfl


noncomputable def T130k0 (a6 : Addr) (a3 : Addr) : Ex → List Value → Pg :=
  fun e11 l12 => sw e11 .normal (asNil l12 (.act (ldN 7 a6) fun v13 => asAgg v13 fun l14 => asCons l14 fun v15 l16 => asInt .i64 v15 fun i17 => asCons l16 fun v18 l19 => asInt .i64 v18 fun i20 => asCons l19 fun v21 l22 => asStr v21 fun s23 => asCons l22 fun v24 l25 => asSlice v24 fun p26 n27 n28 => asCons l25 fun v29 l30 => asInt .i64 v29 fun i31 => asCons l30 fun v32 l33 => asPtr v32 fun p34 => asCons l33 fun v35 l36 => asInt .i64 v35 fun i37 => asNil l36 (.act (stC a3 [(.int .i64 i17), (.int .i64 i20), (.string s23), (.slice p26 n27 n28), (.int .i64 i31), (.pointer p34), (.int .i64 i37)]) fun v38 => asTuple v38 fun l39 => asNil l39 (.act (ldN 7 a3) fun v40 => .ret .ret [v40])))) (.fail)

/-- hindsight/val.truth -/
noncomputable def T130 (b0 : Bool) : Pg :=
  .act (newC [(.int .i64 0), (.int .i64 0), (.string (bs [])), (.slice none 0 0), (.int .i64 0), (.pointer none), (.int .i64 0)]) fun v1 => asPtr v1 fun p2 => asSome p2 fun a3 => .act (newC [(.int .i64 0), (.int .i64 0), (.string (bs [])), (.slice none 0 0), (.int .i64 0), (.pointer none), (.int .i64 0)]) fun v4 => asPtr v4 fun p5 => asSome p5 fun a6 => .act (stC a6 [(.int .i64 2), (.int .i64 0), (.string (bs [])), (.slice none 0 0), (.int .i64 0), (.pointer none), (.int .i64 0)]) fun v7 => asTuple v7 fun l8 => asNil l8 (.join (bif b0 then (.act (stC (aadd a6 1) [(.int .i64 1)]) fun v9 => asTuple v9 fun l10 => asNil l10 (.ret .normal [])) else (.ret .normal [])) (T130k0 a6 a3))
theorem T130_eq (b0 : Bool) : progOf PROG false 130 [(.bool b0)] = T130 b0 := by kernel_rfl


noncomputable def T131k0 : Ex → List Value → Pg :=
  fun e13 l14 => sw e13 .normal (asCons l14 fun v15 l16 => asPtr v15 fun p17 => asNil l16 (.ret .normal [(.pointer p17)])) (.fail)

noncomputable def T131b0 (p0 : (Option Addr)) : List Value → Pg :=
  fun l3 => asCons l3 fun v4 l5 => asPtr v4 fun p6 => asNil l5 (.call 134 [(.pointer p0)] fun v7 => asBool v7 fun b8 => bif b8 then (.join (.call 133 [(.pointer p0)] fun v9 => asPtr v9 fun p10 => .call 68 [(.int .i64 7), (.string (bs [])), (.pointer p6), (.pointer p10)] fun v11 => asPtr v11 fun p12 => .ret .normal [(.pointer p12)]) (T131k0)) else (.ret (.exit 0) [(.pointer p6)]))

noncomputable def T131k1 : Ex → List Value → Pg :=
  fun e18 l19 => sw e18 (.exit 0) (asCons l19 fun v20 l21 => asPtr v20 fun p22 => asNil l21 (.ret .ret [(.pointer p22)])) (.fail)

/-- (*hindsight/hindsightref3.reader).app -/
noncomputable def T131 (p0 : (Option Addr)) : Pg :=
  .call 133 [(.pointer p0)] fun v1 => asPtr v1 fun p2 => .loop [(.pointer p2)] (T131b0 p0) (T131k1)
theorem T131_eq (p0 : (Option Addr)) : progOf PROG false 131 [(.pointer p0)] = T131 p0 := by kernel_rfl


noncomputable def T132k0 : Ex → List Value → Pg :=
  fun e2 l3 => sw e2 .normal (asCons l3 fun v4 l5 => asBool v4 fun b6 => asNil l5 (.ret .ret [(.bool b6)])) (.fail)

/-- internal/stringslite.HasPrefix -/
noncomputable def T132 (s0 : ByteArray) (s1 : ByteArray) : Pg :=
  .join (bif (decide (((s0.size : Nat) : Int) ≥ ((s1.size : Nat) : Int))) == true then (grd (decide (((s1.size : Nat) : Int) ≤ ((s0.size : Nat) : Int))) (.ret .normal [(.bool ((s0.extract 0 s1.size).toList == s1.toList))])) else (.ret .normal [(.bool false)])) (T132k0)
theorem T132_eq (s0 : ByteArray) (s1 : ByteArray) : progOf PROG false 132 [(.string s0), (.string s1)] = T132 s0 s1 := by kernel_rfl


noncomputable def T133k0 (i26 : Int) : Ex → List Value → Pg :=
  fun e51 l52 => sw e51 .ret (asCons l52 fun v53 l54 => asPtr v53 fun p55 => asNil l54 (.ret .ret [(.int .i64 i26), (.pointer p55)])) (sw e51 .normal (asCons l52 fun v56 l57 => asPtr v56 fun p58 => asNil l57 (.ret .normal [(.int .i64 (wi64 (i26 + 1))), (.pointer p58)])) (.fail))

noncomputable def T133b0 (p16 : (Option Addr)) (n17 : Nat) (p0 : (Option Addr)) (p20 : (Option Addr)) (n21 : Nat) (i11 : Int) : List Value → Pg :=
  fun l23 => asCons l23 fun v24 l25 => asInt .i64 v24 fun i26 => asCons l25 fun v27 l28 => asPtr v27 fun p29 => asNil l28 (bif (decide (i26 < 4)) then (.join (asSome p16 fun a30 => grd ((decide (0 ≤ i26)) && (decide (i26 < ((n17 : Nat) : Int)))) (.act (ld1 (aadd a30 ((Int.toNat i26) * 1))) fun v31 => asStr v31 fun s32 => .call 64 [(.pointer p0), (.string s32)] fun v33 => asBool v33 fun b34 => bif b34 then (.call 133 [(.pointer p0)] fun v35 => asPtr v35 fun p36 => asSome p20 fun a37 => grd ((decide (0 ≤ i26)) && (decide (i26 < ((n21 : Nat) : Int)))) (.act (ld1 (aadd a37 ((Int.toNat i26) * 1))) fun v38 => asInt .i64 v38 fun i39 => asSome p36 fun a40 => .act (ld1 (aadd (aadd a40 0) 6)) fun v41 => asInt .i64 v41 fun i42 => .act (bdSl 1 1 [(.pointer p36)]) fun v43 => asSlice v43 fun p44 n45 n46 => .get fun h50 => grd (chks [((ld1 (aadd (aadd a40 0) 6)), v41), ((ld1 (aadd a37 ((Int.toNat i26) * 1))), v38)] h50) (.act (newC [(.int .i64 i39), (.int .i64 0), (.string (bs [])), (.string (bs [])), (.slice none 0 0), (.int .i64 i11), (.int .i64 i42), (.slice p44 n45 n46)]) fun v47 => asPtr v47 fun p48 => asSome p48 fun a49 => .ret .ret [(.pointer (some a49))]))) else (.ret .normal [(.pointer p29)]))) (T133k0 i26)) else (.ret (.exit 0) [(.int .i64 i26), (.pointer p29)]))

noncomputable def T133k1 (p0 : (Option Addr)) : Ex → List Value → Pg :=
  fun e59 l60 => sw e59 (.exit 0) (asCons l60 fun v61 l62 => asInt .i64 v61 fun i63 => asCons l62 fun v64 l65 => asPtr v64 fun p66 => asNil l65 (.call 135 [(.pointer p0)] fun v67 => asPtr v67 fun p68 => .ret .ret [(.pointer p68)])) (sw e59 .ret (asCons l60 fun v69 l70 => asInt .i64 v69 fun i71 => asCons l70 fun v72 l73 => asPtr v72 fun p74 => asNil l73 (.ret .ret [(.pointer p74)])) (.fail))

/-- (*hindsight/hindsightref3.reader).pre -/
noncomputable def T133 (p0 : (Option Addr)) : Pg :=
  .call 45 [(.pointer p0)] fun v1 => asAgg v1 fun l2 => asCons l2 fun v3 l4 => asInt .i64 v3 fun i5 => asCons l4 fun v6 l7 => asStr v6 fun s8 => asCons l7 fun v9 l10 => asInt .i64 v9 fun i11 => asCons l10 fun v12 l13 => asInt .i64 v12 fun i14 => asNil l13 (.act (bdSl 1 4 [(.string (bs [114, 101, 102])), (.string (bs [33])), (.string (bs [112, 114, 105, 110, 116])), (.string (bs [114, 97, 105, 115, 101]))]) fun v15 => asSlice v15 fun p16 n17 n18 => .act (bdSl 1 4 [(.int .i64 15), (.int .i64 16), (.int .i64 17), (.int .i64 19)]) fun v19 => asSlice v19 fun p20 n21 n22 => .loop [(.int .i64 0), (.pointer none)] (T133b0 p16 n17 p0 p20 n21 i11) (T133k1 p0))
theorem T133_eq (p0 : (Option Addr)) : progOf PROG false 133 [(.pointer p0)] = T133 p0 := by kernel_rfl


noncomputable def T134k0 : Ex → List Value → Pg :=
  fun e53 l54 => sw e53 .normal (asCons l54 fun v55 l56 => asBool v55 fun b57 => asNil l56 (.ret .ret [(.bool b57)])) (.fail)

noncomputable def T134k1 (a17 : Addr) : Ex → List Value → Pg :=
  fun e38 l39 => sw e38 .normal (asCons l39 fun v40 l41 => asBool v40 fun b42 => asNil l41 (bif b42 then (.ret .ret [(.bool true)]) else (.act (bdSl 1 13 [(.string (bs [114, 101, 102])), (.string (bs [33])), (.string (bs [112, 114, 105, 110, 116])), (.string (bs [114, 97, 105, 115, 101])), (.string (bs [116, 114, 117, 101])), (.string (bs [102, 97, 108, 115, 101])), (.string (bs [114, 101, 97, 100])), (.string (bs [40])), (.string (bs [102, 117, 110])), (.string (bs [108, 101, 116])), (.string (bs [105, 102])), (.string (bs [109, 97, 116, 99, 104])), (.string (bs [116, 114, 121]))]) fun v43 => asSlice v43 fun p44 n45 n46 => .join (.act (ld1 (aadd a17 0)) fun v47 => asInt .i64 v47 fun i48 => bif (decide (i48 > 3)) == true then (.act (ld1 (aadd a17 1)) fun v49 => asStr v49 fun s50 => .call 89 [(.slice p44 n45 n46), (.string s50)] fun v51 => asBool v51 fun b52 => .ret .normal [(.bool b52)]) else (.ret .normal [(.bool false)])) (T134k0)))) (.fail)

noncomputable def T134k2 (a17 : Addr) : Ex → List Value → Pg :=
  fun e25 l26 => sw e25 .normal (asCons l26 fun v27 l28 => asBool v27 fun b29 => asNil l28 (bif b29 then (.ret .ret [(.bool false)]) else (.join (.act (ld1 (aadd a17 0)) fun v30 => asInt .i64 v30 fun i31 => bif (i31 == 1) == false then (.act (ld1 (aadd a17 0)) fun v32 => asInt .i64 v32 fun i33 => bif (i33 == 3) == false then (.act (ld1 (aadd a17 0)) fun v34 => asInt .i64 v34 fun i35 => bif (i35 == 2) == true then (.act (ld1 (aadd a17 1)) fun v36 => asStr v36 fun s37 => .ret .normal [(.bool (!(s37.toList == (bs [95]).toList)))]) else (.ret .normal [(.bool false)])) else (.ret .normal [(.bool true)])) else (.ret .normal [(.bool true)])) (T134k1 a17)))) (.fail)

/-- (*hindsight/hindsightref3.reader).begins -/
noncomputable def T134 (p0 : (Option Addr)) : Pg :=
  .call 45 [(.pointer p0)] fun v1 => asAgg v1 fun l2 => asCons l2 fun v3 l4 => asInt .i64 v3 fun i5 => asCons l4 fun v6 l7 => asStr v6 fun s8 => asCons l7 fun v9 l10 => asInt .i64 v9 fun i11 => asCons l10 fun v12 l13 => asInt .i64 v12 fun i14 => asNil l13 (.act (newC [(.int .i64 0), (.string (bs [])), (.int .i64 0), (.int .i64 0)]) fun v15 => asPtr v15 fun p16 => asSome p16 fun a17 => .act (stC a17 [(.int .i64 i5), (.string s8), (.int .i64 i11), (.int .i64 i14)]) fun v18 => asTuple v18 fun l19 => asNil l19 (.join (asSome p0 fun a20 => .act (ld1 (aadd a20 3)) fun v21 => asBool v21 fun b22 => bif b22 == false then (.act (ld1 (aadd a17 0)) fun v23 => asInt .i64 v23 fun i24 => .ret .normal [(.bool (i24 == 0))]) else (.ret .normal [(.bool true)])) (T134k2 a17)))
theorem T134_eq (p0 : (Option Addr)) : progOf PROG false 134 [(.pointer p0)] = T134 p0 := by kernel_rfl


noncomputable def T135k0 (p0 : (Option Addr)) : Ex → List Value → Pg :=
  fun e59 l60 => sw e59 .ret (asCons l60 fun v61 l62 => asPtr v61 fun p63 => asNil l62 (.ret .ret [(.pointer p63)])) (sw e59 .normal (asCons l60 fun v64 l65 => asPtr v64 fun p66 => asNil l65 (.call 141 [(.pointer p0)] fun v67 => asPtr v67 fun p68 => .ret .ret [(.pointer p68)])) (.fail))

noncomputable def T135k1 (a17 : Addr) (p0 : (Option Addr)) : Ex → List Value → Pg :=
  fun e41 l42 => sw e41 .ret (asCons l42 fun v43 l44 => asPtr v43 fun p45 => asNil l44 (.ret .ret [(.pointer p45)])) (sw e41 .normal (asCons l42 fun v46 l47 => asPtr v46 fun p48 => asNil l47 (.act (ld1 (aadd a17 1)) fun v49 => asStr v49 fun s50 => .join (bif (s50.toList == (bs [116, 114, 117, 101]).toList) then (.call 137 [(.pointer p0), (.agg #[(.int .i64 2), (.int .i64 1), (.string (bs [])), (.string (bs [])), (.slice none 0 0), (.int .i64 0), (.int .i64 0)])] fun v51 => asPtr v51 fun p52 => .ret .ret [(.pointer p52)]) else (bif (s50.toList == (bs [102, 97, 108, 115, 101]).toList) then (.call 137 [(.pointer p0), (.agg #[(.int .i64 2), (.int .i64 0), (.string (bs [])), (.string (bs [])), (.slice none 0 0), (.int .i64 0), (.int .i64 0)])] fun v53 => asPtr v53 fun p54 => .ret .ret [(.pointer p54)]) else (bif (s50.toList == (bs [114, 101, 97, 100]).toList) then (.call 137 [(.pointer p0), (.agg #[(.int .i64 18), (.int .i64 0), (.string (bs [])), (.string (bs [])), (.slice none 0 0), (.int .i64 0), (.int .i64 0)])] fun v55 => asPtr v55 fun p56 => .ret .ret [(.pointer p56)]) else (bif (s50.toList == (bs [40]).toList) then (.call 140 [(.pointer p0)] fun v57 => asPtr v57 fun p58 => .ret .ret [(.pointer p58)]) else (.ret .normal [(.pointer p48)]))))) (T135k0 p0))) (.fail))

/-- (*hindsight/hindsightref3.reader).atom -/
noncomputable def T135 (p0 : (Option Addr)) : Pg :=
  .call 45 [(.pointer p0)] fun v1 => asAgg v1 fun l2 => asCons l2 fun v3 l4 => asInt .i64 v3 fun i5 => asCons l4 fun v6 l7 => asStr v6 fun s8 => asCons l7 fun v9 l10 => asInt .i64 v9 fun i11 => asCons l10 fun v12 l13 => asInt .i64 v12 fun i14 => asNil l13 (.act (newC [(.int .i64 0), (.string (bs [])), (.int .i64 0), (.int .i64 0)]) fun v15 => asPtr v15 fun p16 => asSome p16 fun a17 => .act (stC a17 [(.int .i64 i5), (.string s8), (.int .i64 i11), (.int .i64 i14)]) fun v18 => asTuple v18 fun l19 => asNil l19 (.call 134 [(.pointer p0)] fun v20 => asBool v20 fun b21 => bif (!b21) then (asSome p0 fun a22 => .act (stC (aadd a22 3) [(.bool true)]) fun v23 => asTuple v23 fun l24 => asNil l24 (.call 136 [] fun v25 => asPtr v25 fun p26 => .ret .ret [(.pointer p26)])) else (.act (ld1 (aadd a17 0)) fun v27 => asInt .i64 v27 fun i28 => .join (bif (i28 == 1) then (.act (ld1 (aadd a17 1)) fun v29 => asStr v29 fun s30 => .call 138 [(.string s30)] fun v31 => asInt .i64 v31 fun i32 => .call 137 [(.pointer p0), (.agg #[(.int .i64 1), (.int .i64 i32), (.string (bs [])), (.string (bs [])), (.slice none 0 0), (.int .i64 0), (.int .i64 0)])] fun v33 => asPtr v33 fun p34 => .ret .ret [(.pointer p34)]) else (bif (i28 == 2) then (.act (ld1 (aadd a17 1)) fun v35 => asStr v35 fun s36 => .call 137 [(.pointer p0), (.agg #[(.int .i64 4), (.int .i64 0), (.string s36), (.string (bs [])), (.slice none 0 0), (.int .i64 0), (.int .i64 0)])] fun v37 => asPtr v37 fun p38 => .ret .ret [(.pointer p38)]) else (bif (i28 == 3) then (.call 139 [(.pointer p0)] fun v39 => asPtr v39 fun p40 => .ret .ret [(.pointer p40)]) else (.ret .normal [(.pointer none)])))) (T135k1 a17 p0))))
theorem T135_eq (p0 : (Option Addr)) : progOf PROG false 135 [(.pointer p0)] = T135 p0 := by kernel_rfl


/-- hindsight/hindsightref3.none -/
noncomputable def T136 : Pg :=
  .act (newC [(.int .i64 3), (.int .i64 0), (.string (bs [])), (.string (bs [])), (.slice none 0 0), (.int .i64 0), (.int .i64 0), (.slice none 0 0)]) fun v0 => asPtr v0 fun p1 => asSome p1 fun a2 => .ret .ret [(.pointer (some a2))]
theorem T136_eq : progOf PROG false 136 [] = T136 := by kernel_rfl


/-- (*hindsight/hindsightref3.reader).one -/
noncomputable def T137 (p0 : (Option Addr)) (i1 : Int) (i2 : Int) (s3 : ByteArray) (s4 : ByteArray) (p5 : (Option Addr)) (n6 : Nat) (n7 : Nat) (i8 : Int) (i9 : Int) : Pg :=
  .act (newC [(.int .i64 i1), (.int .i64 i2), (.string s3), (.string s4), (.slice p5 n6 n7), (.int .i64 i8), (.int .i64 i9)]) fun v10 => asPtr v10 fun p11 => asSome p11 fun a12 => .call 45 [(.pointer p0)] fun v13 => asAgg v13 fun l14 => asCons l14 fun v15 l16 => asInt .i64 v15 fun i17 => asCons l16 fun v18 l19 => asStr v18 fun s20 => asCons l19 fun v21 l22 => asInt .i64 v21 fun i23 => asCons l22 fun v24 l25 => asInt .i64 v24 fun i26 => asNil l25 (.call 45 [(.pointer p0)] fun v27 => asAgg v27 fun l28 => asCons l28 fun v29 l30 => asInt .i64 v29 fun i31 => asCons l30 fun v32 l33 => asStr v32 fun s34 => asCons l33 fun v35 l36 => asInt .i64 v35 fun i37 => asCons l36 fun v38 l39 => asInt .i64 v38 fun i40 => asNil l39 (.act (stC (aadd a12 5) [(.int .i64 i23)]) fun v41 => asTuple v41 fun l42 => asNil l42 (.act (stC (aadd a12 6) [(.int .i64 i40)]) fun v43 => asTuple v43 fun l44 => asNil l44 (asSome p0 fun a45 => .act (ld1 (aadd a45 1)) fun v46 => asInt .i64 v46 fun i47 => asSome p0 fun a48 => .act (stC (aadd a48 1) [(.int .i64 (wi64 (i47 + 1)))]) fun v49 => asTuple v49 fun l50 => asNil l50 (.act (ldN 7 a12) fun v51 => asAgg v51 fun l52 => asCons l52 fun v53 l54 => asInt .i64 v53 fun i55 => asCons l54 fun v56 l57 => asInt .i64 v56 fun i58 => asCons l57 fun v59 l60 => asStr v59 fun s61 => asCons l60 fun v62 l63 => asStr v62 fun s64 => asCons l63 fun v65 l66 => asSlice v65 fun p67 n68 n69 => asCons l66 fun v70 l71 => asInt .i64 v70 fun i72 => asCons l71 fun v73 l74 => asInt .i64 v73 fun i75 => asNil l74 (.act (newC [(.int .i64 i55), (.int .i64 i58), (.string s61), (.string s64), (.slice p67 n68 n69), (.int .i64 i72), (.int .i64 i75), (.slice none 0 0)]) fun v76 => asPtr v76 fun p77 => asSome p77 fun a78 => .ret .ret [(.pointer (some a78))]))))))
theorem T137_eq (p0 : (Option Addr)) (i1 : Int) (i2 : Int) (s3 : ByteArray) (s4 : ByteArray) (p5 : (Option Addr)) (n6 : Nat) (n7 : Nat) (i8 : Int) (i9 : Int) : progOf PROG false 137 [(.pointer p0), (.agg #[(.int .i64 i1), (.int .i64 i2), (.string s3), (.string s4), (.slice p5 n6 n7), (.int .i64 i8), (.int .i64 i9)])] = T137 p0 i1 i2 s3 s4 p5 n6 n7 i8 i9 := by kernel_rfl


noncomputable def T138k0 (i4 : Int) : Ex → List Value → Pg :=
  fun e8 l9 => sw e8 .normal (asCons l9 fun v10 l11 => asInt .i64 v10 fun i12 => asNil l11 (.ret .normal [(.int .i64 (wi64 (i4 + 1))), (.int .i64 i12)])) (.fail)

noncomputable def T138b0 (s0 : ByteArray) : List Value → Pg :=
  fun l1 => asCons l1 fun v2 l3 => asInt .i64 v2 fun i4 => asCons l3 fun v5 l6 => asInt .i64 v5 fun i7 => asNil l6 (bif (decide (i4 < ((s0.size : Nat) : Int))) then (.join (grd ((decide (0 ≤ i4)) && (decide (i4 < ((s0.size : Nat) : Int)))) (.ret .normal [(.int .i64 (wi64 ((wi64 (10 * i7)) + (wi64 (wu8 ((byteAt s0 (Int.toNat i4)) - 48))))))])) (T138k0 i4)) else (.ret (.exit 0) [(.int .i64 i4), (.int .i64 i7)]))

noncomputable def T138k1 : Ex → List Value → Pg :=
  fun e13 l14 => sw e13 (.exit 0) (asCons l14 fun v15 l16 => asInt .i64 v15 fun i17 => asCons l16 fun v18 l19 => asInt .i64 v18 fun i20 => asNil l19 (.ret .ret [(.int .i64 i20)])) (.fail)

/-- hindsight/hindsightref3.value -/
noncomputable def T138 (s0 : ByteArray) : Pg :=
  .loop [(.int .i64 0), (.int .i64 0)] (T138b0 s0) (T138k1)
theorem T138_eq (s0 : ByteArray) : progOf PROG false 138 [(.string s0)] = T138 s0 := by kernel_rfl


noncomputable def T139k0 : Ex → List Value → Pg :=
  fun e97 l98 => sw e97 .normal (asNil l98 (.ret .normal [])) (.fail)

noncomputable def T139b0 (p0 : (Option Addr)) (p16 : (Option Addr)) : List Value → Pg :=
  fun l74 => asNil l74 (.call 64 [(.pointer p0), (.string (bs [44]))] fun v75 => asBool v75 fun b76 => bif b76 then (.join (asSome p16 fun a77 => .act (ld1 (aadd a77 7)) fun v78 => asSlice v78 fun p79 n80 n81 => .call 44 [(.pointer p0)] fun v82 => asPtr v82 fun p83 => .get fun h96 => grd (chks [((ld1 (aadd a77 7)), v78)] h96) (.act (bdSl 1 1 [(.pointer p83)]) fun v84 => asSlice v84 fun p85 n86 n87 => .get fun h95 => grd (chks [((ld1 (aadd a77 7)), v78)] h95) (.act (apS 1 8 p79 n80 n81 p85 n86 n87) fun v88 => asSlice v88 fun p89 n90 n91 => asSome p16 fun a92 => .act (stC (aadd a92 7) [(.slice p89 n90 n91)]) fun v93 => asTuple v93 fun l94 => asNil l94 (.ret .normal [])))) (T139k0)) else (.ret (.exit 0) []))

noncomputable def T139k1 (p0 : (Option Addr)) (p16 : (Option Addr)) : Ex → List Value → Pg :=
  fun e99 l100 => sw e99 (.exit 0) (asNil l100 (.call 66 [(.pointer p0), (.string (bs [41]))] fun v101 => asTuple v101 fun l102 => asNil l102 (.call 142 [(.pointer p0)] fun v103 => asInt .i64 v103 fun i104 => asSome p16 fun a105 => .act (stC (aadd (aadd a105 0) 6) [(.int .i64 i104)]) fun v106 => asTuple v106 fun l107 => asNil l107 (.ret .ret [(.pointer p16)])))) (.fail)

noncomputable def T139k2 (p16 : (Option Addr)) (p0 : (Option Addr)) : Ex → List Value → Pg :=
  fun e49 l50 => sw e49 .normal (asCons l50 fun v51 l52 => asBool v51 fun b53 => asNil l52 (bif b53 then (.ret .ret [(.pointer p16)]) else (.call 66 [(.pointer p0), (.string (bs [40]))] fun v54 => asTuple v54 fun l55 => asNil l55 (asSome p16 fun a56 => .act (ld1 (aadd a56 7)) fun v57 => asSlice v57 fun p58 n59 n60 => .call 44 [(.pointer p0)] fun v61 => asPtr v61 fun p62 => .get fun h109 => grd (chks [((ld1 (aadd a56 7)), v57)] h109) (.act (bdSl 1 1 [(.pointer p62)]) fun v63 => asSlice v63 fun p64 n65 n66 => .get fun h108 => grd (chks [((ld1 (aadd a56 7)), v57)] h108) (.act (apS 1 8 p58 n59 n60 p64 n65 n66) fun v67 => asSlice v67 fun p68 n69 n70 => asSome p16 fun a71 => .act (stC (aadd a71 7) [(.slice p68 n69 n70)]) fun v72 => asTuple v72 fun l73 => asNil l73 (.loop [] (T139b0 p0 p16) (T139k1 p0 p16)))))))) (.fail)

/-- (*hindsight/hindsightref3.reader).con -/
noncomputable def T139 (p0 : (Option Addr)) : Pg :=
  .call 45 [(.pointer p0)] fun v1 => asAgg v1 fun l2 => asCons l2 fun v3 l4 => asInt .i64 v3 fun i5 => asCons l4 fun v6 l7 => asStr v6 fun s8 => asCons l7 fun v9 l10 => asInt .i64 v9 fun i11 => asCons l10 fun v12 l13 => asInt .i64 v12 fun i14 => asNil l13 (.call 137 [(.pointer p0), (.agg #[(.int .i64 5), (.int .i64 0), (.string s8), (.string (bs [])), (.slice none 0 0), (.int .i64 0), (.int .i64 0)])] fun v15 => asPtr v15 fun p16 => .join (.call 84 [(.pointer p0), (.string (bs [40]))] fun v17 => asBool v17 fun b18 => bif (!b18) == false then (asSome p0 fun a19 => .act (ld1 (aadd a19 1)) fun v20 => asInt .i64 v20 fun i21 => asSome p0 fun a22 => .act (ld1 (aadd a22 0)) fun v23 => asSlice v23 fun p24 n25 n26 => bif (decide ((wi64 (i21 + 1)) < ((n25 : Nat) : Int))) == true then (asSome p0 fun a27 => .act (ld1 (aadd a27 0)) fun v28 => asSlice v28 fun p29 n30 n31 => asSome p0 fun a32 => .act (ld1 (aadd a32 1)) fun v33 => asInt .i64 v33 fun i34 => asSome p29 fun a35 => grd ((decide (0 ≤ (wi64 (i34 + 1)))) && (decide ((wi64 (i34 + 1)) < ((n30 : Nat) : Int)))) (.act (ld1 (aadd (aadd a35 ((Int.toNat (wi64 (i34 + 1))) * 4)) 0)) fun v36 => asInt .i64 v36 fun i37 => bif (i37 == 5) == true then (asSome p0 fun a38 => .act (ld1 (aadd a38 0)) fun v39 => asSlice v39 fun p40 n41 n42 => asSome p0 fun a43 => .act (ld1 (aadd a43 1)) fun v44 => asInt .i64 v44 fun i45 => asSome p40 fun a46 => grd ((decide (0 ≤ (wi64 (i45 + 1)))) && (decide ((wi64 (i45 + 1)) < ((n41 : Nat) : Int)))) (.act (ld1 (aadd (aadd a46 ((Int.toNat (wi64 (i45 + 1))) * 4)) 1)) fun v47 => asStr v47 fun s48 => .ret .normal [(.bool (s48.toList == (bs [41]).toList))])) else (.ret .normal [(.bool false)]))) else (.ret .normal [(.bool false)])) else (.ret .normal [(.bool true)])) (T139k2 p16 p0))
theorem T139_eq (p0 : (Option Addr)) : progOf PROG false 139 [(.pointer p0)] = T139 p0 := by kernel_rfl


/-- (*hindsight/hindsightref3.reader).bracket -/
noncomputable def T140 (p0 : (Option Addr)) : Pg :=
  .call 45 [(.pointer p0)] fun v1 => asAgg v1 fun l2 => asCons l2 fun v3 l4 => asInt .i64 v3 fun i5 => asCons l4 fun v6 l7 => asStr v6 fun s8 => asCons l7 fun v9 l10 => asInt .i64 v9 fun i11 => asCons l10 fun v12 l13 => asInt .i64 v12 fun i14 => asNil l13 (.call 66 [(.pointer p0), (.string (bs [40]))] fun v15 => asTuple v15 fun l16 => asNil l16 (.call 64 [(.pointer p0), (.string (bs [41]))] fun v17 => asBool v17 fun b18 => bif b18 then (.call 142 [(.pointer p0)] fun v19 => asInt .i64 v19 fun i20 => .act (newC [(.int .i64 3), (.int .i64 0), (.string (bs [])), (.string (bs [])), (.slice none 0 0), (.int .i64 i11), (.int .i64 i20), (.slice none 0 0)]) fun v21 => asPtr v21 fun p22 => asSome p22 fun a23 => .ret .ret [(.pointer (some a23))]) else (.call 44 [(.pointer p0)] fun v24 => asPtr v24 fun p25 => .call 66 [(.pointer p0), (.string (bs [41]))] fun v26 => asTuple v26 fun l27 => asNil l27 (.ret .ret [(.pointer p25)]))))
theorem T140_eq (p0 : (Option Addr)) : progOf PROG false 140 [(.pointer p0)] = T140 p0 := by kernel_rfl


noncomputable def T141k0 (p0 : (Option Addr)) : Ex → List Value → Pg :=
  fun e60 l61 => sw e60 .normal (asNil l61 (.call 66 [(.pointer p0), (.string (bs [61]))] fun v62 => asTuple v62 fun l63 => asNil l63 (.call 44 [(.pointer p0)] fun v64 => asPtr v64 fun p65 => .act (bdSl 1 1 [(.pointer p65)]) fun v66 => asSlice v66 fun p67 n68 n69 => .act (apS 1 8 none 0 0 p67 n68 n69) fun v70 => asSlice v70 fun p71 n72 n73 => .call 66 [(.pointer p0), (.string (bs [105, 110]))] fun v74 => asTuple v74 fun l75 => asNil l75 (.call 44 [(.pointer p0)] fun v76 => asPtr v76 fun p77 => .act (bdSl 1 1 [(.pointer p77)]) fun v78 => asSlice v78 fun p79 n80 n81 => .act (apS 1 8 p71 n72 n73 p79 n80 n81) fun v82 => asSlice v82 fun p83 n84 n85 => .ret .normal [(.bool false), (.slice p83 n84 n85)])))) (.fail)

noncomputable def T141k1 (p0 : (Option Addr)) (a17 : Addr) : Ex → List Value → Pg :=
  fun e48 l49 => sw e48 .normal (asNil l49 (.call 65 [(.pointer p0), (.int .i64 2)] fun v50 => asStr v50 fun s51 => .act (stC (aadd a17 2) [(.string s51)]) fun v52 => asTuple v52 fun l53 => asNil l53 (.act (ld1 (aadd a17 0)) fun v54 => asInt .i64 v54 fun i55 => .join (bif (i55 == 9) then (.call 65 [(.pointer p0), (.int .i64 2)] fun v56 => asStr v56 fun s57 => .act (stC (aadd a17 3) [(.string s57)]) fun v58 => asTuple v58 fun l59 => asNil l59 (.ret .normal [])) else (.ret .normal [])) (T141k0 p0)))) (.fail)

noncomputable def T141k2 (p0 : (Option Addr)) : Ex → List Value → Pg :=
  fun e179 l180 => sw e179 .normal (asCons l180 fun v181 l182 => asSlice v181 fun p183 n184 n185 => asNil l182 (.call 64 [(.pointer p0), (.string (bs [124]))] fun v186 => asBool v186 fun b187 => .ret .normal [(.bool b187), (.slice p183 n184 n185)])) (.fail)

noncomputable def T141k3 (p0 : (Option Addr)) (p146 : (Option Addr)) (n147 : Nat) (n148 : Nat) (b143 : Bool) : Ex → List Value → Pg :=
  fun e152 l153 => sw e152 .normal (asCons l153 fun v154 l155 => asBool v154 fun b156 => asNil l155 (bif b156 then (.join (.call 143 [(.pointer p0)] fun v157 => asPtr v157 fun p158 => .act (bdSl 1 1 [(.pointer p158)]) fun v159 => asSlice v159 fun p160 n161 n162 => .act (apS 1 8 p146 n147 n148 p160 n161 n162) fun v163 => asSlice v163 fun p164 n165 n166 => .call 66 [(.pointer p0), (.string (bs [45, 62]))] fun v167 => asTuple v167 fun l168 => asNil l168 (.call 44 [(.pointer p0)] fun v169 => asPtr v169 fun p170 => .act (bdSl 1 1 [(.pointer p170)]) fun v171 => asSlice v171 fun p172 n173 n174 => .act (apS 1 8 p164 n165 n166 p172 n173 n174) fun v175 => asSlice v175 fun p176 n177 n178 => .ret .normal [(.slice p176 n177 n178)])) (T141k2 p0)) else (.ret (.exit 1) [(.bool b143), (.slice p146 n147 n148)]))) (.fail)

noncomputable def T141b0 (p0 : (Option Addr)) : List Value → Pg :=
  fun l140 => asCons l140 fun v141 l142 => asBool v141 fun b143 => asCons l142 fun v144 l145 => asSlice v144 fun p146 n147 n148 => asNil l145 (.join (bif b143 == true then (asSome p0 fun a149 => .act (ld1 (aadd a149 3)) fun v150 => asBool v150 fun b151 => .ret .normal [(.bool (!b151))]) else (.ret .normal [(.bool false)])) (T141k3 p0 p146 n147 n148 b143))

noncomputable def T141k4 (p0 : (Option Addr)) : Ex → List Value → Pg :=
  fun e188 l189 => sw e188 (.exit 1) (asCons l189 fun v190 l191 => asBool v190 fun b192 => asCons l191 fun v193 l194 => asSlice v193 fun p195 n196 n197 => asNil l194 (.call 66 [(.pointer p0), (.string (bs [101, 110, 100]))] fun v198 => asTuple v198 fun l199 => asNil l199 (.ret .normal [(.slice p195 n196 n197), (.bool true)]))) (.fail)

noncomputable def T141k5 : Ex → List Value → Pg :=
  fun e234 l235 => sw e234 .normal (asCons l235 fun v236 l237 => asSlice v236 fun p238 n239 n240 => asCons l237 fun v241 l242 => asBool v241 fun b243 => asNil l242 (.ret .normal [(.slice p238 n239 n240), (.bool b243)])) (.fail)

noncomputable def T141k6 : Ex → List Value → Pg :=
  fun e244 l245 => sw e244 .normal (asCons l245 fun v246 l247 => asSlice v246 fun p248 n249 n250 => asCons l247 fun v251 l252 => asBool v251 fun b253 => asNil l252 (.ret .normal [(.bool b253), (.slice p248 n249 n250)])) (.fail)

noncomputable def T141k7 : Ex → List Value → Pg :=
  fun e254 l255 => sw e254 .normal (asCons l255 fun v256 l257 => asBool v256 fun b258 => asCons l257 fun v259 l260 => asSlice v259 fun p261 n262 n263 => asNil l260 (.ret .normal [(.bool b258), (.slice p261 n262 n263)])) (.fail)

noncomputable def T141k8 : Ex → List Value → Pg :=
  fun e264 l265 => sw e264 .normal (asCons l265 fun v266 l267 => asBool v266 fun b268 => asCons l267 fun v269 l270 => asSlice v269 fun p271 n272 n273 => asNil l270 (.ret .normal [(.bool b268), (.slice p271 n272 n273)])) (.fail)

noncomputable def T141k9 : Ex → List Value → Pg :=
  fun e274 l275 => sw e274 .normal (asCons l275 fun v276 l277 => asBool v276 fun b278 => asCons l277 fun v279 l280 => asSlice v279 fun p281 n282 n283 => asNil l280 (.ret .normal [(.bool b278), (.slice p281 n282 n283)])) (.fail)

noncomputable def T141k10 (a17 : Addr) (p291 : (Option Addr)) (n292 : Nat) (n293 : Nat) : Ex → List Value → Pg :=
  fun e319 l320 => sw e319 .normal (asNil l320 (.act (ldN 7 a17) fun v321 => asAgg v321 fun l322 => asCons l322 fun v323 l324 => asInt .i64 v323 fun i325 => asCons l324 fun v326 l327 => asInt .i64 v326 fun i328 => asCons l327 fun v329 l330 => asStr v329 fun s331 => asCons l330 fun v332 l333 => asStr v332 fun s334 => asCons l333 fun v335 l336 => asSlice v335 fun p337 n338 n339 => asCons l336 fun v340 l341 => asInt .i64 v340 fun i342 => asCons l341 fun v343 l344 => asInt .i64 v343 fun i345 => asNil l344 (.act (newC [(.int .i64 i325), (.int .i64 i328), (.string s331), (.string s334), (.slice p337 n338 n339), (.int .i64 i342), (.int .i64 i345), (.slice p291 n292 n293)]) fun v346 => asPtr v346 fun p347 => asSome p347 fun a348 => .ret .ret [(.pointer (some a348))]))) (.fail)

noncomputable def T141k11 (p0 : (Option Addr)) (p291 : (Option Addr)) (n292 : Nat) (a17 : Addr) (b288 : Bool) (n293 : Nat) : Ex → List Value → Pg :=
  fun e297 l298 => sw e297 .normal (asCons l298 fun v299 l300 => asBool v299 fun b301 => asNil l300 (bif b301 then (asSome p0 fun a302 => .act (stC (aadd a302 3) [(.bool true)]) fun v303 => asTuple v303 fun l304 => asNil l304 (.call 136 [] fun v305 => asPtr v305 fun p306 => .ret .ret [(.pointer p306)])) else (asSome p291 fun a307 => grd ((decide (0 ≤ (wi64 (((n292 : Nat) : Int) - 1)))) && (decide ((wi64 (((n292 : Nat) : Int) - 1)) < ((n292 : Nat) : Int)))) (.act (ld1 (aadd a307 ((Int.toNat (wi64 (((n292 : Nat) : Int) - 1))) * 1))) fun v308 => asPtr v308 fun p309 => asSome p309 fun a310 => .act (ld1 (aadd (aadd a310 0) 6)) fun v311 => asInt .i64 v311 fun i312 => .act (stC (aadd a17 6) [(.int .i64 i312)]) fun v313 => asTuple v313 fun l314 => asNil l314 (.join (bif b288 then (.call 142 [(.pointer p0)] fun v315 => asInt .i64 v315 fun i316 => .act (stC (aadd a17 6) [(.int .i64 i316)]) fun v317 => asTuple v317 fun l318 => asNil l318 (.ret .normal [])) else (.ret .normal [])) (T141k10 a17 p291 n292 n293)))))) (.fail)

noncomputable def T141k12 (p0 : (Option Addr)) (a17 : Addr) : Ex → List Value → Pg :=
  fun e284 l285 => sw e284 .normal (asCons l285 fun v286 l287 => asBool v286 fun b288 => asCons l287 fun v289 l290 => asSlice v289 fun p291 n292 n293 => asNil l290 (.join (asSome p0 fun a294 => .act (ld1 (aadd a294 3)) fun v295 => asBool v295 fun b296 => bif b296 == false then (.ret .normal [(.bool (((n292 : Nat) : Int) == 0))]) else (.ret .normal [(.bool true)])) (T141k11 p0 p291 n292 a17 b288 n293))) (.fail)

/-- (*hindsight/hindsightref3.reader).long -/
noncomputable def T141 (p0 : (Option Addr)) : Pg :=
  .call 45 [(.pointer p0)] fun v1 => asAgg v1 fun l2 => asCons l2 fun v3 l4 => asInt .i64 v3 fun i5 => asCons l4 fun v6 l7 => asStr v6 fun s8 => asCons l7 fun v9 l10 => asInt .i64 v9 fun i11 => asCons l10 fun v12 l13 => asInt .i64 v12 fun i14 => asNil l13 (.act (newC [(.int .i64 0), (.int .i64 0), (.string (bs [])), (.string (bs [])), (.slice none 0 0), (.int .i64 0), (.int .i64 0)]) fun v15 => asPtr v15 fun p16 => asSome p16 fun a17 => .act (stC a17 [(.int .i64 0), (.int .i64 0), (.string (bs [])), (.string (bs [])), (.slice none 0 0), (.int .i64 i11), (.int .i64 0)]) fun v18 => asTuple v18 fun l19 => asNil l19 (.join (.call 64 [(.pointer p0), (.string (bs [102, 117, 110]))] fun v20 => asBool v20 fun b21 => .join (bif b21 then (.call 65 [(.pointer p0), (.int .i64 2)] fun v22 => asStr v22 fun s23 => .act (stC (aadd a17 0) [(.int .i64 6)]) fun v24 => asTuple v24 fun l25 => asNil l25 (.act (stC (aadd a17 3) [(.string s23)]) fun v26 => asTuple v26 fun l27 => asNil l27 (.call 66 [(.pointer p0), (.string (bs [45, 62]))] fun v28 => asTuple v28 fun l29 => asNil l29 (.call 44 [(.pointer p0)] fun v30 => asPtr v30 fun p31 => .act (bdSl 1 1 [(.pointer p31)]) fun v32 => asSlice v32 fun p33 n34 n35 => .act (apS 1 8 none 0 0 p33 n34 n35) fun v36 => asSlice v36 fun p37 n38 n39 => .ret .normal [(.bool false), (.slice p37 n38 n39)])))) else (.call 64 [(.pointer p0), (.string (bs [108, 101, 116]))] fun v40 => asBool v40 fun b41 => .join (bif b41 then (.act (stC (aadd a17 0) [(.int .i64 8)]) fun v42 => asTuple v42 fun l43 => asNil l43 (.call 64 [(.pointer p0), (.string (bs [114, 101, 99]))] fun v44 => asBool v44 fun b45 => .join (bif b45 then (.act (stC (aadd a17 0) [(.int .i64 9)]) fun v46 => asTuple v46 fun l47 => asNil l47 (.ret .normal [])) else (.ret .normal [])) (T141k1 p0 a17))) else (.call 64 [(.pointer p0), (.string (bs [105, 102]))] fun v86 => asBool v86 fun b87 => .join (bif b87 then (.act (stC (aadd a17 0) [(.int .i64 10)]) fun v88 => asTuple v88 fun l89 => asNil l89 (.call 44 [(.pointer p0)] fun v90 => asPtr v90 fun p91 => .act (bdSl 1 1 [(.pointer p91)]) fun v92 => asSlice v92 fun p93 n94 n95 => .act (apS 1 8 none 0 0 p93 n94 n95) fun v96 => asSlice v96 fun p97 n98 n99 => .call 66 [(.pointer p0), (.string (bs [116, 104, 101, 110]))] fun v100 => asTuple v100 fun l101 => asNil l101 (.call 44 [(.pointer p0)] fun v102 => asPtr v102 fun p103 => .act (bdSl 1 1 [(.pointer p103)]) fun v104 => asSlice v104 fun p105 n106 n107 => .act (apS 1 8 p97 n98 n99 p105 n106 n107) fun v108 => asSlice v108 fun p109 n110 n111 => .call 66 [(.pointer p0), (.string (bs [101, 108, 115, 101]))] fun v112 => asTuple v112 fun l113 => asNil l113 (.call 44 [(.pointer p0)] fun v114 => asPtr v114 fun p115 => .act (bdSl 1 1 [(.pointer p115)]) fun v116 => asSlice v116 fun p117 n118 n119 => .act (apS 1 8 p109 n110 n111 p117 n118 n119) fun v120 => asSlice v120 fun p121 n122 n123 => .ret .normal [(.bool false), (.slice p121 n122 n123)])))) else (.call 64 [(.pointer p0), (.string (bs [109, 97, 116, 99, 104]))] fun v124 => asBool v124 fun b125 => .join (bif b125 then (.act (stC (aadd a17 0) [(.int .i64 11)]) fun v126 => asTuple v126 fun l127 => asNil l127 (.call 44 [(.pointer p0)] fun v128 => asPtr v128 fun p129 => .act (bdSl 1 1 [(.pointer p129)]) fun v130 => asSlice v130 fun p131 n132 n133 => .act (apS 1 8 none 0 0 p131 n132 n133) fun v134 => asSlice v134 fun p135 n136 n137 => .call 66 [(.pointer p0), (.string (bs [119, 105, 116, 104]))] fun v138 => asTuple v138 fun l139 => asNil l139 (.loop [(.bool true), (.slice p135 n136 n137)] (T141b0 p0) (T141k4 p0)))) else (.call 64 [(.pointer p0), (.string (bs [116, 114, 121]))] fun v200 => asBool v200 fun b201 => .join (bif b201 then (.act (stC (aadd a17 0) [(.int .i64 20)]) fun v202 => asTuple v202 fun l203 => asNil l203 (.call 44 [(.pointer p0)] fun v204 => asPtr v204 fun p205 => .act (bdSl 1 1 [(.pointer p205)]) fun v206 => asSlice v206 fun p207 n208 n209 => .act (apS 1 8 none 0 0 p207 n208 n209) fun v210 => asSlice v210 fun p211 n212 n213 => .call 66 [(.pointer p0), (.string (bs [119, 105, 116, 104]))] fun v214 => asTuple v214 fun l215 => asNil l215 (.call 65 [(.pointer p0), (.int .i64 2)] fun v216 => asStr v216 fun s217 => .act (stC (aadd a17 3) [(.string s217)]) fun v218 => asTuple v218 fun l219 => asNil l219 (.call 66 [(.pointer p0), (.string (bs [45, 62]))] fun v220 => asTuple v220 fun l221 => asNil l221 (.call 44 [(.pointer p0)] fun v222 => asPtr v222 fun p223 => .act (bdSl 1 1 [(.pointer p223)]) fun v224 => asSlice v224 fun p225 n226 n227 => .act (apS 1 8 p211 n212 n213 p225 n226 n227) fun v228 => asSlice v228 fun p229 n230 n231 => .call 66 [(.pointer p0), (.string (bs [101, 110, 100]))] fun v232 => asTuple v232 fun l233 => asNil l233 (.ret .normal [(.slice p229 n230 n231), (.bool true)])))))) else (.ret .normal [(.slice none 0 0), (.bool false)])) (T141k5))) (T141k6))) (T141k7))) (T141k8))) (T141k9)) (T141k12 p0 a17)))
theorem T141_eq (p0 : (Option Addr)) : progOf PROG false 141 [(.pointer p0)] = T141 p0 := by kernel_rfl


/-- (*hindsight/hindsightref3.reader).last -/
noncomputable def T142 (p0 : (Option Addr)) : Pg :=
  asSome p0 fun a1 => .act (ld1 (aadd a1 0)) fun v2 => asSlice v2 fun p3 n4 n5 => asSome p0 fun a6 => .act (ld1 (aadd a6 1)) fun v7 => asInt .i64 v7 fun i8 => asSome p3 fun a9 => grd ((decide (0 ≤ (wi64 (i8 - 1)))) && (decide ((wi64 (i8 - 1)) < ((n4 : Nat) : Int)))) (.act (ld1 (aadd (aadd a9 ((Int.toNat (wi64 (i8 - 1))) * 4)) 3)) fun v10 => asInt .i64 v10 fun i11 => .ret .ret [(.int .i64 i11)])
theorem T142_eq (p0 : (Option Addr)) : progOf PROG false 142 [(.pointer p0)] = T142 p0 := by kernel_rfl


noncomputable def T143k0 : Ex → List Value → Pg :=
  fun e134 l135 => sw e134 .normal (asNil l135 (.ret .normal [])) (.fail)

noncomputable def T143b0 (p0 : (Option Addr)) (p90 : (Option Addr)) : List Value → Pg :=
  fun l111 => asNil l111 (.call 64 [(.pointer p0), (.string (bs [44]))] fun v112 => asBool v112 fun b113 => bif b113 then (.join (asSome p90 fun a114 => .act (ld1 (aadd a114 7)) fun v115 => asSlice v115 fun p116 n117 n118 => .call 143 [(.pointer p0)] fun v119 => asPtr v119 fun p120 => .get fun h133 => grd (chks [((ld1 (aadd a114 7)), v115)] h133) (.act (bdSl 1 1 [(.pointer p120)]) fun v121 => asSlice v121 fun p122 n123 n124 => .get fun h132 => grd (chks [((ld1 (aadd a114 7)), v115)] h132) (.act (apS 1 8 p116 n117 n118 p122 n123 n124) fun v125 => asSlice v125 fun p126 n127 n128 => asSome p90 fun a129 => .act (stC (aadd a129 7) [(.slice p126 n127 n128)]) fun v130 => asTuple v130 fun l131 => asNil l131 (.ret .normal [])))) (T143k0)) else (.ret (.exit 1) []))

noncomputable def T143k1 : Ex → List Value → Pg :=
  fun e148 l149 => sw e148 .normal (asNil l149 (.ret .normal [])) (.fail)

noncomputable def T143k2 (p0 : (Option Addr)) (p90 : (Option Addr)) : Ex → List Value → Pg :=
  fun e136 l137 => sw e136 (.exit 1) (asNil l137 (.call 66 [(.pointer p0), (.string (bs [41]))] fun v138 => asTuple v138 fun l139 => asNil l139 (asSome p0 fun a140 => .act (ld1 (aadd a140 3)) fun v141 => asBool v141 fun b142 => .join (bif (!b142) then (.call 142 [(.pointer p0)] fun v143 => asInt .i64 v143 fun i144 => asSome p90 fun a145 => .act (stC (aadd (aadd a145 0) 6) [(.int .i64 i144)]) fun v146 => asTuple v146 fun l147 => asNil l147 (.ret .normal [])) else (.ret .normal [])) (T143k1)))) (.fail)

noncomputable def T143k3 (p90 : (Option Addr)) : Ex → List Value → Pg :=
  fun e152 l153 => sw e152 .normal (asNil l153 (.ret .ret [(.pointer p90)])) (.fail)

noncomputable def T143k4 : Ex → List Value → Pg :=
  fun e154 l155 => sw e154 .ret (asCons l155 fun v156 l157 => asPtr v156 fun p158 => asNil l157 (.ret .ret [(.pointer p158)])) (sw e154 .normal (asCons l155 fun v159 l160 => asPtr v159 fun p161 => asNil l160 (.ret .normal [(.pointer p161)])) (.fail))

noncomputable def T143k5 (p0 : (Option Addr)) (a17 : Addr) : Ex → List Value → Pg :=
  fun e63 l64 => sw e63 .normal (asCons l64 fun v65 l66 => asBool v65 fun b67 => asNil l66 (bif b67 then (.call 137 [(.pointer p0), (.agg #[(.int .i64 24), (.int .i64 0), (.string (bs [])), (.string (bs [])), (.slice none 0 0), (.int .i64 0), (.int .i64 0)])] fun v68 => asPtr v68 fun p69 => .ret .ret [(.pointer p69)]) else (.call 64 [(.pointer p0), (.string (bs [40]))] fun v70 => asBool v70 fun b71 => .join (bif b71 then (.call 66 [(.pointer p0), (.string (bs [41]))] fun v72 => asTuple v72 fun l73 => asNil l73 (asSome p0 fun a74 => .act (ld1 (aadd a74 3)) fun v75 => asBool v75 fun b76 => bif (!b76) then (.act (ld1 (aadd a17 2)) fun v77 => asInt .i64 v77 fun i78 => .call 142 [(.pointer p0)] fun v79 => asInt .i64 v79 fun i80 => .get fun h84 => grd (chks [((ld1 (aadd a17 2)), v77)] h84) (.act (newC [(.int .i64 25), (.int .i64 0), (.string (bs [])), (.string (bs [])), (.slice none 0 0), (.int .i64 i78), (.int .i64 i80), (.slice none 0 0)]) fun v81 => asPtr v81 fun p82 => asSome p82 fun a83 => .ret .ret [(.pointer (some a83))])) else (.ret .normal [(.pointer none)]))) else (.act (ld1 (aadd a17 0)) fun v85 => asInt .i64 v85 fun i86 => bif (i86 == 3) then (.act (ld1 (aadd a17 1)) fun v87 => asStr v87 fun s88 => .call 137 [(.pointer p0), (.agg #[(.int .i64 26), (.int .i64 0), (.string s88), (.string (bs [])), (.slice none 0 0), (.int .i64 0), (.int .i64 0)])] fun v89 => asPtr v89 fun p90 => .call 64 [(.pointer p0), (.string (bs [40]))] fun v91 => asBool v91 fun b92 => .join (bif b92 then (asSome p90 fun a93 => .act (ld1 (aadd a93 7)) fun v94 => asSlice v94 fun p95 n96 n97 => .call 143 [(.pointer p0)] fun v98 => asPtr v98 fun p99 => .get fun h151 => grd (chks [((ld1 (aadd a93 7)), v94)] h151) (.act (bdSl 1 1 [(.pointer p99)]) fun v100 => asSlice v100 fun p101 n102 n103 => .get fun h150 => grd (chks [((ld1 (aadd a93 7)), v94)] h150) (.act (apS 1 8 p95 n96 n97 p101 n102 n103) fun v104 => asSlice v104 fun p105 n106 n107 => asSome p90 fun a108 => .act (stC (aadd a108 7) [(.slice p105 n106 n107)]) fun v109 => asTuple v109 fun l110 => asNil l110 (.loop [] (T143b0 p0 p90) (T143k2 p0 p90))))) else (.ret .normal [])) (T143k3 p90)) else (.ret .normal [(.pointer none)]))) (T143k4)))) (.fail)

noncomputable def T143k6 (p0 : (Option Addr)) (a17 : Addr) : Ex → List Value → Pg :=
  fun e52 l53 => sw e52 .normal (asCons l53 fun v54 l55 => asBool v54 fun b56 => asNil l55 (bif b56 then (.call 137 [(.pointer p0), (.agg #[(.int .i64 24), (.int .i64 1), (.string (bs [])), (.string (bs [])), (.slice none 0 0), (.int .i64 0), (.int .i64 0)])] fun v57 => asPtr v57 fun p58 => .ret .ret [(.pointer p58)]) else (.join (.act (ld1 (aadd a17 0)) fun v59 => asInt .i64 v59 fun i60 => bif (i60 == 4) == true then (.act (ld1 (aadd a17 1)) fun v61 => asStr v61 fun s62 => .ret .normal [(.bool (s62.toList == (bs [102, 97, 108, 115, 101]).toList))]) else (.ret .normal [(.bool false)])) (T143k5 p0 a17)))) (.fail)

noncomputable def T143k7 (p0 : (Option Addr)) (a17 : Addr) : Ex → List Value → Pg :=
  fun e27 l28 => sw e27 .normal (asCons l28 fun v29 l30 => asBool v29 fun b31 => asNil l30 (bif b31 then (.call 137 [(.pointer p0), (.agg #[(.int .i64 21), (.int .i64 0), (.string (bs [])), (.string (bs [])), (.slice none 0 0), (.int .i64 0), (.int .i64 0)])] fun v32 => asPtr v32 fun p33 => .ret .ret [(.pointer p33)]) else (.act (ld1 (aadd a17 0)) fun v34 => asInt .i64 v34 fun i35 => bif (i35 == 2) then (.act (ld1 (aadd a17 1)) fun v36 => asStr v36 fun s37 => .call 137 [(.pointer p0), (.agg #[(.int .i64 22), (.int .i64 0), (.string s37), (.string (bs [])), (.slice none 0 0), (.int .i64 0), (.int .i64 0)])] fun v38 => asPtr v38 fun p39 => .ret .ret [(.pointer p39)]) else (.act (ld1 (aadd a17 0)) fun v40 => asInt .i64 v40 fun i41 => bif (i41 == 1) then (.act (ld1 (aadd a17 1)) fun v42 => asStr v42 fun s43 => .call 138 [(.string s43)] fun v44 => asInt .i64 v44 fun i45 => .call 137 [(.pointer p0), (.agg #[(.int .i64 23), (.int .i64 i45), (.string (bs [])), (.string (bs [])), (.slice none 0 0), (.int .i64 0), (.int .i64 0)])] fun v46 => asPtr v46 fun p47 => .ret .ret [(.pointer p47)]) else (.join (.act (ld1 (aadd a17 0)) fun v48 => asInt .i64 v48 fun i49 => bif (i49 == 4) == true then (.act (ld1 (aadd a17 1)) fun v50 => asStr v50 fun s51 => .ret .normal [(.bool (s51.toList == (bs [116, 114, 117, 101]).toList))]) else (.ret .normal [(.bool false)])) (T143k6 p0 a17)))))) (.fail)

noncomputable def T143k8 : Ex → List Value → Pg :=
  fun e162 l163 => sw e162 .normal (asCons l163 fun v164 l165 => asPtr v164 fun p166 => asNil l165 (.ret .normal [(.pointer p166)])) (sw e162 .ret (asCons l163 fun v167 l168 => asPtr v167 fun p169 => asNil l168 (.ret .ret [(.pointer p169)])) (.fail))

noncomputable def T143k9 (p0 : (Option Addr)) : Ex → List Value → Pg :=
  fun e170 l171 => sw e170 .normal (asCons l171 fun v172 l173 => asPtr v172 fun p174 => asNil l173 (asSome p0 fun a175 => .act (stC (aadd a175 3) [(.bool true)]) fun v176 => asTuple v176 fun l177 => asNil l177 (.call 136 [] fun v178 => asPtr v178 fun p179 => .ret .ret [(.pointer p179)]))) (sw e170 .ret (asCons l171 fun v180 l181 => asPtr v180 fun p182 => asNil l181 (.ret .ret [(.pointer p182)])) (.fail))

/-- (*hindsight/hindsightref3.reader).pat -/
noncomputable def T143 (p0 : (Option Addr)) : Pg :=
  .call 45 [(.pointer p0)] fun v1 => asAgg v1 fun l2 => asCons l2 fun v3 l4 => asInt .i64 v3 fun i5 => asCons l4 fun v6 l7 => asStr v6 fun s8 => asCons l7 fun v9 l10 => asInt .i64 v9 fun i11 => asCons l10 fun v12 l13 => asInt .i64 v12 fun i14 => asNil l13 (.act (newC [(.int .i64 0), (.string (bs [])), (.int .i64 0), (.int .i64 0)]) fun v15 => asPtr v15 fun p16 => asSome p16 fun a17 => .act (stC a17 [(.int .i64 i5), (.string s8), (.int .i64 i11), (.int .i64 i14)]) fun v18 => asTuple v18 fun l19 => asNil l19 (.join (asSome p0 fun a20 => .act (ld1 (aadd a20 3)) fun v21 => asBool v21 fun b22 => .join (bif b22 then (.ret .normal [(.pointer none)]) else (.join (.act (ld1 (aadd a17 0)) fun v23 => asInt .i64 v23 fun i24 => bif (i24 == 2) == true then (.act (ld1 (aadd a17 1)) fun v25 => asStr v25 fun s26 => .ret .normal [(.bool (s26.toList == (bs [95]).toList))]) else (.ret .normal [(.bool false)])) (T143k7 p0 a17))) (T143k8)) (T143k9 p0)))
theorem T143_eq (p0 : (Option Addr)) : progOf PROG false 143 [(.pointer p0)] = T143 p0 := by kernel_rfl

end Go.Pg
