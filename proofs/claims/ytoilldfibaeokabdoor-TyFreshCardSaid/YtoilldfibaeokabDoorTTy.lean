/- The trees of the functions that the laws reach, written out by program; each is shown to be the function's own; then their table. -/
import Derived.Test.YtoilldfibaeokabDoorProg
import Derived.KernelRfl
import Derived.Test.YtoilldfibaeokabDoorPg3
namespace Go.Pg
open Go.Proofs
set_option linter.unusedVariables false
set_option maxRecDepth 100000
noncomputable abbrev PROG : Program := Tryd.prog
noncomputable def T3k0 (b14 : Bool) : Ex → List Value → Pg :=
  fun e122 l123 => sw e122 .normal (asCons l123 fun v124 l125 => asBool v124 fun b126 => asNil l125 (bif b126 then (.ret .ret [(.bool false)]) else (.ret .normal [(.bool b14)]))) (.fail)

noncomputable def T3k1 (i11 : Int) : Ex → List Value → Pg :=
  fun e127 l128 => sw e127 .ret (asCons l128 fun v129 l130 => asBool v129 fun b131 => asNil l130 (.ret .ret [(.int .i64 i11), (.bool b131)])) (sw e127 .normal (asCons l128 fun v132 l133 => asBool v132 fun b134 => asNil l133 (.ret .normal [(.int .i64 (wi64 (i11 + 1))), (.bool b134)])) (.fail))

noncomputable def T3b0 (i3 : Int) (p7 : (Option Addr)) : List Value → Pg :=
  fun l8 => asCons l8 fun v9 l10 => asInt .i64 v9 fun i11 => asCons l10 fun v12 l13 => asBool v12 fun b14 => asNil l13 (bif (decide (i11 < i3)) then (.join (.call 6 [(.pointer p7)] fun v15 => asAgg v15 fun l16 => asCons l16 fun v17 l18 => asInt .i64 v17 fun i19 => asCons l18 fun v20 l21 => asStr v20 fun s22 => asCons l21 fun v23 l24 => asInt .i64 v23 fun i25 => asCons l24 fun v26 l27 => asSlice v26 fun p28 n29 n30 => asNil l27 (.act (newC [(.int .i64 0), (.string (bs [])), (.int .i64 0), (.slice none 0 0)]) fun v31 => asPtr v31 fun p32 => asSome p32 fun a33 => .act (stC a33 [(.int .i64 i19), (.string s22), (.int .i64 i25), (.slice p28 n29 n30)]) fun v34 => asTuple v34 fun l35 => asNil l35 (.join (.act (ldN 4 a33) fun v36 => asAgg v36 fun l37 => asCons l37 fun v38 l39 => asInt .i64 v38 fun i40 => asCons l39 fun v41 l42 => asStr v41 fun s43 => asCons l42 fun v44 l45 => asInt .i64 v44 fun i46 => asCons l45 fun v47 l48 => asSlice v47 fun p49 n50 n51 => asNil l48 (.call 8 [(.int .i64 i11)] fun v52 => asAgg v52 fun l53 => asCons l53 fun v54 l55 => asInt .i64 v54 fun i56 => asCons l55 fun v57 l58 => asStr v57 fun s59 => asCons l58 fun v60 l61 => asInt .i64 v60 fun i62 => asCons l61 fun v63 l64 => asSlice v63 fun p65 n66 n67 => asNil l64 (.get fun h121 => grd (chks [((ldN 4 a33), v36)] h121) (.call 7 [(.agg #[(.int .i64 i40), (.string s43), (.int .i64 i46), (.slice p49 n50 n51)]), (.agg #[(.int .i64 i56), (.string s59), (.int .i64 i62), (.slice p65 n66 n67)])] fun v68 => asBool v68 fun b69 => bif (!b69) == false then (.act (ldN 4 a33) fun v70 => asAgg v70 fun l71 => asCons l71 fun v72 l73 => asInt .i64 v72 fun i74 => asCons l73 fun v75 l76 => asStr v75 fun s77 => asCons l76 fun v78 l79 => asInt .i64 v78 fun i80 => asCons l79 fun v81 l82 => asSlice v81 fun p83 n84 n85 => asNil l82 (.get fun h87 => .call 9 [(.pointer p7), (.agg #[(.int .i64 i74), (.string s77), (.int .i64 i80), (.slice p83 n84 n85)])] fun v86 => asAgg v86 fun l88 => asCons l88 fun v89 l90 => asInt .i64 v89 fun i91 => asCons l90 fun v92 l93 => asStr v92 fun s94 => asCons l93 fun v95 l96 => asInt .i64 v95 fun i97 => asCons l96 fun v98 l99 => asSlice v98 fun p100 n101 n102 => asNil l99 (.act (ldN 4 a33) fun v103 => grd (past (ldN 4 a33) v103 [h87]) (asAgg v103 fun l104 => asCons l104 fun v105 l106 => asInt .i64 v105 fun i107 => asCons l106 fun v108 l109 => asStr v108 fun s110 => asCons l109 fun v111 l112 => asInt .i64 v111 fun i113 => asCons l112 fun v114 l115 => asSlice v114 fun p116 n117 n118 => asNil l115 (.call 7 [(.agg #[(.int .i64 i91), (.string s94), (.int .i64 i97), (.slice p100 n101 n102)]), (.agg #[(.int .i64 i107), (.string s110), (.int .i64 i113), (.slice p116 n117 n118)])] fun v119 => asBool v119 fun b120 => .ret .normal [(.bool (!b120))]))))) else (.ret .normal [(.bool true)]))))) (T3k0 b14)))) (T3k1 i11)) else (.ret (.exit 0) [(.int .i64 i11), (.bool b14)]))

noncomputable def T3k2 (p0 : (Option Addr)) (i146 : Int) (n1 : Nat) (p7 : (Option Addr)) (b149 : Bool) : Ex → List Value → Pg :=
  fun e188 l189 => sw e188 .normal (asCons l189 fun v190 l191 => asBool v190 fun b192 => asNil l191 (bif b192 then (.ret .ret [(.bool true)]) else (asSome p0 fun a193 => grd ((decide (0 ≤ i146)) && (decide (i146 < ((n1 : Nat) : Int)))) (.act (ldN 4 (aadd a193 ((Int.toNat i146) * 4))) fun v194 => asAgg v194 fun l195 => asCons l195 fun v196 l197 => asInt .i64 v196 fun i198 => asCons l197 fun v199 l200 => asStr v199 fun s201 => asCons l200 fun v202 l203 => asInt .i64 v202 fun i204 => asCons l203 fun v205 l206 => asSlice v205 fun p207 n208 n209 => asNil l206 (asSome p0 fun a210 => grd ((decide (0 ≤ (wi64 (i146 + 1)))) && (decide ((wi64 (i146 + 1)) < ((n1 : Nat) : Int)))) (.act (ldN 4 (aadd a210 ((Int.toNat (wi64 (i146 + 1))) * 4))) fun v211 => asAgg v211 fun l212 => asCons l212 fun v213 l214 => asInt .i64 v213 fun i215 => asCons l214 fun v216 l217 => asStr v216 fun s218 => asCons l217 fun v219 l220 => asInt .i64 v219 fun i221 => asCons l220 fun v222 l223 => asSlice v222 fun p224 n225 n226 => asNil l223 (.call 11 [(.pointer p7), (.agg #[(.int .i64 i198), (.string s201), (.int .i64 i204), (.slice p207 n208 n209)]), (.agg #[(.int .i64 i215), (.string s218), (.int .i64 i221), (.slice p224 n225 n226)])] fun v227 => asInt .i64 v227 fun i228 => .ret .normal [(.bool b149)]))))))) (.fail)

noncomputable def T3k3 (i146 : Int) : Ex → List Value → Pg :=
  fun e229 l230 => sw e229 .ret (asCons l230 fun v231 l232 => asBool v231 fun b233 => asNil l232 (.ret .ret [(.int .i64 i146), (.bool b233)])) (sw e229 .normal (asCons l230 fun v234 l235 => asBool v234 fun b236 => asNil l235 (.ret .normal [(.int .i64 (wi64 (i146 + 2))), (.bool b236)])) (.fail))

noncomputable def T3b1 (n1 : Nat) (p0 : (Option Addr)) (p7 : (Option Addr)) : List Value → Pg :=
  fun l143 => asCons l143 fun v144 l145 => asInt .i64 v144 fun i146 => asCons l145 fun v147 l148 => asBool v147 fun b149 => asNil l148 (bif (decide ((wi64 (i146 + 1)) < ((n1 : Nat) : Int))) then (.join (.join (asSome p0 fun a150 => grd ((decide (0 ≤ i146)) && (decide (i146 < ((n1 : Nat) : Int)))) (.act (ldN 4 (aadd a150 ((Int.toNat i146) * 4))) fun v151 => asAgg v151 fun l152 => asCons l152 fun v153 l154 => asInt .i64 v153 fun i155 => asCons l154 fun v156 l157 => asStr v156 fun s158 => asCons l157 fun v159 l160 => asInt .i64 v159 fun i161 => asCons l160 fun v162 l163 => asSlice v162 fun p164 n165 n166 => asNil l163 (.call 10 [(.agg #[(.int .i64 i155), (.string s158), (.int .i64 i161), (.slice p164 n165 n166)]), (.int .i64 64)] fun v167 => asBool v167 fun b168 => bif (!b168) == false then (asSome p0 fun a169 => grd ((decide (0 ≤ (wi64 (i146 + 1)))) && (decide ((wi64 (i146 + 1)) < ((n1 : Nat) : Int)))) (.act (ldN 4 (aadd a169 ((Int.toNat (wi64 (i146 + 1))) * 4))) fun v170 => asAgg v170 fun l171 => asCons l171 fun v172 l173 => asInt .i64 v172 fun i174 => asCons l173 fun v175 l176 => asStr v175 fun s177 => asCons l176 fun v178 l179 => asInt .i64 v178 fun i180 => asCons l179 fun v181 l182 => asSlice v181 fun p183 n184 n185 => asNil l182 (.call 10 [(.agg #[(.int .i64 i174), (.string s177), (.int .i64 i180), (.slice p183 n184 n185)]), (.int .i64 64)] fun v186 => asBool v186 fun b187 => .ret .normal [(.bool (!b187))]))) else (.ret .normal [(.bool true)])))) (T3k2 p0 i146 n1 p7 b149)) (T3k3 i146)) else (.ret (.exit 2) [(.int .i64 i146), (.bool b149)]))

noncomputable def T3k4 (p7 : (Option Addr)) (i3 : Int) : Ex → List Value → Pg :=
  fun e237 l238 => sw e237 (.exit 2) (asCons l238 fun v239 l240 => asInt .i64 v239 fun i241 => asCons l240 fun v242 l243 => asBool v242 fun b244 => asNil l243 (.call 6 [(.pointer p7)] fun v245 => asAgg v245 fun l246 => asCons l246 fun v247 l248 => asInt .i64 v247 fun i249 => asCons l248 fun v250 l251 => asStr v250 fun s252 => asCons l251 fun v253 l254 => asInt .i64 v253 fun i255 => asCons l254 fun v256 l257 => asSlice v256 fun p258 n259 n260 => asNil l257 (.call 8 [(.int .i64 i3)] fun v261 => asAgg v261 fun l262 => asCons l262 fun v263 l264 => asInt .i64 v263 fun i265 => asCons l264 fun v266 l267 => asStr v266 fun s268 => asCons l267 fun v269 l270 => asInt .i64 v269 fun i271 => asCons l270 fun v272 l273 => asSlice v272 fun p274 n275 n276 => asNil l273 (.call 7 [(.agg #[(.int .i64 i249), (.string s252), (.int .i64 i255), (.slice p258 n259 n260)]), (.agg #[(.int .i64 i265), (.string s268), (.int .i64 i271), (.slice p274 n275 n276)])] fun v277 => asBool v277 fun b278 => .ret .ret [(.bool b278)])))) (sw e237 .ret (asCons l238 fun v279 l280 => asInt .i64 v279 fun i281 => asCons l280 fun v282 l283 => asBool v282 fun b284 => asNil l283 (.ret .ret [(.bool b284)])) (.fail))

noncomputable def T3k5 (n1 : Nat) (p0 : (Option Addr)) (p7 : (Option Addr)) (i3 : Int) : Ex → List Value → Pg :=
  fun e135 l136 => sw e135 (.exit 0) (asCons l136 fun v137 l138 => asInt .i64 v137 fun i139 => asCons l138 fun v140 l141 => asBool v140 fun b142 => asNil l141 (.loop [(.int .i64 0), (.bool b142)] (T3b1 n1 p0 p7) (T3k4 p7 i3))) (sw e135 .ret (asCons l136 fun v285 l286 => asInt .i64 v285 fun i287 => asCons l286 fun v288 l289 => asBool v288 fun b290 => asNil l289 (.ret .ret [(.bool b290)])) (.fail))

/-- hindsight/hindsightlaw5.TyFresh -/
noncomputable def T3 (p0 : (Option Addr)) (n1 : Nat) (n2 : Nat) (i3 : Int) : Pg :=
  .call 4 [] fun v4 => asBool v4 fun b5 => bif (!b5) then (.ret .ret [(.bool false)]) else (bif (((decide (((n1 : Nat) : Int) > 12)) || (decide (i3 < 0))) || (decide (i3 > 50))) then (.ret .ret [(.bool true)]) else (.call 5 [] fun v6 => asPtr v6 fun p7 => .loop [(.int .i64 0), (.bool false)] (T3b0 i3 p7) (T3k5 n1 p0 p7 i3)))
theorem T3_eq (p0 : (Option Addr)) (n1 : Nat) (n2 : Nat) (i3 : Int) : progOf PROG false 3 [(.slice p0 n1 n2), (.int .i64 i3)] = T3 p0 n1 n2 i3 := by kernel_rfl


noncomputable def T4k0 : Ex → List Value → Pg :=
  fun e204 l205 => sw e204 .normal (asCons l205 fun v206 l207 => asBool v206 fun b208 => asNil l207 (.ret .ret [(.bool b208)])) (.fail)

/-- hindsight/hindsightlaw5.awake -/
noncomputable def T4 : Pg :=
  .call 5 [] fun v0 => asPtr v0 fun p1 => bif (Option.isNone p1) then (.ret .ret [(.bool false)]) else (.call 8 [(.int .i64 0)] fun v2 => asAgg v2 fun l3 => asCons l3 fun v4 l5 => asInt .i64 v4 fun i6 => asCons l5 fun v7 l8 => asStr v7 fun s9 => asCons l8 fun v10 l11 => asInt .i64 v10 fun i12 => asCons l11 fun v13 l14 => asSlice v13 fun p15 n16 n17 => asNil l14 (.call 12 [(.agg #[(.int .i64 i6), (.string s9), (.int .i64 i12), (.slice p15 n16 n17)]), (.agg #[(.int .i64 1), (.string (bs [])), (.int .i64 0), (.slice none 0 0)])] fun v18 => asAgg v18 fun l19 => asCons l19 fun v20 l21 => asInt .i64 v20 fun i22 => asCons l21 fun v23 l24 => asStr v23 fun s25 => asCons l24 fun v26 l27 => asInt .i64 v26 fun i28 => asCons l27 fun v29 l30 => asSlice v29 fun p31 n32 n33 => asNil l30 (.call 8 [(.int .i64 1)] fun v34 => asAgg v34 fun l35 => asCons l35 fun v36 l37 => asInt .i64 v36 fun i38 => asCons l37 fun v39 l40 => asStr v39 fun s41 => asCons l40 fun v42 l43 => asInt .i64 v42 fun i44 => asCons l43 fun v45 l46 => asSlice v45 fun p47 n48 n49 => asNil l46 (.call 12 [(.agg #[(.int .i64 2), (.string (bs [])), (.int .i64 0), (.slice none 0 0)]), (.agg #[(.int .i64 i38), (.string s41), (.int .i64 i44), (.slice p47 n48 n49)])] fun v50 => asAgg v50 fun l51 => asCons l51 fun v52 l53 => asInt .i64 v52 fun i54 => asCons l53 fun v55 l56 => asStr v55 fun s57 => asCons l56 fun v58 l59 => asInt .i64 v58 fun i60 => asCons l59 fun v61 l62 => asSlice v61 fun p63 n64 n65 => asNil l62 (.call 11 [(.pointer p1), (.agg #[(.int .i64 i22), (.string s25), (.int .i64 i28), (.slice p31 n32 n33)]), (.agg #[(.int .i64 i54), (.string s57), (.int .i64 i60), (.slice p63 n64 n65)])] fun v66 => asInt .i64 v66 fun i67 => .join (bif (i67 == 0) == true then (.call 8 [(.int .i64 0)] fun v68 => asAgg v68 fun l69 => asCons l69 fun v70 l71 => asInt .i64 v70 fun i72 => asCons l71 fun v73 l74 => asStr v73 fun s75 => asCons l74 fun v76 l77 => asInt .i64 v76 fun i78 => asCons l77 fun v79 l80 => asSlice v79 fun p81 n82 n83 => asNil l80 (.call 9 [(.pointer p1), (.agg #[(.int .i64 i72), (.string s75), (.int .i64 i78), (.slice p81 n82 n83)])] fun v84 => asAgg v84 fun l85 => asCons l85 fun v86 l87 => asInt .i64 v86 fun i88 => asCons l87 fun v89 l90 => asStr v89 fun s91 => asCons l90 fun v92 l93 => asInt .i64 v92 fun i94 => asCons l93 fun v95 l96 => asSlice v95 fun p97 n98 n99 => asNil l96 (.call 13 [(.agg #[(.int .i64 i88), (.string s91), (.int .i64 i94), (.slice p97 n98 n99)])] fun v100 => asStr v100 fun s101 => bif (s101.toList == (bs [98, 111, 111, 108]).toList) == true then (.call 8 [(.int .i64 1)] fun v102 => asAgg v102 fun l103 => asCons l103 fun v104 l105 => asInt .i64 v104 fun i106 => asCons l105 fun v107 l108 => asStr v107 fun s109 => asCons l108 fun v110 l111 => asInt .i64 v110 fun i112 => asCons l111 fun v113 l114 => asSlice v113 fun p115 n116 n117 => asNil l114 (.call 9 [(.pointer p1), (.agg #[(.int .i64 i106), (.string s109), (.int .i64 i112), (.slice p115 n116 n117)])] fun v118 => asAgg v118 fun l119 => asCons l119 fun v120 l121 => asInt .i64 v120 fun i122 => asCons l121 fun v123 l124 => asStr v123 fun s125 => asCons l124 fun v126 l127 => asInt .i64 v126 fun i128 => asCons l127 fun v129 l130 => asSlice v129 fun p131 n132 n133 => asNil l130 (.call 13 [(.agg #[(.int .i64 i122), (.string s125), (.int .i64 i128), (.slice p131 n132 n133)])] fun v134 => asStr v134 fun s135 => bif (s135.toList == (bs [105, 110, 116]).toList) == true then (.call 8 [(.int .i64 0)] fun v136 => asAgg v136 fun l137 => asCons l137 fun v138 l139 => asInt .i64 v138 fun i140 => asCons l139 fun v141 l142 => asStr v141 fun s143 => asCons l142 fun v144 l145 => asInt .i64 v144 fun i146 => asCons l145 fun v147 l148 => asSlice v147 fun p149 n150 n151 => asNil l148 (.call 14 [(.agg #[(.int .i64 i140), (.string s143), (.int .i64 i146), (.slice p149 n150 n151)])] fun v152 => asBool v152 fun b153 => bif b153 == true then (.call 8 [(.int .i64 7)] fun v154 => asAgg v154 fun l155 => asCons l155 fun v156 l157 => asInt .i64 v156 fun i158 => asCons l157 fun v159 l160 => asStr v159 fun s161 => asCons l160 fun v162 l163 => asInt .i64 v162 fun i164 => asCons l163 fun v165 l166 => asSlice v165 fun p167 n168 n169 => asNil l166 (.call 8 [(.int .i64 3)] fun v170 => asAgg v170 fun l171 => asCons l171 fun v172 l173 => asInt .i64 v172 fun i174 => asCons l173 fun v175 l176 => asStr v175 fun s177 => asCons l176 fun v178 l179 => asInt .i64 v178 fun i180 => asCons l179 fun v181 l182 => asSlice v181 fun p183 n184 n185 => asNil l182 (.call 12 [(.agg #[(.int .i64 i158), (.string s161), (.int .i64 i164), (.slice p167 n168 n169)]), (.agg #[(.int .i64 i174), (.string s177), (.int .i64 i180), (.slice p183 n184 n185)])] fun v186 => asAgg v186 fun l187 => asCons l187 fun v188 l189 => asInt .i64 v188 fun i190 => asCons l189 fun v191 l192 => asStr v191 fun s193 => asCons l192 fun v194 l195 => asInt .i64 v194 fun i196 => asCons l195 fun v197 l198 => asSlice v197 fun p199 n200 n201 => asNil l198 (.call 13 [(.agg #[(.int .i64 i190), (.string s193), (.int .i64 i196), (.slice p199 n200 n201)])] fun v202 => asStr v202 fun s203 => .ret .normal [(.bool (s203.toList == (bs [40, 39, 97, 32, 45, 62, 32, 39, 98, 41]).toList))])))) else (.ret .normal [(.bool false)]))) else (.ret .normal [(.bool false)])))) else (.ret .normal [(.bool false)])))) else (.ret .normal [(.bool false)])) (T4k0))))))
theorem T4_eq : progOf PROG false 4 [] = T4 := by kernel_rfl


/-- hindsight/ty.New -/
noncomputable def T5 : Pg :=
  .act makeMapAct fun v0 => asMap v0 fun m1 => .act (newC [(.int .i64 0), (.map m1)]) fun v2 => asPtr v2 fun p3 => asSome p3 fun a4 => .ret .ret [(.pointer (some a4))]
theorem T5_eq : progOf PROG false 5 [] = T5 := by kernel_rfl


/-- (*hindsight/ty.Sub).Fresh -/
noncomputable def T6 (p0 : (Option Addr)) : Pg :=
  .act (newC [(.int .i64 0), (.string (bs [])), (.int .i64 0), (.slice none 0 0)]) fun v1 => asPtr v1 fun p2 => asSome p2 fun a3 => asSome p0 fun a4 => .act (ld1 (aadd a4 0)) fun v5 => asInt .i64 v5 fun i6 => .act (newC [(.int .i64 0), (.string (bs [])), (.int .i64 0), (.slice none 0 0)]) fun v7 => asPtr v7 fun p8 => asSome p8 fun a9 => .act (stC a9 [(.int .i64 7), (.string (bs [])), (.int .i64 i6), (.slice none 0 0)]) fun v10 => asTuple v10 fun l11 => asNil l11 (asSome p0 fun a12 => .act (ld1 (aadd a12 0)) fun v13 => asInt .i64 v13 fun i14 => asSome p0 fun a15 => .act (stC (aadd a15 0) [(.int .i64 (minV (wi64 (i14 + 1)) 1999))]) fun v16 => asTuple v16 fun l17 => asNil l17 (.act (ldN 4 a9) fun v18 => asAgg v18 fun l19 => asCons l19 fun v20 l21 => asInt .i64 v20 fun i22 => asCons l21 fun v23 l24 => asStr v23 fun s25 => asCons l24 fun v26 l27 => asInt .i64 v26 fun i28 => asCons l27 fun v29 l30 => asSlice v29 fun p31 n32 n33 => asNil l30 (.act (stC a3 [(.int .i64 i22), (.string s25), (.int .i64 i28), (.slice p31 n32 n33)]) fun v34 => asTuple v34 fun l35 => asNil l35 (.act (ldN 4 a3) fun v36 => .ret .ret [v36]))))
theorem T6_eq (p0 : (Option Addr)) : progOf PROG false 6 [(.pointer p0)] = T6 p0 := by kernel_rfl


noncomputable def T7k0 (i50 : Int) : Ex → List Value → Pg :=
  fun e98 l99 => sw e98 .ret (asCons l99 fun v100 l101 => asBool v100 fun b102 => asNil l101 (.ret .ret [(.int .i64 i50), (.bool b102)])) (sw e98 .normal (asCons l99 fun v103 l104 => asBool v103 fun b105 => asNil l104 (.ret .normal [(.int .i64 (wi64 (i50 + 1))), (.bool b105)])) (.fail))

noncomputable def T7b0 (n45 : Nat) (a14 : Addr) (a17 : Addr) : List Value → Pg :=
  fun l47 => asCons l47 fun v48 l49 => asInt .i64 v48 fun i50 => asCons l49 fun v51 l52 => asBool v51 fun b53 => asNil l52 (bif (decide (i50 < ((n45 : Nat) : Int))) then (.join (.act (ld1 (aadd a14 3)) fun v54 => asSlice v54 fun p55 n56 n57 => asSome p55 fun a58 => grd ((decide (0 ≤ i50)) && (decide (i50 < ((n56 : Nat) : Int)))) (.act (ldN 4 (aadd a58 ((Int.toNat i50) * 4))) fun v59 => asAgg v59 fun l60 => asCons l60 fun v61 l62 => asInt .i64 v61 fun i63 => asCons l62 fun v64 l65 => asStr v64 fun s66 => asCons l65 fun v67 l68 => asInt .i64 v67 fun i69 => asCons l68 fun v70 l71 => asSlice v70 fun p72 n73 n74 => asNil l71 (.act (ld1 (aadd a17 3)) fun v75 => asSlice v75 fun p76 n77 n78 => asSome p76 fun a79 => grd ((decide (0 ≤ i50)) && (decide (i50 < ((n77 : Nat) : Int)))) (.act (ldN 4 (aadd a79 ((Int.toNat i50) * 4))) fun v80 => asAgg v80 fun l81 => asCons l81 fun v82 l83 => asInt .i64 v82 fun i84 => asCons l83 fun v85 l86 => asStr v85 fun s87 => asCons l86 fun v88 l89 => asInt .i64 v88 fun i90 => asCons l89 fun v91 l92 => asSlice v91 fun p93 n94 n95 => asNil l92 (.call 7 [(.agg #[(.int .i64 i63), (.string s66), (.int .i64 i69), (.slice p72 n73 n74)]), (.agg #[(.int .i64 i84), (.string s87), (.int .i64 i90), (.slice p93 n94 n95)])] fun v96 => asBool v96 fun b97 => bif (!b97) then (.ret .ret [(.bool false)]) else (.ret .normal [(.bool b53)])))))) (T7k0 i50)) else (.ret (.exit 0) [(.int .i64 i50), (.bool b53)]))

noncomputable def T7k1 : Ex → List Value → Pg :=
  fun e106 l107 => sw e106 (.exit 0) (asCons l107 fun v108 l109 => asInt .i64 v108 fun i110 => asCons l109 fun v111 l112 => asBool v111 fun b113 => asNil l112 (.ret .ret [(.bool true)])) (sw e106 .ret (asCons l107 fun v114 l115 => asInt .i64 v114 fun i116 => asCons l115 fun v117 l118 => asBool v117 fun b119 => asNil l118 (.ret .ret [(.bool b119)])) (.fail))

noncomputable def T7k2 (a14 : Addr) (a17 : Addr) : Ex → List Value → Pg :=
  fun e38 l39 => sw e38 .normal (asCons l39 fun v40 l41 => asBool v40 fun b42 => asNil l41 (bif b42 then (.ret .ret [(.bool false)]) else (.act (ld1 (aadd a14 3)) fun v43 => asSlice v43 fun p44 n45 n46 => .loop [(.int .i64 0), (.bool false)] (T7b0 n45 a14 a17) (T7k1)))) (.fail)

/-- hindsight/ty.Same -/
noncomputable def T7 (i0 : Int) (s1 : ByteArray) (i2 : Int) (p3 : (Option Addr)) (n4 : Nat) (n5 : Nat) (i6 : Int) (s7 : ByteArray) (i8 : Int) (p9 : (Option Addr)) (n10 : Nat) (n11 : Nat) : Pg :=
  .act (newC [(.int .i64 i0), (.string s1), (.int .i64 i2), (.slice p3 n4 n5)]) fun v12 => asPtr v12 fun p13 => asSome p13 fun a14 => .act (newC [(.int .i64 i6), (.string s7), (.int .i64 i8), (.slice p9 n10 n11)]) fun v15 => asPtr v15 fun p16 => asSome p16 fun a17 => .join (.act (ld1 (aadd a14 0)) fun v18 => asInt .i64 v18 fun i19 => .act (ld1 (aadd a17 0)) fun v20 => asInt .i64 v20 fun i21 => bif (i19 != i21) == false then (.act (ld1 (aadd a14 1)) fun v22 => asStr v22 fun s23 => .act (ld1 (aadd a17 1)) fun v24 => asStr v24 fun s25 => bif (!(s23.toList == s25.toList)) == false then (.act (ld1 (aadd a14 2)) fun v26 => asInt .i64 v26 fun i27 => .act (ld1 (aadd a17 2)) fun v28 => asInt .i64 v28 fun i29 => bif (i27 != i29) == false then (.act (ld1 (aadd a14 3)) fun v30 => asSlice v30 fun p31 n32 n33 => .act (ld1 (aadd a17 3)) fun v34 => asSlice v34 fun p35 n36 n37 => .ret .normal [(.bool (((n32 : Nat) : Int) != ((n36 : Nat) : Int)))]) else (.ret .normal [(.bool true)])) else (.ret .normal [(.bool true)])) else (.ret .normal [(.bool true)])) (T7k2 a14 a17)
theorem T7_eq (i0 : Int) (s1 : ByteArray) (i2 : Int) (p3 : (Option Addr)) (n4 : Nat) (n5 : Nat) (i6 : Int) (s7 : ByteArray) (i8 : Int) (p9 : (Option Addr)) (n10 : Nat) (n11 : Nat) : progOf PROG false 7 [(.agg #[(.int .i64 i0), (.string s1), (.int .i64 i2), (.slice p3 n4 n5)]), (.agg #[(.int .i64 i6), (.string s7), (.int .i64 i8), (.slice p9 n10 n11)])] = T7 i0 s1 i2 p3 n4 n5 i6 s7 i8 p9 n10 n11 := by kernel_rfl


/-- hindsight/hindsightlaw5.v -/
noncomputable def T8 (i0 : Int) : Pg :=
  .act (newC [(.int .i64 0), (.string (bs [])), (.int .i64 0), (.slice none 0 0)]) fun v1 => asPtr v1 fun p2 => asSome p2 fun a3 => .act (stC a3 [(.int .i64 7), (.string (bs [])), (.int .i64 i0), (.slice none 0 0)]) fun v4 => asTuple v4 fun l5 => asNil l5 (.act (ldN 4 a3) fun v6 => .ret .ret [v6])
theorem T8_eq (i0 : Int) : progOf PROG false 8 [(.int .i64 i0)] = T8 i0 := by kernel_rfl


/-- (*hindsight/ty.Sub).Apply -/
noncomputable def T9 (p0 : (Option Addr)) (i1 : Int) (s2 : ByteArray) (i3 : Int) (p4 : (Option Addr)) (n5 : Nat) (n6 : Nat) : Pg :=
  .act (newC [(.int .i64 i1), (.string s2), (.int .i64 i3), (.slice p4 n5 n6)]) fun v7 => asPtr v7 fun p8 => asSome p8 fun a9 => .act (newC [(.int .i64 0), (.string (bs [])), (.int .i64 0), (.slice none 0 0)]) fun v10 => asPtr v10 fun p11 => asSome p11 fun a12 => .act (ldN 4 a9) fun v13 => asAgg v13 fun l14 => asCons l14 fun v15 l16 => asInt .i64 v15 fun i17 => asCons l16 fun v18 l19 => asStr v18 fun s20 => asCons l19 fun v21 l22 => asInt .i64 v21 fun i23 => asCons l22 fun v24 l25 => asSlice v24 fun p26 n27 n28 => asNil l25 (.call 14 [(.agg #[(.int .i64 i17), (.string s20), (.int .i64 i23), (.slice p26 n27 n28)])] fun v29 => asBool v29 fun b30 => bif (!b30) then (.act (ldN 4 a9) fun v31 => asAgg v31 fun l32 => asCons l32 fun v33 l34 => asInt .i64 v33 fun i35 => asCons l34 fun v36 l37 => asStr v36 fun s38 => asCons l37 fun v39 l40 => asInt .i64 v39 fun i41 => asCons l40 fun v42 l43 => asSlice v42 fun p44 n45 n46 => asNil l43 (.act (stC a12 [(.int .i64 i35), (.string s38), (.int .i64 i41), (.slice p44 n45 n46)]) fun v47 => asTuple v47 fun l48 => asNil l48 (.act (ldN 4 a12) fun v49 => .ret .ret [v49]))) else (.act (ldN 4 a9) fun v50 => asAgg v50 fun l51 => asCons l51 fun v52 l53 => asInt .i64 v52 fun i54 => asCons l53 fun v55 l56 => asStr v55 fun s57 => asCons l56 fun v58 l59 => asInt .i64 v58 fun i60 => asCons l59 fun v61 l62 => asSlice v61 fun p63 n64 n65 => asNil l62 (.call 15 [(.pointer p0), (.agg #[(.int .i64 i54), (.string s57), (.int .i64 i60), (.slice p63 n64 n65)])] fun v66 => asAgg v66 fun l67 => asCons l67 fun v68 l69 => asInt .i64 v68 fun i70 => asCons l69 fun v71 l72 => asStr v71 fun s73 => asCons l72 fun v74 l75 => asInt .i64 v74 fun i76 => asCons l75 fun v77 l78 => asSlice v77 fun p79 n80 n81 => asNil l78 (.act (stC a12 [(.int .i64 i70), (.string s73), (.int .i64 i76), (.slice p79 n80 n81)]) fun v82 => asTuple v82 fun l83 => asNil l83 (.act (ldN 4 a12) fun v84 => .ret .ret [v84])))))
theorem T9_eq (p0 : (Option Addr)) (i1 : Int) (s2 : ByteArray) (i3 : Int) (p4 : (Option Addr)) (n5 : Nat) (n6 : Nat) : progOf PROG false 9 [(.pointer p0), (.agg #[(.int .i64 i1), (.string s2), (.int .i64 i3), (.slice p4 n5 n6)])] = T9 p0 i1 s2 i3 p4 n5 n6 := by kernel_rfl


noncomputable def T10k0 (i24 : Int) : Ex → List Value → Pg :=
  fun e55 l56 => sw e55 .ret (asCons l56 fun v57 l58 => asBool v57 fun b59 => asNil l58 (.ret .ret [(.int .i64 i24), (.bool b59)])) (sw e55 .normal (asCons l56 fun v60 l61 => asBool v60 fun b62 => asNil l61 (.ret .normal [(.int .i64 (wi64 (i24 + 1))), (.bool b62)])) (.fail))

noncomputable def T10b0 (a9 : Addr) (i6 : Int) : List Value → Pg :=
  fun l21 => asCons l21 fun v22 l23 => asInt .i64 v22 fun i24 => asCons l23 fun v25 l26 => asBool v25 fun b27 => asNil l26 (.act (ld1 (aadd a9 3)) fun v28 => asSlice v28 fun p29 n30 n31 => bif (decide (i24 < ((n30 : Nat) : Int))) then (.join (.act (ld1 (aadd a9 3)) fun v32 => asSlice v32 fun p33 n34 n35 => asSome p33 fun a36 => grd ((decide (0 ≤ i24)) && (decide (i24 < ((n34 : Nat) : Int)))) (.act (ldN 4 (aadd a36 ((Int.toNat i24) * 4))) fun v37 => asAgg v37 fun l38 => asCons l38 fun v39 l40 => asInt .i64 v39 fun i41 => asCons l40 fun v42 l43 => asStr v42 fun s44 => asCons l43 fun v45 l46 => asInt .i64 v45 fun i47 => asCons l46 fun v48 l49 => asSlice v48 fun p50 n51 n52 => asNil l49 (.call 10 [(.agg #[(.int .i64 i41), (.string s44), (.int .i64 i47), (.slice p50 n51 n52)]), (.int .i64 (wi64 (Int.tdiv i6 2)))] fun v53 => asBool v53 fun b54 => bif (!b54) then (.ret .ret [(.bool false)]) else (.ret .normal [(.bool b27)])))) (T10k0 i24)) else (.ret (.exit 0) [(.int .i64 i24), (.bool b27)]))

noncomputable def T10k1 : Ex → List Value → Pg :=
  fun e63 l64 => sw e63 (.exit 0) (asCons l64 fun v65 l66 => asInt .i64 v65 fun i67 => asCons l66 fun v68 l69 => asBool v68 fun b70 => asNil l69 (.ret .ret [(.bool true)])) (sw e63 .ret (asCons l64 fun v71 l72 => asInt .i64 v71 fun i73 => asCons l72 fun v74 l75 => asBool v74 fun b76 => asNil l75 (.ret .ret [(.bool b76)])) (.fail))

noncomputable def T10k2 (a9 : Addr) (i6 : Int) : Ex → List Value → Pg :=
  fun e16 l17 => sw e16 .normal (asCons l17 fun v18 l19 => asBool v18 fun b20 => asNil l19 (bif b20 then (.ret .ret [(.bool false)]) else (.loop [(.int .i64 0), (.bool false)] (T10b0 a9 i6) (T10k1)))) (.fail)

/-- hindsight/hindsightlaw5.small -/
noncomputable def T10 (i0 : Int) (s1 : ByteArray) (i2 : Int) (p3 : (Option Addr)) (n4 : Nat) (n5 : Nat) (i6 : Int) : Pg :=
  .act (newC [(.int .i64 i0), (.string s1), (.int .i64 i2), (.slice p3 n4 n5)]) fun v7 => asPtr v7 fun p8 => asSome p8 fun a9 => .join (bif (decide (i6 ≤ 0)) == false then (.act (ld1 (aadd a9 3)) fun v10 => asSlice v10 fun p11 n12 n13 => bif (decide (((n12 : Nat) : Int) > 4)) == false then (.act (ld1 (aadd a9 1)) fun v14 => asStr v14 fun s15 => .ret .normal [(.bool (decide (((s15.size : Nat) : Int) > 60)))]) else (.ret .normal [(.bool true)])) else (.ret .normal [(.bool true)])) (T10k2 a9 i6)
theorem T10_eq (i0 : Int) (s1 : ByteArray) (i2 : Int) (p3 : (Option Addr)) (n4 : Nat) (n5 : Nat) (i6 : Int) : progOf PROG false 10 [(.agg #[(.int .i64 i0), (.string s1), (.int .i64 i2), (.slice p3 n4 n5)]), (.int .i64 i6)] = T10 i0 s1 i2 p3 n4 n5 i6 := by kernel_rfl


/-- hindsight/hindsightlaw5.fun -/
noncomputable def T12 (i0 : Int) (s1 : ByteArray) (i2 : Int) (p3 : (Option Addr)) (n4 : Nat) (n5 : Nat) (i6 : Int) (s7 : ByteArray) (i8 : Int) (p9 : (Option Addr)) (n10 : Nat) (n11 : Nat) : Pg :=
  .act (newC [(.int .i64 i0), (.string s1), (.int .i64 i2), (.slice p3 n4 n5)]) fun v12 => asPtr v12 fun p13 => asSome p13 fun a14 => .act (newC [(.int .i64 i6), (.string s7), (.int .i64 i8), (.slice p9 n10 n11)]) fun v15 => asPtr v15 fun p16 => asSome p16 fun a17 => .act (newC [(.int .i64 0), (.string (bs [])), (.int .i64 0), (.slice none 0 0)]) fun v18 => asPtr v18 fun p19 => asSome p19 fun a20 => .act (ldN 4 a14) fun v21 => asAgg v21 fun l22 => asCons l22 fun v23 l24 => asInt .i64 v23 fun i25 => asCons l24 fun v26 l27 => asStr v26 fun s28 => asCons l27 fun v29 l30 => asInt .i64 v29 fun i31 => asCons l30 fun v32 l33 => asSlice v32 fun p34 n35 n36 => asNil l33 (.act (ldN 4 a17) fun v37 => asAgg v37 fun l38 => asCons l38 fun v39 l40 => asInt .i64 v39 fun i41 => asCons l40 fun v42 l43 => asStr v42 fun s44 => asCons l43 fun v45 l46 => asInt .i64 v45 fun i47 => asCons l46 fun v48 l49 => asSlice v48 fun p50 n51 n52 => asNil l49 (.act (bdSl 4 2 [(.int .i64 i25), (.string s28), (.int .i64 i31), (.slice p34 n35 n36), (.int .i64 i41), (.string s44), (.int .i64 i47), (.slice p50 n51 n52)]) fun v53 => asSlice v53 fun p54 n55 n56 => .act (stC a20 [(.int .i64 5), (.string (bs [])), (.int .i64 0), (.slice p54 n55 n56)]) fun v57 => asTuple v57 fun l58 => asNil l58 (.act (ldN 4 a20) fun v59 => .ret .ret [v59])))
theorem T12_eq (i0 : Int) (s1 : ByteArray) (i2 : Int) (p3 : (Option Addr)) (n4 : Nat) (n5 : Nat) (i6 : Int) (s7 : ByteArray) (i8 : Int) (p9 : (Option Addr)) (n10 : Nat) (n11 : Nat) : progOf PROG false 12 [(.agg #[(.int .i64 i0), (.string s1), (.int .i64 i2), (.slice p3 n4 n5)]), (.agg #[(.int .i64 i6), (.string s7), (.int .i64 i8), (.slice p9 n10 n11)])] = T12 i0 s1 i2 p3 n4 n5 i6 s7 i8 p9 n10 n11 := by kernel_rfl


noncomputable def T13k0 (i34 : Int) : Ex → List Value → Pg :=
  fun e42 l43 => sw e42 .normal (asNil l43 (.ret .normal [(.int .i64 (wi64 (i34 + 1)))])) (.fail)

noncomputable def T13b0 (n29 : Nat) (p28 : (Option Addr)) (m10 : (Option Nat)) : List Value → Pg :=
  fun l31 => asCons l31 fun v32 l33 => asInt .i64 v32 fun i34 => asNil l33 (bif (decide (i34 < ((n29 : Nat) : Int))) then (.join (asSome p28 fun a35 => grd ((decide (0 ≤ i34)) && (decide (i34 < ((n29 : Nat) : Int)))) (.act (ld1 (aadd a35 ((Int.toNat i34) * 1))) fun v36 => asInt .i64 v36 fun i37 => .call 20 [(.int .i64 i34)] fun v38 => asStr v38 fun s39 => .act (mup (.int .i64) m10 (.int .i64 i37) (.string s39)) fun v40 => asTuple v40 fun l41 => asNil l41 (.ret .normal []))) (T13k0 i34)) else (.ret (.exit 0) [(.int .i64 i34)]))

noncomputable def T13k1 (a8 : Addr) (m10 : (Option Nat)) : Ex → List Value → Pg :=
  fun e44 l45 => sw e44 (.exit 0) (asCons l45 fun v46 l47 => asInt .i64 v46 fun i48 => asNil l47 (.act (ldN 4 a8) fun v49 => asAgg v49 fun l50 => asCons l50 fun v51 l52 => asInt .i64 v51 fun i53 => asCons l52 fun v54 l55 => asStr v54 fun s56 => asCons l55 fun v57 l58 => asInt .i64 v57 fun i59 => asCons l58 fun v60 l61 => asSlice v60 fun p62 n63 n64 => asNil l61 (.call 21 [(.agg #[(.int .i64 i53), (.string s56), (.int .i64 i59), (.slice p62 n63 n64)]), (.map m10)] fun v65 => asStr v65 fun s66 => .ret .ret [(.string s66)]))) (.fail)

/-- hindsight/ty.Show -/
noncomputable def T13 (i0 : Int) (s1 : ByteArray) (i2 : Int) (p3 : (Option Addr)) (n4 : Nat) (n5 : Nat) : Pg :=
  .act (newC [(.int .i64 i0), (.string s1), (.int .i64 i2), (.slice p3 n4 n5)]) fun v6 => asPtr v6 fun p7 => asSome p7 fun a8 => .act makeMapAct fun v9 => asMap v9 fun m10 => .act (ldN 4 a8) fun v11 => asAgg v11 fun l12 => asCons l12 fun v13 l14 => asInt .i64 v13 fun i15 => asCons l14 fun v16 l17 => asStr v16 fun s18 => asCons l17 fun v19 l20 => asInt .i64 v19 fun i21 => asCons l20 fun v22 l23 => asSlice v22 fun p24 n25 n26 => asNil l23 (.call 19 [(.agg #[(.int .i64 i15), (.string s18), (.int .i64 i21), (.slice p24 n25 n26)])] fun v27 => asSlice v27 fun p28 n29 n30 => .loop [(.int .i64 0)] (T13b0 n29 p28 m10) (T13k1 a8 m10))
theorem T13_eq (i0 : Int) (s1 : ByteArray) (i2 : Int) (p3 : (Option Addr)) (n4 : Nat) (n5 : Nat) : progOf PROG false 13 [(.agg #[(.int .i64 i0), (.string s1), (.int .i64 i2), (.slice p3 n4 n5)])] = T13 i0 s1 i2 p3 n4 n5 := by kernel_rfl


noncomputable def T14k0 : Ex → List Value → Pg :=
  fun e45 l46 => sw e45 .normal (asCons l46 fun v47 l48 => asBool v47 fun b49 => asNil l48 (.ret .ret [(.bool b49)])) (.fail)

/-- hindsight/ty.Good -/
noncomputable def T14 (i0 : Int) (s1 : ByteArray) (i2 : Int) (p3 : (Option Addr)) (n4 : Nat) (n5 : Nat) : Pg :=
  .act (newC [(.int .i64 i0), (.string s1), (.int .i64 i2), (.slice p3 n4 n5)]) fun v6 => asPtr v6 fun p7 => asSome p7 fun a8 => .join (.act (ldN 4 a8) fun v9 => asAgg v9 fun l10 => asCons l10 fun v11 l12 => asInt .i64 v11 fun i13 => asCons l12 fun v14 l15 => asStr v14 fun s16 => asCons l15 fun v17 l18 => asInt .i64 v17 fun i19 => asCons l18 fun v20 l21 => asSlice v20 fun p22 n23 n24 => asNil l21 (.call 22 [(.agg #[(.int .i64 i13), (.string s16), (.int .i64 i19), (.slice p22 n23 n24)])] fun v25 => asInt .i64 v25 fun i26 => bif (decide (i26 ≤ 500)) == true then (.act (ldN 4 a8) fun v27 => asAgg v27 fun l28 => asCons l28 fun v29 l30 => asInt .i64 v29 fun i31 => asCons l30 fun v32 l33 => asStr v32 fun s34 => asCons l33 fun v35 l36 => asInt .i64 v35 fun i37 => asCons l36 fun v38 l39 => asSlice v38 fun p40 n41 n42 => asNil l39 (.call 23 [(.agg #[(.int .i64 i31), (.string s34), (.int .i64 i37), (.slice p40 n41 n42)])] fun v43 => asBool v43 fun b44 => .ret .normal [(.bool b44)])) else (.ret .normal [(.bool false)]))) (T14k0)
theorem T14_eq (i0 : Int) (s1 : ByteArray) (i2 : Int) (p3 : (Option Addr)) (n4 : Nat) (n5 : Nat) : progOf PROG false 14 [(.agg #[(.int .i64 i0), (.string s1), (.int .i64 i2), (.slice p3 n4 n5)])] = T14 i0 s1 i2 p3 n4 n5 := by kernel_rfl


noncomputable def T15k0 (i100 : Int) : Ex → List Value → Pg :=
  fun e171 l172 => sw e171 .normal (asNil l172 (.ret .normal [(.int .i64 (wi64 (i100 + 1)))])) (.fail)

noncomputable def T15b0 (n95 : Nat) (p94 : (Option Addr)) (a88 : Addr) (p0 : (Option Addr)) : List Value → Pg :=
  fun l97 => asCons l97 fun v98 l99 => asInt .i64 v98 fun i100 => asNil l99 (bif (decide (i100 < ((n95 : Nat) : Int))) then (.join (asSome p94 fun a101 => grd ((decide (0 ≤ i100)) && (decide (i100 < ((n95 : Nat) : Int)))) (.act (ldN 4 (aadd a101 ((Int.toNat i100) * 4))) fun v102 => asAgg v102 fun l103 => asCons l103 fun v104 l105 => asInt .i64 v104 fun i106 => asCons l105 fun v107 l108 => asStr v107 fun s109 => asCons l108 fun v110 l111 => asInt .i64 v110 fun i112 => asCons l111 fun v113 l114 => asSlice v113 fun p115 n116 n117 => asNil l114 (.act (newC [(.int .i64 0), (.string (bs [])), (.int .i64 0), (.slice none 0 0)]) fun v118 => asPtr v118 fun p119 => asSome p119 fun a120 => .act (stC a120 [(.int .i64 i106), (.string s109), (.int .i64 i112), (.slice p115 n116 n117)]) fun v121 => asTuple v121 fun l122 => asNil l122 (.act (ld1 (aadd a88 3)) fun v123 => asSlice v123 fun p124 n125 n126 => .act (ldN 4 a120) fun v127 => asAgg v127 fun l128 => asCons l128 fun v129 l130 => asInt .i64 v129 fun i131 => asCons l130 fun v132 l133 => asStr v132 fun s134 => asCons l133 fun v135 l136 => asInt .i64 v135 fun i137 => asCons l136 fun v138 l139 => asSlice v138 fun p140 n141 n142 => asNil l139 (.call 15 [(.pointer p0), (.agg #[(.int .i64 i131), (.string s134), (.int .i64 i137), (.slice p140 n141 n142)])] fun v143 => asAgg v143 fun l144 => asCons l144 fun v145 l146 => asInt .i64 v145 fun i147 => asCons l146 fun v148 l149 => asStr v148 fun s150 => asCons l149 fun v151 l152 => asInt .i64 v151 fun i153 => asCons l152 fun v154 l155 => asSlice v154 fun p156 n157 n158 => asNil l155 (.get fun h170 => grd (chks [((ld1 (aadd a88 3)), v123)] h170) (.act (bdSl 4 1 [(.int .i64 i147), (.string s150), (.int .i64 i153), (.slice p156 n157 n158)]) fun v159 => asSlice v159 fun p160 n161 n162 => .get fun h169 => grd (chks [((ld1 (aadd a88 3)), v123)] h169) (.act (apS 4 56 p124 n125 n126 p160 n161 n162) fun v163 => asSlice v163 fun p164 n165 n166 => .act (stC (aadd a88 3) [(.slice p164 n165 n166)]) fun v167 => asTuple v167 fun l168 => asNil l168 (.ret .normal []))))))))) (T15k0 i100)) else (.ret (.exit 0) [(.int .i64 i100)]))

noncomputable def T15k1 (a88 : Addr) (a12 : Addr) : Ex → List Value → Pg :=
  fun e173 l174 => sw e173 (.exit 0) (asCons l174 fun v175 l176 => asInt .i64 v175 fun i177 => asNil l176 (.act (ldN 4 a88) fun v178 => asAgg v178 fun l179 => asCons l179 fun v180 l181 => asInt .i64 v180 fun i182 => asCons l181 fun v183 l184 => asStr v183 fun s185 => asCons l184 fun v186 l187 => asInt .i64 v186 fun i188 => asCons l187 fun v189 l190 => asSlice v189 fun p191 n192 n193 => asNil l190 (.act (stC a12 [(.int .i64 i182), (.string s185), (.int .i64 i188), (.slice p191 n192 n193)]) fun v194 => asTuple v194 fun l195 => asNil l195 (.act (ldN 4 a12) fun v196 => .ret .ret [v196])))) (.fail)

/-- (*hindsight/ty.Sub).apply -/
noncomputable def T15 (p0 : (Option Addr)) (i1 : Int) (s2 : ByteArray) (i3 : Int) (p4 : (Option Addr)) (n5 : Nat) (n6 : Nat) : Pg :=
  .act (newC [(.int .i64 i1), (.string s2), (.int .i64 i3), (.slice p4 n5 n6)]) fun v7 => asPtr v7 fun p8 => asSome p8 fun a9 => .act (newC [(.int .i64 0), (.string (bs [])), (.int .i64 0), (.slice none 0 0)]) fun v10 => asPtr v10 fun p11 => asSome p11 fun a12 => .act (ldN 4 a9) fun v13 => asAgg v13 fun l14 => asCons l14 fun v15 l16 => asInt .i64 v15 fun i17 => asCons l16 fun v18 l19 => asStr v18 fun s20 => asCons l19 fun v21 l22 => asInt .i64 v21 fun i23 => asCons l22 fun v24 l25 => asSlice v24 fun p26 n27 n28 => asNil l25 (.call 24 [(.pointer p0), (.agg #[(.int .i64 i17), (.string s20), (.int .i64 i23), (.slice p26 n27 n28)])] fun v29 => asAgg v29 fun l30 => asCons l30 fun v31 l32 => asInt .i64 v31 fun i33 => asCons l32 fun v34 l35 => asStr v34 fun s36 => asCons l35 fun v37 l38 => asInt .i64 v37 fun i39 => asCons l38 fun v40 l41 => asSlice v40 fun p42 n43 n44 => asNil l41 (.act (stC a9 [(.int .i64 i33), (.string s36), (.int .i64 i39), (.slice p42 n43 n44)]) fun v45 => asTuple v45 fun l46 => asNil l46 (.act (ld1 (aadd a9 3)) fun v47 => asSlice v47 fun p48 n49 n50 => bif (((n49 : Nat) : Int) == 0) then (.act (ldN 4 a9) fun v51 => asAgg v51 fun l52 => asCons l52 fun v53 l54 => asInt .i64 v53 fun i55 => asCons l54 fun v56 l57 => asStr v56 fun s58 => asCons l57 fun v59 l60 => asInt .i64 v59 fun i61 => asCons l60 fun v62 l63 => asSlice v62 fun p64 n65 n66 => asNil l63 (.act (stC a12 [(.int .i64 i55), (.string s58), (.int .i64 i61), (.slice p64 n65 n66)]) fun v67 => asTuple v67 fun l68 => asNil l68 (.act (ldN 4 a12) fun v69 => .ret .ret [v69]))) else (.act (ldN 4 a9) fun v70 => asAgg v70 fun l71 => asCons l71 fun v72 l73 => asInt .i64 v72 fun i74 => asCons l73 fun v75 l76 => asStr v75 fun s77 => asCons l76 fun v78 l79 => asInt .i64 v78 fun i80 => asCons l79 fun v81 l82 => asSlice v81 fun p83 n84 n85 => asNil l82 (.act (newC [(.int .i64 0), (.string (bs [])), (.int .i64 0), (.slice none 0 0)]) fun v86 => asPtr v86 fun p87 => asSome p87 fun a88 => .act (stC a88 [(.int .i64 i74), (.string s77), (.int .i64 i80), (.slice p83 n84 n85)]) fun v89 => asTuple v89 fun l90 => asNil l90 (.act (stC (aadd a88 3) [(.slice none 0 0)]) fun v91 => asTuple v91 fun l92 => asNil l92 (.act (ld1 (aadd a9 3)) fun v93 => asSlice v93 fun p94 n95 n96 => .loop [(.int .i64 0)] (T15b0 n95 p94 a88 p0) (T15k1 a88 a12))))))))
theorem T15_eq (p0 : (Option Addr)) (i1 : Int) (s2 : ByteArray) (i3 : Int) (p4 : (Option Addr)) (n5 : Nat) (n6 : Nat) : progOf PROG false 15 [(.pointer p0), (.agg #[(.int .i64 i1), (.string s2), (.int .i64 i3), (.slice p4 n5 n6)])] = T15 p0 i1 s2 i3 p4 n5 n6 := by kernel_rfl


noncomputable def T17k0 : Ex → List Value → Pg :=
  fun e155 l156 => sw e155 .normal (asNil l156 (.ret .ret [(.int .i64 0)])) (.fail)

noncomputable def T17k1 : Ex → List Value → Pg :=
  fun e209 l210 => sw e209 .normal (asCons l210 fun v211 l212 => asBool v211 fun b213 => asNil l212 (bif b213 then (.ret .ret [(.int .i64 5)]) else (.ret .normal [(.int .i64 0)]))) (.fail)

noncomputable def T17k2 (a15 : Addr) (a18 : Addr) (p0 : (Option Addr)) : Ex → List Value → Pg :=
  fun e133 l134 => sw e133 .normal (asCons l134 fun v135 l136 => asBool v135 fun b137 => asNil l136 (bif b137 then (.act (ld1 (aadd a15 2)) fun v138 => asInt .i64 v138 fun i139 => .act (ld1 (aadd a18 2)) fun v140 => asInt .i64 v140 fun i141 => .join (bif (i139 != i141) then (asSome p0 fun a142 => .act (ld1 (aadd a142 1)) fun v143 => asMap v143 fun m144 => .act (ld1 (aadd a15 2)) fun v145 => asInt .i64 v145 fun i146 => .act (ld1 (aadd a18 2)) fun v147 => asInt .i64 v147 fun i148 => .act (ld1 (aadd a15 2)) fun v149 => asInt .i64 v149 fun i150 => .act (ld1 (aadd a18 2)) fun v151 => asInt .i64 v151 fun i152 => .act (mup (.int .i64) m144 (.int .i64 (maxV i146 i148)) (.agg #[(.int .i64 7), (.string (bs [])), (.int .i64 (minV i150 i152)), (.slice none 0 0)])) fun v153 => asTuple v153 fun l154 => asNil l154 (.ret .normal [])) else (.ret .normal [])) (T17k0)) else (.act (ld1 (aadd a15 0)) fun v157 => asInt .i64 v157 fun i158 => bif (i158 == 7) then (.act (ld1 (aadd a15 2)) fun v159 => asInt .i64 v159 fun i160 => .act (ldN 4 a18) fun v161 => asAgg v161 fun l162 => asCons l162 fun v163 l164 => asInt .i64 v163 fun i165 => asCons l164 fun v166 l167 => asStr v166 fun s168 => asCons l167 fun v169 l170 => asInt .i64 v169 fun i171 => asCons l170 fun v172 l173 => asSlice v172 fun p174 n175 n176 => asNil l173 (.call 25 [(.pointer p0), (.int .i64 i160), (.agg #[(.int .i64 i165), (.string s168), (.int .i64 i171), (.slice p174 n175 n176)])] fun v177 => asInt .i64 v177 fun i178 => .ret .ret [(.int .i64 i178)])) else (.act (ld1 (aadd a18 0)) fun v179 => asInt .i64 v179 fun i180 => bif (i180 == 7) then (.act (ld1 (aadd a18 2)) fun v181 => asInt .i64 v181 fun i182 => .act (ldN 4 a15) fun v183 => asAgg v183 fun l184 => asCons l184 fun v185 l186 => asInt .i64 v185 fun i187 => asCons l186 fun v188 l189 => asStr v188 fun s190 => asCons l189 fun v191 l192 => asInt .i64 v191 fun i193 => asCons l192 fun v194 l195 => asSlice v194 fun p196 n197 n198 => asNil l195 (.call 25 [(.pointer p0), (.int .i64 i182), (.agg #[(.int .i64 i187), (.string s190), (.int .i64 i193), (.slice p196 n197 n198)])] fun v199 => asInt .i64 v199 fun i200 => .ret .ret [(.int .i64 i200)])) else (.join (.act (ld1 (aadd a15 0)) fun v201 => asInt .i64 v201 fun i202 => .act (ld1 (aadd a18 0)) fun v203 => asInt .i64 v203 fun i204 => bif (i202 != i204) == false then (.act (ld1 (aadd a15 1)) fun v205 => asStr v205 fun s206 => .act (ld1 (aadd a18 1)) fun v207 => asStr v207 fun s208 => .ret .normal [(.bool (!(s206.toList == s208.toList)))]) else (.ret .normal [(.bool true)])) (T17k1)))))) (.fail)

noncomputable def T17k3 (i229 : Int) : Ex → List Value → Pg :=
  fun e277 l278 => sw e277 .ret (asCons l278 fun v279 l280 => asInt .i64 v279 fun i281 => asNil l280 (.ret .ret [(.int .i64 i229), (.int .i64 i281)])) (sw e277 .normal (asCons l278 fun v282 l283 => asInt .i64 v282 fun i284 => asNil l283 (.ret .normal [(.int .i64 (wi64 (i229 + 1))), (.int .i64 i284)])) (.fail))

noncomputable def T17b0 (n224 : Nat) (a15 : Addr) (a18 : Addr) (p0 : (Option Addr)) : List Value → Pg :=
  fun l226 => asCons l226 fun v227 l228 => asInt .i64 v227 fun i229 => asCons l228 fun v230 l231 => asInt .i64 v230 fun i232 => asNil l231 (bif (decide (i229 < ((n224 : Nat) : Int))) then (.join (.act (ld1 (aadd a15 3)) fun v233 => asSlice v233 fun p234 n235 n236 => asSome p234 fun a237 => grd ((decide (0 ≤ i229)) && (decide (i229 < ((n235 : Nat) : Int)))) (.act (ldN 4 (aadd a237 ((Int.toNat i229) * 4))) fun v238 => asAgg v238 fun l239 => asCons l239 fun v240 l241 => asInt .i64 v240 fun i242 => asCons l241 fun v243 l244 => asStr v243 fun s245 => asCons l244 fun v246 l247 => asInt .i64 v246 fun i248 => asCons l247 fun v249 l250 => asSlice v249 fun p251 n252 n253 => asNil l250 (.act (ld1 (aadd a18 3)) fun v254 => asSlice v254 fun p255 n256 n257 => asSome p255 fun a258 => grd ((decide (0 ≤ i229)) && (decide (i229 < ((n256 : Nat) : Int)))) (.act (ldN 4 (aadd a258 ((Int.toNat i229) * 4))) fun v259 => asAgg v259 fun l260 => asCons l260 fun v261 l262 => asInt .i64 v261 fun i263 => asCons l262 fun v264 l265 => asStr v264 fun s266 => asCons l265 fun v267 l268 => asInt .i64 v267 fun i269 => asCons l268 fun v270 l271 => asSlice v270 fun p272 n273 n274 => asNil l271 (.call 17 [(.pointer p0), (.agg #[(.int .i64 i242), (.string s245), (.int .i64 i248), (.slice p251 n252 n253)]), (.agg #[(.int .i64 i263), (.string s266), (.int .i64 i269), (.slice p272 n273 n274)])] fun v275 => asInt .i64 v275 fun i276 => bif (i276 != 0) then (.ret .ret [(.int .i64 i276)]) else (.ret .normal [(.int .i64 i232)])))))) (T17k3 i229)) else (.ret (.exit 1) [(.int .i64 i229), (.int .i64 i232)]))

noncomputable def T17k4 : Ex → List Value → Pg :=
  fun e285 l286 => sw e285 (.exit 1) (asCons l286 fun v287 l288 => asInt .i64 v287 fun i289 => asCons l288 fun v290 l291 => asInt .i64 v290 fun i292 => asNil l291 (.ret .ret [(.int .i64 0)])) (sw e285 .ret (asCons l286 fun v293 l294 => asInt .i64 v293 fun i295 => asCons l294 fun v296 l297 => asInt .i64 v296 fun i298 => asNil l297 (.ret .ret [(.int .i64 i298)])) (.fail))

noncomputable def T17k5 (a15 : Addr) (a18 : Addr) (p0 : (Option Addr)) : Ex → List Value → Pg :=
  fun e214 l215 => sw e214 .ret (asCons l215 fun v216 l217 => asInt .i64 v216 fun i218 => asNil l217 (.ret .ret [(.int .i64 i218)])) (sw e214 .normal (asCons l215 fun v219 l220 => asInt .i64 v219 fun i221 => asNil l220 (.act (ld1 (aadd a15 3)) fun v222 => asSlice v222 fun p223 n224 n225 => .loop [(.int .i64 0), (.int .i64 i221)] (T17b0 n224 a15 a18 p0) (T17k4))) (.fail))

noncomputable def T17k6 (a15 : Addr) (p0 : (Option Addr)) (a18 : Addr) : Ex → List Value → Pg :=
  fun e55 l56 => sw e55 .normal (asCons l56 fun v57 l58 => asBool v57 fun b59 => asNil l58 (bif b59 then (.ret .ret [(.int .i64 2)]) else (.act (ldN 4 a15) fun v60 => asAgg v60 fun l61 => asCons l61 fun v62 l63 => asInt .i64 v62 fun i64 => asCons l63 fun v65 l66 => asStr v65 fun s67 => asCons l66 fun v68 l69 => asInt .i64 v68 fun i70 => asCons l69 fun v71 l72 => asSlice v71 fun p73 n74 n75 => asNil l72 (.get fun h77 => .call 24 [(.pointer p0), (.agg #[(.int .i64 i64), (.string s67), (.int .i64 i70), (.slice p73 n74 n75)])] fun v76 => asAgg v76 fun l78 => asCons l78 fun v79 l80 => asInt .i64 v79 fun i81 => asCons l80 fun v82 l83 => asStr v82 fun s84 => asCons l83 fun v85 l86 => asInt .i64 v85 fun i87 => asCons l86 fun v88 l89 => asSlice v88 fun p90 n91 n92 => asNil l89 (.act (ldN 4 a18) fun v93 => grd (past (ldN 4 a18) v93 [h77]) (asAgg v93 fun l94 => asCons l94 fun v95 l96 => asInt .i64 v95 fun i97 => asCons l96 fun v98 l99 => asStr v98 fun s100 => asCons l99 fun v101 l102 => asInt .i64 v101 fun i103 => asCons l102 fun v104 l105 => asSlice v104 fun p106 n107 n108 => asNil l105 (.call 24 [(.pointer p0), (.agg #[(.int .i64 i97), (.string s100), (.int .i64 i103), (.slice p106 n107 n108)])] fun v109 => asAgg v109 fun l110 => asCons l110 fun v111 l112 => asInt .i64 v111 fun i113 => asCons l112 fun v114 l115 => asStr v114 fun s116 => asCons l115 fun v117 l118 => asInt .i64 v117 fun i119 => asCons l118 fun v120 l121 => asSlice v120 fun p122 n123 n124 => asNil l121 (.act (stC a15 [(.int .i64 i81), (.string s84), (.int .i64 i87), (.slice p90 n91 n92)]) fun v125 => asTuple v125 fun l126 => asNil l126 (.act (stC a18 [(.int .i64 i113), (.string s116), (.int .i64 i119), (.slice p122 n123 n124)]) fun v127 => asTuple v127 fun l128 => asNil l128 (.join (.join (.act (ld1 (aadd a15 0)) fun v129 => asInt .i64 v129 fun i130 => bif (i130 == 7) == true then (.act (ld1 (aadd a18 0)) fun v131 => asInt .i64 v131 fun i132 => .ret .normal [(.bool (i132 == 7))]) else (.ret .normal [(.bool false)])) (T17k2 a15 a18 p0)) (T17k5 a15 a18 p0))))))))))) (.fail)

/-- (*hindsight/ty.Sub).one -/
noncomputable def T17 (p0 : (Option Addr)) (i1 : Int) (s2 : ByteArray) (i3 : Int) (p4 : (Option Addr)) (n5 : Nat) (n6 : Nat) (i7 : Int) (s8 : ByteArray) (i9 : Int) (p10 : (Option Addr)) (n11 : Nat) (n12 : Nat) : Pg :=
  .act (newC [(.int .i64 i1), (.string s2), (.int .i64 i3), (.slice p4 n5 n6)]) fun v13 => asPtr v13 fun p14 => asSome p14 fun a15 => .act (newC [(.int .i64 i7), (.string s8), (.int .i64 i9), (.slice p10 n11 n12)]) fun v16 => asPtr v16 fun p17 => asSome p17 fun a18 => .join (.act (ldN 4 a15) fun v19 => asAgg v19 fun l20 => asCons l20 fun v21 l22 => asInt .i64 v21 fun i23 => asCons l22 fun v24 l25 => asStr v24 fun s26 => asCons l25 fun v27 l28 => asInt .i64 v27 fun i29 => asCons l28 fun v30 l31 => asSlice v30 fun p32 n33 n34 => asNil l31 (.call 18 [(.pointer p0), (.agg #[(.int .i64 i23), (.string s26), (.int .i64 i29), (.slice p32 n33 n34)])] fun v35 => asBool v35 fun b36 => bif (!b36) == false then (.act (ldN 4 a18) fun v37 => asAgg v37 fun l38 => asCons l38 fun v39 l40 => asInt .i64 v39 fun i41 => asCons l40 fun v42 l43 => asStr v42 fun s44 => asCons l43 fun v45 l46 => asInt .i64 v45 fun i47 => asCons l46 fun v48 l49 => asSlice v48 fun p50 n51 n52 => asNil l49 (.call 18 [(.pointer p0), (.agg #[(.int .i64 i41), (.string s44), (.int .i64 i47), (.slice p50 n51 n52)])] fun v53 => asBool v53 fun b54 => .ret .normal [(.bool (!b54))])) else (.ret .normal [(.bool true)]))) (T17k6 a15 p0 a18)
theorem T17_eq (p0 : (Option Addr)) (i1 : Int) (s2 : ByteArray) (i3 : Int) (p4 : (Option Addr)) (n5 : Nat) (n6 : Nat) (i7 : Int) (s8 : ByteArray) (i9 : Int) (p10 : (Option Addr)) (n11 : Nat) (n12 : Nat) : progOf PROG false 17 [(.pointer p0), (.agg #[(.int .i64 i1), (.string s2), (.int .i64 i3), (.slice p4 n5 n6)]), (.agg #[(.int .i64 i7), (.string s8), (.int .i64 i9), (.slice p10 n11 n12)])] = T17 p0 i1 s2 i3 p4 n5 n6 i7 s8 i9 p10 n11 n12 := by kernel_rfl


/-- (*hindsight/ty.Sub).small -/
noncomputable def T18 (p0 : (Option Addr)) (i1 : Int) (s2 : ByteArray) (i3 : Int) (p4 : (Option Addr)) (n5 : Nat) (n6 : Nat) : Pg :=
  .act (newC [(.int .i64 i1), (.string s2), (.int .i64 i3), (.slice p4 n5 n6)]) fun v7 => asPtr v7 fun p8 => asSome p8 fun a9 => .act (ldN 4 a9) fun v10 => asAgg v10 fun l11 => asCons l11 fun v12 l13 => asInt .i64 v12 fun i14 => asCons l13 fun v15 l16 => asStr v15 fun s17 => asCons l16 fun v18 l19 => asInt .i64 v18 fun i20 => asCons l19 fun v21 l22 => asSlice v21 fun p23 n24 n25 => asNil l22 (.call 26 [(.pointer p0), (.agg #[(.int .i64 i14), (.string s17), (.int .i64 i20), (.slice p23 n24 n25)]), (.int .i64 0)] fun v26 => asInt .i64 v26 fun i27 => .ret .ret [(.bool (decide (i27 ≤ 500)))])
theorem T18_eq (p0 : (Option Addr)) (i1 : Int) (s2 : ByteArray) (i3 : Int) (p4 : (Option Addr)) (n5 : Nat) (n6 : Nat) : progOf PROG false 18 [(.pointer p0), (.agg #[(.int .i64 i1), (.string s2), (.int .i64 i3), (.slice p4 n5 n6)])] = T18 p0 i1 s2 i3 p4 n5 n6 := by kernel_rfl


/-- hindsight/ty.Vars -/
noncomputable def T19 (i0 : Int) (s1 : ByteArray) (i2 : Int) (p3 : (Option Addr)) (n4 : Nat) (n5 : Nat) : Pg :=
  .act (newC [(.int .i64 i0), (.string s1), (.int .i64 i2), (.slice p3 n4 n5)]) fun v6 => asPtr v6 fun p7 => asSome p7 fun a8 => .act (ldN 4 a8) fun v9 => asAgg v9 fun l10 => asCons l10 fun v11 l12 => asInt .i64 v11 fun i13 => asCons l12 fun v14 l15 => asStr v14 fun s16 => asCons l15 fun v17 l18 => asInt .i64 v17 fun i19 => asCons l18 fun v20 l21 => asSlice v20 fun p22 n23 n24 => asNil l21 (.call 27 [(.agg #[(.int .i64 i13), (.string s16), (.int .i64 i19), (.slice p22 n23 n24)]), (.slice none 0 0)] fun v25 => asSlice v25 fun p26 n27 n28 => .ret .ret [(.slice p26 n27 n28)])
theorem T19_eq (i0 : Int) (s1 : ByteArray) (i2 : Int) (p3 : (Option Addr)) (n4 : Nat) (n5 : Nat) : progOf PROG false 19 [(.agg #[(.int .i64 i0), (.string s1), (.int .i64 i2), (.slice p3 n4 n5)])] = T19 i0 s1 i2 p3 n4 n5 := by kernel_rfl


/-- hindsight/ty.letter -/
noncomputable def T20 (i0 : Int) : Pg :=
  bif (decide (i0 < 26)) then (grd (Nat.ble (1 + (Utf8.encode (wi32 (wi64 (97 + i0)))).size) 9223372036854775807) (.ret .ret [(.string ((bs [39]) ++ (Utf8.encode (wi32 (wi64 (97 + i0))))))])) else (.call 28 [(.int .i64 (wi64 (i0 + 1)))] fun v1 => asStr v1 fun s2 => grd (Nat.ble (1 + s2.size) 9223372036854775807) (.ret .ret [(.string ((bs [39]) ++ s2))]))
theorem T20_eq (i0 : Int) : progOf PROG false 20 [(.int .i64 i0)] = T20 i0 := by kernel_rfl


noncomputable def T21k0 (a9 : Addr) (m6 : (Option Nat)) : Ex → List Value → Pg :=
  fun e80 l81 => sw e80 .normal (asCons l81 fun v82 l83 => asBool v82 fun b84 => asNil l83 (bif b84 then (.act (ld1 (aadd a9 3)) fun v85 => asSlice v85 fun p86 n87 n88 => asSome p86 fun a89 => grd (decide (0 < ((n87 : Nat) : Int))) (.act (ldN 4 (aadd a89 0)) fun v90 => asAgg v90 fun l91 => asCons l91 fun v92 l93 => asInt .i64 v92 fun i94 => asCons l93 fun v95 l96 => asStr v95 fun s97 => asCons l96 fun v98 l99 => asInt .i64 v98 fun i100 => asCons l99 fun v101 l102 => asSlice v101 fun p103 n104 n105 => asNil l102 (.call 21 [(.agg #[(.int .i64 i94), (.string s97), (.int .i64 i100), (.slice p103 n104 n105)]), (.map m6)] fun v106 => asStr v106 fun s107 => grd (Nat.ble (1 + s107.size) 9223372036854775807) (grd (Nat.ble (((bs [40]) ++ s107).size + 5) 9223372036854775807) (.ret .ret [(.string (((bs [40]) ++ s107) ++ (bs [32, 114, 101, 102, 41])))]))))) else (.act (ld1 (aadd a9 0)) fun v108 => asInt .i64 v108 fun i109 => bif (i109 == 1) then (.ret .ret [(.string (bs [105, 110, 116]))]) else (.act (ld1 (aadd a9 0)) fun v110 => asInt .i64 v110 fun i111 => bif (i111 == 2) then (.ret .ret [(.string (bs [98, 111, 111, 108]))]) else (.act (ld1 (aadd a9 0)) fun v112 => asInt .i64 v112 fun i113 => bif (i113 == 3) then (.ret .ret [(.string (bs [117, 110, 105, 116]))]) else (.act (ld1 (aadd a9 0)) fun v114 => asInt .i64 v114 fun i115 => bif (i115 == 4) then (.act (ld1 (aadd a9 1)) fun v116 => asStr v116 fun s117 => .ret .ret [(.string s117)]) else (.ret .normal [(.string (bs []))]))))))) (.fail)

noncomputable def T21k1 (a9 : Addr) (m6 : (Option Nat)) : Ex → List Value → Pg :=
  fun e22 l23 => sw e22 .normal (asCons l23 fun v24 l25 => asBool v24 fun b26 => asNil l25 (bif b26 then (.act (ld1 (aadd a9 3)) fun v27 => asSlice v27 fun p28 n29 n30 => asSome p28 fun a31 => grd (decide (0 < ((n29 : Nat) : Int))) (.act (ldN 4 (aadd a31 0)) fun v32 => asAgg v32 fun l33 => asCons l33 fun v34 l35 => asInt .i64 v34 fun i36 => asCons l35 fun v37 l38 => asStr v37 fun s39 => asCons l38 fun v40 l41 => asInt .i64 v40 fun i42 => asCons l41 fun v43 l44 => asSlice v43 fun p45 n46 n47 => asNil l44 (.get fun h49 => .call 21 [(.agg #[(.int .i64 i36), (.string s39), (.int .i64 i42), (.slice p45 n46 n47)]), (.map m6)] fun v48 => asStr v48 fun s50 => grd (Nat.ble (1 + s50.size) 9223372036854775807) (grd (Nat.ble (((bs [40]) ++ s50).size + 4) 9223372036854775807) (.act (ld1 (aadd a9 3)) fun v51 => grd (past (ld1 (aadd a9 3)) v51 [h49]) (asSlice v51 fun p52 n53 n54 => asSome p52 fun a55 => grd (decide (1 < ((n53 : Nat) : Int))) (.act (ldN 4 (aadd a55 4)) fun v56 => grd (past (ldN 4 (aadd a55 4)) v56 [h49]) (asAgg v56 fun l57 => asCons l57 fun v58 l59 => asInt .i64 v58 fun i60 => asCons l59 fun v61 l62 => asStr v61 fun s63 => asCons l62 fun v64 l65 => asInt .i64 v64 fun i66 => asCons l65 fun v67 l68 => asSlice v67 fun p69 n70 n71 => asNil l68 (.call 21 [(.agg #[(.int .i64 i60), (.string s63), (.int .i64 i66), (.slice p69 n70 n71)]), (.map m6)] fun v72 => asStr v72 fun s73 => grd (Nat.ble ((((bs [40]) ++ s50) ++ (bs [32, 45, 62, 32])).size + s73.size) 9223372036854775807) (grd (Nat.ble (((((bs [40]) ++ s50) ++ (bs [32, 45, 62, 32])) ++ s73).size + 1) 9223372036854775807) (.ret .ret [(.string (((((bs [40]) ++ s50) ++ (bs [32, 45, 62, 32])) ++ s73) ++ (bs [41])))]))))))))))) else (.join (.act (ld1 (aadd a9 0)) fun v74 => asInt .i64 v74 fun i75 => bif (i75 == 6) == true then (.act (ld1 (aadd a9 3)) fun v76 => asSlice v76 fun p77 n78 n79 => .ret .normal [(.bool (((n78 : Nat) : Int) == 1))]) else (.ret .normal [(.bool false)])) (T21k0 a9 m6)))) (.fail)

noncomputable def T21k2 : Ex → List Value → Pg :=
  fun e118 l119 => sw e118 .ret (asCons l119 fun v120 l121 => asStr v120 fun s122 => asNil l121 (.ret .ret [(.string s122)])) (sw e118 .normal (asCons l119 fun v123 l124 => asStr v123 fun s125 => asNil l124 (.ret .ret [(.string (bs []))])) (.fail))

/-- hindsight/ty.show -/
noncomputable def T21 (i0 : Int) (s1 : ByteArray) (i2 : Int) (p3 : (Option Addr)) (n4 : Nat) (n5 : Nat) (m6 : (Option Nat)) : Pg :=
  .act (newC [(.int .i64 i0), (.string s1), (.int .i64 i2), (.slice p3 n4 n5)]) fun v7 => asPtr v7 fun p8 => asSome p8 fun a9 => .join (.act (ld1 (aadd a9 0)) fun v10 => asInt .i64 v10 fun i11 => bif (i11 == 7) then (.act (ld1 (aadd a9 2)) fun v12 => asInt .i64 v12 fun i13 => .act (lkp (.int .i64) (.string (bs [])) m6 (.int .i64 i13) false) fun v14 => asStr v14 fun s15 => .ret .ret [(.string s15)]) else (.join (.act (ld1 (aadd a9 0)) fun v16 => asInt .i64 v16 fun i17 => bif (i17 == 5) == true then (.act (ld1 (aadd a9 3)) fun v18 => asSlice v18 fun p19 n20 n21 => .ret .normal [(.bool (((n20 : Nat) : Int) == 2))]) else (.ret .normal [(.bool false)])) (T21k1 a9 m6))) (T21k2)
theorem T21_eq (i0 : Int) (s1 : ByteArray) (i2 : Int) (p3 : (Option Addr)) (n4 : Nat) (n5 : Nat) (m6 : (Option Nat)) : progOf PROG false 21 [(.agg #[(.int .i64 i0), (.string s1), (.int .i64 i2), (.slice p3 n4 n5)]), (.map m6)] = T21 i0 s1 i2 p3 n4 n5 m6 := by kernel_rfl


/-- hindsight/ty.Size -/
noncomputable def T22 (i0 : Int) (s1 : ByteArray) (i2 : Int) (p3 : (Option Addr)) (n4 : Nat) (n5 : Nat) : Pg :=
  .act (newC [(.int .i64 i0), (.string s1), (.int .i64 i2), (.slice p3 n4 n5)]) fun v6 => asPtr v6 fun p7 => asSome p7 fun a8 => .act (ldN 4 a8) fun v9 => asAgg v9 fun l10 => asCons l10 fun v11 l12 => asInt .i64 v11 fun i13 => asCons l12 fun v14 l15 => asStr v14 fun s16 => asCons l15 fun v17 l18 => asInt .i64 v17 fun i19 => asCons l18 fun v20 l21 => asSlice v20 fun p22 n23 n24 => asNil l21 (.call 29 [(.agg #[(.int .i64 i13), (.string s16), (.int .i64 i19), (.slice p22 n23 n24)]), (.int .i64 0)] fun v25 => asInt .i64 v25 fun i26 => .ret .ret [(.int .i64 i26)])
theorem T22_eq (i0 : Int) (s1 : ByteArray) (i2 : Int) (p3 : (Option Addr)) (n4 : Nat) (n5 : Nat) : progOf PROG false 22 [(.agg #[(.int .i64 i0), (.string s1), (.int .i64 i2), (.slice p3 n4 n5)])] = T22 i0 s1 i2 p3 n4 n5 := by kernel_rfl


noncomputable def T23k0 (i51 : Int) : Ex → List Value → Pg :=
  fun e95 l96 => sw e95 .ret (asCons l96 fun v97 l98 => asBool v97 fun b99 => asNil l98 (.ret .ret [(.int .i64 i51), (.bool b99)])) (sw e95 .normal (asCons l96 fun v100 l101 => asBool v100 fun b102 => asNil l101 (.ret .normal [(.int .i64 (wi64 (i51 + 1))), (.bool b102)])) (.fail))

noncomputable def T23b0 (n46 : Nat) (p45 : (Option Addr)) : List Value → Pg :=
  fun l48 => asCons l48 fun v49 l50 => asInt .i64 v49 fun i51 => asCons l50 fun v52 l53 => asBool v52 fun b54 => asNil l53 (bif (decide (i51 < ((n46 : Nat) : Int))) then (.join (asSome p45 fun a55 => grd ((decide (0 ≤ i51)) && (decide (i51 < ((n46 : Nat) : Int)))) (.act (ldN 4 (aadd a55 ((Int.toNat i51) * 4))) fun v56 => asAgg v56 fun l57 => asCons l57 fun v58 l59 => asInt .i64 v58 fun i60 => asCons l59 fun v61 l62 => asStr v61 fun s63 => asCons l62 fun v64 l65 => asInt .i64 v64 fun i66 => asCons l65 fun v67 l68 => asSlice v67 fun p69 n70 n71 => asNil l68 (.act (newC [(.int .i64 0), (.string (bs [])), (.int .i64 0), (.slice none 0 0)]) fun v72 => asPtr v72 fun p73 => asSome p73 fun a74 => .act (stC a74 [(.int .i64 i60), (.string s63), (.int .i64 i66), (.slice p69 n70 n71)]) fun v75 => asTuple v75 fun l76 => asNil l76 (.act (ldN 4 a74) fun v77 => asAgg v77 fun l78 => asCons l78 fun v79 l80 => asInt .i64 v79 fun i81 => asCons l80 fun v82 l83 => asStr v82 fun s84 => asCons l83 fun v85 l86 => asInt .i64 v85 fun i87 => asCons l86 fun v88 l89 => asSlice v88 fun p90 n91 n92 => asNil l89 (.call 23 [(.agg #[(.int .i64 i81), (.string s84), (.int .i64 i87), (.slice p90 n91 n92)])] fun v93 => asBool v93 fun b94 => bif (!b94) then (.ret .ret [(.bool false)]) else (.ret .normal [(.bool b54)])))))) (T23k0 i51)) else (.ret (.exit 0) [(.int .i64 i51), (.bool b54)]))

noncomputable def T23k1 : Ex → List Value → Pg :=
  fun e103 l104 => sw e103 (.exit 0) (asCons l104 fun v105 l106 => asInt .i64 v105 fun i107 => asCons l106 fun v108 l109 => asBool v108 fun b110 => asNil l109 (.ret .ret [(.bool true)])) (sw e103 .ret (asCons l104 fun v111 l112 => asInt .i64 v111 fun i113 => asCons l112 fun v114 l115 => asBool v114 fun b116 => asNil l115 (.ret .ret [(.bool b116)])) (.fail))

noncomputable def T23k2 (a8 : Addr) : Ex → List Value → Pg :=
  fun e39 l40 => sw e39 .normal (asCons l40 fun v41 l42 => asBool v41 fun b43 => asNil l42 (bif b43 then (.ret .ret [(.bool false)]) else (.act (ld1 (aadd a8 3)) fun v44 => asSlice v44 fun p45 n46 n47 => .loop [(.int .i64 0), (.bool false)] (T23b0 n46 p45) (T23k1)))) (.fail)

noncomputable def T23k3 (a8 : Addr) : Ex → List Value → Pg :=
  fun e26 l27 => sw e26 .normal (asCons l27 fun v28 l29 => asBool v28 fun b30 => asNil l29 (bif b30 then (.ret .ret [(.bool false)]) else (.join (.act (ld1 (aadd a8 2)) fun v31 => asInt .i64 v31 fun i32 => bif (decide (i32 < 0)) == false then (.act (ld1 (aadd a8 2)) fun v33 => asInt .i64 v33 fun i34 => bif (decide (i34 > 1999)) == false then (.act (ld1 (aadd a8 2)) fun v35 => asInt .i64 v35 fun i36 => bif (i36 != 0) == true then (.act (ld1 (aadd a8 0)) fun v37 => asInt .i64 v37 fun i38 => .ret .normal [(.bool (i38 != 7))]) else (.ret .normal [(.bool false)])) else (.ret .normal [(.bool true)])) else (.ret .normal [(.bool true)])) (T23k2 a8)))) (.fail)

/-- hindsight/ty.alone -/
noncomputable def T23 (i0 : Int) (s1 : ByteArray) (i2 : Int) (p3 : (Option Addr)) (n4 : Nat) (n5 : Nat) : Pg :=
  .act (newC [(.int .i64 i0), (.string s1), (.int .i64 i2), (.slice p3 n4 n5)]) fun v6 => asPtr v6 fun p7 => asSome p7 fun a8 => .join (.act (ld1 (aadd a8 0)) fun v9 => asInt .i64 v9 fun i10 => bif (decide (i10 < 1)) == false then (.act (ld1 (aadd a8 0)) fun v11 => asInt .i64 v11 fun i12 => bif (decide (i12 > 7)) == false then (.act (ld1 (aadd a8 3)) fun v13 => asSlice v13 fun p14 n15 n16 => .act (ld1 (aadd a8 0)) fun v17 => asInt .i64 v17 fun i18 => .call 30 [(.int .i64 i18)] fun v19 => asInt .i64 v19 fun i20 => .get fun h25 => grd (chks [((ld1 (aadd a8 3)), v13)] h25) (bif (((n15 : Nat) : Int) != i20) == false then (.act (ld1 (aadd a8 1)) fun v21 => asStr v21 fun s22 => .act (ld1 (aadd a8 0)) fun v23 => asInt .i64 v23 fun i24 => .ret .normal [(.bool (!((!(s22.toList == (bs []).toList)) == (i24 == 4))))]) else (.ret .normal [(.bool true)]))) else (.ret .normal [(.bool true)])) else (.ret .normal [(.bool true)])) (T23k3 a8)
theorem T23_eq (i0 : Int) (s1 : ByteArray) (i2 : Int) (p3 : (Option Addr)) (n4 : Nat) (n5 : Nat) : progOf PROG false 23 [(.agg #[(.int .i64 i0), (.string s1), (.int .i64 i2), (.slice p3 n4 n5)])] = T23 i0 s1 i2 p3 n4 n5 := by kernel_rfl


noncomputable def T24k0 : Ex → List Value → Pg :=
  fun e67 l68 => sw e67 (.exit 0) (asNil l68 (.ret (.exit 0) [])) (sw e67 .normal (asNil l68 (.ret .normal [])) (.fail))

noncomputable def T24b0 (a9 : Addr) (p0 : (Option Addr)) : List Value → Pg :=
  fun l13 => asNil l13 (.act (ld1 (aadd a9 0)) fun v14 => asInt .i64 v14 fun i15 => bif (i15 == 7) then (.join (asSome p0 fun a16 => .act (ld1 (aadd a16 1)) fun v17 => asMap v17 fun m18 => .act (ld1 (aadd a9 2)) fun v19 => asInt .i64 v19 fun i20 => .act (lkp (.int .i64) (.agg #[(.int .i64 0), (.string (bs [])), (.int .i64 0), (.slice none 0 0)]) m18 (.int .i64 i20) true) fun v21 => asTuple v21 fun l22 => asCons l22 fun v23 l24 => asAgg v23 fun l25 => asCons l25 fun v26 l27 => asInt .i64 v26 fun i28 => asCons l27 fun v29 l30 => asStr v29 fun s31 => asCons l30 fun v32 l33 => asInt .i64 v32 fun i34 => asCons l33 fun v35 l36 => asSlice v35 fun p37 n38 n39 => asNil l36 (asCons l24 fun v40 l41 => asBool v40 fun b42 => asNil l41 (.act (newC [(.int .i64 0), (.string (bs [])), (.int .i64 0), (.slice none 0 0)]) fun v43 => asPtr v43 fun p44 => asSome p44 fun a45 => .get fun h66 => grd (chks [((lkp (.int .i64) (.agg #[(.int .i64 0), (.string (bs [])), (.int .i64 0), (.slice none 0 0)]) m18 (.int .i64 i20) true), v21), ((ld1 (aadd a9 2)), v19), ((ld1 (aadd a16 1)), v17)] h66) (.act (stC a45 [(.int .i64 i28), (.string s31), (.int .i64 i34), (.slice p37 n38 n39)]) fun v46 => asTuple v46 fun l47 => asNil l47 (bif (!b42) then (.ret (.exit 0) []) else (.act (ldN 4 a45) fun v48 => asAgg v48 fun l49 => asCons l49 fun v50 l51 => asInt .i64 v50 fun i52 => asCons l51 fun v53 l54 => asStr v53 fun s55 => asCons l54 fun v56 l57 => asInt .i64 v56 fun i58 => asCons l57 fun v59 l60 => asSlice v59 fun p61 n62 n63 => asNil l60 (.act (stC a9 [(.int .i64 i52), (.string s55), (.int .i64 i58), (.slice p61 n62 n63)]) fun v64 => asTuple v64 fun l65 => asNil l65 (.ret .normal [])))))))) (T24k0)) else (.ret (.exit 0) []))

noncomputable def T24k1 (a9 : Addr) (a12 : Addr) : Ex → List Value → Pg :=
  fun e69 l70 => sw e69 (.exit 0) (asNil l70 (.act (ldN 4 a9) fun v71 => asAgg v71 fun l72 => asCons l72 fun v73 l74 => asInt .i64 v73 fun i75 => asCons l74 fun v76 l77 => asStr v76 fun s78 => asCons l77 fun v79 l80 => asInt .i64 v79 fun i81 => asCons l80 fun v82 l83 => asSlice v82 fun p84 n85 n86 => asNil l83 (.act (stC a12 [(.int .i64 i75), (.string s78), (.int .i64 i81), (.slice p84 n85 n86)]) fun v87 => asTuple v87 fun l88 => asNil l88 (.act (ldN 4 a12) fun v89 => .ret .ret [v89])))) (.fail)

/-- (*hindsight/ty.Sub).head -/
noncomputable def T24 (p0 : (Option Addr)) (i1 : Int) (s2 : ByteArray) (i3 : Int) (p4 : (Option Addr)) (n5 : Nat) (n6 : Nat) : Pg :=
  .act (newC [(.int .i64 i1), (.string s2), (.int .i64 i3), (.slice p4 n5 n6)]) fun v7 => asPtr v7 fun p8 => asSome p8 fun a9 => .act (newC [(.int .i64 0), (.string (bs [])), (.int .i64 0), (.slice none 0 0)]) fun v10 => asPtr v10 fun p11 => asSome p11 fun a12 => .loop [] (T24b0 a9 p0) (T24k1 a9 a12)
theorem T24_eq (p0 : (Option Addr)) (i1 : Int) (s2 : ByteArray) (i3 : Int) (p4 : (Option Addr)) (n5 : Nat) (n6 : Nat) : progOf PROG false 24 [(.pointer p0), (.agg #[(.int .i64 i1), (.string s2), (.int .i64 i3), (.slice p4 n5 n6)])] = T24 p0 i1 s2 i3 p4 n5 n6 := by kernel_rfl


/-- (*hindsight/ty.Sub).bind -/
noncomputable def T25 (p0 : (Option Addr)) (i1 : Int) (i2 : Int) (s3 : ByteArray) (i4 : Int) (p5 : (Option Addr)) (n6 : Nat) (n7 : Nat) : Pg :=
  .act (newC [(.int .i64 i2), (.string s3), (.int .i64 i4), (.slice p5 n6 n7)]) fun v8 => asPtr v8 fun p9 => asSome p9 fun a10 => .act (ldN 4 a10) fun v11 => asAgg v11 fun l12 => asCons l12 fun v13 l14 => asInt .i64 v13 fun i15 => asCons l14 fun v16 l17 => asStr v16 fun s18 => asCons l17 fun v19 l20 => asInt .i64 v19 fun i21 => asCons l20 fun v22 l23 => asSlice v22 fun p24 n25 n26 => asNil l23 (.act makeMapAct fun v27 => asMap v27 fun m28 => .call 31 [(.pointer p0), (.int .i64 i1), (.agg #[(.int .i64 i15), (.string s18), (.int .i64 i21), (.slice p24 n25 n26)]), (.map m28)] fun v29 => asBool v29 fun b30 => bif b30 then (.ret .ret [(.int .i64 5)]) else (asSome p0 fun a31 => .act (ld1 (aadd a31 1)) fun v32 => asMap v32 fun m33 => .act (ldN 4 a10) fun v34 => asAgg v34 fun l35 => asCons l35 fun v36 l37 => asInt .i64 v36 fun i38 => asCons l37 fun v39 l40 => asStr v39 fun s41 => asCons l40 fun v42 l43 => asInt .i64 v42 fun i44 => asCons l43 fun v45 l46 => asSlice v45 fun p47 n48 n49 => asNil l46 (.act (mup (.int .i64) m33 (.int .i64 i1) (.agg #[(.int .i64 i38), (.string s41), (.int .i64 i44), (.slice p47 n48 n49)])) fun v50 => asTuple v50 fun l51 => asNil l51 (.ret .ret [(.int .i64 0)]))))
theorem T25_eq (p0 : (Option Addr)) (i1 : Int) (i2 : Int) (s3 : ByteArray) (i4 : Int) (p5 : (Option Addr)) (n6 : Nat) (n7 : Nat) : progOf PROG false 25 [(.pointer p0), (.int .i64 i1), (.agg #[(.int .i64 i2), (.string s3), (.int .i64 i4), (.slice p5 n6 n7)])] = T25 p0 i1 i2 s3 i4 p5 n6 n7 := by kernel_rfl


noncomputable def T26k0 (i52 : Int) : Ex → List Value → Pg :=
  fun e96 l97 => sw e96 (.exit 0) (asCons l97 fun v98 l99 => asInt .i64 v98 fun i100 => asNil l99 (.ret (.exit 0) [(.int .i64 i52), (.int .i64 i100)])) (sw e96 .normal (asCons l97 fun v101 l102 => asInt .i64 v101 fun i103 => asNil l102 (.ret .normal [(.int .i64 (wi64 (i52 + 1))), (.int .i64 i103)])) (.fail))

noncomputable def T26b0 (n47 : Nat) (p46 : (Option Addr)) (p0 : (Option Addr)) : List Value → Pg :=
  fun l49 => asCons l49 fun v50 l51 => asInt .i64 v50 fun i52 => asCons l51 fun v53 l54 => asInt .i64 v53 fun i55 => asNil l54 (bif (decide (i52 < ((n47 : Nat) : Int))) then (.join (asSome p46 fun a56 => grd ((decide (0 ≤ i52)) && (decide (i52 < ((n47 : Nat) : Int)))) (.act (ldN 4 (aadd a56 ((Int.toNat i52) * 4))) fun v57 => asAgg v57 fun l58 => asCons l58 fun v59 l60 => asInt .i64 v59 fun i61 => asCons l60 fun v62 l63 => asStr v62 fun s64 => asCons l63 fun v65 l66 => asInt .i64 v65 fun i67 => asCons l66 fun v68 l69 => asSlice v68 fun p70 n71 n72 => asNil l69 (.act (newC [(.int .i64 0), (.string (bs [])), (.int .i64 0), (.slice none 0 0)]) fun v73 => asPtr v73 fun p74 => asSome p74 fun a75 => .act (stC a75 [(.int .i64 i61), (.string s64), (.int .i64 i67), (.slice p70 n71 n72)]) fun v76 => asTuple v76 fun l77 => asNil l77 (bif (decide (i55 > 500)) then (.ret (.exit 0) [(.int .i64 i55)]) else (.act (ldN 4 a75) fun v78 => asAgg v78 fun l79 => asCons l79 fun v80 l81 => asInt .i64 v80 fun i82 => asCons l81 fun v83 l84 => asStr v83 fun s85 => asCons l84 fun v86 l87 => asInt .i64 v86 fun i88 => asCons l87 fun v89 l90 => asSlice v89 fun p91 n92 n93 => asNil l90 (.call 26 [(.pointer p0), (.agg #[(.int .i64 i82), (.string s85), (.int .i64 i88), (.slice p91 n92 n93)]), (.int .i64 i55)] fun v94 => asInt .i64 v94 fun i95 => .ret .normal [(.int .i64 i95)])))))) (T26k0 i52)) else (.ret (.exit 0) [(.int .i64 i52), (.int .i64 i55)]))

noncomputable def T26k1 : Ex → List Value → Pg :=
  fun e104 l105 => sw e104 (.exit 0) (asCons l105 fun v106 l107 => asInt .i64 v106 fun i108 => asCons l107 fun v109 l110 => asInt .i64 v109 fun i111 => asNil l110 (.ret .ret [(.int .i64 (minV i111 501))])) (.fail)

/-- (*hindsight/ty.Sub).size -/
noncomputable def T26 (p0 : (Option Addr)) (i1 : Int) (s2 : ByteArray) (i3 : Int) (p4 : (Option Addr)) (n5 : Nat) (n6 : Nat) (i7 : Int) : Pg :=
  .act (newC [(.int .i64 i1), (.string s2), (.int .i64 i3), (.slice p4 n5 n6)]) fun v8 => asPtr v8 fun p9 => asSome p9 fun a10 => .act (ldN 4 a10) fun v11 => asAgg v11 fun l12 => asCons l12 fun v13 l14 => asInt .i64 v13 fun i15 => asCons l14 fun v16 l17 => asStr v16 fun s18 => asCons l17 fun v19 l20 => asInt .i64 v19 fun i21 => asCons l20 fun v22 l23 => asSlice v22 fun p24 n25 n26 => asNil l23 (.call 24 [(.pointer p0), (.agg #[(.int .i64 i15), (.string s18), (.int .i64 i21), (.slice p24 n25 n26)])] fun v27 => asAgg v27 fun l28 => asCons l28 fun v29 l30 => asInt .i64 v29 fun i31 => asCons l30 fun v32 l33 => asStr v32 fun s34 => asCons l33 fun v35 l36 => asInt .i64 v35 fun i37 => asCons l36 fun v38 l39 => asSlice v38 fun p40 n41 n42 => asNil l39 (.act (stC a10 [(.int .i64 i31), (.string s34), (.int .i64 i37), (.slice p40 n41 n42)]) fun v43 => asTuple v43 fun l44 => asNil l44 (.act (ld1 (aadd a10 3)) fun v45 => asSlice v45 fun p46 n47 n48 => .loop [(.int .i64 0), (.int .i64 (wi64 (i7 + 1)))] (T26b0 n47 p46 p0) (T26k1))))
theorem T26_eq (p0 : (Option Addr)) (i1 : Int) (s2 : ByteArray) (i3 : Int) (p4 : (Option Addr)) (n5 : Nat) (n6 : Nat) (i7 : Int) : progOf PROG false 26 [(.pointer p0), (.agg #[(.int .i64 i1), (.string s2), (.int .i64 i3), (.slice p4 n5 n6)]), (.int .i64 i7)] = T26 p0 i1 s2 i3 p4 n5 n6 i7 := by kernel_rfl


noncomputable def T27k0 (i17 : Int) : Ex → List Value → Pg :=
  fun e28 l29 => sw e28 .ret (asCons l29 fun v30 l31 => asSlice v30 fun p32 n33 n34 => asNil l31 (.ret .ret [(.int .i64 i17), (.slice p32 n33 n34)])) (sw e28 .normal (asCons l29 fun v35 l36 => asSlice v35 fun p37 n38 n39 => asNil l36 (.ret .normal [(.int .i64 (wi64 (i17 + 1))), (.slice p37 n38 n39)])) (.fail))

noncomputable def T27b0 (n7 : Nat) (p6 : (Option Addr)) (a11 : Addr) (n8 : Nat) : List Value → Pg :=
  fun l14 => asCons l14 fun v15 l16 => asInt .i64 v15 fun i17 => asCons l16 fun v18 l19 => asSlice v18 fun p20 n21 n22 => asNil l19 (bif (decide (i17 < ((n7 : Nat) : Int))) then (.join (asSome p6 fun a23 => grd ((decide (0 ≤ i17)) && (decide (i17 < ((n7 : Nat) : Int)))) (.act (ld1 (aadd a23 ((Int.toNat i17) * 1))) fun v24 => asInt .i64 v24 fun i25 => .act (ld1 (aadd a11 2)) fun v26 => asInt .i64 v26 fun i27 => bif (i25 == i27) then (.ret .ret [(.slice p6 n7 n8)]) else (.ret .normal [(.slice p20 n21 n22)]))) (T27k0 i17)) else (.ret (.exit 0) [(.int .i64 i17), (.slice p20 n21 n22)]))

noncomputable def T27k1 (a11 : Addr) (p6 : (Option Addr)) (n7 : Nat) (n8 : Nat) : Ex → List Value → Pg :=
  fun e40 l41 => sw e40 (.exit 0) (asCons l41 fun v42 l43 => asInt .i64 v42 fun i44 => asCons l43 fun v45 l46 => asSlice v45 fun p47 n48 n49 => asNil l46 (.act (ld1 (aadd a11 2)) fun v50 => asInt .i64 v50 fun i51 => .act (bdSl 1 1 [(.int .i64 i51)]) fun v52 => asSlice v52 fun p53 n54 n55 => .act (apS 1 8 p6 n7 n8 p53 n54 n55) fun v56 => asSlice v56 fun p57 n58 n59 => .ret .ret [(.slice p57 n58 n59)])) (sw e40 .ret (asCons l41 fun v60 l61 => asInt .i64 v60 fun i62 => asCons l61 fun v63 l64 => asSlice v63 fun p65 n66 n67 => asNil l64 (.ret .ret [(.slice p65 n66 n67)])) (.fail))

noncomputable def T27k2 (i75 : Int) : Ex → List Value → Pg :=
  fun e123 l124 => sw e123 .normal (asCons l124 fun v125 l126 => asSlice v125 fun p127 n128 n129 => asNil l126 (.ret .normal [(.int .i64 (wi64 (i75 + 1))), (.slice p127 n128 n129)])) (.fail)

noncomputable def T27b1 (n70 : Nat) (p69 : (Option Addr)) : List Value → Pg :=
  fun l72 => asCons l72 fun v73 l74 => asInt .i64 v73 fun i75 => asCons l74 fun v76 l77 => asSlice v76 fun p78 n79 n80 => asNil l77 (bif (decide (i75 < ((n70 : Nat) : Int))) then (.join (asSome p69 fun a81 => grd ((decide (0 ≤ i75)) && (decide (i75 < ((n70 : Nat) : Int)))) (.act (ldN 4 (aadd a81 ((Int.toNat i75) * 4))) fun v82 => asAgg v82 fun l83 => asCons l83 fun v84 l85 => asInt .i64 v84 fun i86 => asCons l85 fun v87 l88 => asStr v87 fun s89 => asCons l88 fun v90 l91 => asInt .i64 v90 fun i92 => asCons l91 fun v93 l94 => asSlice v93 fun p95 n96 n97 => asNil l94 (.act (newC [(.int .i64 0), (.string (bs [])), (.int .i64 0), (.slice none 0 0)]) fun v98 => asPtr v98 fun p99 => asSome p99 fun a100 => .act (stC a100 [(.int .i64 i86), (.string s89), (.int .i64 i92), (.slice p95 n96 n97)]) fun v101 => asTuple v101 fun l102 => asNil l102 (.act (ldN 4 a100) fun v103 => asAgg v103 fun l104 => asCons l104 fun v105 l106 => asInt .i64 v105 fun i107 => asCons l106 fun v108 l109 => asStr v108 fun s110 => asCons l109 fun v111 l112 => asInt .i64 v111 fun i113 => asCons l112 fun v114 l115 => asSlice v114 fun p116 n117 n118 => asNil l115 (.call 27 [(.agg #[(.int .i64 i107), (.string s110), (.int .i64 i113), (.slice p116 n117 n118)]), (.slice p78 n79 n80)] fun v119 => asSlice v119 fun p120 n121 n122 => .ret .normal [(.slice p120 n121 n122)]))))) (T27k2 i75)) else (.ret (.exit 2) [(.int .i64 i75), (.slice p78 n79 n80)]))

noncomputable def T27k3 : Ex → List Value → Pg :=
  fun e130 l131 => sw e130 (.exit 2) (asCons l131 fun v132 l133 => asInt .i64 v132 fun i134 => asCons l133 fun v135 l136 => asSlice v135 fun p137 n138 n139 => asNil l136 (.ret .ret [(.slice p137 n138 n139)])) (.fail)

/-- hindsight/ty.vars -/
noncomputable def T27 (i0 : Int) (s1 : ByteArray) (i2 : Int) (p3 : (Option Addr)) (n4 : Nat) (n5 : Nat) (p6 : (Option Addr)) (n7 : Nat) (n8 : Nat) : Pg :=
  .act (newC [(.int .i64 i0), (.string s1), (.int .i64 i2), (.slice p3 n4 n5)]) fun v9 => asPtr v9 fun p10 => asSome p10 fun a11 => .act (ld1 (aadd a11 0)) fun v12 => asInt .i64 v12 fun i13 => bif (i13 == 7) then (.loop [(.int .i64 0), (.slice none 0 0)] (T27b0 n7 p6 a11 n8) (T27k1 a11 p6 n7 n8)) else (.act (ld1 (aadd a11 3)) fun v68 => asSlice v68 fun p69 n70 n71 => .loop [(.int .i64 0), (.slice p6 n7 n8)] (T27b1 n70 p69) (T27k3))
theorem T27_eq (i0 : Int) (s1 : ByteArray) (i2 : Int) (p3 : (Option Addr)) (n4 : Nat) (n5 : Nat) (p6 : (Option Addr)) (n7 : Nat) (n8 : Nat) : progOf PROG false 27 [(.agg #[(.int .i64 i0), (.string s1), (.int .i64 i2), (.slice p3 n4 n5)]), (.slice p6 n7 n8)] = T27 i0 s1 i2 p3 n4 n5 p6 n7 n8 := by kernel_rfl


noncomputable def T29k0 (i17 : Int) : Ex → List Value → Pg :=
  fun e61 l62 => sw e61 (.exit 0) (asCons l62 fun v63 l64 => asInt .i64 v63 fun i65 => asNil l64 (.ret (.exit 0) [(.int .i64 i17), (.int .i64 i65)])) (sw e61 .normal (asCons l62 fun v66 l67 => asInt .i64 v66 fun i68 => asNil l67 (.ret .normal [(.int .i64 (wi64 (i17 + 1))), (.int .i64 i68)])) (.fail))

noncomputable def T29b0 (n12 : Nat) (p11 : (Option Addr)) : List Value → Pg :=
  fun l14 => asCons l14 fun v15 l16 => asInt .i64 v15 fun i17 => asCons l16 fun v18 l19 => asInt .i64 v18 fun i20 => asNil l19 (bif (decide (i17 < ((n12 : Nat) : Int))) then (.join (asSome p11 fun a21 => grd ((decide (0 ≤ i17)) && (decide (i17 < ((n12 : Nat) : Int)))) (.act (ldN 4 (aadd a21 ((Int.toNat i17) * 4))) fun v22 => asAgg v22 fun l23 => asCons l23 fun v24 l25 => asInt .i64 v24 fun i26 => asCons l25 fun v27 l28 => asStr v27 fun s29 => asCons l28 fun v30 l31 => asInt .i64 v30 fun i32 => asCons l31 fun v33 l34 => asSlice v33 fun p35 n36 n37 => asNil l34 (.act (newC [(.int .i64 0), (.string (bs [])), (.int .i64 0), (.slice none 0 0)]) fun v38 => asPtr v38 fun p39 => asSome p39 fun a40 => .act (stC a40 [(.int .i64 i26), (.string s29), (.int .i64 i32), (.slice p35 n36 n37)]) fun v41 => asTuple v41 fun l42 => asNil l42 (bif (decide (i20 > 500)) then (.ret (.exit 0) [(.int .i64 i20)]) else (.act (ldN 4 a40) fun v43 => asAgg v43 fun l44 => asCons l44 fun v45 l46 => asInt .i64 v45 fun i47 => asCons l46 fun v48 l49 => asStr v48 fun s50 => asCons l49 fun v51 l52 => asInt .i64 v51 fun i53 => asCons l52 fun v54 l55 => asSlice v54 fun p56 n57 n58 => asNil l55 (.call 29 [(.agg #[(.int .i64 i47), (.string s50), (.int .i64 i53), (.slice p56 n57 n58)]), (.int .i64 i20)] fun v59 => asInt .i64 v59 fun i60 => .ret .normal [(.int .i64 i60)])))))) (T29k0 i17)) else (.ret (.exit 0) [(.int .i64 i17), (.int .i64 i20)]))

noncomputable def T29k1 : Ex → List Value → Pg :=
  fun e69 l70 => sw e69 (.exit 0) (asCons l70 fun v71 l72 => asInt .i64 v71 fun i73 => asCons l72 fun v74 l75 => asInt .i64 v74 fun i76 => asNil l75 (.ret .ret [(.int .i64 (minV i76 501))])) (.fail)

/-- hindsight/ty.measure -/
noncomputable def T29 (i0 : Int) (s1 : ByteArray) (i2 : Int) (p3 : (Option Addr)) (n4 : Nat) (n5 : Nat) (i6 : Int) : Pg :=
  .act (newC [(.int .i64 i0), (.string s1), (.int .i64 i2), (.slice p3 n4 n5)]) fun v7 => asPtr v7 fun p8 => asSome p8 fun a9 => .act (ld1 (aadd a9 3)) fun v10 => asSlice v10 fun p11 n12 n13 => .loop [(.int .i64 0), (.int .i64 (wi64 (i6 + 1)))] (T29b0 n12 p11) (T29k1)
theorem T29_eq (i0 : Int) (s1 : ByteArray) (i2 : Int) (p3 : (Option Addr)) (n4 : Nat) (n5 : Nat) (i6 : Int) : progOf PROG false 29 [(.agg #[(.int .i64 i0), (.string s1), (.int .i64 i2), (.slice p3 n4 n5)]), (.int .i64 i6)] = T29 i0 s1 i2 p3 n4 n5 i6 := by kernel_rfl


noncomputable def T30k0 : Ex → List Value → Pg :=
  fun e1 l2 => sw e1 .ret (asCons l2 fun v3 l4 => asInt .i64 v3 fun i5 => asNil l4 (.ret .ret [(.int .i64 i5)])) (sw e1 .normal (asCons l2 fun v6 l7 => asInt .i64 v6 fun i8 => asNil l7 (.ret .ret [(.int .i64 0)])) (.fail))

/-- hindsight/ty.args -/
noncomputable def T30 (i0 : Int) : Pg :=
  .join (bif (i0 == 5) then (.ret .ret [(.int .i64 2)]) else (bif (i0 == 6) then (.ret .ret [(.int .i64 1)]) else (.ret .normal [(.int .i64 0)]))) (T30k0)
theorem T30_eq (i0 : Int) : progOf PROG false 30 [(.int .i64 i0)] = T30 i0 := by kernel_rfl


noncomputable def T31k0 : Ex → List Value → Pg :=
  fun e74 l75 => sw e74 .normal (asCons l75 fun v76 l77 => asBool v76 fun b78 => asNil l77 (.ret .ret [(.bool b78)])) (.fail)

noncomputable def T31k1 (i87 : Int) : Ex → List Value → Pg :=
  fun e131 l132 => sw e131 .ret (asCons l132 fun v133 l134 => asBool v133 fun b135 => asNil l134 (.ret .ret [(.int .i64 i87), (.bool b135)])) (sw e131 .normal (asCons l132 fun v136 l137 => asBool v136 fun b138 => asNil l137 (.ret .normal [(.int .i64 (wi64 (i87 + 1))), (.bool b138)])) (.fail))

noncomputable def T31b0 (n82 : Nat) (p81 : (Option Addr)) (p0 : (Option Addr)) (i1 : Int) (m8 : (Option Nat)) : List Value → Pg :=
  fun l84 => asCons l84 fun v85 l86 => asInt .i64 v85 fun i87 => asCons l86 fun v88 l89 => asBool v88 fun b90 => asNil l89 (bif (decide (i87 < ((n82 : Nat) : Int))) then (.join (asSome p81 fun a91 => grd ((decide (0 ≤ i87)) && (decide (i87 < ((n82 : Nat) : Int)))) (.act (ldN 4 (aadd a91 ((Int.toNat i87) * 4))) fun v92 => asAgg v92 fun l93 => asCons l93 fun v94 l95 => asInt .i64 v94 fun i96 => asCons l95 fun v97 l98 => asStr v97 fun s99 => asCons l98 fun v100 l101 => asInt .i64 v100 fun i102 => asCons l101 fun v103 l104 => asSlice v103 fun p105 n106 n107 => asNil l104 (.act (newC [(.int .i64 0), (.string (bs [])), (.int .i64 0), (.slice none 0 0)]) fun v108 => asPtr v108 fun p109 => asSome p109 fun a110 => .act (stC a110 [(.int .i64 i96), (.string s99), (.int .i64 i102), (.slice p105 n106 n107)]) fun v111 => asTuple v111 fun l112 => asNil l112 (.act (ldN 4 a110) fun v113 => asAgg v113 fun l114 => asCons l114 fun v115 l116 => asInt .i64 v115 fun i117 => asCons l116 fun v118 l119 => asStr v118 fun s120 => asCons l119 fun v121 l122 => asInt .i64 v121 fun i123 => asCons l122 fun v124 l125 => asSlice v124 fun p126 n127 n128 => asNil l125 (.call 31 [(.pointer p0), (.int .i64 i1), (.agg #[(.int .i64 i117), (.string s120), (.int .i64 i123), (.slice p126 n127 n128)]), (.map m8)] fun v129 => asBool v129 fun b130 => bif b130 then (.ret .ret [(.bool true)]) else (.ret .normal [(.bool b90)])))))) (T31k1 i87)) else (.ret (.exit 0) [(.int .i64 i87), (.bool b90)]))

noncomputable def T31k2 : Ex → List Value → Pg :=
  fun e139 l140 => sw e139 (.exit 0) (asCons l140 fun v141 l142 => asInt .i64 v141 fun i143 => asCons l142 fun v144 l145 => asBool v144 fun b146 => asNil l145 (.ret .ret [(.bool false)])) (sw e139 .ret (asCons l140 fun v147 l148 => asInt .i64 v147 fun i149 => asCons l148 fun v150 l151 => asBool v150 fun b152 => asNil l151 (.ret .ret [(.bool b152)])) (.fail))

/-- (*hindsight/ty.Sub).within -/
noncomputable def T31 (p0 : (Option Addr)) (i1 : Int) (i2 : Int) (s3 : ByteArray) (i4 : Int) (p5 : (Option Addr)) (n6 : Nat) (n7 : Nat) (m8 : (Option Nat)) : Pg :=
  .act (newC [(.int .i64 i2), (.string s3), (.int .i64 i4), (.slice p5 n6 n7)]) fun v9 => asPtr v9 fun p10 => asSome p10 fun a11 => .act (ld1 (aadd a11 0)) fun v12 => asInt .i64 v12 fun i13 => bif (i13 == 7) then (.act (ld1 (aadd a11 2)) fun v14 => asInt .i64 v14 fun i15 => .act (lkp (.int .i64) (.bool false) m8 (.int .i64 i15) false) fun v16 => asBool v16 fun b17 => bif b17 then (.ret .ret [(.bool false)]) else (.act (ld1 (aadd a11 2)) fun v18 => asInt .i64 v18 fun i19 => .act (mup (.int .i64) m8 (.int .i64 i19) (.bool true)) fun v20 => asTuple v20 fun l21 => asNil l21 (asSome p0 fun a22 => .act (ld1 (aadd a22 1)) fun v23 => asMap v23 fun m24 => .act (ld1 (aadd a11 2)) fun v25 => asInt .i64 v25 fun i26 => .act (lkp (.int .i64) (.agg #[(.int .i64 0), (.string (bs [])), (.int .i64 0), (.slice none 0 0)]) m24 (.int .i64 i26) true) fun v27 => asTuple v27 fun l28 => asCons l28 fun v29 l30 => asAgg v29 fun l31 => asCons l31 fun v32 l33 => asInt .i64 v32 fun i34 => asCons l33 fun v35 l36 => asStr v35 fun s37 => asCons l36 fun v38 l39 => asInt .i64 v38 fun i40 => asCons l39 fun v41 l42 => asSlice v41 fun p43 n44 n45 => asNil l42 (asCons l30 fun v46 l47 => asBool v46 fun b48 => asNil l47 (.act (newC [(.int .i64 0), (.string (bs [])), (.int .i64 0), (.slice none 0 0)]) fun v49 => asPtr v49 fun p50 => asSome p50 fun a51 => .get fun h79 => grd (chks [((lkp (.int .i64) (.agg #[(.int .i64 0), (.string (bs [])), (.int .i64 0), (.slice none 0 0)]) m24 (.int .i64 i26) true), v27), ((ld1 (aadd a11 2)), v25), ((ld1 (aadd a22 1)), v23)] h79) (.act (stC a51 [(.int .i64 i34), (.string s37), (.int .i64 i40), (.slice p43 n44 n45)]) fun v52 => asTuple v52 fun l53 => asNil l53 (.join (.act (ld1 (aadd a11 2)) fun v54 => asInt .i64 v54 fun i55 => bif (i55 == i1) == false then (bif b48 == true then (.act (ldN 4 a51) fun v56 => asAgg v56 fun l57 => asCons l57 fun v58 l59 => asInt .i64 v58 fun i60 => asCons l59 fun v61 l62 => asStr v61 fun s63 => asCons l62 fun v64 l65 => asInt .i64 v64 fun i66 => asCons l65 fun v67 l68 => asSlice v67 fun p69 n70 n71 => asNil l68 (.call 31 [(.pointer p0), (.int .i64 i1), (.agg #[(.int .i64 i60), (.string s63), (.int .i64 i66), (.slice p69 n70 n71)]), (.map m8)] fun v72 => asBool v72 fun b73 => .ret .normal [(.bool b73)])) else (.ret .normal [(.bool false)])) else (.ret .normal [(.bool true)])) (T31k0)))))))) else (.act (ld1 (aadd a11 3)) fun v80 => asSlice v80 fun p81 n82 n83 => .loop [(.int .i64 0), (.bool false)] (T31b0 n82 p81 p0 i1 m8) (T31k2))
theorem T31_eq (p0 : (Option Addr)) (i1 : Int) (i2 : Int) (s3 : ByteArray) (i4 : Int) (p5 : (Option Addr)) (n6 : Nat) (n7 : Nat) (m8 : (Option Nat)) : progOf PROG false 31 [(.pointer p0), (.int .i64 i1), (.agg #[(.int .i64 i2), (.string s3), (.int .i64 i4), (.slice p5 n6 n7)]), (.map m8)] = T31 p0 i1 i2 s3 i4 p5 n6 n7 m8 := by kernel_rfl

noncomputable def A3 : List Value → Option Pg
  | [(.slice p0 n1 n2), (.int .i64 i3)] => some (T3 p0 n1 n2 i3)
  | _ => none
theorem A3_ok : ∀ args p, A3 args = some p → progOf PROG false 3 args = p := by
  intro args p h
  unfold A3 at h
  split at h
  · cases h; exact T3_eq _ _ _ _
  · cases h
noncomputable def A4 : List Value → Option Pg
  | [] => some (T4)
  | _ => none
theorem A4_ok : ∀ args p, A4 args = some p → progOf PROG false 4 args = p := by
  intro args p h
  unfold A4 at h
  split at h
  · cases h; exact T4_eq 
  · cases h
noncomputable def A5 : List Value → Option Pg
  | [] => some (T5)
  | _ => none
theorem A5_ok : ∀ args p, A5 args = some p → progOf PROG false 5 args = p := by
  intro args p h
  unfold A5 at h
  split at h
  · cases h; exact T5_eq 
  · cases h
noncomputable def A6 : List Value → Option Pg
  | [(.pointer p0)] => some (T6 p0)
  | _ => none
theorem A6_ok : ∀ args p, A6 args = some p → progOf PROG false 6 args = p := by
  intro args p h
  unfold A6 at h
  split at h
  · cases h; exact T6_eq _
  · cases h
noncomputable def A7 : List Value → Option Pg
  | [(.agg c0), (.agg c1)] => (match c0.toList with
    | [(.int .i64 i0), (.string s1), (.int .i64 i2), (.slice p3 n4 n5)] => (match c1.toList with
    | [(.int .i64 i6), (.string s7), (.int .i64 i8), (.slice p9 n10 n11)] => some (T7 i0 s1 i2 p3 n4 n5 i6 s7 i8 p9 n10 n11)
    | _ => none)
    | _ => none)
  | _ => none
theorem A7_ok : ∀ args p, A7 args = some p → progOf PROG false 7 args = p := by
  intro args p h
  unfold A7 at h
  split at h
  · split at h
    · split at h
      · rename_i e0 d1 x1_0 x1_1 x1_2 x1_3 x1_4 x1_5 e1
        have f0 := agg_of e0
        subst f0
        have f1 := agg_of e1
        subst f1
        cases h
        exact T7_eq _ _ _ _ _ _ _ _ _ _ _ _
      · cases h
    · cases h
  · cases h
noncomputable def A8 : List Value → Option Pg
  | [(.int .i64 i0)] => some (T8 i0)
  | _ => none
theorem A8_ok : ∀ args p, A8 args = some p → progOf PROG false 8 args = p := by
  intro args p h
  unfold A8 at h
  split at h
  · cases h; exact T8_eq _
  · cases h
noncomputable def A9 : List Value → Option Pg
  | [(.pointer p0), (.agg c0)] => (match c0.toList with
    | [(.int .i64 i1), (.string s2), (.int .i64 i3), (.slice p4 n5 n6)] => some (T9 p0 i1 s2 i3 p4 n5 n6)
    | _ => none)
  | _ => none
theorem A9_ok : ∀ args p, A9 args = some p → progOf PROG false 9 args = p := by
  intro args p h
  unfold A9 at h
  split at h
  · split at h
    · rename_i e0
      have f0 := agg_of e0
      subst f0
      cases h
      exact T9_eq _ _ _ _ _ _ _
    · cases h
  · cases h
noncomputable def A10 : List Value → Option Pg
  | [(.agg c0), (.int .i64 i6)] => (match c0.toList with
    | [(.int .i64 i0), (.string s1), (.int .i64 i2), (.slice p3 n4 n5)] => some (T10 i0 s1 i2 p3 n4 n5 i6)
    | _ => none)
  | _ => none
theorem A10_ok : ∀ args p, A10 args = some p → progOf PROG false 10 args = p := by
  intro args p h
  unfold A10 at h
  split at h
  · split at h
    · rename_i e0
      have f0 := agg_of e0
      subst f0
      cases h
      exact T10_eq _ _ _ _ _ _ _
    · cases h
  · cases h
noncomputable def A12 : List Value → Option Pg
  | [(.agg c0), (.agg c1)] => (match c0.toList with
    | [(.int .i64 i0), (.string s1), (.int .i64 i2), (.slice p3 n4 n5)] => (match c1.toList with
    | [(.int .i64 i6), (.string s7), (.int .i64 i8), (.slice p9 n10 n11)] => some (T12 i0 s1 i2 p3 n4 n5 i6 s7 i8 p9 n10 n11)
    | _ => none)
    | _ => none)
  | _ => none
theorem A12_ok : ∀ args p, A12 args = some p → progOf PROG false 12 args = p := by
  intro args p h
  unfold A12 at h
  split at h
  · split at h
    · split at h
      · rename_i e0 d1 x1_0 x1_1 x1_2 x1_3 x1_4 x1_5 e1
        have f0 := agg_of e0
        subst f0
        have f1 := agg_of e1
        subst f1
        cases h
        exact T12_eq _ _ _ _ _ _ _ _ _ _ _ _
      · cases h
    · cases h
  · cases h
noncomputable def A13 : List Value → Option Pg
  | [(.agg c0)] => (match c0.toList with
    | [(.int .i64 i0), (.string s1), (.int .i64 i2), (.slice p3 n4 n5)] => some (T13 i0 s1 i2 p3 n4 n5)
    | _ => none)
  | _ => none
theorem A13_ok : ∀ args p, A13 args = some p → progOf PROG false 13 args = p := by
  intro args p h
  unfold A13 at h
  split at h
  · split at h
    · rename_i e0
      have f0 := agg_of e0
      subst f0
      cases h
      exact T13_eq _ _ _ _ _ _
    · cases h
  · cases h
noncomputable def A14 : List Value → Option Pg
  | [(.agg c0)] => (match c0.toList with
    | [(.int .i64 i0), (.string s1), (.int .i64 i2), (.slice p3 n4 n5)] => some (T14 i0 s1 i2 p3 n4 n5)
    | _ => none)
  | _ => none
theorem A14_ok : ∀ args p, A14 args = some p → progOf PROG false 14 args = p := by
  intro args p h
  unfold A14 at h
  split at h
  · split at h
    · rename_i e0
      have f0 := agg_of e0
      subst f0
      cases h
      exact T14_eq _ _ _ _ _ _
    · cases h
  · cases h
noncomputable def A15 : List Value → Option Pg
  | [(.pointer p0), (.agg c0)] => (match c0.toList with
    | [(.int .i64 i1), (.string s2), (.int .i64 i3), (.slice p4 n5 n6)] => some (T15 p0 i1 s2 i3 p4 n5 n6)
    | _ => none)
  | _ => none
theorem A15_ok : ∀ args p, A15 args = some p → progOf PROG false 15 args = p := by
  intro args p h
  unfold A15 at h
  split at h
  · split at h
    · rename_i e0
      have f0 := agg_of e0
      subst f0
      cases h
      exact T15_eq _ _ _ _ _ _ _
    · cases h
  · cases h
noncomputable def A17 : List Value → Option Pg
  | [(.pointer p0), (.agg c0), (.agg c1)] => (match c0.toList with
    | [(.int .i64 i1), (.string s2), (.int .i64 i3), (.slice p4 n5 n6)] => (match c1.toList with
    | [(.int .i64 i7), (.string s8), (.int .i64 i9), (.slice p10 n11 n12)] => some (T17 p0 i1 s2 i3 p4 n5 n6 i7 s8 i9 p10 n11 n12)
    | _ => none)
    | _ => none)
  | _ => none
theorem A17_ok : ∀ args p, A17 args = some p → progOf PROG false 17 args = p := by
  intro args p h
  unfold A17 at h
  split at h
  · split at h
    · split at h
      · rename_i e0 d1 x1_0 x1_1 x1_2 x1_3 x1_4 x1_5 e1
        have f0 := agg_of e0
        subst f0
        have f1 := agg_of e1
        subst f1
        cases h
        exact T17_eq _ _ _ _ _ _ _ _ _ _ _ _ _
      · cases h
    · cases h
  · cases h
noncomputable def A18 : List Value → Option Pg
  | [(.pointer p0), (.agg c0)] => (match c0.toList with
    | [(.int .i64 i1), (.string s2), (.int .i64 i3), (.slice p4 n5 n6)] => some (T18 p0 i1 s2 i3 p4 n5 n6)
    | _ => none)
  | _ => none
theorem A18_ok : ∀ args p, A18 args = some p → progOf PROG false 18 args = p := by
  intro args p h
  unfold A18 at h
  split at h
  · split at h
    · rename_i e0
      have f0 := agg_of e0
      subst f0
      cases h
      exact T18_eq _ _ _ _ _ _ _
    · cases h
  · cases h
noncomputable def A19 : List Value → Option Pg
  | [(.agg c0)] => (match c0.toList with
    | [(.int .i64 i0), (.string s1), (.int .i64 i2), (.slice p3 n4 n5)] => some (T19 i0 s1 i2 p3 n4 n5)
    | _ => none)
  | _ => none
theorem A19_ok : ∀ args p, A19 args = some p → progOf PROG false 19 args = p := by
  intro args p h
  unfold A19 at h
  split at h
  · split at h
    · rename_i e0
      have f0 := agg_of e0
      subst f0
      cases h
      exact T19_eq _ _ _ _ _ _
    · cases h
  · cases h
noncomputable def A20 : List Value → Option Pg
  | [(.int .i64 i0)] => some (T20 i0)
  | _ => none
theorem A20_ok : ∀ args p, A20 args = some p → progOf PROG false 20 args = p := by
  intro args p h
  unfold A20 at h
  split at h
  · cases h; exact T20_eq _
  · cases h
noncomputable def A21 : List Value → Option Pg
  | [(.agg c0), (.map m6)] => (match c0.toList with
    | [(.int .i64 i0), (.string s1), (.int .i64 i2), (.slice p3 n4 n5)] => some (T21 i0 s1 i2 p3 n4 n5 m6)
    | _ => none)
  | _ => none
theorem A21_ok : ∀ args p, A21 args = some p → progOf PROG false 21 args = p := by
  intro args p h
  unfold A21 at h
  split at h
  · split at h
    · rename_i e0
      have f0 := agg_of e0
      subst f0
      cases h
      exact T21_eq _ _ _ _ _ _ _
    · cases h
  · cases h
noncomputable def A22 : List Value → Option Pg
  | [(.agg c0)] => (match c0.toList with
    | [(.int .i64 i0), (.string s1), (.int .i64 i2), (.slice p3 n4 n5)] => some (T22 i0 s1 i2 p3 n4 n5)
    | _ => none)
  | _ => none
theorem A22_ok : ∀ args p, A22 args = some p → progOf PROG false 22 args = p := by
  intro args p h
  unfold A22 at h
  split at h
  · split at h
    · rename_i e0
      have f0 := agg_of e0
      subst f0
      cases h
      exact T22_eq _ _ _ _ _ _
    · cases h
  · cases h
noncomputable def A23 : List Value → Option Pg
  | [(.agg c0)] => (match c0.toList with
    | [(.int .i64 i0), (.string s1), (.int .i64 i2), (.slice p3 n4 n5)] => some (T23 i0 s1 i2 p3 n4 n5)
    | _ => none)
  | _ => none
theorem A23_ok : ∀ args p, A23 args = some p → progOf PROG false 23 args = p := by
  intro args p h
  unfold A23 at h
  split at h
  · split at h
    · rename_i e0
      have f0 := agg_of e0
      subst f0
      cases h
      exact T23_eq _ _ _ _ _ _
    · cases h
  · cases h
noncomputable def A24 : List Value → Option Pg
  | [(.pointer p0), (.agg c0)] => (match c0.toList with
    | [(.int .i64 i1), (.string s2), (.int .i64 i3), (.slice p4 n5 n6)] => some (T24 p0 i1 s2 i3 p4 n5 n6)
    | _ => none)
  | _ => none
theorem A24_ok : ∀ args p, A24 args = some p → progOf PROG false 24 args = p := by
  intro args p h
  unfold A24 at h
  split at h
  · split at h
    · rename_i e0
      have f0 := agg_of e0
      subst f0
      cases h
      exact T24_eq _ _ _ _ _ _ _
    · cases h
  · cases h
noncomputable def A25 : List Value → Option Pg
  | [(.pointer p0), (.int .i64 i1), (.agg c0)] => (match c0.toList with
    | [(.int .i64 i2), (.string s3), (.int .i64 i4), (.slice p5 n6 n7)] => some (T25 p0 i1 i2 s3 i4 p5 n6 n7)
    | _ => none)
  | _ => none
theorem A25_ok : ∀ args p, A25 args = some p → progOf PROG false 25 args = p := by
  intro args p h
  unfold A25 at h
  split at h
  · split at h
    · rename_i e0
      have f0 := agg_of e0
      subst f0
      cases h
      exact T25_eq _ _ _ _ _ _ _ _
    · cases h
  · cases h
noncomputable def A26 : List Value → Option Pg
  | [(.pointer p0), (.agg c0), (.int .i64 i7)] => (match c0.toList with
    | [(.int .i64 i1), (.string s2), (.int .i64 i3), (.slice p4 n5 n6)] => some (T26 p0 i1 s2 i3 p4 n5 n6 i7)
    | _ => none)
  | _ => none
theorem A26_ok : ∀ args p, A26 args = some p → progOf PROG false 26 args = p := by
  intro args p h
  unfold A26 at h
  split at h
  · split at h
    · rename_i e0
      have f0 := agg_of e0
      subst f0
      cases h
      exact T26_eq _ _ _ _ _ _ _ _
    · cases h
  · cases h
noncomputable def A27 : List Value → Option Pg
  | [(.agg c0), (.slice p6 n7 n8)] => (match c0.toList with
    | [(.int .i64 i0), (.string s1), (.int .i64 i2), (.slice p3 n4 n5)] => some (T27 i0 s1 i2 p3 n4 n5 p6 n7 n8)
    | _ => none)
  | _ => none
theorem A27_ok : ∀ args p, A27 args = some p → progOf PROG false 27 args = p := by
  intro args p h
  unfold A27 at h
  split at h
  · split at h
    · rename_i e0
      have f0 := agg_of e0
      subst f0
      cases h
      exact T27_eq _ _ _ _ _ _ _ _ _
    · cases h
  · cases h
noncomputable def A29 : List Value → Option Pg
  | [(.agg c0), (.int .i64 i6)] => (match c0.toList with
    | [(.int .i64 i0), (.string s1), (.int .i64 i2), (.slice p3 n4 n5)] => some (T29 i0 s1 i2 p3 n4 n5 i6)
    | _ => none)
  | _ => none
theorem A29_ok : ∀ args p, A29 args = some p → progOf PROG false 29 args = p := by
  intro args p h
  unfold A29 at h
  split at h
  · split at h
    · rename_i e0
      have f0 := agg_of e0
      subst f0
      cases h
      exact T29_eq _ _ _ _ _ _ _
    · cases h
  · cases h
noncomputable def A30 : List Value → Option Pg
  | [(.int .i64 i0)] => some (T30 i0)
  | _ => none
theorem A30_ok : ∀ args p, A30 args = some p → progOf PROG false 30 args = p := by
  intro args p h
  unfold A30 at h
  split at h
  · cases h; exact T30_eq _
  · cases h
noncomputable def A31 : List Value → Option Pg
  | [(.pointer p0), (.int .i64 i1), (.agg c0), (.map m8)] => (match c0.toList with
    | [(.int .i64 i2), (.string s3), (.int .i64 i4), (.slice p5 n6 n7)] => some (T31 p0 i1 i2 s3 i4 p5 n6 n7 m8)
    | _ => none)
  | _ => none
theorem A31_ok : ∀ args p, A31 args = some p → progOf PROG false 31 args = p := by
  intro args p h
  unfold A31 at h
  split at h
  · split at h
    · rename_i e0
      have f0 := agg_of e0
      subst f0
      cases h
      exact T31_eq _ _ _ _ _ _ _ _ _
    · cases h
  · cases h
noncomputable def TAB : Tab := (.low 17 (.low 8 (.low 5 (.one 3 A3 (.one 4 A4 (.one 5 A5 .nil))) (.one 6 A6 (.one 7 A7 (.one 8 A8 .nil)))) (.low 12 (.one 9 A9 (.one 10 A10 (.one 12 A12 .nil))) (.low 14 (.one 13 A13 (.one 14 A14 .nil)) (.one 15 A15 (.one 17 A17 .nil))))) (.low 23 (.low 20 (.one 18 A18 (.one 19 A19 (.one 20 A20 .nil))) (.one 21 A21 (.one 22 A22 (.one 23 A23 .nil)))) (.low 26 (.one 24 A24 (.one 25 A25 (.one 26 A26 .nil))) (.low 29 (.one 27 A27 (.one 29 A29 .nil)) (.one 30 A30 (.one 31 A31 .nil))))))
theorem TAB_ok : TabOK PROG TAB := (.low (.low (.low (.one A3_ok (.one A4_ok (.one A5_ok .nil))) (.one A6_ok (.one A7_ok (.one A8_ok .nil)))) (.low (.one A9_ok (.one A10_ok (.one A12_ok .nil))) (.low (.one A13_ok (.one A14_ok .nil)) (.one A15_ok (.one A17_ok .nil))))) (.low (.low (.one A18_ok (.one A19_ok (.one A20_ok .nil))) (.one A21_ok (.one A22_ok (.one A23_ok .nil)))) (.low (.one A24_ok (.one A25_ok (.one A26_ok .nil))) (.low (.one A27_ok (.one A29_ok .nil)) (.one A30_ok (.one A31_ok .nil))))))

end Go.Pg
