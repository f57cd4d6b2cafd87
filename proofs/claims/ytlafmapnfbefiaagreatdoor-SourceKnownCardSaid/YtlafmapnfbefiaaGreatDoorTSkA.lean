/- The trees of the functions that the law reaches, written out by program; each is shown to be the function's own; then their table. -/
import Derived.Test.YtlafmapnfbefiaaGreatDoorProg
import Derived.KernelRfl
import Derived.Test.YtlafmapnfbefiaaGreatDoorPg3
namespace Go.Pg
open Go.Proofs
set_option linter.unusedVariables false
set_option maxRecDepth 100000
noncomputable abbrev PROG : Program := Tryz.prog

noncomputable def T9k0 : Ex → List Value → Pg :=
  fun e49 l50 => sw e49 .normal (asCons l50 fun v51 l52 => asBool v51 fun b53 => asNil l52 (.ret .ret [(.bool b53)])) (.fail)

/-- hindsight/hindsightlaw10.awake -/
noncomputable def T9 : Pg :=
  .call 18 [(.string (bs [112, 114, 105, 110, 116, 32, 40, 49, 32, 43, 32, 50, 41])), (.slice none 0 0)] fun v0 => asPtr v0 fun p1 => bif (Option.isNone p1) then (.ret .ret [(.bool false)]) else (.call 19 [(.pointer p1)] fun v2 => asTuple v2 fun l3 => asCons l3 fun v4 l5 => asAgg v4 fun l6 => asCons l6 fun v7 l8 => asInt .i64 v7 fun i9 => asCons l8 fun v10 l11 => asInt .i64 v10 fun i12 => asCons l11 fun v13 l14 => asStr v13 fun s15 => asCons l14 fun v16 l17 => asSlice v16 fun p18 n19 n20 => asCons l17 fun v21 l22 => asInt .i64 v21 fun i23 => asCons l22 fun v24 l25 => asPtr v24 fun p26 => asCons l25 fun v27 l28 => asInt .i64 v27 fun i29 => asNil l28 (asCons l5 fun v30 l31 => asBool v30 fun b32 => asNil l31 (.act (newC [(.int .i64 0), (.int .i64 0), (.string (bs [])), (.slice none 0 0), (.int .i64 0), (.pointer none), (.int .i64 0)]) fun v33 => asPtr v33 fun p34 => asSome p34 fun a35 => .act (stC a35 [(.int .i64 i9), (.int .i64 i12), (.string s15), (.slice p18 n19 n20), (.int .i64 i23), (.pointer p26), (.int .i64 i29)]) fun v36 => asTuple v36 fun l37 => asNil l37 (.call 20 [(.pointer p1)] fun v38 => asSlice v38 fun p39 n40 n41 => .join (.call 21 [(.pointer p1)] fun v42 => asInt .i64 v42 fun i43 => bif ((i43 == 1) && b32) == true then (.act (ld1 (aadd a35 0)) fun v44 => asInt .i64 v44 fun i45 => bif (i45 == 3) == true then (bif (((n40 : Nat) : Int) == 1) == true then (asSome p39 fun a46 => grd (decide (0 < ((n40 : Nat) : Int))) (.act (ld1 (aadd a46 0)) fun v47 => asInt .i64 v47 fun i48 => .ret .normal [(.bool (i48 == 3))])) else (.ret .normal [(.bool false)])) else (.ret .normal [(.bool false)])) else (.ret .normal [(.bool false)])) (T9k0)))))
theorem T9_eq : progOf PROG false 9 [] = T9 := by kernel_rfl


noncomputable def T10k0 (a11 : Addr) (p6 : (Option Addr)) (n7 : Nat) (n8 : Nat) : Ex → List Value → Pg :=
  fun e28 l29 => sw e28 .normal (asCons l29 fun v30 l31 => asBool v30 fun b32 => asNil l31 (bif b32 then (.ret .ret [(.tuple #[(.pointer none), (.int .i64 1)])]) else (.act (ldN 2 a11) fun v33 => asAgg v33 fun l34 => asCons l34 fun v35 l36 => asSlice v35 fun p37 n38 n39 => asCons l36 fun v40 l41 => asSlice v40 fun p42 n43 n44 => asNil l41 (.call 25 [(.slice p6 n7 n8)] fun v45 => asSlice v45 fun p46 n47 n48 => .get fun h52 => grd (chks [((ldN 2 a11), v33)] h52) (.act (newC [(.slice p37 n38 n39), (.slice p42 n43 n44), (.slice p46 n47 n48), (.int .i64 0), (.slice none 0 0), (.slice none 0 0), (.slice none 0 0), (.int .i64 0), (.int .i64 0), (.int .i64 0), (.int .i64 0), (.bool false), (.int .i64 0), (.int .i64 0), (.string (bs [])), (.slice none 0 0), (.int .i64 0), (.pointer none), (.int .i64 0), (.int .i64 0), (.pointer none), (.pointer none), (.pointer none)]) fun v49 => asPtr v49 fun p50 => asSome p50 fun a51 => .ret .ret [(.tuple #[(.pointer (some a51)), (.int .i64 0)])]))))) (.fail)

/-- hindsight/source.New -/
noncomputable def T10 (p0 : (Option Addr)) (n1 : Nat) (n2 : Nat) (p3 : (Option Addr)) (n4 : Nat) (n5 : Nat) (p6 : (Option Addr)) (n7 : Nat) (n8 : Nat) : Pg :=
  .act (newC [(.slice p0 n1 n2), (.slice p3 n4 n5)]) fun v9 => asPtr v9 fun p10 => asSome p10 fun a11 => .join (.act (ldN 2 a11) fun v12 => asAgg v12 fun l13 => asCons l13 fun v14 l15 => asSlice v14 fun p16 n17 n18 => asCons l15 fun v19 l20 => asSlice v19 fun p21 n22 n23 => asNil l20 (.call 14 [(.agg #[(.slice p16 n17 n18), (.slice p21 n22 n23)])] fun v24 => asBool v24 fun b25 => bif (!b25) == false then (bif (decide (((n7 : Nat) : Int) > 200)) == false then (.call 24 [(.slice p6 n7 n8), (.func (.func 22) #[] #[])] fun v26 => asBool v26 fun b27 => .ret .normal [(.bool b27)]) else (.ret .normal [(.bool true)])) else (.ret .normal [(.bool true)]))) (T10k0 a11 p6 n7 n8)
theorem T10_eq (p0 : (Option Addr)) (n1 : Nat) (n2 : Nat) (p3 : (Option Addr)) (n4 : Nat) (n5 : Nat) (p6 : (Option Addr)) (n7 : Nat) (n8 : Nat) : progOf PROG false 10 [(.agg #[(.slice p0 n1 n2), (.slice p3 n4 n5)]), (.slice p6 n7 n8)] = T10 p0 n1 n2 p3 n4 n5 p6 n7 n8 := by kernel_rfl


noncomputable def T11k0 (i41 : Int) : Ex → List Value → Pg :=
  fun e124 l125 => sw e124 .normal (asNil l125 (.ret .normal [(.int .i64 (wi64 (i41 + 1)))])) (.fail)

noncomputable def T11b0 (a30 : Addr) (a35 : Addr) : List Value → Pg :=
  fun l38 => asCons l38 fun v39 l40 => asInt .i64 v39 fun i41 => asNil l40 (.act (ld1 (aadd a30 0)) fun v42 => asSlice v42 fun p43 n44 n45 => bif (decide (i41 < ((n44 : Nat) : Int))) then (.join (.act (ld1 (aadd a30 0)) fun v46 => asSlice v46 fun p47 n48 n49 => asSome p47 fun a50 => grd ((decide (0 ≤ i41)) && (decide (i41 < ((n48 : Nat) : Int)))) (.act (ldN 7 (aadd a50 ((Int.toNat i41) * 7))) fun v51 => asAgg v51 fun l52 => asCons l52 fun v53 l54 => asInt .i64 v53 fun i55 => asCons l54 fun v56 l57 => asInt .i64 v56 fun i58 => asCons l57 fun v59 l60 => asStr v59 fun s61 => asCons l60 fun v62 l63 => asStr v62 fun s64 => asCons l63 fun v65 l66 => asSlice v65 fun p67 n68 n69 => asCons l66 fun v70 l71 => asInt .i64 v70 fun i72 => asCons l71 fun v73 l74 => asInt .i64 v73 fun i75 => asNil l74 (.act (newC [(.int .i64 0), (.int .i64 0), (.string (bs [])), (.string (bs [])), (.slice none 0 0), (.int .i64 0), (.int .i64 0)]) fun v76 => asPtr v76 fun p77 => asSome p77 fun a78 => .act (stC a78 [(.int .i64 i55), (.int .i64 i58), (.string s61), (.string s64), (.slice p67 n68 n69), (.int .i64 i72), (.int .i64 i75)]) fun v79 => asTuple v79 fun l80 => asNil l80 (.act (ld1 (aadd a35 0)) fun v81 => asSlice v81 fun p82 n83 n84 => .act (ld1 (aadd a78 0)) fun v85 => asInt .i64 v85 fun i86 => .act (ld1 (aadd a78 1)) fun v87 => asInt .i64 v87 fun i88 => .act (ld1 (aadd a78 2)) fun v89 => asStr v89 fun s90 => .act (ld1 (aadd a78 3)) fun v91 => asStr v91 fun s92 => .get fun h94 => .act (bdSl 1 0 []) fun v93 => asSlice v93 fun p95 n96 n97 => .get fun h123 => grd (chks [((ld1 (aadd a78 3)), v91), ((ld1 (aadd a78 2)), v89), ((ld1 (aadd a78 1)), v87), ((ld1 (aadd a78 0)), v85), ((ld1 (aadd a35 0)), v81)] h123) (.act (ld1 (aadd a78 4)) fun v98 => grd (past (ld1 (aadd a78 4)) v98 [h94]) (asSlice v98 fun p99 n100 n101 => .get fun h103 => .act (apS 1 8 p95 n96 n97 p99 n100 n101) fun v102 => asSlice v102 fun p104 n105 n106 => .get fun h122 => grd (chks [((ld1 (aadd a78 3)), v91), ((ld1 (aadd a78 2)), v89), ((ld1 (aadd a78 1)), v87), ((ld1 (aadd a78 0)), v85), ((ld1 (aadd a35 0)), v81)] h122) (.act (ld1 (aadd a78 5)) fun v107 => grd (past (ld1 (aadd a78 5)) v107 [h103, h94]) (asInt .i64 v107 fun i108 => .act (ld1 (aadd a78 6)) fun v109 => grd (past (ld1 (aadd a78 6)) v109 [h103, h94]) (asInt .i64 v109 fun i110 => .act (bdSl 7 1 [(.int .i64 i86), (.int .i64 i88), (.string s90), (.string s92), (.slice p104 n105 n106), (.int .i64 i108), (.int .i64 i110)]) fun v111 => asSlice v111 fun p112 n113 n114 => .get fun h121 => grd (chks [((ld1 (aadd a35 0)), v81)] h121) (.act (apS 7 88 p82 n83 n84 p112 n113 n114) fun v115 => asSlice v115 fun p116 n117 n118 => .act (stC (aadd a35 0) [(.slice p116 n117 n118)]) fun v119 => asTuple v119 fun l120 => asNil l120 (.ret .normal []))))))))))) (T11k0 i41)) else (.ret (.exit 0) [(.int .i64 i41)]))

noncomputable def T11k1 (i154 : Int) : Ex → List Value → Pg :=
  fun e216 l217 => sw e216 .normal (asNil l217 (.ret .normal [(.int .i64 (wi64 (i154 + 1)))])) (.fail)

noncomputable def T11b1 (a30 : Addr) (i134 : Int) (a148 : Addr) : List Value → Pg :=
  fun l151 => asCons l151 fun v152 l153 => asInt .i64 v152 fun i154 => asNil l153 (.act (ld1 (aadd a30 1)) fun v155 => asSlice v155 fun p156 n157 n158 => asSome p156 fun a159 => grd ((decide (0 ≤ i134)) && (decide (i134 < ((n157 : Nat) : Int)))) (.act (ld1 (aadd (aadd a159 ((Int.toNat i134) * 2)) 1)) fun v160 => asSlice v160 fun p161 n162 n163 => bif (decide (i154 < ((n162 : Nat) : Int))) then (.join (.act (ld1 (aadd a148 1)) fun v164 => asSlice v164 fun p165 n166 n167 => .act (ld1 (aadd a30 1)) fun v168 => asSlice v168 fun p169 n170 n171 => asSome p169 fun a172 => grd ((decide (0 ≤ i134)) && (decide (i134 < ((n170 : Nat) : Int)))) (.act (ld1 (aadd (aadd a172 ((Int.toNat i134) * 2)) 1)) fun v173 => asSlice v173 fun p174 n175 n176 => asSome p174 fun a177 => grd ((decide (0 ≤ i154)) && (decide (i154 < ((n175 : Nat) : Int)))) (.act (ld1 (aadd (aadd a177 ((Int.toNat i154) * 2)) 0)) fun v178 => asStr v178 fun s179 => .get fun h181 => .act (bdSl 1 0 []) fun v180 => asSlice v180 fun p182 n183 n184 => .get fun h215 => grd (chks [((ld1 (aadd (aadd a177 ((Int.toNat i154) * 2)) 0)), v178), ((ld1 (aadd (aadd a172 ((Int.toNat i134) * 2)) 1)), v173), ((ld1 (aadd a30 1)), v168), ((ld1 (aadd a148 1)), v164)] h215) (.act (ld1 (aadd a30 1)) fun v185 => grd (past (ld1 (aadd a30 1)) v185 [h181]) (asSlice v185 fun p186 n187 n188 => asSome p186 fun a189 => grd ((decide (0 ≤ i134)) && (decide (i134 < ((n187 : Nat) : Int)))) (.act (ld1 (aadd (aadd a189 ((Int.toNat i134) * 2)) 1)) fun v190 => grd (past (ld1 (aadd (aadd a189 ((Int.toNat i134) * 2)) 1)) v190 [h181]) (asSlice v190 fun p191 n192 n193 => asSome p191 fun a194 => grd ((decide (0 ≤ i154)) && (decide (i154 < ((n192 : Nat) : Int)))) (.act (ld1 (aadd (aadd a194 ((Int.toNat i154) * 2)) 1)) fun v195 => grd (past (ld1 (aadd (aadd a194 ((Int.toNat i154) * 2)) 1)) v195 [h181]) (asSlice v195 fun p196 n197 n198 => .act (apS 1 16 p182 n183 n184 p196 n197 n198) fun v199 => asSlice v199 fun p200 n201 n202 => .get fun h214 => grd (chks [((ld1 (aadd (aadd a177 ((Int.toNat i154) * 2)) 0)), v178), ((ld1 (aadd (aadd a172 ((Int.toNat i134) * 2)) 1)), v173), ((ld1 (aadd a30 1)), v168), ((ld1 (aadd a148 1)), v164)] h214) (.act (bdSl 2 1 [(.string s179), (.slice p200 n201 n202)]) fun v203 => asSlice v203 fun p204 n205 n206 => .get fun h213 => grd (chks [((ld1 (aadd a148 1)), v164)] h213) (.act (apS 2 40 p165 n166 n167 p204 n205 n206) fun v207 => asSlice v207 fun p208 n209 n210 => .act (stC (aadd a148 1) [(.slice p208 n209 n210)]) fun v211 => asTuple v211 fun l212 => asNil l212 (.ret .normal [])))))))))))) (T11k1 i154)) else (.ret (.exit 4) [(.int .i64 i154)])))

noncomputable def T11k2 (a35 : Addr) (a148 : Addr) : Ex → List Value → Pg :=
  fun e218 l219 => sw e218 (.exit 4) (asCons l219 fun v220 l221 => asInt .i64 v220 fun i222 => asNil l221 (.act (ld1 (aadd a35 1)) fun v223 => asSlice v223 fun p224 n225 n226 => .act (ldN 2 a148) fun v227 => asAgg v227 fun l228 => asCons l228 fun v229 l230 => asStr v229 fun s231 => asCons l230 fun v232 l233 => asSlice v232 fun p234 n235 n236 => asNil l233 (.act (bdSl 2 1 [(.string s231), (.slice p234 n235 n236)]) fun v237 => asSlice v237 fun p238 n239 n240 => .act (apS 2 40 p224 n225 n226 p238 n239 n240) fun v241 => asSlice v241 fun p242 n243 n244 => .act (stC (aadd a35 1) [(.slice p242 n243 n244)]) fun v245 => asTuple v245 fun l246 => asNil l246 (.ret .normal [])))) (.fail)

noncomputable def T11k3 (i134 : Int) : Ex → List Value → Pg :=
  fun e247 l248 => sw e247 .normal (asNil l248 (.ret .normal [(.int .i64 (wi64 (i134 + 1)))])) (.fail)

noncomputable def T11b2 (a30 : Addr) (a35 : Addr) : List Value → Pg :=
  fun l131 => asCons l131 fun v132 l133 => asInt .i64 v132 fun i134 => asNil l133 (.act (ld1 (aadd a30 1)) fun v135 => asSlice v135 fun p136 n137 n138 => bif (decide (i134 < ((n137 : Nat) : Int))) then (.join (.act (ld1 (aadd a30 1)) fun v139 => asSlice v139 fun p140 n141 n142 => asSome p140 fun a143 => grd ((decide (0 ≤ i134)) && (decide (i134 < ((n141 : Nat) : Int)))) (.act (ld1 (aadd (aadd a143 ((Int.toNat i134) * 2)) 0)) fun v144 => asStr v144 fun s145 => .act (newC [(.string (bs [])), (.slice none 0 0)]) fun v146 => asPtr v146 fun p147 => asSome p147 fun a148 => .act (stC a148 [(.string s145), (.slice none 0 0)]) fun v149 => asTuple v149 fun l150 => asNil l150 (.loop [(.int .i64 0)] (T11b1 a30 i134 a148) (T11k2 a35 a148)))) (T11k3 i134)) else (.ret (.exit 2) [(.int .i64 i134)]))

noncomputable def T11k4 (a35 : Addr) (a3 : Addr) (i24 : Int) : Ex → List Value → Pg :=
  fun e249 l250 => sw e249 (.exit 2) (asCons l250 fun v251 l252 => asInt .i64 v251 fun i253 => asNil l252 (.act (ldN 2 a35) fun v254 => asAgg v254 fun l255 => asCons l255 fun v256 l257 => asSlice v256 fun p258 n259 n260 => asCons l257 fun v261 l262 => asSlice v261 fun p263 n264 n265 => asNil l262 (.act (stC a3 [(.slice p258 n259 n260), (.slice p263 n264 n265)]) fun v266 => asTuple v266 fun l267 => asNil l267 (.act (ldN 2 a3) fun v268 => .ret .ret [(.tuple #[v268, (.bool (i24 == 0))])])))) (.fail)

noncomputable def T11k5 (a30 : Addr) (a35 : Addr) (a3 : Addr) (i24 : Int) : Ex → List Value → Pg :=
  fun e126 l127 => sw e126 (.exit 0) (asCons l127 fun v128 l129 => asInt .i64 v128 fun i130 => asNil l129 (.loop [(.int .i64 0)] (T11b2 a30 a35) (T11k4 a35 a3 i24))) (.fail)

/-- hindsight/hindsightlaw10.made -/
noncomputable def T11 (s0 : ByteArray) : Pg :=
  .act (newC [(.slice none 0 0), (.slice none 0 0)]) fun v1 => asPtr v1 fun p2 => asSome p2 fun a3 => bif (decide (((s0.size : Nat) : Int) > 1500)) then (.act (stC a3 [(.slice none 0 0), (.slice none 0 0)]) fun v4 => asTuple v4 fun l5 => asNil l5 (.act (ldN 2 a3) fun v6 => .ret .ret [(.tuple #[v6, (.bool false)])])) else (.call 26 [(.string s0)] fun v7 => asTuple v7 fun l8 => asCons l8 fun v9 l10 => asAgg v9 fun l11 => asCons l11 fun v12 l13 => asSlice v12 fun p14 n15 n16 => asCons l13 fun v17 l18 => asSlice v17 fun p19 n20 n21 => asNil l18 (asCons l10 fun v22 l23 => asInt .i64 v22 fun i24 => asCons l23 fun v25 l26 => asInt .i64 v25 fun i27 => asNil l26 (.act (newC [(.slice none 0 0), (.slice none 0 0)]) fun v28 => asPtr v28 fun p29 => asSome p29 fun a30 => .act (stC a30 [(.slice p14 n15 n16), (.slice p19 n20 n21)]) fun v31 => asTuple v31 fun l32 => asNil l32 (.act (newC [(.slice none 0 0), (.slice none 0 0)]) fun v33 => asPtr v33 fun p34 => asSome p34 fun a35 => .act (stC a35 [(.slice none 0 0), (.slice none 0 0)]) fun v36 => asTuple v36 fun l37 => asNil l37 (.loop [(.int .i64 0)] (T11b0 a30 a35) (T11k5 a30 a35 a3 i24))))))
theorem T11_eq (s0 : ByteArray) : progOf PROG false 11 [(.string s0)] = T11 s0 := by kernel_rfl


noncomputable def T12k0 (i29 : Int) : Ex → List Value → Pg :=
  fun e39 l40 => sw e39 .ret (asCons l40 fun v41 l42 => asBool v41 fun b43 => asNil l42 (.ret .ret [(.int .i64 i29), (.bool b43)])) (sw e39 .normal (asCons l40 fun v44 l45 => asBool v44 fun b46 => asNil l45 (.ret .normal [(.int .i64 (wi64 (i29 + 1))), (.bool b46)])) (.fail))

noncomputable def T12b0 (n4 : Nat) (p23 : (Option Addr)) (n24 : Nat) (p3 : (Option Addr)) : List Value → Pg :=
  fun l26 => asCons l26 fun v27 l28 => asInt .i64 v27 fun i29 => asCons l28 fun v30 l31 => asBool v30 fun b32 => asNil l31 (bif (decide (i29 < ((n4 : Nat) : Int))) then (.join (asSome p23 fun a33 => grd ((decide (0 ≤ i29)) && (decide (i29 < ((n24 : Nat) : Int)))) (.act (ld1 (aadd a33 ((Int.toNat i29) * 1))) fun v34 => asInt .i64 v34 fun i35 => asSome p3 fun a36 => grd ((decide (0 ≤ i29)) && (decide (i29 < ((n4 : Nat) : Int)))) (.act (ld1 (aadd a36 ((Int.toNat i29) * 1))) fun v37 => asInt .i64 v37 fun i38 => bif (i35 != i38) then (.ret .ret [(.bool false)]) else (.ret .normal [(.bool b32)])))) (T12k0 i29)) else (.ret (.exit 0) [(.int .i64 i29), (.bool b32)]))

noncomputable def T12k1 : Ex → List Value → Pg :=
  fun e95 l96 => sw e95 .normal (asCons l96 fun v97 l98 => asBool v97 fun b99 => asNil l98 (.ret .ret [(.bool b99)])) (.fail)

noncomputable def T12k2 (p10 : (Option Addr)) (i1 : Int) (i2 : Int) : Ex → List Value → Pg :=
  fun e47 l48 => sw e47 (.exit 0) (asCons l48 fun v49 l50 => asInt .i64 v49 fun i51 => asCons l50 fun v52 l53 => asBool v52 fun b54 => asNil l53 (.call 19 [(.pointer p10)] fun v55 => asTuple v55 fun l56 => asCons l56 fun v57 l58 => asAgg v57 fun l59 => asCons l59 fun v60 l61 => asInt .i64 v60 fun i62 => asCons l61 fun v63 l64 => asInt .i64 v63 fun i65 => asCons l64 fun v66 l67 => asStr v66 fun s68 => asCons l67 fun v69 l70 => asSlice v69 fun p71 n72 n73 => asCons l70 fun v74 l75 => asInt .i64 v74 fun i76 => asCons l75 fun v77 l78 => asPtr v77 fun p79 => asCons l78 fun v80 l81 => asInt .i64 v80 fun i82 => asNil l81 (asCons l58 fun v83 l84 => asBool v83 fun b85 => asNil l84 (.act (newC [(.int .i64 0), (.int .i64 0), (.string (bs [])), (.slice none 0 0), (.int .i64 0), (.pointer none), (.int .i64 0)]) fun v86 => asPtr v86 fun p87 => asSome p87 fun a88 => .act (stC a88 [(.int .i64 i62), (.int .i64 i65), (.string s68), (.slice p71 n72 n73), (.int .i64 i76), (.pointer p79), (.int .i64 i82)]) fun v89 => asTuple v89 fun l90 => asNil l90 (bif (i1 == 2) then (.call 27 [(.pointer p10)] fun v91 => asInt .i64 v91 fun i92 => .ret .ret [(.bool (i92 == i2))]) else (.join (bif (i1 != 1) == false then (bif b85 == true then (.act (ld1 (aadd a88 1)) fun v93 => asInt .i64 v93 fun i94 => .ret .normal [(.bool (i94 == i2))]) else (.ret .normal [(.bool false)])) else (.ret .normal [(.bool true)])) (T12k1))))))) (sw e47 .ret (asCons l48 fun v100 l101 => asInt .i64 v100 fun i102 => asCons l101 fun v103 l104 => asBool v103 fun b105 => asNil l104 (.ret .ret [(.bool b105)])) (.fail))

noncomputable def T12k3 (p10 : (Option Addr)) (n4 : Nat) (p3 : (Option Addr)) (i1 : Int) (i2 : Int) : Ex → List Value → Pg :=
  fun e17 l18 => sw e17 .normal (asCons l18 fun v19 l20 => asBool v19 fun b21 => asNil l20 (bif b21 then (.ret .ret [(.bool false)]) else (.call 20 [(.pointer p10)] fun v22 => asSlice v22 fun p23 n24 n25 => .loop [(.int .i64 0), (.bool false)] (T12b0 n4 p23 n24 p3) (T12k2 p10 i1 i2)))) (.fail)

/-- hindsight/hindsightlaw10.says -/
noncomputable def T12 (s0 : ByteArray) (i1 : Int) (i2 : Int) (p3 : (Option Addr)) (n4 : Nat) (n5 : Nat) (p6 : (Option Addr)) (n7 : Nat) (n8 : Nat) : Pg :=
  .call 18 [(.string s0), (.slice p6 n7 n8)] fun v9 => asPtr v9 fun p10 => .join (bif (Option.isNone p10) == false then (.call 21 [(.pointer p10)] fun v11 => asInt .i64 v11 fun i12 => bif (i12 != i1) == false then (.call 20 [(.pointer p10)] fun v13 => asSlice v13 fun p14 n15 n16 => .ret .normal [(.bool (((n15 : Nat) : Int) != ((n4 : Nat) : Int)))]) else (.ret .normal [(.bool true)])) else (.ret .normal [(.bool true)])) (T12k3 p10 n4 p3 i1 i2)
theorem T12_eq (s0 : ByteArray) (i1 : Int) (i2 : Int) (p3 : (Option Addr)) (n4 : Nat) (n5 : Nat) (p6 : (Option Addr)) (n7 : Nat) (n8 : Nat) : progOf PROG false 12 [(.string s0), (.int .i64 i1), (.int .i64 i2), (.slice p3 n4 n5), (.slice p6 n7 n8)] = T12 s0 i1 i2 p3 n4 n5 p6 n7 n8 := by kernel_rfl


noncomputable def T14k0 (b66 : Bool) : Ex → List Value → Pg :=
  fun e120 l121 => sw e120 .normal (asCons l121 fun v122 l123 => asBool v122 fun b124 => asNil l123 (bif b124 then (.ret .ret [(.bool false)]) else (.ret .normal [(.bool b66)]))) (.fail)

noncomputable def T14k1 (i63 : Int) : Ex → List Value → Pg :=
  fun e125 l126 => sw e125 .ret (asCons l126 fun v127 l128 => asBool v127 fun b129 => asNil l128 (.ret .ret [(.int .i64 i63), (.bool b129)])) (sw e125 .normal (asCons l126 fun v130 l131 => asBool v130 fun b132 => asNil l131 (.ret .normal [(.int .i64 (wi64 (i63 + 1))), (.bool b132)])) (.fail))

noncomputable def T14b0 (n58 : Nat) (p57 : (Option Addr)) (a8 : Addr) : List Value → Pg :=
  fun l60 => asCons l60 fun v61 l62 => asInt .i64 v61 fun i63 => asCons l62 fun v64 l65 => asBool v64 fun b66 => asNil l65 (bif (decide (i63 < ((n58 : Nat) : Int))) then (.join (asSome p57 fun a67 => grd ((decide (0 ≤ i63)) && (decide (i63 < ((n58 : Nat) : Int)))) (.act (ldN 7 (aadd a67 ((Int.toNat i63) * 7))) fun v68 => asAgg v68 fun l69 => asCons l69 fun v70 l71 => asInt .i64 v70 fun i72 => asCons l71 fun v73 l74 => asInt .i64 v73 fun i75 => asCons l74 fun v76 l77 => asStr v76 fun s78 => asCons l77 fun v79 l80 => asStr v79 fun s81 => asCons l80 fun v82 l83 => asSlice v82 fun p84 n85 n86 => asCons l83 fun v87 l88 => asInt .i64 v87 fun i89 => asCons l88 fun v90 l91 => asInt .i64 v90 fun i92 => asNil l91 (.act (newC [(.int .i64 0), (.int .i64 0), (.string (bs [])), (.string (bs [])), (.slice none 0 0), (.int .i64 0), (.int .i64 0)]) fun v93 => asPtr v93 fun p94 => asSome p94 fun a95 => .act (stC a95 [(.int .i64 i72), (.int .i64 i75), (.string s78), (.string s81), (.slice p84 n85 n86), (.int .i64 i89), (.int .i64 i92)]) fun v96 => asTuple v96 fun l97 => asNil l97 (.join (.act (ld1 (aadd a95 0)) fun v98 => asInt .i64 v98 fun i99 => .call 30 [(.int .i64 i99)] fun v100 => asBool v100 fun b101 => bif b101 == true then (.act (ldN 2 a8) fun v102 => asAgg v102 fun l103 => asCons l103 fun v104 l105 => asSlice v104 fun p106 n107 n108 => asCons l105 fun v109 l110 => asSlice v109 fun p111 n112 n113 => asNil l110 (.call 32 [(.agg #[(.slice p106 n107 n108), (.slice p111 n112 n113)]), (.int .i64 i63)] fun v114 => asSlice v114 fun p115 n116 n117 => .call 31 [(.slice p115 n116 n117)] fun v118 => asBool v118 fun b119 => .ret .normal [(.bool b119)])) else (.ret .normal [(.bool false)])) (T14k0 b66))))) (T14k1 i63)) else (.ret (.exit 0) [(.int .i64 i63), (.bool b66)]))

noncomputable def T14k2 : Ex → List Value → Pg :=
  fun e133 l134 => sw e133 (.exit 0) (asCons l134 fun v135 l136 => asInt .i64 v135 fun i137 => asCons l136 fun v138 l139 => asBool v138 fun b140 => asNil l139 (.ret .ret [(.bool true)])) (sw e133 .ret (asCons l134 fun v141 l142 => asInt .i64 v141 fun i143 => asCons l142 fun v144 l145 => asBool v144 fun b146 => asNil l145 (.ret .ret [(.bool b146)])) (.fail))

noncomputable def T14k3 (a8 : Addr) : Ex → List Value → Pg :=
  fun e51 l52 => sw e51 .normal (asCons l52 fun v53 l54 => asBool v53 fun b55 => asNil l54 (bif b55 then (.ret .ret [(.bool false)]) else (.act (ld1 (aadd a8 0)) fun v56 => asSlice v56 fun p57 n58 n59 => .loop [(.int .i64 0), (.bool false)] (T14b0 n58 p57 a8) (T14k2)))) (.fail)

noncomputable def T14k4 (a8 : Addr) : Ex → List Value → Pg :=
  fun e23 l24 => sw e23 .normal (asCons l24 fun v25 l26 => asBool v25 fun b27 => asNil l26 (bif b27 then (.ret .ret [(.bool false)]) else (.act (ldN 2 a8) fun v28 => asAgg v28 fun l29 => asCons l29 fun v30 l31 => asSlice v30 fun p32 n33 n34 => asCons l31 fun v35 l36 => asSlice v35 fun p37 n38 n39 => asNil l36 (.act (newC [(.slice p32 n33 n34), (.slice p37 n38 n39), (.int .i64 0)]) fun v40 => asPtr v40 fun p41 => asSome p41 fun a42 => .join (.call 29 [(.pointer (some a42)), (.bool false), (.int .i64 0)] fun v43 => asBool v43 fun b44 => bif (!b44) == false then (.act (ld1 (aadd a42 2)) fun v45 => asInt .i64 v45 fun i46 => .act (ld1 (aadd a8 0)) fun v47 => asSlice v47 fun p48 n49 n50 => .ret .normal [(.bool (i46 != ((n49 : Nat) : Int)))]) else (.ret .normal [(.bool true)])) (T14k3 a8))))) (.fail)

/-- hindsight/tree.Good -/
noncomputable def T14 (p0 : (Option Addr)) (n1 : Nat) (n2 : Nat) (p3 : (Option Addr)) (n4 : Nat) (n5 : Nat) : Pg :=
  .act (newC [(.slice p0 n1 n2), (.slice p3 n4 n5)]) fun v6 => asPtr v6 fun p7 => asSome p7 fun a8 => .join (.act (ld1 (aadd a8 0)) fun v9 => asSlice v9 fun p10 n11 n12 => bif (decide (((n11 : Nat) : Int) < 1)) == false then (.act (ld1 (aadd a8 0)) fun v13 => asSlice v13 fun p14 n15 n16 => bif (decide (((n15 : Nat) : Int) > 1000)) == false then (.act (ld1 (aadd a8 1)) fun v17 => asSlice v17 fun p18 n19 n20 => .call 28 [(.slice p18 n19 n20)] fun v21 => asBool v21 fun b22 => .ret .normal [(.bool (!b22))]) else (.ret .normal [(.bool true)])) else (.ret .normal [(.bool true)])) (T14k4 a8)
theorem T14_eq (p0 : (Option Addr)) (n1 : Nat) (n2 : Nat) (p3 : (Option Addr)) (n4 : Nat) (n5 : Nat) : progOf PROG false 14 [(.agg #[(.slice p0 n1 n2), (.slice p3 n4 n5)])] = T14 p0 n1 n2 p3 n4 n5 := by kernel_rfl


/-- hindsight/hindsightlaw10.run -/
noncomputable def T18 (s0 : ByteArray) (p1 : (Option Addr)) (n2 : Nat) (n3 : Nat) : Pg :=
  .call 11 [(.string s0)] fun v4 => asTuple v4 fun l5 => asCons l5 fun v6 l7 => asAgg v6 fun l8 => asCons l8 fun v9 l10 => asSlice v9 fun p11 n12 n13 => asCons l10 fun v14 l15 => asSlice v14 fun p16 n17 n18 => asNil l15 (asCons l7 fun v19 l20 => asBool v19 fun b21 => asNil l20 (.act (newC [(.slice none 0 0), (.slice none 0 0)]) fun v22 => asPtr v22 fun p23 => asSome p23 fun a24 => .act (stC a24 [(.slice p11 n12 n13), (.slice p16 n17 n18)]) fun v25 => asTuple v25 fun l26 => asNil l26 (bif (!b21) then (.ret .ret [(.pointer none)]) else (.act (ldN 2 a24) fun v27 => asAgg v27 fun l28 => asCons l28 fun v29 l30 => asSlice v29 fun p31 n32 n33 => asCons l30 fun v34 l35 => asSlice v34 fun p36 n37 n38 => asNil l35 (.call 10 [(.agg #[(.slice p31 n32 n33), (.slice p36 n37 n38)]), (.slice p1 n2 n3)] fun v39 => asTuple v39 fun l40 => asCons l40 fun v41 l42 => asPtr v41 fun p43 => asCons l42 fun v44 l45 => asInt .i64 v44 fun i46 => asNil l45 (bif ((i46 != 0) || (Option.isNone p43)) then (.ret .ret [(.pointer none)]) else (.call 40 [(.pointer p43), (.int .i64 20000)] fun v47 => asInt .i64 v47 fun i48 => .ret .ret [(.pointer p43)])))))))
theorem T18_eq (s0 : ByteArray) (p1 : (Option Addr)) (n2 : Nat) (n3 : Nat) : progOf PROG false 18 [(.string s0), (.slice p1 n2 n3)] = T18 s0 p1 n2 n3 := by kernel_rfl


/-- (*hindsight/source.Machine).Value -/
noncomputable def T19 (p0 : (Option Addr)) : Pg :=
  .act (newC [(.int .i64 0), (.int .i64 0), (.string (bs [])), (.slice none 0 0), (.int .i64 0), (.pointer none), (.int .i64 0)]) fun v1 => asPtr v1 fun p2 => asSome p2 fun a3 => asSome p0 fun a4 => .act (ld1 (aadd a4 9)) fun v5 => asInt .i64 v5 fun i6 => bif (i6 != 1) then (.act (stC a3 [(.int .i64 0), (.int .i64 0), (.string (bs [])), (.slice none 0 0), (.int .i64 0), (.pointer none), (.int .i64 0)]) fun v7 => asTuple v7 fun l8 => asNil l8 (.act (ldN 7 a3) fun v9 => .ret .ret [(.tuple #[v9, (.bool false)])])) else (asSome p0 fun a10 => .act (ldN 7 (aadd a10 12)) fun v11 => asAgg v11 fun l12 => asCons l12 fun v13 l14 => asInt .i64 v13 fun i15 => asCons l14 fun v16 l17 => asInt .i64 v16 fun i18 => asCons l17 fun v19 l20 => asStr v19 fun s21 => asCons l20 fun v22 l23 => asSlice v22 fun p24 n25 n26 => asCons l23 fun v27 l28 => asInt .i64 v27 fun i29 => asCons l28 fun v30 l31 => asPtr v30 fun p32 => asCons l31 fun v33 l34 => asInt .i64 v33 fun i35 => asNil l34 (.act (stC a3 [(.int .i64 i15), (.int .i64 i18), (.string s21), (.slice p24 n25 n26), (.int .i64 i29), (.pointer p32), (.int .i64 i35)]) fun v36 => asTuple v36 fun l37 => asNil l37 (.act (ldN 7 a3) fun v38 => .ret .ret [(.tuple #[v38, (.bool true)])])))
theorem T19_eq (p0 : (Option Addr)) : progOf PROG false 19 [(.pointer p0)] = T19 p0 := by kernel_rfl


/-- (*hindsight/source.Machine).Out -/
noncomputable def T20 (p0 : (Option Addr)) : Pg :=
  asSome p0 fun a1 => .act (ld1 (aadd a1 4)) fun v2 => asSlice v2 fun p3 n4 n5 => .call 25 [(.slice p3 n4 n5)] fun v6 => asSlice v6 fun p7 n8 n9 => .ret .ret [(.slice p7 n8 n9)]
theorem T20_eq (p0 : (Option Addr)) : progOf PROG false 20 [(.pointer p0)] = T20 p0 := by kernel_rfl


/-- (*hindsight/source.Machine).Over -/
noncomputable def T21 (p0 : (Option Addr)) : Pg :=
  asSome p0 fun a1 => .act (ld1 (aadd a1 9)) fun v2 => asInt .i64 v2 fun i3 => .ret .ret [(.int .i64 i3)]
theorem T21_eq (p0 : (Option Addr)) : progOf PROG false 21 [(.pointer p0)] = T21 p0 := by kernel_rfl


/-- hindsight/source.New$1 -/
noncomputable def T22 (i0 : Int) : Pg :=
  .call 23 [(.int .i64 i0)] fun v1 => asInt .i64 v1 fun i2 => .ret .ret [(.bool (i2 != i0))]
theorem T22_eq (i0 : Int) : progOf PROG false 22 [(.int .i64 i0)] = T22 i0 := by kernel_rfl


/-- hindsight/val.Wrap -/
noncomputable def T23 (i0 : Int) : Pg :=
  .ret .ret [(.int .i64 (shrI .i64 (shlI .i64 i0 1) 1))]
theorem T23_eq (i0 : Int) : progOf PROG false 23 [(.int .i64 i0)] = T23 i0 := by kernel_rfl


/-- slices.ContainsFunc[[]int64,int64] -/
noncomputable def T24 (p0 : (Option Addr)) (n1 : Nat) (n2 : Nat) (v3 : Value) : Pg :=
  .call 41 [(.slice p0 n1 n2), v3] fun v4 => asInt .i64 v4 fun i5 => .ret .ret [(.bool (decide (i5 ≥ 0)))]
theorem T24_eq (p0 : (Option Addr)) (n1 : Nat) (n2 : Nat) (v3 : Value) : progOf PROG false 24 [(.slice p0 n1 n2), v3] = T24 p0 n1 n2 v3 := by kernel_rfl


/-- slices.Clone[[]int64,int64] -/
noncomputable def T25 (p0 : (Option Addr)) (n1 : Nat) (n2 : Nat) : Pg :=
  bif (Option.isNone p0) then (.ret .ret [(.slice none 0 0)]) else (.act (bdSl 1 0 []) fun v3 => asSlice v3 fun p4 n5 n6 => .act (apS 1 8 p4 n5 n6 p0 n1 n2) fun v7 => asSlice v7 fun p8 n9 n10 => .ret .ret [(.slice p8 n9 n10)])
theorem T25_eq (p0 : (Option Addr)) (n1 : Nat) (n2 : Nat) : progOf PROG false 25 [(.slice p0 n1 n2)] = T25 p0 n1 n2 := by kernel_rfl


noncomputable def T26k0 (a22 : Addr) (a3 : Addr) (p28 : (Option Addr)) (p24 : (Option Addr)) (n25 : Nat) (n26 : Nat) : Ex → List Value → Pg :=
  fun e33 l34 => sw e33 .normal (asCons l34 fun v35 l36 => asBool v35 fun b37 => asNil l36 (bif b37 then (.call 45 [(.pointer (some a22))] fun v38 => asAgg v38 fun l39 => asCons l39 fun v40 l41 => asInt .i64 v40 fun i42 => asCons l41 fun v43 l44 => asStr v43 fun s45 => asCons l44 fun v46 l47 => asInt .i64 v46 fun i48 => asCons l47 fun v49 l50 => asInt .i64 v49 fun i51 => asNil l50 (.act (stC a3 [(.slice none 0 0), (.slice none 0 0)]) fun v52 => asTuple v52 fun l53 => asNil l53 (.act (ldN 2 a3) fun v54 => .ret .ret [(.tuple #[v54, (.int .i64 3), (.int .i64 i48)])]))) else (.act (newC [(.slice none 0 0), (.slice none 0 0), (.int .i64 (-1))]) fun v55 => asPtr v55 fun p56 => asSome p56 fun a57 => .call 46 [(.pointer (some a57)), (.pointer p28), (.int .i64 1)] fun v58 => asInt .i64 v58 fun i59 => .act (ld1 (aadd a57 2)) fun v60 => asInt .i64 v60 fun i61 => bif (decide (i61 ≥ 0)) then (.act (ld1 (aadd a57 2)) fun v62 => asInt .i64 v62 fun i63 => .act (stC a3 [(.slice none 0 0), (.slice none 0 0)]) fun v64 => asTuple v64 fun l65 => asNil l65 (.get fun h67 => grd (chks [((ld1 (aadd a57 2)), v62)] h67) (.act (ldN 2 a3) fun v66 => .ret .ret [(.tuple #[v66, (.int .i64 2), (.int .i64 i63)])]))) else (.act (stC (aadd (aadd a57 0) 1) [(.slice p24 n25 n26)]) fun v68 => asTuple v68 fun l69 => asNil l69 (.act (ldN 2 (aadd a57 0)) fun v70 => asAgg v70 fun l71 => asCons l71 fun v72 l73 => asSlice v72 fun p74 n75 n76 => asCons l73 fun v77 l78 => asSlice v77 fun p79 n80 n81 => asNil l78 (.call 47 [(.agg #[(.slice p74 n75 n76), (.slice p79 n80 n81)])] fun v82 => asBool v82 fun b83 => bif (!b83) then (.act (stC a3 [(.slice none 0 0), (.slice none 0 0)]) fun v84 => asTuple v84 fun l85 => asNil l85 (.act (ldN 2 a3) fun v86 => .ret .ret [(.tuple #[v86, (.int .i64 3), (.int .i64 0)])])) else (.act (ldN 2 (aadd a57 0)) fun v87 => asAgg v87 fun l88 => asCons l88 fun v89 l90 => asSlice v89 fun p91 n92 n93 => asCons l90 fun v94 l95 => asSlice v94 fun p96 n97 n98 => asNil l95 (.act (stC a3 [(.slice p91 n92 n93), (.slice p96 n97 n98)]) fun v99 => asTuple v99 fun l100 => asNil l100 (.act (ldN 2 a3) fun v101 => .ret .ret [(.tuple #[v101, (.int .i64 0), (.int .i64 0)])]))))))))) (.fail)

/-- hindsight/hindsightref3.Parse -/
noncomputable def T26 (s0 : ByteArray) : Pg :=
  .act (newC [(.slice none 0 0), (.slice none 0 0)]) fun v1 => asPtr v1 fun p2 => asSome p2 fun a3 => .call 42 [(.string s0)] fun v4 => asTuple v4 fun l5 => asCons l5 fun v6 l7 => asSlice v6 fun p8 n9 n10 => asCons l7 fun v11 l12 => asInt .i64 v11 fun i13 => asCons l12 fun v14 l15 => asInt .i64 v14 fun i16 => asNil l15 (bif (i13 != 0) then (.act (stC a3 [(.slice none 0 0), (.slice none 0 0)]) fun v17 => asTuple v17 fun l18 => asNil l18 (.act (ldN 2 a3) fun v19 => .ret .ret [(.tuple #[v19, (.int .i64 i13), (.int .i64 i16)])])) else (.act (newC [(.slice p8 n9 n10), (.int .i64 0), (.int .i64 ((s0.size : Nat) : Int)), (.bool false)]) fun v20 => asPtr v20 fun p21 => asSome p21 fun a22 => .call 43 [(.pointer (some a22))] fun v23 => asSlice v23 fun p24 n25 n26 => .call 44 [(.pointer (some a22))] fun v27 => asPtr v27 fun p28 => .join (.act (ld1 (aadd a22 3)) fun v29 => asBool v29 fun b30 => bif b30 == false then (.act (ld1 (aadd a22 1)) fun v31 => asInt .i64 v31 fun i32 => .ret .normal [(.bool (decide (i32 < ((n9 : Nat) : Int))))]) else (.ret .normal [(.bool true)])) (T26k0 a22 a3 p28 p24 n25 n26)))
theorem T26_eq (s0 : ByteArray) : progOf PROG false 26 [(.string s0)] = T26 s0 := by kernel_rfl


/-- (*hindsight/source.Machine).Error -/
noncomputable def T27 (p0 : (Option Addr)) : Pg :=
  asSome p0 fun a1 => .act (ld1 (aadd a1 10)) fun v2 => asInt .i64 v2 fun i3 => .ret .ret [(.int .i64 i3)]
theorem T27_eq (p0 : (Option Addr)) : progOf PROG false 27 [(.pointer p0)] = T27 p0 := by kernel_rfl


noncomputable def T28k0 (p86 : (Option Addr)) (n87 : Nat) (n88 : Nat) (p91 : (Option Addr)) (n92 : Nat) (n93 : Nat) (a110 : Addr) (b96 : Bool) : Ex → List Value → Pg :=
  fun e121 l122 => sw e121 .normal (asCons l122 fun v123 l124 => asBool v123 fun b125 => asNil l124 (bif b125 then (.ret .ret [(.slice p86 n87 n88), (.slice p91 n92 n93), (.bool false)]) else (.act (ld1 (aadd a110 0)) fun v126 => asStr v126 fun s127 => .act (bdSl 1 1 [(.string s127)]) fun v128 => asSlice v128 fun p129 n130 n131 => .act (apS 1 16 p91 n92 n93 p129 n130 n131) fun v132 => asSlice v132 fun p133 n134 n135 => .act (ld1 (aadd a110 1)) fun v136 => asSlice v136 fun p137 n138 n139 => .act (apS 1 16 p86 n87 n88 p137 n138 n139) fun v140 => asSlice v140 fun p141 n142 n143 => .ret .normal [(.slice p141 n142 n143), (.slice p133 n134 n135), (.bool b96)]))) (.fail)

noncomputable def T28k1 (i83 : Int) : Ex → List Value → Pg :=
  fun e144 l145 => sw e144 .ret (asCons l145 fun v146 l147 => asSlice v146 fun p148 n149 n150 => asCons l147 fun v151 l152 => asSlice v151 fun p153 n154 n155 => asCons l152 fun v156 l157 => asBool v156 fun b158 => asNil l157 (.ret .ret [(.int .i64 i83), (.slice p148 n149 n150), (.slice p153 n154 n155), (.bool b158)])) (sw e144 .normal (asCons l145 fun v159 l160 => asSlice v159 fun p161 n162 n163 => asCons l160 fun v164 l165 => asSlice v164 fun p166 n167 n168 => asCons l165 fun v169 l170 => asBool v169 fun b171 => asNil l170 (.ret .normal [(.int .i64 (wi64 (i83 + 1))), (.slice p161 n162 n163), (.slice p166 n167 n168), (.bool b171)])) (.fail))

noncomputable def T28b0 (n78 : Nat) (p77 : (Option Addr)) : List Value → Pg :=
  fun l80 => asCons l80 fun v81 l82 => asInt .i64 v81 fun i83 => asCons l82 fun v84 l85 => asSlice v84 fun p86 n87 n88 => asCons l85 fun v89 l90 => asSlice v89 fun p91 n92 n93 => asCons l90 fun v94 l95 => asBool v94 fun b96 => asNil l95 (bif (decide (i83 < ((n78 : Nat) : Int))) then (.join (asSome p77 fun a97 => grd ((decide (0 ≤ i83)) && (decide (i83 < ((n78 : Nat) : Int)))) (.act (ldN 2 (aadd a97 ((Int.toNat i83) * 2))) fun v98 => asAgg v98 fun l99 => asCons l99 fun v100 l101 => asStr v100 fun s102 => asCons l101 fun v103 l104 => asSlice v103 fun p105 n106 n107 => asNil l104 (.act (newC [(.string (bs [])), (.slice none 0 0)]) fun v108 => asPtr v108 fun p109 => asSome p109 fun a110 => .act (stC a110 [(.string s102), (.slice p105 n106 n107)]) fun v111 => asTuple v111 fun l112 => asNil l112 (.join (.act (ld1 (aadd a110 0)) fun v113 => asStr v113 fun s114 => .call 50 [(.string s114)] fun v115 => asBool v115 fun b116 => bif (!b116) == false then (.act (ld1 (aadd a110 1)) fun v117 => asSlice v117 fun p118 n119 n120 => .ret .normal [(.bool (decide (((n119 : Nat) : Int) > 3)))]) else (.ret .normal [(.bool true)])) (T28k0 p86 n87 n88 p91 n92 n93 a110 b96))))) (T28k1 i83)) else (.ret (.exit 2) [(.int .i64 i83), (.slice p86 n87 n88), (.slice p91 n92 n93), (.bool b96)]))

noncomputable def T28k2 : Ex → List Value → Pg :=
  fun e172 l173 => sw e172 (.exit 2) (asCons l173 fun v174 l175 => asInt .i64 v174 fun i176 => asCons l175 fun v177 l178 => asSlice v177 fun p179 n180 n181 => asCons l178 fun v182 l183 => asSlice v182 fun p184 n185 n186 => asCons l183 fun v187 l188 => asBool v187 fun b189 => asNil l188 (.ret .normal [(.slice p179 n180 n181), (.slice p184 n185 n186), (.bool b189)])) (sw e172 .ret (asCons l173 fun v190 l191 => asInt .i64 v190 fun i192 => asCons l191 fun v193 l194 => asSlice v193 fun p195 n196 n197 => asCons l194 fun v198 l199 => asSlice v198 fun p200 n201 n202 => asCons l199 fun v203 l204 => asBool v203 fun b205 => asNil l204 (.ret .ret [(.slice p195 n196 n197), (.slice p200 n201 n202), (.bool b205)])) (.fail))

noncomputable def T28k3 (p12 : (Option Addr)) (n13 : Nat) (n14 : Nat) (p17 : (Option Addr)) (n18 : Nat) (n19 : Nat) (a5 : Addr) (a36 : Addr) (b22 : Bool) : Ex → List Value → Pg :=
  fun e55 l56 => sw e55 .normal (asCons l56 fun v57 l58 => asBool v57 fun b59 => asNil l58 (bif b59 then (.ret .ret [(.slice p12 n13 n14), (.slice p17 n18 n19), (.bool false)]) else (.act (ld1 a5) fun v60 => asSlice v60 fun p61 n62 n63 => .act (ld1 (aadd a36 0)) fun v64 => asStr v64 fun s65 => .act (bdSl 1 1 [(.string s65)]) fun v66 => asSlice v66 fun p67 n68 n69 => .act (apS 1 16 p61 n62 n63 p67 n68 n69) fun v70 => asSlice v70 fun p71 n72 n73 => .act (stC a5 [(.slice p71 n72 n73)]) fun v74 => asTuple v74 fun l75 => asNil l75 (.act (ld1 (aadd a36 1)) fun v76 => asSlice v76 fun p77 n78 n79 => .loop [(.int .i64 0), (.slice p12 n13 n14), (.slice p17 n18 n19), (.bool b22)] (T28b0 n78 p77) (T28k2))))) (.fail)

noncomputable def T28k4 (i9 : Int) : Ex → List Value → Pg :=
  fun e206 l207 => sw e206 .ret (asCons l207 fun v208 l209 => asSlice v208 fun p210 n211 n212 => asCons l209 fun v213 l214 => asSlice v213 fun p215 n216 n217 => asCons l214 fun v218 l219 => asBool v218 fun b220 => asNil l219 (.ret .ret [(.int .i64 i9), (.slice p210 n211 n212), (.slice p215 n216 n217), (.bool b220)])) (sw e206 .normal (asCons l207 fun v221 l222 => asSlice v221 fun p223 n224 n225 => asCons l222 fun v226 l227 => asSlice v226 fun p228 n229 n230 => asCons l227 fun v231 l232 => asBool v231 fun b233 => asNil l232 (.ret .normal [(.int .i64 (wi64 (i9 + 1))), (.slice p223 n224 n225), (.slice p228 n229 n230), (.bool b233)])) (.fail))

noncomputable def T28b1 (n1 : Nat) (p0 : (Option Addr)) (a5 : Addr) : List Value → Pg :=
  fun l6 => asCons l6 fun v7 l8 => asInt .i64 v7 fun i9 => asCons l8 fun v10 l11 => asSlice v10 fun p12 n13 n14 => asCons l11 fun v15 l16 => asSlice v15 fun p17 n18 n19 => asCons l16 fun v20 l21 => asBool v20 fun b22 => asNil l21 (bif (decide (i9 < ((n1 : Nat) : Int))) then (.join (asSome p0 fun a23 => grd ((decide (0 ≤ i9)) && (decide (i9 < ((n1 : Nat) : Int)))) (.act (ldN 2 (aadd a23 ((Int.toNat i9) * 2))) fun v24 => asAgg v24 fun l25 => asCons l25 fun v26 l27 => asStr v26 fun s28 => asCons l27 fun v29 l30 => asSlice v29 fun p31 n32 n33 => asNil l30 (.act (newC [(.string (bs [])), (.slice none 0 0)]) fun v34 => asPtr v34 fun p35 => asSome p35 fun a36 => .act (stC a36 [(.string s28), (.slice p31 n32 n33)]) fun v37 => asTuple v37 fun l38 => asNil l38 (.join (.act (ld1 (aadd a36 0)) fun v39 => asStr v39 fun s40 => .call 48 [(.string s40)] fun v41 => asBool v41 fun b42 => bif (!b42) == false then (.act (ld1 (aadd a36 0)) fun v43 => asStr v43 fun s44 => .call 49 [(.string s44)] fun v45 => asBool v45 fun b46 => bif b46 == false then (.act (ld1 (aadd a36 1)) fun v47 => asSlice v47 fun p48 n49 n50 => bif (decide (((n49 : Nat) : Int) < 1)) == false then (.act (ld1 (aadd a36 1)) fun v51 => asSlice v51 fun p52 n53 n54 => .ret .normal [(.bool (decide (((n53 : Nat) : Int) > 20)))]) else (.ret .normal [(.bool true)])) else (.ret .normal [(.bool true)])) else (.ret .normal [(.bool true)])) (T28k3 p12 n13 n14 p17 n18 n19 a5 a36 b22))))) (T28k4 i9)) else (.ret (.exit 0) [(.int .i64 i9), (.slice p12 n13 n14), (.slice p17 n18 n19), (.bool b22)]))

noncomputable def T28k5 : Ex → List Value → Pg :=
  fun e267 l268 => sw e267 .normal (asCons l268 fun v269 l270 => asBool v269 fun b271 => asNil l270 (.ret .ret [(.bool b271)])) (.fail)

noncomputable def T28k6 (a5 : Addr) (n1 : Nat) : Ex → List Value → Pg :=
  fun e234 l235 => sw e234 (.exit 0) (asCons l235 fun v236 l237 => asInt .i64 v236 fun i238 => asCons l237 fun v239 l240 => asSlice v239 fun p241 n242 n243 => asCons l240 fun v244 l245 => asSlice v244 fun p246 n247 n248 => asCons l245 fun v249 l250 => asBool v249 fun b251 => asNil l250 (.act (newC [.nilFunc]) fun v252 => asPtr v252 fun p253 => asSome p253 fun a254 => .act (stC a254 [(.func (.func 51) #[] #[(.pointer (some a5))])]) fun v255 => asTuple v255 fun l256 => asNil l256 (.join (bif (decide (((n1 : Nat) : Int) ≤ 20)) == true then (.act (ld1 a5) fun v257 => asSlice v257 fun p258 n259 n260 => .call 31 [(.slice p258 n259 n260)] fun v261 => asBool v261 fun b262 => bif (!b262) == true then (.call 31 [(.slice p246 n247 n248)] fun v263 => asBool v263 fun b264 => bif (!b264) == true then (.call 54 [(.slice p241 n242 n243), (.func (.func 53) #[] #[(.pointer (some a254))])] fun v265 => asBool v265 fun b266 => .ret .normal [(.bool (!b266))]) else (.ret .normal [(.bool false)])) else (.ret .normal [(.bool false)])) else (.ret .normal [(.bool false)])) (T28k5)))) (sw e234 .ret (asCons l235 fun v272 l273 => asInt .i64 v272 fun i274 => asCons l273 fun v275 l276 => asSlice v275 fun p277 n278 n279 => asCons l276 fun v280 l281 => asSlice v280 fun p282 n283 n284 => asCons l281 fun v285 l286 => asBool v285 fun b287 => asNil l286 (.ret .ret [(.bool b287)])) (.fail))

/-- hindsight/tree.decls -/
noncomputable def T28 (p0 : (Option Addr)) (n1 : Nat) (n2 : Nat) : Pg :=
  .act (newC [(.slice none 0 0)]) fun v3 => asPtr v3 fun p4 => asSome p4 fun a5 => .loop [(.int .i64 0), (.slice none 0 0), (.slice none 0 0), (.bool false)] (T28b1 n1 p0 a5) (T28k6 a5 n1)
theorem T28_eq (p0 : (Option Addr)) (n1 : Nat) (n2 : Nat) : progOf PROG false 28 [(.slice p0 n1 n2)] = T28 p0 n1 n2 := by kernel_rfl


noncomputable def T29k0 (b112 : Bool) : Ex → List Value → Pg :=
  fun e129 l130 => sw e129 .normal (asCons l130 fun v131 l132 => asBool v131 fun b133 => asNil l132 (bif b133 then (.ret .ret [(.bool false)]) else (.ret .normal [(.bool b112)]))) (.fail)

noncomputable def T29k1 (i109 : Int) : Ex → List Value → Pg :=
  fun e134 l135 => sw e134 .ret (asCons l135 fun v136 l137 => asBool v136 fun b138 => asNil l137 (.ret .ret [(.int .i64 i109), (.bool b138)])) (sw e134 .normal (asCons l135 fun v139 l140 => asBool v139 fun b141 => asNil l140 (.ret .normal [(.int .i64 (wi64 (i109 + 1))), (.bool b141)])) (.fail))

noncomputable def T29b0 (n104 : Nat) (p103 : (Option Addr)) (p0 : (Option Addr)) (b1 : Bool) (a44 : Addr) (i2 : Int) : List Value → Pg :=
  fun l106 => asCons l106 fun v107 l108 => asInt .i64 v107 fun i109 => asCons l108 fun v110 l111 => asBool v110 fun b112 => asNil l111 (bif (decide (i109 < ((n104 : Nat) : Int))) then (.join (asSome p103 fun a113 => grd ((decide (0 ≤ i109)) && (decide (i109 < ((n104 : Nat) : Int)))) (.act (ld1 (aadd a113 ((Int.toNat i109) * 1))) fun v114 => asInt .i64 v114 fun i115 => .join (asSome p0 fun a116 => .act (ld1 (aadd a116 2)) fun v117 => asInt .i64 v117 fun i118 => bif (i115 != i118) == false then (bif b1 == false then (.act (ld1 (aadd a44 0)) fun v119 => asInt .i64 v119 fun i120 => bif (i120 == 11) == true then (.call 33 [(.int .i64 i109)] fun v121 => asBool v121 fun b122 => .call 29 [(.pointer p0), (.bool b122), (.int .i64 (wi64 (i2 + 1)))] fun v123 => asBool v123 fun b124 => .ret .normal [(.bool (!b124))]) else (.call 29 [(.pointer p0), (.bool false), (.int .i64 (wi64 (i2 + 1)))] fun v125 => asBool v125 fun b126 => .ret .normal [(.bool (!b126))])) else (.call 29 [(.pointer p0), (.bool true), (.int .i64 (wi64 (i2 + 1)))] fun v127 => asBool v127 fun b128 => .ret .normal [(.bool (!b128))])) else (.ret .normal [(.bool true)])) (T29k0 b112))) (T29k1 i109)) else (.ret (.exit 0) [(.int .i64 i109), (.bool b112)]))

noncomputable def T29k2 : Ex → List Value → Pg :=
  fun e142 l143 => sw e142 (.exit 0) (asCons l143 fun v144 l145 => asInt .i64 v144 fun i146 => asCons l145 fun v147 l148 => asBool v147 fun b149 => asNil l148 (.ret .ret [(.bool true)])) (sw e142 .ret (asCons l143 fun v150 l151 => asInt .i64 v150 fun i152 => asCons l151 fun v153 l154 => asBool v153 fun b155 => asNil l154 (.ret .ret [(.bool b155)])) (.fail))

noncomputable def T29k3 (p0 : (Option Addr)) (a44 : Addr) (b1 : Bool) (i2 : Int) : Ex → List Value → Pg :=
  fun e91 l92 => sw e91 .normal (asCons l92 fun v93 l94 => asBool v93 fun b95 => asNil l94 (bif b95 then (.ret .ret [(.bool false)]) else (asSome p0 fun a96 => .act (ld1 (aadd a96 2)) fun v97 => asInt .i64 v97 fun i98 => asSome p0 fun a99 => .act (stC (aadd a99 2) [(.int .i64 (wi64 (i98 + 1)))]) fun v100 => asTuple v100 fun l101 => asNil l101 (.act (ld1 (aadd a44 4)) fun v102 => asSlice v102 fun p103 n104 n105 => .loop [(.int .i64 0), (.bool false)] (T29b0 n104 p103 p0 b1 a44 i2) (T29k2))))) (.fail)

/-- (*hindsight/tree.walker).walk -/
noncomputable def T29 (p0 : (Option Addr)) (b1 : Bool) (i2 : Int) : Pg :=
  asSome p0 fun a3 => .act (ld1 (aadd a3 2)) fun v4 => asInt .i64 v4 fun i5 => asSome p0 fun a6 => .act (ld1 (aadd (aadd a6 0) 0)) fun v7 => asSlice v7 fun p8 n9 n10 => bif ((decide (i5 ≥ ((n9 : Nat) : Int))) || (decide (i2 ≥ 60))) then (.ret .ret [(.bool false)]) else (asSome p0 fun a11 => .act (ld1 (aadd (aadd a11 0) 0)) fun v12 => asSlice v12 fun p13 n14 n15 => asSome p13 fun a16 => grd ((decide (0 ≤ i5)) && (decide (i5 < ((n14 : Nat) : Int)))) (.act (ldN 7 (aadd a16 ((Int.toNat i5) * 7))) fun v17 => asAgg v17 fun l18 => asCons l18 fun v19 l20 => asInt .i64 v19 fun i21 => asCons l20 fun v22 l23 => asInt .i64 v22 fun i24 => asCons l23 fun v25 l26 => asStr v25 fun s27 => asCons l26 fun v28 l29 => asStr v28 fun s30 => asCons l29 fun v31 l32 => asSlice v31 fun p33 n34 n35 => asCons l32 fun v36 l37 => asInt .i64 v36 fun i38 => asCons l37 fun v39 l40 => asInt .i64 v39 fun i41 => asNil l40 (.act (newC [(.int .i64 0), (.int .i64 0), (.string (bs [])), (.string (bs [])), (.slice none 0 0), (.int .i64 0), (.int .i64 0)]) fun v42 => asPtr v42 fun p43 => asSome p43 fun a44 => .act (stC a44 [(.int .i64 i21), (.int .i64 i24), (.string s27), (.string s30), (.slice p33 n34 n35), (.int .i64 i38), (.int .i64 i41)]) fun v45 => asTuple v45 fun l46 => asNil l46 (.join (.act (ld1 (aadd a44 0)) fun v47 => asInt .i64 v47 fun i48 => .call 30 [(.int .i64 i48)] fun v49 => asBool v49 fun b50 => bif (!(b50 == b1)) == false then (asSome p0 fun a51 => .act (ldN 2 (aadd a51 0)) fun v52 => asAgg v52 fun l53 => asCons l53 fun v54 l55 => asSlice v54 fun p56 n57 n58 => asCons l55 fun v59 l60 => asSlice v59 fun p61 n62 n63 => asNil l60 (.act (ldN 7 a44) fun v64 => asAgg v64 fun l65 => asCons l65 fun v66 l67 => asInt .i64 v66 fun i68 => asCons l67 fun v69 l70 => asInt .i64 v69 fun i71 => asCons l70 fun v72 l73 => asStr v72 fun s74 => asCons l73 fun v75 l76 => asStr v75 fun s77 => asCons l76 fun v78 l79 => asSlice v78 fun p80 n81 n82 => asCons l79 fun v83 l84 => asInt .i64 v83 fun i85 => asCons l84 fun v86 l87 => asInt .i64 v86 fun i88 => asNil l87 (.call 55 [(.agg #[(.slice p56 n57 n58), (.slice p61 n62 n63)]), (.agg #[(.int .i64 i68), (.int .i64 i71), (.string s74), (.string s77), (.slice p80 n81 n82), (.int .i64 i85), (.int .i64 i88)])] fun v89 => asBool v89 fun b90 => .ret .normal [(.bool (!b90))]))) else (.ret .normal [(.bool true)])) (T29k3 p0 a44 b1 i2)))))
theorem T29_eq (p0 : (Option Addr)) (b1 : Bool) (i2 : Int) : progOf PROG false 29 [(.pointer p0), (.bool b1), (.int .i64 i2)] = T29 p0 b1 i2 := by kernel_rfl


/-- hindsight/tree.Pattern -/
noncomputable def T30 (i0 : Int) : Pg :=
  .ret .ret [(.bool ((decide (i0 ≥ 21)) && (decide (i0 ≤ 26))))]
theorem T30_eq (i0 : Int) : progOf PROG false 30 [(.int .i64 i0)] = T30 i0 := by kernel_rfl


noncomputable def T31k0 (i8 : Int) : Ex → List Value → Pg :=
  fun e19 l20 => sw e19 .ret (asCons l20 fun v21 l22 => asBool v21 fun b23 => asNil l22 (.ret .ret [(.int .i64 i8), (.bool b23)])) (sw e19 .normal (asCons l20 fun v24 l25 => asBool v24 fun b26 => asNil l25 (.ret .normal [(.int .i64 (wi64 (i8 + 1))), (.bool b26)])) (.fail))

noncomputable def T31b0 (n1 : Nat) (p0 : (Option Addr)) (m4 : (Option Nat)) : List Value → Pg :=
  fun l5 => asCons l5 fun v6 l7 => asInt .i64 v6 fun i8 => asCons l7 fun v9 l10 => asBool v9 fun b11 => asNil l10 (bif (decide (i8 < ((n1 : Nat) : Int))) then (.join (asSome p0 fun a12 => grd ((decide (0 ≤ i8)) && (decide (i8 < ((n1 : Nat) : Int)))) (.act (ld1 (aadd a12 ((Int.toNat i8) * 1))) fun v13 => asStr v13 fun s14 => .act (lkp .string (.bool false) m4 (.string s14) false) fun v15 => asBool v15 fun b16 => bif b16 then (.ret .ret [(.bool true)]) else (.act (mup .string m4 (.string s14) (.bool true)) fun v17 => asTuple v17 fun l18 => asNil l18 (.ret .normal [(.bool b11)])))) (T31k0 i8)) else (.ret (.exit 0) [(.int .i64 i8), (.bool b11)]))

noncomputable def T31k1 : Ex → List Value → Pg :=
  fun e27 l28 => sw e27 (.exit 0) (asCons l28 fun v29 l30 => asInt .i64 v29 fun i31 => asCons l30 fun v32 l33 => asBool v32 fun b34 => asNil l33 (.ret .ret [(.bool false)])) (sw e27 .ret (asCons l28 fun v35 l36 => asInt .i64 v35 fun i37 => asCons l36 fun v38 l39 => asBool v38 fun b40 => asNil l39 (.ret .ret [(.bool b40)])) (.fail))

/-- hindsight/tree.twice -/
noncomputable def T31 (p0 : (Option Addr)) (n1 : Nat) (n2 : Nat) : Pg :=
  .act makeMapAct fun v3 => asMap v3 fun m4 => .loop [(.int .i64 0), (.bool false)] (T31b0 n1 p0 m4) (T31k1)
theorem T31_eq (p0 : (Option Addr)) (n1 : Nat) (n2 : Nat) : progOf PROG false 31 [(.slice p0 n1 n2)] = T31 p0 n1 n2 := by kernel_rfl


noncomputable def T32k0 (i62 : Int) : Ex → List Value → Pg :=
  fun e91 l92 => sw e91 .normal (asCons l92 fun v93 l94 => asSlice v93 fun p95 n96 n97 => asNil l94 (.ret .normal [(.int .i64 (wi64 (i62 + 1))), (.slice p95 n96 n97)])) (.fail)

noncomputable def T32b0 (n57 : Nat) (p56 : (Option Addr)) (a9 : Addr) : List Value → Pg :=
  fun l59 => asCons l59 fun v60 l61 => asInt .i64 v60 fun i62 => asCons l61 fun v63 l64 => asSlice v63 fun p65 n66 n67 => asNil l64 (bif (decide (i62 < ((n57 : Nat) : Int))) then (.join (asSome p56 fun a68 => grd ((decide (0 ≤ i62)) && (decide (i62 < ((n57 : Nat) : Int)))) (.act (ld1 (aadd a68 ((Int.toNat i62) * 1))) fun v69 => asInt .i64 v69 fun i70 => .act (ldN 2 a9) fun v71 => asAgg v71 fun l72 => asCons l72 fun v73 l74 => asSlice v73 fun p75 n76 n77 => asCons l74 fun v78 l79 => asSlice v78 fun p80 n81 n82 => asNil l79 (.call 32 [(.agg #[(.slice p75 n76 n77), (.slice p80 n81 n82)]), (.int .i64 i70)] fun v83 => asSlice v83 fun p84 n85 n86 => .act (apS 1 16 p65 n66 n67 p84 n85 n86) fun v87 => asSlice v87 fun p88 n89 n90 => .ret .normal [(.slice p88 n89 n90)]))) (T32k0 i62)) else (.ret (.exit 0) [(.int .i64 i62), (.slice p65 n66 n67)]))

noncomputable def T32k1 : Ex → List Value → Pg :=
  fun e98 l99 => sw e98 (.exit 0) (asCons l99 fun v100 l101 => asInt .i64 v100 fun i102 => asCons l101 fun v103 l104 => asSlice v103 fun p105 n106 n107 => asNil l104 (.ret .normal [(.slice p105 n106 n107)])) (.fail)

noncomputable def T32k2 : Ex → List Value → Pg :=
  fun e108 l109 => sw e108 .normal (asCons l109 fun v110 l111 => asSlice v110 fun p112 n113 n114 => asNil l111 (.ret .ret [(.slice p112 n113 n114)])) (.fail)

/-- hindsight/tree.binds -/
noncomputable def T32 (p0 : (Option Addr)) (n1 : Nat) (n2 : Nat) (p3 : (Option Addr)) (n4 : Nat) (n5 : Nat) (i6 : Int) : Pg :=
  .act (newC [(.slice p0 n1 n2), (.slice p3 n4 n5)]) fun v7 => asPtr v7 fun p8 => asSome p8 fun a9 => .act (ld1 (aadd a9 0)) fun v10 => asSlice v10 fun p11 n12 n13 => asSome p11 fun a14 => grd ((decide (0 ≤ i6)) && (decide (i6 < ((n12 : Nat) : Int)))) (.act (ldN 7 (aadd a14 ((Int.toNat i6) * 7))) fun v15 => asAgg v15 fun l16 => asCons l16 fun v17 l18 => asInt .i64 v17 fun i19 => asCons l18 fun v20 l21 => asInt .i64 v20 fun i22 => asCons l21 fun v23 l24 => asStr v23 fun s25 => asCons l24 fun v26 l27 => asStr v26 fun s28 => asCons l27 fun v29 l30 => asSlice v29 fun p31 n32 n33 => asCons l30 fun v34 l35 => asInt .i64 v34 fun i36 => asCons l35 fun v37 l38 => asInt .i64 v37 fun i39 => asNil l38 (.act (newC [(.int .i64 0), (.int .i64 0), (.string (bs [])), (.string (bs [])), (.slice none 0 0), (.int .i64 0), (.int .i64 0)]) fun v40 => asPtr v40 fun p41 => asSome p41 fun a42 => .act (stC a42 [(.int .i64 i19), (.int .i64 i22), (.string s25), (.string s28), (.slice p31 n32 n33), (.int .i64 i36), (.int .i64 i39)]) fun v43 => asTuple v43 fun l44 => asNil l44 (.act (ld1 (aadd a42 0)) fun v45 => asInt .i64 v45 fun i46 => bif (i46 == 22) then (.act (ld1 (aadd a42 2)) fun v47 => asStr v47 fun s48 => .act (bdSl 1 1 [(.string s48)]) fun v49 => asSlice v49 fun p50 n51 n52 => .ret .ret [(.slice p50 n51 n52)]) else (.act (ld1 (aadd a42 0)) fun v53 => asInt .i64 v53 fun i54 => .join (bif (i54 == 26) then (.act (ld1 (aadd a42 4)) fun v55 => asSlice v55 fun p56 n57 n58 => .loop [(.int .i64 0), (.slice none 0 0)] (T32b0 n57 p56 a9) (T32k1)) else (.ret .normal [(.slice none 0 0)])) (T32k2)))))
theorem T32_eq (p0 : (Option Addr)) (n1 : Nat) (n2 : Nat) (p3 : (Option Addr)) (n4 : Nat) (n5 : Nat) (i6 : Int) : progOf PROG false 32 [(.agg #[(.slice p0 n1 n2), (.slice p3 n4 n5)]), (.int .i64 i6)] = T32 p0 n1 n2 p3 n4 n5 i6 := by kernel_rfl


/-- hindsight/tree.Arm -/
noncomputable def T33 (i0 : Int) : Pg :=
  .ret .ret [(.bool ((Int.tmod i0 2) == 1))]
theorem T33_eq (i0 : Int) : progOf PROG false 33 [(.int .i64 i0)] = T33 i0 := by kernel_rfl


noncomputable def T40k0 : Ex → List Value → Pg :=
  fun e13 l14 => sw e13 .normal (asCons l14 fun v15 l16 => asInt .i64 v15 fun i17 => asNil l16 (.ret .normal [(.int .i64 i17)])) (.fail)

noncomputable def T40k1 (i5 : Int) : Ex → List Value → Pg :=
  fun e8 l9 => sw e8 .normal (asCons l9 fun v10 l11 => asBool v10 fun b12 => asNil l11 (bif b12 then (.join (.ret .normal [(.int .i64 (wi64 (i5 + 1)))]) (T40k0)) else (.ret (.exit 0) [(.int .i64 i5)]))) (.fail)

noncomputable def T40b0 (i1 : Int) (p0 : (Option Addr)) : List Value → Pg :=
  fun l2 => asCons l2 fun v3 l4 => asInt .i64 v3 fun i5 => asNil l4 (.join (bif (decide (i5 < i1)) == true then (.call 59 [(.pointer p0)] fun v6 => asBool v6 fun b7 => .ret .normal [(.bool b7)]) else (.ret .normal [(.bool false)])) (T40k1 i5))

noncomputable def T40k2 : Ex → List Value → Pg :=
  fun e18 l19 => sw e18 (.exit 0) (asCons l19 fun v20 l21 => asInt .i64 v20 fun i22 => asNil l21 (.ret .ret [(.int .i64 i22)])) (.fail)

/-- (*hindsight/source.Machine).Run -/
noncomputable def T40 (p0 : (Option Addr)) (i1 : Int) : Pg :=
  .loop [(.int .i64 0)] (T40b0 i1 p0) (T40k2)
theorem T40_eq (p0 : (Option Addr)) (i1 : Int) : progOf PROG false 40 [(.pointer p0), (.int .i64 i1)] = T40 p0 i1 := by kernel_rfl


noncomputable def T41k0 (i7 : Int) : Ex → List Value → Pg :=
  fun e19 l20 => sw e19 .ret (asCons l20 fun v21 l22 => asInt .i64 v21 fun i23 => asNil l22 (.ret .ret [(.int .i64 i7), (.int .i64 i23)])) (sw e19 .normal (asCons l20 fun v24 l25 => asInt .i64 v24 fun i26 => asNil l25 (.ret .normal [(.int .i64 (wi64 (i7 + 1))), (.int .i64 i26)])) (.fail))

noncomputable def T41b0 (n1 : Nat) (p0 : (Option Addr)) (v3 : Value) : List Value → Pg :=
  fun l4 => asCons l4 fun v5 l6 => asInt .i64 v5 fun i7 => asCons l6 fun v8 l9 => asInt .i64 v8 fun i10 => asNil l9 (bif (decide (i7 < ((n1 : Nat) : Int))) then (.join (asSome p0 fun a11 => grd ((decide (0 ≤ i7)) && (decide (i7 < ((n1 : Nat) : Int)))) (.act (ld1 (aadd a11 ((Int.toNat i7) * 1))) fun v12 => asInt .i64 v12 fun i13 => asFunc v3 fun n14 l15 l16 => .call n14 (l15 ++ [(.int .i64 i13)] ++ l16) fun v17 => asBool v17 fun b18 => bif b18 then (.ret .ret [(.int .i64 i7)]) else (.ret .normal [(.int .i64 i10)]))) (T41k0 i7)) else (.ret (.exit 0) [(.int .i64 i7), (.int .i64 i10)]))

noncomputable def T41k1 : Ex → List Value → Pg :=
  fun e27 l28 => sw e27 (.exit 0) (asCons l28 fun v29 l30 => asInt .i64 v29 fun i31 => asCons l30 fun v32 l33 => asInt .i64 v32 fun i34 => asNil l33 (.ret .ret [(.int .i64 (-1))])) (sw e27 .ret (asCons l28 fun v35 l36 => asInt .i64 v35 fun i37 => asCons l36 fun v38 l39 => asInt .i64 v38 fun i40 => asNil l39 (.ret .ret [(.int .i64 i40)])) (.fail))

/-- slices.IndexFunc[[]int64,int64] -/
noncomputable def T41 (p0 : (Option Addr)) (n1 : Nat) (n2 : Nat) (v3 : Value) : Pg :=
  .loop [(.int .i64 0), (.int .i64 0)] (T41b0 n1 p0 v3) (T41k1)
theorem T41_eq (p0 : (Option Addr)) (n1 : Nat) (n2 : Nat) (v3 : Value) : progOf PROG false 41 [(.slice p0 n1 n2), v3] = T41 p0 n1 n2 v3 := by kernel_rfl


noncomputable def T42k0 (s0 : ByteArray) (i20 : Int) (p4 : (Option Addr)) (n5 : Nat) (n6 : Nat) (i9 : Int) (i12 : Int) (p15 : (Option Addr)) (n16 : Nat) (n17 : Nat) : Ex → List Value → Pg :=
  fun e31 l32 => sw e31 .normal (asCons l32 fun v33 l34 => asBool v33 fun b35 => asNil l34 (bif b35 then (.call 62 [(.string s0), (.int .i64 i20)] fun v36 => asInt .i64 v36 fun i37 => bif (decide (i37 < 0)) then (.ret .ret [(.slice p4 n5 n6), (.int .i64 i20), (.int .i64 3), (.slice none 0 0), (.int .i64 i20)]) else (.ret .normal [(.slice p4 n5 n6), (.int .i64 i9), (.int .i64 i12), (.slice p15 n16 n17), (.int .i64 i37)])) else (.call 63 [(.string s0), (.int .i64 i20)] fun v38 => asTuple v38 fun l39 => asCons l39 fun v40 l41 => asAgg v40 fun l42 => asCons l42 fun v43 l44 => asInt .i64 v43 fun i45 => asCons l44 fun v46 l47 => asStr v46 fun s48 => asCons l47 fun v49 l50 => asInt .i64 v49 fun i51 => asCons l50 fun v52 l53 => asInt .i64 v52 fun i54 => asNil l53 (asCons l41 fun v55 l56 => asBool v55 fun b57 => asNil l56 (.act (newC [(.int .i64 0), (.string (bs [])), (.int .i64 0), (.int .i64 0)]) fun v58 => asPtr v58 fun p59 => asSome p59 fun a60 => .act (stC a60 [(.int .i64 i45), (.string s48), (.int .i64 i51), (.int .i64 i54)]) fun v61 => asTuple v61 fun l62 => asNil l62 (bif (!b57) then (.ret .ret [(.slice p4 n5 n6), (.int .i64 i20), (.int .i64 3), (.slice none 0 0), (.int .i64 i20)]) else (bif (((n5 : Nat) : Int) == 2000) then (.ret .ret [(.slice p4 n5 n6), (.int .i64 i20), (.int .i64 2), (.slice none 0 0), (.int .i64 i20)]) else (.act (ldN 4 a60) fun v63 => asAgg v63 fun l64 => asCons l64 fun v65 l66 => asInt .i64 v65 fun i67 => asCons l66 fun v68 l69 => asStr v68 fun s70 => asCons l69 fun v71 l72 => asInt .i64 v71 fun i73 => asCons l72 fun v74 l75 => asInt .i64 v74 fun i76 => asNil l75 (.act (bdSl 4 1 [(.int .i64 i67), (.string s70), (.int .i64 i73), (.int .i64 i76)]) fun v77 => asSlice v77 fun p78 n79 n80 => .act (apS 4 40 p4 n5 n6 p78 n79 n80) fun v81 => asSlice v81 fun p82 n83 n84 => .act (ld1 (aadd a60 3)) fun v85 => asInt .i64 v85 fun i86 => .ret .normal [(.slice p82 n83 n84), (.int .i64 i9), (.int .i64 i12), (.slice p15 n16 n17), (.int .i64 i86)]))))))))) (.fail)

noncomputable def T42k1 : Ex → List Value → Pg :=
  fun e87 l88 => sw e87 .ret (asCons l88 fun v89 l90 => asSlice v89 fun p91 n92 n93 => asCons l90 fun v94 l95 => asInt .i64 v94 fun i96 => asCons l95 fun v97 l98 => asInt .i64 v97 fun i99 => asCons l98 fun v100 l101 => asSlice v100 fun p102 n103 n104 => asCons l101 fun v105 l106 => asInt .i64 v105 fun i107 => asNil l106 (.ret .ret [(.slice p91 n92 n93), (.int .i64 i96), (.int .i64 i99), (.slice p102 n103 n104), (.int .i64 i107)])) (sw e87 .normal (asCons l88 fun v108 l109 => asSlice v108 fun p110 n111 n112 => asCons l109 fun v113 l114 => asInt .i64 v113 fun i115 => asCons l114 fun v116 l117 => asInt .i64 v116 fun i118 => asCons l117 fun v119 l120 => asSlice v119 fun p121 n122 n123 => asCons l120 fun v124 l125 => asInt .i64 v124 fun i126 => asNil l125 (.ret .normal [(.slice p110 n111 n112), (.int .i64 i115), (.int .i64 i118), (.slice p121 n122 n123), (.int .i64 i126)])) (.fail))

noncomputable def T42b0 (s0 : ByteArray) : List Value → Pg :=
  fun l1 => asCons l1 fun v2 l3 => asSlice v2 fun p4 n5 n6 => asCons l3 fun v7 l8 => asInt .i64 v7 fun i9 => asCons l8 fun v10 l11 => asInt .i64 v10 fun i12 => asCons l11 fun v13 l14 => asSlice v13 fun p15 n16 n17 => asCons l14 fun v18 l19 => asInt .i64 v18 fun i20 => asNil l19 (bif (decide (i20 < ((s0.size : Nat) : Int))) then (.join (grd (((decide (0 ≤ i20)) && (decide (i20 ≤ ((s0.size : Nat) : Int)))) && (decide (((s0.size : Nat) : Int) ≤ ((s0.size : Nat) : Int)))) (.call 60 [(.string (s0.extract (Int.toNat i20) s0.size))] fun v21 => asTuple v21 fun l22 => asCons l22 fun v23 l24 => asInt .i32 v23 fun i25 => asCons l24 fun v26 l27 => asInt .i64 v26 fun i28 => asNil l27 (.call 61 [(.int .i32 i25)] fun v29 => asInt .i64 v29 fun i30 => bif (i30 == 3) then (.ret .normal [(.slice p4 n5 n6), (.int .i64 i9), (.int .i64 i12), (.slice p15 n16 n17), (.int .i64 (wi64 (i20 + i28)))]) else (.join (bif (i25 == 40) == true then (bif (decide ((wi64 (i20 + 1)) < ((s0.size : Nat) : Int))) == true then (grd ((decide (0 ≤ (wi64 (i20 + 1)))) && (decide ((wi64 (i20 + 1)) < ((s0.size : Nat) : Int)))) (.ret .normal [(.bool ((byteAt s0 (Int.toNat (wi64 (i20 + 1)))) == 42))])) else (.ret .normal [(.bool false)])) else (.ret .normal [(.bool false)])) (T42k0 s0 i20 p4 n5 n6 i9 i12 p15 n16 n17))))) (T42k1)) else (.ret (.exit 0) [(.slice p4 n5 n6), (.int .i64 i9), (.int .i64 i12), (.slice p15 n16 n17), (.int .i64 i20)]))

noncomputable def T42k2 : Ex → List Value → Pg :=
  fun e127 l128 => sw e127 (.exit 0) (asCons l128 fun v129 l130 => asSlice v129 fun p131 n132 n133 => asCons l130 fun v134 l135 => asInt .i64 v134 fun i136 => asCons l135 fun v137 l138 => asInt .i64 v137 fun i139 => asCons l138 fun v140 l141 => asSlice v140 fun p142 n143 n144 => asCons l141 fun v145 l146 => asInt .i64 v145 fun i147 => asNil l146 (.ret .ret [(.tuple #[(.slice p131 n132 n133), (.int .i64 0), (.int .i64 0)])])) (sw e127 .ret (asCons l128 fun v148 l149 => asSlice v148 fun p150 n151 n152 => asCons l149 fun v153 l154 => asInt .i64 v153 fun i155 => asCons l154 fun v156 l157 => asInt .i64 v156 fun i158 => asCons l157 fun v159 l160 => asSlice v159 fun p161 n162 n163 => asCons l160 fun v164 l165 => asInt .i64 v164 fun i166 => asNil l165 (.ret .ret [(.tuple #[(.slice p161 n162 n163), (.int .i64 i158), (.int .i64 i155)])])) (.fail))

/-- hindsight/hindsightref1.Lex -/
noncomputable def T42 (s0 : ByteArray) : Pg :=
  bif (decide (((s0.size : Nat) : Int) > 4000)) then (.ret .ret [(.tuple #[(.slice none 0 0), (.int .i64 2), (.int .i64 0)])]) else (.loop [(.slice none 0 0), (.int .i64 0), (.int .i64 0), (.slice none 0 0), (.int .i64 0)] (T42b0 s0) (T42k2))
theorem T42_eq (s0 : ByteArray) : progOf PROG false 42 [(.string s0)] = T42 s0 := by kernel_rfl


noncomputable def T43k0 : Ex → List Value → Pg :=
  fun e76 l77 => sw e76 .normal (asNil l77 (.ret .normal [])) (.fail)

noncomputable def T43b0 (p0 : (Option Addr)) (a34 : Addr) : List Value → Pg :=
  fun l55 => asNil l55 (.call 64 [(.pointer p0), (.string (bs [44]))] fun v56 => asBool v56 fun b57 => bif b57 then (.join (.act (ld1 (aadd a34 1)) fun v58 => asSlice v58 fun p59 n60 n61 => .call 65 [(.pointer p0), (.int .i64 2)] fun v62 => asStr v62 fun s63 => .get fun h75 => grd (chks [((ld1 (aadd a34 1)), v58)] h75) (.act (bdSl 1 1 [(.string s63)]) fun v64 => asSlice v64 fun p65 n66 n67 => .get fun h74 => grd (chks [((ld1 (aadd a34 1)), v58)] h74) (.act (apS 1 16 p59 n60 n61 p65 n66 n67) fun v68 => asSlice v68 fun p69 n70 n71 => .act (stC (aadd a34 1) [(.slice p69 n70 n71)]) fun v72 => asTuple v72 fun l73 => asNil l73 (.ret .normal [])))) (T43k0)) else (.ret (.exit 4) []))

noncomputable def T43k1 : Ex → List Value → Pg :=
  fun e78 l79 => sw e78 (.exit 4) (asNil l79 (.ret .normal [])) (.fail)

noncomputable def T43k2 (a13 : Addr) (a34 : Addr) : Ex → List Value → Pg :=
  fun e82 l83 => sw e82 .normal (asNil l83 (.act (ld1 (aadd a13 1)) fun v84 => asSlice v84 fun p85 n86 n87 => .act (ldN 2 a34) fun v88 => asAgg v88 fun l89 => asCons l89 fun v90 l91 => asStr v90 fun s92 => asCons l91 fun v93 l94 => asSlice v93 fun p95 n96 n97 => asNil l94 (.act (bdSl 2 1 [(.string s92), (.slice p95 n96 n97)]) fun v98 => asSlice v98 fun p99 n100 n101 => .act (apS 2 40 p85 n86 n87 p99 n100 n101) fun v102 => asSlice v102 fun p103 n104 n105 => .act (stC (aadd a13 1) [(.slice p103 n104 n105)]) fun v106 => asTuple v106 fun l107 => asNil l107 (.ret .normal [])))) (.fail)

noncomputable def T43k3 (p0 : (Option Addr)) : Ex → List Value → Pg :=
  fun e108 l109 => sw e108 .normal (asNil l109 (.call 64 [(.pointer p0), (.string (bs [124]))] fun v110 => asBool v110 fun b111 => .ret .normal [(.bool b111)])) (.fail)

noncomputable def T43k4 (p0 : (Option Addr)) (a13 : Addr) (b21 : Bool) : Ex → List Value → Pg :=
  fun e25 l26 => sw e25 .normal (asCons l26 fun v27 l28 => asBool v27 fun b29 => asNil l28 (bif b29 then (.join (.call 65 [(.pointer p0), (.int .i64 3)] fun v30 => asStr v30 fun s31 => .act (newC [(.string (bs [])), (.slice none 0 0)]) fun v32 => asPtr v32 fun p33 => asSome p33 fun a34 => .act (stC a34 [(.string s31), (.slice none 0 0)]) fun v35 => asTuple v35 fun l36 => asNil l36 (.call 64 [(.pointer p0), (.string (bs [111, 102]))] fun v37 => asBool v37 fun b38 => .join (bif b38 then (.act (ld1 (aadd a34 1)) fun v39 => asSlice v39 fun p40 n41 n42 => .call 65 [(.pointer p0), (.int .i64 2)] fun v43 => asStr v43 fun s44 => .get fun h81 => grd (chks [((ld1 (aadd a34 1)), v39)] h81) (.act (bdSl 1 1 [(.string s44)]) fun v45 => asSlice v45 fun p46 n47 n48 => .get fun h80 => grd (chks [((ld1 (aadd a34 1)), v39)] h80) (.act (apS 1 16 p40 n41 n42 p46 n47 n48) fun v49 => asSlice v49 fun p50 n51 n52 => .act (stC (aadd a34 1) [(.slice p50 n51 n52)]) fun v53 => asTuple v53 fun l54 => asNil l54 (.loop [] (T43b0 p0 a34) (T43k1))))) else (.ret .normal [])) (T43k2 a13 a34))) (T43k3 p0)) else (.ret (.exit 2) [(.bool b21)]))) (.fail)

noncomputable def T43b1 (p0 : (Option Addr)) (a13 : Addr) : List Value → Pg :=
  fun l18 => asCons l18 fun v19 l20 => asBool v19 fun b21 => asNil l20 (.join (bif b21 == true then (asSome p0 fun a22 => .act (ld1 (aadd a22 3)) fun v23 => asBool v23 fun b24 => .ret .normal [(.bool (!b24))]) else (.ret .normal [(.bool false)])) (T43k4 p0 a13 b21))

noncomputable def T43k5 (p0 : (Option Addr)) (a13 : Addr) (p4 : (Option Addr)) (n5 : Nat) (n6 : Nat) : Ex → List Value → Pg :=
  fun e112 l113 => sw e112 (.exit 2) (asCons l113 fun v114 l115 => asBool v114 fun b116 => asNil l115 (.call 66 [(.pointer p0), (.string (bs [105, 110]))] fun v117 => asTuple v117 fun l118 => asNil l118 (.act (ldN 2 a13) fun v119 => asAgg v119 fun l120 => asCons l120 fun v121 l122 => asStr v121 fun s123 => asCons l122 fun v124 l125 => asSlice v124 fun p126 n127 n128 => asNil l125 (.act (bdSl 2 1 [(.string s123), (.slice p126 n127 n128)]) fun v129 => asSlice v129 fun p130 n131 n132 => .act (apS 2 40 p4 n5 n6 p130 n131 n132) fun v133 => asSlice v133 fun p134 n135 n136 => .ret .normal [(.slice p134 n135 n136)])))) (.fail)

noncomputable def T43k6 : Ex → List Value → Pg :=
  fun e137 l138 => sw e137 .normal (asCons l138 fun v139 l140 => asSlice v139 fun p141 n142 n143 => asNil l140 (.ret .normal [(.slice p141 n142 n143)])) (.fail)

noncomputable def T43b2 (p0 : (Option Addr)) : List Value → Pg :=
  fun l1 => asCons l1 fun v2 l3 => asSlice v2 fun p4 n5 n6 => asNil l3 (.call 64 [(.pointer p0), (.string (bs [116, 121, 112, 101]))] fun v7 => asBool v7 fun b8 => bif b8 then (.join (.call 65 [(.pointer p0), (.int .i64 2)] fun v9 => asStr v9 fun s10 => .act (newC [(.string (bs [])), (.slice none 0 0)]) fun v11 => asPtr v11 fun p12 => asSome p12 fun a13 => .act (stC a13 [(.string s10), (.slice none 0 0)]) fun v14 => asTuple v14 fun l15 => asNil l15 (.call 66 [(.pointer p0), (.string (bs [61]))] fun v16 => asTuple v16 fun l17 => asNil l17 (.loop [(.bool true)] (T43b1 p0 a13) (T43k5 p0 a13 p4 n5 n6)))) (T43k6)) else (.ret (.exit 0) [(.slice p4 n5 n6)]))

noncomputable def T43k7 : Ex → List Value → Pg :=
  fun e144 l145 => sw e144 (.exit 0) (asCons l145 fun v146 l147 => asSlice v146 fun p148 n149 n150 => asNil l147 (.ret .ret [(.slice p148 n149 n150)])) (.fail)

/-- (*hindsight/hindsightref3.reader).decls -/
noncomputable def T43 (p0 : (Option Addr)) : Pg :=
  .loop [(.slice none 0 0)] (T43b2 p0) (T43k7)
theorem T43_eq (p0 : (Option Addr)) : progOf PROG false 43 [(.pointer p0)] = T43 p0 := by kernel_rfl


/-- (*hindsight/hindsightref3.reader).expr -/
noncomputable def T44 (p0 : (Option Addr)) : Pg :=
  .call 67 [(.pointer p0)] fun v1 => asPtr v1 fun p2 => .call 64 [(.pointer p0), (.string (bs [59]))] fun v3 => asBool v3 fun b4 => bif b4 then (.call 44 [(.pointer p0)] fun v5 => asPtr v5 fun p6 => .call 68 [(.int .i64 12), (.string (bs [])), (.pointer p2), (.pointer p6)] fun v7 => asPtr v7 fun p8 => .ret .ret [(.pointer p8)]) else (.ret .ret [(.pointer p2)])
theorem T44_eq (p0 : (Option Addr)) : progOf PROG false 44 [(.pointer p0)] = T44 p0 := by kernel_rfl


/-- (*hindsight/hindsightref3.reader).word -/
noncomputable def T45 (p0 : (Option Addr)) : Pg :=
  .act (newC [(.int .i64 0), (.string (bs [])), (.int .i64 0), (.int .i64 0)]) fun v1 => asPtr v1 fun p2 => asSome p2 fun a3 => asSome p0 fun a4 => .act (ld1 (aadd a4 1)) fun v5 => asInt .i64 v5 fun i6 => asSome p0 fun a7 => .act (ld1 (aadd a7 0)) fun v8 => asSlice v8 fun p9 n10 n11 => bif (decide (i6 < ((n10 : Nat) : Int))) then (asSome p0 fun a12 => .act (ld1 (aadd a12 0)) fun v13 => asSlice v13 fun p14 n15 n16 => asSome p0 fun a17 => .act (ld1 (aadd a17 1)) fun v18 => asInt .i64 v18 fun i19 => asSome p14 fun a20 => grd ((decide (0 ≤ i19)) && (decide (i19 < ((n15 : Nat) : Int)))) (.act (ldN 4 (aadd a20 ((Int.toNat i19) * 4))) fun v21 => asAgg v21 fun l22 => asCons l22 fun v23 l24 => asInt .i64 v23 fun i25 => asCons l24 fun v26 l27 => asStr v26 fun s28 => asCons l27 fun v29 l30 => asInt .i64 v29 fun i31 => asCons l30 fun v32 l33 => asInt .i64 v32 fun i34 => asNil l33 (.act (stC a3 [(.int .i64 i25), (.string s28), (.int .i64 i31), (.int .i64 i34)]) fun v35 => asTuple v35 fun l36 => asNil l36 (.act (ldN 4 a3) fun v37 => .ret .ret [v37])))) else (asSome p0 fun a38 => .act (ld1 (aadd a38 2)) fun v39 => asInt .i64 v39 fun i40 => asSome p0 fun a41 => .act (ld1 (aadd a41 2)) fun v42 => asInt .i64 v42 fun i43 => .act (stC a3 [(.int .i64 0), (.string (bs [])), (.int .i64 i40), (.int .i64 i43)]) fun v44 => asTuple v44 fun l45 => asNil l45 (.act (ldN 4 a3) fun v46 => .ret .ret [v46]))
theorem T45_eq (p0 : (Option Addr)) : progOf PROG false 45 [(.pointer p0)] = T45 p0 := by kernel_rfl


noncomputable def T46k0 (i64 : Int) : Ex → List Value → Pg :=
  fun e93 l94 => sw e93 .normal (asCons l94 fun v95 l96 => asSlice v95 fun p97 n98 n99 => asNil l96 (.ret .normal [(.int .i64 (wi64 (i64 + 1))), (.slice p97 n98 n99)])) (.fail)

noncomputable def T46b0 (p1 : (Option Addr)) (p0 : (Option Addr)) (i2 : Int) : List Value → Pg :=
  fun l61 => asCons l61 fun v62 l63 => asInt .i64 v62 fun i64 => asCons l63 fun v65 l66 => asSlice v65 fun p67 n68 n69 => asNil l66 (asSome p1 fun a70 => .act (ld1 (aadd a70 7)) fun v71 => asSlice v71 fun p72 n73 n74 => bif (decide (i64 < ((n73 : Nat) : Int))) then (.join (asSome p1 fun a75 => .act (ld1 (aadd a75 7)) fun v76 => asSlice v76 fun p77 n78 n79 => asSome p77 fun a80 => grd ((decide (0 ≤ i64)) && (decide (i64 < ((n78 : Nat) : Int)))) (.act (ld1 (aadd a80 ((Int.toNat i64) * 1))) fun v81 => asPtr v81 fun p82 => .call 46 [(.pointer p0), (.pointer p82), (.int .i64 (wi64 (i2 + 1)))] fun v83 => asInt .i64 v83 fun i84 => .act (bdSl 1 1 [(.int .i64 i84)]) fun v85 => asSlice v85 fun p86 n87 n88 => .act (apS 1 8 p67 n68 n69 p86 n87 n88) fun v89 => asSlice v89 fun p90 n91 n92 => .ret .normal [(.slice p90 n91 n92)])) (T46k0 i64)) else (.ret (.exit 0) [(.int .i64 i64), (.slice p67 n68 n69)]))

noncomputable def T46k1 (p0 : (Option Addr)) (n6 : Nat) : Ex → List Value → Pg :=
  fun e100 l101 => sw e100 (.exit 0) (asCons l101 fun v102 l103 => asInt .i64 v102 fun i104 => asCons l103 fun v105 l106 => asSlice v105 fun p107 n108 n109 => asNil l106 (asSome p0 fun a110 => .act (ld1 (aadd (aadd a110 0) 0)) fun v111 => asSlice v111 fun p112 n113 n114 => asSome p112 fun a115 => grd (decide (((n6 : Nat) : Int) < ((n113 : Nat) : Int))) (.act (stC (aadd (aadd a115 (n6 * 7)) 4) [(.slice p107 n108 n109)]) fun v116 => asTuple v116 fun l117 => asNil l117 (.ret .ret [(.int .i64 ((n6 : Nat) : Int))])))) (.fail)

noncomputable def T46k2 (p0 : (Option Addr)) (p1 : (Option Addr)) (i2 : Int) (n6 : Nat) : Ex → List Value → Pg :=
  fun e17 l18 => sw e17 .normal (asNil l18 (asSome p0 fun a19 => .act (ld1 (aadd (aadd a19 0) 0)) fun v20 => asSlice v20 fun p21 n22 n23 => asSome p1 fun a24 => .act (ldN 7 (aadd a24 0)) fun v25 => asAgg v25 fun l26 => asCons l26 fun v27 l28 => asInt .i64 v27 fun i29 => asCons l28 fun v30 l31 => asInt .i64 v30 fun i32 => asCons l31 fun v33 l34 => asStr v33 fun s35 => asCons l34 fun v36 l37 => asStr v36 fun s38 => asCons l37 fun v39 l40 => asSlice v39 fun p41 n42 n43 => asCons l40 fun v44 l45 => asInt .i64 v44 fun i46 => asCons l45 fun v47 l48 => asInt .i64 v47 fun i49 => asNil l48 (.act (bdSl 7 1 [(.int .i64 i29), (.int .i64 i32), (.string s35), (.string s38), (.slice p41 n42 n43), (.int .i64 i46), (.int .i64 i49)]) fun v50 => asSlice v50 fun p51 n52 n53 => .get fun h118 => grd (chks [((ld1 (aadd (aadd a19 0) 0)), v20)] h118) (.act (apS 7 88 p21 n22 n23 p51 n52 n53) fun v54 => asSlice v54 fun p55 n56 n57 => asSome p0 fun a58 => .act (stC (aadd (aadd a58 0) 0) [(.slice p55 n56 n57)]) fun v59 => asTuple v59 fun l60 => asNil l60 (.loop [(.int .i64 0), (.slice none 0 0)] (T46b0 p1 p0 i2) (T46k1 p0 n6)))))) (.fail)

/-- (*hindsight/hindsightref3.flat).put -/
noncomputable def T46 (p0 : (Option Addr)) (p1 : (Option Addr)) (i2 : Int) : Pg :=
  asSome p0 fun a3 => .act (ld1 (aadd (aadd a3 0) 0)) fun v4 => asSlice v4 fun p5 n6 n7 => asSome p0 fun a8 => .act (ld1 (aadd a8 2)) fun v9 => asInt .i64 v9 fun i10 => .join (bif ((decide (i10 < 0)) && ((decide (((n6 : Nat) : Int) ≥ 1000)) || (decide (i2 > 60)))) then (asSome p1 fun a11 => .act (ld1 (aadd (aadd a11 0) 5)) fun v12 => asInt .i64 v12 fun i13 => asSome p0 fun a14 => .act (stC (aadd a14 2) [(.int .i64 i13)]) fun v15 => asTuple v15 fun l16 => asNil l16 (.ret .normal [])) else (.ret .normal [])) (T46k2 p0 p1 i2 n6)
theorem T46_eq (p0 : (Option Addr)) (p1 : (Option Addr)) (i2 : Int) : progOf PROG false 46 [(.pointer p0), (.pointer p1), (.int .i64 i2)] = T46 p0 p1 i2 := by kernel_rfl


noncomputable def T47k0 : Ex → List Value → Pg :=
  fun e50 l51 => sw e50 .normal (asCons l51 fun v52 l53 => asBool v52 fun b54 => asNil l53 (.ret .ret [(.bool b54)])) (.fail)

/-- hindsight/hindsightref3.Good -/
noncomputable def T47 (p0 : (Option Addr)) (n1 : Nat) (n2 : Nat) (p3 : (Option Addr)) (n4 : Nat) (n5 : Nat) : Pg :=
  .act (newC [(.slice p0 n1 n2), (.slice p3 n4 n5)]) fun v6 => asPtr v6 fun p7 => asSome p7 fun a8 => .join (.act (ld1 (aadd a8 0)) fun v9 => asSlice v9 fun p10 n11 n12 => bif (decide (((n11 : Nat) : Int) ≥ 1)) == true then (.act (ld1 (aadd a8 0)) fun v13 => asSlice v13 fun p14 n15 n16 => bif (decide (((n15 : Nat) : Int) ≤ 1000)) == true then (.act (ldN 2 a8) fun v17 => asAgg v17 fun l18 => asCons l18 fun v19 l20 => asSlice v19 fun p21 n22 n23 => asCons l20 fun v24 l25 => asSlice v24 fun p26 n27 n28 => asNil l25 (.call 69 [(.agg #[(.slice p21 n22 n23), (.slice p26 n27 n28)])] fun v29 => asBool v29 fun b30 => bif b30 == true then (.act (ldN 2 a8) fun v31 => asAgg v31 fun l32 => asCons l32 fun v33 l34 => asSlice v33 fun p35 n36 n37 => asCons l34 fun v38 l39 => asSlice v38 fun p40 n41 n42 => asNil l39 (.get fun h44 => .call 70 [(.agg #[(.slice p35 n36 n37), (.slice p40 n41 n42)]), (.int .i64 0), (.bool false), (.int .i64 1)] fun v43 => asInt .i64 v43 fun i45 => .act (ld1 (aadd a8 0)) fun v46 => grd (past (ld1 (aadd a8 0)) v46 [h44]) (asSlice v46 fun p47 n48 n49 => .ret .normal [(.bool (i45 == ((n48 : Nat) : Int)))]))) else (.ret .normal [(.bool false)]))) else (.ret .normal [(.bool false)])) else (.ret .normal [(.bool false)])) (T47k0)
theorem T47_eq (p0 : (Option Addr)) (n1 : Nat) (n2 : Nat) (p3 : (Option Addr)) (n4 : Nat) (n5 : Nat) : progOf PROG false 47 [(.agg #[(.slice p0 n1 n2), (.slice p3 n4 n5)])] = T47 p0 n1 n2 p3 n4 n5 := by kernel_rfl


noncomputable def T48k0 : Ex → List Value → Pg :=
  fun e3 l4 => sw e3 .normal (asCons l4 fun v5 l6 => asBool v5 fun b7 => asNil l6 (.ret .ret [(.bool b7)])) (.fail)

/-- hindsight/lex.IsName -/
noncomputable def T48 (s0 : ByteArray) : Pg :=
  .join (bif (!(s0.toList == (bs [95]).toList)) == true then (.call 71 [(.string s0), (.int .i64 2)] fun v1 => asBool v1 fun b2 => .ret .normal [(.bool b2)]) else (.ret .normal [(.bool false)])) (T48k0)
theorem T48_eq (s0 : ByteArray) : progOf PROG false 48 [(.string s0)] = T48 s0 := by kernel_rfl


/-- hindsight/tree.basic -/
noncomputable def T49 (s0 : ByteArray) : Pg :=
  .ret .ret [(.bool (((s0.toList == (bs [105, 110, 116]).toList) || (s0.toList == (bs [98, 111, 111, 108]).toList)) || (s0.toList == (bs [117, 110, 105, 116]).toList)))]
theorem T49_eq (s0 : ByteArray) : progOf PROG false 49 [(.string s0)] = T49 s0 := by kernel_rfl


/-- hindsight/lex.IsCon -/
noncomputable def T50 (s0 : ByteArray) : Pg :=
  .call 71 [(.string s0), (.int .i64 3)] fun v1 => asBool v1 fun b2 => .ret .ret [(.bool b2)]
theorem T50_eq (s0 : ByteArray) : progOf PROG false 50 [(.string s0)] = T50 s0 := by kernel_rfl


noncomputable def T51k0 : Ex → List Value → Pg :=
  fun e10 l11 => sw e10 .normal (asCons l11 fun v12 l13 => asBool v12 fun b14 => asNil l13 (.ret .ret [(.bool b14)])) (.fail)

/-- hindsight/tree.decls$1 -/
noncomputable def T51 (s0 : ByteArray) (a1 : Addr) : Pg :=
  .join (.call 49 [(.string s0)] fun v2 => asBool v2 fun b3 => bif b3 == false then (.act (ld1 a1) fun v4 => asSlice v4 fun p5 n6 n7 => .call 52 [(.slice p5 n6 n7), (.string s0)] fun v8 => asBool v8 fun b9 => .ret .normal [(.bool b9)]) else (.ret .normal [(.bool true)])) (T51k0)
theorem T51_eq (s0 : ByteArray) (a1 : Addr) : progOf PROG false 51 [(.string s0), (.pointer (some a1))] = T51 s0 a1 := by kernel_rfl


/-- slices.Contains[[]string,string] -/
noncomputable def T52 (p0 : (Option Addr)) (n1 : Nat) (n2 : Nat) (s3 : ByteArray) : Pg :=
  .call 72 [(.slice p0 n1 n2), (.string s3)] fun v4 => asInt .i64 v4 fun i5 => .ret .ret [(.bool (decide (i5 ≥ 0)))]
theorem T52_eq (p0 : (Option Addr)) (n1 : Nat) (n2 : Nat) (s3 : ByteArray) : progOf PROG false 52 [(.slice p0 n1 n2), (.string s3)] = T52 p0 n1 n2 s3 := by kernel_rfl


/-- hindsight/tree.decls$2 -/
noncomputable def T53 (s0 : ByteArray) (a1 : Addr) : Pg :=
  .act (ld1 a1) fun v2 => asFunc v2 fun n3 l4 l5 => .call n3 (l4 ++ [(.string s0)] ++ l5) fun v6 => asBool v6 fun b7 => .ret .ret [(.bool (!b7))]
theorem T53_eq (s0 : ByteArray) (a1 : Addr) : progOf PROG false 53 [(.string s0), (.pointer (some a1))] = T53 s0 a1 := by kernel_rfl


/-- slices.ContainsFunc[[]string,string] -/
noncomputable def T54 (p0 : (Option Addr)) (n1 : Nat) (n2 : Nat) (v3 : Value) : Pg :=
  .call 73 [(.slice p0 n1 n2), v3] fun v4 => asInt .i64 v4 fun i5 => .ret .ret [(.bool (decide (i5 ≥ 0)))]
theorem T54_eq (p0 : (Option Addr)) (n1 : Nat) (n2 : Nat) (v3 : Value) : progOf PROG false 54 [(.slice p0 n1 n2), v3] = T54 p0 n1 n2 v3 := by kernel_rfl


noncomputable def T55k0 : Ex → List Value → Pg :=
  fun e167 l168 => sw e167 .normal (asCons l168 fun v169 l170 => asBool v169 fun b171 => asNil l170 (.ret .ret [(.bool b171)])) (.fail)

noncomputable def T55k1 (a17 : Addr) (a20 : Addr) : Ex → List Value → Pg :=
  fun e119 l120 => sw e119 .normal (asCons l120 fun v121 l122 => asBool v121 fun b123 => asNil l122 (bif b123 then (.ret .ret [(.bool true)]) else (.act (ldN 2 a17) fun v124 => asAgg v124 fun l125 => asCons l125 fun v126 l127 => asSlice v126 fun p128 n129 n130 => asCons l127 fun v131 l132 => asSlice v131 fun p133 n134 n135 => asNil l132 (.act (ld1 (aadd a20 2)) fun v136 => asStr v136 fun s137 => .call 58 [(.agg #[(.slice p128 n129 n130), (.slice p133 n134 n135)]), (.string s137)] fun v138 => asTuple v138 fun l139 => asCons l139 fun v140 l141 => asInt .i64 v140 fun i142 => asCons l141 fun v143 l144 => asInt .i64 v143 fun i145 => asCons l144 fun v146 l147 => asBool v146 fun b148 => asNil l147 (.join (bif b148 == true then (.act (ld1 (aadd a17 1)) fun v149 => asSlice v149 fun p150 n151 n152 => asSome p150 fun a153 => grd ((decide (0 ≤ i142)) && (decide (i142 < ((n151 : Nat) : Int)))) (.act (ld1 (aadd (aadd a153 ((Int.toNat i142) * 2)) 1)) fun v154 => asSlice v154 fun p155 n156 n157 => asSome p155 fun a158 => grd ((decide (0 ≤ i145)) && (decide (i145 < ((n156 : Nat) : Int)))) (.act (ld1 (aadd (aadd a158 ((Int.toNat i145) * 2)) 1)) fun v159 => asSlice v159 fun p160 n161 n162 => .act (ld1 (aadd a20 4)) fun v163 => asSlice v163 fun p164 n165 n166 => .ret .normal [(.bool (((n161 : Nat) : Int) == ((n165 : Nat) : Int)))]))) else (.ret .normal [(.bool false)])) (T55k0)))))) (.fail)

noncomputable def T55k2 (a20 : Addr) (a17 : Addr) : Ex → List Value → Pg :=
  fun e110 l111 => sw e110 .normal (asCons l111 fun v112 l113 => asBool v112 fun b114 => asNil l113 (bif b114 then (.ret .ret [(.bool false)]) else (.join (.act (ld1 (aadd a20 0)) fun v115 => asInt .i64 v115 fun i116 => bif (i116 != 5) == true then (.act (ld1 (aadd a20 0)) fun v117 => asInt .i64 v117 fun i118 => .ret .normal [(.bool (i118 != 26))]) else (.ret .normal [(.bool false)])) (T55k1 a17 a20)))) (.fail)

noncomputable def T55k3 (a20 : Addr) (a17 : Addr) : Ex → List Value → Pg :=
  fun e79 l80 => sw e79 .normal (asCons l80 fun v81 l82 => asBool v81 fun b83 => asNil l82 (bif b83 then (.ret .ret [(.bool false)]) else (.act (ld1 (aadd a20 0)) fun v84 => asInt .i64 v84 fun i85 => .call 76 [(.int .i64 i85)] fun v86 => asTuple v86 fun l87 => asCons l87 fun v88 l89 => asInt .i64 v88 fun i90 => asCons l89 fun v91 l92 => asInt .i64 v91 fun i93 => asNil l92 (.join (.act (ld1 (aadd a20 4)) fun v94 => asSlice v94 fun p95 n96 n97 => bif (decide (((n96 : Nat) : Int) < i90)) == false then (.act (ld1 (aadd a20 4)) fun v98 => asSlice v98 fun p99 n100 n101 => bif (decide (((n100 : Nat) : Int) > i93)) == false then (.act (ld1 (aadd a20 0)) fun v102 => asInt .i64 v102 fun i103 => bif (i103 == 11) == true then (.act (ld1 (aadd a20 4)) fun v104 => asSlice v104 fun p105 n106 n107 => .call 33 [(.int .i64 ((n106 : Nat) : Int))] fun v108 => asBool v108 fun b109 => .ret .normal [(.bool (!b109))]) else (.ret .normal [(.bool false)])) else (.ret .normal [(.bool true)])) else (.ret .normal [(.bool true)])) (T55k2 a20 a17))))) (.fail)

/-- hindsight/tree.alone -/
noncomputable def T55 (p0 : (Option Addr)) (n1 : Nat) (n2 : Nat) (p3 : (Option Addr)) (n4 : Nat) (n5 : Nat) (i6 : Int) (i7 : Int) (s8 : ByteArray) (s9 : ByteArray) (p10 : (Option Addr)) (n11 : Nat) (n12 : Nat) (i13 : Int) (i14 : Int) : Pg :=
  .act (newC [(.slice p0 n1 n2), (.slice p3 n4 n5)]) fun v15 => asPtr v15 fun p16 => asSome p16 fun a17 => .act (newC [(.int .i64 i6), (.int .i64 i7), (.string s8), (.string s9), (.slice p10 n11 n12), (.int .i64 i13), (.int .i64 i14)]) fun v18 => asPtr v18 fun p19 => asSome p19 fun a20 => .join (.act (ld1 (aadd a20 0)) fun v21 => asInt .i64 v21 fun i22 => bif (decide (i22 < 1)) == false then (.act (ld1 (aadd a20 0)) fun v23 => asInt .i64 v23 fun i24 => bif (decide (i24 > 26)) == false then (.act (ldN 7 a20) fun v25 => asAgg v25 fun l26 => asCons l26 fun v27 l28 => asInt .i64 v27 fun i29 => asCons l28 fun v30 l31 => asInt .i64 v30 fun i32 => asCons l31 fun v33 l34 => asStr v33 fun s35 => asCons l34 fun v36 l37 => asStr v36 fun s38 => asCons l37 fun v39 l40 => asSlice v39 fun p41 n42 n43 => asCons l40 fun v44 l45 => asInt .i64 v44 fun i46 => asCons l45 fun v47 l48 => asInt .i64 v47 fun i49 => asNil l48 (.call 74 [(.agg #[(.int .i64 i29), (.int .i64 i32), (.string s35), (.string s38), (.slice p41 n42 n43), (.int .i64 i46), (.int .i64 i49)])] fun v50 => asBool v50 fun b51 => bif (!b51) == false then (.act (ldN 7 a20) fun v52 => asAgg v52 fun l53 => asCons l53 fun v54 l55 => asInt .i64 v54 fun i56 => asCons l55 fun v57 l58 => asInt .i64 v57 fun i59 => asCons l58 fun v60 l61 => asStr v60 fun s62 => asCons l61 fun v63 l64 => asStr v63 fun s65 => asCons l64 fun v66 l67 => asSlice v66 fun p68 n69 n70 => asCons l67 fun v71 l72 => asInt .i64 v71 fun i73 => asCons l72 fun v74 l75 => asInt .i64 v74 fun i76 => asNil l75 (.call 75 [(.agg #[(.int .i64 i56), (.int .i64 i59), (.string s62), (.string s65), (.slice p68 n69 n70), (.int .i64 i73), (.int .i64 i76)])] fun v77 => asBool v77 fun b78 => .ret .normal [(.bool (!b78))])) else (.ret .normal [(.bool true)]))) else (.ret .normal [(.bool true)])) else (.ret .normal [(.bool true)])) (T55k3 a20 a17)
theorem T55_eq (p0 : (Option Addr)) (n1 : Nat) (n2 : Nat) (p3 : (Option Addr)) (n4 : Nat) (n5 : Nat) (i6 : Int) (i7 : Int) (s8 : ByteArray) (s9 : ByteArray) (p10 : (Option Addr)) (n11 : Nat) (n12 : Nat) (i13 : Int) (i14 : Int) : progOf PROG false 55 [(.agg #[(.slice p0 n1 n2), (.slice p3 n4 n5)]), (.agg #[(.int .i64 i6), (.int .i64 i7), (.string s8), (.string s9), (.slice p10 n11 n12), (.int .i64 i13), (.int .i64 i14)])] = T55 p0 n1 n2 p3 n4 n5 i6 i7 s8 s9 p10 n11 n12 i13 i14 := by kernel_rfl


noncomputable def T58k0 (i50 : Int) : Ex → List Value → Pg :=
  fun e78 l79 => sw e78 .ret (asCons l79 fun v80 l81 => asBool v80 fun b82 => asCons l81 fun v83 l84 => asInt .i64 v83 fun i85 => asCons l84 fun v86 l87 => asInt .i64 v86 fun i88 => asNil l87 (.ret .ret [(.int .i64 i50), (.bool b82), (.int .i64 i85), (.int .i64 i88)])) (sw e78 .normal (asCons l79 fun v89 l90 => asBool v89 fun b91 => asCons l90 fun v92 l93 => asInt .i64 v92 fun i94 => asCons l93 fun v95 l96 => asInt .i64 v95 fun i97 => asNil l96 (.ret .normal [(.int .i64 (wi64 (i50 + 1))), (.bool b91), (.int .i64 i94), (.int .i64 i97)])) (.fail))

noncomputable def T58b0 (n45 : Nat) (p44 : (Option Addr)) (s6 : ByteArray) (i17 : Int) : List Value → Pg :=
  fun l47 => asCons l47 fun v48 l49 => asInt .i64 v48 fun i50 => asCons l49 fun v51 l52 => asBool v51 fun b53 => asCons l52 fun v54 l55 => asInt .i64 v54 fun i56 => asCons l55 fun v57 l58 => asInt .i64 v57 fun i59 => asNil l58 (bif (decide (i50 < ((n45 : Nat) : Int))) then (.join (asSome p44 fun a60 => grd ((decide (0 ≤ i50)) && (decide (i50 < ((n45 : Nat) : Int)))) (.act (ldN 2 (aadd a60 ((Int.toNat i50) * 2))) fun v61 => asAgg v61 fun l62 => asCons l62 fun v63 l64 => asStr v63 fun s65 => asCons l64 fun v66 l67 => asSlice v66 fun p68 n69 n70 => asNil l67 (.act (newC [(.string (bs [])), (.slice none 0 0)]) fun v71 => asPtr v71 fun p72 => asSome p72 fun a73 => .act (stC a73 [(.string s65), (.slice p68 n69 n70)]) fun v74 => asTuple v74 fun l75 => asNil l75 (.act (ld1 (aadd a73 0)) fun v76 => asStr v76 fun s77 => bif (s77.toList == s6.toList) then (.ret .ret [(.bool true), (.int .i64 i50), (.int .i64 i17)]) else (.ret .normal [(.bool b53), (.int .i64 i56), (.int .i64 i59)]))))) (T58k0 i50)) else (.ret (.exit 2) [(.int .i64 i50), (.bool b53), (.int .i64 i56), (.int .i64 i59)]))

noncomputable def T58k1 : Ex → List Value → Pg :=
  fun e98 l99 => sw e98 (.exit 2) (asCons l99 fun v100 l101 => asInt .i64 v100 fun i102 => asCons l101 fun v103 l104 => asBool v103 fun b105 => asCons l104 fun v106 l107 => asInt .i64 v106 fun i108 => asCons l107 fun v109 l110 => asInt .i64 v109 fun i111 => asNil l110 (.ret .normal [(.bool b105), (.int .i64 i108), (.int .i64 i111)])) (sw e98 .ret (asCons l99 fun v112 l113 => asInt .i64 v112 fun i114 => asCons l113 fun v115 l116 => asBool v115 fun b117 => asCons l116 fun v118 l119 => asInt .i64 v118 fun i120 => asCons l119 fun v121 l122 => asInt .i64 v121 fun i123 => asNil l122 (.ret .ret [(.bool b117), (.int .i64 i120), (.int .i64 i123)])) (.fail))

noncomputable def T58k2 (i17 : Int) : Ex → List Value → Pg :=
  fun e124 l125 => sw e124 .ret (asCons l125 fun v126 l127 => asBool v126 fun b128 => asCons l127 fun v129 l130 => asInt .i64 v129 fun i131 => asCons l130 fun v132 l133 => asInt .i64 v132 fun i134 => asNil l133 (.ret .ret [(.int .i64 i17), (.bool b128), (.int .i64 i131), (.int .i64 i134)])) (sw e124 .normal (asCons l125 fun v135 l136 => asBool v135 fun b137 => asCons l136 fun v138 l139 => asInt .i64 v138 fun i140 => asCons l139 fun v141 l142 => asInt .i64 v141 fun i143 => asNil l142 (.ret .normal [(.int .i64 (wi64 (i17 + 1))), (.bool b137), (.int .i64 i140), (.int .i64 i143)])) (.fail))

noncomputable def T58b1 (n12 : Nat) (p11 : (Option Addr)) (s6 : ByteArray) : List Value → Pg :=
  fun l14 => asCons l14 fun v15 l16 => asInt .i64 v15 fun i17 => asCons l16 fun v18 l19 => asBool v18 fun b20 => asCons l19 fun v21 l22 => asInt .i64 v21 fun i23 => asCons l22 fun v24 l25 => asInt .i64 v24 fun i26 => asNil l25 (bif (decide (i17 < ((n12 : Nat) : Int))) then (.join (asSome p11 fun a27 => grd ((decide (0 ≤ i17)) && (decide (i17 < ((n12 : Nat) : Int)))) (.act (ldN 2 (aadd a27 ((Int.toNat i17) * 2))) fun v28 => asAgg v28 fun l29 => asCons l29 fun v30 l31 => asStr v30 fun s32 => asCons l31 fun v33 l34 => asSlice v33 fun p35 n36 n37 => asNil l34 (.act (newC [(.string (bs [])), (.slice none 0 0)]) fun v38 => asPtr v38 fun p39 => asSome p39 fun a40 => .act (stC a40 [(.string s32), (.slice p35 n36 n37)]) fun v41 => asTuple v41 fun l42 => asNil l42 (.act (ld1 (aadd a40 1)) fun v43 => asSlice v43 fun p44 n45 n46 => .loop [(.int .i64 0), (.bool b20), (.int .i64 i23), (.int .i64 i26)] (T58b0 n45 p44 s6 i17) (T58k1))))) (T58k2 i17)) else (.ret (.exit 0) [(.int .i64 i17), (.bool b20), (.int .i64 i23), (.int .i64 i26)]))

noncomputable def T58k3 : Ex → List Value → Pg :=
  fun e144 l145 => sw e144 (.exit 0) (asCons l145 fun v146 l147 => asInt .i64 v146 fun i148 => asCons l147 fun v149 l150 => asBool v149 fun b151 => asCons l150 fun v152 l153 => asInt .i64 v152 fun i154 => asCons l153 fun v155 l156 => asInt .i64 v155 fun i157 => asNil l156 (.ret .ret [(.tuple #[(.int .i64 0), (.int .i64 0), (.bool false)])])) (sw e144 .ret (asCons l145 fun v158 l159 => asInt .i64 v158 fun i160 => asCons l159 fun v161 l162 => asBool v161 fun b163 => asCons l162 fun v164 l165 => asInt .i64 v164 fun i166 => asCons l165 fun v167 l168 => asInt .i64 v167 fun i169 => asNil l168 (.ret .ret [(.tuple #[(.int .i64 i169), (.int .i64 i166), (.bool b163)])])) (.fail))

/-- hindsight/tree.Of -/
noncomputable def T58 (p0 : (Option Addr)) (n1 : Nat) (n2 : Nat) (p3 : (Option Addr)) (n4 : Nat) (n5 : Nat) (s6 : ByteArray) : Pg :=
  .act (newC [(.slice p0 n1 n2), (.slice p3 n4 n5)]) fun v7 => asPtr v7 fun p8 => asSome p8 fun a9 => .act (ld1 (aadd a9 1)) fun v10 => asSlice v10 fun p11 n12 n13 => .loop [(.int .i64 0), (.bool false), (.int .i64 0), (.int .i64 0)] (T58b1 n12 p11 s6) (T58k3)
theorem T58_eq (p0 : (Option Addr)) (n1 : Nat) (n2 : Nat) (p3 : (Option Addr)) (n4 : Nat) (n5 : Nat) (s6 : ByteArray) : progOf PROG false 58 [(.agg #[(.slice p0 n1 n2), (.slice p3 n4 n5)]), (.string s6)] = T58 p0 n1 n2 p3 n4 n5 s6 := by kernel_rfl


noncomputable def T59k0 : Ex → List Value → Pg :=
  fun e53 l54 => sw e53 .normal (asNil l54 (.ret .ret [(.bool true)])) (.fail)

noncomputable def T59k1 (p0 : (Option Addr)) : Ex → List Value → Pg :=
  fun e18 l19 => sw e18 .normal (asNil l19 (asSome p0 fun a20 => .act (ld1 (aadd a20 11)) fun v21 => asBool v21 fun b22 => .join (bif b22 then (asSome p0 fun a23 => .act (ldN 7 (aadd a23 12)) fun v24 => asAgg v24 fun l25 => asCons l25 fun v26 l27 => asInt .i64 v26 fun i28 => asCons l27 fun v29 l30 => asInt .i64 v29 fun i31 => asCons l30 fun v32 l33 => asStr v32 fun s34 => asCons l33 fun v35 l36 => asSlice v35 fun p37 n38 n39 => asCons l36 fun v40 l41 => asInt .i64 v40 fun i42 => asCons l41 fun v43 l44 => asPtr v43 fun p45 => asCons l44 fun v46 l47 => asInt .i64 v46 fun i48 => asNil l47 (.call 78 [(.pointer p0), (.agg #[(.int .i64 i28), (.int .i64 i31), (.string s34), (.slice p37 n38 n39), (.int .i64 i42), (.pointer p45), (.int .i64 i48)])] fun v49 => asTuple v49 fun l50 => asNil l50 (.ret .normal []))) else (.call 79 [(.pointer p0)] fun v51 => asTuple v51 fun l52 => asNil l52 (.ret .normal []))) (T59k0))) (.fail)

/-- (*hindsight/source.Machine).Step -/
noncomputable def T59 (p0 : (Option Addr)) : Pg :=
  asSome p0 fun a1 => .act (ld1 (aadd a1 9)) fun v2 => asInt .i64 v2 fun i3 => bif (i3 != 0) then (.ret .ret [(.bool false)]) else (asSome p0 fun a4 => .act (ld1 (aadd a4 7)) fun v5 => asInt .i64 v5 fun i6 => asSome p0 fun a7 => .act (stC (aadd a7 7) [(.int .i64 (wi64 (i6 + 1)))]) fun v8 => asTuple v8 fun l9 => asNil l9 (.call 77 [(.pointer p0)] fun v10 => asBool v10 fun b11 => .join (bif b11 then (asSome p0 fun a12 => .act (ld1 (aadd a12 8)) fun v13 => asInt .i64 v13 fun i14 => asSome p0 fun a15 => .act (stC (aadd a15 8) [(.int .i64 (wi64 (i14 + 1)))]) fun v16 => asTuple v16 fun l17 => asNil l17 (.ret .normal [])) else (.ret .normal [])) (T59k1 p0)))
theorem T59_eq (p0 : (Option Addr)) : progOf PROG false 59 [(.pointer p0)] = T59 p0 := by kernel_rfl


noncomputable def T60k0 (i7 : Int) (i15 : Int) (i10 : Int) : Ex → List Value → Pg :=
  fun e17 l18 => sw e17 .normal (asCons l18 fun v19 l20 => asInt .i32 v19 fun i21 => asNil l20 (bif (i7 == 1) then (.ret (.exit 0) [(.int .i64 i7), (.int .i64 i15), (.int .i32 i21)]) else (.ret .normal [(.int .i64 (wi64 (i7 + 1))), (.int .i64 i10), (.int .i32 i21)]))) (.fail)

noncomputable def T60k1 : Ex → List Value → Pg :=
  fun e22 l23 => sw e22 (.exit 0) (asCons l23 fun v24 l25 => asInt .i64 v24 fun i26 => asCons l25 fun v27 l28 => asInt .i64 v27 fun i29 => asCons l28 fun v30 l31 => asInt .i32 v30 fun i32 => asNil l31 (.ret (.exit 0) [(.int .i64 i26), (.int .i64 i29), (.int .i32 i32)])) (sw e22 .normal (asCons l23 fun v33 l34 => asInt .i64 v33 fun i35 => asCons l34 fun v36 l37 => asInt .i64 v36 fun i38 => asCons l37 fun v39 l40 => asInt .i32 v39 fun i41 => asNil l40 (.ret .normal [(.int .i64 i35), (.int .i64 i38), (.int .i32 i41)])) (.fail))

noncomputable def T60b0 (a3 : Addr) : List Value → Pg :=
  fun l4 => asCons l4 fun v5 l6 => asInt .i64 v5 fun i7 => asCons l6 fun v8 l9 => asInt .i64 v8 fun i10 => asCons l9 fun v11 l12 => asInt .i32 v11 fun i13 => asNil l12 (.act (nxt (some a3)) fun v14 => asNx v14 (fun i15 i16 => .join (.join (bif (i7 == 0) then (.ret .normal [(.int .i32 i16)]) else (.ret .normal [(.int .i32 i13)])) (T60k0 i7 i15 i10)) (T60k1)) (.ret (.exit 0) [(.int .i64 i7), (.int .i64 i10), (.int .i32 i13)]))

noncomputable def T60k2 : Ex → List Value → Pg :=
  fun e42 l43 => sw e42 (.exit 0) (asCons l43 fun v44 l45 => asInt .i64 v44 fun i46 => asCons l45 fun v47 l48 => asInt .i64 v47 fun i49 => asCons l48 fun v50 l51 => asInt .i32 v50 fun i52 => asNil l51 (.ret .ret [(.tuple #[(.int .i32 i52), (.int .i64 i49)])])) (.fail)

/-- hindsight/hindsightref1.first -/
noncomputable def T60 (s0 : ByteArray) : Pg :=
  .act (rng s0) fun v1 => asPtr v1 fun p2 => asSome p2 fun a3 => .loop [(.int .i64 0), (.int .i64 ((s0.size : Nat) : Int)), (.int .i32 0)] (T60b0 a3) (T60k2)
theorem T60_eq (s0 : ByteArray) : progOf PROG false 60 [(.string s0)] = T60 s0 := by kernel_rfl


noncomputable def T61k0 (i0 : Int) : Ex → List Value → Pg :=
  fun e3 l4 => sw e3 .normal (asCons l4 fun v5 l6 => asBool v5 fun b7 => asNil l6 (bif b7 then (.ret .ret [(.int .i64 1)]) else (bif ((decide (i0 ≥ 48)) && (decide (i0 ≤ 57))) then (.ret .ret [(.int .i64 2)]) else (bif ((((i0 == 32) || (i0 == 9)) || (i0 == 10)) || (i0 == 13)) then (.ret .ret [(.int .i64 3)]) else (.ret .normal [(.int .i64 0)]))))) (.fail)

noncomputable def T61k1 (i19 : Int) : Ex → List Value → Pg :=
  fun e23 l24 => sw e23 .ret (asCons l24 fun v25 l26 => asInt .i64 v25 fun i27 => asNil l26 (.ret .ret [(.int .i64 i19), (.int .i64 i27)])) (sw e23 .normal (asCons l24 fun v28 l29 => asInt .i64 v28 fun i30 => asNil l29 (.ret .normal [(.int .i64 (wi64 (i19 + 1))), (.int .i64 i30)])) (.fail))

noncomputable def T61b0 (i0 : Int) : List Value → Pg :=
  fun l16 => asCons l16 fun v17 l18 => asInt .i64 v17 fun i19 => asCons l18 fun v20 l21 => asInt .i64 v20 fun i22 => asNil l21 (bif (decide (i19 < 13)) then (.join (grd ((decide (0 ≤ i19)) && (decide (i19 < 13))) (bif (i0 == (wi32 (byteAt (bs [40, 41, 44, 59, 61, 60, 62, 43, 45, 42, 124, 33, 58]) (Int.toNat i19)))) then (.ret .ret [(.int .i64 4)]) else (.ret .normal [(.int .i64 i22)]))) (T61k1 i19)) else (.ret (.exit 1) [(.int .i64 i19), (.int .i64 i22)]))

noncomputable def T61k2 : Ex → List Value → Pg :=
  fun e31 l32 => sw e31 (.exit 1) (asCons l32 fun v33 l34 => asInt .i64 v33 fun i35 => asCons l34 fun v36 l37 => asInt .i64 v36 fun i38 => asNil l37 (.ret .ret [(.int .i64 0)])) (sw e31 .ret (asCons l32 fun v39 l40 => asInt .i64 v39 fun i41 => asCons l40 fun v42 l43 => asInt .i64 v42 fun i44 => asNil l43 (.ret .ret [(.int .i64 i44)])) (.fail))

noncomputable def T61k3 (i0 : Int) : Ex → List Value → Pg :=
  fun e8 l9 => sw e8 .ret (asCons l9 fun v10 l11 => asInt .i64 v10 fun i12 => asNil l11 (.ret .ret [(.int .i64 i12)])) (sw e8 .normal (asCons l9 fun v13 l14 => asInt .i64 v13 fun i15 => asNil l14 (.loop [(.int .i64 0), (.int .i64 i15)] (T61b0 i0) (T61k2))) (.fail))

/-- hindsight/hindsightref1.Class -/
noncomputable def T61 (i0 : Int) : Pg :=
  .join (.join (bif ((i0 == 95) || (i0 == 39)) == false then (.call 80 [(.int .i32 i0)] fun v1 => asBool v1 fun b2 => .ret .normal [(.bool b2)]) else (.ret .normal [(.bool true)])) (T61k0 i0)) (T61k3 i0)
theorem T61_eq (i0 : Int) : progOf PROG false 61 [(.int .i32 i0)] = T61 i0 := by kernel_rfl


noncomputable def T62k0 : Ex → List Value → Pg :=
  fun e22 l23 => sw e22 .ret (asCons l23 fun v24 l25 => asInt .i64 v24 fun i26 => asCons l25 fun v27 l28 => asInt .i64 v27 fun i29 => asCons l28 fun v30 l31 => asInt .i64 v30 fun i32 => asNil l31 (.ret .ret [(.int .i64 i26), (.int .i64 i29), (.int .i64 i32)])) (sw e22 .normal (asCons l23 fun v33 l34 => asInt .i64 v33 fun i35 => asCons l34 fun v36 l37 => asInt .i64 v36 fun i38 => asCons l37 fun v39 l40 => asInt .i64 v39 fun i41 => asNil l40 (.ret .normal [(.int .i64 i35), (.int .i64 i38), (.int .i64 i41)])) (.fail))

noncomputable def T62k1 (i11 : Int) (i8 : Int) (i5 : Int) : Ex → List Value → Pg :=
  fun e17 l18 => sw e17 .normal (asCons l18 fun v19 l20 => asBool v19 fun b21 => asNil l20 (.join (bif b21 then (bif ((wi64 (i11 - 1)) == 0) then (.ret .ret [(.int .i64 (wi64 (i8 + 2))), (.int .i64 (wi64 (i8 + 2))), (.int .i64 (wi64 (i11 - 1)))]) else (.ret .normal [(.int .i64 i5), (.int .i64 (wi64 (i8 + 2))), (.int .i64 (wi64 (i11 - 1)))])) else (.ret .normal [(.int .i64 i5), (.int .i64 (wi64 (i8 + 1))), (.int .i64 i11)])) (T62k0))) (.fail)

noncomputable def T62k2 : Ex → List Value → Pg :=
  fun e42 l43 => sw e42 .normal (asCons l43 fun v44 l45 => asInt .i64 v44 fun i46 => asCons l45 fun v47 l48 => asInt .i64 v47 fun i49 => asCons l48 fun v50 l51 => asInt .i64 v50 fun i52 => asNil l51 (.ret .normal [(.int .i64 i46), (.int .i64 i49), (.int .i64 i52)])) (sw e42 .ret (asCons l43 fun v53 l54 => asInt .i64 v53 fun i55 => asCons l54 fun v56 l57 => asInt .i64 v56 fun i58 => asCons l57 fun v59 l60 => asInt .i64 v59 fun i61 => asNil l60 (.ret .ret [(.int .i64 i55), (.int .i64 i58), (.int .i64 i61)])) (.fail))

noncomputable def T62k3 (i5 : Int) (i8 : Int) (i11 : Int) (s0 : ByteArray) : Ex → List Value → Pg :=
  fun e12 l13 => sw e12 .normal (asCons l13 fun v14 l15 => asBool v14 fun b16 => asNil l15 (.join (bif b16 then (.ret .normal [(.int .i64 i5), (.int .i64 (wi64 (i8 + 2))), (.int .i64 (wi64 (i11 + 1)))]) else (.join (bif (decide ((wi64 (i8 + 1)) < ((s0.size : Nat) : Int))) == true then (grd ((decide (0 ≤ i8)) && (decide (i8 < ((s0.size : Nat) : Int)))) (bif ((byteAt s0 (Int.toNat i8)) == 42) == true then (grd ((decide (0 ≤ (wi64 (i8 + 1)))) && (decide ((wi64 (i8 + 1)) < ((s0.size : Nat) : Int)))) (.ret .normal [(.bool ((byteAt s0 (Int.toNat (wi64 (i8 + 1)))) == 41))])) else (.ret .normal [(.bool false)]))) else (.ret .normal [(.bool false)])) (T62k1 i11 i8 i5))) (T62k2))) (.fail)

noncomputable def T62k4 : Ex → List Value → Pg :=
  fun e62 l63 => sw e62 .normal (asCons l63 fun v64 l65 => asInt .i64 v64 fun i66 => asCons l65 fun v67 l68 => asInt .i64 v67 fun i69 => asCons l68 fun v70 l71 => asInt .i64 v70 fun i72 => asNil l71 (.ret .normal [(.int .i64 i66), (.int .i64 i69), (.int .i64 i72)])) (sw e62 .ret (asCons l63 fun v73 l74 => asInt .i64 v73 fun i75 => asCons l74 fun v76 l77 => asInt .i64 v76 fun i78 => asCons l77 fun v79 l80 => asInt .i64 v79 fun i81 => asNil l80 (.ret .ret [(.int .i64 i75), (.int .i64 i78), (.int .i64 i81)])) (.fail))

noncomputable def T62k5 : Ex → List Value → Pg :=
  fun e82 l83 => sw e82 .normal (asCons l83 fun v84 l85 => asInt .i64 v84 fun i86 => asCons l85 fun v87 l88 => asInt .i64 v87 fun i89 => asCons l88 fun v90 l91 => asInt .i64 v90 fun i92 => asNil l91 (.ret .normal [(.int .i64 i86), (.int .i64 i89), (.int .i64 i92)])) (sw e82 .ret (asCons l83 fun v93 l94 => asInt .i64 v93 fun i95 => asCons l94 fun v96 l97 => asInt .i64 v96 fun i98 => asCons l97 fun v99 l100 => asInt .i64 v99 fun i101 => asNil l100 (.ret .ret [(.int .i64 i95), (.int .i64 i98), (.int .i64 i101)])) (.fail))

noncomputable def T62b0 (s0 : ByteArray) : List Value → Pg :=
  fun l2 => asCons l2 fun v3 l4 => asInt .i64 v3 fun i5 => asCons l4 fun v6 l7 => asInt .i64 v6 fun i8 => asCons l7 fun v9 l10 => asInt .i64 v9 fun i11 => asNil l10 (bif (decide (i8 < ((s0.size : Nat) : Int))) then (.join (.join (.join (bif (decide ((wi64 (i8 + 1)) < ((s0.size : Nat) : Int))) == true then (grd ((decide (0 ≤ i8)) && (decide (i8 < ((s0.size : Nat) : Int)))) (bif ((byteAt s0 (Int.toNat i8)) == 40) == true then (grd ((decide (0 ≤ (wi64 (i8 + 1)))) && (decide ((wi64 (i8 + 1)) < ((s0.size : Nat) : Int)))) (.ret .normal [(.bool ((byteAt s0 (Int.toNat (wi64 (i8 + 1)))) == 42))])) else (.ret .normal [(.bool false)]))) else (.ret .normal [(.bool false)])) (T62k3 i5 i8 i11 s0)) (T62k4)) (T62k5)) else (.ret (.exit 0) [(.int .i64 i5), (.int .i64 i8), (.int .i64 i11)]))

noncomputable def T62k6 : Ex → List Value → Pg :=
  fun e102 l103 => sw e102 (.exit 0) (asCons l103 fun v104 l105 => asInt .i64 v104 fun i106 => asCons l105 fun v107 l108 => asInt .i64 v107 fun i109 => asCons l108 fun v110 l111 => asInt .i64 v110 fun i112 => asNil l111 (.ret .ret [(.int .i64 (-1))])) (sw e102 .ret (asCons l103 fun v113 l114 => asInt .i64 v113 fun i115 => asCons l114 fun v116 l117 => asInt .i64 v116 fun i118 => asCons l117 fun v119 l120 => asInt .i64 v119 fun i121 => asNil l120 (.ret .ret [(.int .i64 i115)])) (.fail))

/-- hindsight/hindsightref1.remark -/
noncomputable def T62 (s0 : ByteArray) (i1 : Int) : Pg :=
  .loop [(.int .i64 0), (.int .i64 i1), (.int .i64 0)] (T62b0 s0) (T62k6)
theorem T62_eq (s0 : ByteArray) (i1 : Int) : progOf PROG false 62 [(.string s0), (.int .i64 i1)] = T62 s0 i1 := by kernel_rfl


noncomputable def T63k0 : Ex → List Value → Pg :=
  fun e56 l57 => sw e56 .normal (asNil l57 (.ret .normal [])) (.fail)

noncomputable def T63k1 : Ex → List Value → Pg :=
  fun e58 l59 => sw e58 .normal (asNil l59 (.ret .normal [])) (.fail)

noncomputable def T63k2 (a15 : Addr) (a4 : Addr) : Ex → List Value → Pg :=
  fun e60 l61 => sw e60 .normal (asNil l61 (.act (ldN 4 a15) fun v62 => asAgg v62 fun l63 => asCons l63 fun v64 l65 => asInt .i64 v64 fun i66 => asCons l65 fun v67 l68 => asStr v67 fun s69 => asCons l68 fun v70 l71 => asInt .i64 v70 fun i72 => asCons l71 fun v73 l74 => asInt .i64 v73 fun i75 => asNil l74 (.act (stC a4 [(.int .i64 i66), (.string s69), (.int .i64 i72), (.int .i64 i75)]) fun v76 => asTuple v76 fun l77 => asNil l77 (.ret .ret [(.bool true)])))) (.fail)

noncomputable def T63k3 (a15 : Addr) : Ex → List Value → Pg :=
  fun e132 l133 => sw e132 .ret (asCons l133 fun v134 l135 => asInt .u64 v134 fun i136 => asCons l135 fun v137 l138 => asBool v137 fun b139 => asNil l138 (.ret .ret [(.int .u64 i136), (.bool b139)])) (sw e132 .normal (asCons l133 fun v140 l141 => asInt .u64 v140 fun i142 => asCons l141 fun v143 l144 => asBool v143 fun b145 => asNil l144 (.act (ld1 (aadd a15 3)) fun v146 => asInt .i64 v146 fun i147 => .act (stC (aadd a15 3) [(.int .i64 (wi64 (i147 + 1)))]) fun v148 => asTuple v148 fun l149 => asNil l149 (.ret .normal [(.int .u64 i142), (.bool b145)]))) (.fail))

noncomputable def T63k4 (i83 : Int) (a15 : Addr) (a4 : Addr) (s0 : ByteArray) (b86 : Bool) : Ex → List Value → Pg :=
  fun e93 l94 => sw e93 .normal (asCons l94 fun v95 l96 => asBool v95 fun b97 => asNil l96 (bif b97 then (.join (bif (decide (i83 > 461168601842738790)) then (.act (ldN 4 a15) fun v98 => asAgg v98 fun l99 => asCons l99 fun v100 l101 => asInt .i64 v100 fun i102 => asCons l101 fun v103 l104 => asStr v103 fun s105 => asCons l104 fun v106 l107 => asInt .i64 v106 fun i108 => asCons l107 fun v109 l110 => asInt .i64 v109 fun i111 => asNil l110 (.act (stC a4 [(.int .i64 i102), (.string s105), (.int .i64 i108), (.int .i64 i111)]) fun v112 => asTuple v112 fun l113 => asNil l113 (.ret .ret [(.int .u64 i83), (.bool false)]))) else (.act (ld1 (aadd a15 3)) fun v114 => asInt .i64 v114 fun i115 => grd ((decide (0 ≤ i115)) && (decide (i115 < ((s0.size : Nat) : Int)))) (bif (decide ((wu64 ((wu64 (i83 * 10)) + (wu64 (wu8 ((byteAt s0 (Int.toNat i115)) - 48))))) > 4611686018427387903)) then (.act (ldN 4 a15) fun v116 => asAgg v116 fun l117 => asCons l117 fun v118 l119 => asInt .i64 v118 fun i120 => asCons l119 fun v121 l122 => asStr v121 fun s123 => asCons l122 fun v124 l125 => asInt .i64 v124 fun i126 => asCons l125 fun v127 l128 => asInt .i64 v127 fun i129 => asNil l128 (.act (stC a4 [(.int .i64 i120), (.string s123), (.int .i64 i126), (.int .i64 i129)]) fun v130 => asTuple v130 fun l131 => asNil l131 (.ret .ret [(.int .u64 (wu64 ((wu64 (i83 * 10)) + (wu64 (wu8 ((byteAt s0 (Int.toNat i115)) - 48)))))), (.bool false)]))) else (.ret .normal [(.int .u64 (wu64 ((wu64 (i83 * 10)) + (wu64 (wu8 ((byteAt s0 (Int.toNat i115)) - 48)))))), (.bool b86)])))) (T63k3 a15)) else (.ret (.exit 2) [(.int .u64 i83), (.bool b86)]))) (.fail)

noncomputable def T63b0 (a15 : Addr) (s0 : ByteArray) (a4 : Addr) : List Value → Pg :=
  fun l80 => asCons l80 fun v81 l82 => asInt .u64 v81 fun i83 => asCons l82 fun v84 l85 => asBool v84 fun b86 => asNil l85 (.join (.act (ld1 (aadd a15 3)) fun v87 => asInt .i64 v87 fun i88 => bif (decide (i88 < ((s0.size : Nat) : Int))) == true then (.act (ld1 (aadd a15 3)) fun v89 => asInt .i64 v89 fun i90 => grd ((decide (0 ≤ i90)) && (decide (i90 < ((s0.size : Nat) : Int)))) (bif (decide ((byteAt s0 (Int.toNat i90)) ≥ 48)) == true then (.act (ld1 (aadd a15 3)) fun v91 => asInt .i64 v91 fun i92 => grd ((decide (0 ≤ i92)) && (decide (i92 < ((s0.size : Nat) : Int)))) (.ret .normal [(.bool (decide ((byteAt s0 (Int.toNat i92)) ≤ 57)))])) else (.ret .normal [(.bool false)]))) else (.ret .normal [(.bool false)])) (T63k4 i83 a15 a4 s0 b86))

noncomputable def T63k5 (a15 : Addr) (i1 : Int) (s0 : ByteArray) (a4 : Addr) : Ex → List Value → Pg :=
  fun e150 l151 => sw e150 (.exit 2) (asCons l151 fun v152 l153 => asInt .u64 v152 fun i154 => asCons l153 fun v155 l156 => asBool v155 fun b157 => asNil l156 (.act (ld1 (aadd a15 3)) fun v158 => asInt .i64 v158 fun i159 => grd (((decide (0 ≤ i1)) && (decide (i1 ≤ i159))) && (decide (i159 ≤ ((s0.size : Nat) : Int)))) (.act (stC (aadd a15 0) [(.int .i64 1)]) fun v160 => asTuple v160 fun l161 => asNil l161 (.act (stC (aadd a15 1) [(.string (s0.extract (Int.toNat i1) (Int.toNat i159)))]) fun v162 => asTuple v162 fun l163 => asNil l163 (.act (ldN 4 a15) fun v164 => asAgg v164 fun l165 => asCons l165 fun v166 l167 => asInt .i64 v166 fun i168 => asCons l167 fun v169 l170 => asStr v169 fun s171 => asCons l170 fun v172 l173 => asInt .i64 v172 fun i174 => asCons l173 fun v175 l176 => asInt .i64 v175 fun i177 => asNil l176 (.act (stC a4 [(.int .i64 i168), (.string s171), (.int .i64 i174), (.int .i64 i177)]) fun v178 => asTuple v178 fun l179 => asNil l179 (.ret .ret [(.bool true)]))))))) (sw e150 .ret (asCons l151 fun v180 l181 => asInt .u64 v180 fun i182 => asCons l181 fun v183 l184 => asBool v183 fun b185 => asNil l184 (.ret .ret [(.bool b185)])) (.fail))

noncomputable def T63k6 : Ex → List Value → Pg :=
  fun e224 l225 => sw e224 .normal (asCons l225 fun v226 l227 => asBool v226 fun b228 => asNil l227 (.ret .ret [(.bool b228)])) (.fail)

noncomputable def T63k7 (a15 : Addr) (i1 : Int) (s0 : ByteArray) (a4 : Addr) : Ex → List Value → Pg :=
  fun e195 l196 => sw e195 .normal (asNil l196 (.act (ld1 (aadd a15 3)) fun v197 => asInt .i64 v197 fun i198 => grd (((decide (0 ≤ i1)) && (decide (i1 ≤ i198))) && (decide (i198 ≤ ((s0.size : Nat) : Int)))) (.act (stC (aadd a15 1) [(.string (s0.extract (Int.toNat i1) (Int.toNat i198)))]) fun v199 => asTuple v199 fun l200 => asNil l200 (.join (.act (ldN 4 a15) fun v201 => asAgg v201 fun l202 => asCons l202 fun v203 l204 => asInt .i64 v203 fun i205 => asCons l204 fun v206 l207 => asStr v206 fun s208 => asCons l207 fun v209 l210 => asInt .i64 v209 fun i211 => asCons l210 fun v212 l213 => asInt .i64 v212 fun i214 => asNil l213 (.act (ld1 (aadd a15 1)) fun v215 => asStr v215 fun s216 => bif (!(s216.toList == (bs [62]).toList)) == true then (.act (ld1 (aadd a15 1)) fun v217 => asStr v217 fun s218 => .act (stC a4 [(.int .i64 i205), (.string s208), (.int .i64 i211), (.int .i64 i214)]) fun v219 => asTuple v219 fun l220 => asNil l220 (.get fun h221 => grd (chks [((ld1 (aadd a15 1)), v217)] h221) (.ret .normal [(.bool (!(s218.toList == (bs [58]).toList)))]))) else (.act (stC a4 [(.int .i64 i205), (.string s208), (.int .i64 i211), (.int .i64 i214)]) fun v222 => asTuple v222 fun l223 => asNil l223 (.ret .normal [(.bool false)])))) (T63k6))))) (.fail)

noncomputable def T63k8 (a15 : Addr) (i1 : Int) (s0 : ByteArray) (a4 : Addr) : Ex → List Value → Pg :=
  fun e188 l189 => sw e188 .normal (asCons l189 fun v190 l191 => asBool v190 fun b192 => asNil l191 (.join (bif b192 then (.act (stC (aadd a15 3) [(.int .i64 (wi64 (i1 + 2)))]) fun v193 => asTuple v193 fun l194 => asNil l194 (.ret .normal [])) else (.ret .normal [])) (T63k7 a15 i1 s0 a4))) (.fail)

noncomputable def T63k9 (a4 : Addr) (a15 : Addr) : Ex → List Value → Pg :=
  fun e229 l230 => sw e229 .ret (asCons l230 fun v231 l232 => asBool v231 fun b233 => asNil l232 (.act (ldN 4 a4) fun v234 => .ret .ret [(.tuple #[v234, (.bool b233)])])) (sw e229 .normal (asCons l230 fun v235 l236 => asBool v235 fun b237 => asNil l236 (.act (ldN 4 a15) fun v238 => asAgg v238 fun l239 => asCons l239 fun v240 l241 => asInt .i64 v240 fun i242 => asCons l241 fun v243 l244 => asStr v243 fun s245 => asCons l244 fun v246 l247 => asInt .i64 v246 fun i248 => asCons l247 fun v249 l250 => asInt .i64 v249 fun i251 => asNil l250 (.act (stC a4 [(.int .i64 i242), (.string s245), (.int .i64 i248), (.int .i64 i251)]) fun v252 => asTuple v252 fun l253 => asNil l253 (.act (ldN 4 a4) fun v254 => .ret .ret [(.tuple #[v254, (.bool false)])])))) (.fail))

/-- hindsight/hindsightref1.word -/
noncomputable def T63 (s0 : ByteArray) (i1 : Int) : Pg :=
  .act (newC [(.int .i64 0), (.string (bs [])), (.int .i64 0), (.int .i64 0)]) fun v2 => asPtr v2 fun p3 => asSome p3 fun a4 => grd (((decide (0 ≤ i1)) && (decide (i1 ≤ ((s0.size : Nat) : Int)))) && (decide (((s0.size : Nat) : Int) ≤ ((s0.size : Nat) : Int)))) (.call 60 [(.string (s0.extract (Int.toNat i1) s0.size))] fun v5 => asTuple v5 fun l6 => asCons l6 fun v7 l8 => asInt .i32 v7 fun i9 => asCons l8 fun v10 l11 => asInt .i64 v10 fun i12 => asNil l11 (.act (newC [(.int .i64 0), (.string (bs [])), (.int .i64 0), (.int .i64 0)]) fun v13 => asPtr v13 fun p14 => asSome p14 fun a15 => .act (stC a15 [(.int .i64 0), (.string (bs [])), (.int .i64 i1), (.int .i64 (wi64 (i1 + i12)))]) fun v16 => asTuple v16 fun l17 => asNil l17 (.call 61 [(.int .i32 i9)] fun v18 => asInt .i64 v18 fun i19 => .join (bif (i19 == 1) then (bif (i9 == 39) then (.act (ldN 4 a15) fun v20 => asAgg v20 fun l21 => asCons l21 fun v22 l23 => asInt .i64 v22 fun i24 => asCons l23 fun v25 l26 => asStr v25 fun s27 => asCons l26 fun v28 l29 => asInt .i64 v28 fun i30 => asCons l29 fun v31 l32 => asInt .i64 v31 fun i33 => asNil l32 (.act (stC a4 [(.int .i64 i24), (.string s27), (.int .i64 i30), (.int .i64 i33)]) fun v34 => asTuple v34 fun l35 => asNil l35 (.ret .ret [(.bool false)]))) else (grd (((decide (0 ≤ i1)) && (decide (i1 ≤ ((s0.size : Nat) : Int)))) && (decide (((s0.size : Nat) : Int) ≤ ((s0.size : Nat) : Int)))) (.call 81 [(.string (s0.extract (Int.toNat i1) s0.size))] fun v36 => asInt .i64 v36 fun i37 => .act (stC (aadd a15 3) [(.int .i64 (wi64 (i1 + i37)))]) fun v38 => asTuple v38 fun l39 => asNil l39 (.act (ld1 (aadd a15 3)) fun v40 => asInt .i64 v40 fun i41 => grd (((decide (0 ≤ i1)) && (decide (i1 ≤ i41))) && (decide (i41 ≤ ((s0.size : Nat) : Int)))) (.act (stC (aadd a15 1) [(.string (s0.extract (Int.toNat i1) (Int.toNat i41)))]) fun v42 => asTuple v42 fun l43 => asNil l43 (.join (.call 82 [(.int .i32 i9)] fun v44 => asBool v44 fun b45 => .join (bif b45 then (.act (stC (aadd a15 0) [(.int .i64 3)]) fun v46 => asTuple v46 fun l47 => asNil l47 (.ret .normal [])) else (.act (ld1 (aadd a15 1)) fun v48 => asStr v48 fun s49 => .call 83 [(.string s49)] fun v50 => asBool v50 fun b51 => .join (bif b51 then (.act (stC (aadd a15 0) [(.int .i64 4)]) fun v52 => asTuple v52 fun l53 => asNil l53 (.ret .normal [])) else (.act (stC (aadd a15 0) [(.int .i64 2)]) fun v54 => asTuple v54 fun l55 => asNil l55 (.ret .normal []))) (T63k0))) (T63k1)) (T63k2 a15 a4))))))) else (bif (i19 == 2) then (.act (stC (aadd a15 3) [(.int .i64 i1)]) fun v78 => asTuple v78 fun l79 => asNil l79 (.loop [(.int .u64 0), (.bool false)] (T63b0 a15 s0 a4) (T63k5 a15 i1 s0 a4))) else (bif (i19 == 4) then (.act (stC (aadd a15 0) [(.int .i64 5)]) fun v186 => asTuple v186 fun l187 => asNil l187 (.join (bif (decide ((wi64 (i1 + 1)) < ((s0.size : Nat) : Int))) == true then (grd ((decide (0 ≤ i1)) && (decide (i1 < ((s0.size : Nat) : Int)))) (bif ((byteAt s0 (Int.toNat i1)) == 58) == true then (grd ((decide (0 ≤ (wi64 (i1 + 1)))) && (decide ((wi64 (i1 + 1)) < ((s0.size : Nat) : Int)))) (bif ((byteAt s0 (Int.toNat (wi64 (i1 + 1)))) == 61) == false then (grd ((decide (0 ≤ i1)) && (decide (i1 < ((s0.size : Nat) : Int)))) (bif ((byteAt s0 (Int.toNat i1)) == 45) == true then (grd ((decide (0 ≤ (wi64 (i1 + 1)))) && (decide ((wi64 (i1 + 1)) < ((s0.size : Nat) : Int)))) (.ret .normal [(.bool ((byteAt s0 (Int.toNat (wi64 (i1 + 1)))) == 62))])) else (.ret .normal [(.bool false)]))) else (.ret .normal [(.bool true)]))) else (grd ((decide (0 ≤ i1)) && (decide (i1 < ((s0.size : Nat) : Int)))) (bif ((byteAt s0 (Int.toNat i1)) == 45) == true then (grd ((decide (0 ≤ (wi64 (i1 + 1)))) && (decide ((wi64 (i1 + 1)) < ((s0.size : Nat) : Int)))) (.ret .normal [(.bool ((byteAt s0 (Int.toNat (wi64 (i1 + 1)))) == 62))])) else (.ret .normal [(.bool false)]))))) else (.ret .normal [(.bool false)])) (T63k8 a15 i1 s0 a4))) else (.ret .normal [(.bool false)])))) (T63k9 a4 a15))))
theorem T63_eq (s0 : ByteArray) (i1 : Int) : progOf PROG false 63 [(.string s0), (.int .i64 i1)] = T63 s0 i1 := by kernel_rfl


/-- (*hindsight/hindsightref3.reader).eat -/
noncomputable def T64 (p0 : (Option Addr)) (s1 : ByteArray) : Pg :=
  .call 84 [(.pointer p0), (.string s1)] fun v2 => asBool v2 fun b3 => bif (!b3) then (.ret .ret [(.bool false)]) else (asSome p0 fun a4 => .act (ld1 (aadd a4 1)) fun v5 => asInt .i64 v5 fun i6 => asSome p0 fun a7 => .act (stC (aadd a7 1) [(.int .i64 (wi64 (i6 + 1)))]) fun v8 => asTuple v8 fun l9 => asNil l9 (.ret .ret [(.bool true)]))
theorem T64_eq (p0 : (Option Addr)) (s1 : ByteArray) : progOf PROG false 64 [(.pointer p0), (.string s1)] = T64 p0 s1 := by kernel_rfl


noncomputable def T65k0 (p0 : (Option Addr)) (a18 : Addr) : Ex → List Value → Pg :=
  fun e28 l29 => sw e28 .normal (asCons l29 fun v30 l31 => asBool v30 fun b32 => asNil l31 (bif b32 then (asSome p0 fun a33 => .act (stC (aadd a33 3) [(.bool true)]) fun v34 => asTuple v34 fun l35 => asNil l35 (.ret .ret [(.string (bs []))])) else (asSome p0 fun a36 => .act (ld1 (aadd a36 1)) fun v37 => asInt .i64 v37 fun i38 => asSome p0 fun a39 => .act (stC (aadd a39 1) [(.int .i64 (wi64 (i38 + 1)))]) fun v40 => asTuple v40 fun l41 => asNil l41 (.act (ld1 (aadd a18 1)) fun v42 => asStr v42 fun s43 => .ret .ret [(.string s43)])))) (.fail)

/-- (*hindsight/hindsightref3.reader).name -/
noncomputable def T65 (p0 : (Option Addr)) (i1 : Int) : Pg :=
  .call 45 [(.pointer p0)] fun v2 => asAgg v2 fun l3 => asCons l3 fun v4 l5 => asInt .i64 v4 fun i6 => asCons l5 fun v7 l8 => asStr v7 fun s9 => asCons l8 fun v10 l11 => asInt .i64 v10 fun i12 => asCons l11 fun v13 l14 => asInt .i64 v13 fun i15 => asNil l14 (.act (newC [(.int .i64 0), (.string (bs [])), (.int .i64 0), (.int .i64 0)]) fun v16 => asPtr v16 fun p17 => asSome p17 fun a18 => .act (stC a18 [(.int .i64 i6), (.string s9), (.int .i64 i12), (.int .i64 i15)]) fun v19 => asTuple v19 fun l20 => asNil l20 (.join (asSome p0 fun a21 => .act (ld1 (aadd a21 3)) fun v22 => asBool v22 fun b23 => bif b23 == false then (.act (ld1 (aadd a18 0)) fun v24 => asInt .i64 v24 fun i25 => bif (i25 != i1) == false then (.act (ld1 (aadd a18 1)) fun v26 => asStr v26 fun s27 => .ret .normal [(.bool (s27.toList == (bs [95]).toList))]) else (.ret .normal [(.bool true)])) else (.ret .normal [(.bool true)])) (T65k0 p0 a18)))
theorem T65_eq (p0 : (Option Addr)) (i1 : Int) : progOf PROG false 65 [(.pointer p0), (.int .i64 i1)] = T65 p0 i1 := by kernel_rfl


noncomputable def T66k0 : Ex → List Value → Pg :=
  fun e7 l8 => sw e7 .normal (asNil l8 (.ret .ret [(.tuple #[])])) (.fail)

/-- (*hindsight/hindsightref3.reader).need -/
noncomputable def T66 (p0 : (Option Addr)) (s1 : ByteArray) : Pg :=
  .call 64 [(.pointer p0), (.string s1)] fun v2 => asBool v2 fun b3 => .join (bif (!b3) then (asSome p0 fun a4 => .act (stC (aadd a4 3) [(.bool true)]) fun v5 => asTuple v5 fun l6 => asNil l6 (.ret .normal [])) else (.ret .normal [])) (T66k0)
theorem T66_eq (p0 : (Option Addr)) (s1 : ByteArray) : progOf PROG false 66 [(.pointer p0), (.string s1)] = T66 p0 s1 := by kernel_rfl


/-- (*hindsight/hindsightref3.reader).set -/
noncomputable def T67 (p0 : (Option Addr)) : Pg :=
  .call 85 [(.pointer p0)] fun v1 => asPtr v1 fun p2 => .call 64 [(.pointer p0), (.string (bs [58, 61]))] fun v3 => asBool v3 fun b4 => bif b4 then (.call 67 [(.pointer p0)] fun v5 => asPtr v5 fun p6 => .call 68 [(.int .i64 13), (.string (bs [])), (.pointer p2), (.pointer p6)] fun v7 => asPtr v7 fun p8 => .ret .ret [(.pointer p8)]) else (.ret .ret [(.pointer p2)])
theorem T67_eq (p0 : (Option Addr)) : progOf PROG false 67 [(.pointer p0)] = T67 p0 := by kernel_rfl


/-- hindsight/hindsightref3.two -/
noncomputable def T68 (i0 : Int) (s1 : ByteArray) (p2 : (Option Addr)) (p3 : (Option Addr)) : Pg :=
  asSome p2 fun a4 => .act (ld1 (aadd (aadd a4 0) 5)) fun v5 => asInt .i64 v5 fun i6 => asSome p3 fun a7 => .act (ld1 (aadd (aadd a7 0) 6)) fun v8 => asInt .i64 v8 fun i9 => .act (bdSl 1 2 [(.pointer p2), (.pointer p3)]) fun v10 => asSlice v10 fun p11 n12 n13 => .get fun h17 => grd (chks [((ld1 (aadd (aadd a7 0) 6)), v8), ((ld1 (aadd (aadd a4 0) 5)), v5)] h17) (.act (newC [(.int .i64 i0), (.int .i64 0), (.string s1), (.string (bs [])), (.slice none 0 0), (.int .i64 i6), (.int .i64 i9), (.slice p11 n12 n13)]) fun v14 => asPtr v14 fun p15 => asSome p15 fun a16 => .ret .ret [(.pointer (some a16))])
theorem T68_eq (i0 : Int) (s1 : ByteArray) (p2 : (Option Addr)) (p3 : (Option Addr)) : progOf PROG false 68 [(.int .i64 i0), (.string s1), (.pointer p2), (.pointer p3)] = T68 i0 s1 p2 p3 := by kernel_rfl


noncomputable def T69k0 (p89 : (Option Addr)) (n90 : Nat) (n91 : Nat) (a47 : Addr) (i86 : Int) (b94 : Bool) : Ex → List Value → Pg :=
  fun e117 l118 => sw e117 .normal (asCons l118 fun v119 l120 => asBool v119 fun b121 => asNil l120 (bif b121 then (.ret .ret [(.slice p89 n90 n91), (.bool false)]) else (.act (ld1 (aadd a47 1)) fun v122 => asSlice v122 fun p123 n124 n125 => asSome p123 fun a126 => grd ((decide (0 ≤ i86)) && (decide (i86 < ((n124 : Nat) : Int)))) (.act (ld1 (aadd (aadd a126 ((Int.toNat i86) * 2)) 0)) fun v127 => asStr v127 fun s128 => .act (bdSl 1 1 [(.string s128)]) fun v129 => asSlice v129 fun p130 n131 n132 => .act (apS 1 16 p89 n90 n91 p130 n131 n132) fun v133 => asSlice v133 fun p134 n135 n136 => .ret .normal [(.slice p134 n135 n136), (.bool b94)])))) (.fail)

noncomputable def T69k1 (i86 : Int) : Ex → List Value → Pg :=
  fun e137 l138 => sw e137 .ret (asCons l138 fun v139 l140 => asSlice v139 fun p141 n142 n143 => asCons l140 fun v144 l145 => asBool v144 fun b146 => asNil l145 (.ret .ret [(.int .i64 i86), (.slice p141 n142 n143), (.bool b146)])) (sw e137 .normal (asCons l138 fun v147 l148 => asSlice v147 fun p149 n150 n151 => asCons l148 fun v152 l153 => asBool v152 fun b154 => asNil l153 (.ret .normal [(.int .i64 (wi64 (i86 + 1))), (.slice p149 n150 n151), (.bool b154)])) (.fail))

noncomputable def T69b0 (a47 : Addr) : List Value → Pg :=
  fun l83 => asCons l83 fun v84 l85 => asInt .i64 v84 fun i86 => asCons l85 fun v87 l88 => asSlice v87 fun p89 n90 n91 => asCons l88 fun v92 l93 => asBool v92 fun b94 => asNil l93 (.act (ld1 (aadd a47 1)) fun v95 => asSlice v95 fun p96 n97 n98 => bif (decide (i86 < ((n97 : Nat) : Int))) then (.join (.join (.act (ld1 (aadd a47 1)) fun v99 => asSlice v99 fun p100 n101 n102 => asSome p100 fun a103 => grd ((decide (0 ≤ i86)) && (decide (i86 < ((n101 : Nat) : Int)))) (.act (ld1 (aadd (aadd a103 ((Int.toNat i86) * 2)) 0)) fun v104 => asStr v104 fun s105 => .call 87 [(.string s105)] fun v106 => asBool v106 fun b107 => bif (!b107) == false then (.act (ld1 (aadd a47 1)) fun v108 => asSlice v108 fun p109 n110 n111 => asSome p109 fun a112 => grd ((decide (0 ≤ i86)) && (decide (i86 < ((n110 : Nat) : Int)))) (.act (ld1 (aadd (aadd a112 ((Int.toNat i86) * 2)) 1)) fun v113 => asSlice v113 fun p114 n115 n116 => .ret .normal [(.bool (decide (((n115 : Nat) : Int) > 3)))])) else (.ret .normal [(.bool true)]))) (T69k0 p89 n90 n91 a47 i86 b94)) (T69k1 i86)) else (.ret (.exit 2) [(.int .i64 i86), (.slice p89 n90 n91), (.bool b94)]))

noncomputable def T69k2 (p80 : (Option Addr)) (n81 : Nat) (n82 : Nat) : Ex → List Value → Pg :=
  fun e155 l156 => sw e155 (.exit 2) (asCons l156 fun v157 l158 => asInt .i64 v157 fun i159 => asCons l158 fun v160 l161 => asSlice v160 fun p162 n163 n164 => asCons l161 fun v165 l166 => asBool v165 fun b167 => asNil l166 (.ret .normal [(.slice p162 n163 n164), (.slice p80 n81 n82), (.bool b167)])) (sw e155 .ret (asCons l156 fun v168 l169 => asInt .i64 v168 fun i170 => asCons l169 fun v171 l172 => asSlice v171 fun p173 n174 n175 => asCons l172 fun v176 l177 => asBool v176 fun b178 => asNil l177 (.ret .ret [(.slice p173 n174 n175), (.slice p80 n81 n82), (.bool b178)])) (.fail))

noncomputable def T69k3 (p15 : (Option Addr)) (n16 : Nat) (n17 : Nat) (p20 : (Option Addr)) (n21 : Nat) (n22 : Nat) (a47 : Addr) (b25 : Bool) : Ex → List Value → Pg :=
  fun e68 l69 => sw e68 .normal (asCons l69 fun v70 l71 => asBool v70 fun b72 => asNil l71 (bif b72 then (.ret .ret [(.slice p15 n16 n17), (.slice p20 n21 n22), (.bool false)]) else (.act (ld1 (aadd a47 0)) fun v73 => asStr v73 fun s74 => .act (bdSl 1 1 [(.string s74)]) fun v75 => asSlice v75 fun p76 n77 n78 => .act (apS 1 16 p20 n21 n22 p76 n77 n78) fun v79 => asSlice v79 fun p80 n81 n82 => .loop [(.int .i64 0), (.slice p15 n16 n17), (.bool b25)] (T69b0 a47) (T69k2 p80 n81 n82)))) (.fail)

noncomputable def T69k4 (i12 : Int) : Ex → List Value → Pg :=
  fun e179 l180 => sw e179 .ret (asCons l180 fun v181 l182 => asSlice v181 fun p183 n184 n185 => asCons l182 fun v186 l187 => asSlice v186 fun p188 n189 n190 => asCons l187 fun v191 l192 => asBool v191 fun b193 => asNil l192 (.ret .ret [(.int .i64 i12), (.slice p183 n184 n185), (.slice p188 n189 n190), (.bool b193)])) (sw e179 .normal (asCons l180 fun v194 l195 => asSlice v194 fun p196 n197 n198 => asCons l195 fun v199 l200 => asSlice v199 fun p201 n202 n203 => asCons l200 fun v204 l205 => asBool v204 fun b206 => asNil l205 (.ret .normal [(.int .i64 (wi64 (i12 + 1))), (.slice p196 n197 n198), (.slice p201 n202 n203), (.bool b206)])) (.fail))

noncomputable def T69b1 (a8 : Addr) : List Value → Pg :=
  fun l9 => asCons l9 fun v10 l11 => asInt .i64 v10 fun i12 => asCons l11 fun v13 l14 => asSlice v13 fun p15 n16 n17 => asCons l14 fun v18 l19 => asSlice v18 fun p20 n21 n22 => asCons l19 fun v23 l24 => asBool v23 fun b25 => asNil l24 (.act (ld1 (aadd a8 1)) fun v26 => asSlice v26 fun p27 n28 n29 => bif (decide (i12 < ((n28 : Nat) : Int))) then (.join (.act (ld1 (aadd a8 1)) fun v30 => asSlice v30 fun p31 n32 n33 => asSome p31 fun a34 => grd ((decide (0 ≤ i12)) && (decide (i12 < ((n32 : Nat) : Int)))) (.act (ldN 2 (aadd a34 ((Int.toNat i12) * 2))) fun v35 => asAgg v35 fun l36 => asCons l36 fun v37 l38 => asStr v37 fun s39 => asCons l38 fun v40 l41 => asSlice v40 fun p42 n43 n44 => asNil l41 (.act (newC [(.string (bs [])), (.slice none 0 0)]) fun v45 => asPtr v45 fun p46 => asSome p46 fun a47 => .act (stC a47 [(.string s39), (.slice p42 n43 n44)]) fun v48 => asTuple v48 fun l49 => asNil l49 (.join (.act (ld1 (aadd a47 0)) fun v50 => asStr v50 fun s51 => .call 86 [(.string s51)] fun v52 => asBool v52 fun b53 => bif (!b53) == false then (.act (ld1 (aadd a47 0)) fun v54 => asStr v54 fun s55 => bif (s55.toList == (bs [105, 110, 116]).toList) == false then (.act (ld1 (aadd a47 0)) fun v56 => asStr v56 fun s57 => bif (s57.toList == (bs [98, 111, 111, 108]).toList) == false then (.act (ld1 (aadd a47 0)) fun v58 => asStr v58 fun s59 => bif (s59.toList == (bs [117, 110, 105, 116]).toList) == false then (.act (ld1 (aadd a47 1)) fun v60 => asSlice v60 fun p61 n62 n63 => bif (decide (((n62 : Nat) : Int) < 1)) == false then (.act (ld1 (aadd a47 1)) fun v64 => asSlice v64 fun p65 n66 n67 => .ret .normal [(.bool (decide (((n66 : Nat) : Int) > 20)))]) else (.ret .normal [(.bool true)])) else (.ret .normal [(.bool true)])) else (.ret .normal [(.bool true)])) else (.ret .normal [(.bool true)])) else (.ret .normal [(.bool true)])) (T69k3 p15 n16 n17 p20 n21 n22 a47 b25))))) (T69k4 i12)) else (.ret (.exit 0) [(.int .i64 i12), (.slice p15 n16 n17), (.slice p20 n21 n22), (.bool b25)]))

noncomputable def T69k5 (i290 : Int) : Ex → List Value → Pg :=
  fun e299 l300 => sw e299 .ret (asCons l300 fun v301 l302 => asBool v301 fun b303 => asNil l302 (.ret .ret [(.int .i64 i290), (.bool b303)])) (sw e299 .normal (asCons l300 fun v304 l305 => asBool v304 fun b306 => asNil l305 (.ret .normal [(.int .i64 (wi64 (i290 + 1))), (.bool b306)])) (.fail))

noncomputable def T69b2 (n285 : Nat) (p284 : (Option Addr)) (p243 : (Option Addr)) (n244 : Nat) (n245 : Nat) : List Value → Pg :=
  fun l287 => asCons l287 fun v288 l289 => asInt .i64 v288 fun i290 => asCons l289 fun v291 l292 => asBool v291 fun b293 => asNil l292 (bif (decide (i290 < ((n285 : Nat) : Int))) then (.join (asSome p284 fun a294 => grd ((decide (0 ≤ i290)) && (decide (i290 < ((n285 : Nat) : Int)))) (.act (ld1 (aadd a294 ((Int.toNat i290) * 1))) fun v295 => asStr v295 fun s296 => .call 89 [(.slice p243 n244 n245), (.string s296)] fun v297 => asBool v297 fun b298 => bif (!b298) then (.ret .ret [(.bool false)]) else (.ret .normal [(.bool b293)]))) (T69k5 i290)) else (.ret (.exit 8) [(.int .i64 i290), (.bool b293)]))

noncomputable def T69k6 : Ex → List Value → Pg :=
  fun e307 l308 => sw e307 (.exit 8) (asCons l308 fun v309 l310 => asInt .i64 v309 fun i311 => asCons l310 fun v312 l313 => asBool v312 fun b314 => asNil l313 (.ret .normal [(.bool b314)])) (sw e307 .ret (asCons l308 fun v315 l316 => asInt .i64 v315 fun i317 => asCons l316 fun v318 l319 => asBool v318 fun b320 => asNil l319 (.ret .ret [(.bool b320)])) (.fail))

noncomputable def T69k7 (i260 : Int) : Ex → List Value → Pg :=
  fun e321 l322 => sw e321 .ret (asCons l322 fun v323 l324 => asBool v323 fun b325 => asNil l324 (.ret .ret [(.int .i64 i260), (.bool b325)])) (sw e321 .normal (asCons l322 fun v326 l327 => asBool v326 fun b328 => asNil l327 (.ret .normal [(.int .i64 (wi64 (i260 + 1))), (.bool b328)])) (.fail))

noncomputable def T69b3 (a8 : Addr) (i249 : Int) (p243 : (Option Addr)) (n244 : Nat) (n245 : Nat) : List Value → Pg :=
  fun l257 => asCons l257 fun v258 l259 => asInt .i64 v258 fun i260 => asCons l259 fun v261 l262 => asBool v261 fun b263 => asNil l262 (.act (ld1 (aadd a8 1)) fun v264 => asSlice v264 fun p265 n266 n267 => asSome p265 fun a268 => grd ((decide (0 ≤ i249)) && (decide (i249 < ((n266 : Nat) : Int)))) (.act (ld1 (aadd (aadd a268 ((Int.toNat i249) * 2)) 1)) fun v269 => asSlice v269 fun p270 n271 n272 => bif (decide (i260 < ((n271 : Nat) : Int))) then (.join (.act (ld1 (aadd a8 1)) fun v273 => asSlice v273 fun p274 n275 n276 => asSome p274 fun a277 => grd ((decide (0 ≤ i249)) && (decide (i249 < ((n275 : Nat) : Int)))) (.act (ld1 (aadd (aadd a277 ((Int.toNat i249) * 2)) 1)) fun v278 => asSlice v278 fun p279 n280 n281 => asSome p279 fun a282 => grd ((decide (0 ≤ i260)) && (decide (i260 < ((n280 : Nat) : Int)))) (.act (ld1 (aadd (aadd a282 ((Int.toNat i260) * 2)) 1)) fun v283 => asSlice v283 fun p284 n285 n286 => .loop [(.int .i64 0), (.bool b263)] (T69b2 n285 p284 p243 n244 n245) (T69k6)))) (T69k7 i260)) else (.ret (.exit 6) [(.int .i64 i260), (.bool b263)])))

noncomputable def T69k8 : Ex → List Value → Pg :=
  fun e329 l330 => sw e329 (.exit 6) (asCons l330 fun v331 l332 => asInt .i64 v331 fun i333 => asCons l332 fun v334 l335 => asBool v334 fun b336 => asNil l335 (.ret .normal [(.bool b336)])) (sw e329 .ret (asCons l330 fun v337 l338 => asInt .i64 v337 fun i339 => asCons l338 fun v340 l341 => asBool v340 fun b342 => asNil l341 (.ret .ret [(.bool b342)])) (.fail))

noncomputable def T69k9 (i249 : Int) : Ex → List Value → Pg :=
  fun e343 l344 => sw e343 .ret (asCons l344 fun v345 l346 => asBool v345 fun b347 => asNil l346 (.ret .ret [(.int .i64 i249), (.bool b347)])) (sw e343 .normal (asCons l344 fun v348 l349 => asBool v348 fun b350 => asNil l349 (.ret .normal [(.int .i64 (wi64 (i249 + 1))), (.bool b350)])) (.fail))

noncomputable def T69b4 (a8 : Addr) (p243 : (Option Addr)) (n244 : Nat) (n245 : Nat) : List Value → Pg :=
  fun l246 => asCons l246 fun v247 l248 => asInt .i64 v247 fun i249 => asCons l248 fun v250 l251 => asBool v250 fun b252 => asNil l251 (.act (ld1 (aadd a8 1)) fun v253 => asSlice v253 fun p254 n255 n256 => bif (decide (i249 < ((n255 : Nat) : Int))) then (.join (.loop [(.int .i64 0), (.bool b252)] (T69b3 a8 i249 p243 n244 n245) (T69k8)) (T69k9 i249)) else (.ret (.exit 4) [(.int .i64 i249), (.bool b252)]))

noncomputable def T69k10 : Ex → List Value → Pg :=
  fun e351 l352 => sw e351 (.exit 4) (asCons l352 fun v353 l354 => asInt .i64 v353 fun i355 => asCons l354 fun v356 l357 => asBool v356 fun b358 => asNil l357 (.ret .ret [(.bool true)])) (sw e351 .ret (asCons l352 fun v359 l360 => asInt .i64 v359 fun i361 => asCons l360 fun v362 l363 => asBool v362 fun b364 => asNil l363 (.ret .ret [(.bool b364)])) (.fail))

noncomputable def T69k11 (p219 : (Option Addr)) (n220 : Nat) (n221 : Nat) (b224 : Bool) (a8 : Addr) : Ex → List Value → Pg :=
  fun e233 l234 => sw e233 .normal (asCons l234 fun v235 l236 => asBool v235 fun b237 => asNil l236 (bif b237 then (.ret .ret [(.bool false)]) else (.act (bdSl 1 3 [(.string (bs [105, 110, 116])), (.string (bs [98, 111, 111, 108])), (.string (bs [117, 110, 105, 116]))]) fun v238 => asSlice v238 fun p239 n240 n241 => .act (apS 1 16 p219 n220 n221 p239 n240 n241) fun v242 => asSlice v242 fun p243 n244 n245 => .loop [(.int .i64 0), (.bool b224)] (T69b4 a8 p243 n244 n245) (T69k10)))) (.fail)

noncomputable def T69k12 (a8 : Addr) : Ex → List Value → Pg :=
  fun e207 l208 => sw e207 (.exit 0) (asCons l208 fun v209 l210 => asInt .i64 v209 fun i211 => asCons l210 fun v212 l213 => asSlice v212 fun p214 n215 n216 => asCons l213 fun v217 l218 => asSlice v217 fun p219 n220 n221 => asCons l218 fun v222 l223 => asBool v222 fun b224 => asNil l223 (.join (.act (ld1 (aadd a8 1)) fun v225 => asSlice v225 fun p226 n227 n228 => bif (decide (((n227 : Nat) : Int) > 20)) == false then (.call 88 [(.slice p219 n220 n221)] fun v229 => asBool v229 fun b230 => bif b230 == false then (.call 88 [(.slice p214 n215 n216)] fun v231 => asBool v231 fun b232 => .ret .normal [(.bool b232)]) else (.ret .normal [(.bool true)])) else (.ret .normal [(.bool true)])) (T69k11 p219 n220 n221 b224 a8))) (sw e207 .ret (asCons l208 fun v365 l366 => asInt .i64 v365 fun i367 => asCons l366 fun v368 l369 => asSlice v368 fun p370 n371 n372 => asCons l369 fun v373 l374 => asSlice v373 fun p375 n376 n377 => asCons l374 fun v378 l379 => asBool v378 fun b380 => asNil l379 (.ret .ret [(.bool b380)])) (.fail))

/-- (hindsight/hindsightref3.Tree).types -/
noncomputable def T69 (p0 : (Option Addr)) (n1 : Nat) (n2 : Nat) (p3 : (Option Addr)) (n4 : Nat) (n5 : Nat) : Pg :=
  .act (newC [(.slice p0 n1 n2), (.slice p3 n4 n5)]) fun v6 => asPtr v6 fun p7 => asSome p7 fun a8 => .loop [(.int .i64 0), (.slice none 0 0), (.slice none 0 0), (.bool false)] (T69b1 a8) (T69k12 a8)
theorem T69_eq (p0 : (Option Addr)) (n1 : Nat) (n2 : Nat) (p3 : (Option Addr)) (n4 : Nat) (n5 : Nat) : progOf PROG false 69 [(.agg #[(.slice p0 n1 n2), (.slice p3 n4 n5)])] = T69 p0 n1 n2 p3 n4 n5 := by kernel_rfl


noncomputable def T70k0 : Ex → List Value → Pg :=
  fun e137 l138 => sw e137 .normal (asCons l138 fun v139 l140 => asBool v139 fun b141 => asNil l140 (bif b141 then (.ret .ret [(.int .i64 (-1))]) else (.ret .normal [(.int .i64 0)]))) (.fail)

noncomputable def T70k1 (i159 : Int) : Ex → List Value → Pg :=
  fun e191 l192 => sw e191 .normal (asCons l192 fun v193 l194 => asInt .i64 v193 fun i195 => asNil l194 (bif (decide (i195 < 0)) then (.ret .ret [(.int .i64 i195), (.int .i64 (-1))]) else (.ret .normal [(.int .i64 i195), (.int .i64 i159)]))) (.fail)

noncomputable def T70k2 (i153 : Int) : Ex → List Value → Pg :=
  fun e196 l197 => sw e196 .ret (asCons l197 fun v198 l199 => asInt .i64 v198 fun i200 => asCons l199 fun v201 l202 => asInt .i64 v201 fun i203 => asNil l202 (.ret .ret [(.int .i64 i153), (.int .i64 i200), (.int .i64 i203)])) (sw e196 .normal (asCons l197 fun v204 l205 => asInt .i64 v204 fun i206 => asCons l205 fun v207 l208 => asInt .i64 v207 fun i209 => asNil l208 (.ret .normal [(.int .i64 (wi64 (i153 + 1))), (.int .i64 i206), (.int .i64 i209)])) (.fail))

noncomputable def T70b0 (a48 : Addr) (a11 : Addr) (b7 : Bool) (i8 : Int) : List Value → Pg :=
  fun l150 => asCons l150 fun v151 l152 => asInt .i64 v151 fun i153 => asCons l152 fun v154 l155 => asInt .i64 v154 fun i156 => asCons l155 fun v157 l158 => asInt .i64 v157 fun i159 => asNil l158 (.act (ld1 (aadd a48 4)) fun v160 => asSlice v160 fun p161 n162 n163 => bif (decide (i153 < ((n162 : Nat) : Int))) then (.join (.act (ld1 (aadd a48 4)) fun v164 => asSlice v164 fun p165 n166 n167 => asSome p165 fun a168 => grd ((decide (0 ≤ i153)) && (decide (i153 < ((n166 : Nat) : Int)))) (.act (ld1 (aadd a168 ((Int.toNat i153) * 1))) fun v169 => asInt .i64 v169 fun i170 => bif (i170 != i156) then (.ret .ret [(.int .i64 i156), (.int .i64 (-1))]) else (.join (.act (ldN 2 a11) fun v171 => asAgg v171 fun l172 => asCons l172 fun v173 l174 => asSlice v173 fun p175 n176 n177 => asCons l174 fun v178 l179 => asSlice v178 fun p180 n181 n182 => asNil l179 (bif b7 == false then (.act (ld1 (aadd a48 0)) fun v183 => asInt .i64 v183 fun i184 => bif (i184 == 11) == true then (.call 70 [(.agg #[(.slice p175 n176 n177), (.slice p180 n181 n182)]), (.int .i64 i156), (.bool ((Int.tmod i153 2) == 1)), (.int .i64 (wi64 (i8 + 1)))] fun v185 => asInt .i64 v185 fun i186 => .ret .normal [(.int .i64 i186)]) else (.call 70 [(.agg #[(.slice p175 n176 n177), (.slice p180 n181 n182)]), (.int .i64 i156), (.bool false), (.int .i64 (wi64 (i8 + 1)))] fun v187 => asInt .i64 v187 fun i188 => .ret .normal [(.int .i64 i188)])) else (.call 70 [(.agg #[(.slice p175 n176 n177), (.slice p180 n181 n182)]), (.int .i64 i156), (.bool true), (.int .i64 (wi64 (i8 + 1)))] fun v189 => asInt .i64 v189 fun i190 => .ret .normal [(.int .i64 i190)]))) (T70k1 i159)))) (T70k2 i153)) else (.ret (.exit 0) [(.int .i64 i153), (.int .i64 i156), (.int .i64 i159)]))

noncomputable def T70k3 (i226 : Int) : Ex → List Value → Pg :=
  fun e259 l260 => sw e259 .ret (asCons l260 fun v261 l262 => asInt .i64 v261 fun i263 => asNil l262 (.ret .ret [(.int .i64 i226), (.int .i64 i263)])) (sw e259 .normal (asCons l260 fun v264 l265 => asInt .i64 v264 fun i266 => asNil l265 (.ret .normal [(.int .i64 (wi64 (i226 + 2))), (.int .i64 i266)])) (.fail))

noncomputable def T70b1 (a48 : Addr) (a11 : Addr) : List Value → Pg :=
  fun l223 => asCons l223 fun v224 l225 => asInt .i64 v224 fun i226 => asCons l225 fun v227 l228 => asInt .i64 v227 fun i229 => asNil l228 (.act (ld1 (aadd a48 4)) fun v230 => asSlice v230 fun p231 n232 n233 => bif (decide (i226 < ((n232 : Nat) : Int))) then (.join (.act (ldN 2 a11) fun v234 => asAgg v234 fun l235 => asCons l235 fun v236 l237 => asSlice v236 fun p238 n239 n240 => asCons l237 fun v241 l242 => asSlice v241 fun p243 n244 n245 => asNil l242 (.act (ld1 (aadd a48 4)) fun v246 => asSlice v246 fun p247 n248 n249 => asSome p247 fun a250 => grd ((decide (0 ≤ i226)) && (decide (i226 < ((n248 : Nat) : Int)))) (.act (ld1 (aadd a250 ((Int.toNat i226) * 1))) fun v251 => asInt .i64 v251 fun i252 => .call 92 [(.agg #[(.slice p238 n239 n240), (.slice p243 n244 n245)]), (.int .i64 i252)] fun v253 => asSlice v253 fun p254 n255 n256 => .call 88 [(.slice p254 n255 n256)] fun v257 => asBool v257 fun b258 => bif b258 then (.ret .ret [(.int .i64 (-1))]) else (.ret .normal [(.int .i64 i229)])))) (T70k3 i226)) else (.ret (.exit 2) [(.int .i64 i226), (.int .i64 i229)]))

noncomputable def T70k4 : Ex → List Value → Pg :=
  fun e267 l268 => sw e267 (.exit 2) (asCons l268 fun v269 l270 => asInt .i64 v269 fun i271 => asCons l270 fun v272 l273 => asInt .i64 v272 fun i274 => asNil l273 (.ret .normal [(.int .i64 i274)])) (sw e267 .ret (asCons l268 fun v275 l276 => asInt .i64 v275 fun i277 => asCons l276 fun v278 l279 => asInt .i64 v278 fun i280 => asNil l279 (.ret .ret [(.int .i64 i280)])) (.fail))

noncomputable def T70k5 (i217 : Int) : Ex → List Value → Pg :=
  fun e281 l282 => sw e281 .ret (asCons l282 fun v283 l284 => asInt .i64 v283 fun i285 => asNil l284 (.ret .ret [(.int .i64 i285)])) (sw e281 .normal (asCons l282 fun v286 l287 => asInt .i64 v286 fun i288 => asNil l287 (.ret .ret [(.int .i64 i217)])) (.fail))

noncomputable def T70k6 (a48 : Addr) (a11 : Addr) : Ex → List Value → Pg :=
  fun e210 l211 => sw e210 (.exit 0) (asCons l211 fun v212 l213 => asInt .i64 v212 fun i214 => asCons l213 fun v215 l216 => asInt .i64 v215 fun i217 => asCons l216 fun v218 l219 => asInt .i64 v218 fun i220 => asNil l219 (.act (ld1 (aadd a48 0)) fun v221 => asInt .i64 v221 fun i222 => .join (bif (i222 == 11) then (.loop [(.int .i64 1), (.int .i64 i220)] (T70b1 a48 a11) (T70k4)) else (.ret .normal [(.int .i64 i220)])) (T70k5 i217))) (sw e210 .ret (asCons l211 fun v289 l290 => asInt .i64 v289 fun i291 => asCons l290 fun v292 l293 => asInt .i64 v292 fun i294 => asCons l293 fun v295 l296 => asInt .i64 v295 fun i297 => asNil l296 (.ret .ret [(.int .i64 i297)])) (.fail))

noncomputable def T70k7 (i6 : Int) (a48 : Addr) (a11 : Addr) (b7 : Bool) (i8 : Int) : Ex → List Value → Pg :=
  fun e142 l143 => sw e142 .ret (asCons l143 fun v144 l145 => asInt .i64 v144 fun i146 => asNil l145 (.ret .ret [(.int .i64 i146)])) (sw e142 .normal (asCons l143 fun v147 l148 => asInt .i64 v147 fun i149 => asNil l148 (.loop [(.int .i64 0), (.int .i64 (wi64 (i6 + 1))), (.int .i64 i149)] (T70b0 a48 a11 b7 i8) (T70k6 a48 a11))) (.fail))

noncomputable def T70k8 (a11 : Addr) (a48 : Addr) (i6 : Int) (b7 : Bool) (i8 : Int) : Ex → List Value → Pg :=
  fun e89 l90 => sw e89 .normal (asCons l90 fun v91 l92 => asBool v91 fun b93 => asNil l92 (.join (bif b93 then (.act (ldN 2 a11) fun v94 => asAgg v94 fun l95 => asCons l95 fun v96 l97 => asSlice v96 fun p98 n99 n100 => asCons l97 fun v101 l102 => asSlice v101 fun p103 n104 n105 => asNil l102 (.act (ld1 (aadd a48 2)) fun v106 => asStr v106 fun s107 => .call 91 [(.agg #[(.slice p98 n99 n100), (.slice p103 n104 n105)]), (.string s107)] fun v108 => asTuple v108 fun l109 => asCons l109 fun v110 l111 => asInt .i64 v110 fun i112 => asCons l111 fun v113 l114 => asInt .i64 v113 fun i115 => asCons l114 fun v116 l117 => asBool v116 fun b118 => asNil l117 (.join (bif (!b118) == false then (.act (ld1 (aadd a11 1)) fun v119 => asSlice v119 fun p120 n121 n122 => asSome p120 fun a123 => grd ((decide (0 ≤ i112)) && (decide (i112 < ((n121 : Nat) : Int)))) (.act (ld1 (aadd (aadd a123 ((Int.toNat i112) * 2)) 1)) fun v124 => asSlice v124 fun p125 n126 n127 => asSome p125 fun a128 => grd ((decide (0 ≤ i115)) && (decide (i115 < ((n126 : Nat) : Int)))) (.act (ld1 (aadd (aadd a128 ((Int.toNat i115) * 2)) 1)) fun v129 => asSlice v129 fun p130 n131 n132 => .act (ld1 (aadd a48 4)) fun v133 => asSlice v133 fun p134 n135 n136 => .ret .normal [(.bool (((n131 : Nat) : Int) != ((n135 : Nat) : Int)))]))) else (.ret .normal [(.bool true)])) (T70k0)))) else (.ret .normal [(.int .i64 0)])) (T70k7 i6 a48 a11 b7 i8))) (.fail)

noncomputable def T70k9 (a48 : Addr) (a11 : Addr) (i6 : Int) (b7 : Bool) (i8 : Int) : Ex → List Value → Pg :=
  fun e80 l81 => sw e80 .normal (asCons l81 fun v82 l83 => asBool v82 fun b84 => asNil l83 (bif b84 then (.ret .ret [(.int .i64 (-1))]) else (.join (.act (ld1 (aadd a48 0)) fun v85 => asInt .i64 v85 fun i86 => bif (i86 == 5) == false then (.act (ld1 (aadd a48 0)) fun v87 => asInt .i64 v87 fun i88 => .ret .normal [(.bool (i88 == 26))]) else (.ret .normal [(.bool true)])) (T70k8 a11 a48 i6 b7 i8)))) (.fail)

/-- (hindsight/hindsightref3.Tree).walk -/
noncomputable def T70 (p0 : (Option Addr)) (n1 : Nat) (n2 : Nat) (p3 : (Option Addr)) (n4 : Nat) (n5 : Nat) (i6 : Int) (b7 : Bool) (i8 : Int) : Pg :=
  .act (newC [(.slice p0 n1 n2), (.slice p3 n4 n5)]) fun v9 => asPtr v9 fun p10 => asSome p10 fun a11 => .act (ld1 (aadd a11 0)) fun v12 => asSlice v12 fun p13 n14 n15 => bif ((decide (i6 ≥ ((n14 : Nat) : Int))) || (decide (i8 > 60))) then (.ret .ret [(.int .i64 (-1))]) else (.act (ld1 (aadd a11 0)) fun v16 => asSlice v16 fun p17 n18 n19 => asSome p17 fun a20 => grd ((decide (0 ≤ i6)) && (decide (i6 < ((n18 : Nat) : Int)))) (.act (ldN 7 (aadd a20 ((Int.toNat i6) * 7))) fun v21 => asAgg v21 fun l22 => asCons l22 fun v23 l24 => asInt .i64 v23 fun i25 => asCons l24 fun v26 l27 => asInt .i64 v26 fun i28 => asCons l27 fun v29 l30 => asStr v29 fun s31 => asCons l30 fun v32 l33 => asStr v32 fun s34 => asCons l33 fun v35 l36 => asSlice v35 fun p37 n38 n39 => asCons l36 fun v40 l41 => asInt .i64 v40 fun i42 => asCons l41 fun v43 l44 => asInt .i64 v43 fun i45 => asNil l44 (.act (newC [(.int .i64 0), (.int .i64 0), (.string (bs [])), (.string (bs [])), (.slice none 0 0), (.int .i64 0), (.int .i64 0)]) fun v46 => asPtr v46 fun p47 => asSome p47 fun a48 => .act (stC a48 [(.int .i64 i25), (.int .i64 i28), (.string s31), (.string s34), (.slice p37 n38 n39), (.int .i64 i42), (.int .i64 i45)]) fun v49 => asTuple v49 fun l50 => asNil l50 (.join (.act (ldN 7 a48) fun v51 => asAgg v51 fun l52 => asCons l52 fun v53 l54 => asInt .i64 v53 fun i55 => asCons l54 fun v56 l57 => asInt .i64 v56 fun i58 => asCons l57 fun v59 l60 => asStr v59 fun s61 => asCons l60 fun v62 l63 => asStr v62 fun s64 => asCons l63 fun v65 l66 => asSlice v65 fun p67 n68 n69 => asCons l66 fun v70 l71 => asInt .i64 v70 fun i72 => asCons l71 fun v73 l74 => asInt .i64 v73 fun i75 => asNil l74 (.call 90 [(.agg #[(.int .i64 i55), (.int .i64 i58), (.string s61), (.string s64), (.slice p67 n68 n69), (.int .i64 i72), (.int .i64 i75)])] fun v76 => asBool v76 fun b77 => bif (!b77) == false then (.act (ld1 (aadd a48 0)) fun v78 => asInt .i64 v78 fun i79 => .ret .normal [(.bool (!((decide (i79 > 20)) == b7)))]) else (.ret .normal [(.bool true)]))) (T70k9 a48 a11 i6 b7 i8)))))
theorem T70_eq (p0 : (Option Addr)) (n1 : Nat) (n2 : Nat) (p3 : (Option Addr)) (n4 : Nat) (n5 : Nat) (i6 : Int) (b7 : Bool) (i8 : Int) : progOf PROG false 70 [(.agg #[(.slice p0 n1 n2), (.slice p3 n4 n5)]), (.int .i64 i6), (.bool b7), (.int .i64 i8)] = T70 p0 n1 n2 p3 n4 n5 i6 b7 i8 := by kernel_rfl


noncomputable def T71k0 : Ex → List Value → Pg :=
  fun e30 l31 => sw e30 .normal (asCons l31 fun v32 l33 => asBool v32 fun b34 => asNil l33 (.ret .ret [(.bool b34)])) (.fail)

noncomputable def T71k1 (s0 : ByteArray) (i1 : Int) : Ex → List Value → Pg :=
  fun e2 l3 => sw e2 .normal (asCons l3 fun v4 l5 => asBool v4 fun b6 => asNil l5 (bif b6 then (.ret .ret [(.bool false)]) else (.call 93 [(.string s0)] fun v7 => asAgg v7 fun l8 => asCons l8 fun v9 l10 => asInt .i64 v9 fun i11 => asCons l10 fun v12 l13 => asStr v12 fun s14 => asCons l13 fun v15 l16 => asInt .i64 v15 fun i17 => asCons l16 fun v18 l19 => asInt .i64 v18 fun i20 => asNil l19 (.act (newC [(.int .i64 0), (.string (bs [])), (.int .i64 0), (.int .i64 0)]) fun v21 => asPtr v21 fun p22 => asSome p22 fun a23 => .act (stC a23 [(.int .i64 i11), (.string s14), (.int .i64 i17), (.int .i64 i20)]) fun v24 => asTuple v24 fun l25 => asNil l25 (.join (.act (ld1 (aadd a23 0)) fun v26 => asInt .i64 v26 fun i27 => bif (i27 == i1) == true then (.act (ld1 (aadd a23 1)) fun v28 => asStr v28 fun s29 => .ret .normal [(.bool (s29.toList == s0.toList))]) else (.ret .normal [(.bool false)])) (T71k0)))))) (.fail)

/-- hindsight/lex.just -/
noncomputable def T71 (s0 : ByteArray) (i1 : Int) : Pg :=
  .join (bif (s0.toList == (bs []).toList) == false then (.ret .normal [(.bool (decide (((s0.size : Nat) : Int) > 4000)))]) else (.ret .normal [(.bool true)])) (T71k1 s0 i1)
theorem T71_eq (s0 : ByteArray) (i1 : Int) : progOf PROG false 71 [(.string s0), (.int .i64 i1)] = T71 s0 i1 := by kernel_rfl


noncomputable def T72k0 (i7 : Int) : Ex → List Value → Pg :=
  fun e14 l15 => sw e14 .ret (asCons l15 fun v16 l17 => asInt .i64 v16 fun i18 => asNil l17 (.ret .ret [(.int .i64 i7), (.int .i64 i18)])) (sw e14 .normal (asCons l15 fun v19 l20 => asInt .i64 v19 fun i21 => asNil l20 (.ret .normal [(.int .i64 (wi64 (i7 + 1))), (.int .i64 i21)])) (.fail))

noncomputable def T72b0 (n1 : Nat) (p0 : (Option Addr)) (s3 : ByteArray) : List Value → Pg :=
  fun l4 => asCons l4 fun v5 l6 => asInt .i64 v5 fun i7 => asCons l6 fun v8 l9 => asInt .i64 v8 fun i10 => asNil l9 (bif (decide (i7 < ((n1 : Nat) : Int))) then (.join (asSome p0 fun a11 => grd ((decide (0 ≤ i7)) && (decide (i7 < ((n1 : Nat) : Int)))) (.act (ld1 (aadd a11 ((Int.toNat i7) * 1))) fun v12 => asStr v12 fun s13 => bif (s3.toList == s13.toList) then (.ret .ret [(.int .i64 i7)]) else (.ret .normal [(.int .i64 i10)]))) (T72k0 i7)) else (.ret (.exit 0) [(.int .i64 i7), (.int .i64 i10)]))

noncomputable def T72k1 : Ex → List Value → Pg :=
  fun e22 l23 => sw e22 (.exit 0) (asCons l23 fun v24 l25 => asInt .i64 v24 fun i26 => asCons l25 fun v27 l28 => asInt .i64 v27 fun i29 => asNil l28 (.ret .ret [(.int .i64 (-1))])) (sw e22 .ret (asCons l23 fun v30 l31 => asInt .i64 v30 fun i32 => asCons l31 fun v33 l34 => asInt .i64 v33 fun i35 => asNil l34 (.ret .ret [(.int .i64 i35)])) (.fail))

/-- slices.Index[[]string,string] -/
noncomputable def T72 (p0 : (Option Addr)) (n1 : Nat) (n2 : Nat) (s3 : ByteArray) : Pg :=
  .loop [(.int .i64 0), (.int .i64 0)] (T72b0 n1 p0 s3) (T72k1)
theorem T72_eq (p0 : (Option Addr)) (n1 : Nat) (n2 : Nat) (s3 : ByteArray) : progOf PROG false 72 [(.slice p0 n1 n2), (.string s3)] = T72 p0 n1 n2 s3 := by kernel_rfl


noncomputable def T73k0 (i7 : Int) : Ex → List Value → Pg :=
  fun e19 l20 => sw e19 .ret (asCons l20 fun v21 l22 => asInt .i64 v21 fun i23 => asNil l22 (.ret .ret [(.int .i64 i7), (.int .i64 i23)])) (sw e19 .normal (asCons l20 fun v24 l25 => asInt .i64 v24 fun i26 => asNil l25 (.ret .normal [(.int .i64 (wi64 (i7 + 1))), (.int .i64 i26)])) (.fail))

noncomputable def T73b0 (n1 : Nat) (p0 : (Option Addr)) (v3 : Value) : List Value → Pg :=
  fun l4 => asCons l4 fun v5 l6 => asInt .i64 v5 fun i7 => asCons l6 fun v8 l9 => asInt .i64 v8 fun i10 => asNil l9 (bif (decide (i7 < ((n1 : Nat) : Int))) then (.join (asSome p0 fun a11 => grd ((decide (0 ≤ i7)) && (decide (i7 < ((n1 : Nat) : Int)))) (.act (ld1 (aadd a11 ((Int.toNat i7) * 1))) fun v12 => asStr v12 fun s13 => asFunc v3 fun n14 l15 l16 => .call n14 (l15 ++ [(.string s13)] ++ l16) fun v17 => asBool v17 fun b18 => bif b18 then (.ret .ret [(.int .i64 i7)]) else (.ret .normal [(.int .i64 i10)]))) (T73k0 i7)) else (.ret (.exit 0) [(.int .i64 i7), (.int .i64 i10)]))

noncomputable def T73k1 : Ex → List Value → Pg :=
  fun e27 l28 => sw e27 (.exit 0) (asCons l28 fun v29 l30 => asInt .i64 v29 fun i31 => asCons l30 fun v32 l33 => asInt .i64 v32 fun i34 => asNil l33 (.ret .ret [(.int .i64 (-1))])) (sw e27 .ret (asCons l28 fun v35 l36 => asInt .i64 v35 fun i37 => asCons l36 fun v38 l39 => asInt .i64 v38 fun i40 => asNil l39 (.ret .ret [(.int .i64 i40)])) (.fail))

/-- slices.IndexFunc[[]string,string] -/
noncomputable def T73 (p0 : (Option Addr)) (n1 : Nat) (n2 : Nat) (v3 : Value) : Pg :=
  .loop [(.int .i64 0), (.int .i64 0)] (T73b0 n1 p0 v3) (T73k1)
theorem T73_eq (p0 : (Option Addr)) (n1 : Nat) (n2 : Nat) (v3 : Value) : progOf PROG false 73 [(.slice p0 n1 n2), v3] = T73 p0 n1 n2 v3 := by kernel_rfl


noncomputable def T74k0 : Ex → List Value → Pg :=
  fun e23 l24 => sw e23 .normal (asCons l24 fun v25 l26 => asBool v25 fun b27 => asNil l26 (.ret .ret [(.bool b27)])) (.fail)

noncomputable def T74k1 : Ex → List Value → Pg :=
  fun e37 l38 => sw e37 .normal (asCons l38 fun v39 l40 => asBool v39 fun b41 => asNil l40 (.ret .ret [(.bool b41)])) (.fail)

noncomputable def T74k2 (a11 : Addr) : Ex → List Value → Pg :=
  fun e28 l29 => sw e28 .normal (asCons l29 fun v30 l31 => asBool v30 fun b32 => asNil l31 (bif b32 then (.join (.act (ld1 (aadd a11 1)) fun v33 => asInt .i64 v33 fun i34 => bif (i34 == 0) == false then (.act (ld1 (aadd a11 1)) fun v35 => asInt .i64 v35 fun i36 => .ret .normal [(.bool (i36 == 1))]) else (.ret .normal [(.bool true)])) (T74k1)) else (.ret .normal [(.bool false)]))) (.fail)

noncomputable def T74k3 (a11 : Addr) (i13 : Int) : Ex → List Value → Pg :=
  fun e14 l15 => sw e14 .normal (asCons l15 fun v16 l17 => asBool v16 fun b18 => asNil l17 (bif b18 then (.join (.act (ld1 (aadd a11 1)) fun v19 => asInt .i64 v19 fun i20 => bif (decide (i20 ≥ 0)) == true then (.act (ld1 (aadd a11 1)) fun v21 => asInt .i64 v21 fun i22 => .ret .normal [(.bool (decide (i22 ≤ 4611686018427387903)))]) else (.ret .normal [(.bool false)])) (T74k0)) else (.join (bif (i13 == 2) then (.ret .normal [(.bool (i13 == 2))]) else (.ret .normal [(.bool (i13 == 24))])) (T74k2 a11)))) (.fail)

noncomputable def T74k4 (a11 : Addr) : Ex → List Value → Pg :=
  fun e42 l43 => sw e42 .ret (asCons l43 fun v44 l45 => asBool v44 fun b46 => asNil l45 (.ret .ret [(.bool b46)])) (sw e42 .normal (asCons l43 fun v47 l48 => asBool v47 fun b49 => asNil l48 (.act (ld1 (aadd a11 1)) fun v50 => asInt .i64 v50 fun i51 => .ret .ret [(.bool (i51 == 0))])) (.fail))

/-- hindsight/tree.number -/
noncomputable def T74 (i0 : Int) (i1 : Int) (s2 : ByteArray) (s3 : ByteArray) (p4 : (Option Addr)) (n5 : Nat) (n6 : Nat) (i7 : Int) (i8 : Int) : Pg :=
  .act (newC [(.int .i64 i0), (.int .i64 i1), (.string s2), (.string s3), (.slice p4 n5 n6), (.int .i64 i7), (.int .i64 i8)]) fun v9 => asPtr v9 fun p10 => asSome p10 fun a11 => .act (ld1 (aadd a11 0)) fun v12 => asInt .i64 v12 fun i13 => .join (.join (bif (i13 == 1) then (.ret .normal [(.bool (i13 == 1))]) else (.ret .normal [(.bool (i13 == 23))])) (T74k3 a11 i13)) (T74k4 a11)
theorem T74_eq (i0 : Int) (i1 : Int) (s2 : ByteArray) (s3 : ByteArray) (p4 : (Option Addr)) (n5 : Nat) (n6 : Nat) (i7 : Int) (i8 : Int) : progOf PROG false 74 [(.agg #[(.int .i64 i0), (.int .i64 i1), (.string s2), (.string s3), (.slice p4 n5 n6), (.int .i64 i7), (.int .i64 i8)])] = T74 i0 i1 s2 s3 p4 n5 n6 i7 i8 := by kernel_rfl


noncomputable def T75k0 : Ex → List Value → Pg :=
  fun e18 l19 => sw e18 .normal (asCons l19 fun v20 l21 => asBool v20 fun b22 => asNil l21 (.ret .normal [(.bool b22)])) (.fail)

noncomputable def T75k1 : Ex → List Value → Pg :=
  fun e67 l68 => sw e67 .normal (asCons l68 fun v69 l70 => asBool v69 fun b71 => asNil l70 (.ret .normal [(.bool b71)])) (.fail)

noncomputable def T75k2 (s15 : ByteArray) : Ex → List Value → Pg :=
  fun e72 l73 => sw e72 .normal (asCons l73 fun v74 l75 => asBool v74 fun b76 => asNil l75 (.ret .normal [(.bool b76), (.bool (s15.toList == (bs []).toList))])) (.fail)

noncomputable def T75k3 (a11 : Addr) (i17 : Int) (s13 : ByteArray) (s15 : ByteArray) : Ex → List Value → Pg :=
  fun e50 l51 => sw e50 .normal (asCons l51 fun v52 l53 => asBool v52 fun b54 => asNil l53 (.join (bif b54 then (.act (ld1 (aadd a11 2)) fun v55 => asStr v55 fun s56 => .call 50 [(.string s56)] fun v57 => asBool v57 fun b58 => .ret .normal [(.bool b58)]) else (.join (bif (i17 == 14) then (.act (bdSl 1 5 [(.string (bs [43])), (.string (bs [45])), (.string (bs [42])), (.string (bs [60])), (.string (bs [61]))]) fun v59 => asSlice v59 fun p60 n61 n62 => .act (ld1 (aadd a11 2)) fun v63 => asStr v63 fun s64 => .call 52 [(.slice p60 n61 n62), (.string s64)] fun v65 => asBool v65 fun b66 => .ret .normal [(.bool b66)]) else (.ret .normal [(.bool (s13.toList == (bs []).toList))])) (T75k1))) (T75k2 s15))) (.fail)

noncomputable def T75k4 : Ex → List Value → Pg :=
  fun e77 l78 => sw e77 .normal (asCons l78 fun v79 l80 => asBool v79 fun b81 => asCons l80 fun v82 l83 => asBool v82 fun b84 => asNil l83 (.ret .normal [(.bool b84), (.bool b81)])) (.fail)

noncomputable def T75k5 (a11 : Addr) (s13 : ByteArray) (i17 : Int) (s15 : ByteArray) : Ex → List Value → Pg :=
  fun e41 l42 => sw e41 .normal (asCons l42 fun v43 l44 => asBool v43 fun b45 => asNil l44 (.join (bif b45 then (.act (ld1 (aadd a11 3)) fun v46 => asStr v46 fun s47 => .call 48 [(.string s47)] fun v48 => asBool v48 fun b49 => .ret .normal [(.bool (s13.toList == (bs []).toList)), (.bool b49)]) else (.join (bif (i17 == 5) then (.ret .normal [(.bool (i17 == 5))]) else (.ret .normal [(.bool (i17 == 26))])) (T75k3 a11 i17 s13 s15))) (T75k4))) (.fail)

noncomputable def T75k6 : Ex → List Value → Pg :=
  fun e85 l86 => sw e85 .normal (asCons l86 fun v87 l88 => asBool v87 fun b89 => asCons l88 fun v90 l91 => asBool v90 fun b92 => asNil l91 (.ret .normal [(.bool b89), (.bool b92)])) (.fail)

noncomputable def T75k7 : Ex → List Value → Pg :=
  fun e93 l94 => sw e93 .normal (asCons l94 fun v95 l96 => asBool v95 fun b97 => asCons l96 fun v98 l99 => asBool v98 fun b100 => asNil l99 (.ret .normal [(.bool b97), (.bool b100)])) (.fail)

noncomputable def T75k8 (a11 : Addr) (s15 : ByteArray) (i17 : Int) (s13 : ByteArray) : Ex → List Value → Pg :=
  fun e23 l24 => sw e23 .normal (asCons l24 fun v25 l26 => asBool v25 fun b27 => asNil l26 (.join (bif b27 then (.act (ld1 (aadd a11 2)) fun v28 => asStr v28 fun s29 => .call 48 [(.string s29)] fun v30 => asBool v30 fun b31 => .ret .normal [(.bool (s15.toList == (bs []).toList)), (.bool b31)]) else (.join (bif (i17 == 9) then (.act (ld1 (aadd a11 2)) fun v32 => asStr v32 fun s33 => .get fun h35 => .call 48 [(.string s33)] fun v34 => asBool v34 fun b36 => .act (ld1 (aadd a11 3)) fun v37 => grd (past (ld1 (aadd a11 3)) v37 [h35]) (asStr v37 fun s38 => .call 48 [(.string s38)] fun v39 => asBool v39 fun b40 => .ret .normal [(.bool b40), (.bool b36)])) else (.join (bif (i17 == 6) then (.ret .normal [(.bool (i17 == 6))]) else (.ret .normal [(.bool (i17 == 20))])) (T75k5 a11 s13 i17 s15))) (T75k6))) (T75k7))) (.fail)

noncomputable def T75k9 : Ex → List Value → Pg :=
  fun e101 l102 => sw e101 .normal (asCons l102 fun v103 l104 => asBool v103 fun b105 => asCons l104 fun v106 l107 => asBool v106 fun b108 => asNil l107 (.ret .ret [(.bool (b108 && b105))])) (.fail)

/-- hindsight/tree.texts -/
noncomputable def T75 (i0 : Int) (i1 : Int) (s2 : ByteArray) (s3 : ByteArray) (p4 : (Option Addr)) (n5 : Nat) (n6 : Nat) (i7 : Int) (i8 : Int) : Pg :=
  .act (newC [(.int .i64 i0), (.int .i64 i1), (.string s2), (.string s3), (.slice p4 n5 n6), (.int .i64 i7), (.int .i64 i8)]) fun v9 => asPtr v9 fun p10 => asSome p10 fun a11 => .act (ld1 (aadd a11 2)) fun v12 => asStr v12 fun s13 => .act (ld1 (aadd a11 3)) fun v14 => asStr v14 fun s15 => .act (ld1 (aadd a11 0)) fun v16 => asInt .i64 v16 fun i17 => .join (.join (bif (i17 == 4) then (.ret .normal [(.bool (i17 == 4))]) else (.join (bif (i17 == 8) then (.ret .normal [(.bool (i17 == 8))]) else (.ret .normal [(.bool (i17 == 22))])) (T75k0))) (T75k8 a11 s15 i17 s13)) (T75k9)
theorem T75_eq (i0 : Int) (i1 : Int) (s2 : ByteArray) (s3 : ByteArray) (p4 : (Option Addr)) (n5 : Nat) (n6 : Nat) (i7 : Int) (i8 : Int) : progOf PROG false 75 [(.agg #[(.int .i64 i0), (.int .i64 i1), (.string s2), (.string s3), (.slice p4 n5 n6), (.int .i64 i7), (.int .i64 i8)])] = T75 i0 i1 s2 s3 p4 n5 n6 i7 i8 := by kernel_rfl


noncomputable def T76k0 : Ex → List Value → Pg :=
  fun e6 l7 => sw e6 .normal (asCons l7 fun v8 l9 => asBool v8 fun b10 => asNil l9 (.ret .normal [(.bool b10)])) (.fail)

noncomputable def T76k1 : Ex → List Value → Pg :=
  fun e11 l12 => sw e11 .normal (asCons l12 fun v13 l14 => asBool v13 fun b15 => asNil l14 (.ret .normal [(.bool b15)])) (.fail)

noncomputable def T76k2 : Ex → List Value → Pg :=
  fun e16 l17 => sw e16 .normal (asCons l17 fun v18 l19 => asBool v18 fun b20 => asNil l19 (.ret .normal [(.bool b20)])) (.fail)

noncomputable def T76k3 : Ex → List Value → Pg :=
  fun e26 l27 => sw e26 .normal (asCons l27 fun v28 l29 => asBool v28 fun b30 => asNil l29 (.ret .normal [(.bool b30)])) (.fail)

noncomputable def T76k4 : Ex → List Value → Pg :=
  fun e31 l32 => sw e31 .normal (asCons l32 fun v33 l34 => asBool v33 fun b35 => asNil l34 (.ret .normal [(.bool b35)])) (.fail)

noncomputable def T76k5 : Ex → List Value → Pg :=
  fun e36 l37 => sw e36 .normal (asCons l37 fun v38 l39 => asBool v38 fun b40 => asNil l39 (.ret .normal [(.bool b40)])) (.fail)

noncomputable def T76k6 : Ex → List Value → Pg :=
  fun e41 l42 => sw e41 .normal (asCons l42 fun v43 l44 => asBool v43 fun b45 => asNil l44 (.ret .normal [(.bool b45)])) (.fail)

noncomputable def T76k7 : Ex → List Value → Pg :=
  fun e46 l47 => sw e46 .normal (asCons l47 fun v48 l49 => asBool v48 fun b50 => asNil l49 (.ret .normal [(.bool b50)])) (.fail)

noncomputable def T76k8 (i0 : Int) : Ex → List Value → Pg :=
  fun e51 l52 => sw e51 .normal (asCons l52 fun v53 l54 => asBool v53 fun b55 => asNil l54 (bif b55 then (.ret .ret [(.int .i64 2), (.int .i64 2)]) else (bif (i0 == 10) then (.ret .ret [(.int .i64 3), (.int .i64 3)]) else (.ret .normal [(.int .i64 0), (.int .i64 0)])))) (.fail)

noncomputable def T76k9 (i0 : Int) : Ex → List Value → Pg :=
  fun e21 l22 => sw e21 .normal (asCons l22 fun v23 l24 => asBool v23 fun b25 => asNil l24 (bif b25 then (.ret .ret [(.int .i64 1), (.int .i64 1)]) else (.join (bif (i0 == 7) then (.ret .normal [(.bool (i0 == 7))]) else (.join (bif (i0 == 8) then (.ret .normal [(.bool (i0 == 8))]) else (.join (bif (i0 == 9) then (.ret .normal [(.bool (i0 == 9))]) else (.join (bif (i0 == 12) then (.ret .normal [(.bool (i0 == 12))]) else (.join (bif (i0 == 13) then (.ret .normal [(.bool (i0 == 13))]) else (.join (bif (i0 == 14) then (.ret .normal [(.bool (i0 == 14))]) else (.ret .normal [(.bool (i0 == 20))])) (T76k3))) (T76k4))) (T76k5))) (T76k6))) (T76k7))) (T76k8 i0)))) (.fail)

noncomputable def T76k10 (i0 : Int) : Ex → List Value → Pg :=
  fun e1 l2 => sw e1 .normal (asCons l2 fun v3 l4 => asBool v3 fun b5 => asNil l4 (bif b5 then (.ret .ret [(.int .i64 3), (.int .i64 0)]) else (bif (i0 == 11) then (.ret .ret [(.int .i64 1000), (.int .i64 3)]) else (.join (bif (i0 == 6) then (.ret .normal [(.bool (i0 == 6))]) else (.join (bif (i0 == 15) then (.ret .normal [(.bool (i0 == 15))]) else (.join (bif (i0 == 16) then (.ret .normal [(.bool (i0 == 16))]) else (.join (bif (i0 == 17) then (.ret .normal [(.bool (i0 == 17))]) else (.ret .normal [(.bool (i0 == 19))])) (T76k0))) (T76k1))) (T76k2))) (T76k9 i0))))) (.fail)

noncomputable def T76k11 : Ex → List Value → Pg :=
  fun e56 l57 => sw e56 .ret (asCons l57 fun v58 l59 => asInt .i64 v58 fun i60 => asCons l59 fun v61 l62 => asInt .i64 v61 fun i63 => asNil l62 (.ret .ret [(.tuple #[(.int .i64 i63), (.int .i64 i60)])])) (sw e56 .normal (asCons l57 fun v64 l65 => asInt .i64 v64 fun i66 => asCons l65 fun v67 l68 => asInt .i64 v67 fun i69 => asNil l68 (.ret .ret [(.tuple #[(.int .i64 0), (.int .i64 0)])])) (.fail))

/-- hindsight/tree.kids -/
noncomputable def T76 (i0 : Int) : Pg :=
  .join (.join (bif (i0 == 5) then (.ret .normal [(.bool (i0 == 5))]) else (.ret .normal [(.bool (i0 == 26))])) (T76k10 i0)) (T76k11)
theorem T76_eq (i0 : Int) : progOf PROG false 76 [(.int .i64 i0)] = T76 i0 := by kernel_rfl


noncomputable def T77k0 : Ex → List Value → Pg :=
  fun e20 l21 => sw e20 .normal (asCons l21 fun v22 l23 => asBool v22 fun b24 => asNil l23 (.ret .ret [(.bool b24)])) (.fail)

/-- (*hindsight/source.Machine).here -/
noncomputable def T77 (p0 : (Option Addr)) : Pg :=
  .join (asSome p0 fun a1 => .act (ld1 (aadd a1 9)) fun v2 => asInt .i64 v2 fun i3 => bif (i3 == 0) == true then (asSome p0 fun a4 => .act (ld1 (aadd a4 11)) fun v5 => asBool v5 fun b6 => bif (!b6) == true then (asSome p0 fun a7 => .act (ld1 (aadd (aadd a7 0) 0)) fun v8 => asSlice v8 fun p9 n10 n11 => asSome p0 fun a12 => .act (ld1 (aadd a12 19)) fun v13 => asInt .i64 v13 fun i14 => asSome p9 fun a15 => grd ((decide (0 ≤ i14)) && (decide (i14 < ((n10 : Nat) : Int)))) (.act (ld1 (aadd (aadd a15 ((Int.toNat i14) * 7)) 0)) fun v16 => asInt .i64 v16 fun i17 => .call 94 [(.int .i64 i17)] fun v18 => asBool v18 fun b19 => .ret .normal [(.bool b19)])) else (.ret .normal [(.bool false)])) else (.ret .normal [(.bool false)])) (T77k0)
theorem T77_eq (p0 : (Option Addr)) : progOf PROG false 77 [(.pointer p0)] = T77 p0 := by kernel_rfl


noncomputable def T78k0 (a171 : Addr) (n133 : Nat) (p15 : (Option Addr)) (p132 : (Option Addr)) (n134 : Nat) (p0 : (Option Addr)) : Ex → List Value → Pg :=
  fun e362 l363 => sw e362 .ret (asNil l363 (.ret .ret [(.tuple #[])])) (sw e362 .normal (asNil l363 (.act (ld1 (aadd a171 4)) fun v364 => asSlice v364 fun p365 n366 n367 => bif (decide (((n133 : Nat) : Int) < ((n366 : Nat) : Int))) then (asSome p15 fun a368 => .act (ld1 (aadd a368 0)) fun v369 => asInt .i64 v369 fun i370 => asSome p15 fun a371 => .act (ld1 (aadd a371 1)) fun v372 => asPtr v372 fun p373 => asSome p15 fun a374 => .act (ld1 (aadd a374 3)) fun v375 => asPtr v375 fun p376 => asSome p15 fun a377 => .act (ld1 (aadd a377 4)) fun v378 => asPtr v378 fun p379 => .act (newC [(.int .i64 i370), (.pointer p373), (.slice p132 n133 n134), (.pointer p376), (.pointer p379)]) fun v380 => asPtr v380 fun p381 => asSome p381 fun a382 => asSome p0 fun a383 => .act (stC (aadd a383 21) [(.pointer (some a382))]) fun v384 => asTuple v384 fun l385 => asNil l385 (.act (ld1 (aadd a171 4)) fun v386 => asSlice v386 fun p387 n388 n389 => asSome p387 fun a390 => grd (decide (((n133 : Nat) : Int) < ((n388 : Nat) : Int))) (.act (ld1 (aadd a390 (n133 * 1))) fun v391 => asInt .i64 v391 fun i392 => asSome p15 fun a393 => .act (ld1 (aadd a393 1)) fun v394 => asPtr v394 fun p395 => .call 97 [(.pointer p0), (.int .i64 i392), (.pointer p395)] fun v396 => asTuple v396 fun l397 => asNil l397 (.ret .ret [(.tuple #[])])))) else (asSome p15 fun a398 => .act (ld1 (aadd a398 0)) fun v399 => asInt .i64 v399 fun i400 => .act (ldN 7 a171) fun v401 => asAgg v401 fun l402 => asCons l402 fun v403 l404 => asInt .i64 v403 fun i405 => asCons l404 fun v406 l407 => asInt .i64 v406 fun i408 => asCons l407 fun v409 l410 => asStr v409 fun s411 => asCons l410 fun v412 l413 => asStr v412 fun s414 => asCons l413 fun v415 l416 => asSlice v415 fun p417 n418 n419 => asCons l416 fun v420 l421 => asInt .i64 v420 fun i422 => asCons l421 fun v423 l424 => asInt .i64 v423 fun i425 => asNil l424 (.call 100 [(.pointer p0), (.int .i64 i400), (.agg #[(.int .i64 i405), (.int .i64 i408), (.string s411), (.string s414), (.slice p417 n418 n419), (.int .i64 i422), (.int .i64 i425)]), (.slice p132 n133 n134)] fun v426 => asTuple v426 fun l427 => asNil l427 (.ret .ret [(.tuple #[])]))))) (.fail))

/-- (*hindsight/source.Machine).returns -/
noncomputable def T78 (p0 : (Option Addr)) (i1 : Int) (i2 : Int) (s3 : ByteArray) (p4 : (Option Addr)) (n5 : Nat) (n6 : Nat) (i7 : Int) (p8 : (Option Addr)) (i9 : Int) : Pg :=
  .act (newC [(.int .i64 i1), (.int .i64 i2), (.string s3), (.slice p4 n5 n6), (.int .i64 i7), (.pointer p8), (.int .i64 i9)]) fun v10 => asPtr v10 fun p11 => asSome p11 fun a12 => asSome p0 fun a13 => .act (ld1 (aadd a13 21)) fun v14 => asPtr v14 fun p15 => bif (Option.isNone p15) then (.act (ldN 7 a12) fun v16 => asAgg v16 fun l17 => asCons l17 fun v18 l19 => asInt .i64 v18 fun i20 => asCons l19 fun v21 l22 => asInt .i64 v21 fun i23 => asCons l22 fun v24 l25 => asStr v24 fun s26 => asCons l25 fun v27 l28 => asSlice v27 fun p29 n30 n31 => asCons l28 fun v32 l33 => asInt .i64 v32 fun i34 => asCons l33 fun v35 l36 => asPtr v35 fun p37 => asCons l36 fun v38 l39 => asInt .i64 v38 fun i40 => asNil l39 (asSome p0 fun a41 => .act (stC (aadd a41 9) [(.int .i64 1)]) fun v42 => asTuple v42 fun l43 => asNil l43 (.get fun h47 => grd (chks [((ldN 7 a12), v16)] h47) (asSome p0 fun a44 => .act (stC (aadd a44 12) [(.int .i64 i20), (.int .i64 i23), (.string s26), (.slice p29 n30 n31), (.int .i64 i34), (.pointer p37), (.int .i64 i40)]) fun v45 => asTuple v45 fun l46 => asNil l46 (.ret .ret [(.tuple #[])]))))) else (asSome p15 fun a48 => .act (ld1 (aadd a48 4)) fun v49 => asPtr v49 fun p50 => asSome p0 fun a51 => .act (stC (aadd a51 21) [(.pointer p50)]) fun v52 => asTuple v52 fun l53 => asNil l53 (asSome p15 fun a54 => .act (ld1 (aadd a54 0)) fun v55 => asInt .i64 v55 fun i56 => bif (decide (i56 < 0)) then (asSome p15 fun a57 => .act (ld1 (aadd a57 3)) fun v58 => asPtr v58 fun p59 => asSome p0 fun a60 => .act (stC (aadd a60 22) [(.pointer p59)]) fun v61 => asTuple v61 fun l62 => asNil l62 (.act (ldN 7 a12) fun v63 => asAgg v63 fun l64 => asCons l64 fun v65 l66 => asInt .i64 v65 fun i67 => asCons l66 fun v68 l69 => asInt .i64 v68 fun i70 => asCons l69 fun v71 l72 => asStr v71 fun s73 => asCons l72 fun v74 l75 => asSlice v74 fun p76 n77 n78 => asCons l75 fun v79 l80 => asInt .i64 v79 fun i81 => asCons l80 fun v82 l83 => asPtr v82 fun p84 => asCons l83 fun v85 l86 => asInt .i64 v85 fun i87 => asNil l86 (.call 95 [(.pointer p0), (.agg #[(.int .i64 i67), (.int .i64 i70), (.string s73), (.slice p76 n77 n78), (.int .i64 i81), (.pointer p84), (.int .i64 i87)])] fun v88 => asTuple v88 fun l89 => asNil l89 (.ret .ret [(.tuple #[])])))) else (.get fun h90 => asSome p15 fun a91 => .act (ld1 (aadd a91 2)) fun v92 => asSlice v92 fun p93 n94 n95 => .act (ldN 7 a12) fun v96 => asAgg v96 fun l97 => asCons l97 fun v98 l99 => asInt .i64 v98 fun i100 => asCons l99 fun v101 l102 => asInt .i64 v101 fun i103 => asCons l102 fun v104 l105 => asStr v104 fun s106 => asCons l105 fun v107 l108 => asSlice v107 fun p109 n110 n111 => asCons l108 fun v112 l113 => asInt .i64 v112 fun i114 => asCons l113 fun v115 l116 => asPtr v115 fun p117 => asCons l116 fun v118 l119 => asInt .i64 v118 fun i120 => asNil l119 (.get fun h122 => grd (newN h90.n h122 []) (.act (bdSl 7 1 [(.int .i64 i100), (.int .i64 i103), (.string s106), (.slice p109 n110 n111), (.int .i64 i114), (.pointer p117), (.int .i64 i120)]) fun v121 => asSlice v121 fun p124 n125 n126 => .get fun h123 => .call 96 [(.slice p93 n94 n95)] fun v127 => asSlice v127 fun p128 n129 n130 => .get fun h430 => grd (chks [((ldN 7 a12), v96)] h430) (.get fun h429 => grd (chkO [(h122.n, (h123.get h122.n))] h429) (.act (apS 7 80 p128 n129 n130 p124 n125 n126) fun v131 => asSlice v131 fun p132 n133 n134 => asSome p0 fun a135 => .act (ld1 (aadd (aadd a135 0) 0)) fun v136 => asSlice v136 fun p137 n138 n139 => asSome p15 fun a140 => .act (ld1 (aadd a140 0)) fun v141 => asInt .i64 v141 fun i142 => asSome p137 fun a143 => grd ((decide (0 ≤ i142)) && (decide (i142 < ((n138 : Nat) : Int)))) (.act (ldN 7 (aadd a143 ((Int.toNat i142) * 7))) fun v144 => asAgg v144 fun l145 => asCons l145 fun v146 l147 => asInt .i64 v146 fun i148 => asCons l147 fun v149 l150 => asInt .i64 v149 fun i151 => asCons l150 fun v152 l153 => asStr v152 fun s154 => asCons l153 fun v155 l156 => asStr v155 fun s157 => asCons l156 fun v158 l159 => asSlice v158 fun p160 n161 n162 => asCons l159 fun v163 l164 => asInt .i64 v163 fun i165 => asCons l164 fun v166 l167 => asInt .i64 v166 fun i168 => asNil l167 (.act (newC [(.int .i64 0), (.int .i64 0), (.string (bs [])), (.string (bs [])), (.slice none 0 0), (.int .i64 0), (.int .i64 0)]) fun v169 => asPtr v169 fun p170 => asSome p170 fun a171 => .get fun h428 => grd (chks [((ldN 7 (aadd a143 ((Int.toNat i142) * 7))), v144), ((ld1 (aadd a140 0)), v141), ((ld1 (aadd (aadd a135 0) 0)), v136)] h428) (.act (stC a171 [(.int .i64 i148), (.int .i64 i151), (.string s154), (.string s157), (.slice p160 n161 n162), (.int .i64 i165), (.int .i64 i168)]) fun v172 => asTuple v172 fun l173 => asNil l173 (.act (ld1 (aadd a171 0)) fun v174 => asInt .i64 v174 fun i175 => .join (bif (i175 == 8) then (.act (ld1 (aadd a171 4)) fun v176 => asSlice v176 fun p177 n178 n179 => asSome p177 fun a180 => grd (decide (1 < ((n178 : Nat) : Int))) (.act (ld1 (aadd a180 1)) fun v181 => asInt .i64 v181 fun i182 => .act (ld1 (aadd a171 2)) fun v183 => asStr v183 fun s184 => .act (ldN 7 a12) fun v185 => asAgg v185 fun l186 => asCons l186 fun v187 l188 => asInt .i64 v187 fun i189 => asCons l188 fun v190 l191 => asInt .i64 v190 fun i192 => asCons l191 fun v193 l194 => asStr v193 fun s195 => asCons l194 fun v196 l197 => asSlice v196 fun p198 n199 n200 => asCons l197 fun v201 l202 => asInt .i64 v201 fun i203 => asCons l202 fun v204 l205 => asPtr v204 fun p206 => asCons l205 fun v207 l208 => asInt .i64 v207 fun i209 => asNil l208 (asSome p15 fun a210 => .act (ld1 (aadd a210 1)) fun v211 => asPtr v211 fun p212 => .act (newC [(.string s184), (.int .i64 i189), (.int .i64 i192), (.string s195), (.slice p198 n199 n200), (.int .i64 i203), (.pointer p206), (.int .i64 i209), (.pointer p212)]) fun v213 => asPtr v213 fun p214 => asSome p214 fun a215 => .get fun h218 => grd (chks [((ld1 (aadd a180 1)), v181), ((ld1 (aadd a171 4)), v176)] h218) (.call 97 [(.pointer p0), (.int .i64 i182), (.pointer (some a215))] fun v216 => asTuple v216 fun l217 => asNil l217 (.ret .ret []))))) else (bif (i175 == 10) then (.act (ldN 7 a171) fun v219 => asAgg v219 fun l220 => asCons l220 fun v221 l222 => asInt .i64 v221 fun i223 => asCons l222 fun v224 l225 => asInt .i64 v224 fun i226 => asCons l225 fun v227 l228 => asStr v227 fun s229 => asCons l228 fun v230 l231 => asStr v230 fun s232 => asCons l231 fun v233 l234 => asSlice v233 fun p235 n236 n237 => asCons l234 fun v238 l239 => asInt .i64 v238 fun i240 => asCons l239 fun v241 l242 => asInt .i64 v241 fun i243 => asNil l242 (.act (ldN 7 a12) fun v244 => asAgg v244 fun l245 => asCons l245 fun v246 l247 => asInt .i64 v246 fun i248 => asCons l247 fun v249 l250 => asInt .i64 v249 fun i251 => asCons l250 fun v252 l253 => asStr v252 fun s254 => asCons l253 fun v255 l256 => asSlice v255 fun p257 n258 n259 => asCons l256 fun v260 l261 => asInt .i64 v260 fun i262 => asCons l261 fun v263 l264 => asPtr v263 fun p265 => asCons l264 fun v266 l267 => asInt .i64 v266 fun i268 => asNil l267 (.call 98 [(.pointer p0), (.agg #[(.int .i64 i223), (.int .i64 i226), (.string s229), (.string s232), (.slice p235 n236 n237), (.int .i64 i240), (.int .i64 i243)]), (.pointer p15), (.agg #[(.int .i64 i248), (.int .i64 i251), (.string s254), (.slice p257 n258 n259), (.int .i64 i262), (.pointer p265), (.int .i64 i268)])] fun v269 => asTuple v269 fun l270 => asNil l270 (.ret .ret [])))) else (bif (i175 == 11) then (.act (ldN 7 a171) fun v271 => asAgg v271 fun l272 => asCons l272 fun v273 l274 => asInt .i64 v273 fun i275 => asCons l274 fun v276 l277 => asInt .i64 v276 fun i278 => asCons l277 fun v279 l280 => asStr v279 fun s281 => asCons l280 fun v282 l283 => asStr v282 fun s284 => asCons l283 fun v285 l286 => asSlice v285 fun p287 n288 n289 => asCons l286 fun v290 l291 => asInt .i64 v290 fun i292 => asCons l291 fun v293 l294 => asInt .i64 v293 fun i295 => asNil l294 (.act (ldN 7 a12) fun v296 => asAgg v296 fun l297 => asCons l297 fun v298 l299 => asInt .i64 v298 fun i300 => asCons l299 fun v301 l302 => asInt .i64 v301 fun i303 => asCons l302 fun v304 l305 => asStr v304 fun s306 => asCons l305 fun v307 l308 => asSlice v307 fun p309 n310 n311 => asCons l308 fun v312 l313 => asInt .i64 v312 fun i314 => asCons l313 fun v315 l316 => asPtr v315 fun p317 => asCons l316 fun v318 l319 => asInt .i64 v318 fun i320 => asNil l319 (.call 99 [(.pointer p0), (.agg #[(.int .i64 i275), (.int .i64 i278), (.string s281), (.string s284), (.slice p287 n288 n289), (.int .i64 i292), (.int .i64 i295)]), (.pointer p15), (.agg #[(.int .i64 i300), (.int .i64 i303), (.string s306), (.slice p309 n310 n311), (.int .i64 i314), (.pointer p317), (.int .i64 i320)])] fun v321 => asTuple v321 fun l322 => asNil l322 (.ret .ret [])))) else (bif (i175 == 12) then (.act (ld1 (aadd a171 4)) fun v323 => asSlice v323 fun p324 n325 n326 => asSome p324 fun a327 => grd (decide (1 < ((n325 : Nat) : Int))) (.act (ld1 (aadd a327 1)) fun v328 => asInt .i64 v328 fun i329 => asSome p15 fun a330 => .act (ld1 (aadd a330 1)) fun v331 => asPtr v331 fun p332 => .call 97 [(.pointer p0), (.int .i64 i329), (.pointer p332)] fun v333 => asTuple v333 fun l334 => asNil l334 (.ret .ret []))) else (bif (i175 == 20) then (.act (ldN 7 a12) fun v335 => asAgg v335 fun l336 => asCons l336 fun v337 l338 => asInt .i64 v337 fun i339 => asCons l338 fun v340 l341 => asInt .i64 v340 fun i342 => asCons l341 fun v343 l344 => asStr v343 fun s345 => asCons l344 fun v346 l347 => asSlice v346 fun p348 n349 n350 => asCons l347 fun v351 l352 => asInt .i64 v351 fun i353 => asCons l352 fun v354 l355 => asPtr v354 fun p356 => asCons l355 fun v357 l358 => asInt .i64 v357 fun i359 => asNil l358 (.call 95 [(.pointer p0), (.agg #[(.int .i64 i339), (.int .i64 i342), (.string s345), (.slice p348 n349 n350), (.int .i64 i353), (.pointer p356), (.int .i64 i359)])] fun v360 => asTuple v360 fun l361 => asNil l361 (.ret .ret []))) else (.ret .normal [])))))) (T78k0 a171 n133 p15 p132 n134 p0))))))))))))
theorem T78_eq (p0 : (Option Addr)) (i1 : Int) (i2 : Int) (s3 : ByteArray) (p4 : (Option Addr)) (n5 : Nat) (n6 : Nat) (i7 : Int) (p8 : (Option Addr)) (i9 : Int) : progOf PROG false 78 [(.pointer p0), (.agg #[(.int .i64 i1), (.int .i64 i2), (.string s3), (.slice p4 n5 n6), (.int .i64 i7), (.pointer p8), (.int .i64 i9)])] = T78 p0 i1 i2 s3 p4 n5 n6 i7 p8 i9 := by kernel_rfl


noncomputable def T79k0 : Ex → List Value → Pg :=
  fun e279 l280 => sw e279 .normal (asNil l280 (.ret .normal [])) (sw e279 .ret (asNil l280 (.ret .ret [])) (.fail))

noncomputable def T79k1 : Ex → List Value → Pg :=
  fun e281 l282 => sw e281 .normal (asNil l282 (.ret .normal [])) (sw e281 .ret (asNil l282 (.ret .ret [])) (.fail))

noncomputable def T79k2 : Ex → List Value → Pg :=
  fun e283 l284 => sw e283 .normal (asNil l284 (.ret .normal [])) (sw e283 .ret (asNil l284 (.ret .ret [])) (.fail))

noncomputable def T79k3 : Ex → List Value → Pg :=
  fun e285 l286 => sw e285 .ret (asNil l286 (.ret .ret [])) (sw e285 .normal (asNil l286 (.ret .normal [])) (.fail))

noncomputable def T79k4 : Ex → List Value → Pg :=
  fun e287 l288 => sw e287 .normal (asNil l288 (.ret .normal [])) (sw e287 .ret (asNil l288 (.ret .ret [])) (.fail))

noncomputable def T79k5 : Ex → List Value → Pg :=
  fun e289 l290 => sw e289 .normal (asNil l290 (.ret .normal [])) (sw e289 .ret (asNil l290 (.ret .ret [])) (.fail))

noncomputable def T79k6 : Ex → List Value → Pg :=
  fun e291 l292 => sw e291 .normal (asNil l292 (.ret .normal [])) (sw e291 .ret (asNil l292 (.ret .ret [])) (.fail))

noncomputable def T79k7 : Ex → List Value → Pg :=
  fun e293 l294 => sw e293 .normal (asNil l294 (.ret .ret [(.tuple #[])])) (sw e293 .ret (asNil l294 (.ret .ret [(.tuple #[])])) (.fail))

/-- (*hindsight/source.Machine).begin -/
noncomputable def T79 (p0 : (Option Addr)) : Pg :=
  asSome p0 fun a1 => .act (ld1 (aadd (aadd a1 0) 0)) fun v2 => asSlice v2 fun p3 n4 n5 => asSome p0 fun a6 => .act (ld1 (aadd a6 19)) fun v7 => asInt .i64 v7 fun i8 => asSome p3 fun a9 => grd ((decide (0 ≤ i8)) && (decide (i8 < ((n4 : Nat) : Int)))) (.act (ldN 7 (aadd a9 ((Int.toNat i8) * 7))) fun v10 => asAgg v10 fun l11 => asCons l11 fun v12 l13 => asInt .i64 v12 fun i14 => asCons l13 fun v15 l16 => asInt .i64 v15 fun i17 => asCons l16 fun v18 l19 => asStr v18 fun s20 => asCons l19 fun v21 l22 => asStr v21 fun s23 => asCons l22 fun v24 l25 => asSlice v24 fun p26 n27 n28 => asCons l25 fun v29 l30 => asInt .i64 v29 fun i31 => asCons l30 fun v32 l33 => asInt .i64 v32 fun i34 => asNil l33 (.act (newC [(.int .i64 0), (.int .i64 0), (.string (bs [])), (.string (bs [])), (.slice none 0 0), (.int .i64 0), (.int .i64 0)]) fun v35 => asPtr v35 fun p36 => asSome p36 fun a37 => .get fun h295 => grd (chks [((ldN 7 (aadd a9 ((Int.toNat i8) * 7))), v10), ((ld1 (aadd a6 19)), v7), ((ld1 (aadd (aadd a1 0) 0)), v2)] h295) (.act (stC a37 [(.int .i64 i14), (.int .i64 i17), (.string s20), (.string s23), (.slice p26 n27 n28), (.int .i64 i31), (.int .i64 i34)]) fun v38 => asTuple v38 fun l39 => asNil l39 (.act (ld1 (aadd a37 0)) fun v40 => asInt .i64 v40 fun i41 => .join (.join (bif (i41 == 1) then (.act (ld1 (aadd a37 1)) fun v42 => asInt .i64 v42 fun i43 => .call 101 [(.int .i64 i43)] fun v44 => asAgg v44 fun l45 => asCons l45 fun v46 l47 => asInt .i64 v46 fun i48 => asCons l47 fun v49 l50 => asInt .i64 v49 fun i51 => asCons l50 fun v52 l53 => asStr v52 fun s54 => asCons l53 fun v55 l56 => asSlice v55 fun p57 n58 n59 => asCons l56 fun v60 l61 => asInt .i64 v60 fun i62 => asCons l61 fun v63 l64 => asPtr v63 fun p65 => asCons l64 fun v66 l67 => asInt .i64 v66 fun i68 => asNil l67 (.call 78 [(.pointer p0), (.agg #[(.int .i64 i48), (.int .i64 i51), (.string s54), (.slice p57 n58 n59), (.int .i64 i62), (.pointer p65), (.int .i64 i68)])] fun v69 => asTuple v69 fun l70 => asNil l70 (.ret .normal []))) else (.join (bif (i41 == 2) then (.act (ld1 (aadd a37 1)) fun v71 => asInt .i64 v71 fun i72 => .call 78 [(.pointer p0), (.agg #[(.int .i64 2), (.int .i64 i72), (.string (bs [])), (.slice none 0 0), (.int .i64 0), (.pointer none), (.int .i64 0)])] fun v73 => asTuple v73 fun l74 => asNil l74 (.ret .normal [])) else (.join (bif (i41 == 3) then (.call 102 [] fun v75 => asAgg v75 fun l76 => asCons l76 fun v77 l78 => asInt .i64 v77 fun i79 => asCons l78 fun v80 l81 => asInt .i64 v80 fun i82 => asCons l81 fun v83 l84 => asStr v83 fun s85 => asCons l84 fun v86 l87 => asSlice v86 fun p88 n89 n90 => asCons l87 fun v91 l92 => asInt .i64 v91 fun i93 => asCons l92 fun v94 l95 => asPtr v94 fun p96 => asCons l95 fun v97 l98 => asInt .i64 v97 fun i99 => asNil l98 (.call 78 [(.pointer p0), (.agg #[(.int .i64 i79), (.int .i64 i82), (.string s85), (.slice p88 n89 n90), (.int .i64 i93), (.pointer p96), (.int .i64 i99)])] fun v100 => asTuple v100 fun l101 => asNil l101 (.ret .normal []))) else (.join (bif (i41 == 4) then (.get fun h102 => asSome p0 fun a103 => .act (ld1 (aadd a103 20)) fun v104 => asPtr v104 fun p105 => .act (ld1 (aadd a37 2)) fun v106 => asStr v106 fun s107 => .get fun h109 => grd (newN h102.n h109 []) (.act (newC [(.int .i64 0), (.int .i64 0), (.string (bs [])), (.slice none 0 0), (.int .i64 0), (.pointer none), (.int .i64 0)]) fun v108 => asPtr v108 fun p111 => asSome p111 fun a112 => .get fun h110 => .call 103 [(.pointer p105), (.string s107)] fun v113 => asTuple v113 fun l114 => asCons l114 fun v115 l116 => asAgg v115 fun l117 => asCons l117 fun v118 l119 => asInt .i64 v118 fun i120 => asCons l119 fun v121 l122 => asInt .i64 v121 fun i123 => asCons l122 fun v124 l125 => asStr v124 fun s126 => asCons l125 fun v127 l128 => asSlice v127 fun p129 n130 n131 => asCons l128 fun v132 l133 => asInt .i64 v132 fun i134 => asCons l133 fun v135 l136 => asPtr v135 fun p137 => asCons l136 fun v138 l139 => asInt .i64 v138 fun i140 => asNil l139 (asCons l116 fun v141 l142 => asBool v141 fun b143 => asNil l142 (.get fun h175 => grd (chkO [(h109.n, (h110.get h109.n))] h175) (.act (stC a112 [(.int .i64 i120), (.int .i64 i123), (.string s126), (.slice p129 n130 n131), (.int .i64 i134), (.pointer p137), (.int .i64 i140)]) fun v144 => asTuple v144 fun l145 => asNil l145 (bif (!b143) then (.call 104 [(.pointer p0)] fun v146 => asTuple v146 fun l147 => asNil l147 (.ret .ret [])) else (.act (ldN 7 a112) fun v148 => asAgg v148 fun l149 => asCons l149 fun v150 l151 => asInt .i64 v150 fun i152 => asCons l151 fun v153 l154 => asInt .i64 v153 fun i155 => asCons l154 fun v156 l157 => asStr v156 fun s158 => asCons l157 fun v159 l160 => asSlice v159 fun p161 n162 n163 => asCons l160 fun v164 l165 => asInt .i64 v164 fun i166 => asCons l165 fun v167 l168 => asPtr v167 fun p169 => asCons l168 fun v170 l171 => asInt .i64 v170 fun i172 => asNil l171 (.call 78 [(.pointer p0), (.agg #[(.int .i64 i152), (.int .i64 i155), (.string s158), (.slice p161 n162 n163), (.int .i64 i166), (.pointer p169), (.int .i64 i172)])] fun v173 => asTuple v173 fun l174 => asNil l174 (.ret .normal []))))))))) else (.join (bif (i41 == 6) then (asSome p0 fun a176 => .act (ld1 (aadd a176 19)) fun v177 => asInt .i64 v177 fun i178 => asSome p0 fun a179 => .act (ld1 (aadd a179 20)) fun v180 => asPtr v180 fun p181 => .call 78 [(.pointer p0), (.agg #[(.int .i64 5), (.int .i64 0), (.string (bs [])), (.slice none 0 0), (.int .i64 i178), (.pointer p181), (.int .i64 0)])] fun v182 => asTuple v182 fun l183 => asNil l183 (.ret .normal [])) else (.join (bif (i41 == 9) then (asSome p0 fun a184 => .act (ld1 (aadd a184 19)) fun v185 => asInt .i64 v185 fun i186 => asSome p0 fun a187 => .act (ld1 (aadd a187 20)) fun v188 => asPtr v188 fun p189 => .act (newC [(.int .i64 0), (.int .i64 0), (.string (bs [])), (.slice none 0 0), (.int .i64 0), (.pointer none), (.int .i64 0)]) fun v190 => asPtr v190 fun p191 => asSome p191 fun a192 => .get fun h238 => grd (chks [((ld1 (aadd a187 20)), v188), ((ld1 (aadd a184 19)), v185)] h238) (.act (stC a192 [(.int .i64 5), (.int .i64 0), (.string (bs [])), (.slice none 0 0), (.int .i64 i186), (.pointer p189), (.int .i64 0)]) fun v193 => asTuple v193 fun l194 => asNil l194 (.act (ld1 (aadd a37 4)) fun v195 => asSlice v195 fun p196 n197 n198 => asSome p196 fun a199 => grd (decide (1 < ((n197 : Nat) : Int))) (.act (ld1 (aadd a199 1)) fun v200 => asInt .i64 v200 fun i201 => .act (ld1 (aadd a37 2)) fun v202 => asStr v202 fun s203 => .act (ldN 7 a192) fun v204 => asAgg v204 fun l205 => asCons l205 fun v206 l207 => asInt .i64 v206 fun i208 => asCons l207 fun v209 l210 => asInt .i64 v209 fun i211 => asCons l210 fun v212 l213 => asStr v212 fun s214 => asCons l213 fun v215 l216 => asSlice v215 fun p217 n218 n219 => asCons l216 fun v220 l221 => asInt .i64 v220 fun i222 => asCons l221 fun v223 l224 => asPtr v223 fun p225 => asCons l224 fun v226 l227 => asInt .i64 v226 fun i228 => asNil l227 (asSome p0 fun a229 => .act (ld1 (aadd a229 20)) fun v230 => asPtr v230 fun p231 => .act (newC [(.string s203), (.int .i64 i208), (.int .i64 i211), (.string s214), (.slice p217 n218 n219), (.int .i64 i222), (.pointer p225), (.int .i64 i228), (.pointer p231)]) fun v232 => asPtr v232 fun p233 => asSome p233 fun a234 => .get fun h237 => grd (chks [((ld1 (aadd a199 1)), v200), ((ld1 (aadd a37 4)), v195)] h237) (.call 97 [(.pointer p0), (.int .i64 i201), (.pointer (some a234))] fun v235 => asTuple v235 fun l236 => asNil l236 (.ret .normal []))))))) else (.join (bif (i41 == 18) then (.call 105 [(.pointer p0)] fun v239 => asTuple v239 fun l240 => asNil l240 (.ret .normal [])) else (.act (ld1 (aadd a37 4)) fun v241 => asSlice v241 fun p242 n243 n244 => bif (((n243 : Nat) : Int) == 0) then (.act (ld1 (aadd a37 2)) fun v245 => asStr v245 fun s246 => .call 78 [(.pointer p0), (.agg #[(.int .i64 4), (.int .i64 0), (.string s246), (.slice none 0 0), (.int .i64 0), (.pointer none), (.int .i64 0)])] fun v247 => asTuple v247 fun l248 => asNil l248 (.ret .ret [])) else (asSome p0 fun a249 => .act (ld1 (aadd a249 19)) fun v250 => asInt .i64 v250 fun i251 => asSome p0 fun a252 => .act (ld1 (aadd a252 20)) fun v253 => asPtr v253 fun p254 => asSome p0 fun a255 => .act (ld1 (aadd a255 22)) fun v256 => asPtr v256 fun p257 => asSome p0 fun a258 => .act (ld1 (aadd a258 21)) fun v259 => asPtr v259 fun p260 => .act (newC [(.int .i64 i251), (.pointer p254), (.slice none 0 0), (.pointer p257), (.pointer p260)]) fun v261 => asPtr v261 fun p262 => asSome p262 fun a263 => asSome p0 fun a264 => .act (stC (aadd a264 21) [(.pointer (some a263))]) fun v265 => asTuple v265 fun l266 => asNil l266 (.act (ld1 (aadd a37 4)) fun v267 => asSlice v267 fun p268 n269 n270 => asSome p268 fun a271 => grd (decide (0 < ((n269 : Nat) : Int))) (.act (ld1 (aadd a271 0)) fun v272 => asInt .i64 v272 fun i273 => asSome p0 fun a274 => .act (ld1 (aadd a274 20)) fun v275 => asPtr v275 fun p276 => .call 97 [(.pointer p0), (.int .i64 i273), (.pointer p276)] fun v277 => asTuple v277 fun l278 => asNil l278 (.ret .normal [])))))) (T79k0))) (T79k1))) (T79k2))) (T79k3))) (T79k4))) (T79k5))) (T79k6)) (T79k7)))))
theorem T79_eq (p0 : (Option Addr)) : progOf PROG false 79 [(.pointer p0)] = T79 p0 := by kernel_rfl


noncomputable def T81k0 : Ex → List Value → Pg :=
  fun e13 l14 => sw e13 .ret (asCons l14 fun v15 l16 => asInt .i64 v15 fun i17 => asNil l16 (.ret .ret [(.int .i64 i17)])) (sw e13 .normal (asCons l14 fun v18 l19 => asInt .i64 v18 fun i20 => asNil l19 (.ret .normal [(.int .i64 i20)])) (.fail))

noncomputable def T81b0 (a3 : Addr) : List Value → Pg :=
  fun l4 => asCons l4 fun v5 l6 => asInt .i64 v5 fun i7 => asNil l6 (.act (nxt (some a3)) fun v8 => asNx v8 (fun i9 i10 => .join (.call 61 [(.int .i32 i10)] fun v11 => asInt .i64 v11 fun i12 => bif ((i12 != 1) && (i12 != 2)) then (.ret .ret [(.int .i64 i9)]) else (.ret .normal [(.int .i64 i7)])) (T81k0)) (.ret (.exit 0) [(.int .i64 i7)]))

noncomputable def T81k1 (s0 : ByteArray) : Ex → List Value → Pg :=
  fun e21 l22 => sw e21 (.exit 0) (asCons l22 fun v23 l24 => asInt .i64 v23 fun i25 => asNil l24 (.ret .ret [(.int .i64 ((s0.size : Nat) : Int))])) (sw e21 .ret (asCons l22 fun v26 l27 => asInt .i64 v26 fun i28 => asNil l27 (.ret .ret [(.int .i64 i28)])) (.fail))

/-- hindsight/hindsightref1.tail -/
noncomputable def T81 (s0 : ByteArray) : Pg :=
  .act (rng s0) fun v1 => asPtr v1 fun p2 => asSome p2 fun a3 => .loop [(.int .i64 0)] (T81b0 a3) (T81k1 s0)
theorem T81_eq (s0 : ByteArray) : progOf PROG false 81 [(.string s0)] = T81 s0 := by kernel_rfl


noncomputable def T83k0 (i8 : Int) : Ex → List Value → Pg :=
  fun e15 l16 => sw e15 .ret (asCons l16 fun v17 l18 => asBool v17 fun b19 => asNil l18 (.ret .ret [(.int .i64 i8), (.bool b19)])) (sw e15 .normal (asCons l16 fun v20 l21 => asBool v20 fun b22 => asNil l21 (.ret .normal [(.int .i64 (wi64 (i8 + 1))), (.bool b22)])) (.fail))

noncomputable def T83b0 (n3 : Nat) (p2 : (Option Addr)) (s0 : ByteArray) : List Value → Pg :=
  fun l5 => asCons l5 fun v6 l7 => asInt .i64 v6 fun i8 => asCons l7 fun v9 l10 => asBool v9 fun b11 => asNil l10 (bif (decide (i8 < ((n3 : Nat) : Int))) then (.join (asSome p2 fun a12 => grd ((decide (0 ≤ i8)) && (decide (i8 < ((n3 : Nat) : Int)))) (.act (ld1 (aadd a12 ((Int.toNat i8) * 1))) fun v13 => asStr v13 fun s14 => bif (s14.toList == s0.toList) then (.ret .ret [(.bool true)]) else (.ret .normal [(.bool b11)]))) (T83k0 i8)) else (.ret (.exit 0) [(.int .i64 i8), (.bool b11)]))

noncomputable def T83k1 : Ex → List Value → Pg :=
  fun e23 l24 => sw e23 (.exit 0) (asCons l24 fun v25 l26 => asInt .i64 v25 fun i27 => asCons l26 fun v28 l29 => asBool v28 fun b30 => asNil l29 (.ret .ret [(.bool false)])) (sw e23 .ret (asCons l24 fun v31 l32 => asInt .i64 v31 fun i33 => asCons l32 fun v34 l35 => asBool v34 fun b36 => asNil l35 (.ret .ret [(.bool b36)])) (.fail))

/-- hindsight/hindsightref1.Key -/
noncomputable def T83 (s0 : ByteArray) : Pg :=
  .act (bdSl 1 19 [(.string (bs [116, 121, 112, 101])), (.string (bs [111, 102])), (.string (bs [108, 101, 116])), (.string (bs [114, 101, 99])), (.string (bs [105, 110])), (.string (bs [102, 117, 110])), (.string (bs [105, 102])), (.string (bs [116, 104, 101, 110])), (.string (bs [101, 108, 115, 101])), (.string (bs [109, 97, 116, 99, 104])), (.string (bs [119, 105, 116, 104])), (.string (bs [101, 110, 100])), (.string (bs [114, 101, 102])), (.string (bs [112, 114, 105, 110, 116])), (.string (bs [114, 101, 97, 100])), (.string (bs [114, 97, 105, 115, 101])), (.string (bs [116, 114, 121])), (.string (bs [116, 114, 117, 101])), (.string (bs [102, 97, 108, 115, 101]))]) fun v1 => asSlice v1 fun p2 n3 n4 => .loop [(.int .i64 0), (.bool false)] (T83b0 n3 p2 s0) (T83k1)
theorem T83_eq (s0 : ByteArray) : progOf PROG false 83 [(.string s0)] = T83 s0 := by kernel_rfl


noncomputable def T84k0 : Ex → List Value → Pg :=
  fun e28 l29 => sw e28 .normal (asCons l29 fun v30 l31 => asBool v30 fun b32 => asNil l31 (.ret .ret [(.bool b32)])) (.fail)

/-- (*hindsight/hindsightref3.reader).is -/
noncomputable def T84 (p0 : (Option Addr)) (s1 : ByteArray) : Pg :=
  .call 45 [(.pointer p0)] fun v2 => asAgg v2 fun l3 => asCons l3 fun v4 l5 => asInt .i64 v4 fun i6 => asCons l5 fun v7 l8 => asStr v7 fun s9 => asCons l8 fun v10 l11 => asInt .i64 v10 fun i12 => asCons l11 fun v13 l14 => asInt .i64 v13 fun i15 => asNil l14 (.act (newC [(.int .i64 0), (.string (bs [])), (.int .i64 0), (.int .i64 0)]) fun v16 => asPtr v16 fun p17 => asSome p17 fun a18 => .act (stC a18 [(.int .i64 i6), (.string s9), (.int .i64 i12), (.int .i64 i15)]) fun v19 => asTuple v19 fun l20 => asNil l20 (.join (asSome p0 fun a21 => .act (ld1 (aadd a21 3)) fun v22 => asBool v22 fun b23 => bif (!b23) == true then (.act (ld1 (aadd a18 0)) fun v24 => asInt .i64 v24 fun i25 => bif (decide (i25 > 3)) == true then (.act (ld1 (aadd a18 1)) fun v26 => asStr v26 fun s27 => .ret .normal [(.bool (s27.toList == s1.toList))]) else (.ret .normal [(.bool false)])) else (.ret .normal [(.bool false)])) (T84k0)))
theorem T84_eq (p0 : (Option Addr)) (s1 : ByteArray) : progOf PROG false 84 [(.pointer p0), (.string s1)] = T84 p0 s1 := by kernel_rfl


/-- (*hindsight/hindsightref3.reader).cmp -/
noncomputable def T85 (p0 : (Option Addr)) : Pg :=
  .call 107 [(.pointer p0)] fun v1 => asPtr v1 fun p2 => .call 64 [(.pointer p0), (.string (bs [60]))] fun v3 => asBool v3 fun b4 => bif b4 then (.call 107 [(.pointer p0)] fun v5 => asPtr v5 fun p6 => .call 68 [(.int .i64 14), (.string (bs [60])), (.pointer p2), (.pointer p6)] fun v7 => asPtr v7 fun p8 => .ret .ret [(.pointer p8)]) else (.call 64 [(.pointer p0), (.string (bs [61]))] fun v9 => asBool v9 fun b10 => bif b10 then (.call 107 [(.pointer p0)] fun v11 => asPtr v11 fun p12 => .call 68 [(.int .i64 14), (.string (bs [61])), (.pointer p2), (.pointer p12)] fun v13 => asPtr v13 fun p14 => .ret .ret [(.pointer p14)]) else (.ret .ret [(.pointer p2)]))
theorem T85_eq (p0 : (Option Addr)) : progOf PROG false 85 [(.pointer p0)] = T85 p0 := by kernel_rfl


/-- hindsight/hindsightref3.variable -/
noncomputable def T86 (s0 : ByteArray) : Pg :=
  .call 108 [(.string s0)] fun v1 => asBool v1 fun b2 => .ret .ret [(.bool (b2 && (!(s0.toList == (bs [95]).toList))))]
theorem T86_eq (s0 : ByteArray) : progOf PROG false 86 [(.string s0)] = T86 s0 := by kernel_rfl


noncomputable def T87k0 : Ex → List Value → Pg :=
  fun e20 l21 => sw e20 .normal (asCons l21 fun v22 l23 => asBool v22 fun b24 => asNil l23 (.ret .ret [(.bool b24)])) (.fail)

/-- hindsight/hindsightref1.Cons -/
noncomputable def T87 (s0 : ByteArray) : Pg :=
  .call 42 [(.string s0)] fun v1 => asTuple v1 fun l2 => asCons l2 fun v3 l4 => asSlice v3 fun p5 n6 n7 => asCons l4 fun v8 l9 => asInt .i64 v8 fun i10 => asCons l9 fun v11 l12 => asInt .i64 v11 fun i13 => asNil l12 (.join (bif (i10 == 0) == true then (bif (((n6 : Nat) : Int) == 1) == true then (asSome p5 fun a14 => grd (decide (0 < ((n6 : Nat) : Int))) (.act (ld1 (aadd (aadd a14 0) 0)) fun v15 => asInt .i64 v15 fun i16 => bif (i16 == 3) == true then (asSome p5 fun a17 => grd (decide (0 < ((n6 : Nat) : Int))) (.act (ld1 (aadd (aadd a17 0) 1)) fun v18 => asStr v18 fun s19 => .ret .normal [(.bool (s19.toList == s0.toList))])) else (.ret .normal [(.bool false)]))) else (.ret .normal [(.bool false)])) else (.ret .normal [(.bool false)])) (T87k0))
theorem T87_eq (s0 : ByteArray) : progOf PROG false 87 [(.string s0)] = T87 s0 := by kernel_rfl


noncomputable def T88k0 (i13 : Int) : Ex → List Value → Pg :=
  fun e23 l24 => sw e23 .ret (asCons l24 fun v25 l26 => asBool v25 fun b27 => asNil l26 (.ret .ret [(.int .i64 i13), (.bool b27)])) (sw e23 .normal (asCons l24 fun v28 l29 => asBool v28 fun b30 => asNil l29 (.ret .normal [(.int .i64 (wi64 (i13 + 1))), (.bool b30)])) (.fail))

noncomputable def T88b0 (i6 : Int) (p0 : (Option Addr)) (n1 : Nat) : List Value → Pg :=
  fun l10 => asCons l10 fun v11 l12 => asInt .i64 v11 fun i13 => asCons l12 fun v14 l15 => asBool v14 fun b16 => asNil l15 (bif (decide (i13 < i6)) then (.join (asSome p0 fun a17 => grd ((decide (0 ≤ i6)) && (decide (i6 < ((n1 : Nat) : Int)))) (.act (ld1 (aadd a17 ((Int.toNat i6) * 1))) fun v18 => asStr v18 fun s19 => asSome p0 fun a20 => grd ((decide (0 ≤ i13)) && (decide (i13 < ((n1 : Nat) : Int)))) (.act (ld1 (aadd a20 ((Int.toNat i13) * 1))) fun v21 => asStr v21 fun s22 => bif (s19.toList == s22.toList) then (.ret .ret [(.bool true)]) else (.ret .normal [(.bool b16)])))) (T88k0 i13)) else (.ret (.exit 2) [(.int .i64 i13), (.bool b16)]))

noncomputable def T88k1 : Ex → List Value → Pg :=
  fun e31 l32 => sw e31 (.exit 2) (asCons l32 fun v33 l34 => asInt .i64 v33 fun i35 => asCons l34 fun v36 l37 => asBool v36 fun b38 => asNil l37 (.ret .normal [(.bool b38)])) (sw e31 .ret (asCons l32 fun v39 l40 => asInt .i64 v39 fun i41 => asCons l40 fun v42 l43 => asBool v42 fun b44 => asNil l43 (.ret .ret [(.bool b44)])) (.fail))

noncomputable def T88k2 (i6 : Int) : Ex → List Value → Pg :=
  fun e45 l46 => sw e45 .ret (asCons l46 fun v47 l48 => asBool v47 fun b49 => asNil l48 (.ret .ret [(.int .i64 i6), (.bool b49)])) (sw e45 .normal (asCons l46 fun v50 l51 => asBool v50 fun b52 => asNil l51 (.ret .normal [(.int .i64 (wi64 (i6 + 1))), (.bool b52)])) (.fail))

noncomputable def T88b1 (n1 : Nat) (p0 : (Option Addr)) : List Value → Pg :=
  fun l3 => asCons l3 fun v4 l5 => asInt .i64 v4 fun i6 => asCons l5 fun v7 l8 => asBool v7 fun b9 => asNil l8 (bif (decide (i6 < ((n1 : Nat) : Int))) then (.join (.loop [(.int .i64 0), (.bool b9)] (T88b0 i6 p0 n1) (T88k1)) (T88k2 i6)) else (.ret (.exit 0) [(.int .i64 i6), (.bool b9)]))

noncomputable def T88k3 : Ex → List Value → Pg :=
  fun e53 l54 => sw e53 (.exit 0) (asCons l54 fun v55 l56 => asInt .i64 v55 fun i57 => asCons l56 fun v58 l59 => asBool v58 fun b60 => asNil l59 (.ret .ret [(.bool false)])) (sw e53 .ret (asCons l54 fun v61 l62 => asInt .i64 v61 fun i63 => asCons l62 fun v64 l65 => asBool v64 fun b66 => asNil l65 (.ret .ret [(.bool b66)])) (.fail))

/-- hindsight/hindsightref3.twice -/
noncomputable def T88 (p0 : (Option Addr)) (n1 : Nat) (n2 : Nat) : Pg :=
  .loop [(.int .i64 0), (.bool false)] (T88b1 n1 p0) (T88k3)
theorem T88_eq (p0 : (Option Addr)) (n1 : Nat) (n2 : Nat) : progOf PROG false 88 [(.slice p0 n1 n2)] = T88 p0 n1 n2 := by kernel_rfl


noncomputable def T89k0 (i7 : Int) : Ex → List Value → Pg :=
  fun e14 l15 => sw e14 .ret (asCons l15 fun v16 l17 => asBool v16 fun b18 => asNil l17 (.ret .ret [(.int .i64 i7), (.bool b18)])) (sw e14 .normal (asCons l15 fun v19 l20 => asBool v19 fun b21 => asNil l20 (.ret .normal [(.int .i64 (wi64 (i7 + 1))), (.bool b21)])) (.fail))

noncomputable def T89b0 (n1 : Nat) (p0 : (Option Addr)) (s3 : ByteArray) : List Value → Pg :=
  fun l4 => asCons l4 fun v5 l6 => asInt .i64 v5 fun i7 => asCons l6 fun v8 l9 => asBool v8 fun b10 => asNil l9 (bif (decide (i7 < ((n1 : Nat) : Int))) then (.join (asSome p0 fun a11 => grd ((decide (0 ≤ i7)) && (decide (i7 < ((n1 : Nat) : Int)))) (.act (ld1 (aadd a11 ((Int.toNat i7) * 1))) fun v12 => asStr v12 fun s13 => bif (s13.toList == s3.toList) then (.ret .ret [(.bool true)]) else (.ret .normal [(.bool b10)]))) (T89k0 i7)) else (.ret (.exit 0) [(.int .i64 i7), (.bool b10)]))

noncomputable def T89k1 : Ex → List Value → Pg :=
  fun e22 l23 => sw e22 (.exit 0) (asCons l23 fun v24 l25 => asInt .i64 v24 fun i26 => asCons l25 fun v27 l28 => asBool v27 fun b29 => asNil l28 (.ret .ret [(.bool false)])) (sw e22 .ret (asCons l23 fun v30 l31 => asInt .i64 v30 fun i32 => asCons l31 fun v33 l34 => asBool v33 fun b35 => asNil l34 (.ret .ret [(.bool b35)])) (.fail))

/-- hindsight/hindsightref3.in -/
noncomputable def T89 (p0 : (Option Addr)) (n1 : Nat) (n2 : Nat) (s3 : ByteArray) : Pg :=
  .loop [(.int .i64 0), (.bool false)] (T89b0 n1 p0 s3) (T89k1)
theorem T89_eq (p0 : (Option Addr)) (n1 : Nat) (n2 : Nat) (s3 : ByteArray) : progOf PROG false 89 [(.slice p0 n1 n2), (.string s3)] = T89 p0 n1 n2 s3 := by kernel_rfl


noncomputable def T90k0 : Ex → List Value → Pg :=
  fun e34 l35 => sw e34 .normal (asCons l35 fun v36 l37 => asBool v36 fun b38 => asNil l37 (bif b38 then (.ret .ret [(.bool false)]) else (.ret .normal [(.bool false)]))) (.fail)

noncomputable def T90k1 : Ex → List Value → Pg :=
  fun e44 l45 => sw e44 .ret (asCons l45 fun v46 l47 => asBool v46 fun b48 => asNil l47 (.ret .ret [(.bool b48)])) (sw e44 .normal (asCons l45 fun v49 l50 => asBool v49 fun b51 => asNil l50 (.ret .normal [(.bool b51)])) (.fail))

noncomputable def T90k2 : Ex → List Value → Pg :=
  fun e52 l53 => sw e52 .ret (asCons l53 fun v54 l55 => asBool v54 fun b56 => asNil l55 (.ret .ret [(.bool b56)])) (sw e52 .normal (asCons l53 fun v57 l58 => asBool v57 fun b59 => asNil l58 (.ret .normal [(.bool b59)])) (.fail))

noncomputable def T90k3 (b67 : Bool) : Ex → List Value → Pg :=
  fun e82 l83 => sw e82 .normal (asCons l83 fun v84 l85 => asBool v84 fun b86 => asNil l85 (bif b86 then (.ret .ret [(.bool false)]) else (.ret .normal [(.bool b67)]))) (.fail)

noncomputable def T90k4 (b67 : Bool) : Ex → List Value → Pg :=
  fun e96 l97 => sw e96 .normal (asCons l97 fun v98 l99 => asBool v98 fun b100 => asNil l99 (bif b100 then (.ret .ret [(.bool false)]) else (.ret .normal [(.bool b67)]))) (.fail)

noncomputable def T90k5 : Ex → List Value → Pg :=
  fun e103 l104 => sw e103 .ret (asCons l104 fun v105 l106 => asBool v105 fun b107 => asNil l106 (.ret .ret [(.bool b107)])) (sw e103 .normal (asCons l104 fun v108 l109 => asBool v108 fun b110 => asNil l109 (.ret .normal [(.bool b110)])) (.fail))

noncomputable def T90k6 (a11 : Addr) (b67 : Bool) : Ex → List Value → Pg :=
  fun e87 l88 => sw e87 .normal (asCons l88 fun v89 l90 => asBool v89 fun b91 => asNil l90 (.join (bif b91 then (.join (.act (ld1 (aadd a11 1)) fun v92 => asInt .i64 v92 fun i93 => bif (i93 != 0) == true then (.act (ld1 (aadd a11 1)) fun v94 => asInt .i64 v94 fun i95 => .ret .normal [(.bool (i95 != 1))]) else (.ret .normal [(.bool false)])) (T90k4 b67)) else (.act (ld1 (aadd a11 1)) fun v101 => asInt .i64 v101 fun i102 => bif (i102 != 0) then (.ret .ret [(.bool false)]) else (.ret .normal [(.bool b67)]))) (T90k5))) (.fail)

noncomputable def T90k7 : Ex → List Value → Pg :=
  fun e111 l112 => sw e111 .ret (asCons l112 fun v113 l114 => asBool v113 fun b115 => asNil l114 (.ret .ret [(.bool b115)])) (sw e111 .normal (asCons l112 fun v116 l117 => asBool v116 fun b118 => asNil l117 (.ret .normal [(.bool b118)])) (.fail))

noncomputable def T90k8 (a11 : Addr) (b67 : Bool) (i69 : Int) : Ex → List Value → Pg :=
  fun e70 l71 => sw e70 .normal (asCons l71 fun v72 l73 => asBool v72 fun b74 => asNil l73 (.join (bif b74 then (.join (.act (ld1 (aadd a11 1)) fun v75 => asInt .i64 v75 fun i76 => bif (decide (i76 < 0)) == false then (.act (ld1 (aadd a11 1)) fun v77 => asInt .i64 v77 fun i78 => .call 109 [] fun v79 => asInt .i64 v79 fun i80 => .get fun h81 => grd (chks [((ld1 (aadd a11 1)), v77)] h81) (.ret .normal [(.bool (decide (i78 > i80)))])) else (.ret .normal [(.bool true)])) (T90k3 b67)) else (.join (bif (i69 == 2) then (.ret .normal [(.bool (i69 == 2))]) else (.ret .normal [(.bool (i69 == 24))])) (T90k6 a11 b67))) (T90k7))) (.fail)

noncomputable def T90k9 : Ex → List Value → Pg :=
  fun e129 l130 => sw e129 .normal (asCons l130 fun v131 l132 => asBool v131 fun b133 => asNil l132 (.ret .normal [(.bool b133)])) (.fail)

noncomputable def T90k10 : Ex → List Value → Pg :=
  fun e134 l135 => sw e134 .normal (asCons l135 fun v136 l137 => asBool v136 fun b138 => asNil l137 (.ret .normal [(.bool b138)])) (.fail)

noncomputable def T90k11 (b126 : Bool) : Ex → List Value → Pg :=
  fun e167 l168 => sw e167 .normal (asCons l168 fun v169 l170 => asBool v169 fun b171 => asNil l170 (bif b171 then (.ret .ret [(.bool false)]) else (.ret .normal [(.bool b126)]))) (.fail)

noncomputable def T90k12 : Ex → List Value → Pg :=
  fun e174 l175 => sw e174 .ret (asCons l175 fun v176 l177 => asBool v176 fun b178 => asNil l177 (.ret .ret [(.bool b178)])) (sw e174 .normal (asCons l175 fun v179 l180 => asBool v179 fun b181 => asNil l180 (.ret .normal [(.bool b181)])) (.fail))

noncomputable def T90k13 : Ex → List Value → Pg :=
  fun e182 l183 => sw e182 .ret (asCons l183 fun v184 l185 => asBool v184 fun b186 => asNil l185 (.ret .ret [(.bool b186)])) (sw e182 .normal (asCons l183 fun v187 l188 => asBool v187 fun b189 => asNil l188 (.ret .normal [(.bool b189)])) (.fail))

noncomputable def T90k14 (a11 : Addr) (b126 : Bool) (i128 : Int) : Ex → List Value → Pg :=
  fun e148 l149 => sw e148 .normal (asCons l149 fun v150 l151 => asBool v150 fun b152 => asNil l151 (.join (bif b152 then (.act (ld1 (aadd a11 2)) fun v153 => asStr v153 fun s154 => .call 87 [(.string s154)] fun v155 => asBool v155 fun b156 => bif (!b156) then (.ret .ret [(.bool false)]) else (.ret .normal [(.bool b126)])) else (.join (bif (i128 == 14) then (.join (.act (ld1 (aadd a11 2)) fun v157 => asStr v157 fun s158 => bif (!(s158.toList == (bs [43]).toList)) == true then (.act (ld1 (aadd a11 2)) fun v159 => asStr v159 fun s160 => bif (!(s160.toList == (bs [45]).toList)) == true then (.act (ld1 (aadd a11 2)) fun v161 => asStr v161 fun s162 => bif (!(s162.toList == (bs [42]).toList)) == true then (.act (ld1 (aadd a11 2)) fun v163 => asStr v163 fun s164 => bif (!(s164.toList == (bs [60]).toList)) == true then (.act (ld1 (aadd a11 2)) fun v165 => asStr v165 fun s166 => .ret .normal [(.bool (!(s166.toList == (bs [61]).toList)))]) else (.ret .normal [(.bool false)])) else (.ret .normal [(.bool false)])) else (.ret .normal [(.bool false)])) else (.ret .normal [(.bool false)])) (T90k11 b126)) else (.act (ld1 (aadd a11 2)) fun v172 => asStr v172 fun s173 => bif (!(s173.toList == (bs []).toList)) then (.ret .ret [(.bool false)]) else (.ret .normal [(.bool b126)]))) (T90k12))) (T90k13))) (.fail)

noncomputable def T90k15 : Ex → List Value → Pg :=
  fun e190 l191 => sw e190 .ret (asCons l191 fun v192 l193 => asBool v192 fun b194 => asNil l193 (.ret .ret [(.bool b194)])) (sw e190 .normal (asCons l191 fun v195 l196 => asBool v195 fun b197 => asNil l196 (.ret .normal [(.bool b197)])) (.fail))

noncomputable def T90k16 (a11 : Addr) (b126 : Bool) (i128 : Int) : Ex → List Value → Pg :=
  fun e139 l140 => sw e139 .normal (asCons l140 fun v141 l142 => asBool v141 fun b143 => asNil l142 (.join (bif b143 then (.act (ld1 (aadd a11 2)) fun v144 => asStr v144 fun s145 => .call 86 [(.string s145)] fun v146 => asBool v146 fun b147 => bif (!b147) then (.ret .ret [(.bool false)]) else (.ret .normal [(.bool b126)])) else (.join (bif (i128 == 5) then (.ret .normal [(.bool (i128 == 5))]) else (.ret .normal [(.bool (i128 == 26))])) (T90k14 a11 b126 i128))) (T90k15))) (.fail)

noncomputable def T90k17 (a11 : Addr) : Ex → List Value → Pg :=
  fun e212 l213 => sw e212 .normal (asCons l213 fun v214 l215 => asBool v214 fun b216 => asNil l215 (bif b216 then (.act (ld1 (aadd a11 3)) fun v217 => asStr v217 fun s218 => .call 86 [(.string s218)] fun v219 => asBool v219 fun b220 => .ret .ret [(.bool b220)]) else (.act (ld1 (aadd a11 3)) fun v221 => asStr v221 fun s222 => .ret .ret [(.bool (s222.toList == (bs []).toList))]))) (.fail)

noncomputable def T90k18 (a11 : Addr) : Ex → List Value → Pg :=
  fun e198 l199 => sw e198 .ret (asCons l199 fun v200 l201 => asBool v200 fun b202 => asNil l201 (.ret .ret [(.bool b202)])) (sw e198 .normal (asCons l199 fun v203 l204 => asBool v203 fun b205 => asNil l204 (.join (.act (ld1 (aadd a11 0)) fun v206 => asInt .i64 v206 fun i207 => bif (i207 == 6) == false then (.act (ld1 (aadd a11 0)) fun v208 => asInt .i64 v208 fun i209 => bif (i209 == 9) == false then (.act (ld1 (aadd a11 0)) fun v210 => asInt .i64 v210 fun i211 => .ret .normal [(.bool (i211 == 20))]) else (.ret .normal [(.bool true)])) else (.ret .normal [(.bool true)])) (T90k17 a11))) (.fail))

noncomputable def T90k19 (a11 : Addr) : Ex → List Value → Pg :=
  fun e119 l120 => sw e119 .ret (asCons l120 fun v121 l122 => asBool v121 fun b123 => asNil l122 (.ret .ret [(.bool b123)])) (sw e119 .normal (asCons l120 fun v124 l125 => asBool v124 fun b126 => asNil l125 (.act (ld1 (aadd a11 0)) fun v127 => asInt .i64 v127 fun i128 => .join (.join (bif (i128 == 4) then (.ret .normal [(.bool (i128 == 4))]) else (.join (bif (i128 == 8) then (.ret .normal [(.bool (i128 == 8))]) else (.join (bif (i128 == 9) then (.ret .normal [(.bool (i128 == 9))]) else (.ret .normal [(.bool (i128 == 22))])) (T90k9))) (T90k10))) (T90k16 a11 b126 i128)) (T90k18 a11))) (.fail))

noncomputable def T90k20 (a11 : Addr) : Ex → List Value → Pg :=
  fun e60 l61 => sw e60 .ret (asCons l61 fun v62 l63 => asBool v62 fun b64 => asNil l63 (.ret .ret [(.bool b64)])) (sw e60 .normal (asCons l61 fun v65 l66 => asBool v65 fun b67 => asNil l66 (.act (ld1 (aadd a11 0)) fun v68 => asInt .i64 v68 fun i69 => .join (.join (bif (i69 == 1) then (.ret .normal [(.bool (i69 == 1))]) else (.ret .normal [(.bool (i69 == 23))])) (T90k8 a11 b67 i69)) (T90k19 a11))) (.fail))

noncomputable def T90k21 (a11 : Addr) (p13 : (Option Addr)) (n14 : Nat) : Ex → List Value → Pg :=
  fun e20 l21 => sw e20 .normal (asCons l21 fun v22 l23 => asBool v22 fun b24 => asNil l23 (bif b24 then (.ret .ret [(.bool false)]) else (.act (ld1 (aadd a11 4)) fun v25 => asSlice v25 fun p26 n27 n28 => .act (ld1 (aadd a11 0)) fun v29 => asInt .i64 v29 fun i30 => asSome p13 fun a31 => grd ((decide (0 ≤ i30)) && (decide (i30 < ((n14 : Nat) : Int)))) (.act (ld1 (aadd a31 ((Int.toNat i30) * 1))) fun v32 => asInt .i64 v32 fun i33 => .join (.join (bif (i33 == (-2)) then (bif (decide (((n27 : Nat) : Int) > 3)) then (.ret .ret [(.bool false)]) else (.ret .normal [(.bool false)])) else (.join (bif (i33 == (-3)) then (.join (bif (decide (((n27 : Nat) : Int) < 3)) == false then (.ret .normal [(.bool ((Int.tmod ((n27 : Nat) : Int) 2) == 0))]) else (.ret .normal [(.bool true)])) (T90k0)) else (.act (ld1 (aadd a11 0)) fun v39 => asInt .i64 v39 fun i40 => asSome p13 fun a41 => grd ((decide (0 ≤ i40)) && (decide (i40 < ((n14 : Nat) : Int)))) (.act (ld1 (aadd a41 ((Int.toNat i40) * 1))) fun v42 => asInt .i64 v42 fun i43 => bif (((n27 : Nat) : Int) != i43) then (.ret .ret [(.bool false)]) else (.ret .normal [(.bool false)])))) (T90k1))) (T90k2)) (T90k20 a11))))) (.fail)

/-- hindsight/hindsightref3.shape -/
noncomputable def T90 (i0 : Int) (i1 : Int) (s2 : ByteArray) (s3 : ByteArray) (p4 : (Option Addr)) (n5 : Nat) (n6 : Nat) (i7 : Int) (i8 : Int) : Pg :=
  .act (newC [(.int .i64 i0), (.int .i64 i1), (.string s2), (.string s3), (.slice p4 n5 n6), (.int .i64 i7), (.int .i64 i8)]) fun v9 => asPtr v9 fun p10 => asSome p10 fun a11 => .act (bdSl 1 27 [(.int .i64 (-1)), (.int .i64 0), (.int .i64 0), (.int .i64 0), (.int .i64 0), (.int .i64 (-2)), (.int .i64 1), (.int .i64 2), (.int .i64 2), (.int .i64 2), (.int .i64 3), (.int .i64 (-3)), (.int .i64 2), (.int .i64 2), (.int .i64 2), (.int .i64 1), (.int .i64 1), (.int .i64 1), (.int .i64 0), (.int .i64 1), (.int .i64 2), (.int .i64 0), (.int .i64 0), (.int .i64 0), (.int .i64 0), (.int .i64 0), (.int .i64 (-2))]) fun v12 => asSlice v12 fun p13 n14 n15 => .join (.act (ld1 (aadd a11 0)) fun v16 => asInt .i64 v16 fun i17 => bif (decide (i17 < 1)) == false then (.act (ld1 (aadd a11 0)) fun v18 => asInt .i64 v18 fun i19 => .ret .normal [(.bool (decide (i19 > 26)))]) else (.ret .normal [(.bool true)])) (T90k21 a11 p13 n14)
theorem T90_eq (i0 : Int) (i1 : Int) (s2 : ByteArray) (s3 : ByteArray) (p4 : (Option Addr)) (n5 : Nat) (n6 : Nat) (i7 : Int) (i8 : Int) : progOf PROG false 90 [(.agg #[(.int .i64 i0), (.int .i64 i1), (.string s2), (.string s3), (.slice p4 n5 n6), (.int .i64 i7), (.int .i64 i8)])] = T90 i0 i1 s2 s3 p4 n5 n6 i7 i8 := by kernel_rfl


noncomputable def T91k0 (i30 : Int) : Ex → List Value → Pg :=
  fun e61 l62 => sw e61 .ret (asCons l62 fun v63 l64 => asBool v63 fun b65 => asCons l64 fun v66 l67 => asInt .i64 v66 fun i68 => asCons l67 fun v69 l70 => asInt .i64 v69 fun i71 => asNil l70 (.ret .ret [(.int .i64 i30), (.bool b65), (.int .i64 i68), (.int .i64 i71)])) (sw e61 .normal (asCons l62 fun v72 l73 => asBool v72 fun b74 => asCons l73 fun v75 l76 => asInt .i64 v75 fun i77 => asCons l76 fun v78 l79 => asInt .i64 v78 fun i80 => asNil l79 (.ret .normal [(.int .i64 (wi64 (i30 + 1))), (.bool b74), (.int .i64 i77), (.int .i64 i80)])) (.fail))

noncomputable def T91b0 (a9 : Addr) (i13 : Int) (s6 : ByteArray) : List Value → Pg :=
  fun l27 => asCons l27 fun v28 l29 => asInt .i64 v28 fun i30 => asCons l29 fun v31 l32 => asBool v31 fun b33 => asCons l32 fun v34 l35 => asInt .i64 v34 fun i36 => asCons l35 fun v37 l38 => asInt .i64 v37 fun i39 => asNil l38 (.act (ld1 (aadd a9 1)) fun v40 => asSlice v40 fun p41 n42 n43 => asSome p41 fun a44 => grd ((decide (0 ≤ i13)) && (decide (i13 < ((n42 : Nat) : Int)))) (.act (ld1 (aadd (aadd a44 ((Int.toNat i13) * 2)) 1)) fun v45 => asSlice v45 fun p46 n47 n48 => bif (decide (i30 < ((n47 : Nat) : Int))) then (.join (.act (ld1 (aadd a9 1)) fun v49 => asSlice v49 fun p50 n51 n52 => asSome p50 fun a53 => grd ((decide (0 ≤ i13)) && (decide (i13 < ((n51 : Nat) : Int)))) (.act (ld1 (aadd (aadd a53 ((Int.toNat i13) * 2)) 1)) fun v54 => asSlice v54 fun p55 n56 n57 => asSome p55 fun a58 => grd ((decide (0 ≤ i30)) && (decide (i30 < ((n56 : Nat) : Int)))) (.act (ld1 (aadd (aadd a58 ((Int.toNat i30) * 2)) 0)) fun v59 => asStr v59 fun s60 => bif (s60.toList == s6.toList) then (.ret .ret [(.bool true), (.int .i64 i30), (.int .i64 i13)]) else (.ret .normal [(.bool b33), (.int .i64 i36), (.int .i64 i39)])))) (T91k0 i30)) else (.ret (.exit 2) [(.int .i64 i30), (.bool b33), (.int .i64 i36), (.int .i64 i39)])))

noncomputable def T91k1 : Ex → List Value → Pg :=
  fun e81 l82 => sw e81 (.exit 2) (asCons l82 fun v83 l84 => asInt .i64 v83 fun i85 => asCons l84 fun v86 l87 => asBool v86 fun b88 => asCons l87 fun v89 l90 => asInt .i64 v89 fun i91 => asCons l90 fun v92 l93 => asInt .i64 v92 fun i94 => asNil l93 (.ret .normal [(.bool b88), (.int .i64 i91), (.int .i64 i94)])) (sw e81 .ret (asCons l82 fun v95 l96 => asInt .i64 v95 fun i97 => asCons l96 fun v98 l99 => asBool v98 fun b100 => asCons l99 fun v101 l102 => asInt .i64 v101 fun i103 => asCons l102 fun v104 l105 => asInt .i64 v104 fun i106 => asNil l105 (.ret .ret [(.bool b100), (.int .i64 i103), (.int .i64 i106)])) (.fail))

noncomputable def T91k2 (i13 : Int) : Ex → List Value → Pg :=
  fun e107 l108 => sw e107 .ret (asCons l108 fun v109 l110 => asBool v109 fun b111 => asCons l110 fun v112 l113 => asInt .i64 v112 fun i114 => asCons l113 fun v115 l116 => asInt .i64 v115 fun i117 => asNil l116 (.ret .ret [(.int .i64 i13), (.bool b111), (.int .i64 i114), (.int .i64 i117)])) (sw e107 .normal (asCons l108 fun v118 l119 => asBool v118 fun b120 => asCons l119 fun v121 l122 => asInt .i64 v121 fun i123 => asCons l122 fun v124 l125 => asInt .i64 v124 fun i126 => asNil l125 (.ret .normal [(.int .i64 (wi64 (i13 + 1))), (.bool b120), (.int .i64 i123), (.int .i64 i126)])) (.fail))

noncomputable def T91b1 (a9 : Addr) (s6 : ByteArray) : List Value → Pg :=
  fun l10 => asCons l10 fun v11 l12 => asInt .i64 v11 fun i13 => asCons l12 fun v14 l15 => asBool v14 fun b16 => asCons l15 fun v17 l18 => asInt .i64 v17 fun i19 => asCons l18 fun v20 l21 => asInt .i64 v20 fun i22 => asNil l21 (.act (ld1 (aadd a9 1)) fun v23 => asSlice v23 fun p24 n25 n26 => bif (decide (i13 < ((n25 : Nat) : Int))) then (.join (.loop [(.int .i64 0), (.bool b16), (.int .i64 i19), (.int .i64 i22)] (T91b0 a9 i13 s6) (T91k1)) (T91k2 i13)) else (.ret (.exit 0) [(.int .i64 i13), (.bool b16), (.int .i64 i19), (.int .i64 i22)]))

noncomputable def T91k3 : Ex → List Value → Pg :=
  fun e127 l128 => sw e127 (.exit 0) (asCons l128 fun v129 l130 => asInt .i64 v129 fun i131 => asCons l130 fun v132 l133 => asBool v132 fun b134 => asCons l133 fun v135 l136 => asInt .i64 v135 fun i137 => asCons l136 fun v138 l139 => asInt .i64 v138 fun i140 => asNil l139 (.ret .ret [(.tuple #[(.int .i64 0), (.int .i64 0), (.bool false)])])) (sw e127 .ret (asCons l128 fun v141 l142 => asInt .i64 v141 fun i143 => asCons l142 fun v144 l145 => asBool v144 fun b146 => asCons l145 fun v147 l148 => asInt .i64 v147 fun i149 => asCons l148 fun v150 l151 => asInt .i64 v150 fun i152 => asNil l151 (.ret .ret [(.tuple #[(.int .i64 i152), (.int .i64 i149), (.bool b146)])])) (.fail))

/-- (hindsight/hindsightref3.Tree).Of -/
noncomputable def T91 (p0 : (Option Addr)) (n1 : Nat) (n2 : Nat) (p3 : (Option Addr)) (n4 : Nat) (n5 : Nat) (s6 : ByteArray) : Pg :=
  .act (newC [(.slice p0 n1 n2), (.slice p3 n4 n5)]) fun v7 => asPtr v7 fun p8 => asSome p8 fun a9 => .loop [(.int .i64 0), (.bool false), (.int .i64 0), (.int .i64 0)] (T91b1 a9 s6) (T91k3)
theorem T91_eq (p0 : (Option Addr)) (n1 : Nat) (n2 : Nat) (p3 : (Option Addr)) (n4 : Nat) (n5 : Nat) (s6 : ByteArray) : progOf PROG false 91 [(.agg #[(.slice p0 n1 n2), (.slice p3 n4 n5)]), (.string s6)] = T91 p0 n1 n2 p3 n4 n5 s6 := by kernel_rfl


noncomputable def T92k0 : Ex → List Value → Pg :=
  fun e118 l119 => sw e118 .normal (asCons l119 fun v120 l121 => asSlice v120 fun p122 n123 n124 => asNil l121 (.ret .normal [(.slice p122 n123 n124)])) (.fail)

noncomputable def T92k1 (a9 : Addr) (a42 : Addr) (i56 : Int) (p59 : (Option Addr)) (n60 : Nat) (n61 : Nat) : Ex → List Value → Pg :=
  fun e86 l87 => sw e86 .normal (asCons l87 fun v88 l89 => asBool v88 fun b90 => asNil l89 (.join (bif b90 then (.act (ldN 2 a9) fun v91 => asAgg v91 fun l92 => asCons l92 fun v93 l94 => asSlice v93 fun p95 n96 n97 => asCons l94 fun v98 l99 => asSlice v98 fun p100 n101 n102 => asNil l99 (.act (ld1 (aadd a42 4)) fun v103 => asSlice v103 fun p104 n105 n106 => asSome p104 fun a107 => grd ((decide (0 ≤ i56)) && (decide (i56 < ((n105 : Nat) : Int)))) (.act (ld1 (aadd a107 ((Int.toNat i56) * 1))) fun v108 => asInt .i64 v108 fun i109 => .call 92 [(.agg #[(.slice p95 n96 n97), (.slice p100 n101 n102)]), (.int .i64 i109)] fun v110 => asSlice v110 fun p111 n112 n113 => .act (apS 1 16 p59 n60 n61 p111 n112 n113) fun v114 => asSlice v114 fun p115 n116 n117 => .ret .normal [(.slice p115 n116 n117)]))) else (.ret .normal [(.slice p59 n60 n61)])) (T92k0))) (.fail)

noncomputable def T92k2 (i56 : Int) : Ex → List Value → Pg :=
  fun e125 l126 => sw e125 .normal (asCons l126 fun v127 l128 => asSlice v127 fun p129 n130 n131 => asNil l128 (.ret .normal [(.int .i64 (wi64 (i56 + 1))), (.slice p129 n130 n131)])) (.fail)

noncomputable def T92b0 (a42 : Addr) (i6 : Int) (a9 : Addr) : List Value → Pg :=
  fun l53 => asCons l53 fun v54 l55 => asInt .i64 v54 fun i56 => asCons l55 fun v57 l58 => asSlice v57 fun p59 n60 n61 => asNil l58 (.act (ld1 (aadd a42 4)) fun v62 => asSlice v62 fun p63 n64 n65 => bif (decide (i56 < ((n64 : Nat) : Int))) then (.join (.join (.act (ld1 (aadd a42 4)) fun v66 => asSlice v66 fun p67 n68 n69 => asSome p67 fun a70 => grd ((decide (0 ≤ i56)) && (decide (i56 < ((n68 : Nat) : Int)))) (.act (ld1 (aadd a70 ((Int.toNat i56) * 1))) fun v71 => asInt .i64 v71 fun i72 => bif (decide (i72 > i6)) == true then (.act (ld1 (aadd a42 4)) fun v73 => asSlice v73 fun p74 n75 n76 => asSome p74 fun a77 => grd ((decide (0 ≤ i56)) && (decide (i56 < ((n75 : Nat) : Int)))) (.act (ld1 (aadd a77 ((Int.toNat i56) * 1))) fun v78 => asInt .i64 v78 fun i79 => .act (ld1 (aadd a9 0)) fun v80 => asSlice v80 fun p81 n82 n83 => bif (decide (i79 < ((n82 : Nat) : Int))) == true then (.act (ld1 (aadd a42 0)) fun v84 => asInt .i64 v84 fun i85 => .ret .normal [(.bool (i85 == 26))]) else (.ret .normal [(.bool false)]))) else (.ret .normal [(.bool false)]))) (T92k1 a9 a42 i56 p59 n60 n61)) (T92k2 i56)) else (.ret (.exit 0) [(.int .i64 i56), (.slice p59 n60 n61)]))

noncomputable def T92k3 : Ex → List Value → Pg :=
  fun e132 l133 => sw e132 (.exit 0) (asCons l133 fun v134 l135 => asInt .i64 v134 fun i136 => asCons l135 fun v137 l138 => asSlice v137 fun p139 n140 n141 => asNil l138 (.ret .ret [(.slice p139 n140 n141)])) (.fail)

/-- (hindsight/hindsightref3.Tree).binds -/
noncomputable def T92 (p0 : (Option Addr)) (n1 : Nat) (n2 : Nat) (p3 : (Option Addr)) (n4 : Nat) (n5 : Nat) (i6 : Int) : Pg :=
  .act (newC [(.slice p0 n1 n2), (.slice p3 n4 n5)]) fun v7 => asPtr v7 fun p8 => asSome p8 fun a9 => .act (ld1 (aadd a9 0)) fun v10 => asSlice v10 fun p11 n12 n13 => asSome p11 fun a14 => grd ((decide (0 ≤ i6)) && (decide (i6 < ((n12 : Nat) : Int)))) (.act (ldN 7 (aadd a14 ((Int.toNat i6) * 7))) fun v15 => asAgg v15 fun l16 => asCons l16 fun v17 l18 => asInt .i64 v17 fun i19 => asCons l18 fun v20 l21 => asInt .i64 v20 fun i22 => asCons l21 fun v23 l24 => asStr v23 fun s25 => asCons l24 fun v26 l27 => asStr v26 fun s28 => asCons l27 fun v29 l30 => asSlice v29 fun p31 n32 n33 => asCons l30 fun v34 l35 => asInt .i64 v34 fun i36 => asCons l35 fun v37 l38 => asInt .i64 v37 fun i39 => asNil l38 (.act (newC [(.int .i64 0), (.int .i64 0), (.string (bs [])), (.string (bs [])), (.slice none 0 0), (.int .i64 0), (.int .i64 0)]) fun v40 => asPtr v40 fun p41 => asSome p41 fun a42 => .act (stC a42 [(.int .i64 i19), (.int .i64 i22), (.string s25), (.string s28), (.slice p31 n32 n33), (.int .i64 i36), (.int .i64 i39)]) fun v43 => asTuple v43 fun l44 => asNil l44 (.act (ld1 (aadd a42 0)) fun v45 => asInt .i64 v45 fun i46 => bif (i46 == 22) then (.act (ld1 (aadd a42 2)) fun v47 => asStr v47 fun s48 => .act (bdSl 1 1 [(.string s48)]) fun v49 => asSlice v49 fun p50 n51 n52 => .ret .ret [(.slice p50 n51 n52)]) else (.loop [(.int .i64 0), (.slice none 0 0)] (T92b0 a42 i6 a9) (T92k3)))))
theorem T92_eq (p0 : (Option Addr)) (n1 : Nat) (n2 : Nat) (p3 : (Option Addr)) (n4 : Nat) (n5 : Nat) (i6 : Int) : progOf PROG false 92 [(.agg #[(.slice p0 n1 n2), (.slice p3 n4 n5)]), (.int .i64 i6)] = T92 p0 n1 n2 p3 n4 n5 i6 := by kernel_rfl


noncomputable def T93k0 : Ex → List Value → Pg :=
  fun e58 l59 => sw e58 .ret (asNil l59 (.ret .ret [])) (sw e58 .normal (asNil l59 (.ret .normal [])) (.fail))

noncomputable def T93k1 : Ex → List Value → Pg :=
  fun e60 l61 => sw e60 .ret (asNil l61 (.ret .ret [])) (sw e60 .normal (asNil l61 (.ret .normal [])) (.fail))

noncomputable def T93k2 (a3 : Addr) : Ex → List Value → Pg :=
  fun e62 l63 => sw e62 .ret (asNil l63 (.act (ldN 4 a3) fun v64 => .ret .ret [v64])) (sw e62 .normal (asNil l63 (.act (stC a3 [(.int .i64 0), (.string (bs [])), (.int .i64 0), (.int .i64 0)]) fun v65 => asTuple v65 fun l66 => asNil l66 (.act (ldN 4 a3) fun v67 => .ret .ret [v67]))) (.fail))

/-- hindsight/lex.word -/
noncomputable def T93 (s0 : ByteArray) : Pg :=
  .act (newC [(.int .i64 0), (.string (bs [])), (.int .i64 0), (.int .i64 0)]) fun v1 => asPtr v1 fun p2 => asSome p2 fun a3 => .call 110 [(.string s0)] fun v4 => asTuple v4 fun l5 => asCons l5 fun v6 l7 => asInt .i32 v6 fun i8 => asCons l7 fun v9 l10 => asInt .i64 v9 fun i11 => asNil l10 (.call 111 [(.int .i32 i8)] fun v12 => asInt .i64 v12 fun i13 => .join (.join (bif (i13 == 1) then (bif (i8 != 39) then (.call 112 [(.string s0)] fun v14 => asAgg v14 fun l15 => asCons l15 fun v16 l17 => asInt .i64 v16 fun i18 => asCons l17 fun v19 l20 => asStr v19 fun s21 => asCons l20 fun v22 l23 => asInt .i64 v22 fun i24 => asCons l23 fun v25 l26 => asInt .i64 v25 fun i27 => asNil l26 (.act (stC a3 [(.int .i64 i18), (.string s21), (.int .i64 i24), (.int .i64 i27)]) fun v28 => asTuple v28 fun l29 => asNil l29 (.ret .ret []))) else (.ret .normal [])) else (.join (bif (i13 == 2) then (.call 113 [(.string s0), (.func (.func 114) #[] #[])] fun v30 => asInt .i64 v30 fun i31 => grd ((decide (0 ≤ i31)) && (decide (i31 ≤ ((s0.size : Nat) : Int)))) (.call 115 [(.string (s0.extract 0 (Int.toNat i31)))] fun v32 => asTuple v32 fun l33 => asCons l33 fun v34 l35 => asInt .i64 v34 fun i36 => asCons l35 fun v37 l38 => asBool v37 fun b39 => asNil l38 (bif b39 then (grd ((decide (0 ≤ i31)) && (decide (i31 ≤ ((s0.size : Nat) : Int)))) (.act (stC a3 [(.int .i64 1), (.string (s0.extract 0 (Int.toNat i31))), (.int .i64 0), (.int .i64 0)]) fun v40 => asTuple v40 fun l41 => asNil l41 (.ret .ret []))) else (.ret .normal [])))) else (bif (i13 == 4) then (.call 116 [(.string s0)] fun v42 => asAgg v42 fun l43 => asCons l43 fun v44 l45 => asInt .i64 v44 fun i46 => asCons l45 fun v47 l48 => asStr v47 fun s49 => asCons l48 fun v50 l51 => asInt .i64 v50 fun i52 => asCons l51 fun v53 l54 => asInt .i64 v53 fun i55 => asNil l54 (.act (stC a3 [(.int .i64 i46), (.string s49), (.int .i64 i52), (.int .i64 i55)]) fun v56 => asTuple v56 fun l57 => asNil l57 (.ret .ret []))) else (.ret .normal []))) (T93k0))) (T93k1)) (T93k2 a3))
theorem T93_eq (s0 : ByteArray) : progOf PROG false 93 [(.string s0)] = T93 s0 := by kernel_rfl


noncomputable def T94k0 : Ex → List Value → Pg :=
  fun e1 l2 => sw e1 .normal (asCons l2 fun v3 l4 => asBool v3 fun b5 => asNil l4 (.ret .normal [(.bool b5)])) (.fail)

noncomputable def T94k1 : Ex → List Value → Pg :=
  fun e6 l7 => sw e6 .normal (asCons l7 fun v8 l9 => asBool v8 fun b10 => asNil l9 (.ret .normal [(.bool b10)])) (.fail)

noncomputable def T94k2 : Ex → List Value → Pg :=
  fun e11 l12 => sw e11 .normal (asCons l12 fun v13 l14 => asBool v13 fun b15 => asNil l14 (.ret .normal [(.bool b15)])) (.fail)

noncomputable def T94k3 : Ex → List Value → Pg :=
  fun e16 l17 => sw e16 .normal (asCons l17 fun v18 l19 => asBool v18 fun b20 => asNil l19 (.ret .normal [(.bool b20)])) (.fail)

noncomputable def T94k4 : Ex → List Value → Pg :=
  fun e21 l22 => sw e21 .normal (asCons l22 fun v23 l24 => asBool v23 fun b25 => asNil l24 (.ret .normal [(.bool b25)])) (.fail)

noncomputable def T94k5 : Ex → List Value → Pg :=
  fun e26 l27 => sw e26 .normal (asCons l27 fun v28 l29 => asBool v28 fun b30 => asNil l29 (.ret .normal [(.bool b30)])) (.fail)

noncomputable def T94k6 : Ex → List Value → Pg :=
  fun e31 l32 => sw e31 .normal (asCons l32 fun v33 l34 => asBool v33 fun b35 => asNil l34 (.ret .normal [(.bool b35)])) (.fail)

noncomputable def T94k7 : Ex → List Value → Pg :=
  fun e36 l37 => sw e36 .normal (asCons l37 fun v38 l39 => asBool v38 fun b40 => asNil l39 (.ret .normal [(.bool b40)])) (.fail)

noncomputable def T94k8 : Ex → List Value → Pg :=
  fun e41 l42 => sw e41 .normal (asCons l42 fun v43 l44 => asBool v43 fun b45 => asNil l44 (bif b45 then (.ret .ret [(.bool true)]) else (.ret .normal [(.bool false)]))) (.fail)

noncomputable def T94k9 : Ex → List Value → Pg :=
  fun e46 l47 => sw e46 .ret (asCons l47 fun v48 l49 => asBool v48 fun b50 => asNil l49 (.ret .ret [(.bool b50)])) (sw e46 .normal (asCons l47 fun v51 l52 => asBool v51 fun b53 => asNil l52 (.ret .ret [(.bool false)])) (.fail))

/-- hindsight/tree.IsStop -/
noncomputable def T94 (i0 : Int) : Pg :=
  .join (.join (bif (i0 == 7) then (.ret .normal [(.bool (i0 == 7))]) else (.join (bif (i0 == 8) then (.ret .normal [(.bool (i0 == 8))]) else (.join (bif (i0 == 9) then (.ret .normal [(.bool (i0 == 9))]) else (.join (bif (i0 == 10) then (.ret .normal [(.bool (i0 == 10))]) else (.join (bif (i0 == 11) then (.ret .normal [(.bool (i0 == 11))]) else (.join (bif (i0 == 13) then (.ret .normal [(.bool (i0 == 13))]) else (.join (bif (i0 == 17) then (.ret .normal [(.bool (i0 == 17))]) else (.join (bif (i0 == 18) then (.ret .normal [(.bool (i0 == 18))]) else (.join (bif (i0 == 19) then (.ret .normal [(.bool (i0 == 19))]) else (.ret .normal [(.bool (i0 == 20))])) (T94k0))) (T94k1))) (T94k2))) (T94k3))) (T94k4))) (T94k5))) (T94k6))) (T94k7))) (T94k8)) (T94k9)
theorem T94_eq (i0 : Int) : progOf PROG false 94 [(.int .i64 i0)] = T94 i0 := by kernel_rfl


/-- (*hindsight/source.Machine).value -/
noncomputable def T95 (p0 : (Option Addr)) (i1 : Int) (i2 : Int) (s3 : ByteArray) (p4 : (Option Addr)) (n5 : Nat) (n6 : Nat) (i7 : Int) (p8 : (Option Addr)) (i9 : Int) : Pg :=
  .act (newC [(.int .i64 i1), (.int .i64 i2), (.string s3), (.slice p4 n5 n6), (.int .i64 i7), (.pointer p8), (.int .i64 i9)]) fun v10 => asPtr v10 fun p11 => asSome p11 fun a12 => .act (ldN 7 a12) fun v13 => asAgg v13 fun l14 => asCons l14 fun v15 l16 => asInt .i64 v15 fun i17 => asCons l16 fun v18 l19 => asInt .i64 v18 fun i20 => asCons l19 fun v21 l22 => asStr v21 fun s23 => asCons l22 fun v24 l25 => asSlice v24 fun p26 n27 n28 => asCons l25 fun v29 l30 => asInt .i64 v29 fun i31 => asCons l30 fun v32 l33 => asPtr v32 fun p34 => asCons l33 fun v35 l36 => asInt .i64 v35 fun i37 => asNil l36 (asSome p0 fun a38 => .act (stC (aadd a38 12) [(.int .i64 i17), (.int .i64 i20), (.string s23), (.slice p26 n27 n28), (.int .i64 i31), (.pointer p34), (.int .i64 i37)]) fun v39 => asTuple v39 fun l40 => asNil l40 (asSome p0 fun a41 => .act (stC (aadd a41 11) [(.bool true)]) fun v42 => asTuple v42 fun l43 => asNil l43 (.ret .ret [(.tuple #[])])))
theorem T95_eq (p0 : (Option Addr)) (i1 : Int) (i2 : Int) (s3 : ByteArray) (p4 : (Option Addr)) (n5 : Nat) (n6 : Nat) (i7 : Int) (p8 : (Option Addr)) (i9 : Int) : progOf PROG false 95 [(.pointer p0), (.agg #[(.int .i64 i1), (.int .i64 i2), (.string s3), (.slice p4 n5 n6), (.int .i64 i7), (.pointer p8), (.int .i64 i9)])] = T95 p0 i1 i2 s3 p4 n5 n6 i7 p8 i9 := by kernel_rfl


/-- slices.Clone[[]hindsight/val.Value,hindsight/val.Value] -/
noncomputable def T96 (p0 : (Option Addr)) (n1 : Nat) (n2 : Nat) : Pg :=
  bif (Option.isNone p0) then (.ret .ret [(.slice none 0 0)]) else (.act (bdSl 7 0 []) fun v3 => asSlice v3 fun p4 n5 n6 => .act (apS 7 80 p4 n5 n6 p0 n1 n2) fun v7 => asSlice v7 fun p8 n9 n10 => .ret .ret [(.slice p8 n9 n10)])
theorem T96_eq (p0 : (Option Addr)) (n1 : Nat) (n2 : Nat) : progOf PROG false 96 [(.slice p0 n1 n2)] = T96 p0 n1 n2 := by kernel_rfl


/-- (*hindsight/source.Machine).goTo -/
noncomputable def T97 (p0 : (Option Addr)) (i1 : Int) (p2 : (Option Addr)) : Pg :=
  asSome p0 fun a3 => .act (stC (aadd a3 19) [(.int .i64 i1)]) fun v4 => asTuple v4 fun l5 => asNil l5 (asSome p0 fun a6 => .act (stC (aadd a6 20) [(.pointer p2)]) fun v7 => asTuple v7 fun l8 => asNil l8 (asSome p0 fun a9 => .act (stC (aadd a9 11) [(.bool false)]) fun v10 => asTuple v10 fun l11 => asNil l11 (.ret .ret [(.tuple #[])])))
theorem T97_eq (p0 : (Option Addr)) (i1 : Int) (p2 : (Option Addr)) : progOf PROG false 97 [(.pointer p0), (.int .i64 i1), (.pointer p2)] = T97 p0 i1 p2 := by kernel_rfl


noncomputable def T98k0 : Ex → List Value → Pg :=
  fun e56 l57 => sw e56 .normal (asNil l57 (.ret .normal [])) (.fail)

noncomputable def T98k1 : Ex → List Value → Pg :=
  fun e58 l59 => sw e58 .normal (asNil l59 (.ret .normal [])) (.fail)

noncomputable def T98k2 : Ex → List Value → Pg :=
  fun e60 l61 => sw e60 .normal (asNil l61 (.ret .ret [(.tuple #[])])) (.fail)

/-- (*hindsight/source.Machine).branch -/
noncomputable def T98 (p0 : (Option Addr)) (i1 : Int) (i2 : Int) (s3 : ByteArray) (s4 : ByteArray) (p5 : (Option Addr)) (n6 : Nat) (n7 : Nat) (i8 : Int) (i9 : Int) (p10 : (Option Addr)) (i11 : Int) (i12 : Int) (s13 : ByteArray) (p14 : (Option Addr)) (n15 : Nat) (n16 : Nat) (i17 : Int) (p18 : (Option Addr)) (i19 : Int) : Pg :=
  .act (newC [(.int .i64 i1), (.int .i64 i2), (.string s3), (.string s4), (.slice p5 n6 n7), (.int .i64 i8), (.int .i64 i9)]) fun v20 => asPtr v20 fun p21 => asSome p21 fun a22 => .act (newC [(.int .i64 i11), (.int .i64 i12), (.string s13), (.slice p14 n15 n16), (.int .i64 i17), (.pointer p18), (.int .i64 i19)]) fun v23 => asPtr v23 fun p24 => asSome p24 fun a25 => .join (.act (ld1 (aadd a25 0)) fun v26 => asInt .i64 v26 fun i27 => .join (bif (i27 != 2) then (.call 104 [(.pointer p0)] fun v28 => asTuple v28 fun l29 => asNil l29 (.ret .normal [])) else (.act (ld1 (aadd a25 1)) fun v30 => asInt .i64 v30 fun i31 => .join (bif (i31 == 1) then (.act (ld1 (aadd a22 4)) fun v32 => asSlice v32 fun p33 n34 n35 => asSome p33 fun a36 => grd (decide (1 < ((n34 : Nat) : Int))) (.act (ld1 (aadd a36 1)) fun v37 => asInt .i64 v37 fun i38 => asSome p10 fun a39 => .act (ld1 (aadd a39 1)) fun v40 => asPtr v40 fun p41 => .call 97 [(.pointer p0), (.int .i64 i38), (.pointer p41)] fun v42 => asTuple v42 fun l43 => asNil l43 (.ret .normal []))) else (.act (ld1 (aadd a22 4)) fun v44 => asSlice v44 fun p45 n46 n47 => asSome p45 fun a48 => grd (decide (2 < ((n46 : Nat) : Int))) (.act (ld1 (aadd a48 2)) fun v49 => asInt .i64 v49 fun i50 => asSome p10 fun a51 => .act (ld1 (aadd a51 1)) fun v52 => asPtr v52 fun p53 => .call 97 [(.pointer p0), (.int .i64 i50), (.pointer p53)] fun v54 => asTuple v54 fun l55 => asNil l55 (.ret .normal [])))) (T98k0))) (T98k1)) (T98k2)
theorem T98_eq (p0 : (Option Addr)) (i1 : Int) (i2 : Int) (s3 : ByteArray) (s4 : ByteArray) (p5 : (Option Addr)) (n6 : Nat) (n7 : Nat) (i8 : Int) (i9 : Int) (p10 : (Option Addr)) (i11 : Int) (i12 : Int) (s13 : ByteArray) (p14 : (Option Addr)) (n15 : Nat) (n16 : Nat) (i17 : Int) (p18 : (Option Addr)) (i19 : Int) : progOf PROG false 98 [(.pointer p0), (.agg #[(.int .i64 i1), (.int .i64 i2), (.string s3), (.string s4), (.slice p5 n6 n7), (.int .i64 i8), (.int .i64 i9)]), (.pointer p10), (.agg #[(.int .i64 i11), (.int .i64 i12), (.string s13), (.slice p14 n15 n16), (.int .i64 i17), (.pointer p18), (.int .i64 i19)])] = T98 p0 i1 i2 s3 s4 p5 n6 n7 i8 i9 p10 i11 i12 s13 p14 n15 n16 i17 p18 i19 := by kernel_rfl


noncomputable def T99k0 (i29 : Int) : Ex → List Value → Pg :=
  fun e86 l87 => sw e86 .ret (asNil l87 (.ret .ret [(.int .i64 i29)])) (sw e86 .normal (asNil l87 (.ret .normal [(.int .i64 (wi64 (i29 + 2)))])) (.fail))

noncomputable def T99b0 (a22 : Addr) (a25 : Addr) (p10 : (Option Addr)) (p0 : (Option Addr)) : List Value → Pg :=
  fun l26 => asCons l26 fun v27 l28 => asInt .i64 v27 fun i29 => asNil l28 (.act (ld1 (aadd a22 4)) fun v30 => asSlice v30 fun p31 n32 n33 => bif (decide (i29 < ((n32 : Nat) : Int))) then (.join (.act (ld1 (aadd a22 4)) fun v34 => asSlice v34 fun p35 n36 n37 => asSome p35 fun a38 => grd ((decide (0 ≤ i29)) && (decide (i29 < ((n36 : Nat) : Int)))) (.act (ld1 (aadd a38 ((Int.toNat i29) * 1))) fun v39 => asInt .i64 v39 fun i40 => .act (ldN 7 a25) fun v41 => asAgg v41 fun l42 => asCons l42 fun v43 l44 => asInt .i64 v43 fun i45 => asCons l44 fun v46 l47 => asInt .i64 v46 fun i48 => asCons l47 fun v49 l50 => asStr v49 fun s51 => asCons l50 fun v52 l53 => asSlice v52 fun p54 n55 n56 => asCons l53 fun v57 l58 => asInt .i64 v57 fun i59 => asCons l58 fun v60 l61 => asPtr v60 fun p62 => asCons l61 fun v63 l64 => asInt .i64 v63 fun i65 => asNil l64 (asSome p10 fun a66 => .act (ld1 (aadd a66 1)) fun v67 => asPtr v67 fun p68 => .call 117 [(.pointer p0), (.int .i64 i40), (.agg #[(.int .i64 i45), (.int .i64 i48), (.string s51), (.slice p54 n55 n56), (.int .i64 i59), (.pointer p62), (.int .i64 i65)]), (.pointer p68)] fun v69 => asTuple v69 fun l70 => asCons l70 fun v71 l72 => asPtr v71 fun p73 => asCons l72 fun v74 l75 => asBool v74 fun b76 => asNil l75 (bif b76 then (.act (ld1 (aadd a22 4)) fun v77 => asSlice v77 fun p78 n79 n80 => asSome p78 fun a81 => grd ((decide (0 ≤ (wi64 (i29 + 1)))) && (decide ((wi64 (i29 + 1)) < ((n79 : Nat) : Int)))) (.act (ld1 (aadd a81 ((Int.toNat (wi64 (i29 + 1))) * 1))) fun v82 => asInt .i64 v82 fun i83 => .call 97 [(.pointer p0), (.int .i64 i83), (.pointer p73)] fun v84 => asTuple v84 fun l85 => asNil l85 (.ret .ret []))) else (.ret .normal []))))) (T99k0 i29)) else (.ret (.exit 0) [(.int .i64 i29)]))

noncomputable def T99k1 (p0 : (Option Addr)) : Ex → List Value → Pg :=
  fun e88 l89 => sw e88 (.exit 0) (asCons l89 fun v90 l91 => asInt .i64 v90 fun i92 => asNil l91 (.call 104 [(.pointer p0)] fun v93 => asTuple v93 fun l94 => asNil l94 (.ret .ret [(.tuple #[])]))) (sw e88 .ret (asCons l89 fun v95 l96 => asInt .i64 v95 fun i97 => asNil l96 (.ret .ret [(.tuple #[])])) (.fail))

/-- (*hindsight/source.Machine).match -/
noncomputable def T99 (p0 : (Option Addr)) (i1 : Int) (i2 : Int) (s3 : ByteArray) (s4 : ByteArray) (p5 : (Option Addr)) (n6 : Nat) (n7 : Nat) (i8 : Int) (i9 : Int) (p10 : (Option Addr)) (i11 : Int) (i12 : Int) (s13 : ByteArray) (p14 : (Option Addr)) (n15 : Nat) (n16 : Nat) (i17 : Int) (p18 : (Option Addr)) (i19 : Int) : Pg :=
  .act (newC [(.int .i64 i1), (.int .i64 i2), (.string s3), (.string s4), (.slice p5 n6 n7), (.int .i64 i8), (.int .i64 i9)]) fun v20 => asPtr v20 fun p21 => asSome p21 fun a22 => .act (newC [(.int .i64 i11), (.int .i64 i12), (.string s13), (.slice p14 n15 n16), (.int .i64 i17), (.pointer p18), (.int .i64 i19)]) fun v23 => asPtr v23 fun p24 => asSome p24 fun a25 => .loop [(.int .i64 1)] (T99b0 a22 a25 p10 p0) (T99k1 p0)
theorem T99_eq (p0 : (Option Addr)) (i1 : Int) (i2 : Int) (s3 : ByteArray) (s4 : ByteArray) (p5 : (Option Addr)) (n6 : Nat) (n7 : Nat) (i8 : Int) (i9 : Int) (p10 : (Option Addr)) (i11 : Int) (i12 : Int) (s13 : ByteArray) (p14 : (Option Addr)) (n15 : Nat) (n16 : Nat) (i17 : Int) (p18 : (Option Addr)) (i19 : Int) : progOf PROG false 99 [(.pointer p0), (.agg #[(.int .i64 i1), (.int .i64 i2), (.string s3), (.string s4), (.slice p5 n6 n7), (.int .i64 i8), (.int .i64 i9)]), (.pointer p10), (.agg #[(.int .i64 i11), (.int .i64 i12), (.string s13), (.slice p14 n15 n16), (.int .i64 i17), (.pointer p18), (.int .i64 i19)])] = T99 p0 i1 i2 s3 s4 p5 n6 n7 i8 i9 p10 i11 i12 s13 p14 n15 n16 i17 p18 i19 := by kernel_rfl
end Go.Pg
