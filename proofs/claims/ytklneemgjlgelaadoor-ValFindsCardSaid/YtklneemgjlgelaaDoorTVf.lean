/- The trees of the functions that the laws reach, written out by program; each is shown to be the function's own; then their table. -/
import Derived.Test.YtklneemgjlgelaaDoorProg
import Derived.KernelRfl
import Derived.Test.YtklneemgjlgelaaDoorPg3
namespace Go.Pg
open Go.Proofs
set_option linter.unusedVariables false
noncomputable abbrev PROG : Program := Tryd.prog
noncomputable def T3k0 (a32 : Addr) (b23 : Bool) : Ex → List Value → Pg :=
  fun e36 l37 => sw e36 .normal (asCons l37 fun v38 l39 => asInt .i64 v38 fun i40 => asNil l39 (.ret .normal [(.int .i64 i40), (.pointer (some a32)), (.bool b23)])) (.fail)

noncomputable def T3k1 (i14 : Int) : Ex → List Value → Pg :=
  fun e41 l42 => sw e41 .ret (asCons l42 fun v43 l44 => asInt .i64 v43 fun i45 => asCons l44 fun v46 l47 => asPtr v46 fun p48 => asCons l47 fun v49 l50 => asBool v49 fun b51 => asNil l50 (.ret .ret [(.int .i64 i14), (.int .i64 i45), (.pointer p48), (.bool b51)])) (sw e41 .normal (asCons l42 fun v52 l53 => asInt .i64 v52 fun i54 => asCons l53 fun v55 l56 => asPtr v55 fun p57 => asCons l56 fun v58 l59 => asBool v58 fun b60 => asNil l59 (.ret .normal [(.int .i64 (wi64 (i14 + 1))), (.int .i64 i54), (.pointer p57), (.bool b60)])) (.fail))

noncomputable def T3b0 (n1 : Nat) (p0 : (Option Addr)) (s3 : ByteArray) : List Value → Pg :=
  fun l11 => asCons l11 fun v12 l13 => asInt .i64 v12 fun i14 => asCons l13 fun v15 l16 => asInt .i64 v15 fun i17 => asCons l16 fun v18 l19 => asPtr v18 fun p20 => asCons l19 fun v21 l22 => asBool v21 fun b23 => asNil l22 (bif (decide (i14 < ((n1 : Nat) : Int))) then (.join (asSome p0 fun a24 => grd ((decide (0 ≤ i14)) && (decide (i14 < ((n1 : Nat) : Int)))) (.act (ld1 (aadd a24 ((Int.toNat i14) * 1))) fun v25 => asStr v25 fun s26 => bif (decide (((s26.size : Nat) : Int) > 60)) then (.ret .ret [(.int .i64 i17), (.pointer p20), (.bool true)]) else (asSome p0 fun a27 => grd ((decide (0 ≤ i14)) && (decide (i14 < ((n1 : Nat) : Int)))) (.act (ld1 (aadd a27 ((Int.toNat i14) * 1))) fun v28 => asStr v28 fun s29 => .act (newC [(.string s29), (.int .i64 1), (.int .i64 i14), (.string (bs [])), (.slice none 0 0), (.int .i64 0), (.pointer none), (.int .i64 0), (.pointer p20)]) fun v30 => asPtr v30 fun p31 => asSome p31 fun a32 => asSome p0 fun a33 => grd ((decide (0 ≤ i14)) && (decide (i14 < ((n1 : Nat) : Int)))) (.act (ld1 (aadd a33 ((Int.toNat i14) * 1))) fun v34 => asStr v34 fun s35 => .join (bif (s35.toList == s3.toList) then (.ret .normal [(.int .i64 i14)]) else (.ret .normal [(.int .i64 i17)])) (T3k0 a32 b23)))))) (T3k1 i14)) else (.ret (.exit 0) [(.int .i64 i14), (.int .i64 i17), (.pointer p20), (.bool b23)]))

noncomputable def T3k2 (i125 : Int) : Ex → List Value → Pg :=
  fun e135 l136 => sw e135 .ret (asCons l136 fun v137 l138 => asBool v137 fun b139 => asNil l138 (.ret .ret [(.int .i64 i125), (.bool b139)])) (sw e135 .normal (asCons l136 fun v140 l141 => asBool v140 fun b142 => asNil l141 (.ret .normal [(.int .i64 (wi64 (i125 + 1))), (.bool b142)])) (.fail))

noncomputable def T3b1 (i118 : Int) (p112 : (Option Addr)) (n113 : Nat) : List Value → Pg :=
  fun l122 => asCons l122 fun v123 l124 => asInt .i64 v123 fun i125 => asCons l124 fun v126 l127 => asBool v126 fun b128 => asNil l127 (bif (decide (i125 < i118)) then (.join (asSome p112 fun a129 => grd ((decide (0 ≤ i125)) && (decide (i125 < ((n113 : Nat) : Int)))) (.act (ld1 (aadd a129 ((Int.toNat i125) * 1))) fun v130 => asStr v130 fun s131 => asSome p112 fun a132 => grd ((decide (0 ≤ i118)) && (decide (i118 < ((n113 : Nat) : Int)))) (.act (ld1 (aadd a132 ((Int.toNat i118) * 1))) fun v133 => asStr v133 fun s134 => bif (s131.toList == s134.toList) then (.ret .ret [(.bool false)]) else (.ret .normal [(.bool b128)])))) (T3k2 i125)) else (.ret (.exit 4) [(.int .i64 i125), (.bool b128)]))

noncomputable def T3k3 (p112 : (Option Addr)) (i118 : Int) (n113 : Nat) (p71 : (Option Addr)) : Ex → List Value → Pg :=
  fun e143 l144 => sw e143 (.exit 4) (asCons l144 fun v145 l146 => asInt .i64 v145 fun i147 => asCons l146 fun v148 l149 => asBool v148 fun b150 => asNil l149 (asSome p112 fun a151 => grd ((decide (0 ≤ i118)) && (decide (i118 < ((n113 : Nat) : Int)))) (.act (ld1 (aadd a151 ((Int.toNat i118) * 1))) fun v152 => asStr v152 fun s153 => .call 5 [(.pointer p71), (.string s153)] fun v154 => asTuple v154 fun l155 => asCons l155 fun v156 l157 => asAgg v156 fun l158 => asCons l158 fun v159 l160 => asInt .i64 v159 fun i161 => asCons l160 fun v162 l163 => asInt .i64 v162 fun i164 => asCons l163 fun v165 l166 => asStr v165 fun s167 => asCons l166 fun v168 l169 => asSlice v168 fun p170 n171 n172 => asCons l169 fun v173 l174 => asInt .i64 v173 fun i175 => asCons l174 fun v176 l177 => asPtr v176 fun p178 => asCons l177 fun v179 l180 => asInt .i64 v179 fun i181 => asNil l180 (asCons l157 fun v182 l183 => asBool v182 fun b184 => asNil l183 (.act (newC [(.int .i64 0), (.int .i64 0), (.string (bs [])), (.slice none 0 0), (.int .i64 0), (.pointer none), (.int .i64 0)]) fun v185 => asPtr v185 fun p186 => asSome p186 fun a187 => .act (stC a187 [(.int .i64 i161), (.int .i64 i164), (.string s167), (.slice p170 n171 n172), (.int .i64 i175), (.pointer p178), (.int .i64 i181)]) fun v188 => asTuple v188 fun l189 => asNil l189 (bif (!b184) then (.ret .ret [(.bool false)]) else (.ret .normal [(.bool b150)]))))))) (sw e143 .ret (asCons l144 fun v190 l191 => asInt .i64 v190 fun i192 => asCons l191 fun v193 l194 => asBool v193 fun b195 => asNil l194 (.ret .ret [(.bool b195)])) (.fail))

noncomputable def T3k4 (i118 : Int) : Ex → List Value → Pg :=
  fun e196 l197 => sw e196 .ret (asCons l197 fun v198 l199 => asBool v198 fun b200 => asNil l199 (.ret .ret [(.int .i64 i118), (.bool b200)])) (sw e196 .normal (asCons l197 fun v201 l202 => asBool v201 fun b203 => asNil l202 (.ret .normal [(.int .i64 (wi64 (i118 + 1))), (.bool b203)])) (.fail))

noncomputable def T3b2 (n113 : Nat) (p112 : (Option Addr)) (p71 : (Option Addr)) : List Value → Pg :=
  fun l115 => asCons l115 fun v116 l117 => asInt .i64 v116 fun i118 => asCons l117 fun v119 l120 => asBool v119 fun b121 => asNil l120 (bif (decide (i118 < ((n113 : Nat) : Int))) then (.join (.loop [(.int .i64 0), (.bool b121)] (T3b1 i118 p112 n113) (T3k3 p112 i118 n113 p71)) (T3k4 i118)) else (.ret (.exit 2) [(.int .i64 i118), (.bool b121)]))

noncomputable def T3k5 : Ex → List Value → Pg :=
  fun e226 l227 => sw e226 .normal (asCons l227 fun v228 l229 => asBool v228 fun b230 => asNil l229 (.ret .ret [(.bool b230)])) (.fail)

noncomputable def T3k6 (b105 : Bool) (i68 : Int) (a108 : Addr) (n1 : Nat) (n113 : Nat) (p112 : (Option Addr)) (p0 : (Option Addr)) : Ex → List Value → Pg :=
  fun e204 l205 => sw e204 (.exit 2) (asCons l205 fun v206 l207 => asInt .i64 v206 fun i208 => asCons l207 fun v209 l210 => asBool v209 fun b211 => asNil l210 (.join (bif (b105 == (decide (i68 ≥ 0))) == true then (bif (!b105) == false then (.act (ld1 (aadd a108 1)) fun v212 => asInt .i64 v212 fun i213 => bif (i213 == i68) == true then (bif (((n1 : Nat) : Int) == 0) == false then (bif (decide (((n113 : Nat) : Int) > 0)) == true then (asSome p112 fun a214 => grd (decide (0 < ((n113 : Nat) : Int))) (.act (ld1 (aadd a214 0)) fun v215 => asStr v215 fun s216 => asSome p0 fun a217 => grd ((decide (0 ≤ (wi64 (((n1 : Nat) : Int) - 1)))) && (decide ((wi64 (((n1 : Nat) : Int) - 1)) < ((n1 : Nat) : Int)))) (.act (ld1 (aadd a217 ((Int.toNat (wi64 (((n1 : Nat) : Int) - 1))) * 1))) fun v218 => asStr v218 fun s219 => .ret .normal [(.bool (s216.toList == s219.toList))]))) else (.ret .normal [(.bool false)])) else (.ret .normal [(.bool true)])) else (.ret .normal [(.bool false)])) else (bif (((n1 : Nat) : Int) == 0) == false then (bif (decide (((n113 : Nat) : Int) > 0)) == true then (asSome p112 fun a220 => grd (decide (0 < ((n113 : Nat) : Int))) (.act (ld1 (aadd a220 0)) fun v221 => asStr v221 fun s222 => asSome p0 fun a223 => grd ((decide (0 ≤ (wi64 (((n1 : Nat) : Int) - 1)))) && (decide ((wi64 (((n1 : Nat) : Int) - 1)) < ((n1 : Nat) : Int)))) (.act (ld1 (aadd a223 ((Int.toNat (wi64 (((n1 : Nat) : Int) - 1))) * 1))) fun v224 => asStr v224 fun s225 => .ret .normal [(.bool (s222.toList == s225.toList))]))) else (.ret .normal [(.bool false)])) else (.ret .normal [(.bool true)]))) else (.ret .normal [(.bool false)])) (T3k5))) (sw e204 .ret (asCons l205 fun v231 l232 => asInt .i64 v231 fun i233 => asCons l232 fun v234 l235 => asBool v234 fun b236 => asNil l235 (.ret .ret [(.bool b236)])) (.fail))

noncomputable def T3k7 (s3 : ByteArray) (n1 : Nat) (p0 : (Option Addr)) : Ex → List Value → Pg :=
  fun e61 l62 => sw e61 (.exit 0) (asCons l62 fun v63 l64 => asInt .i64 v63 fun i65 => asCons l64 fun v66 l67 => asInt .i64 v66 fun i68 => asCons l67 fun v69 l70 => asPtr v69 fun p71 => asCons l70 fun v72 l73 => asBool v72 fun b74 => asNil l73 (.call 5 [(.pointer p71), (.string s3)] fun v75 => asTuple v75 fun l76 => asCons l76 fun v77 l78 => asAgg v77 fun l79 => asCons l79 fun v80 l81 => asInt .i64 v80 fun i82 => asCons l81 fun v83 l84 => asInt .i64 v83 fun i85 => asCons l84 fun v86 l87 => asStr v86 fun s88 => asCons l87 fun v89 l90 => asSlice v89 fun p91 n92 n93 => asCons l90 fun v94 l95 => asInt .i64 v94 fun i96 => asCons l95 fun v97 l98 => asPtr v97 fun p99 => asCons l98 fun v100 l101 => asInt .i64 v100 fun i102 => asNil l101 (asCons l78 fun v103 l104 => asBool v103 fun b105 => asNil l104 (.act (newC [(.int .i64 0), (.int .i64 0), (.string (bs [])), (.slice none 0 0), (.int .i64 0), (.pointer none), (.int .i64 0)]) fun v106 => asPtr v106 fun p107 => asSome p107 fun a108 => .act (stC a108 [(.int .i64 i82), (.int .i64 i85), (.string s88), (.slice p91 n92 n93), (.int .i64 i96), (.pointer p99), (.int .i64 i102)]) fun v109 => asTuple v109 fun l110 => asNil l110 (.call 6 [(.pointer p71)] fun v111 => asSlice v111 fun p112 n113 n114 => .loop [(.int .i64 0), (.bool b74)] (T3b2 n113 p112 p71) (T3k6 b105 i68 a108 n1 n113 p112 p0)))))) (sw e61 .ret (asCons l62 fun v237 l238 => asInt .i64 v237 fun i239 => asCons l238 fun v240 l241 => asInt .i64 v240 fun i242 => asCons l241 fun v243 l244 => asPtr v243 fun p245 => asCons l244 fun v246 l247 => asBool v246 fun b248 => asNil l247 (.ret .ret [(.bool b248)])) (.fail))

noncomputable def T3k8 (n1 : Nat) (p0 : (Option Addr)) (s3 : ByteArray) : Ex → List Value → Pg :=
  fun e6 l7 => sw e6 .normal (asCons l7 fun v8 l9 => asBool v8 fun b10 => asNil l9 (bif b10 then (.ret .ret [(.bool true)]) else (.loop [(.int .i64 0), (.int .i64 (-1)), (.pointer none), (.bool false)] (T3b0 n1 p0 s3) (T3k7 s3 n1 p0)))) (.fail)

/-- hindsight/hindsightlaw9.ValFinds -/
noncomputable def T3 (p0 : (Option Addr)) (n1 : Nat) (n2 : Nat) (s3 : ByteArray) : Pg :=
  .call 4 [] fun v4 => asBool v4 fun b5 => bif (!b5) then (.ret .ret [(.bool false)]) else (.join (bif (decide (((n1 : Nat) : Int) > 20)) == false then (.ret .normal [(.bool (decide (((s3.size : Nat) : Int) > 60)))]) else (.ret .normal [(.bool true)])) (T3k8 n1 p0 s3))
theorem T3_eq (p0 : (Option Addr)) (n1 : Nat) (n2 : Nat) (s3 : ByteArray) : progOf PROG false 3 [(.slice p0 n1 n2), (.string s3)] = T3 p0 n1 n2 s3 := by kernel_rfl


noncomputable def T4k0 : Ex → List Value → Pg :=
  fun e44 l45 => sw e44 .normal (asCons l45 fun v46 l47 => asBool v46 fun b48 => asNil l47 (.ret .ret [(.bool b48)])) (.fail)

/-- hindsight/hindsightlaw9.awake -/
noncomputable def T4 : Pg :=
  .call 7 [(.string (bs [43])), (.int .i64 4611686018427387903), (.int .i64 1)] fun v0 => asTuple v0 fun l1 => asCons l1 fun v2 l3 => asAgg v2 fun l4 => asCons l4 fun v5 l6 => asInt .i64 v5 fun i7 => asCons l6 fun v8 l9 => asInt .i64 v8 fun i10 => asCons l9 fun v11 l12 => asStr v11 fun s13 => asCons l12 fun v14 l15 => asSlice v14 fun p16 n17 n18 => asCons l15 fun v19 l20 => asInt .i64 v19 fun i21 => asCons l20 fun v22 l23 => asPtr v22 fun p24 => asCons l23 fun v25 l26 => asInt .i64 v25 fun i27 => asNil l26 (asCons l3 fun v28 l29 => asBool v28 fun b30 => asNil l29 (.act (newC [(.int .i64 0), (.int .i64 0), (.string (bs [])), (.slice none 0 0), (.int .i64 0), (.pointer none), (.int .i64 0)]) fun v31 => asPtr v31 fun p32 => asSome p32 fun a33 => .act (stC a33 [(.int .i64 i7), (.int .i64 i10), (.string s13), (.slice p16 n17 n18), (.int .i64 i21), (.pointer p24), (.int .i64 i27)]) fun v34 => asTuple v34 fun l35 => asNil l35 (.join (.call 8 [(.int .i64 4611686018427387904)] fun v36 => asInt .i64 v36 fun i37 => bif ((i37 == (-4611686018427387904)) && b30) == true then (.act (ld1 (aadd a33 0)) fun v38 => asInt .i64 v38 fun i39 => bif (i39 == 1) == true then (.act (ld1 (aadd a33 1)) fun v40 => asInt .i64 v40 fun i41 => bif (i41 == (-4611686018427387904)) == true then (.call 9 [(.agg #[(.int .i64 2), (.int .i64 1), (.string (bs [])), (.slice none 0 0), (.int .i64 0), (.pointer none), (.int .i64 0)]), (.agg #[(.int .i64 2), (.string (bs [])), (.int .i64 0), (.slice none 0 0)]), (.slice none 0 0), (.slice none 0 0)] fun v42 => asStr v42 fun s43 => .ret .normal [(.bool (s43.toList == (bs [116, 114, 117, 101]).toList))]) else (.ret .normal [(.bool false)])) else (.ret .normal [(.bool false)])) else (.ret .normal [(.bool false)])) (T4k0))))
theorem T4_eq : progOf PROG false 4 [] = T4 := by kernel_rfl


noncomputable def T5k0 (p8 : (Option Addr)) : Ex → List Value → Pg :=
  fun e43 l44 => sw e43 .ret (asCons l44 fun v45 l46 => asBool v45 fun b47 => asNil l46 (.ret .ret [(.pointer p8), (.bool b47)])) (sw e43 .normal (asCons l44 fun v48 l49 => asBool v48 fun b50 => asNil l49 (asSome p8 fun a51 => .act (ld1 (aadd a51 8)) fun v52 => asPtr v52 fun p53 => .ret .normal [(.pointer p53), (.bool b50)])) (.fail))

noncomputable def T5b0 (s1 : ByteArray) (a4 : Addr) : List Value → Pg :=
  fun l5 => asCons l5 fun v6 l7 => asPtr v6 fun p8 => asCons l7 fun v9 l10 => asBool v9 fun b11 => asNil l10 (bif (!(Option.isNone p8)) then (.join (asSome p8 fun a12 => .act (ld1 (aadd a12 0)) fun v13 => asStr v13 fun s14 => bif (s14.toList == s1.toList) then (asSome p8 fun a15 => .act (ldN 7 (aadd a15 1)) fun v16 => asAgg v16 fun l17 => asCons l17 fun v18 l19 => asInt .i64 v18 fun i20 => asCons l19 fun v21 l22 => asInt .i64 v21 fun i23 => asCons l22 fun v24 l25 => asStr v24 fun s26 => asCons l25 fun v27 l28 => asSlice v27 fun p29 n30 n31 => asCons l28 fun v32 l33 => asInt .i64 v32 fun i34 => asCons l33 fun v35 l36 => asPtr v35 fun p37 => asCons l36 fun v38 l39 => asInt .i64 v38 fun i40 => asNil l39 (.act (stC a4 [(.int .i64 i20), (.int .i64 i23), (.string s26), (.slice p29 n30 n31), (.int .i64 i34), (.pointer p37), (.int .i64 i40)]) fun v41 => asTuple v41 fun l42 => asNil l42 (.ret .ret [(.bool true)]))) else (.ret .normal [(.bool b11)])) (T5k0 p8)) else (.ret (.exit 0) [(.pointer p8), (.bool b11)]))

noncomputable def T5k1 (a4 : Addr) : Ex → List Value → Pg :=
  fun e54 l55 => sw e54 (.exit 0) (asCons l55 fun v56 l57 => asPtr v56 fun p58 => asCons l57 fun v59 l60 => asBool v59 fun b61 => asNil l60 (.act (stC a4 [(.int .i64 0), (.int .i64 0), (.string (bs [])), (.slice none 0 0), (.int .i64 0), (.pointer none), (.int .i64 0)]) fun v62 => asTuple v62 fun l63 => asNil l63 (.act (ldN 7 a4) fun v64 => .ret .ret [(.tuple #[v64, (.bool false)])]))) (sw e54 .ret (asCons l55 fun v65 l66 => asPtr v65 fun p67 => asCons l66 fun v68 l69 => asBool v68 fun b70 => asNil l69 (.act (ldN 7 a4) fun v71 => .ret .ret [(.tuple #[v71, (.bool b70)])])) (.fail))

/-- hindsight/val.Find -/
noncomputable def T5 (p0 : (Option Addr)) (s1 : ByteArray) : Pg :=
  .act (newC [(.int .i64 0), (.int .i64 0), (.string (bs [])), (.slice none 0 0), (.int .i64 0), (.pointer none), (.int .i64 0)]) fun v2 => asPtr v2 fun p3 => asSome p3 fun a4 => .loop [(.pointer p0), (.bool false)] (T5b0 s1 a4) (T5k1 a4)
theorem T5_eq (p0 : (Option Addr)) (s1 : ByteArray) : progOf PROG false 5 [(.pointer p0), (.string s1)] = T5 p0 s1 := by kernel_rfl


noncomputable def T6k0 : Ex → List Value → Pg :=
  fun e26 l27 => sw e26 .normal (asCons l27 fun v28 l29 => asSlice v28 fun p30 n31 n32 => asNil l29 (.ret .normal [(.slice p30 n31 n32)])) (.fail)

noncomputable def T6k1 (p4 : (Option Addr)) : Ex → List Value → Pg :=
  fun e33 l34 => sw e33 .normal (asCons l34 fun v35 l36 => asSlice v35 fun p37 n38 n39 => asNil l36 (asSome p4 fun a40 => .act (ld1 (aadd a40 8)) fun v41 => asPtr v41 fun p42 => .ret .normal [(.pointer p42), (.slice p37 n38 n39)])) (.fail)

noncomputable def T6b0 : List Value → Pg :=
  fun l1 => asCons l1 fun v2 l3 => asPtr v2 fun p4 => asCons l3 fun v5 l6 => asSlice v5 fun p7 n8 n9 => asNil l6 (bif (!(Option.isNone p4)) then (.join (asSome p4 fun a10 => .act (ld1 (aadd a10 0)) fun v11 => asStr v11 fun s12 => .call 10 [(.slice p7 n8 n9), (.string s12)] fun v13 => asBool v13 fun b14 => .join (bif (!b14) then (asSome p4 fun a15 => .act (ld1 (aadd a15 0)) fun v16 => asStr v16 fun s17 => .act (bdSl 1 1 [(.string s17)]) fun v18 => asSlice v18 fun p19 n20 n21 => .act (apS 1 16 p7 n8 n9 p19 n20 n21) fun v22 => asSlice v22 fun p23 n24 n25 => .ret .normal [(.slice p23 n24 n25)]) else (.ret .normal [(.slice p7 n8 n9)])) (T6k0)) (T6k1 p4)) else (.ret (.exit 0) [(.pointer p4), (.slice p7 n8 n9)]))

noncomputable def T6k2 : Ex → List Value → Pg :=
  fun e43 l44 => sw e43 (.exit 0) (asCons l44 fun v45 l46 => asPtr v45 fun p47 => asCons l46 fun v48 l49 => asSlice v48 fun p50 n51 n52 => asNil l49 (.ret .ret [(.slice p50 n51 n52)])) (.fail)

/-- hindsight/val.Names -/
noncomputable def T6 (p0 : (Option Addr)) : Pg :=
  .loop [(.pointer p0), (.slice none 0 0)] (T6b0) (T6k2)
theorem T6_eq (p0 : (Option Addr)) : progOf PROG false 6 [(.pointer p0)] = T6 p0 := by kernel_rfl


noncomputable def T7k0 (a5 : Addr) : Ex → List Value → Pg :=
  fun e141 l142 => sw e141 .ret (asCons l142 fun v143 l144 => asBool v143 fun b145 => asNil l144 (.act (ldN 7 a5) fun v146 => .ret .ret [(.tuple #[v146, (.bool b145)])])) (sw e141 .normal (asCons l142 fun v147 l148 => asBool v147 fun b149 => asNil l148 (.act (stC a5 [(.int .i64 0), (.int .i64 0), (.string (bs [])), (.slice none 0 0), (.int .i64 0), (.pointer none), (.int .i64 0)]) fun v150 => asTuple v150 fun l151 => asNil l151 (.act (ldN 7 a5) fun v152 => .ret .ret [(.tuple #[v152, (.bool false)])]))) (.fail))

/-- hindsight/val.Op -/
noncomputable def T7 (s0 : ByteArray) (i1 : Int) (i2 : Int) : Pg :=
  .act (newC [(.int .i64 0), (.int .i64 0), (.string (bs [])), (.slice none 0 0), (.int .i64 0), (.pointer none), (.int .i64 0)]) fun v3 => asPtr v3 fun p4 => asSome p4 fun a5 => .join (bif (s0.toList == (bs [43]).toList) then (.call 11 [(.int .i64 (wi64 (i1 + i2)))] fun v6 => asAgg v6 fun l7 => asCons l7 fun v8 l9 => asInt .i64 v8 fun i10 => asCons l9 fun v11 l12 => asInt .i64 v11 fun i13 => asCons l12 fun v14 l15 => asStr v14 fun s16 => asCons l15 fun v17 l18 => asSlice v17 fun p19 n20 n21 => asCons l18 fun v22 l23 => asInt .i64 v22 fun i24 => asCons l23 fun v25 l26 => asPtr v25 fun p27 => asCons l26 fun v28 l29 => asInt .i64 v28 fun i30 => asNil l29 (.act (stC a5 [(.int .i64 i10), (.int .i64 i13), (.string s16), (.slice p19 n20 n21), (.int .i64 i24), (.pointer p27), (.int .i64 i30)]) fun v31 => asTuple v31 fun l32 => asNil l32 (.ret .ret [(.bool true)]))) else (bif (s0.toList == (bs [45]).toList) then (.call 11 [(.int .i64 (wi64 (i1 - i2)))] fun v33 => asAgg v33 fun l34 => asCons l34 fun v35 l36 => asInt .i64 v35 fun i37 => asCons l36 fun v38 l39 => asInt .i64 v38 fun i40 => asCons l39 fun v41 l42 => asStr v41 fun s43 => asCons l42 fun v44 l45 => asSlice v44 fun p46 n47 n48 => asCons l45 fun v49 l50 => asInt .i64 v49 fun i51 => asCons l50 fun v52 l53 => asPtr v52 fun p54 => asCons l53 fun v55 l56 => asInt .i64 v55 fun i57 => asNil l56 (.act (stC a5 [(.int .i64 i37), (.int .i64 i40), (.string s43), (.slice p46 n47 n48), (.int .i64 i51), (.pointer p54), (.int .i64 i57)]) fun v58 => asTuple v58 fun l59 => asNil l59 (.ret .ret [(.bool true)]))) else (bif (s0.toList == (bs [42]).toList) then (.call 11 [(.int .i64 (wi64 (i1 * i2)))] fun v60 => asAgg v60 fun l61 => asCons l61 fun v62 l63 => asInt .i64 v62 fun i64 => asCons l63 fun v65 l66 => asInt .i64 v65 fun i67 => asCons l66 fun v68 l69 => asStr v68 fun s70 => asCons l69 fun v71 l72 => asSlice v71 fun p73 n74 n75 => asCons l72 fun v76 l77 => asInt .i64 v76 fun i78 => asCons l77 fun v79 l80 => asPtr v79 fun p81 => asCons l80 fun v82 l83 => asInt .i64 v82 fun i84 => asNil l83 (.act (stC a5 [(.int .i64 i64), (.int .i64 i67), (.string s70), (.slice p73 n74 n75), (.int .i64 i78), (.pointer p81), (.int .i64 i84)]) fun v85 => asTuple v85 fun l86 => asNil l86 (.ret .ret [(.bool true)]))) else (bif (s0.toList == (bs [60]).toList) then (.call 12 [(.bool (decide (i1 < i2)))] fun v87 => asAgg v87 fun l88 => asCons l88 fun v89 l90 => asInt .i64 v89 fun i91 => asCons l90 fun v92 l93 => asInt .i64 v92 fun i94 => asCons l93 fun v95 l96 => asStr v95 fun s97 => asCons l96 fun v98 l99 => asSlice v98 fun p100 n101 n102 => asCons l99 fun v103 l104 => asInt .i64 v103 fun i105 => asCons l104 fun v106 l107 => asPtr v106 fun p108 => asCons l107 fun v109 l110 => asInt .i64 v109 fun i111 => asNil l110 (.act (stC a5 [(.int .i64 i91), (.int .i64 i94), (.string s97), (.slice p100 n101 n102), (.int .i64 i105), (.pointer p108), (.int .i64 i111)]) fun v112 => asTuple v112 fun l113 => asNil l113 (.ret .ret [(.bool true)]))) else (bif (s0.toList == (bs [61]).toList) then (.call 12 [(.bool (i1 == i2))] fun v114 => asAgg v114 fun l115 => asCons l115 fun v116 l117 => asInt .i64 v116 fun i118 => asCons l117 fun v119 l120 => asInt .i64 v119 fun i121 => asCons l120 fun v122 l123 => asStr v122 fun s124 => asCons l123 fun v125 l126 => asSlice v125 fun p127 n128 n129 => asCons l126 fun v130 l131 => asInt .i64 v130 fun i132 => asCons l131 fun v133 l134 => asPtr v133 fun p135 => asCons l134 fun v136 l137 => asInt .i64 v136 fun i138 => asNil l137 (.act (stC a5 [(.int .i64 i118), (.int .i64 i121), (.string s124), (.slice p127 n128 n129), (.int .i64 i132), (.pointer p135), (.int .i64 i138)]) fun v139 => asTuple v139 fun l140 => asNil l140 (.ret .ret [(.bool true)]))) else (.ret .normal [(.bool false)])))))) (T7k0 a5)
theorem T7_eq (s0 : ByteArray) (i1 : Int) (i2 : Int) : progOf PROG false 7 [(.string s0), (.int .i64 i1), (.int .i64 i2)] = T7 s0 i1 i2 := by kernel_rfl


/-- hindsight/val.Wrap -/
noncomputable def T8 (i0 : Int) : Pg :=
  .ret .ret [(.int .i64 (shrI .i64 (shlI .i64 i0 1) 1))]
theorem T8_eq (i0 : Int) : progOf PROG false 8 [(.int .i64 i0)] = T8 i0 := by kernel_rfl


/-- hindsight/val.Render -/
noncomputable def T9 (i0 : Int) (i1 : Int) (s2 : ByteArray) (p3 : (Option Addr)) (n4 : Nat) (n5 : Nat) (i6 : Int) (p7 : (Option Addr)) (i8 : Int) (i9 : Int) (s10 : ByteArray) (i11 : Int) (p12 : (Option Addr)) (n13 : Nat) (n14 : Nat) (p15 : (Option Addr)) (n16 : Nat) (n17 : Nat) (p18 : (Option Addr)) (n19 : Nat) (n20 : Nat) : Pg :=
  .act (newC [(.int .i64 i0), (.int .i64 i1), (.string s2), (.slice p3 n4 n5), (.int .i64 i6), (.pointer p7), (.int .i64 i8)]) fun v21 => asPtr v21 fun p22 => asSome p22 fun a23 => .act (newC [(.int .i64 i9), (.string s10), (.int .i64 i11), (.slice p12 n13 n14)]) fun v24 => asPtr v24 fun p25 => asSome p25 fun a26 => .act (ldN 7 a23) fun v27 => asAgg v27 fun l28 => asCons l28 fun v29 l30 => asInt .i64 v29 fun i31 => asCons l30 fun v32 l33 => asInt .i64 v32 fun i34 => asCons l33 fun v35 l36 => asStr v35 fun s37 => asCons l36 fun v38 l39 => asSlice v38 fun p40 n41 n42 => asCons l39 fun v43 l44 => asInt .i64 v43 fun i45 => asCons l44 fun v46 l47 => asPtr v46 fun p48 => asCons l47 fun v49 l50 => asInt .i64 v49 fun i51 => asNil l50 (.act (ldN 4 a26) fun v52 => asAgg v52 fun l53 => asCons l53 fun v54 l55 => asInt .i64 v54 fun i56 => asCons l55 fun v57 l58 => asStr v57 fun s59 => asCons l58 fun v60 l61 => asInt .i64 v60 fun i62 => asCons l61 fun v63 l64 => asSlice v63 fun p65 n66 n67 => asNil l64 (.call 13 [(.agg #[(.slice p15 n16 n17), (.slice p18 n19 n20)]), (.agg #[(.int .i64 i31), (.int .i64 i34), (.string s37), (.slice p40 n41 n42), (.int .i64 i45), (.pointer p48), (.int .i64 i51)]), (.agg #[(.int .i64 i56), (.string s59), (.int .i64 i62), (.slice p65 n66 n67)]), (.int .i64 0)] fun v68 => asStr v68 fun s69 => .ret .ret [(.string s69)]))
theorem T9_eq (i0 : Int) (i1 : Int) (s2 : ByteArray) (p3 : (Option Addr)) (n4 : Nat) (n5 : Nat) (i6 : Int) (p7 : (Option Addr)) (i8 : Int) (i9 : Int) (s10 : ByteArray) (i11 : Int) (p12 : (Option Addr)) (n13 : Nat) (n14 : Nat) (p15 : (Option Addr)) (n16 : Nat) (n17 : Nat) (p18 : (Option Addr)) (n19 : Nat) (n20 : Nat) : progOf PROG false 9 [(.agg #[(.int .i64 i0), (.int .i64 i1), (.string s2), (.slice p3 n4 n5), (.int .i64 i6), (.pointer p7), (.int .i64 i8)]), (.agg #[(.int .i64 i9), (.string s10), (.int .i64 i11), (.slice p12 n13 n14)]), (.slice p15 n16 n17), (.slice p18 n19 n20)] = T9 i0 i1 s2 p3 n4 n5 i6 p7 i8 i9 s10 i11 p12 n13 n14 p15 n16 n17 p18 n19 n20 := by kernel_rfl


/-- slices.Contains[[]string,string] -/
noncomputable def T10 (p0 : (Option Addr)) (n1 : Nat) (n2 : Nat) (s3 : ByteArray) : Pg :=
  .call 14 [(.slice p0 n1 n2), (.string s3)] fun v4 => asInt .i64 v4 fun i5 => .ret .ret [(.bool (decide (i5 ≥ 0)))]
theorem T10_eq (p0 : (Option Addr)) (n1 : Nat) (n2 : Nat) (s3 : ByteArray) : progOf PROG false 10 [(.slice p0 n1 n2), (.string s3)] = T10 p0 n1 n2 s3 := by kernel_rfl


/-- hindsight/val.Number -/
noncomputable def T11 (i0 : Int) : Pg :=
  .act (newC [(.int .i64 0), (.int .i64 0), (.string (bs [])), (.slice none 0 0), (.int .i64 0), (.pointer none), (.int .i64 0)]) fun v1 => asPtr v1 fun p2 => asSome p2 fun a3 => .call 8 [(.int .i64 i0)] fun v4 => asInt .i64 v4 fun i5 => .act (stC a3 [(.int .i64 1), (.int .i64 i5), (.string (bs [])), (.slice none 0 0), (.int .i64 0), (.pointer none), (.int .i64 0)]) fun v6 => asTuple v6 fun l7 => asNil l7 (.act (ldN 7 a3) fun v8 => .ret .ret [v8])
theorem T11_eq (i0 : Int) : progOf PROG false 11 [(.int .i64 i0)] = T11 i0 := by kernel_rfl


noncomputable def T12k0 (a6 : Addr) (a3 : Addr) : Ex → List Value → Pg :=
  fun e11 l12 => sw e11 .normal (asNil l12 (.act (ldN 7 a6) fun v13 => asAgg v13 fun l14 => asCons l14 fun v15 l16 => asInt .i64 v15 fun i17 => asCons l16 fun v18 l19 => asInt .i64 v18 fun i20 => asCons l19 fun v21 l22 => asStr v21 fun s23 => asCons l22 fun v24 l25 => asSlice v24 fun p26 n27 n28 => asCons l25 fun v29 l30 => asInt .i64 v29 fun i31 => asCons l30 fun v32 l33 => asPtr v32 fun p34 => asCons l33 fun v35 l36 => asInt .i64 v35 fun i37 => asNil l36 (.act (stC a3 [(.int .i64 i17), (.int .i64 i20), (.string s23), (.slice p26 n27 n28), (.int .i64 i31), (.pointer p34), (.int .i64 i37)]) fun v38 => asTuple v38 fun l39 => asNil l39 (.act (ldN 7 a3) fun v40 => .ret .ret [v40])))) (.fail)

/-- hindsight/val.truth -/
noncomputable def T12 (b0 : Bool) : Pg :=
  .act (newC [(.int .i64 0), (.int .i64 0), (.string (bs [])), (.slice none 0 0), (.int .i64 0), (.pointer none), (.int .i64 0)]) fun v1 => asPtr v1 fun p2 => asSome p2 fun a3 => .act (newC [(.int .i64 0), (.int .i64 0), (.string (bs [])), (.slice none 0 0), (.int .i64 0), (.pointer none), (.int .i64 0)]) fun v4 => asPtr v4 fun p5 => asSome p5 fun a6 => .act (stC a6 [(.int .i64 2), (.int .i64 0), (.string (bs [])), (.slice none 0 0), (.int .i64 0), (.pointer none), (.int .i64 0)]) fun v7 => asTuple v7 fun l8 => asNil l8 (.join (bif b0 then (.act (stC (aadd a6 1) [(.int .i64 1)]) fun v9 => asTuple v9 fun l10 => asNil l10 (.ret .normal [])) else (.ret .normal [])) (T12k0 a6 a3))
theorem T12_eq (b0 : Bool) : progOf PROG false 12 [(.bool b0)] = T12 b0 := by kernel_rfl


noncomputable def T13k0 : Ex → List Value → Pg :=
  fun e158 l159 => sw e158 .ret (asCons l159 fun v160 l161 => asStr v160 fun s162 => asNil l161 (.ret .ret [(.string s162)])) (sw e158 .normal (asCons l159 fun v163 l164 => asStr v163 fun s165 => asNil l164 (.ret .ret [(.string (bs [63]))])) (.fail))

noncomputable def T13k1 (a27 : Addr) (a24 : Addr) (a30 : Addr) (i21 : Int) : Ex → List Value → Pg :=
  fun e40 l41 => sw e40 .ret (asCons l41 fun v42 l43 => asStr v42 fun s44 => asNil l43 (.ret .ret [(.string s44)])) (sw e40 .normal (asCons l41 fun v45 l46 => asStr v45 fun s47 => asNil l46 (.act (ld1 (aadd a27 0)) fun v48 => asInt .i64 v48 fun i49 => .join (bif (i49 == 1) then (.act (ld1 (aadd a27 1)) fun v50 => asInt .i64 v50 fun i51 => .call 16 [(.int .i64 i51), (.int .i64 10)] fun v52 => asStr v52 fun s53 => .ret .ret [(.string s53)]) else (bif (i49 == 2) then (.act (ld1 (aadd a27 1)) fun v54 => asInt .i64 v54 fun i55 => .call 17 [(.bool (i55 == 1))] fun v56 => asStr v56 fun s57 => .ret .ret [(.string s57)]) else (bif (i49 == 3) then (.ret .ret [(.string (bs [40, 41]))]) else (bif (i49 == 5) then (.ret .ret [(.string (bs [60, 102, 117, 110, 62]))]) else (bif (i49 == 6) then (.act (ldN 2 a24) fun v58 => asAgg v58 fun l59 => asCons l59 fun v60 l61 => asSlice v60 fun p62 n63 n64 => asCons l61 fun v65 l66 => asSlice v65 fun p67 n68 n69 => asNil l66 (.act (ldN 7 a27) fun v70 => asAgg v70 fun l71 => asCons l71 fun v72 l73 => asInt .i64 v72 fun i74 => asCons l73 fun v75 l76 => asInt .i64 v75 fun i77 => asCons l76 fun v78 l79 => asStr v78 fun s80 => asCons l79 fun v81 l82 => asSlice v81 fun p83 n84 n85 => asCons l82 fun v86 l87 => asInt .i64 v86 fun i88 => asCons l87 fun v89 l90 => asPtr v89 fun p91 => asCons l90 fun v92 l93 => asInt .i64 v92 fun i94 => asNil l93 (.act (ldN 4 a30) fun v95 => asAgg v95 fun l96 => asCons l96 fun v97 l98 => asInt .i64 v97 fun i99 => asCons l98 fun v100 l101 => asStr v100 fun s102 => asCons l101 fun v103 l104 => asInt .i64 v103 fun i105 => asCons l104 fun v106 l107 => asSlice v106 fun p108 n109 n110 => asNil l107 (.call 18 [(.agg #[(.slice p62 n63 n64), (.slice p67 n68 n69)]), (.agg #[(.int .i64 i74), (.int .i64 i77), (.string s80), (.slice p83 n84 n85), (.int .i64 i88), (.pointer p91), (.int .i64 i94)]), (.agg #[(.int .i64 i99), (.string s102), (.int .i64 i105), (.slice p108 n109 n110)]), (.int .i64 i21)] fun v111 => asStr v111 fun s112 => .ret .ret [(.string s112)])))) else (bif (i49 == 4) then (.act (ld1 (aadd a27 3)) fun v113 => asSlice v113 fun p114 n115 n116 => bif (decide (((n115 : Nat) : Int) > 0)) then (.act (ldN 2 a24) fun v117 => asAgg v117 fun l118 => asCons l118 fun v119 l120 => asSlice v119 fun p121 n122 n123 => asCons l120 fun v124 l125 => asSlice v124 fun p126 n127 n128 => asNil l125 (.act (ldN 7 a27) fun v129 => asAgg v129 fun l130 => asCons l130 fun v131 l132 => asInt .i64 v131 fun i133 => asCons l132 fun v134 l135 => asInt .i64 v134 fun i136 => asCons l135 fun v137 l138 => asStr v137 fun s139 => asCons l138 fun v140 l141 => asSlice v140 fun p142 n143 n144 => asCons l141 fun v145 l146 => asInt .i64 v145 fun i147 => asCons l146 fun v148 l149 => asPtr v148 fun p150 => asCons l149 fun v151 l152 => asInt .i64 v151 fun i153 => asNil l152 (.call 19 [(.agg #[(.slice p121 n122 n123), (.slice p126 n127 n128)]), (.agg #[(.int .i64 i133), (.int .i64 i136), (.string s139), (.slice p142 n143 n144), (.int .i64 i147), (.pointer p150), (.int .i64 i153)]), (.int .i64 i21)] fun v154 => asStr v154 fun s155 => .ret .ret [(.string s155)]))) else (.act (ld1 (aadd a27 2)) fun v156 => asStr v156 fun s157 => .ret .ret [(.string s157)])) else (.ret .normal [(.string s47)]))))))) (T13k0))) (.fail))

/-- (hindsight/val.renderer).value -/
noncomputable def T13 (p0 : (Option Addr)) (n1 : Nat) (n2 : Nat) (p3 : (Option Addr)) (n4 : Nat) (n5 : Nat) (i6 : Int) (i7 : Int) (s8 : ByteArray) (p9 : (Option Addr)) (n10 : Nat) (n11 : Nat) (i12 : Int) (p13 : (Option Addr)) (i14 : Int) (i15 : Int) (s16 : ByteArray) (i17 : Int) (p18 : (Option Addr)) (n19 : Nat) (n20 : Nat) (i21 : Int) : Pg :=
  .act (newC [(.slice p0 n1 n2), (.slice p3 n4 n5)]) fun v22 => asPtr v22 fun p23 => asSome p23 fun a24 => .act (newC [(.int .i64 i6), (.int .i64 i7), (.string s8), (.slice p9 n10 n11), (.int .i64 i12), (.pointer p13), (.int .i64 i14)]) fun v25 => asPtr v25 fun p26 => asSome p26 fun a27 => .act (newC [(.int .i64 i15), (.string s16), (.int .i64 i17), (.slice p18 n19 n20)]) fun v28 => asPtr v28 fun p29 => asSome p29 fun a30 => .join (bif (decide (i21 ≥ 50)) then (.ret .ret [(.string (bs [46, 46]))]) else (.act (ld1 (aadd a30 0)) fun v31 => asInt .i64 v31 fun i32 => bif (i32 == 7) then (.ret .ret [(.string (bs [60, 112, 111, 108, 121, 62]))]) else (.act (ld1 (aadd a27 0)) fun v33 => asInt .i64 v33 fun i34 => .act (ld1 (aadd a30 0)) fun v35 => asInt .i64 v35 fun i36 => .call 15 [(.int .i64 i36)] fun v37 => asInt .i64 v37 fun i38 => .get fun h39 => grd (chks [((ld1 (aadd a27 0)), v33)] h39) (bif (i34 != i38) then (.ret .ret [(.string (bs [63]))]) else (.ret .normal [(.string (bs []))]))))) (T13k1 a27 a24 a30 i21)
theorem T13_eq (p0 : (Option Addr)) (n1 : Nat) (n2 : Nat) (p3 : (Option Addr)) (n4 : Nat) (n5 : Nat) (i6 : Int) (i7 : Int) (s8 : ByteArray) (p9 : (Option Addr)) (n10 : Nat) (n11 : Nat) (i12 : Int) (p13 : (Option Addr)) (i14 : Int) (i15 : Int) (s16 : ByteArray) (i17 : Int) (p18 : (Option Addr)) (n19 : Nat) (n20 : Nat) (i21 : Int) : progOf PROG false 13 [(.agg #[(.slice p0 n1 n2), (.slice p3 n4 n5)]), (.agg #[(.int .i64 i6), (.int .i64 i7), (.string s8), (.slice p9 n10 n11), (.int .i64 i12), (.pointer p13), (.int .i64 i14)]), (.agg #[(.int .i64 i15), (.string s16), (.int .i64 i17), (.slice p18 n19 n20)]), (.int .i64 i21)] = T13 p0 n1 n2 p3 n4 n5 i6 i7 s8 p9 n10 n11 i12 p13 i14 i15 s16 i17 p18 n19 n20 i21 := by kernel_rfl


noncomputable def T14k0 (i7 : Int) : Ex → List Value → Pg :=
  fun e14 l15 => sw e14 .ret (asCons l15 fun v16 l17 => asInt .i64 v16 fun i18 => asNil l17 (.ret .ret [(.int .i64 i7), (.int .i64 i18)])) (sw e14 .normal (asCons l15 fun v19 l20 => asInt .i64 v19 fun i21 => asNil l20 (.ret .normal [(.int .i64 (wi64 (i7 + 1))), (.int .i64 i21)])) (.fail))

noncomputable def T14b0 (n1 : Nat) (p0 : (Option Addr)) (s3 : ByteArray) : List Value → Pg :=
  fun l4 => asCons l4 fun v5 l6 => asInt .i64 v5 fun i7 => asCons l6 fun v8 l9 => asInt .i64 v8 fun i10 => asNil l9 (bif (decide (i7 < ((n1 : Nat) : Int))) then (.join (asSome p0 fun a11 => grd ((decide (0 ≤ i7)) && (decide (i7 < ((n1 : Nat) : Int)))) (.act (ld1 (aadd a11 ((Int.toNat i7) * 1))) fun v12 => asStr v12 fun s13 => bif (s3.toList == s13.toList) then (.ret .ret [(.int .i64 i7)]) else (.ret .normal [(.int .i64 i10)]))) (T14k0 i7)) else (.ret (.exit 0) [(.int .i64 i7), (.int .i64 i10)]))

noncomputable def T14k1 : Ex → List Value → Pg :=
  fun e22 l23 => sw e22 (.exit 0) (asCons l23 fun v24 l25 => asInt .i64 v24 fun i26 => asCons l25 fun v27 l28 => asInt .i64 v27 fun i29 => asNil l28 (.ret .ret [(.int .i64 (-1))])) (sw e22 .ret (asCons l23 fun v30 l31 => asInt .i64 v30 fun i32 => asCons l31 fun v33 l34 => asInt .i64 v33 fun i35 => asNil l34 (.ret .ret [(.int .i64 i35)])) (.fail))

/-- slices.Index[[]string,string] -/
noncomputable def T14 (p0 : (Option Addr)) (n1 : Nat) (n2 : Nat) (s3 : ByteArray) : Pg :=
  .loop [(.int .i64 0), (.int .i64 0)] (T14b0 n1 p0 s3) (T14k1)
theorem T14_eq (p0 : (Option Addr)) (n1 : Nat) (n2 : Nat) (s3 : ByteArray) : progOf PROG false 14 [(.slice p0 n1 n2), (.string s3)] = T14 p0 n1 n2 s3 := by kernel_rfl


noncomputable def T15k0 : Ex → List Value → Pg :=
  fun e1 l2 => sw e1 .ret (asCons l2 fun v3 l4 => asInt .i64 v3 fun i5 => asNil l4 (.ret .ret [(.int .i64 i5)])) (sw e1 .normal (asCons l2 fun v6 l7 => asInt .i64 v6 fun i8 => asNil l7 (.ret .ret [(.int .i64 0)])) (.fail))

/-- hindsight/val.fits -/
noncomputable def T15 (i0 : Int) : Pg :=
  .join (bif (i0 == 1) then (.ret .ret [(.int .i64 1)]) else (bif (i0 == 2) then (.ret .ret [(.int .i64 2)]) else (bif (i0 == 3) then (.ret .ret [(.int .i64 3)]) else (bif (i0 == 4) then (.ret .ret [(.int .i64 4)]) else (bif (i0 == 5) then (.ret .ret [(.int .i64 5)]) else (bif (i0 == 6) then (.ret .ret [(.int .i64 6)]) else (.ret .normal [(.int .i64 0)]))))))) (T15k0)
theorem T15_eq (i0 : Int) : progOf PROG false 15 [(.int .i64 i0)] = T15 i0 := by kernel_rfl


/-- strconv.FormatInt -/
noncomputable def T16 (i0 : Int) (i1 : Int) : Pg :=
  .call 20 [(.int .i64 i0), (.int .i64 i1)] fun v2 => asStr v2 fun s3 => .ret .ret [(.string s3)]
theorem T16_eq (i0 : Int) (i1 : Int) : progOf PROG false 16 [(.int .i64 i0), (.int .i64 i1)] = T16 i0 i1 := by kernel_rfl


/-- strconv.FormatBool -/
noncomputable def T17 (b0 : Bool) : Pg :=
  .call 21 [(.bool b0)] fun v1 => asStr v1 fun s2 => .ret .ret [(.string s2)]
theorem T17_eq (b0 : Bool) : progOf PROG false 17 [(.bool b0)] = T17 b0 := by kernel_rfl


noncomputable def T20k0 (a6 : Addr) (i0 : Int) : Ex → List Value → Pg :=
  fun e7 l8 => sw e7 .normal (asCons l8 fun v9 l10 => asInt .u64 v9 fun i11 => asNil l10 (.call 27 [(.int .u64 i11)] fun v12 => asInt .i64 v12 fun i13 => grd ((decide (1 ≤ (wi64 (1 + i13)))) && (decide ((wi64 (1 + i13)) ≤ 24))) (.call 28 [(.slice (some (aadd (asRow a6 1) 1)) ((Int.toNat (wi64 (1 + i13))) - 1) 23), (.int .u64 i11)] fun v14 => asTuple v14 fun l15 => asNil l15 (bif (decide (i0 < 0)) then (.act (stC (aadd a6 0) [(.int .u8 45)]) fun v16 => asTuple v16 fun l17 => asNil l17 (grd ((decide (0 ≤ (wi64 (1 + i13)))) && (decide ((wi64 (1 + i13)) ≤ 24))) (.act (bytesToStringAct (.slice (some (aadd (asRow a6 1) 0)) (Int.toNat (wi64 (1 + i13))) 24)) fun v18 => asStr v18 fun s19 => .ret .ret [(.string s19)]))) else (grd ((decide (1 ≤ (wi64 (1 + i13)))) && (decide ((wi64 (1 + i13)) ≤ 24))) (.act (bytesToStringAct (.slice (some (aadd (asRow a6 1) 1)) ((Int.toNat (wi64 (1 + i13))) - 1) 23)) fun v20 => asStr v20 fun s21 => .ret .ret [(.string s21)])))))) (.fail)

/-- internal/strconv.FormatInt -/
noncomputable def T20 (i0 : Int) (i1 : Int) : Pg :=
  bif (i1 == 10) then (bif ((decide (0 ≤ i0)) && (decide (i0 < 100))) then (.call 26 [(.int .i64 i0)] fun v2 => asStr v2 fun s3 => .ret .ret [(.string s3)]) else (.act (newC [(.int .u8 0), (.int .u8 0), (.int .u8 0), (.int .u8 0), (.int .u8 0), (.int .u8 0), (.int .u8 0), (.int .u8 0), (.int .u8 0), (.int .u8 0), (.int .u8 0), (.int .u8 0), (.int .u8 0), (.int .u8 0), (.int .u8 0), (.int .u8 0), (.int .u8 0), (.int .u8 0), (.int .u8 0), (.int .u8 0), (.int .u8 0), (.int .u8 0), (.int .u8 0), (.int .u8 0)]) fun v4 => asPtr v4 fun p5 => asSome p5 fun a6 => .join (bif (decide (i0 < 0)) then (.ret .normal [(.int .u64 (wu64 (0 - (wu64 i0))))]) else (.ret .normal [(.int .u64 (wu64 i0))])) (T20k0 a6 i0))) else (.call 29 [(.slice none 0 0), (.int .u64 (wu64 i0)), (.int .i64 i1), (.bool (decide (i0 < 0))), (.bool false)] fun v22 => asTuple v22 fun l23 => asCons l23 fun v24 l25 => asSlice v24 fun p26 n27 n28 => asCons l25 fun v29 l30 => asStr v29 fun s31 => asNil l30 (.ret .ret [(.string s31)]))
theorem T20_eq (i0 : Int) (i1 : Int) : progOf PROG false 20 [(.int .i64 i0), (.int .i64 i1)] = T20 i0 i1 := by kernel_rfl


/-- internal/strconv.FormatBool -/
noncomputable def T21 (b0 : Bool) : Pg :=
  bif b0 then (.ret .ret [(.string (bs [116, 114, 117, 101]))]) else (.ret .ret [(.string (bs [102, 97, 108, 115, 101]))])
theorem T21_eq (b0 : Bool) : progOf PROG false 21 [(.bool b0)] = T21 b0 := by kernel_rfl

noncomputable def A3 : List Value → Option Pg
  | [(.slice p0 n1 n2), (.string s3)] => some (T3 p0 n1 n2 s3)
  | _ => none
theorem A3_ok : ∀ args p, A3 args = some p → progOf PROG false 3 args = p := by
  intro args p h
  unfold A3 at h
  split at h
  · cases h; exact T3_eq _ _ _ _
  · cases h
noncomputable def A4 : List Value → Option Pg
  | [] => some (T4)
  | _ => none
theorem A4_ok : ∀ args p, A4 args = some p → progOf PROG false 4 args = p := by
  intro args p h
  unfold A4 at h
  split at h
  · cases h; exact T4_eq 
  · cases h
noncomputable def A5 : List Value → Option Pg
  | [(.pointer p0), (.string s1)] => some (T5 p0 s1)
  | _ => none
theorem A5_ok : ∀ args p, A5 args = some p → progOf PROG false 5 args = p := by
  intro args p h
  unfold A5 at h
  split at h
  · cases h; exact T5_eq _ _
  · cases h
noncomputable def A6 : List Value → Option Pg
  | [(.pointer p0)] => some (T6 p0)
  | _ => none
theorem A6_ok : ∀ args p, A6 args = some p → progOf PROG false 6 args = p := by
  intro args p h
  unfold A6 at h
  split at h
  · cases h; exact T6_eq _
  · cases h
noncomputable def A7 : List Value → Option Pg
  | [(.string s0), (.int .i64 i1), (.int .i64 i2)] => some (T7 s0 i1 i2)
  | _ => none
theorem A7_ok : ∀ args p, A7 args = some p → progOf PROG false 7 args = p := by
  intro args p h
  unfold A7 at h
  split at h
  · cases h; exact T7_eq _ _ _
  · cases h
noncomputable def A8 : List Value → Option Pg
  | [(.int .i64 i0)] => some (T8 i0)
  | _ => none
theorem A8_ok : ∀ args p, A8 args = some p → progOf PROG false 8 args = p := by
  intro args p h
  unfold A8 at h
  split at h
  · cases h; exact T8_eq _
  · cases h
noncomputable def A9 : List Value → Option Pg
  | [(.agg c0), (.agg c1), (.slice p15 n16 n17), (.slice p18 n19 n20)] => (match c0.toList with
    | [(.int .i64 i0), (.int .i64 i1), (.string s2), (.slice p3 n4 n5), (.int .i64 i6), (.pointer p7), (.int .i64 i8)] => (match c1.toList with
    | [(.int .i64 i9), (.string s10), (.int .i64 i11), (.slice p12 n13 n14)] => some (T9 i0 i1 s2 p3 n4 n5 i6 p7 i8 i9 s10 i11 p12 n13 n14 p15 n16 n17 p18 n19 n20)
    | _ => none)
    | _ => none)
  | _ => none
theorem A9_ok : ∀ args p, A9 args = some p → progOf PROG false 9 args = p := by
  intro args p h
  unfold A9 at h
  split at h
  · split at h
    · split at h
      · rename_i e0 d1 x1_0 x1_1 x1_2 x1_3 x1_4 x1_5 e1
        have f0 := agg_of e0
        subst f0
        have f1 := agg_of e1
        subst f1
        cases h
        exact T9_eq _ _ _ _ _ _ _ _ _ _ _ _ _ _ _ _ _ _ _ _ _
      · cases h
    · cases h
  · cases h
noncomputable def A10 : List Value → Option Pg
  | [(.slice p0 n1 n2), (.string s3)] => some (T10 p0 n1 n2 s3)
  | _ => none
theorem A10_ok : ∀ args p, A10 args = some p → progOf PROG false 10 args = p := by
  intro args p h
  unfold A10 at h
  split at h
  · cases h; exact T10_eq _ _ _ _
  · cases h
noncomputable def A11 : List Value → Option Pg
  | [(.int .i64 i0)] => some (T11 i0)
  | _ => none
theorem A11_ok : ∀ args p, A11 args = some p → progOf PROG false 11 args = p := by
  intro args p h
  unfold A11 at h
  split at h
  · cases h; exact T11_eq _
  · cases h
noncomputable def A12 : List Value → Option Pg
  | [(.bool b0)] => some (T12 b0)
  | _ => none
theorem A12_ok : ∀ args p, A12 args = some p → progOf PROG false 12 args = p := by
  intro args p h
  unfold A12 at h
  split at h
  · cases h; exact T12_eq _
  · cases h
noncomputable def A13 : List Value → Option Pg
  | [(.agg c0), (.agg c1), (.agg c2), (.int .i64 i21)] => (match c0.toList with
    | [(.slice p0 n1 n2), (.slice p3 n4 n5)] => (match c1.toList with
    | [(.int .i64 i6), (.int .i64 i7), (.string s8), (.slice p9 n10 n11), (.int .i64 i12), (.pointer p13), (.int .i64 i14)] => (match c2.toList with
    | [(.int .i64 i15), (.string s16), (.int .i64 i17), (.slice p18 n19 n20)] => some (T13 p0 n1 n2 p3 n4 n5 i6 i7 s8 p9 n10 n11 i12 p13 i14 i15 s16 i17 p18 n19 n20 i21)
    | _ => none)
    | _ => none)
    | _ => none)
  | _ => none
theorem A13_ok : ∀ args p, A13 args = some p → progOf PROG false 13 args = p := by
  intro args p h
  unfold A13 at h
  split at h
  · split at h
    · split at h
      · split at h
        · rename_i e0 d1 x1_0 x1_1 x1_2 x1_3 x1_4 x1_5 x1_6 x1_7 x1_8 e1 d2 x2_0 x2_1 x2_2 x2_3 x2_4 x2_5 e2
          have f0 := agg_of e0
          subst f0
          have f1 := agg_of e1
          subst f1
          have f2 := agg_of e2
          subst f2
          cases h
          exact T13_eq _ _ _ _ _ _ _ _ _ _ _ _ _ _ _ _ _ _ _ _ _ _
        · cases h
      · cases h
    · cases h
  · cases h
noncomputable def A14 : List Value → Option Pg
  | [(.slice p0 n1 n2), (.string s3)] => some (T14 p0 n1 n2 s3)
  | _ => none
theorem A14_ok : ∀ args p, A14 args = some p → progOf PROG false 14 args = p := by
  intro args p h
  unfold A14 at h
  split at h
  · cases h; exact T14_eq _ _ _ _
  · cases h
noncomputable def A15 : List Value → Option Pg
  | [(.int .i64 i0)] => some (T15 i0)
  | _ => none
theorem A15_ok : ∀ args p, A15 args = some p → progOf PROG false 15 args = p := by
  intro args p h
  unfold A15 at h
  split at h
  · cases h; exact T15_eq _
  · cases h
noncomputable def A16 : List Value → Option Pg
  | [(.int .i64 i0), (.int .i64 i1)] => some (T16 i0 i1)
  | _ => none
theorem A16_ok : ∀ args p, A16 args = some p → progOf PROG false 16 args = p := by
  intro args p h
  unfold A16 at h
  split at h
  · cases h; exact T16_eq _ _
  · cases h
noncomputable def A17 : List Value → Option Pg
  | [(.bool b0)] => some (T17 b0)
  | _ => none
theorem A17_ok : ∀ args p, A17 args = some p → progOf PROG false 17 args = p := by
  intro args p h
  unfold A17 at h
  split at h
  · cases h; exact T17_eq _
  · cases h
noncomputable def A20 : List Value → Option Pg
  | [(.int .i64 i0), (.int .i64 i1)] => some (T20 i0 i1)
  | _ => none
theorem A20_ok : ∀ args p, A20 args = some p → progOf PROG false 20 args = p := by
  intro args p h
  unfold A20 at h
  split at h
  · cases h; exact T20_eq _ _
  · cases h
noncomputable def A21 : List Value → Option Pg
  | [(.bool b0)] => some (T21 b0)
  | _ => none
theorem A21_ok : ∀ args p, A21 args = some p → progOf PROG false 21 args = p := by
  intro args p h
  unfold A21 at h
  split at h
  · cases h; exact T21_eq _
  · cases h
noncomputable def TAB : Tab := (.low 10 (.low 6 (.low 4 (.one 3 A3 (.one 4 A4 .nil)) (.one 5 A5 (.one 6 A6 .nil))) (.low 8 (.one 7 A7 (.one 8 A8 .nil)) (.one 9 A9 (.one 10 A10 .nil)))) (.low 14 (.low 12 (.one 11 A11 (.one 12 A12 .nil)) (.one 13 A13 (.one 14 A14 .nil))) (.low 16 (.one 15 A15 (.one 16 A16 .nil)) (.one 17 A17 (.one 20 A20 (.one 21 A21 .nil))))))
theorem TAB_ok : TabOK PROG TAB := (.low (.low (.low (.one A3_ok (.one A4_ok .nil)) (.one A5_ok (.one A6_ok .nil))) (.low (.one A7_ok (.one A8_ok .nil)) (.one A9_ok (.one A10_ok .nil)))) (.low (.low (.one A11_ok (.one A12_ok .nil)) (.one A13_ok (.one A14_ok .nil))) (.low (.one A15_ok (.one A16_ok .nil)) (.one A17_ok (.one A20_ok (.one A21_ok .nil))))))

end Go.Pg
