/- The trees of the functions that the laws reach, written out by program; each is shown to be the function's own; then their table. -/
import Derived.Test.YteelimkplbfiiaaProg
import Derived.KernelRfl
import Derived.Test.YteelimkplbfiiaaPg3
namespace Go.Pg
open Go.Proofs
set_option linter.unusedVariables false
noncomputable abbrev PROG : Program := Try.prog
noncomputable def T3k0 (b27 : Bool) : Ex → List Value → Pg :=
  fun e51 l52 => sw e51 .normal (asCons l52 fun v53 l54 => asBool v53 fun b55 => asNil l54 (bif b55 then (.ret .ret [(.bool false)]) else (.ret .normal [(.bool b27)]))) (.fail)

noncomputable def T3k1 (i30 : Int) (p3 : (Option Addr)) (i24 : Int) (n4 : Nat) (p17 : (Option Addr)) (b27 : Bool) : Ex → List Value → Pg :=
  fun e41 l42 => sw e41 .normal (asCons l42 fun v43 l44 => asBool v43 fun b45 => asNil l44 (bif b45 then (.ret .ret [(.bool false)]) else (.join (bif (decide ((andI .i64 i30 7) > 0)) == true then (asSome p3 fun a46 => grd ((decide (0 ≤ i24)) && (decide (i24 < ((n4 : Nat) : Int)))) (.act (ld1 (aadd a46 ((Int.toNat i24) * 1))) fun v47 => asInt .u64 v47 fun i48 => .call 11 [(.pointer p17), (.int .i64 (wi64 ((andI .i64 i30 7) - 1))), (.int .u64 (wu64 (i48 + 1)))] fun v49 => asInt .i64 v49 fun i50 => .ret .normal [(.bool (i50 != 0))])) else (.ret .normal [(.bool false)])) (T3k0 b27)))) (.fail)

noncomputable def T3k2 (i24 : Int) : Ex → List Value → Pg :=
  fun e56 l57 => sw e56 .ret (asCons l57 fun v58 l59 => asBool v58 fun b60 => asNil l59 (.ret .ret [(.int .i64 i24), (.bool b60)])) (sw e56 .normal (asCons l57 fun v61 l62 => asBool v61 fun b63 => asNil l62 (.ret .normal [(.int .i64 (wi64 (i24 + 1))), (.bool b63)])) (.fail))

noncomputable def T3b0 (n1 : Nat) (p0 : (Option Addr)) (p17 : (Option Addr)) (p3 : (Option Addr)) (n4 : Nat) : List Value → Pg :=
  fun l21 => asCons l21 fun v22 l23 => asInt .i64 v22 fun i24 => asCons l23 fun v25 l26 => asBool v25 fun b27 => asNil l26 (bif (decide (i24 < ((n1 : Nat) : Int))) then (.join (asSome p0 fun a28 => grd ((decide (0 ≤ i24)) && (decide (i24 < ((n1 : Nat) : Int)))) (.act (ld1 (aadd a28 ((Int.toNat i24) * 1))) fun v29 => asInt .i64 v29 fun i30 => .join (asSome p0 fun a31 => grd ((decide (0 ≤ i24)) && (decide (i24 < ((n1 : Nat) : Int)))) (.act (ld1 (aadd a31 ((Int.toNat i24) * 1))) fun v32 => asInt .i64 v32 fun i33 => .call 9 [(.pointer p17), (.int .i64 i24), (.int .i64 i33), (.int .i64 (andI .i64 i30 7))] fun v34 => asInt .i64 v34 fun i35 => bif (i35 != 0) == false then (asSome p3 fun a36 => grd ((decide (0 ≤ i24)) && (decide (i24 < ((n4 : Nat) : Int)))) (.act (ld1 (aadd a36 ((Int.toNat i24) * 1))) fun v37 => asInt .u64 v37 fun i38 => .call 10 [(.pointer p17), (.int .u64 i38)] fun v39 => asInt .i64 v39 fun i40 => .ret .normal [(.bool (i40 != 0))])) else (.ret .normal [(.bool true)]))) (T3k1 i30 p3 i24 n4 p17 b27))) (T3k2 i24)) else (.ret (.exit 0) [(.int .i64 i24), (.bool b27)]))

noncomputable def T3k3 (b78 : Bool) : Ex → List Value → Pg :=
  fun e93 l94 => sw e93 .normal (asCons l94 fun v95 l96 => asBool v95 fun b97 => asNil l96 (bif b97 then (.ret .ret [(.bool false)]) else (.ret .normal [(.bool b78)]))) (.fail)

noncomputable def T3k4 (b105 : Bool) : Ex → List Value → Pg :=
  fun e133 l134 => sw e133 .normal (asCons l134 fun v135 l136 => asBool v135 fun b137 => asNil l136 (bif b137 then (.ret .ret [(.bool false)]) else (.ret .normal [(.bool b105)]))) (.fail)

noncomputable def T3k5 (p17 : (Option Addr)) (p3 : (Option Addr)) (i75 : Int) (n4 : Nat) (p0 : (Option Addr)) (n1 : Nat) : Ex → List Value → Pg :=
  fun e98 l99 => sw e98 .ret (asCons l99 fun v100 l101 => asBool v100 fun b102 => asNil l101 (.ret .ret [(.bool b102)])) (sw e98 .normal (asCons l99 fun v103 l104 => asBool v103 fun b105 => asNil l104 (.call 13 [(.pointer p17)] fun v106 => asTuple v106 fun l107 => asCons l107 fun v108 l109 => asInt .u64 v108 fun i110 => asCons l109 fun v111 l112 => asInt .i64 v111 fun i113 => asNil l112 (.call 14 [(.pointer p17)] fun v114 => asTuple v114 fun l115 => asCons l115 fun v116 l117 => asInt .i64 v116 fun i118 => asCons l117 fun v119 l120 => asInt .i64 v119 fun i121 => asCons l120 fun v122 l123 => asInt .i64 v122 fun i124 => asNil l123 (.join (bif ((i113 != 0) || (i124 != 0)) == false then (asSome p3 fun a125 => grd ((decide (0 ≤ i75)) && (decide (i75 < ((n4 : Nat) : Int)))) (.act (ld1 (aadd a125 ((Int.toNat i75) * 1))) fun v126 => asInt .u64 v126 fun i127 => bif ((i110 != i127) || (i118 != i75)) == false then (asSome p0 fun a128 => grd ((decide (0 ≤ i75)) && (decide (i75 < ((n1 : Nat) : Int)))) (.act (ld1 (aadd a128 ((Int.toNat i75) * 1))) fun v129 => asInt .i64 v129 fun i130 => bif (i121 != i130) == false then (.call 15 [(.pointer p17)] fun v131 => asInt .i64 v131 fun i132 => .ret .normal [(.bool (i132 != i75))]) else (.ret .normal [(.bool true)]))) else (.ret .normal [(.bool true)]))) else (.ret .normal [(.bool true)])) (T3k4 b105))))) (.fail))

noncomputable def T3k6 (i75 : Int) : Ex → List Value → Pg :=
  fun e138 l139 => sw e138 .ret (asCons l139 fun v140 l141 => asBool v140 fun b142 => asNil l141 (.ret .ret [(.int .i64 i75), (.bool b142)])) (sw e138 .normal (asCons l139 fun v143 l144 => asBool v143 fun b145 => asNil l144 (.ret .normal [(.int .i64 (wi64 (i75 - 1))), (.bool b145)])) (.fail))

noncomputable def T3b1 (p0 : (Option Addr)) (n1 : Nat) (p17 : (Option Addr)) (p3 : (Option Addr)) (n4 : Nat) : List Value → Pg :=
  fun l72 => asCons l72 fun v73 l74 => asInt .i64 v73 fun i75 => asCons l74 fun v76 l77 => asBool v76 fun b78 => asNil l77 (bif (decide (i75 ≥ 0)) then (.join (asSome p0 fun a79 => grd ((decide (0 ≤ i75)) && (decide (i75 < ((n1 : Nat) : Int)))) (.act (ld1 (aadd a79 ((Int.toNat i75) * 1))) fun v80 => asInt .i64 v80 fun i81 => .join (bif (decide ((andI .i64 i81 7) > 0)) then (.call 12 [(.pointer p17), (.int .i64 (wi64 ((andI .i64 i81 7) - 1)))] fun v82 => asTuple v82 fun l83 => asCons l83 fun v84 l85 => asInt .u64 v84 fun i86 => asCons l85 fun v87 l88 => asInt .i64 v87 fun i89 => asNil l88 (.join (bif (i89 != 0) == false then (asSome p3 fun a90 => grd ((decide (0 ≤ i75)) && (decide (i75 < ((n4 : Nat) : Int)))) (.act (ld1 (aadd a90 ((Int.toNat i75) * 1))) fun v91 => asInt .u64 v91 fun i92 => .ret .normal [(.bool (i86 != (wu64 (i92 + 1))))])) else (.ret .normal [(.bool true)])) (T3k3 b78))) else (.ret .normal [(.bool b78)])) (T3k5 p17 p3 i75 n4 p0 n1))) (T3k6 i75)) else (.ret (.exit 2) [(.int .i64 i75), (.bool b78)]))

noncomputable def T3k7 (p17 : (Option Addr)) : Ex → List Value → Pg :=
  fun e146 l147 => sw e146 (.exit 2) (asCons l147 fun v148 l149 => asInt .i64 v148 fun i150 => asCons l149 fun v151 l152 => asBool v151 fun b153 => asNil l152 (.call 16 [(.pointer p17)] fun v154 => asSlice v154 fun p155 n156 n157 => .ret .ret [(.bool (((n156 : Nat) : Int) == 0))])) (sw e146 .ret (asCons l147 fun v158 l159 => asInt .i64 v158 fun i160 => asCons l159 fun v161 l162 => asBool v161 fun b163 => asNil l162 (.ret .ret [(.bool b163)])) (.fail))

noncomputable def T3k8 (n1 : Nat) (p0 : (Option Addr)) (p17 : (Option Addr)) (p3 : (Option Addr)) (n4 : Nat) : Ex → List Value → Pg :=
  fun e64 l65 => sw e64 (.exit 0) (asCons l65 fun v66 l67 => asInt .i64 v66 fun i68 => asCons l67 fun v69 l70 => asBool v69 fun b71 => asNil l70 (.loop [(.int .i64 (wi64 (((n1 : Nat) : Int) - 1))), (.bool b71)] (T3b1 p0 n1 p17 p3 n4) (T3k7 p17))) (sw e64 .ret (asCons l65 fun v164 l165 => asInt .i64 v164 fun i166 => asCons l165 fun v167 l168 => asBool v167 fun b169 => asNil l168 (.ret .ret [(.bool b169)])) (.fail))

noncomputable def T3k9 (n1 : Nat) (p0 : (Option Addr)) (p3 : (Option Addr)) (n4 : Nat) : Ex → List Value → Pg :=
  fun e8 l9 => sw e8 .normal (asCons l9 fun v10 l11 => asBool v10 fun b12 => asNil l11 (bif b12 then (.ret .ret [(.bool true)]) else (.call 8 [(.int .i64 4096)] fun v13 => asTuple v13 fun l14 => asCons l14 fun v15 l16 => asPtr v15 fun p17 => asCons l16 fun v18 l19 => asInt .i64 v18 fun i20 => asNil l19 (.loop [(.int .i64 0), (.bool false)] (T3b0 n1 p0 p17 p3 n4) (T3k8 n1 p0 p17 p3 n4))))) (.fail)

/-- hindsight/hindsightlaw17.FrameNests -/
noncomputable def T3 (p0 : (Option Addr)) (n1 : Nat) (n2 : Nat) (p3 : (Option Addr)) (n4 : Nat) (n5 : Nat) : Pg :=
  .call 7 [] fun v6 => asBool v6 fun b7 => bif (!b7) then (.ret .ret [(.bool false)]) else (.join (bif (decide (((n1 : Nat) : Int) > 20)) == false then (.ret .normal [(.bool (decide (((n4 : Nat) : Int) < ((n1 : Nat) : Int))))]) else (.ret .normal [(.bool true)])) (T3k9 n1 p0 p3 n4))
theorem T3_eq (p0 : (Option Addr)) (n1 : Nat) (n2 : Nat) (p3 : (Option Addr)) (n4 : Nat) (n5 : Nat) : progOf PROG false 3 [(.slice p0 n1 n2), (.slice p3 n4 n5)] = T3 p0 n1 n2 p3 n4 n5 := by kernel_rfl


noncomputable def T4k0 : Ex → List Value → Pg :=
  fun e56 l57 => sw e56 .normal (asNil l57 (.ret .normal [])) (.fail)

noncomputable def T4k1 : Ex → List Value → Pg :=
  fun e58 l59 => sw e58 .normal (asNil l59 (.ret .normal [])) (.fail)

noncomputable def T4k2 : Ex → List Value → Pg :=
  fun e60 l61 => sw e60 .normal (asNil l61 (.ret .normal [])) (.fail)

noncomputable def T4k3 : Ex → List Value → Pg :=
  fun e62 l63 => sw e62 .normal (asNil l63 (.ret .normal [])) (.fail)

noncomputable def T4k4 (i17 : Int) : Ex → List Value → Pg :=
  fun e64 l65 => sw e64 .normal (asNil l65 (.ret .normal [(.int .i64 (wi64 (i17 + 1)))])) (.fail)

noncomputable def T4b0 (n1 : Nat) (p0 : (Option Addr)) (p10 : (Option Addr)) : List Value → Pg :=
  fun l14 => asCons l14 fun v15 l16 => asInt .i64 v15 fun i17 => asNil l16 (bif (decide (i17 < ((n1 : Nat) : Int))) then (.join (asSome p0 fun a18 => grd ((decide (0 ≤ i17)) && (decide (i17 < ((n1 : Nat) : Int)))) (.act (ld1 (aadd (aadd a18 ((Int.toNat i17) * 6)) 0)) fun v19 => asInt .i64 v19 fun i20 => .join (.join (bif (i20 == 0) then (asSome p0 fun a21 => grd ((decide (0 ≤ i17)) && (decide (i17 < ((n1 : Nat) : Int)))) (.act (ld1 (aadd (aadd a21 ((Int.toNat i17) * 6)) 1)) fun v22 => asInt .i64 v22 fun i23 => asSome p0 fun a24 => grd ((decide (0 ≤ i17)) && (decide (i17 < ((n1 : Nat) : Int)))) (.act (ld1 (aadd (aadd a24 ((Int.toNat i17) * 6)) 2)) fun v25 => asInt .i64 v25 fun i26 => asSome p0 fun a27 => grd ((decide (0 ≤ i17)) && (decide (i17 < ((n1 : Nat) : Int)))) (.act (ld1 (aadd (aadd a27 ((Int.toNat i17) * 6)) 3)) fun v28 => asInt .i64 v28 fun i29 => .call 9 [(.pointer p10), (.int .i64 i23), (.int .i64 i26), (.int .i64 i29)] fun v30 => asInt .i64 v30 fun i31 => .ret .normal [])))) else (.join (bif (i20 == 1) then (.call 14 [(.pointer p10)] fun v32 => asTuple v32 fun l33 => asCons l33 fun v34 l35 => asInt .i64 v34 fun i36 => asCons l35 fun v37 l38 => asInt .i64 v37 fun i39 => asCons l38 fun v40 l41 => asInt .i64 v40 fun i42 => asNil l41 (.ret .normal [])) else (.join (bif (i20 == 2) then (asSome p0 fun a43 => grd ((decide (0 ≤ i17)) && (decide (i17 < ((n1 : Nat) : Int)))) (.act (ld1 (aadd (aadd a43 ((Int.toNat i17) * 6)) 3)) fun v44 => asInt .i64 v44 fun i45 => asSome p0 fun a46 => grd ((decide (0 ≤ i17)) && (decide (i17 < ((n1 : Nat) : Int)))) (.act (ld1 (aadd (aadd a46 ((Int.toNat i17) * 6)) 4)) fun v47 => asInt .u64 v47 fun i48 => .call 11 [(.pointer p10), (.int .i64 i45), (.int .u64 i48)] fun v49 => asInt .i64 v49 fun i50 => .ret .normal []))) else (asSome p0 fun a51 => grd ((decide (0 ≤ i17)) && (decide (i17 < ((n1 : Nat) : Int)))) (.act (ld1 (aadd (aadd a51 ((Int.toNat i17) * 6)) 4)) fun v52 => asInt .u64 v52 fun i53 => .call 10 [(.pointer p10), (.int .u64 i53)] fun v54 => asInt .i64 v54 fun i55 => .ret .normal []))) (T4k0))) (T4k1))) (T4k2)) (T4k3))) (T4k4 i17)) else (.ret (.exit 0) [(.int .i64 i17)]))

noncomputable def T4k5 (i82 : Int) : Ex → List Value → Pg :=
  fun e99 l100 => sw e99 .normal (asCons l100 fun v101 l102 => asSlice v101 fun p103 n104 n105 => asNil l102 (.ret .normal [(.int .i64 (wi64 (i82 + 1))), (.slice p103 n104 n105)])) (.fail)

noncomputable def T4b1 (n77 : Nat) (p76 : (Option Addr)) (i3 : Int) : List Value → Pg :=
  fun l79 => asCons l79 fun v80 l81 => asInt .i64 v80 fun i82 => asCons l81 fun v83 l84 => asSlice v83 fun p85 n86 n87 => asNil l84 (bif (decide (i82 < ((n77 : Nat) : Int))) then (.join (asSome p76 fun a88 => grd ((decide (0 ≤ i82)) && (decide (i82 < ((n77 : Nat) : Int)))) (.act (ld1 (aadd a88 ((Int.toNat i82) * 1))) fun v89 => asInt .u64 v89 fun i90 => .act (bdSl 1 1 [(.int .u64 (wu64 (i90 + i3)))]) fun v91 => asSlice v91 fun p92 n93 n94 => .act (apS 1 8 p85 n86 n87 p92 n93 n94) fun v95 => asSlice v95 fun p96 n97 n98 => .ret .normal [(.slice p96 n97 n98)])) (T4k5 i82)) else (.ret (.exit 3) [(.int .i64 i82), (.slice p85 n86 n87)]))

noncomputable def T4k6 (p170 : (Option Addr)) (n171 : Nat) (n172 : Nat) (b175 : Bool) : Ex → List Value → Pg :=
  fun e187 l188 => sw e187 .normal (asCons l188 fun v189 l190 => asBool v189 fun b191 => asNil l190 (bif b191 then (.ret .ret [(.slice p170 n171 n172), (.bool false)]) else (grd ((((decide (0 ≤ (wi64 (((n171 : Nat) : Int) - 1)))) && (decide ((wi64 (((n171 : Nat) : Int) - 1)) ≤ ((n172 : Nat) : Int)))) && (decide (((n172 : Nat) : Int) ≤ ((n172 : Nat) : Int)))) && ((mayCut p170 1) || true)) (.ret .normal [(.slice p170 (Int.toNat (wi64 (((n171 : Nat) : Int) - 1))) n172), (.bool b175)])))) (.fail)

noncomputable def T4k7 (i167 : Int) : Ex → List Value → Pg :=
  fun e192 l193 => sw e192 .ret (asCons l193 fun v194 l195 => asSlice v194 fun p196 n197 n198 => asCons l195 fun v199 l200 => asBool v199 fun b201 => asNil l200 (.ret .ret [(.int .i64 i167), (.slice p196 n197 n198), (.bool b201)])) (sw e192 .normal (asCons l193 fun v202 l203 => asSlice v202 fun p204 n205 n206 => asCons l203 fun v207 l208 => asBool v207 fun b209 => asNil l208 (.ret .normal [(.int .i64 (wi64 (i167 - 1))), (.slice p204 n205 n206), (.bool b209)])) (.fail))

noncomputable def T4b2 (p10 : (Option Addr)) : List Value → Pg :=
  fun l164 => asCons l164 fun v165 l166 => asInt .i64 v165 fun i167 => asCons l166 fun v168 l169 => asSlice v168 fun p170 n171 n172 => asCons l169 fun v173 l174 => asBool v173 fun b175 => asNil l174 (bif (decide (i167 > 0)) then (.join (.call 13 [(.pointer p10)] fun v176 => asTuple v176 fun l177 => asCons l177 fun v178 l179 => asInt .u64 v178 fun i180 => asCons l179 fun v181 l182 => asInt .i64 v181 fun i183 => asNil l182 (.join (bif (i183 != 0) == false then (bif (((n171 : Nat) : Int) == 0) == false then (asSome p170 fun a184 => grd ((decide (0 ≤ (wi64 (((n171 : Nat) : Int) - 1)))) && (decide ((wi64 (((n171 : Nat) : Int) - 1)) < ((n171 : Nat) : Int)))) (.act (ld1 (aadd a184 ((Int.toNat (wi64 (((n171 : Nat) : Int) - 1))) * 1))) fun v185 => asInt .u64 v185 fun i186 => .ret .normal [(.bool (i180 != i186))])) else (.ret .normal [(.bool true)])) else (.ret .normal [(.bool true)])) (T4k6 p170 n171 n172 b175))) (T4k7 i167)) else (.ret (.exit 7) [(.int .i64 i167), (.slice p170 n171 n172), (.bool b175)]))

noncomputable def T4k8 (p217 : (Option Addr)) (n218 : Nat) (n219 : Nat) (n225 : Nat) (n247 : Nat) (b222 : Bool) : Ex → List Value → Pg :=
  fun e249 l250 => sw e249 .normal (asCons l250 fun v251 l252 => asBool v251 fun b253 => asNil l252 (bif b253 then (.ret .ret [(.slice p217 n218 n219), (.bool false)]) else (grd ((((decide (0 ≤ (wi64 (((n218 : Nat) : Int) - (wi64 (((n225 : Nat) : Int) - ((n247 : Nat) : Int))))))) && (decide ((wi64 (((n218 : Nat) : Int) - (wi64 (((n225 : Nat) : Int) - ((n247 : Nat) : Int))))) ≤ ((n219 : Nat) : Int)))) && (decide (((n219 : Nat) : Int) ≤ ((n219 : Nat) : Int)))) && ((mayCut p217 1) || true)) (.ret .normal [(.slice p217 (Int.toNat (wi64 (((n218 : Nat) : Int) - (wi64 (((n225 : Nat) : Int) - ((n247 : Nat) : Int)))))) n219), (.bool b222)])))) (.fail)

noncomputable def T4k9 (p217 : (Option Addr)) (n218 : Nat) (n219 : Nat) (p10 : (Option Addr)) (n225 : Nat) (b222 : Bool) : Ex → List Value → Pg :=
  fun e240 l241 => sw e240 .normal (asCons l241 fun v242 l243 => asBool v242 fun b244 => asNil l243 (bif b244 then (.ret .ret [(.slice p217 n218 n219), (.bool false)]) else (.call 16 [(.pointer p10)] fun v245 => asSlice v245 fun p246 n247 n248 => .join (bif (decide ((wi64 (((n225 : Nat) : Int) - ((n247 : Nat) : Int))) < 0)) == false then (.ret .normal [(.bool (decide ((wi64 (((n225 : Nat) : Int) - ((n247 : Nat) : Int))) > ((n218 : Nat) : Int))))]) else (.ret .normal [(.bool true)])) (T4k8 p217 n218 n219 n225 n247 b222)))) (.fail)

noncomputable def T4k10 (p10 : (Option Addr)) : Ex → List Value → Pg :=
  fun e210 l211 => sw e210 (.exit 7) (asCons l211 fun v212 l213 => asInt .i64 v212 fun i214 => asCons l213 fun v215 l216 => asSlice v215 fun p217 n218 n219 => asCons l216 fun v220 l221 => asBool v220 fun b222 => asNil l221 (.call 16 [(.pointer p10)] fun v223 => asSlice v223 fun p224 n225 n226 => .call 14 [(.pointer p10)] fun v227 => asTuple v227 fun l228 => asCons l228 fun v229 l230 => asInt .i64 v229 fun i231 => asCons l230 fun v232 l233 => asInt .i64 v232 fun i234 => asCons l233 fun v235 l236 => asInt .i64 v235 fun i237 => asNil l236 (.join (bif (i237 != 0) == false then (.call 15 [(.pointer p10)] fun v238 => asInt .i64 v238 fun i239 => .ret .normal [(.bool (decide (i239 > 60)))]) else (.ret .normal [(.bool true)])) (T4k9 p217 n218 n219 p10 n225 b222)))) (sw e210 .ret (asCons l211 fun v254 l255 => asInt .i64 v254 fun i256 => asCons l255 fun v257 l258 => asSlice v257 fun p259 n260 n261 => asCons l258 fun v262 l263 => asBool v262 fun b264 => asNil l263 (.ret .ret [(.slice p259 n260 n261), (.bool b264)])) (.fail))

noncomputable def T4k11 : Ex → List Value → Pg :=
  fun e265 l266 => sw e265 .ret (asCons l266 fun v267 l268 => asSlice v267 fun p269 n270 n271 => asCons l268 fun v272 l273 => asBool v272 fun b274 => asNil l273 (.ret .ret [(.slice p269 n270 n271), (.bool b274)])) (sw e265 .normal (asCons l266 fun v275 l276 => asSlice v275 fun p277 n278 n279 => asCons l276 fun v280 l281 => asBool v280 fun b282 => asNil l281 (.ret .normal [(.slice p277 n278 n279), (.bool b282)])) (.fail))

noncomputable def T4b3 (p10 : (Option Addr)) : List Value → Pg :=
  fun l151 => asCons l151 fun v152 l153 => asSlice v152 fun p154 n155 n156 => asCons l153 fun v157 l158 => asBool v157 fun b159 => asNil l158 (.call 15 [(.pointer p10)] fun v160 => asInt .i64 v160 fun i161 => bif (decide (i161 > 0)) then (.join (.call 21 [(.pointer p10)] fun v162 => asInt .i64 v162 fun i163 => .loop [(.int .i64 i163), (.slice p154 n155 n156), (.bool b159)] (T4b2 p10) (T4k10 p10)) (T4k11)) else (.ret (.exit 5) [(.slice p154 n155 n156), (.bool b159)]))

noncomputable def T4k12 : Ex → List Value → Pg :=
  fun e283 l284 => sw e283 (.exit 5) (asCons l284 fun v285 l286 => asSlice v285 fun p287 n288 n289 => asCons l286 fun v290 l291 => asBool v290 fun b292 => asNil l291 (.ret .ret [(.bool (((n288 : Nat) : Int) == 0))])) (sw e283 .ret (asCons l284 fun v293 l294 => asSlice v293 fun p295 n296 n297 => asCons l294 fun v298 l299 => asBool v298 fun b300 => asNil l299 (.ret .ret [(.bool b300)])) (.fail))

noncomputable def T4k13 (p113 : (Option Addr)) (n114 : Nat) (n115 : Nat) (p10 : (Option Addr)) : Ex → List Value → Pg :=
  fun e146 l147 => sw e146 .normal (asCons l147 fun v148 l149 => asBool v148 fun b150 => asNil l149 (bif b150 then (.ret .ret [(.bool false)]) else (.loop [(.slice p113 n114 n115), (.bool false)] (T4b3 p10) (T4k12)))) (.fail)

noncomputable def T4k14 (p10 : (Option Addr)) : Ex → List Value → Pg :=
  fun e106 l107 => sw e106 (.exit 3) (asCons l107 fun v108 l109 => asInt .i64 v108 fun i110 => asCons l109 fun v111 l112 => asSlice v111 fun p113 n114 n115 => asNil l112 (.join (.call 19 [(.slice p113 n114 n115)] fun v116 => asSlice v116 fun p117 n118 n119 => .call 18 [(.pointer p10), (.slice p117 n118 n119)] fun v120 => asInt .i64 v120 fun i121 => bif (i121 != 0) == false then (.call 16 [(.pointer p10)] fun v122 => asSlice v122 fun p123 n124 n125 => .call 17 [(.slice p123 n124 n125)] fun v126 => asSlice v126 fun p127 n128 n129 => .call 20 [(.slice p127 n128 n129), (.slice p113 n114 n115)] fun v130 => asBool v130 fun b131 => bif (!b131) == false then (.act (bdSl 1 1 [(.int .u64 1)]) fun v132 => asSlice v132 fun p133 n134 n135 => .act (apS 1 8 p113 n114 n115 p133 n134 n135) fun v136 => asSlice v136 fun p137 n138 n139 => .call 19 [(.slice p137 n138 n139)] fun v140 => asSlice v140 fun p141 n142 n143 => .call 18 [(.pointer p10), (.slice p141 n142 n143)] fun v144 => asInt .i64 v144 fun i145 => .ret .normal [(.bool (i145 != 1))]) else (.ret .normal [(.bool true)])) else (.ret .normal [(.bool true)])) (T4k13 p113 n114 n115 p10))) (.fail)

noncomputable def T4k15 (p10 : (Option Addr)) (i3 : Int) : Ex → List Value → Pg :=
  fun e66 l67 => sw e66 (.exit 0) (asCons l67 fun v68 l69 => asInt .i64 v68 fun i70 => asNil l69 (.call 16 [(.pointer p10)] fun v71 => asSlice v71 fun p72 n73 n74 => .call 17 [(.slice p72 n73 n74)] fun v75 => asSlice v75 fun p76 n77 n78 => .loop [(.int .i64 0), (.slice none 0 0)] (T4b1 n77 p76 i3) (T4k14 p10))) (.fail)

/-- hindsight/hindsightlaw17.FrameRoots -/
noncomputable def T4 (p0 : (Option Addr)) (n1 : Nat) (n2 : Nat) (i3 : Int) : Pg :=
  .call 7 [] fun v4 => asBool v4 fun b5 => bif (!b5) then (.ret .ret [(.bool false)]) else (bif (decide (((n1 : Nat) : Int) > 40)) then (.ret .ret [(.bool true)]) else (.call 8 [(.int .i64 500)] fun v6 => asTuple v6 fun l7 => asCons l7 fun v8 l9 => asPtr v8 fun p10 => asCons l9 fun v11 l12 => asInt .i64 v11 fun i13 => asNil l12 (.loop [(.int .i64 0)] (T4b0 n1 p0 p10) (T4k15 p10 i3))))
theorem T4_eq (p0 : (Option Addr)) (n1 : Nat) (n2 : Nat) (i3 : Int) : progOf PROG false 4 [(.slice p0 n1 n2), (.int .u64 i3)] = T4 p0 n1 n2 i3 := by kernel_rfl


noncomputable def T5k0 : Ex → List Value → Pg :=
  fun e94 l95 => sw e94 .normal (asCons l95 fun v96 l97 => asBool v96 fun b98 => asNil l97 (.ret .ret [(.bool b98)])) (.fail)

/-- hindsight/hindsightlaw17.FrameKnown -/
noncomputable def T5 : Pg :=
  .call 7 [] fun v0 => asBool v0 fun b1 => bif (!b1) then (.ret .ret [(.bool false)]) else (.call 8 [(.int .i64 15)] fun v2 => asTuple v2 fun l3 => asCons l3 fun v4 l5 => asPtr v4 fun p6 => asCons l5 fun v7 l8 => asInt .i64 v7 fun i9 => asNil l8 (.call 8 [(.int .i64 4097)] fun v10 => asTuple v10 fun l11 => asCons l11 fun v12 l13 => asPtr v12 fun p14 => asCons l13 fun v15 l16 => asInt .i64 v15 fun i17 => asNil l16 (.call 8 [(.int .i64 16)] fun v18 => asTuple v18 fun l19 => asCons l19 fun v20 l21 => asPtr v20 fun p22 => asCons l21 fun v23 l24 => asInt .i64 v23 fun i25 => asNil l24 (.call 9 [(.pointer p22), (.int .i64 0), (.int .i64 0), (.int .i64 (-1))] fun v26 => asInt .i64 v26 fun i27 => .call 9 [(.pointer p22), (.int .i64 0), (.int .i64 0), (.int .i64 15)] fun v28 => asInt .i64 v28 fun i29 => .call 9 [(.pointer p22), (.int .i64 1), (.int .i64 2), (.int .i64 3)] fun v30 => asInt .i64 v30 fun i31 => .call 9 [(.pointer p22), (.int .i64 3), (.int .i64 4), (.int .i64 8)] fun v32 => asInt .i64 v32 fun i33 => .call 22 [(.int .i64 9)] fun v34 => asInt .u64 v34 fun i35 => .call 10 [(.pointer p22), (.int .u64 i35)] fun v36 => asInt .i64 v36 fun i37 => .call 22 [(.int .i64 9)] fun v38 => asInt .u64 v38 fun i39 => .call 10 [(.pointer p22), (.int .u64 i39)] fun v40 => asInt .i64 v40 fun i41 => .call 12 [(.pointer p22), (.int .i64 0)] fun v42 => asTuple v42 fun l43 => asCons l43 fun v44 l45 => asInt .u64 v44 fun i46 => asCons l45 fun v47 l48 => asInt .i64 v47 fun i49 => asNil l48 (.call 22 [(.int .i64 1)] fun v50 => asInt .u64 v50 fun i51 => .call 11 [(.pointer p22), (.int .i64 8), (.int .u64 i51)] fun v52 => asInt .i64 v52 fun i53 => .call 22 [(.int .i64 2)] fun v54 => asInt .u64 v54 fun i55 => .call 11 [(.pointer p22), (.int .i64 7), (.int .u64 i55)] fun v56 => asInt .i64 v56 fun i57 => .call 16 [(.pointer p22)] fun v58 => asSlice v58 fun p59 n60 n61 => .call 23 [(.pointer p22), (.int .i64 3), (.int .i64 0)] fun v62 => asInt .i64 v62 fun i63 => .call 23 [(.pointer p22), (.int .i64 1), (.int .i64 1)] fun v64 => asInt .i64 v64 fun i65 => .call 23 [(.pointer p22), (.int .i64 1), (.int .i64 0)] fun v66 => asInt .i64 v66 fun i67 => .call 18 [(.pointer p22), (.slice none 0 0)] fun v68 => asInt .i64 v68 fun i69 => .join (.get fun h70 => bif (i9 == 1) == true then (bif (i17 == 1) == true then (bif (i27 == 1) == true then (bif (i29 == 9) == true then (bif (i31 == 0) == true then (bif (i33 == 0) == true then (bif (i37 == 0) == true then (bif (i41 == 9) == true then (.call 22 [(.int .i64 0)] fun v71 => asInt .u64 v71 fun i72 => bif (i46 == i72) == true then (bif (i49 == 0) == true then (bif (i53 == 1) == true then (bif (((n60 : Nat) : Int) == 12) == true then (asSome p59 fun a73 => grd (decide (10 < ((n60 : Nat) : Int))) (.act (ld1 (aadd a73 10)) fun v74 => asInt .u64 v74 fun i75 => .call 22 [(.int .i64 2)] fun v76 => asInt .u64 v76 fun i77 => .get fun h93 => grd (chks [((ld1 (aadd a73 10)), v74)] h93) (bif (i75 == i77) == true then (bif (i63 == 1) == true then (bif (i65 == 1) == true then (bif (i67 == 0) == true then (.call 15 [(.pointer p22)] fun v78 => asInt .i64 v78 fun i79 => bif (i79 == 1) == true then (bif (i69 == 1) == true then (.get fun h81 => grd (newN h70.n h81 []) (.act (bdSl 1 1 [(.int .i64 2)]) fun v80 => asSlice v80 fun p83 n84 n85 => .get fun h82 => .call 25 [(.pointer p22)] fun v86 => asSlice v86 fun p87 n88 n89 => .get fun h92 => grd (chkO [(h81.n, (h82.get h81.n))] h92) (.call 24 [(.slice p87 n88 n89), (.slice p83 n84 n85)] fun v90 => asBool v90 fun b91 => .ret .normal [(.bool b91)]))) else (.ret .normal [(.bool false)])) else (.ret .normal [(.bool false)])) else (.ret .normal [(.bool false)])) else (.ret .normal [(.bool false)])) else (.ret .normal [(.bool false)])) else (.ret .normal [(.bool false)])))) else (.ret .normal [(.bool false)])) else (.ret .normal [(.bool false)])) else (.ret .normal [(.bool false)])) else (.ret .normal [(.bool false)])) else (.ret .normal [(.bool false)])) else (.ret .normal [(.bool false)])) else (.ret .normal [(.bool false)])) else (.ret .normal [(.bool false)])) else (.ret .normal [(.bool false)])) else (.ret .normal [(.bool false)])) else (.ret .normal [(.bool false)])) else (.ret .normal [(.bool false)])) (T5k0))))))
theorem T5_eq : progOf PROG false 5 [] = T5 := by kernel_rfl


noncomputable def T6k0 : Ex → List Value → Pg :=
  fun e172 l173 => sw e172 .normal (asCons l173 fun v174 l175 => asBool v174 fun b176 => asNil l175 (.ret .normal [(.bool b176)])) (.fail)

noncomputable def T6k1 : Ex → List Value → Pg :=
  fun e177 l178 => sw e177 .normal (asCons l178 fun v179 l180 => asBool v179 fun b181 => asNil l180 (.ret .normal [(.bool b181)])) (.fail)

noncomputable def T6k2 : Ex → List Value → Pg :=
  fun e182 l183 => sw e182 .normal (asCons l183 fun v184 l185 => asBool v184 fun b186 => asNil l185 (.ret .normal [(.bool b186)])) (.fail)

noncomputable def T6k3 : Ex → List Value → Pg :=
  fun e187 l188 => sw e187 .normal (asCons l188 fun v189 l190 => asBool v189 fun b191 => asNil l190 (.ret .normal [(.bool b191)])) (.fail)

noncomputable def T6k4 : Ex → List Value → Pg :=
  fun e192 l193 => sw e192 .normal (asCons l193 fun v194 l195 => asBool v194 fun b196 => asNil l195 (.ret .normal [(.bool b196)])) (.fail)

noncomputable def T6k5 : Ex → List Value → Pg :=
  fun e197 l198 => sw e197 .normal (asCons l198 fun v199 l200 => asBool v199 fun b201 => asNil l200 (.ret .normal [(.bool b201)])) (.fail)

noncomputable def T6k6 (b29 : Bool) : Ex → List Value → Pg :=
  fun e255 l256 => sw e255 .normal (asCons l256 fun v257 l258 => asBool v257 fun b259 => asNil l258 (bif b259 then (.ret .ret [(.bool false)]) else (.ret .normal [(.bool b29)]))) (.fail)

noncomputable def T6k7 (p11 : (Option Addr)) (i4 : Int) (a22 : Addr) (b29 : Bool) : Ex → List Value → Pg :=
  fun e202 l203 => sw e202 .normal (asCons l203 fun v204 l205 => asBool v204 fun b206 => asNil l205 (.call 12 [(.pointer p11), (.int .i64 i4)] fun v207 => asTuple v207 fun l208 => asCons l208 fun v209 l210 => asInt .u64 v209 fun i211 => asCons l210 fun v212 l213 => asInt .i64 v212 fun i214 => asNil l213 (.call 33 [(.pointer (some a22)), (.int .i64 i4)] fun v215 => asTuple v215 fun l216 => asCons l216 fun v217 l218 => asInt .u64 v217 fun i219 => asCons l218 fun v220 l221 => asInt .i64 v220 fun i222 => asNil l221 (.join (bif (((!b206) || (i211 != i219)) || (i214 != i222)) == false then (.call 15 [(.pointer p11)] fun v223 => asInt .i64 v223 fun i224 => .call 34 [(.pointer (some a22))] fun v225 => asInt .i64 v225 fun i226 => bif (i224 != i226) == false then (.call 21 [(.pointer p11)] fun v227 => asInt .i64 v227 fun i228 => .call 35 [(.pointer (some a22))] fun v229 => asInt .i64 v229 fun i230 => bif (i228 != i230) == false then (.call 25 [(.pointer p11)] fun v231 => asSlice v231 fun p232 n233 n234 => .call 36 [(.pointer (some a22))] fun v235 => asSlice v235 fun p236 n237 n238 => .call 24 [(.slice p232 n233 n234), (.slice p236 n237 n238)] fun v239 => asBool v239 fun b240 => bif (!b240) == false then (.call 16 [(.pointer p11)] fun v241 => asSlice v241 fun p242 n243 n244 => .call 17 [(.slice p242 n243 n244)] fun v245 => asSlice v245 fun p246 n247 n248 => .call 37 [(.pointer (some a22))] fun v249 => asSlice v249 fun p250 n251 n252 => .call 20 [(.slice p246 n247 n248), (.slice p250 n251 n252)] fun v253 => asBool v253 fun b254 => .ret .normal [(.bool (!b254))]) else (.ret .normal [(.bool true)])) else (.ret .normal [(.bool true)])) else (.ret .normal [(.bool true)])) else (.ret .normal [(.bool true)])) (T6k6 b29))))) (.fail)

noncomputable def T6k8 (i26 : Int) : Ex → List Value → Pg :=
  fun e260 l261 => sw e260 .ret (asCons l261 fun v262 l263 => asBool v262 fun b264 => asNil l263 (.ret .ret [(.int .i64 i26), (.bool b264)])) (sw e260 .normal (asCons l261 fun v265 l266 => asBool v265 fun b267 => asNil l266 (.ret .normal [(.int .i64 (wi64 (i26 + 1))), (.bool b267)])) (.fail))

noncomputable def T6b0 (n2 : Nat) (p1 : (Option Addr)) (p11 : (Option Addr)) (a22 : Addr) (i4 : Int) : List Value → Pg :=
  fun l23 => asCons l23 fun v24 l25 => asInt .i64 v24 fun i26 => asCons l25 fun v27 l28 => asBool v27 fun b29 => asNil l28 (bif (decide (i26 < ((n2 : Nat) : Int))) then (.join (asSome p1 fun a30 => grd ((decide (0 ≤ i26)) && (decide (i26 < ((n2 : Nat) : Int)))) (.act (ldN 6 (aadd a30 ((Int.toNat i26) * 6))) fun v31 => asAgg v31 fun l32 => asCons l32 fun v33 l34 => asInt .i64 v33 fun i35 => asCons l34 fun v36 l37 => asInt .i64 v36 fun i38 => asCons l37 fun v39 l40 => asInt .i64 v39 fun i41 => asCons l40 fun v42 l43 => asInt .i64 v42 fun i44 => asCons l43 fun v45 l46 => asInt .u64 v45 fun i47 => asCons l46 fun v48 l49 => asSlice v48 fun p50 n51 n52 => asNil l49 (.act (newC [(.int .i64 0), (.int .i64 0), (.int .i64 0), (.int .i64 0), (.int .u64 0), (.slice none 0 0)]) fun v53 => asPtr v53 fun p54 => asSome p54 fun a55 => .act (stC a55 [(.int .i64 i35), (.int .i64 i38), (.int .i64 i41), (.int .i64 i44), (.int .u64 i47), (.slice p50 n51 n52)]) fun v56 => asTuple v56 fun l57 => asNil l57 (.act (ld1 (aadd a55 5)) fun v58 => asSlice v58 fun p59 n60 n61 => bif (decide (((n60 : Nat) : Int) > 60)) then (.ret .ret [(.bool true)]) else (.act (ld1 (aadd a55 0)) fun v62 => asInt .i64 v62 fun i63 => .join (.join (bif (i63 == 0) then (.act (ld1 (aadd a55 1)) fun v64 => asInt .i64 v64 fun i65 => .act (ld1 (aadd a55 2)) fun v66 => asInt .i64 v66 fun i67 => .act (ld1 (aadd a55 3)) fun v68 => asInt .i64 v68 fun i69 => .get fun h71 => .call 9 [(.pointer p11), (.int .i64 i65), (.int .i64 i67), (.int .i64 i69)] fun v70 => asInt .i64 v70 fun i72 => .act (ld1 (aadd a55 1)) fun v73 => grd (past (ld1 (aadd a55 1)) v73 [h71]) (asInt .i64 v73 fun i74 => .act (ld1 (aadd a55 2)) fun v75 => grd (past (ld1 (aadd a55 2)) v75 [h71]) (asInt .i64 v75 fun i76 => .act (ld1 (aadd a55 3)) fun v77 => grd (past (ld1 (aadd a55 3)) v77 [h71]) (asInt .i64 v77 fun i78 => .call 26 [(.pointer (some a22)), (.int .i64 i74), (.int .i64 i76), (.int .i64 i78)] fun v79 => asInt .i64 v79 fun i80 => .ret .normal [(.bool (i72 == i80))])))) else (.join (bif (i63 == 1) then (.call 14 [(.pointer p11)] fun v81 => asTuple v81 fun l82 => asCons l82 fun v83 l84 => asInt .i64 v83 fun i85 => asCons l84 fun v86 l87 => asInt .i64 v86 fun i88 => asCons l87 fun v89 l90 => asInt .i64 v89 fun i91 => asNil l90 (.call 27 [(.pointer (some a22))] fun v92 => asTuple v92 fun l93 => asCons l93 fun v94 l95 => asInt .i64 v94 fun i96 => asCons l95 fun v97 l98 => asInt .i64 v97 fun i99 => asCons l98 fun v100 l101 => asInt .i64 v100 fun i102 => asNil l101 (.ret .normal [(.bool (((i85 == i96) && (i88 == i99)) && (i91 == i102)))]))) else (.join (bif (i63 == 2) then (.act (ld1 (aadd a55 3)) fun v103 => asInt .i64 v103 fun i104 => .act (ld1 (aadd a55 4)) fun v105 => asInt .u64 v105 fun i106 => .get fun h108 => .call 11 [(.pointer p11), (.int .i64 i104), (.int .u64 i106)] fun v107 => asInt .i64 v107 fun i109 => .act (ld1 (aadd a55 3)) fun v110 => grd (past (ld1 (aadd a55 3)) v110 [h108]) (asInt .i64 v110 fun i111 => .act (ld1 (aadd a55 4)) fun v112 => grd (past (ld1 (aadd a55 4)) v112 [h108]) (asInt .u64 v112 fun i113 => .call 28 [(.pointer (some a22)), (.int .i64 i111), (.int .u64 i113)] fun v114 => asInt .i64 v114 fun i115 => .ret .normal [(.bool (i109 == i115))]))) else (.join (bif (i63 == 3) then (.act (ld1 (aadd a55 4)) fun v116 => asInt .u64 v116 fun i117 => .get fun h119 => .call 10 [(.pointer p11), (.int .u64 i117)] fun v118 => asInt .i64 v118 fun i120 => .act (ld1 (aadd a55 4)) fun v121 => grd (past (ld1 (aadd a55 4)) v121 [h119]) (asInt .u64 v121 fun i122 => .call 29 [(.pointer (some a22)), (.int .u64 i122)] fun v123 => asInt .i64 v123 fun i124 => .ret .normal [(.bool (i120 == i124))])) else (.join (bif (i63 == 4) then (.call 13 [(.pointer p11)] fun v125 => asTuple v125 fun l126 => asCons l126 fun v127 l128 => asInt .u64 v127 fun i129 => asCons l128 fun v130 l131 => asInt .i64 v130 fun i132 => asNil l131 (.call 30 [(.pointer (some a22))] fun v133 => asTuple v133 fun l134 => asCons l134 fun v135 l136 => asInt .u64 v135 fun i137 => asCons l136 fun v138 l139 => asInt .i64 v138 fun i140 => asNil l139 (.ret .normal [(.bool ((i129 == i137) && (i132 == i140)))]))) else (.join (bif (i63 == 5) then (.act (ld1 (aadd a55 1)) fun v141 => asInt .i64 v141 fun i142 => .act (ld1 (aadd a55 2)) fun v143 => asInt .i64 v143 fun i144 => .get fun h146 => .call 23 [(.pointer p11), (.int .i64 i142), (.int .i64 i144)] fun v145 => asInt .i64 v145 fun i147 => .act (ld1 (aadd a55 1)) fun v148 => grd (past (ld1 (aadd a55 1)) v148 [h146]) (asInt .i64 v148 fun i149 => .act (ld1 (aadd a55 2)) fun v150 => grd (past (ld1 (aadd a55 2)) v150 [h146]) (asInt .i64 v150 fun i151 => .call 31 [(.pointer (some a22)), (.int .i64 i149), (.int .i64 i151)] fun v152 => asInt .i64 v152 fun i153 => .ret .normal [(.bool (i147 == i153))]))) else (.act (ld1 (aadd a55 5)) fun v154 => asSlice v154 fun p155 n156 n157 => .get fun h159 => .call 19 [(.slice p155 n156 n157)] fun v158 => asSlice v158 fun p160 n161 n162 => .get fun h164 => .call 18 [(.pointer p11), (.slice p160 n161 n162)] fun v163 => asInt .i64 v163 fun i165 => .act (ld1 (aadd a55 5)) fun v166 => grd (past (ld1 (aadd a55 5)) v166 [h164, h159]) (asSlice v166 fun p167 n168 n169 => .call 32 [(.pointer (some a22)), (.slice p167 n168 n169)] fun v170 => asInt .i64 v170 fun i171 => .ret .normal [(.bool (i165 == i171))]))) (T6k0))) (T6k1))) (T6k2))) (T6k3))) (T6k4))) (T6k5)) (T6k7 p11 i4 a22 b29)))))) (T6k8 i26)) else (.ret (.exit 0) [(.int .i64 i26), (.bool b29)]))

noncomputable def T6k9 : Ex → List Value → Pg :=
  fun e268 l269 => sw e268 (.exit 0) (asCons l269 fun v270 l271 => asInt .i64 v270 fun i272 => asCons l271 fun v273 l274 => asBool v273 fun b275 => asNil l274 (.ret .ret [(.bool true)])) (sw e268 .ret (asCons l269 fun v276 l277 => asInt .i64 v276 fun i278 => asCons l277 fun v279 l280 => asBool v279 fun b281 => asNil l280 (.ret .ret [(.bool b281)])) (.fail))

noncomputable def T6k10 (i14 : Int) (p11 : (Option Addr)) (i0 : Int) (n2 : Nat) (p1 : (Option Addr)) (i4 : Int) : Ex → List Value → Pg :=
  fun e15 l16 => sw e15 .normal (asCons l16 fun v17 l18 => asBool v17 fun b19 => asNil l18 (bif b19 then (.ret .ret [(.bool ((i14 == 0) && (!(Option.isNone p11))))]) else (.act (newC [(.int .i64 i0), (.slice none 0 0)]) fun v20 => asPtr v20 fun p21 => asSome p21 fun a22 => .loop [(.int .i64 0), (.bool false)] (T6b0 n2 p1 p11 a22 i4) (T6k9)))) (.fail)

/-- hindsight/hindsightlaw17.FramePlays -/
noncomputable def T6 (i0 : Int) (p1 : (Option Addr)) (n2 : Nat) (n3 : Nat) (i4 : Int) : Pg :=
  .call 7 [] fun v5 => asBool v5 fun b6 => bif (!b6) then (.ret .ret [(.bool false)]) else (.call 8 [(.int .i64 i0)] fun v7 => asTuple v7 fun l8 => asCons l8 fun v9 l10 => asPtr v9 fun p11 => asCons l10 fun v12 l13 => asInt .i64 v12 fun i14 => asNil l13 (bif ((decide (i0 < 16)) || (decide (i0 > 4096))) then (.ret .ret [(.bool ((i14 == 1) && (Option.isNone p11)))]) else (.join (bif ((i14 != 0) || (Option.isNone p11)) == false then (.ret .normal [(.bool (decide (((n2 : Nat) : Int) > 60)))]) else (.ret .normal [(.bool true)])) (T6k10 i14 p11 i0 n2 p1 i4))))
theorem T6_eq (i0 : Int) (p1 : (Option Addr)) (n2 : Nat) (n3 : Nat) (i4 : Int) : progOf PROG false 6 [(.int .i64 i0), (.slice p1 n2 n3), (.int .i64 i4)] = T6 i0 p1 n2 n3 i4 := by kernel_rfl


noncomputable def T7k0 : Ex → List Value → Pg :=
  fun e35 l36 => sw e35 .normal (asCons l36 fun v37 l38 => asBool v37 fun b39 => asNil l38 (.ret .ret [(.bool b39)])) (.fail)

/-- hindsight/hindsightlaw17.awake -/
noncomputable def T7 : Pg :=
  .call 8 [(.int .i64 100)] fun v0 => asTuple v0 fun l1 => asCons l1 fun v2 l3 => asPtr v2 fun p4 => asCons l3 fun v5 l6 => asInt .i64 v5 fun i7 => asNil l6 (bif ((i7 != 0) || (Option.isNone p4)) then (.ret .ret [(.bool false)]) else (.call 9 [(.pointer p4), (.int .i64 7), (.int .i64 8), (.int .i64 2)] fun v8 => asInt .i64 v8 fun i9 => .call 22 [(.int .i64 5)] fun v10 => asInt .u64 v10 fun i11 => .call 10 [(.pointer p4), (.int .u64 i11)] fun v12 => asInt .i64 v12 fun i13 => .call 14 [(.pointer p4)] fun v14 => asTuple v14 fun l15 => asCons l15 fun v16 l17 => asInt .i64 v16 fun i18 => asCons l17 fun v19 l20 => asInt .i64 v19 fun i21 => asCons l20 fun v22 l23 => asInt .i64 v22 fun i24 => asNil l23 (.call 13 [(.pointer p4)] fun v25 => asTuple v25 fun l26 => asCons l26 fun v27 l28 => asInt .u64 v27 fun i29 => asCons l28 fun v30 l31 => asInt .i64 v30 fun i32 => asNil l31 (.join (bif ((((((i9 == 0) && (i13 == 0)) && (i18 == 7)) && (i21 == 8)) && (i24 == 0)) && (i32 == 4)) == true then (.call 15 [(.pointer p4)] fun v33 => asInt .i64 v33 fun i34 => .ret .normal [(.bool (i34 == 0))]) else (.ret .normal [(.bool false)])) (T7k0)))))
theorem T7_eq : progOf PROG false 7 [] = T7 := by kernel_rfl


/-- hindsight/frame.New -/
noncomputable def T8 (i0 : Int) : Pg :=
  bif ((decide (i0 < 16)) || (decide (i0 > 4096))) then (.ret .ret [(.tuple #[(.pointer none), (.int .i64 1)])]) else (.act (newC [(.int .i64 i0), (.int .i64 0), (.slice none 0 0)]) fun v1 => asPtr v1 fun p2 => asSome p2 fun a3 => .ret .ret [(.tuple #[(.pointer (some a3)), (.int .i64 0)])])
theorem T8_eq (i0 : Int) : progOf PROG false 8 [(.int .i64 i0)] = T8 i0 := by kernel_rfl


noncomputable def T9k0 (i32 : Int) : Ex → List Value → Pg :=
  fun e43 l44 => sw e43 .normal (asNil l44 (.ret .normal [(.int .i64 (wi64 (i32 + 1)))])) (.fail)

noncomputable def T9b0 (n27 : Nat) (a24 : Addr) : List Value → Pg :=
  fun l29 => asCons l29 fun v30 l31 => asInt .i64 v30 fun i32 => asNil l31 (bif (decide (i32 < ((n27 : Nat) : Int))) then (.join (.act (ld1 (aadd a24 2)) fun v33 => asSlice v33 fun p34 n35 n36 => .call 22 [(.int .i64 0)] fun v37 => asInt .u64 v37 fun i38 => .get fun h42 => grd (chks [((ld1 (aadd a24 2)), v33)] h42) (asSome p34 fun a39 => grd ((decide (0 ≤ i32)) && (decide (i32 < ((n35 : Nat) : Int)))) (.act (stC (aadd a39 ((Int.toNat i32) * 1)) [(.int .u64 i38)]) fun v40 => asTuple v40 fun l41 => asNil l41 (.ret .normal [])))) (T9k0 i32)) else (.ret (.exit 1) [(.int .i64 i32)]))

noncomputable def T9k1 (p0 : (Option Addr)) (a24 : Addr) : Ex → List Value → Pg :=
  fun e45 l46 => sw e45 (.exit 1) (asCons l46 fun v47 l48 => asInt .i64 v47 fun i49 => asNil l48 (asSome p0 fun a50 => .act (ld1 (aadd a50 2)) fun v51 => asSlice v51 fun p52 n53 n54 => .act (bdSl 1 1 [(.pointer (some a24))]) fun v55 => asSlice v55 fun p56 n57 n58 => .act (apS 1 8 p52 n53 n54 p56 n57 n58) fun v59 => asSlice v59 fun p60 n61 n62 => asSome p0 fun a63 => .act (stC (aadd a63 2) [(.slice p60 n61 n62)]) fun v64 => asTuple v64 fun l65 => asNil l65 (asSome p0 fun a66 => .act (ld1 (aadd a66 1)) fun v67 => asInt .i64 v67 fun i68 => .call 38 [(.pointer (some a24))] fun v69 => asInt .i64 v69 fun i70 => .get fun h74 => grd (chks [((ld1 (aadd a66 1)), v67)] h74) (asSome p0 fun a71 => .act (stC (aadd a71 1) [(.int .i64 (wi64 (i68 + i70)))]) fun v72 => asTuple v72 fun l73 => asNil l73 (.ret .ret [(.int .i64 0)]))))) (.fail)

noncomputable def T9k2 (i3 : Int) (i1 : Int) (i2 : Int) (p0 : (Option Addr)) : Ex → List Value → Pg :=
  fun e10 l11 => sw e10 .ret (asCons l11 fun v12 l13 => asInt .i64 v12 fun i14 => asNil l13 (.ret .ret [(.int .i64 i14)])) (sw e10 .normal (asCons l11 fun v15 l16 => asInt .i64 v15 fun i17 => asNil l16 (.act (mkSl 1 8 [(.int .u64 0)] i3 i3) fun v18 => asSlice v18 fun p19 n20 n21 => .act (newC [(.int .i64 i1), (.int .i64 i2), (.slice p19 n20 n21), (.slice none 0 0)]) fun v22 => asPtr v22 fun p23 => asSome p23 fun a24 => .act (ld1 (aadd a24 2)) fun v25 => asSlice v25 fun p26 n27 n28 => .loop [(.int .i64 0)] (T9b0 n27 a24) (T9k1 p0 a24))) (.fail))

/-- (*hindsight/frame.Stack).Push -/
noncomputable def T9 (p0 : (Option Addr)) (i1 : Int) (i2 : Int) (i3 : Int) : Pg :=
  .join (bif (decide (i3 < 0)) then (.ret .ret [(.int .i64 1)]) else (asSome p0 fun a4 => .act (ld1 (aadd a4 0)) fun v5 => asInt .i64 v5 fun i6 => asSome p0 fun a7 => .act (ld1 (aadd a7 1)) fun v8 => asInt .i64 v8 fun i9 => bif (decide (i3 > (wi64 ((wi64 (i6 - i9)) - 2)))) then (.ret .ret [(.int .i64 9)]) else (.ret .normal [(.int .i64 0)]))) (T9k2 i3 i1 i2 p0)
theorem T9_eq (p0 : (Option Addr)) (i1 : Int) (i2 : Int) (i3 : Int) : progOf PROG false 9 [(.pointer p0), (.int .i64 i1), (.int .i64 i2), (.int .i64 i3)] = T9 p0 i1 i2 i3 := by kernel_rfl


noncomputable def T10k0 (p3 : (Option Addr)) (i1 : Int) (p0 : (Option Addr)) : Ex → List Value → Pg :=
  fun e10 l11 => sw e10 .ret (asCons l11 fun v12 l13 => asInt .i64 v12 fun i14 => asNil l13 (.ret .ret [(.int .i64 i14)])) (sw e10 .normal (asCons l11 fun v15 l16 => asInt .i64 v15 fun i17 => asNil l16 (asSome p3 fun a18 => .act (ld1 (aadd a18 3)) fun v19 => asSlice v19 fun p20 n21 n22 => .act (bdSl 1 1 [(.int .u64 i1)]) fun v23 => asSlice v23 fun p24 n25 n26 => .act (apS 1 8 p20 n21 n22 p24 n25 n26) fun v27 => asSlice v27 fun p28 n29 n30 => asSome p3 fun a31 => .act (stC (aadd a31 3) [(.slice p28 n29 n30)]) fun v32 => asTuple v32 fun l33 => asNil l33 (asSome p0 fun a34 => .act (ld1 (aadd a34 1)) fun v35 => asInt .i64 v35 fun i36 => asSome p0 fun a37 => .act (stC (aadd a37 1) [(.int .i64 (wi64 (i36 + 1)))]) fun v38 => asTuple v38 fun l39 => asNil l39 (.ret .ret [(.int .i64 0)])))) (.fail))

/-- (*hindsight/frame.Stack).Add -/
noncomputable def T10 (p0 : (Option Addr)) (i1 : Int) : Pg :=
  .call 39 [(.pointer p0)] fun v2 => asPtr v2 fun p3 => .join (bif (Option.isNone p3) then (.ret .ret [(.int .i64 4)]) else (asSome p0 fun a4 => .act (ld1 (aadd a4 1)) fun v5 => asInt .i64 v5 fun i6 => asSome p0 fun a7 => .act (ld1 (aadd a7 0)) fun v8 => asInt .i64 v8 fun i9 => bif (decide (i6 ≥ i9)) then (.ret .ret [(.int .i64 9)]) else (.ret .normal [(.int .i64 0)]))) (T10k0 p3 i1 p0)
theorem T10_eq (p0 : (Option Addr)) (i1 : Int) : progOf PROG false 10 [(.pointer p0), (.int .u64 i1)] = T10 p0 i1 := by kernel_rfl


noncomputable def T11k0 (i10 : Int) : Ex → List Value → Pg :=
  fun e14 l15 => sw e14 .normal (asNil l15 (.ret .ret [(.int .i64 i10)])) (.fail)

/-- (*hindsight/frame.Stack).Set -/
noncomputable def T11 (p0 : (Option Addr)) (i1 : Int) (i2 : Int) : Pg :=
  .call 40 [(.pointer p0), (.int .i64 i1)] fun v3 => asTuple v3 fun l4 => asCons l4 fun v5 l6 => asPtr v5 fun p7 => asCons l6 fun v8 l9 => asInt .i64 v8 fun i10 => asNil l9 (.join (bif (i10 == 0) then (asSome p7 fun a11 => .act (stC a11 [(.int .u64 i2)]) fun v12 => asTuple v12 fun l13 => asNil l13 (.ret .normal [])) else (.ret .normal [])) (T11k0 i10))
theorem T11_eq (p0 : (Option Addr)) (i1 : Int) (i2 : Int) : progOf PROG false 11 [(.pointer p0), (.int .i64 i1), (.int .u64 i2)] = T11 p0 i1 i2 := by kernel_rfl


/-- (*hindsight/frame.Stack).Get -/
noncomputable def T12 (p0 : (Option Addr)) (i1 : Int) : Pg :=
  .call 40 [(.pointer p0), (.int .i64 i1)] fun v2 => asTuple v2 fun l3 => asCons l3 fun v4 l5 => asPtr v4 fun p6 => asCons l5 fun v7 l8 => asInt .i64 v7 fun i9 => asNil l8 (bif (i9 != 0) then (.ret .ret [(.tuple #[(.int .u64 0), (.int .i64 i9)])]) else (asSome p6 fun a10 => .act (ld1 a10) fun v11 => asInt .u64 v11 fun i12 => .ret .ret [(.tuple #[(.int .u64 i12), (.int .i64 0)])]))
theorem T12_eq (p0 : (Option Addr)) (i1 : Int) : progOf PROG false 12 [(.pointer p0), (.int .i64 i1)] = T12 p0 i1 := by kernel_rfl


noncomputable def T13k0 (p2 : (Option Addr)) (p0 : (Option Addr)) : Ex → List Value → Pg :=
  fun e8 l9 => sw e8 .normal (asCons l9 fun v10 l11 => asBool v10 fun b12 => asNil l11 (bif b12 then (.ret .ret [(.tuple #[(.int .u64 0), (.int .i64 4)])]) else (asSome p2 fun a13 => .act (ld1 (aadd a13 3)) fun v14 => asSlice v14 fun p15 n16 n17 => asSome p2 fun a18 => .act (ld1 (aadd a18 3)) fun v19 => asSlice v19 fun p20 n21 n22 => asSome p20 fun a23 => grd ((decide (0 ≤ (wi64 (((n16 : Nat) : Int) - 1)))) && (decide ((wi64 (((n16 : Nat) : Int) - 1)) < ((n21 : Nat) : Int)))) (.act (ld1 (aadd a23 ((Int.toNat (wi64 (((n16 : Nat) : Int) - 1))) * 1))) fun v24 => asInt .u64 v24 fun i25 => asSome p2 fun a26 => .act (ld1 (aadd a26 3)) fun v27 => asSlice v27 fun p28 n29 n30 => grd ((((decide (0 ≤ (wi64 (((n16 : Nat) : Int) - 1)))) && (decide ((wi64 (((n16 : Nat) : Int) - 1)) ≤ ((n30 : Nat) : Int)))) && (decide (((n30 : Nat) : Int) ≤ ((n30 : Nat) : Int)))) && ((mayCut p28 1) || true)) (asSome p2 fun a31 => .act (stC (aadd a31 3) [(.slice p28 (Int.toNat (wi64 (((n16 : Nat) : Int) - 1))) n30)]) fun v32 => asTuple v32 fun l33 => asNil l33 (asSome p0 fun a34 => .act (ld1 (aadd a34 1)) fun v35 => asInt .i64 v35 fun i36 => asSome p0 fun a37 => .act (stC (aadd a37 1) [(.int .i64 (wi64 (i36 - 1)))]) fun v38 => asTuple v38 fun l39 => asNil l39 (.ret .ret [(.tuple #[(.int .u64 i25), (.int .i64 0)])]))))))) (.fail)

/-- (*hindsight/frame.Stack).Take -/
noncomputable def T13 (p0 : (Option Addr)) : Pg :=
  .call 39 [(.pointer p0)] fun v1 => asPtr v1 fun p2 => .join (bif (Option.isNone p2) == false then (asSome p2 fun a3 => .act (ld1 (aadd a3 3)) fun v4 => asSlice v4 fun p5 n6 n7 => .ret .normal [(.bool (((n6 : Nat) : Int) == 0))]) else (.ret .normal [(.bool true)])) (T13k0 p2 p0)
theorem T13_eq (p0 : (Option Addr)) : progOf PROG false 13 [(.pointer p0)] = T13 p0 := by kernel_rfl


/-- (*hindsight/frame.Stack).Pop -/
noncomputable def T14 (p0 : (Option Addr)) : Pg :=
  .call 39 [(.pointer p0)] fun v1 => asPtr v1 fun p2 => bif (Option.isNone p2) then (.ret .ret [(.tuple #[(.int .i64 0), (.int .i64 0), (.int .i64 4)])]) else (.call 41 [(.pointer p0)] fun v3 => asTuple v3 fun l4 => asNil l4 (asSome p2 fun a5 => .act (ld1 (aadd a5 0)) fun v6 => asInt .i64 v6 fun i7 => asSome p2 fun a8 => .act (ld1 (aadd a8 1)) fun v9 => asInt .i64 v9 fun i10 => .ret .ret [(.tuple #[(.int .i64 i7), (.int .i64 i10), (.int .i64 0)])]))
theorem T14_eq (p0 : (Option Addr)) : progOf PROG false 14 [(.pointer p0)] = T14 p0 := by kernel_rfl


/-- (*hindsight/frame.Stack).Depth -/
noncomputable def T15 (p0 : (Option Addr)) : Pg :=
  asSome p0 fun a1 => .act (ld1 (aadd a1 2)) fun v2 => asSlice v2 fun p3 n4 n5 => .ret .ret [(.int .i64 ((n4 : Nat) : Int))]
theorem T15_eq (p0 : (Option Addr)) : progOf PROG false 15 [(.pointer p0)] = T15 p0 := by kernel_rfl


noncomputable def T16k0 (i9 : Int) : Ex → List Value → Pg :=
  fun e37 l38 => sw e37 .normal (asCons l38 fun v39 l40 => asSlice v39 fun p41 n42 n43 => asNil l40 (.ret .normal [(.int .i64 (wi64 (i9 + 1))), (.slice p41 n42 n43)])) (.fail)

noncomputable def T16b0 (n4 : Nat) (p3 : (Option Addr)) : List Value → Pg :=
  fun l6 => asCons l6 fun v7 l8 => asInt .i64 v7 fun i9 => asCons l8 fun v10 l11 => asSlice v10 fun p12 n13 n14 => asNil l11 (bif (decide (i9 < ((n4 : Nat) : Int))) then (.join (asSome p3 fun a15 => grd ((decide (0 ≤ i9)) && (decide (i9 < ((n4 : Nat) : Int)))) (.act (ld1 (aadd a15 ((Int.toNat i9) * 1))) fun v16 => asPtr v16 fun p17 => asSome p17 fun a18 => .act (ld1 (aadd a18 2)) fun v19 => asSlice v19 fun p20 n21 n22 => .get fun h24 => .act (apS 1 8 p12 n13 n14 p20 n21 n22) fun v23 => asSlice v23 fun p25 n26 n27 => asSome p17 fun a28 => .act (ld1 (aadd a28 3)) fun v29 => grd (past (ld1 (aadd a28 3)) v29 [h24]) (asSlice v29 fun p30 n31 n32 => .act (apS 1 8 p25 n26 n27 p30 n31 n32) fun v33 => asSlice v33 fun p34 n35 n36 => .ret .normal [(.slice p34 n35 n36)]))) (T16k0 i9)) else (.ret (.exit 0) [(.int .i64 i9), (.slice p12 n13 n14)]))

noncomputable def T16k1 : Ex → List Value → Pg :=
  fun e44 l45 => sw e44 (.exit 0) (asCons l45 fun v46 l47 => asInt .i64 v46 fun i48 => asCons l47 fun v49 l50 => asSlice v49 fun p51 n52 n53 => asNil l50 (.ret .ret [(.slice p51 n52 n53)])) (.fail)

/-- (*hindsight/frame.Stack).Roots -/
noncomputable def T16 (p0 : (Option Addr)) : Pg :=
  asSome p0 fun a1 => .act (ld1 (aadd a1 2)) fun v2 => asSlice v2 fun p3 n4 n5 => .loop [(.int .i64 0), (.slice none 0 0)] (T16b0 n4 p3) (T16k1)
theorem T16_eq (p0 : (Option Addr)) : progOf PROG false 16 [(.pointer p0)] = T16 p0 := by kernel_rfl


noncomputable def T17k0 (i6 : Int) : Ex → List Value → Pg :=
  fun e23 l24 => sw e23 .normal (asCons l24 fun v25 l26 => asSlice v25 fun p27 n28 n29 => asNil l26 (.ret .normal [(.int .i64 (wi64 (i6 + 1))), (.slice p27 n28 n29)])) (.fail)

noncomputable def T17b0 (n1 : Nat) (p0 : (Option Addr)) : List Value → Pg :=
  fun l3 => asCons l3 fun v4 l5 => asInt .i64 v4 fun i6 => asCons l5 fun v7 l8 => asSlice v7 fun p9 n10 n11 => asNil l8 (bif (decide (i6 < ((n1 : Nat) : Int))) then (.join (asSome p0 fun a12 => grd ((decide (0 ≤ i6)) && (decide (i6 < ((n1 : Nat) : Int)))) (.act (ld1 (aadd a12 ((Int.toNat i6) * 1))) fun v13 => asInt .u64 v13 fun i14 => .act (bdSl 1 1 [(.int .u64 i14)]) fun v15 => asSlice v15 fun p16 n17 n18 => .act (apS 1 8 p9 n10 n11 p16 n17 n18) fun v19 => asSlice v19 fun p20 n21 n22 => .ret .normal [(.slice p20 n21 n22)])) (T17k0 i6)) else (.ret (.exit 0) [(.int .i64 i6), (.slice p9 n10 n11)]))

noncomputable def T17k1 : Ex → List Value → Pg :=
  fun e30 l31 => sw e30 (.exit 0) (asCons l31 fun v32 l33 => asInt .i64 v32 fun i34 => asCons l33 fun v35 l36 => asSlice v35 fun p37 n38 n39 => asNil l36 (.ret .ret [(.slice p37 n38 n39)])) (.fail)

/-- hindsight/hindsightlaw17.words -/
noncomputable def T17 (p0 : (Option Addr)) (n1 : Nat) (n2 : Nat) : Pg :=
  .loop [(.int .i64 0), (.slice none 0 0)] (T17b0 n1 p0) (T17k1)
theorem T17_eq (p0 : (Option Addr)) (n1 : Nat) (n2 : Nat) : progOf PROG false 17 [(.slice p0 n1 n2)] = T17 p0 n1 n2 := by kernel_rfl


noncomputable def T18k0 (i20 : Int) : Ex → List Value → Pg :=
  fun e43 l44 => sw e43 .normal (asCons l44 fun v45 l46 => asSlice v45 fun p47 n48 n49 => asNil l46 (.ret .normal [(.int .i64 (wi64 (i20 + 1))), (.slice p47 n48 n49)])) (.fail)

noncomputable def T18b0 (n15 : Nat) (p14 : (Option Addr)) : List Value → Pg :=
  fun l17 => asCons l17 fun v18 l19 => asInt .i64 v18 fun i20 => asCons l19 fun v21 l22 => asSlice v21 fun p23 n24 n25 => asNil l22 (bif (decide (i20 < ((n15 : Nat) : Int))) then (.join (asSome p14 fun a26 => grd ((decide (0 ≤ i20)) && (decide (i20 < ((n15 : Nat) : Int)))) (.act (ld1 (aadd a26 ((Int.toNat i20) * 1))) fun v27 => asPtr v27 fun p28 => asSome p28 fun a29 => .act (ld1 (aadd a29 2)) fun v30 => asSlice v30 fun p31 n32 n33 => .act (cpy 1 p31 n32 n24 (.slice p23 n24 n25)) fun v34 => asInt .i64 v34 fun i35 => grd (((((decide (0 ≤ i35)) && (decide (i35 ≤ ((n24 : Nat) : Int)))) && (decide (((n24 : Nat) : Int) ≤ ((n25 : Nat) : Int)))) && (decide (((n25 : Nat) : Int) ≤ ((n25 : Nat) : Int)))) && ((mayCut p23 1) || (decide (i35 = 0)))) (asSome p28 fun a36 => .act (ld1 (aadd a36 3)) fun v37 => asSlice v37 fun p38 n39 n40 => .act (cpy 1 p38 n39 (n24 - (Int.toNat i35)) (.slice (cutS p23 ((Int.toNat i35) * 1)) (n24 - (Int.toNat i35)) (n25 - (Int.toNat i35)))) fun v41 => asInt .i64 v41 fun i42 => grd (((((decide (0 ≤ i42)) && (decide (i42 ≤ (((n24 - (Int.toNat i35)) : Nat) : Int)))) && (decide ((((n24 - (Int.toNat i35)) : Nat) : Int) ≤ (((n25 - (Int.toNat i35)) : Nat) : Int)))) && (decide ((((n25 - (Int.toNat i35)) : Nat) : Int) ≤ (((n25 - (Int.toNat i35)) : Nat) : Int)))) && ((mayCut (cutS p23 ((Int.toNat i35) * 1)) 1) || (decide (i42 = 0)))) (.ret .normal [(.slice (cutS (cutS p23 ((Int.toNat i35) * 1)) ((Int.toNat i42) * 1)) ((n24 - (Int.toNat i35)) - (Int.toNat i42)) ((n25 - (Int.toNat i35)) - (Int.toNat i42)))])))) (T18k0 i20)) else (.ret (.exit 0) [(.int .i64 i20), (.slice p23 n24 n25)]))

noncomputable def T18k1 : Ex → List Value → Pg :=
  fun e50 l51 => sw e50 (.exit 0) (asCons l51 fun v52 l53 => asInt .i64 v52 fun i54 => asCons l53 fun v55 l56 => asSlice v55 fun p57 n58 n59 => asNil l56 (.ret .ret [(.int .i64 0)])) (.fail)

/-- (*hindsight/frame.Stack).Renew -/
noncomputable def T18 (p0 : (Option Addr)) (p1 : (Option Addr)) (n2 : Nat) (n3 : Nat) : Pg :=
  asSome p0 fun a4 => .act (ld1 (aadd a4 1)) fun v5 => asInt .i64 v5 fun i6 => asSome p0 fun a7 => .act (ld1 (aadd a7 2)) fun v8 => asSlice v8 fun p9 n10 n11 => bif (((n2 : Nat) : Int) != (wi64 (i6 - (wi64 (2 * ((n10 : Nat) : Int)))))) then (.ret .ret [(.int .i64 1)]) else (asSome p0 fun a12 => .act (ld1 (aadd a12 2)) fun v13 => asSlice v13 fun p14 n15 n16 => .loop [(.int .i64 0), (.slice p1 n2 n3)] (T18b0 n15 p14) (T18k1))
theorem T18_eq (p0 : (Option Addr)) (p1 : (Option Addr)) (n2 : Nat) (n3 : Nat) : progOf PROG false 18 [(.pointer p0), (.slice p1 n2 n3)] = T18 p0 p1 n2 n3 := by kernel_rfl


noncomputable def T19k0 (i6 : Int) : Ex → List Value → Pg :=
  fun e23 l24 => sw e23 .normal (asCons l24 fun v25 l26 => asSlice v25 fun p27 n28 n29 => asNil l26 (.ret .normal [(.int .i64 (wi64 (i6 + 1))), (.slice p27 n28 n29)])) (.fail)

noncomputable def T19b0 (n1 : Nat) (p0 : (Option Addr)) : List Value → Pg :=
  fun l3 => asCons l3 fun v4 l5 => asInt .i64 v4 fun i6 => asCons l5 fun v7 l8 => asSlice v7 fun p9 n10 n11 => asNil l8 (bif (decide (i6 < ((n1 : Nat) : Int))) then (.join (asSome p0 fun a12 => grd ((decide (0 ≤ i6)) && (decide (i6 < ((n1 : Nat) : Int)))) (.act (ld1 (aadd a12 ((Int.toNat i6) * 1))) fun v13 => asInt .u64 v13 fun i14 => .act (bdSl 1 1 [(.int .u64 i14)]) fun v15 => asSlice v15 fun p16 n17 n18 => .act (apS 1 8 p9 n10 n11 p16 n17 n18) fun v19 => asSlice v19 fun p20 n21 n22 => .ret .normal [(.slice p20 n21 n22)])) (T19k0 i6)) else (.ret (.exit 0) [(.int .i64 i6), (.slice p9 n10 n11)]))

noncomputable def T19k1 : Ex → List Value → Pg :=
  fun e30 l31 => sw e30 (.exit 0) (asCons l31 fun v32 l33 => asInt .i64 v32 fun i34 => asCons l33 fun v35 l36 => asSlice v35 fun p37 n38 n39 => asNil l36 (.ret .ret [(.slice p37 n38 n39)])) (.fail)

/-- hindsight/hindsightlaw17.back -/
noncomputable def T19 (p0 : (Option Addr)) (n1 : Nat) (n2 : Nat) : Pg :=
  .loop [(.int .i64 0), (.slice none 0 0)] (T19b0 n1 p0) (T19k1)
theorem T19_eq (p0 : (Option Addr)) (n1 : Nat) (n2 : Nat) : progOf PROG false 19 [(.slice p0 n1 n2)] = T19 p0 n1 n2 := by kernel_rfl


noncomputable def T20k0 (i9 : Int) : Ex → List Value → Pg :=
  fun e19 l20 => sw e19 .ret (asCons l20 fun v21 l22 => asBool v21 fun b23 => asNil l22 (.ret .ret [(.int .i64 i9), (.bool b23)])) (sw e19 .normal (asCons l20 fun v24 l25 => asBool v24 fun b26 => asNil l25 (.ret .normal [(.int .i64 (wi64 (i9 + 1))), (.bool b26)])) (.fail))

noncomputable def T20b0 (n1 : Nat) (p0 : (Option Addr)) (p3 : (Option Addr)) (n4 : Nat) : List Value → Pg :=
  fun l6 => asCons l6 fun v7 l8 => asInt .i64 v7 fun i9 => asCons l8 fun v10 l11 => asBool v10 fun b12 => asNil l11 (bif (decide (i9 < ((n1 : Nat) : Int))) then (.join (asSome p0 fun a13 => grd ((decide (0 ≤ i9)) && (decide (i9 < ((n1 : Nat) : Int)))) (.act (ld1 (aadd a13 ((Int.toNat i9) * 1))) fun v14 => asInt .u64 v14 fun i15 => asSome p3 fun a16 => grd ((decide (0 ≤ i9)) && (decide (i9 < ((n4 : Nat) : Int)))) (.act (ld1 (aadd a16 ((Int.toNat i9) * 1))) fun v17 => asInt .u64 v17 fun i18 => bif (i15 != i18) then (.ret .ret [(.bool false)]) else (.ret .normal [(.bool b12)])))) (T20k0 i9)) else (.ret (.exit 0) [(.int .i64 i9), (.bool b12)]))

noncomputable def T20k1 : Ex → List Value → Pg :=
  fun e27 l28 => sw e27 (.exit 0) (asCons l28 fun v29 l30 => asInt .i64 v29 fun i31 => asCons l30 fun v32 l33 => asBool v32 fun b34 => asNil l33 (.ret .ret [(.bool true)])) (sw e27 .ret (asCons l28 fun v35 l36 => asInt .i64 v35 fun i37 => asCons l36 fun v38 l39 => asBool v38 fun b40 => asNil l39 (.ret .ret [(.bool b40)])) (.fail))

/-- hindsight/hindsightlaw17.same -/
noncomputable def T20 (p0 : (Option Addr)) (n1 : Nat) (n2 : Nat) (p3 : (Option Addr)) (n4 : Nat) (n5 : Nat) : Pg :=
  bif (((n1 : Nat) : Int) != ((n4 : Nat) : Int)) then (.ret .ret [(.bool false)]) else (.loop [(.int .i64 0), (.bool false)] (T20b0 n1 p0 p3 n4) (T20k1))
theorem T20_eq (p0 : (Option Addr)) (n1 : Nat) (n2 : Nat) (p3 : (Option Addr)) (n4 : Nat) (n5 : Nat) : progOf PROG false 20 [(.slice p0 n1 n2), (.slice p3 n4 n5)] = T20 p0 n1 n2 p3 n4 n5 := by kernel_rfl


/-- (*hindsight/frame.Stack).Added -/
noncomputable def T21 (p0 : (Option Addr)) : Pg :=
  .call 39 [(.pointer p0)] fun v1 => asPtr v1 fun p2 => bif (!(Option.isNone p2)) then (asSome p2 fun a3 => .act (ld1 (aadd a3 3)) fun v4 => asSlice v4 fun p5 n6 n7 => .ret .ret [(.int .i64 ((n6 : Nat) : Int))]) else (.ret .ret [(.int .i64 0)])
theorem T21_eq (p0 : (Option Addr)) : progOf PROG false 21 [(.pointer p0)] = T21 p0 := by kernel_rfl


/-- hindsight/word.Num -/
noncomputable def T22 (i0 : Int) : Pg :=
  .ret .ret [(.int .u64 (orI .u64 (shlI .u64 (wu64 i0) 1) 1))]
theorem T22_eq (i0 : Int) : progOf PROG false 22 [(.int .i64 i0)] = T22 i0 := by kernel_rfl


noncomputable def T23k0 : Ex → List Value → Pg :=
  fun e39 l40 => sw e39 .normal (asNil l40 (.ret .normal [])) (.fail)

noncomputable def T23b0 (p0 : (Option Addr)) (i1 : Int) : List Value → Pg :=
  fun l31 => asNil l31 (asSome p0 fun a32 => .act (ld1 (aadd a32 2)) fun v33 => asSlice v33 fun p34 n35 n36 => bif (decide (((n35 : Nat) : Int) > i1)) then (.join (.call 41 [(.pointer p0)] fun v37 => asTuple v37 fun l38 => asNil l38 (.ret .normal [])) (T23k0)) else (.ret (.exit 0) []))

noncomputable def T23k1 : Ex → List Value → Pg :=
  fun e64 l65 => sw e64 .normal (asNil l65 (.ret .ret [(.int .i64 0)])) (.fail)

noncomputable def T23k2 (p0 : (Option Addr)) (i2 : Int) : Ex → List Value → Pg :=
  fun e41 l42 => sw e41 (.exit 0) (asNil l42 (.call 39 [(.pointer p0)] fun v43 => asPtr v43 fun p44 => .join (bif (!(Option.isNone p44)) then (asSome p0 fun a45 => .act (ld1 (aadd a45 1)) fun v46 => asInt .i64 v46 fun i47 => asSome p44 fun a48 => .act (ld1 (aadd a48 3)) fun v49 => asSlice v49 fun p50 n51 n52 => asSome p0 fun a53 => .act (stC (aadd a53 1) [(.int .i64 (wi64 (i47 - (wi64 (((n51 : Nat) : Int) - i2)))))]) fun v54 => asTuple v54 fun l55 => asNil l55 (asSome p44 fun a56 => .act (ld1 (aadd a56 3)) fun v57 => asSlice v57 fun p58 n59 n60 => grd ((((decide (0 ≤ i2)) && (decide (i2 ≤ ((n60 : Nat) : Int)))) && (decide (((n60 : Nat) : Int) ≤ ((n60 : Nat) : Int)))) && ((mayCut p58 1) || true)) (asSome p44 fun a61 => .act (stC (aadd a61 3) [(.slice p58 (Int.toNat i2) n60)]) fun v62 => asTuple v62 fun l63 => asNil l63 (.ret .normal [])))) else (.ret .normal [])) (T23k1))) (.fail)

noncomputable def T23k3 (p0 : (Option Addr)) (i1 : Int) (i2 : Int) : Ex → List Value → Pg :=
  fun e26 l27 => sw e26 .normal (asCons l27 fun v28 l29 => asBool v28 fun b30 => asNil l29 (bif b30 then (.ret .ret [(.int .i64 1)]) else (.loop [] (T23b0 p0 i1) (T23k2 p0 i2)))) (.fail)

noncomputable def T23k4 (i1 : Int) (i2 : Int) (p0 : (Option Addr)) : Ex → List Value → Pg :=
  fun e8 l9 => sw e8 .normal (asCons l9 fun v10 l11 => asBool v10 fun b12 => asNil l11 (bif b12 then (.ret .ret [(.int .i64 1)]) else (.join (bif ((i1 == 0) && (decide (i2 > 0))) == false then (bif (decide (i1 > 0)) == true then (asSome p0 fun a13 => .act (ld1 (aadd a13 2)) fun v14 => asSlice v14 fun p15 n16 n17 => asSome p15 fun a18 => grd ((decide (0 ≤ (wi64 (i1 - 1)))) && (decide ((wi64 (i1 - 1)) < ((n16 : Nat) : Int)))) (.act (ld1 (aadd a18 ((Int.toNat (wi64 (i1 - 1))) * 1))) fun v19 => asPtr v19 fun p20 => asSome p20 fun a21 => .act (ld1 (aadd a21 3)) fun v22 => asSlice v22 fun p23 n24 n25 => .ret .normal [(.bool (decide (i2 > ((n24 : Nat) : Int))))])) else (.ret .normal [(.bool false)])) else (.ret .normal [(.bool true)])) (T23k3 p0 i1 i2)))) (.fail)

/-- (*hindsight/frame.Stack).Cut -/
noncomputable def T23 (p0 : (Option Addr)) (i1 : Int) (i2 : Int) : Pg :=
  .join (bif (decide (i1 < 0)) == false then (asSome p0 fun a3 => .act (ld1 (aadd a3 2)) fun v4 => asSlice v4 fun p5 n6 n7 => .ret .normal [(.bool ((decide (i1 > ((n6 : Nat) : Int))) || (decide (i2 < 0))))]) else (.ret .normal [(.bool true)])) (T23k4 i1 i2 p0)
theorem T23_eq (p0 : (Option Addr)) (i1 : Int) (i2 : Int) : progOf PROG false 23 [(.pointer p0), (.int .i64 i1), (.int .i64 i2)] = T23 p0 i1 i2 := by kernel_rfl


noncomputable def T24k0 (i9 : Int) : Ex → List Value → Pg :=
  fun e19 l20 => sw e19 .ret (asCons l20 fun v21 l22 => asBool v21 fun b23 => asNil l22 (.ret .ret [(.int .i64 i9), (.bool b23)])) (sw e19 .normal (asCons l20 fun v24 l25 => asBool v24 fun b26 => asNil l25 (.ret .normal [(.int .i64 (wi64 (i9 + 1))), (.bool b26)])) (.fail))

noncomputable def T24b0 (n1 : Nat) (p0 : (Option Addr)) (p3 : (Option Addr)) (n4 : Nat) : List Value → Pg :=
  fun l6 => asCons l6 fun v7 l8 => asInt .i64 v7 fun i9 => asCons l8 fun v10 l11 => asBool v10 fun b12 => asNil l11 (bif (decide (i9 < ((n1 : Nat) : Int))) then (.join (asSome p0 fun a13 => grd ((decide (0 ≤ i9)) && (decide (i9 < ((n1 : Nat) : Int)))) (.act (ld1 (aadd a13 ((Int.toNat i9) * 1))) fun v14 => asInt .i64 v14 fun i15 => asSome p3 fun a16 => grd ((decide (0 ≤ i9)) && (decide (i9 < ((n4 : Nat) : Int)))) (.act (ld1 (aadd a16 ((Int.toNat i9) * 1))) fun v17 => asInt .i64 v17 fun i18 => bif (i15 != i18) then (.ret .ret [(.bool false)]) else (.ret .normal [(.bool b12)])))) (T24k0 i9)) else (.ret (.exit 0) [(.int .i64 i9), (.bool b12)]))

noncomputable def T24k1 : Ex → List Value → Pg :=
  fun e27 l28 => sw e27 (.exit 0) (asCons l28 fun v29 l30 => asInt .i64 v29 fun i31 => asCons l30 fun v32 l33 => asBool v32 fun b34 => asNil l33 (.ret .ret [(.bool true)])) (sw e27 .ret (asCons l28 fun v35 l36 => asInt .i64 v35 fun i37 => asCons l36 fun v38 l39 => asBool v38 fun b40 => asNil l39 (.ret .ret [(.bool b40)])) (.fail))

/-- hindsight/hindsightlaw17.ints -/
noncomputable def T24 (p0 : (Option Addr)) (n1 : Nat) (n2 : Nat) (p3 : (Option Addr)) (n4 : Nat) (n5 : Nat) : Pg :=
  bif (((n1 : Nat) : Int) != ((n4 : Nat) : Int)) then (.ret .ret [(.bool false)]) else (.loop [(.int .i64 0), (.bool false)] (T24b0 n1 p0 p3 n4) (T24k1))
theorem T24_eq (p0 : (Option Addr)) (n1 : Nat) (n2 : Nat) (p3 : (Option Addr)) (n4 : Nat) (n5 : Nat) : progOf PROG false 24 [(.slice p0 n1 n2), (.slice p3 n4 n5)] = T24 p0 n1 n2 p3 n4 n5 := by kernel_rfl


noncomputable def T26k0 (i26 : Int) : Ex → List Value → Pg :=
  fun e41 l42 => sw e41 .normal (asNil l42 (.ret .normal [(.int .i64 (wi64 (i26 + 1)))])) (.fail)

noncomputable def T26b0 (i3 : Int) (a20 : Addr) : List Value → Pg :=
  fun l23 => asCons l23 fun v24 l25 => asInt .i64 v24 fun i26 => asNil l25 (bif (decide (i26 < i3)) then (.join (.act (ld1 (aadd a20 2)) fun v27 => asSlice v27 fun p28 n29 n30 => .act (bdSl 1 1 [(.int .u64 1)]) fun v31 => asSlice v31 fun p32 n33 n34 => .act (apS 1 8 p28 n29 n30 p32 n33 n34) fun v35 => asSlice v35 fun p36 n37 n38 => .act (stC (aadd a20 2) [(.slice p36 n37 n38)]) fun v39 => asTuple v39 fun l40 => asNil l40 (.ret .normal [])) (T26k0 i26)) else (.ret (.exit 0) [(.int .i64 i26)]))

noncomputable def T26k1 (p0 : (Option Addr)) (a20 : Addr) : Ex → List Value → Pg :=
  fun e43 l44 => sw e43 (.exit 0) (asCons l44 fun v45 l46 => asInt .i64 v45 fun i47 => asNil l46 (.get fun h48 => .get fun h50 => grd (newN h48.n h50 []) (.act (bdSl 4 0 []) fun v49 => asSlice v49 fun p52 n53 n54 => .get fun h51 => asSome p0 fun a55 => .act (ld1 (aadd a55 1)) fun v56 => asSlice v56 fun p57 n58 n59 => .act (ldN 4 a20) fun v60 => asAgg v60 fun l61 => asCons l61 fun v62 l63 => asInt .i64 v62 fun i64 => asCons l63 fun v65 l66 => asInt .i64 v65 fun i67 => asCons l66 fun v68 l69 => asSlice v68 fun p70 n71 n72 => asCons l69 fun v73 l74 => asSlice v73 fun p75 n76 n77 => asNil l74 (.get fun h79 => grd (newN h48.n h79 [h50.n]) (.act (bdSl 4 1 [(.int .i64 i64), (.int .i64 i67), (.slice p70 n71 n72), (.slice p75 n76 n77)]) fun v78 => asSlice v78 fun p81 n82 n83 => .get fun h80 => .act (apS 4 64 p52 n53 n54 p57 n58 n59) fun v84 => asSlice v84 fun p85 n86 n87 => .get fun h96 => grd (chks [((ldN 4 a20), v60)] h96) (.get fun h95 => grd (chkO [(h79.n, (h80.get h79.n))] h95) (.act (apS 4 64 p85 n86 n87 p81 n82 n83) fun v88 => asSlice v88 fun p89 n90 n91 => asSome p0 fun a92 => .act (stC (aadd a92 1) [(.slice p89 n90 n91)]) fun v93 => asTuple v93 fun l94 => asNil l94 (.ret .ret [(.int .i64 0)])))))))) (.fail)

noncomputable def T26k2 (i1 : Int) (i2 : Int) (i3 : Int) (p0 : (Option Addr)) : Ex → List Value → Pg :=
  fun e13 l14 => sw e13 .normal (asCons l14 fun v15 l16 => asBool v15 fun b17 => asNil l16 (bif b17 then (.ret .ret [(.int .i64 9)]) else (.act (newC [(.int .i64 0), (.int .i64 0), (.slice none 0 0), (.slice none 0 0)]) fun v18 => asPtr v18 fun p19 => asSome p19 fun a20 => .act (stC a20 [(.int .i64 i1), (.int .i64 i2), (.slice none 0 0), (.slice none 0 0)]) fun v21 => asTuple v21 fun l22 => asNil l22 (.loop [(.int .i64 0)] (T26b0 i3 a20) (T26k1 p0 a20))))) (.fail)

/-- (*hindsight/hindsightref11.Stack).Push -/
noncomputable def T26 (p0 : (Option Addr)) (i1 : Int) (i2 : Int) (i3 : Int) : Pg :=
  bif (decide (i3 < 0)) then (.ret .ret [(.int .i64 1)]) else (.join (asSome p0 fun a4 => .act (ld1 (aadd a4 0)) fun v5 => asInt .i64 v5 fun i6 => bif (decide (i3 > i6)) == false then (asSome p0 fun a7 => .act (ld1 (aadd a7 0)) fun v8 => asInt .i64 v8 fun i9 => .call 43 [(.pointer p0)] fun v10 => asInt .i64 v10 fun i11 => .get fun h12 => grd (chks [((ld1 (aadd a7 0)), v8)] h12) (.ret .normal [(.bool (decide ((wi64 (2 + i3)) > (wi64 (i9 - i11)))))])) else (.ret .normal [(.bool true)])) (T26k2 i1 i2 i3 p0))
theorem T26_eq (p0 : (Option Addr)) (i1 : Int) (i2 : Int) (i3 : Int) : progOf PROG false 26 [(.pointer p0), (.int .i64 i1), (.int .i64 i2), (.int .i64 i3)] = T26 p0 i1 i2 i3 := by kernel_rfl


/-- (*hindsight/hindsightref11.Stack).Pop -/
noncomputable def T27 (p0 : (Option Addr)) : Pg :=
  asSome p0 fun a1 => .act (ld1 (aadd a1 1)) fun v2 => asSlice v2 fun p3 n4 n5 => bif (((n4 : Nat) : Int) == 0) then (.ret .ret [(.tuple #[(.int .i64 0), (.int .i64 0), (.int .i64 4)])]) else (asSome p0 fun a6 => .act (ld1 (aadd a6 1)) fun v7 => asSlice v7 fun p8 n9 n10 => asSome p8 fun a11 => grd ((decide (0 ≤ (wi64 (((n4 : Nat) : Int) - 1)))) && (decide ((wi64 (((n4 : Nat) : Int) - 1)) < ((n9 : Nat) : Int)))) (.act (ldN 4 (aadd a11 ((Int.toNat (wi64 (((n4 : Nat) : Int) - 1))) * 4))) fun v12 => asAgg v12 fun l13 => asCons l13 fun v14 l15 => asInt .i64 v14 fun i16 => asCons l15 fun v17 l18 => asInt .i64 v17 fun i19 => asCons l18 fun v20 l21 => asSlice v20 fun p22 n23 n24 => asCons l21 fun v25 l26 => asSlice v25 fun p27 n28 n29 => asNil l26 (.act (newC [(.int .i64 0), (.int .i64 0), (.slice none 0 0), (.slice none 0 0)]) fun v30 => asPtr v30 fun p31 => asSome p31 fun a32 => .act (stC a32 [(.int .i64 i16), (.int .i64 i19), (.slice p22 n23 n24), (.slice p27 n28 n29)]) fun v33 => asTuple v33 fun l34 => asNil l34 (asSome p0 fun a35 => .act (ld1 (aadd a35 1)) fun v36 => asSlice v36 fun p37 n38 n39 => grd ((((decide (0 ≤ (wi64 (((n4 : Nat) : Int) - 1)))) && (decide ((wi64 (((n4 : Nat) : Int) - 1)) ≤ (wi64 (((n4 : Nat) : Int) - 1))))) && (decide ((wi64 (((n4 : Nat) : Int) - 1)) ≤ ((n39 : Nat) : Int)))) && ((mayCut p37 4) || true)) (asSome p0 fun a40 => .act (stC (aadd a40 1) [(.slice p37 (Int.toNat (wi64 (((n4 : Nat) : Int) - 1))) (Int.toNat (wi64 (((n4 : Nat) : Int) - 1))))]) fun v41 => asTuple v41 fun l42 => asNil l42 (.act (ld1 (aadd a32 0)) fun v43 => asInt .i64 v43 fun i44 => .act (ld1 (aadd a32 1)) fun v45 => asInt .i64 v45 fun i46 => .ret .ret [(.tuple #[(.int .i64 i44), (.int .i64 i46), (.int .i64 0)])]))))))
theorem T27_eq (p0 : (Option Addr)) : progOf PROG false 27 [(.pointer p0)] = T27 p0 := by kernel_rfl


noncomputable def T28k0 (i10 : Int) : Ex → List Value → Pg :=
  fun e29 l30 => sw e29 .normal (asNil l30 (.ret .ret [(.int .i64 i10)])) (.fail)

/-- (*hindsight/hindsightref11.Stack).Set -/
noncomputable def T28 (p0 : (Option Addr)) (i1 : Int) (i2 : Int) : Pg :=
  .call 33 [(.pointer p0), (.int .i64 i1)] fun v3 => asTuple v3 fun l4 => asCons l4 fun v5 l6 => asInt .u64 v5 fun i7 => asCons l6 fun v8 l9 => asInt .i64 v8 fun i10 => asNil l9 (.join (bif (i10 == 0) then (asSome p0 fun a11 => .act (ld1 (aadd a11 1)) fun v12 => asSlice v12 fun p13 n14 n15 => asSome p0 fun a16 => .act (ld1 (aadd a16 1)) fun v17 => asSlice v17 fun p18 n19 n20 => asSome p13 fun a21 => grd ((decide (0 ≤ (wi64 (((n19 : Nat) : Int) - 1)))) && (decide ((wi64 (((n19 : Nat) : Int) - 1)) < ((n14 : Nat) : Int)))) (.act (ld1 (aadd (aadd a21 ((Int.toNat (wi64 (((n19 : Nat) : Int) - 1))) * 4)) 2)) fun v22 => asSlice v22 fun p23 n24 n25 => asSome p23 fun a26 => grd ((decide (0 ≤ i1)) && (decide (i1 < ((n24 : Nat) : Int)))) (.act (stC (aadd a26 ((Int.toNat i1) * 1)) [(.int .u64 i2)]) fun v27 => asTuple v27 fun l28 => asNil l28 (.ret .normal [])))) else (.ret .normal [])) (T28k0 i10))
theorem T28_eq (p0 : (Option Addr)) (i1 : Int) (i2 : Int) : progOf PROG false 28 [(.pointer p0), (.int .i64 i1), (.int .u64 i2)] = T28 p0 i1 i2 := by kernel_rfl


/-- (*hindsight/hindsightref11.Stack).Add -/
noncomputable def T29 (p0 : (Option Addr)) (i1 : Int) : Pg :=
  asSome p0 fun a2 => .act (ld1 (aadd a2 1)) fun v3 => asSlice v3 fun p4 n5 n6 => bif (((n5 : Nat) : Int) == 0) then (.ret .ret [(.int .i64 4)]) else (.get fun h8 => .call 43 [(.pointer p0)] fun v7 => asInt .i64 v7 fun i9 => asSome p0 fun a10 => .act (ld1 (aadd a10 0)) fun v11 => grd (past (ld1 (aadd a10 0)) v11 [h8]) (asInt .i64 v11 fun i12 => bif (decide (i9 ≥ i12)) then (.ret .ret [(.int .i64 9)]) else (.get fun h13 => asSome p0 fun a14 => .act (ld1 (aadd a14 1)) fun v15 => asSlice v15 fun p16 n17 n18 => .get fun h20 => grd (newN h13.n h20 []) (.act (bdSl 1 0 []) fun v19 => asSlice v19 fun p22 n23 n24 => .get fun h21 => asSome p0 fun a25 => .act (ld1 (aadd a25 1)) fun v26 => asSlice v26 fun p27 n28 n29 => asSome p27 fun a30 => grd ((decide (0 ≤ (wi64 (((n5 : Nat) : Int) - 1)))) && (decide ((wi64 (((n5 : Nat) : Int) - 1)) < ((n28 : Nat) : Int)))) (.act (ld1 (aadd (aadd a30 ((Int.toNat (wi64 (((n5 : Nat) : Int) - 1))) * 4)) 3)) fun v31 => asSlice v31 fun p32 n33 n34 => .get fun h36 => grd (newN h13.n h36 [h20.n]) (.act (bdSl 1 1 [(.int .u64 i1)]) fun v35 => asSlice v35 fun p38 n39 n40 => .get fun h37 => .act (apS 1 8 p22 n23 n24 p32 n33 n34) fun v41 => asSlice v41 fun p42 n43 n44 => .get fun h54 => grd (chks [((ld1 (aadd a14 1)), v15)] h54) (.get fun h53 => grd (chkO [(h36.n, (h37.get h36.n))] h53) (.act (apS 1 8 p42 n43 n44 p38 n39 n40) fun v45 => asSlice v45 fun p46 n47 n48 => .get fun h52 => grd (chks [((ld1 (aadd a14 1)), v15)] h52) (asSome p16 fun a49 => grd ((decide (0 ≤ (wi64 (((n5 : Nat) : Int) - 1)))) && (decide ((wi64 (((n5 : Nat) : Int) - 1)) < ((n17 : Nat) : Int)))) (.act (stC (aadd (aadd a49 ((Int.toNat (wi64 (((n5 : Nat) : Int) - 1))) * 4)) 3) [(.slice p46 n47 n48)]) fun v50 => asTuple v50 fun l51 => asNil l51 (.ret .ret [(.int .i64 0)])))))))))))
theorem T29_eq (p0 : (Option Addr)) (i1 : Int) : progOf PROG false 29 [(.pointer p0), (.int .u64 i1)] = T29 p0 i1 := by kernel_rfl


noncomputable def T30k0 (p0 : (Option Addr)) (n4 : Nat) : Ex → List Value → Pg :=
  fun e16 l17 => sw e16 .normal (asCons l17 fun v18 l19 => asBool v18 fun b20 => asNil l19 (bif b20 then (.ret .ret [(.tuple #[(.int .u64 0), (.int .i64 4)])]) else (asSome p0 fun a21 => .act (ld1 (aadd a21 1)) fun v22 => asSlice v22 fun p23 n24 n25 => asSome p23 fun a26 => grd ((decide (0 ≤ (wi64 (((n4 : Nat) : Int) - 1)))) && (decide ((wi64 (((n4 : Nat) : Int) - 1)) < ((n24 : Nat) : Int)))) (.act (ld1 (aadd (aadd a26 ((Int.toNat (wi64 (((n4 : Nat) : Int) - 1))) * 4)) 3)) fun v27 => asSlice v27 fun p28 n29 n30 => asSome p0 fun a31 => .act (ld1 (aadd a31 1)) fun v32 => asSlice v32 fun p33 n34 n35 => grd ((((decide (0 ≤ (wi64 (((n29 : Nat) : Int) - 1)))) && (decide ((wi64 (((n29 : Nat) : Int) - 1)) ≤ (wi64 (((n29 : Nat) : Int) - 1))))) && (decide ((wi64 (((n29 : Nat) : Int) - 1)) ≤ ((n30 : Nat) : Int)))) && ((mayCut p28 1) || true)) (asSome p33 fun a36 => grd ((decide (0 ≤ (wi64 (((n4 : Nat) : Int) - 1)))) && (decide ((wi64 (((n4 : Nat) : Int) - 1)) < ((n34 : Nat) : Int)))) (.act (stC (aadd (aadd a36 ((Int.toNat (wi64 (((n4 : Nat) : Int) - 1))) * 4)) 3) [(.slice p28 (Int.toNat (wi64 (((n29 : Nat) : Int) - 1))) (Int.toNat (wi64 (((n29 : Nat) : Int) - 1))))]) fun v37 => asTuple v37 fun l38 => asNil l38 (asSome p28 fun a39 => grd ((decide (0 ≤ (wi64 (((n29 : Nat) : Int) - 1)))) && (decide ((wi64 (((n29 : Nat) : Int) - 1)) < ((n29 : Nat) : Int)))) (.act (ld1 (aadd a39 ((Int.toNat (wi64 (((n29 : Nat) : Int) - 1))) * 1))) fun v40 => asInt .u64 v40 fun i41 => .ret .ret [(.tuple #[(.int .u64 i41), (.int .i64 0)])])))))))) (.fail)

/-- (*hindsight/hindsightref11.Stack).Take -/
noncomputable def T30 (p0 : (Option Addr)) : Pg :=
  asSome p0 fun a1 => .act (ld1 (aadd a1 1)) fun v2 => asSlice v2 fun p3 n4 n5 => .join (bif (((n4 : Nat) : Int) == 0) == false then (asSome p0 fun a6 => .act (ld1 (aadd a6 1)) fun v7 => asSlice v7 fun p8 n9 n10 => asSome p8 fun a11 => grd ((decide (0 ≤ (wi64 (((n4 : Nat) : Int) - 1)))) && (decide ((wi64 (((n4 : Nat) : Int) - 1)) < ((n9 : Nat) : Int)))) (.act (ld1 (aadd (aadd a11 ((Int.toNat (wi64 (((n4 : Nat) : Int) - 1))) * 4)) 3)) fun v12 => asSlice v12 fun p13 n14 n15 => .ret .normal [(.bool (((n14 : Nat) : Int) == 0))])) else (.ret .normal [(.bool true)])) (T30k0 p0 n4)
theorem T30_eq (p0 : (Option Addr)) : progOf PROG false 30 [(.pointer p0)] = T30 p0 := by kernel_rfl


noncomputable def T31k0 : Ex → List Value → Pg :=
  fun e49 l50 => sw e49 .normal (asNil l50 (.ret .ret [(.int .i64 0)])) (.fail)

noncomputable def T31k1 (p0 : (Option Addr)) (i1 : Int) (i2 : Int) : Ex → List Value → Pg :=
  fun e18 l19 => sw e18 .normal (asCons l19 fun v20 l21 => asBool v20 fun b22 => asNil l21 (bif b22 then (.ret .ret [(.int .i64 1)]) else (asSome p0 fun a23 => .act (ld1 (aadd a23 1)) fun v24 => asSlice v24 fun p25 n26 n27 => grd ((((decide (0 ≤ i1)) && (decide (i1 ≤ i1))) && (decide (i1 ≤ ((n27 : Nat) : Int)))) && ((mayCut p25 4) || true)) (asSome p0 fun a28 => .act (stC (aadd a28 1) [(.slice p25 (Int.toNat i1) (Int.toNat i1))]) fun v29 => asTuple v29 fun l30 => asNil l30 (.join (bif (decide (i1 > 0)) then (asSome p0 fun a31 => .act (ld1 (aadd a31 1)) fun v32 => asSlice v32 fun p33 n34 n35 => asSome p0 fun a36 => .act (ld1 (aadd a36 1)) fun v37 => asSlice v37 fun p38 n39 n40 => asSome p38 fun a41 => grd ((decide (0 ≤ (wi64 (i1 - 1)))) && (decide ((wi64 (i1 - 1)) < ((n39 : Nat) : Int)))) (.act (ld1 (aadd (aadd a41 ((Int.toNat (wi64 (i1 - 1))) * 4)) 3)) fun v42 => asSlice v42 fun p43 n44 n45 => grd ((((decide (0 ≤ i2)) && (decide (i2 ≤ i2))) && (decide (i2 ≤ ((n45 : Nat) : Int)))) && ((mayCut p43 1) || true)) (asSome p33 fun a46 => grd ((decide (0 ≤ (wi64 (i1 - 1)))) && (decide ((wi64 (i1 - 1)) < ((n34 : Nat) : Int)))) (.act (stC (aadd (aadd a46 ((Int.toNat (wi64 (i1 - 1))) * 4)) 3) [(.slice p43 (Int.toNat i2) (Int.toNat i2))]) fun v47 => asTuple v47 fun l48 => asNil l48 (.ret .normal []))))) else (.ret .normal [])) (T31k0)))))) (.fail)

/-- (*hindsight/hindsightref11.Stack).Cut -/
noncomputable def T31 (p0 : (Option Addr)) (i1 : Int) (i2 : Int) : Pg :=
  .join (bif (decide (i1 < 0)) == false then (asSome p0 fun a3 => .act (ld1 (aadd a3 1)) fun v4 => asSlice v4 fun p5 n6 n7 => bif (((decide (i1 > ((n6 : Nat) : Int))) || (decide (i2 < 0))) || ((i1 == 0) && (decide (i2 > 0)))) == false then (bif (decide (i1 > 0)) == true then (asSome p0 fun a8 => .act (ld1 (aadd a8 1)) fun v9 => asSlice v9 fun p10 n11 n12 => asSome p10 fun a13 => grd ((decide (0 ≤ (wi64 (i1 - 1)))) && (decide ((wi64 (i1 - 1)) < ((n11 : Nat) : Int)))) (.act (ld1 (aadd (aadd a13 ((Int.toNat (wi64 (i1 - 1))) * 4)) 3)) fun v14 => asSlice v14 fun p15 n16 n17 => .ret .normal [(.bool (decide (i2 > ((n16 : Nat) : Int))))])) else (.ret .normal [(.bool false)])) else (.ret .normal [(.bool true)])) else (.ret .normal [(.bool true)])) (T31k1 p0 i1 i2)
theorem T31_eq (p0 : (Option Addr)) (i1 : Int) (i2 : Int) : progOf PROG false 31 [(.pointer p0), (.int .i64 i1), (.int .i64 i2)] = T31 p0 i1 i2 := by kernel_rfl


noncomputable def T32k0 (i11 : Int) : Ex → List Value → Pg :=
  fun e76 l77 => sw e76 .normal (asCons l77 fun v78 l79 => asInt .i64 v78 fun i80 => asNil l79 (.ret .normal [(.int .i64 (wi64 (i11 + 1))), (.int .i64 i80)])) (.fail)

noncomputable def T32b0 (p0 : (Option Addr)) (n3 : Nat) (p1 : (Option Addr)) : List Value → Pg :=
  fun l8 => asCons l8 fun v9 l10 => asInt .i64 v9 fun i11 => asCons l10 fun v12 l13 => asInt .i64 v12 fun i14 => asNil l13 (asSome p0 fun a15 => .act (ld1 (aadd a15 1)) fun v16 => asSlice v16 fun p17 n18 n19 => bif (decide (i11 < ((n18 : Nat) : Int))) then (.join (asSome p0 fun a20 => .act (ld1 (aadd a20 1)) fun v21 => asSlice v21 fun p22 n23 n24 => asSome p22 fun a25 => grd ((decide (0 ≤ i11)) && (decide (i11 < ((n23 : Nat) : Int)))) (.act (ld1 (aadd (aadd a25 ((Int.toNat i11) * 4)) 2)) fun v26 => asSlice v26 fun p27 n28 n29 => asSome p0 fun a30 => .act (ld1 (aadd a30 1)) fun v31 => asSlice v31 fun p32 n33 n34 => asSome p32 fun a35 => grd ((decide (0 ≤ i11)) && (decide (i11 < ((n33 : Nat) : Int)))) (.act (ld1 (aadd (aadd a35 ((Int.toNat i11) * 4)) 3)) fun v36 => asSlice v36 fun p37 n38 n39 => asSome p0 fun a40 => .act (ld1 (aadd a40 1)) fun v41 => asSlice v41 fun p42 n43 n44 => .act (bdSl 1 0 []) fun v45 => asSlice v45 fun p46 n47 n48 => .get fun h75 => grd (chks [((ld1 (aadd a40 1)), v41)] h75) (grd (((((decide (0 ≤ i14)) && (decide (i14 ≤ (wi64 (i14 + ((n28 : Nat) : Int)))))) && (decide ((wi64 (i14 + ((n28 : Nat) : Int))) ≤ ((n3 : Nat) : Int)))) && (decide (((n3 : Nat) : Int) ≤ ((n3 : Nat) : Int)))) && ((mayCut p1 1) || (decide (i14 = 0)))) (.act (apS 1 8 p46 n47 n48 (cutS p1 ((Int.toNat i14) * 1)) ((Int.toNat (wi64 (i14 + ((n28 : Nat) : Int)))) - (Int.toNat i14)) (n3 - (Int.toNat i14))) fun v49 => asSlice v49 fun p50 n51 n52 => .get fun h74 => grd (chks [((ld1 (aadd a40 1)), v41)] h74) (asSome p42 fun a53 => grd ((decide (0 ≤ i11)) && (decide (i11 < ((n43 : Nat) : Int)))) (.act (stC (aadd (aadd a53 ((Int.toNat i11) * 4)) 2) [(.slice p50 n51 n52)]) fun v54 => asTuple v54 fun l55 => asNil l55 (asSome p0 fun a56 => .act (ld1 (aadd a56 1)) fun v57 => asSlice v57 fun p58 n59 n60 => .act (bdSl 1 0 []) fun v61 => asSlice v61 fun p62 n63 n64 => .get fun h73 => grd (chks [((ld1 (aadd a56 1)), v57)] h73) (grd (((((decide (0 ≤ (wi64 (i14 + ((n28 : Nat) : Int))))) && (decide ((wi64 (i14 + ((n28 : Nat) : Int))) ≤ (wi64 ((wi64 (i14 + ((n28 : Nat) : Int))) + ((n38 : Nat) : Int)))))) && (decide ((wi64 ((wi64 (i14 + ((n28 : Nat) : Int))) + ((n38 : Nat) : Int))) ≤ ((n3 : Nat) : Int)))) && (decide (((n3 : Nat) : Int) ≤ ((n3 : Nat) : Int)))) && ((mayCut p1 1) || (decide ((wi64 (i14 + ((n28 : Nat) : Int))) = 0)))) (.act (apS 1 8 p62 n63 n64 (cutS p1 ((Int.toNat (wi64 (i14 + ((n28 : Nat) : Int)))) * 1)) ((Int.toNat (wi64 ((wi64 (i14 + ((n28 : Nat) : Int))) + ((n38 : Nat) : Int)))) - (Int.toNat (wi64 (i14 + ((n28 : Nat) : Int))))) (n3 - (Int.toNat (wi64 (i14 + ((n28 : Nat) : Int)))))) fun v65 => asSlice v65 fun p66 n67 n68 => .get fun h72 => grd (chks [((ld1 (aadd a56 1)), v57)] h72) (asSome p58 fun a69 => grd ((decide (0 ≤ i11)) && (decide (i11 < ((n59 : Nat) : Int)))) (.act (stC (aadd (aadd a69 ((Int.toNat i11) * 4)) 3) [(.slice p66 n67 n68)]) fun v70 => asTuple v70 fun l71 => asNil l71 (.ret .normal [(.int .i64 (wi64 ((wi64 (i14 + ((n28 : Nat) : Int))) + ((n38 : Nat) : Int))))]))))))))))))) (T32k0 i11)) else (.ret (.exit 0) [(.int .i64 i11), (.int .i64 i14)]))

noncomputable def T32k1 : Ex → List Value → Pg :=
  fun e81 l82 => sw e81 (.exit 0) (asCons l82 fun v83 l84 => asInt .i64 v83 fun i85 => asCons l84 fun v86 l87 => asInt .i64 v86 fun i88 => asNil l87 (.ret .ret [(.int .i64 0)])) (.fail)

/-- (*hindsight/hindsightref11.Stack).Renew -/
noncomputable def T32 (p0 : (Option Addr)) (p1 : (Option Addr)) (n2 : Nat) (n3 : Nat) : Pg :=
  .call 37 [(.pointer p0)] fun v4 => asSlice v4 fun p5 n6 n7 => bif (((n2 : Nat) : Int) != ((n6 : Nat) : Int)) then (.ret .ret [(.int .i64 1)]) else (.loop [(.int .i64 0), (.int .i64 0)] (T32b0 p0 n3 p1) (T32k1))
theorem T32_eq (p0 : (Option Addr)) (p1 : (Option Addr)) (n2 : Nat) (n3 : Nat) : progOf PROG false 32 [(.pointer p0), (.slice p1 n2 n3)] = T32 p0 p1 n2 n3 := by kernel_rfl


noncomputable def T33k0 (p0 : (Option Addr)) (n5 : Nat) (i1 : Int) : Ex → List Value → Pg :=
  fun e17 l18 => sw e17 .normal (asCons l18 fun v19 l20 => asBool v19 fun b21 => asNil l20 (bif b21 then (.ret .ret [(.tuple #[(.int .u64 0), (.int .i64 1)])]) else (asSome p0 fun a22 => .act (ld1 (aadd a22 1)) fun v23 => asSlice v23 fun p24 n25 n26 => asSome p24 fun a27 => grd ((decide (0 ≤ (wi64 (((n5 : Nat) : Int) - 1)))) && (decide ((wi64 (((n5 : Nat) : Int) - 1)) < ((n25 : Nat) : Int)))) (.act (ld1 (aadd (aadd a27 ((Int.toNat (wi64 (((n5 : Nat) : Int) - 1))) * 4)) 2)) fun v28 => asSlice v28 fun p29 n30 n31 => asSome p29 fun a32 => grd ((decide (0 ≤ i1)) && (decide (i1 < ((n30 : Nat) : Int)))) (.act (ld1 (aadd a32 ((Int.toNat i1) * 1))) fun v33 => asInt .u64 v33 fun i34 => .ret .ret [(.tuple #[(.int .u64 i34), (.int .i64 0)])]))))) (.fail)

/-- (*hindsight/hindsightref11.Stack).Get -/
noncomputable def T33 (p0 : (Option Addr)) (i1 : Int) : Pg :=
  asSome p0 fun a2 => .act (ld1 (aadd a2 1)) fun v3 => asSlice v3 fun p4 n5 n6 => bif (((n5 : Nat) : Int) == 0) then (.ret .ret [(.tuple #[(.int .u64 0), (.int .i64 4)])]) else (.join (bif (decide (i1 < 0)) == false then (asSome p0 fun a7 => .act (ld1 (aadd a7 1)) fun v8 => asSlice v8 fun p9 n10 n11 => asSome p9 fun a12 => grd ((decide (0 ≤ (wi64 (((n5 : Nat) : Int) - 1)))) && (decide ((wi64 (((n5 : Nat) : Int) - 1)) < ((n10 : Nat) : Int)))) (.act (ld1 (aadd (aadd a12 ((Int.toNat (wi64 (((n5 : Nat) : Int) - 1))) * 4)) 2)) fun v13 => asSlice v13 fun p14 n15 n16 => .ret .normal [(.bool (decide (i1 ≥ ((n15 : Nat) : Int))))])) else (.ret .normal [(.bool true)])) (T33k0 p0 n5 i1))
theorem T33_eq (p0 : (Option Addr)) (i1 : Int) : progOf PROG false 33 [(.pointer p0), (.int .i64 i1)] = T33 p0 i1 := by kernel_rfl


/-- (*hindsight/hindsightref11.Stack).Depth -/
noncomputable def T34 (p0 : (Option Addr)) : Pg :=
  asSome p0 fun a1 => .act (ld1 (aadd a1 1)) fun v2 => asSlice v2 fun p3 n4 n5 => .ret .ret [(.int .i64 ((n4 : Nat) : Int))]
theorem T34_eq (p0 : (Option Addr)) : progOf PROG false 34 [(.pointer p0)] = T34 p0 := by kernel_rfl


/-- (*hindsight/hindsightref11.Stack).Added -/
noncomputable def T35 (p0 : (Option Addr)) : Pg :=
  asSome p0 fun a1 => .act (ld1 (aadd a1 1)) fun v2 => asSlice v2 fun p3 n4 n5 => bif (((n4 : Nat) : Int) == 0) then (.ret .ret [(.int .i64 0)]) else (asSome p0 fun a6 => .act (ld1 (aadd a6 1)) fun v7 => asSlice v7 fun p8 n9 n10 => asSome p0 fun a11 => .act (ld1 (aadd a11 1)) fun v12 => asSlice v12 fun p13 n14 n15 => asSome p8 fun a16 => grd ((decide (0 ≤ (wi64 (((n14 : Nat) : Int) - 1)))) && (decide ((wi64 (((n14 : Nat) : Int) - 1)) < ((n9 : Nat) : Int)))) (.act (ld1 (aadd (aadd a16 ((Int.toNat (wi64 (((n14 : Nat) : Int) - 1))) * 4)) 3)) fun v17 => asSlice v17 fun p18 n19 n20 => .ret .ret [(.int .i64 ((n19 : Nat) : Int))]))
theorem T35_eq (p0 : (Option Addr)) : progOf PROG false 35 [(.pointer p0)] = T35 p0 := by kernel_rfl


noncomputable def T36k0 (i9 : Int) : Ex → List Value → Pg :=
  fun e31 l32 => sw e31 .normal (asCons l32 fun v33 l34 => asSlice v33 fun p35 n36 n37 => asNil l34 (.ret .normal [(.int .i64 (wi64 (i9 - 1))), (.slice p35 n36 n37)])) (.fail)

noncomputable def T36b0 (p0 : (Option Addr)) : List Value → Pg :=
  fun l6 => asCons l6 fun v7 l8 => asInt .i64 v7 fun i9 => asCons l8 fun v10 l11 => asSlice v10 fun p12 n13 n14 => asNil l11 (bif (decide (i9 ≥ 0)) then (.join (asSome p0 fun a15 => .act (ld1 (aadd a15 1)) fun v16 => asSlice v16 fun p17 n18 n19 => asSome p17 fun a20 => grd ((decide (0 ≤ i9)) && (decide (i9 < ((n18 : Nat) : Int)))) (.act (ld1 (aadd (aadd a20 ((Int.toNat i9) * 4)) 1)) fun v21 => asInt .i64 v21 fun i22 => .act (bdSl 1 1 [(.int .i64 i22)]) fun v23 => asSlice v23 fun p24 n25 n26 => .act (apS 1 8 p12 n13 n14 p24 n25 n26) fun v27 => asSlice v27 fun p28 n29 n30 => .ret .normal [(.slice p28 n29 n30)])) (T36k0 i9)) else (.ret (.exit 0) [(.int .i64 i9), (.slice p12 n13 n14)]))

noncomputable def T36k1 : Ex → List Value → Pg :=
  fun e38 l39 => sw e38 (.exit 0) (asCons l39 fun v40 l41 => asInt .i64 v40 fun i42 => asCons l41 fun v43 l44 => asSlice v43 fun p45 n46 n47 => asNil l44 (.ret .ret [(.slice p45 n46 n47)])) (.fail)

/-- (*hindsight/hindsightref11.Stack).Calls -/
noncomputable def T36 (p0 : (Option Addr)) : Pg :=
  asSome p0 fun a1 => .act (ld1 (aadd a1 1)) fun v2 => asSlice v2 fun p3 n4 n5 => .loop [(.int .i64 (wi64 (((n4 : Nat) : Int) - 1))), (.slice none 0 0)] (T36b0 p0) (T36k1)
theorem T36_eq (p0 : (Option Addr)) : progOf PROG false 36 [(.pointer p0)] = T36 p0 := by kernel_rfl


noncomputable def T37k0 (i4 : Int) : Ex → List Value → Pg :=
  fun e44 l45 => sw e44 .normal (asCons l45 fun v46 l47 => asSlice v46 fun p48 n49 n50 => asNil l47 (.ret .normal [(.int .i64 (wi64 (i4 + 1))), (.slice p48 n49 n50)])) (.fail)

noncomputable def T37b0 (p0 : (Option Addr)) : List Value → Pg :=
  fun l1 => asCons l1 fun v2 l3 => asInt .i64 v2 fun i4 => asCons l3 fun v5 l6 => asSlice v5 fun p7 n8 n9 => asNil l6 (asSome p0 fun a10 => .act (ld1 (aadd a10 1)) fun v11 => asSlice v11 fun p12 n13 n14 => bif (decide (i4 < ((n13 : Nat) : Int))) then (.join (asSome p0 fun a15 => .act (ld1 (aadd a15 1)) fun v16 => asSlice v16 fun p17 n18 n19 => asSome p17 fun a20 => grd ((decide (0 ≤ i4)) && (decide (i4 < ((n18 : Nat) : Int)))) (.act (ld1 (aadd (aadd a20 ((Int.toNat i4) * 4)) 2)) fun v21 => asSlice v21 fun p22 n23 n24 => .get fun h26 => .act (apS 1 8 p7 n8 n9 p22 n23 n24) fun v25 => asSlice v25 fun p27 n28 n29 => asSome p0 fun a30 => .act (ld1 (aadd a30 1)) fun v31 => grd (past (ld1 (aadd a30 1)) v31 [h26]) (asSlice v31 fun p32 n33 n34 => asSome p32 fun a35 => grd ((decide (0 ≤ i4)) && (decide (i4 < ((n33 : Nat) : Int)))) (.act (ld1 (aadd (aadd a35 ((Int.toNat i4) * 4)) 3)) fun v36 => grd (past (ld1 (aadd (aadd a35 ((Int.toNat i4) * 4)) 3)) v36 [h26]) (asSlice v36 fun p37 n38 n39 => .act (apS 1 8 p27 n28 n29 p37 n38 n39) fun v40 => asSlice v40 fun p41 n42 n43 => .ret .normal [(.slice p41 n42 n43)]))))) (T37k0 i4)) else (.ret (.exit 0) [(.int .i64 i4), (.slice p7 n8 n9)]))

noncomputable def T37k1 : Ex → List Value → Pg :=
  fun e51 l52 => sw e51 (.exit 0) (asCons l52 fun v53 l54 => asInt .i64 v53 fun i55 => asCons l54 fun v56 l57 => asSlice v56 fun p58 n59 n60 => asNil l57 (.ret .ret [(.slice p58 n59 n60)])) (.fail)

/-- (*hindsight/hindsightref11.Stack).Roots -/
noncomputable def T37 (p0 : (Option Addr)) : Pg :=
  .loop [(.int .i64 0), (.slice none 0 0)] (T37b0 p0) (T37k1)
theorem T37_eq (p0 : (Option Addr)) : progOf PROG false 37 [(.pointer p0)] = T37 p0 := by kernel_rfl


/-- (*hindsight/frame.frame).size -/
noncomputable def T38 (p0 : (Option Addr)) : Pg :=
  asSome p0 fun a1 => .act (ld1 (aadd a1 2)) fun v2 => asSlice v2 fun p3 n4 n5 => asSome p0 fun a6 => .act (ld1 (aadd a6 3)) fun v7 => asSlice v7 fun p8 n9 n10 => .ret .ret [(.int .i64 (wi64 ((wi64 (2 + ((n4 : Nat) : Int))) + ((n9 : Nat) : Int))))]
theorem T38_eq (p0 : (Option Addr)) : progOf PROG false 38 [(.pointer p0)] = T38 p0 := by kernel_rfl


/-- (*hindsight/frame.Stack).top -/
noncomputable def T39 (p0 : (Option Addr)) : Pg :=
  asSome p0 fun a1 => .act (ld1 (aadd a1 2)) fun v2 => asSlice v2 fun p3 n4 n5 => bif (((n4 : Nat) : Int) == 0) then (.ret .ret [(.pointer none)]) else (asSome p0 fun a6 => .act (ld1 (aadd a6 2)) fun v7 => asSlice v7 fun p8 n9 n10 => asSome p0 fun a11 => .act (ld1 (aadd a11 2)) fun v12 => asSlice v12 fun p13 n14 n15 => asSome p8 fun a16 => grd ((decide (0 ≤ (wi64 (((n14 : Nat) : Int) - 1)))) && (decide ((wi64 (((n14 : Nat) : Int) - 1)) < ((n9 : Nat) : Int)))) (.act (ld1 (aadd a16 ((Int.toNat (wi64 (((n14 : Nat) : Int) - 1))) * 1))) fun v17 => asPtr v17 fun p18 => .ret .ret [(.pointer p18)]))
theorem T39_eq (p0 : (Option Addr)) : progOf PROG false 39 [(.pointer p0)] = T39 p0 := by kernel_rfl


noncomputable def T40k0 : Ex → List Value → Pg :=
  fun e9 l10 => sw e9 .normal (asCons l10 fun v11 l12 => asBool v11 fun b13 => asNil l12 (bif b13 then (.ret .ret [(.int .i64 1), (.pointer none)]) else (.ret .normal [(.int .i64 0), (.pointer none)]))) (.fail)

noncomputable def T40k1 (p3 : (Option Addr)) (i1 : Int) : Ex → List Value → Pg :=
  fun e14 l15 => sw e14 .ret (asCons l15 fun v16 l17 => asInt .i64 v16 fun i18 => asCons l17 fun v19 l20 => asPtr v19 fun p21 => asNil l20 (.ret .ret [(.tuple #[(.pointer p21), (.int .i64 i18)])])) (sw e14 .normal (asCons l15 fun v22 l23 => asInt .i64 v22 fun i24 => asCons l23 fun v25 l26 => asPtr v25 fun p27 => asNil l26 (asSome p3 fun a28 => .act (ld1 (aadd a28 2)) fun v29 => asSlice v29 fun p30 n31 n32 => asSome p30 fun a33 => grd ((decide (0 ≤ i1)) && (decide (i1 < ((n31 : Nat) : Int)))) (.ret .ret [(.tuple #[(.pointer (some (aadd a33 ((Int.toNat i1) * 1)))), (.int .i64 0)])]))) (.fail))

/-- (*hindsight/frame.Stack).slot -/
noncomputable def T40 (p0 : (Option Addr)) (i1 : Int) : Pg :=
  .call 39 [(.pointer p0)] fun v2 => asPtr v2 fun p3 => .join (bif (Option.isNone p3) then (.ret .ret [(.int .i64 4), (.pointer none)]) else (.join (bif (decide (i1 < 0)) == false then (asSome p3 fun a4 => .act (ld1 (aadd a4 2)) fun v5 => asSlice v5 fun p6 n7 n8 => .ret .normal [(.bool (decide (i1 ≥ ((n7 : Nat) : Int))))]) else (.ret .normal [(.bool true)])) (T40k0))) (T40k1 p3 i1)
theorem T40_eq (p0 : (Option Addr)) (i1 : Int) : progOf PROG false 40 [(.pointer p0), (.int .i64 i1)] = T40 p0 i1 := by kernel_rfl


/-- (*hindsight/frame.Stack).drop -/
noncomputable def T41 (p0 : (Option Addr)) : Pg :=
  asSome p0 fun a1 => .act (ld1 (aadd a1 1)) fun v2 => asInt .i64 v2 fun i3 => .call 39 [(.pointer p0)] fun v4 => asPtr v4 fun p5 => .get fun h25 => grd (chks [((ld1 (aadd a1 1)), v2)] h25) (.call 38 [(.pointer p5)] fun v6 => asInt .i64 v6 fun i7 => .get fun h24 => grd (chks [((ld1 (aadd a1 1)), v2)] h24) (asSome p0 fun a8 => .act (stC (aadd a8 1) [(.int .i64 (wi64 (i3 - i7)))]) fun v9 => asTuple v9 fun l10 => asNil l10 (asSome p0 fun a11 => .act (ld1 (aadd a11 2)) fun v12 => asSlice v12 fun p13 n14 n15 => asSome p0 fun a16 => .act (ld1 (aadd a16 2)) fun v17 => asSlice v17 fun p18 n19 n20 => grd ((((decide (0 ≤ (wi64 (((n19 : Nat) : Int) - 1)))) && (decide ((wi64 (((n19 : Nat) : Int) - 1)) ≤ ((n15 : Nat) : Int)))) && (decide (((n15 : Nat) : Int) ≤ ((n15 : Nat) : Int)))) && ((mayCut p13 1) || true)) (asSome p0 fun a21 => .act (stC (aadd a21 2) [(.slice p13 (Int.toNat (wi64 (((n19 : Nat) : Int) - 1))) n15)]) fun v22 => asTuple v22 fun l23 => asNil l23 (.ret .ret [(.tuple #[])])))))
theorem T41_eq (p0 : (Option Addr)) : progOf PROG false 41 [(.pointer p0)] = T41 p0 := by kernel_rfl


noncomputable def T43k0 (i4 : Int) : Ex → List Value → Pg :=
  fun e33 l34 => sw e33 .normal (asCons l34 fun v35 l36 => asInt .i64 v35 fun i37 => asNil l36 (.ret .normal [(.int .i64 (wi64 (i4 + 1))), (.int .i64 i37)])) (.fail)

noncomputable def T43b0 (p0 : (Option Addr)) : List Value → Pg :=
  fun l1 => asCons l1 fun v2 l3 => asInt .i64 v2 fun i4 => asCons l3 fun v5 l6 => asInt .i64 v5 fun i7 => asNil l6 (asSome p0 fun a8 => .act (ld1 (aadd a8 1)) fun v9 => asSlice v9 fun p10 n11 n12 => bif (decide (i4 < ((n11 : Nat) : Int))) then (.join (asSome p0 fun a13 => .act (ld1 (aadd a13 1)) fun v14 => asSlice v14 fun p15 n16 n17 => asSome p15 fun a18 => grd ((decide (0 ≤ i4)) && (decide (i4 < ((n16 : Nat) : Int)))) (.act (ld1 (aadd (aadd a18 ((Int.toNat i4) * 4)) 2)) fun v19 => asSlice v19 fun p20 n21 n22 => asSome p0 fun a23 => .act (ld1 (aadd a23 1)) fun v24 => asSlice v24 fun p25 n26 n27 => asSome p25 fun a28 => grd ((decide (0 ≤ i4)) && (decide (i4 < ((n26 : Nat) : Int)))) (.act (ld1 (aadd (aadd a28 ((Int.toNat i4) * 4)) 3)) fun v29 => asSlice v29 fun p30 n31 n32 => .ret .normal [(.int .i64 (wi64 ((wi64 ((wi64 (i7 + 2)) + ((n21 : Nat) : Int))) + ((n31 : Nat) : Int))))]))) (T43k0 i4)) else (.ret (.exit 0) [(.int .i64 i4), (.int .i64 i7)]))

noncomputable def T43k1 : Ex → List Value → Pg :=
  fun e38 l39 => sw e38 (.exit 0) (asCons l39 fun v40 l41 => asInt .i64 v40 fun i42 => asCons l41 fun v43 l44 => asInt .i64 v43 fun i45 => asNil l44 (.ret .ret [(.int .i64 i45)])) (.fail)

/-- (*hindsight/hindsightref11.Stack).used -/
noncomputable def T43 (p0 : (Option Addr)) : Pg :=
  .loop [(.int .i64 0), (.int .i64 0)] (T43b0 p0) (T43k1)
theorem T43_eq (p0 : (Option Addr)) : progOf PROG false 43 [(.pointer p0)] = T43 p0 := by kernel_rfl

noncomputable def A3 : List Value → Option Pg
  | [(.slice p0 n1 n2), (.slice p3 n4 n5)] => some (T3 p0 n1 n2 p3 n4 n5)
  | _ => none
theorem A3_ok : ∀ args p, A3 args = some p → progOf PROG false 3 args = p := by
  intro args p h
  unfold A3 at h
  split at h
  · cases h; exact T3_eq _ _ _ _ _ _
  · cases h
noncomputable def A4 : List Value → Option Pg
  | [(.slice p0 n1 n2), (.int .u64 i3)] => some (T4 p0 n1 n2 i3)
  | _ => none
theorem A4_ok : ∀ args p, A4 args = some p → progOf PROG false 4 args = p := by
  intro args p h
  unfold A4 at h
  split at h
  · cases h; exact T4_eq _ _ _ _
  · cases h
noncomputable def A5 : List Value → Option Pg
  | [] => some (T5)
  | _ => none
theorem A5_ok : ∀ args p, A5 args = some p → progOf PROG false 5 args = p := by
  intro args p h
  unfold A5 at h
  split at h
  · cases h; exact T5_eq 
  · cases h
noncomputable def A6 : List Value → Option Pg
  | [(.int .i64 i0), (.slice p1 n2 n3), (.int .i64 i4)] => some (T6 i0 p1 n2 n3 i4)
  | _ => none
theorem A6_ok : ∀ args p, A6 args = some p → progOf PROG false 6 args = p := by
  intro args p h
  unfold A6 at h
  split at h
  · cases h; exact T6_eq _ _ _ _ _
  · cases h
noncomputable def A7 : List Value → Option Pg
  | [] => some (T7)
  | _ => none
theorem A7_ok : ∀ args p, A7 args = some p → progOf PROG false 7 args = p := by
  intro args p h
  unfold A7 at h
  split at h
  · cases h; exact T7_eq 
  · cases h
noncomputable def A8 : List Value → Option Pg
  | [(.int .i64 i0)] => some (T8 i0)
  | _ => none
theorem A8_ok : ∀ args p, A8 args = some p → progOf PROG false 8 args = p := by
  intro args p h
  unfold A8 at h
  split at h
  · cases h; exact T8_eq _
  · cases h
noncomputable def A9 : List Value → Option Pg
  | [(.pointer p0), (.int .i64 i1), (.int .i64 i2), (.int .i64 i3)] => some (T9 p0 i1 i2 i3)
  | _ => none
theorem A9_ok : ∀ args p, A9 args = some p → progOf PROG false 9 args = p := by
  intro args p h
  unfold A9 at h
  split at h
  · cases h; exact T9_eq _ _ _ _
  · cases h
noncomputable def A10 : List Value → Option Pg
  | [(.pointer p0), (.int .u64 i1)] => some (T10 p0 i1)
  | _ => none
theorem A10_ok : ∀ args p, A10 args = some p → progOf PROG false 10 args = p := by
  intro args p h
  unfold A10 at h
  split at h
  · cases h; exact T10_eq _ _
  · cases h
noncomputable def A11 : List Value → Option Pg
  | [(.pointer p0), (.int .i64 i1), (.int .u64 i2)] => some (T11 p0 i1 i2)
  | _ => none
theorem A11_ok : ∀ args p, A11 args = some p → progOf PROG false 11 args = p := by
  intro args p h
  unfold A11 at h
  split at h
  · cases h; exact T11_eq _ _ _
  · cases h
noncomputable def A12 : List Value → Option Pg
  | [(.pointer p0), (.int .i64 i1)] => some (T12 p0 i1)
  | _ => none
theorem A12_ok : ∀ args p, A12 args = some p → progOf PROG false 12 args = p := by
  intro args p h
  unfold A12 at h
  split at h
  · cases h; exact T12_eq _ _
  · cases h
noncomputable def A13 : List Value → Option Pg
  | [(.pointer p0)] => some (T13 p0)
  | _ => none
theorem A13_ok : ∀ args p, A13 args = some p → progOf PROG false 13 args = p := by
  intro args p h
  unfold A13 at h
  split at h
  · cases h; exact T13_eq _
  · cases h
noncomputable def A14 : List Value → Option Pg
  | [(.pointer p0)] => some (T14 p0)
  | _ => none
theorem A14_ok : ∀ args p, A14 args = some p → progOf PROG false 14 args = p := by
  intro args p h
  unfold A14 at h
  split at h
  · cases h; exact T14_eq _
  · cases h
noncomputable def A15 : List Value → Option Pg
  | [(.pointer p0)] => some (T15 p0)
  | _ => none
theorem A15_ok : ∀ args p, A15 args = some p → progOf PROG false 15 args = p := by
  intro args p h
  unfold A15 at h
  split at h
  · cases h; exact T15_eq _
  · cases h
noncomputable def A16 : List Value → Option Pg
  | [(.pointer p0)] => some (T16 p0)
  | _ => none
theorem A16_ok : ∀ args p, A16 args = some p → progOf PROG false 16 args = p := by
  intro args p h
  unfold A16 at h
  split at h
  · cases h; exact T16_eq _
  · cases h
noncomputable def A17 : List Value → Option Pg
  | [(.slice p0 n1 n2)] => some (T17 p0 n1 n2)
  | _ => none
theorem A17_ok : ∀ args p, A17 args = some p → progOf PROG false 17 args = p := by
  intro args p h
  unfold A17 at h
  split at h
  · cases h; exact T17_eq _ _ _
  · cases h
noncomputable def A18 : List Value → Option Pg
  | [(.pointer p0), (.slice p1 n2 n3)] => some (T18 p0 p1 n2 n3)
  | _ => none
theorem A18_ok : ∀ args p, A18 args = some p → progOf PROG false 18 args = p := by
  intro args p h
  unfold A18 at h
  split at h
  · cases h; exact T18_eq _ _ _ _
  · cases h
noncomputable def A19 : List Value → Option Pg
  | [(.slice p0 n1 n2)] => some (T19 p0 n1 n2)
  | _ => none
theorem A19_ok : ∀ args p, A19 args = some p → progOf PROG false 19 args = p := by
  intro args p h
  unfold A19 at h
  split at h
  · cases h; exact T19_eq _ _ _
  · cases h
noncomputable def A20 : List Value → Option Pg
  | [(.slice p0 n1 n2), (.slice p3 n4 n5)] => some (T20 p0 n1 n2 p3 n4 n5)
  | _ => none
theorem A20_ok : ∀ args p, A20 args = some p → progOf PROG false 20 args = p := by
  intro args p h
  unfold A20 at h
  split at h
  · cases h; exact T20_eq _ _ _ _ _ _
  · cases h
noncomputable def A21 : List Value → Option Pg
  | [(.pointer p0)] => some (T21 p0)
  | _ => none
theorem A21_ok : ∀ args p, A21 args = some p → progOf PROG false 21 args = p := by
  intro args p h
  unfold A21 at h
  split at h
  · cases h; exact T21_eq _
  · cases h
noncomputable def A22 : List Value → Option Pg
  | [(.int .i64 i0)] => some (T22 i0)
  | _ => none
theorem A22_ok : ∀ args p, A22 args = some p → progOf PROG false 22 args = p := by
  intro args p h
  unfold A22 at h
  split at h
  · cases h; exact T22_eq _
  · cases h
noncomputable def A23 : List Value → Option Pg
  | [(.pointer p0), (.int .i64 i1), (.int .i64 i2)] => some (T23 p0 i1 i2)
  | _ => none
theorem A23_ok : ∀ args p, A23 args = some p → progOf PROG false 23 args = p := by
  intro args p h
  unfold A23 at h
  split at h
  · cases h; exact T23_eq _ _ _
  · cases h
noncomputable def A24 : List Value → Option Pg
  | [(.slice p0 n1 n2), (.slice p3 n4 n5)] => some (T24 p0 n1 n2 p3 n4 n5)
  | _ => none
theorem A24_ok : ∀ args p, A24 args = some p → progOf PROG false 24 args = p := by
  intro args p h
  unfold A24 at h
  split at h
  · cases h; exact T24_eq _ _ _ _ _ _
  · cases h
noncomputable def A26 : List Value → Option Pg
  | [(.pointer p0), (.int .i64 i1), (.int .i64 i2), (.int .i64 i3)] => some (T26 p0 i1 i2 i3)
  | _ => none
theorem A26_ok : ∀ args p, A26 args = some p → progOf PROG false 26 args = p := by
  intro args p h
  unfold A26 at h
  split at h
  · cases h; exact T26_eq _ _ _ _
  · cases h
noncomputable def A27 : List Value → Option Pg
  | [(.pointer p0)] => some (T27 p0)
  | _ => none
theorem A27_ok : ∀ args p, A27 args = some p → progOf PROG false 27 args = p := by
  intro args p h
  unfold A27 at h
  split at h
  · cases h; exact T27_eq _
  · cases h
noncomputable def A28 : List Value → Option Pg
  | [(.pointer p0), (.int .i64 i1), (.int .u64 i2)] => some (T28 p0 i1 i2)
  | _ => none
theorem A28_ok : ∀ args p, A28 args = some p → progOf PROG false 28 args = p := by
  intro args p h
  unfold A28 at h
  split at h
  · cases h; exact T28_eq _ _ _
  · cases h
noncomputable def A29 : List Value → Option Pg
  | [(.pointer p0), (.int .u64 i1)] => some (T29 p0 i1)
  | _ => none
theorem A29_ok : ∀ args p, A29 args = some p → progOf PROG false 29 args = p := by
  intro args p h
  unfold A29 at h
  split at h
  · cases h; exact T29_eq _ _
  · cases h
noncomputable def A30 : List Value → Option Pg
  | [(.pointer p0)] => some (T30 p0)
  | _ => none
theorem A30_ok : ∀ args p, A30 args = some p → progOf PROG false 30 args = p := by
  intro args p h
  unfold A30 at h
  split at h
  · cases h; exact T30_eq _
  · cases h
noncomputable def A31 : List Value → Option Pg
  | [(.pointer p0), (.int .i64 i1), (.int .i64 i2)] => some (T31 p0 i1 i2)
  | _ => none
theorem A31_ok : ∀ args p, A31 args = some p → progOf PROG false 31 args = p := by
  intro args p h
  unfold A31 at h
  split at h
  · cases h; exact T31_eq _ _ _
  · cases h
noncomputable def A32 : List Value → Option Pg
  | [(.pointer p0), (.slice p1 n2 n3)] => some (T32 p0 p1 n2 n3)
  | _ => none
theorem A32_ok : ∀ args p, A32 args = some p → progOf PROG false 32 args = p := by
  intro args p h
  unfold A32 at h
  split at h
  · cases h; exact T32_eq _ _ _ _
  · cases h
noncomputable def A33 : List Value → Option Pg
  | [(.pointer p0), (.int .i64 i1)] => some (T33 p0 i1)
  | _ => none
theorem A33_ok : ∀ args p, A33 args = some p → progOf PROG false 33 args = p := by
  intro args p h
  unfold A33 at h
  split at h
  · cases h; exact T33_eq _ _
  · cases h
noncomputable def A34 : List Value → Option Pg
  | [(.pointer p0)] => some (T34 p0)
  | _ => none
theorem A34_ok : ∀ args p, A34 args = some p → progOf PROG false 34 args = p := by
  intro args p h
  unfold A34 at h
  split at h
  · cases h; exact T34_eq _
  · cases h
noncomputable def A35 : List Value → Option Pg
  | [(.pointer p0)] => some (T35 p0)
  | _ => none
theorem A35_ok : ∀ args p, A35 args = some p → progOf PROG false 35 args = p := by
  intro args p h
  unfold A35 at h
  split at h
  · cases h; exact T35_eq _
  · cases h
noncomputable def A36 : List Value → Option Pg
  | [(.pointer p0)] => some (T36 p0)
  | _ => none
theorem A36_ok : ∀ args p, A36 args = some p → progOf PROG false 36 args = p := by
  intro args p h
  unfold A36 at h
  split at h
  · cases h; exact T36_eq _
  · cases h
noncomputable def A37 : List Value → Option Pg
  | [(.pointer p0)] => some (T37 p0)
  | _ => none
theorem A37_ok : ∀ args p, A37 args = some p → progOf PROG false 37 args = p := by
  intro args p h
  unfold A37 at h
  split at h
  · cases h; exact T37_eq _
  · cases h
noncomputable def A38 : List Value → Option Pg
  | [(.pointer p0)] => some (T38 p0)
  | _ => none
theorem A38_ok : ∀ args p, A38 args = some p → progOf PROG false 38 args = p := by
  intro args p h
  unfold A38 at h
  split at h
  · cases h; exact T38_eq _
  · cases h
noncomputable def A39 : List Value → Option Pg
  | [(.pointer p0)] => some (T39 p0)
  | _ => none
theorem A39_ok : ∀ args p, A39 args = some p → progOf PROG false 39 args = p := by
  intro args p h
  unfold A39 at h
  split at h
  · cases h; exact T39_eq _
  · cases h
noncomputable def A40 : List Value → Option Pg
  | [(.pointer p0), (.int .i64 i1)] => some (T40 p0 i1)
  | _ => none
theorem A40_ok : ∀ args p, A40 args = some p → progOf PROG false 40 args = p := by
  intro args p h
  unfold A40 at h
  split at h
  · cases h; exact T40_eq _ _
  · cases h
noncomputable def A41 : List Value → Option Pg
  | [(.pointer p0)] => some (T41 p0)
  | _ => none
theorem A41_ok : ∀ args p, A41 args = some p → progOf PROG false 41 args = p := by
  intro args p h
  unfold A41 at h
  split at h
  · cases h; exact T41_eq _
  · cases h
noncomputable def A43 : List Value → Option Pg
  | [(.pointer p0)] => some (T43 p0)
  | _ => none
theorem A43_ok : ∀ args p, A43 args = some p → progOf PROG false 43 args = p := by
  intro args p h
  unfold A43 at h
  split at h
  · cases h; exact T43_eq _
  · cases h
noncomputable def TAB : Tab := (.low 21 (.low 11 (.low 6 (.low 4 (.one 3 A3 (.one 4 A4 .nil)) (.one 5 A5 (.one 6 A6 .nil))) (.low 8 (.one 7 A7 (.one 8 A8 .nil)) (.one 9 A9 (.one 10 A10 (.one 11 A11 .nil))))) (.low 16 (.low 13 (.one 12 A12 (.one 13 A13 .nil)) (.one 14 A14 (.one 15 A15 (.one 16 A16 .nil)))) (.low 18 (.one 17 A17 (.one 18 A18 .nil)) (.one 19 A19 (.one 20 A20 (.one 21 A21 .nil)))))) (.low 32 (.low 27 (.low 23 (.one 22 A22 (.one 23 A23 .nil)) (.one 24 A24 (.one 26 A26 (.one 27 A27 .nil)))) (.low 29 (.one 28 A28 (.one 29 A29 .nil)) (.one 30 A30 (.one 31 A31 (.one 32 A32 .nil))))) (.low 37 (.low 34 (.one 33 A33 (.one 34 A34 .nil)) (.one 35 A35 (.one 36 A36 (.one 37 A37 .nil)))) (.low 39 (.one 38 A38 (.one 39 A39 .nil)) (.one 40 A40 (.one 41 A41 (.one 43 A43 .nil)))))))
theorem TAB_ok : TabOK PROG TAB := (.low (.low (.low (.low (.one A3_ok (.one A4_ok .nil)) (.one A5_ok (.one A6_ok .nil))) (.low (.one A7_ok (.one A8_ok .nil)) (.one A9_ok (.one A10_ok (.one A11_ok .nil))))) (.low (.low (.one A12_ok (.one A13_ok .nil)) (.one A14_ok (.one A15_ok (.one A16_ok .nil)))) (.low (.one A17_ok (.one A18_ok .nil)) (.one A19_ok (.one A20_ok (.one A21_ok .nil)))))) (.low (.low (.low (.one A22_ok (.one A23_ok .nil)) (.one A24_ok (.one A26_ok (.one A27_ok .nil)))) (.low (.one A28_ok (.one A29_ok .nil)) (.one A30_ok (.one A31_ok (.one A32_ok .nil))))) (.low (.low (.one A33_ok (.one A34_ok .nil)) (.one A35_ok (.one A36_ok (.one A37_ok .nil)))) (.low (.one A38_ok (.one A39_ok .nil)) (.one A40_ok (.one A41_ok (.one A43_ok .nil)))))))

end Go.Pg
