/- The trees of the program's functions, written out by program; each is shown to be the function's own. -/
import Derived.Test.YtahkbdmoodjnbaaProg
import Derived.KernelRfl
import Derived.Test.YtahkbdmoodjnbaaPg3
namespace Go.Pg
open Go.Proofs
set_option linter.unusedVariables false
noncomputable abbrev PROG : Program := Try.prog
noncomputable def T6k0 (b34 : Bool) : Ex → List Value → Pg :=
  fun e93 l94 => sw e93 .normal (asCons l94 fun v95 l96 => asBool v95 fun b97 => asNil l96 (bif b97 then (.ret .ret [(.bool false)]) else (.ret .normal [(.bool b34)]))) (.fail)

noncomputable def T6k1 (i31 : Int) : Ex → List Value → Pg :=
  fun e98 l99 => sw e98 .ret (asCons l99 fun v100 l101 => asBool v100 fun b102 => asNil l101 (.ret .ret [(.int .i64 i31), (.bool b102)])) (sw e98 .normal (asCons l99 fun v103 l104 => asBool v103 fun b105 => asNil l104 (.ret .normal [(.int .i64 (wi64 (i31 + 1))), (.bool b105)])) (.fail))

noncomputable def T6b0 (n3 : Nat) (p2 : (Option Addr)) (p12 : (Option Addr)) (a27 : Addr) (i5 : Int) : List Value → Pg :=
  fun l28 => asCons l28 fun v29 l30 => asInt .i64 v29 fun i31 => asCons l30 fun v32 l33 => asBool v32 fun b34 => asNil l33 (bif (decide (i31 < ((n3 : Nat) : Int))) then (.join (asSome p2 fun a35 => grd ((decide (0 ≤ i31)) && (decide (i31 < ((n3 : Nat) : Int)))) (.act (ld1 (aadd a35 ((Int.toNat i31) * 1))) fun v36 => asInt .i64 v36 fun i37 => .get fun h39 => .call 24 [(.pointer p12), (.int .i64 i37)] fun v38 => asBool v38 fun b40 => asSome p2 fun a41 => grd ((decide (0 ≤ i31)) && (decide (i31 < ((n3 : Nat) : Int)))) (.act (ld1 (aadd a41 ((Int.toNat i31) * 1))) fun v42 => grd (past (ld1 (aadd a41 ((Int.toNat i31) * 1))) v42 [h39]) (asInt .i64 v42 fun i43 => .call 25 [(.pointer (some a27)), (.int .i64 i43)] fun v44 => asBool v44 fun b45 => bif (!(b40 == b45)) then (.ret .ret [(.bool false)]) else (asSome p2 fun a46 => grd ((decide (0 ≤ i31)) && (decide (i31 < ((n3 : Nat) : Int)))) (.act (ld1 (aadd a46 ((Int.toNat i31) * 1))) fun v47 => asInt .i64 v47 fun i48 => .call 26 [(.pointer p12), (.int .i64 i48)] fun v49 => asTuple v49 fun l50 => asCons l50 fun v51 l52 => asSlice v51 fun p53 n54 n55 => asCons l52 fun v56 l57 => asInt .i64 v56 fun i58 => asNil l57 (asSome p2 fun a59 => grd ((decide (0 ≤ i31)) && (decide (i31 < ((n3 : Nat) : Int)))) (.act (ld1 (aadd a59 ((Int.toNat i31) * 1))) fun v60 => asInt .i64 v60 fun i61 => .call 27 [(.pointer (some a27)), (.int .i64 i61)] fun v62 => asTuple v62 fun l63 => asCons l63 fun v64 l65 => asSlice v64 fun p66 n67 n68 => asCons l65 fun v69 l70 => asInt .i64 v69 fun i71 => asNil l70 (.join (bif (i58 != i71) == false then (.call 28 [(.slice p53 n54 n55), (.slice p66 n67 n68)] fun v72 => asBool v72 fun b73 => bif (!b73) == false then (.get fun h75 => .call 29 [(.pointer p12)] fun v74 => asSlice v74 fun p76 n77 n78 => .act (ld1 (aadd a27 2)) fun v79 => grd (past (ld1 (aadd a27 2)) v79 [h75]) (asSlice v79 fun p80 n81 n82 => .call 28 [(.slice p76 n77 n78), (.slice p80 n81 n82)] fun v83 => asBool v83 fun b84 => bif (!b84) == false then (.call 30 [(.pointer p12), (.int .i64 i5)] fun v85 => asInt .i64 v85 fun i86 => .call 31 [(.pointer (some a27)), (.int .i64 i5)] fun v87 => asInt .i64 v87 fun i88 => bif (i86 != i88) == false then (.call 32 [(.pointer p12)] fun v89 => asInt .i64 v89 fun i90 => .call 33 [(.pointer (some a27))] fun v91 => asInt .i64 v91 fun i92 => .ret .normal [(.bool (i90 != i92))]) else (.ret .normal [(.bool true)])) else (.ret .normal [(.bool true)]))) else (.ret .normal [(.bool true)])) else (.ret .normal [(.bool true)])) (T6k0 b34)))))))))) (T6k1 i31)) else (.ret (.exit 0) [(.int .i64 i31), (.bool b34)]))

noncomputable def T6k2 : Ex → List Value → Pg :=
  fun e106 l107 => sw e106 (.exit 0) (asCons l107 fun v108 l109 => asInt .i64 v108 fun i110 => asCons l109 fun v111 l112 => asBool v111 fun b113 => asNil l112 (.ret .ret [(.bool true)])) (sw e106 .ret (asCons l107 fun v114 l115 => asInt .i64 v114 fun i116 => asCons l115 fun v117 l118 => asBool v117 fun b119 => asNil l118 (.ret .ret [(.bool b119)])) (.fail))

noncomputable def T6k3 (i15 : Int) (p12 : (Option Addr)) (i0 : Int) (i1 : Int) (n3 : Nat) (p2 : (Option Addr)) (i5 : Int) : Ex → List Value → Pg :=
  fun e16 l17 => sw e16 .normal (asCons l17 fun v18 l19 => asBool v18 fun b20 => asNil l19 (bif b20 then (.ret .ret [(.bool ((i15 == 0) && (!(Option.isNone p12))))]) else (.act (bdSl 1 1 [(.int .i64 0)]) fun v21 => asSlice v21 fun p22 n23 n24 => .act (newC [(.int .i64 i0), (.int .i64 i1), (.slice p22 n23 n24)]) fun v25 => asPtr v25 fun p26 => asSome p26 fun a27 => .loop [(.int .i64 0), (.bool false)] (T6b0 n3 p2 p12 a27 i5) (T6k2)))) (.fail)

/-- hindsight/hindsightlaw22.KeepPlays -/
noncomputable def T6 (i0 : Int) (i1 : Int) (p2 : (Option Addr)) (n3 : Nat) (n4 : Nat) (i5 : Int) : Pg :=
  .call 22 [] fun v6 => asBool v6 fun b7 => bif (!b7) then (.ret .ret [(.bool false)]) else (.call 23 [(.int .i64 i0), (.int .i64 i1)] fun v8 => asTuple v8 fun l9 => asCons l9 fun v10 l11 => asPtr v10 fun p12 => asCons l11 fun v13 l14 => asInt .i64 v13 fun i15 => asNil l14 (bif ((((decide (i0 < 1)) || (decide (i0 > 1000000))) || (decide (i1 < 2))) || (decide (i1 > 64))) then (.ret .ret [(.bool ((i15 == 1) && (Option.isNone p12)))]) else (.join (bif ((i15 != 0) || (Option.isNone p12)) == false then (.ret .normal [(.bool (decide (((n3 : Nat) : Int) > 80)))]) else (.ret .normal [(.bool true)])) (T6k3 i15 p12 i0 i1 n3 p2 i5))))
theorem T6_eq (i0 : Int) (i1 : Int) (p2 : (Option Addr)) (n3 : Nat) (n4 : Nat) (i5 : Int) : progOf PROG false 6 [(.int .i64 i0), (.int .i64 i1), (.slice p2 n3 n4), (.int .i64 i5)] = T6 i0 i1 p2 n3 n4 i5 := by kernel_rfl

noncomputable def T7k0 (b55 : Bool) : Ex → List Value → Pg :=
  fun e65 l66 => sw e65 .normal (asCons l66 fun v67 l68 => asBool v67 fun b69 => asNil l68 (bif b69 then (.ret .ret [(.bool false)]) else (.ret .normal [(.bool b55)]))) (.fail)

noncomputable def T7k1 (i52 : Int) : Ex → List Value → Pg :=
  fun e70 l71 => sw e70 .ret (asCons l71 fun v72 l73 => asBool v72 fun b74 => asNil l73 (.ret .ret [(.int .i64 i52), (.bool b74)])) (sw e70 .normal (asCons l71 fun v75 l76 => asBool v75 fun b77 => asNil l76 (.ret .normal [(.int .i64 (wi64 (i52 + 1))), (.bool b77)])) (.fail))

noncomputable def T7b0 (n34 : Nat) (p33 : (Option Addr)) (i0 : Int) : List Value → Pg :=
  fun l49 => asCons l49 fun v50 l51 => asInt .i64 v50 fun i52 => asCons l51 fun v53 l54 => asBool v53 fun b55 => asNil l54 (bif (decide (i52 < ((n34 : Nat) : Int))) then (.join (.join (asSome p33 fun a56 => grd ((decide (0 ≤ i52)) && (decide (i52 < ((n34 : Nat) : Int)))) (.act (ld1 (aadd a56 ((Int.toNat i52) * 1))) fun v57 => asInt .i64 v57 fun i58 => asSome p33 fun a59 => grd ((decide (0 ≤ (wi64 (i52 - 1)))) && (decide ((wi64 (i52 - 1)) < ((n34 : Nat) : Int)))) (.act (ld1 (aadd a59 ((Int.toNat (wi64 (i52 - 1))) * 1))) fun v60 => asInt .i64 v60 fun i61 => bif (decide (i58 ≤ i61)) == false then (asSome p33 fun a62 => grd ((decide (0 ≤ i52)) && (decide (i52 < ((n34 : Nat) : Int)))) (.act (ld1 (aadd a62 ((Int.toNat i52) * 1))) fun v63 => asInt .i64 v63 fun i64 => grd (!(decide (i0 = 0))) (.ret .normal [(.bool ((Int.tmod i64 i0) != 0))]))) else (.ret .normal [(.bool true)])))) (T7k0 b55)) (T7k1 i52)) else (.ret (.exit 2) [(.int .i64 i52), (.bool b55)]))

noncomputable def T7k2 : Ex → List Value → Pg :=
  fun e78 l79 => sw e78 (.exit 2) (asCons l79 fun v80 l81 => asInt .i64 v80 fun i82 => asCons l81 fun v83 l84 => asBool v83 fun b85 => asNil l84 (.ret .normal [(.bool b85)])) (sw e78 .ret (asCons l79 fun v86 l87 => asInt .i64 v86 fun i88 => asCons l87 fun v89 l90 => asBool v89 fun b91 => asNil l90 (.ret .ret [(.bool b91)])) (.fail))

noncomputable def T7k3 (b19 : Bool) (n34 : Nat) (p33 : (Option Addr)) (i0 : Int) : Ex → List Value → Pg :=
  fun e44 l45 => sw e44 .normal (asCons l45 fun v46 l47 => asBool v46 fun b48 => asNil l47 (bif b48 then (.ret .ret [(.bool false)]) else (.loop [(.int .i64 1), (.bool b19)] (T7b0 n34 p33 i0) (T7k2)))) (.fail)

noncomputable def T7k4 (i16 : Int) : Ex → List Value → Pg :=
  fun e92 l93 => sw e92 .ret (asCons l93 fun v94 l95 => asBool v94 fun b96 => asNil l95 (.ret .ret [(.int .i64 i16), (.bool b96)])) (sw e92 .normal (asCons l93 fun v97 l98 => asBool v97 fun b99 => asNil l98 (.ret .normal [(.int .i64 (wi64 (i16 + 1))), (.bool b99)])) (.fail))

noncomputable def T7b1 (i2 : Int) (p9 : (Option Addr)) (i0 : Int) (i1 : Int) : List Value → Pg :=
  fun l13 => asCons l13 fun v14 l15 => asInt .i64 v14 fun i16 => asCons l15 fun v17 l18 => asBool v17 fun b19 => asNil l18 (bif (decide (i16 ≤ i2)) then (.join (.call 24 [(.pointer p9), (.int .i64 (wi64 (i16 * i0)))] fun v20 => asBool v20 fun b21 => bif (!b21) then (.ret .ret [(.bool false)]) else (.call 26 [(.pointer p9), (.int .i64 (wi64 (i16 * i0)))] fun v22 => asTuple v22 fun l23 => asCons l23 fun v24 l25 => asSlice v24 fun p26 n27 n28 => asCons l25 fun v29 l30 => asInt .i64 v29 fun i31 => asNil l30 (.call 29 [(.pointer p9)] fun v32 => asSlice v32 fun p33 n34 n35 => .join (bif (decide (((n34 : Nat) : Int) > i1)) == false then (bif (decide (((n34 : Nat) : Int) < 2)) == false then (asSome p33 fun a36 => grd (decide (0 < ((n34 : Nat) : Int))) (.act (ld1 (aadd a36 0)) fun v37 => asInt .i64 v37 fun i38 => bif (i38 != 0) == false then (asSome p33 fun a39 => grd ((decide (0 ≤ (wi64 (((n34 : Nat) : Int) - 1)))) && (decide ((wi64 (((n34 : Nat) : Int) - 1)) < ((n34 : Nat) : Int)))) (.act (ld1 (aadd a39 ((Int.toNat (wi64 (((n34 : Nat) : Int) - 1))) * 1))) fun v40 => asInt .i64 v40 fun i41 => bif (i41 != (wi64 (i16 * i0))) == false then (.call 30 [(.pointer p9), (.int .i64 (wi64 (i16 * i0)))] fun v42 => asInt .i64 v42 fun i43 => bif (i43 != (wi64 (i16 * i0))) == false then (bif (decide (i16 < i1)) == true then (.ret .normal [(.bool (((n34 : Nat) : Int) != (wi64 (i16 + 1))))]) else (.ret .normal [(.bool false)])) else (.ret .normal [(.bool true)])) else (.ret .normal [(.bool true)]))) else (.ret .normal [(.bool true)]))) else (.ret .normal [(.bool true)])) else (.ret .normal [(.bool true)])) (T7k3 b19 n34 p33 i0)))) (T7k4 i16)) else (.ret (.exit 0) [(.int .i64 i16), (.bool b19)]))

noncomputable def T7k5 : Ex → List Value → Pg :=
  fun e100 l101 => sw e100 (.exit 0) (asCons l101 fun v102 l103 => asInt .i64 v102 fun i104 => asCons l103 fun v105 l106 => asBool v105 fun b107 => asNil l106 (.ret .ret [(.bool true)])) (sw e100 .ret (asCons l101 fun v108 l109 => asInt .i64 v108 fun i110 => asCons l109 fun v111 l112 => asBool v111 fun b113 => asNil l112 (.ret .ret [(.bool b113)])) (.fail))

/-- hindsight/hindsightlaw22.KeepEven -/
noncomputable def T7 (i0 : Int) (i1 : Int) (i2 : Int) : Pg :=
  .call 22 [] fun v3 => asBool v3 fun b4 => bif (!b4) then (.ret .ret [(.bool false)]) else (bif ((((((decide (i0 < 1)) || (decide (i0 > 1000))) || (decide (i1 < 2))) || (decide (i1 > 64))) || (decide (i2 < 0))) || (decide (i2 > 300))) then (.ret .ret [(.bool true)]) else (.call 23 [(.int .i64 i0), (.int .i64 i1)] fun v5 => asTuple v5 fun l6 => asCons l6 fun v7 l8 => asPtr v7 fun p9 => asCons l8 fun v10 l11 => asInt .i64 v10 fun i12 => asNil l11 (bif ((i12 != 0) || (Option.isNone p9)) then (.ret .ret [(.bool false)]) else (.loop [(.int .i64 1), (.bool false)] (T7b1 i2 p9 i0 i1) (T7k5)))))
theorem T7_eq (i0 : Int) (i1 : Int) (i2 : Int) : progOf PROG false 7 [(.int .i64 i0), (.int .i64 i1), (.int .i64 i2)] = T7 i0 i1 i2 := by kernel_rfl

noncomputable def T8k0 (i17 : Int) : Ex → List Value → Pg :=
  fun e28 l29 => sw e28 .normal (asNil l29 (.ret .normal [(.int .i64 (wi64 (i17 + 1)))])) (.fail)

noncomputable def T8b0 (i2 : Int) (p10 : (Option Addr)) (i0 : Int) : List Value → Pg :=
  fun l14 => asCons l14 fun v15 l16 => asInt .i64 v15 fun i17 => asNil l16 (bif (decide (i17 ≤ i2)) then (.join (.call 26 [(.pointer p10), (.int .i64 (wi64 (i17 * i0)))] fun v18 => asTuple v18 fun l19 => asCons l19 fun v20 l21 => asSlice v20 fun p22 n23 n24 => asCons l21 fun v25 l26 => asInt .i64 v25 fun i27 => asNil l26 (.ret .normal [])) (T8k0 i17)) else (.ret (.exit 0) [(.int .i64 i17)]))

noncomputable def T8k1 (b58 : Bool) (b47 : Bool) : Ex → List Value → Pg :=
  fun e65 l66 => sw e65 .normal (asCons l66 fun v67 l68 => asBool v67 fun b69 => asNil l68 (bif b69 then (.ret .ret [(.bool false), (.bool b58)]) else (.ret .normal [(.bool b47), (.bool b58)]))) (.fail)

noncomputable def T8k2 (p38 : (Option Addr)) (i44 : Int) (n39 : Nat) (i36 : Int) (i3 : Int) (b47 : Bool) : Ex → List Value → Pg :=
  fun e54 l55 => sw e54 .normal (asCons l55 fun v56 l57 => asBool v56 fun b58 => asNil l57 (.join (asSome p38 fun a59 => grd ((decide (0 ≤ i44)) && (decide (i44 < ((n39 : Nat) : Int)))) (.act (ld1 (aadd a59 ((Int.toNat i44) * 1))) fun v60 => asInt .i64 v60 fun i61 => bif (decide (i61 > i36)) == true then (asSome p38 fun a62 => grd ((decide (0 ≤ i44)) && (decide (i44 < ((n39 : Nat) : Int)))) (.act (ld1 (aadd a62 ((Int.toNat i44) * 1))) fun v63 => asInt .i64 v63 fun i64 => .ret .normal [(.bool (decide (i64 ≤ i3)))])) else (.ret .normal [(.bool false)]))) (T8k1 b58 b47))) (.fail)

noncomputable def T8k3 (i44 : Int) : Ex → List Value → Pg :=
  fun e70 l71 => sw e70 .ret (asCons l71 fun v72 l73 => asBool v72 fun b74 => asCons l73 fun v75 l76 => asBool v75 fun b77 => asNil l76 (.ret .ret [(.int .i64 i44), (.bool b74), (.bool b77)])) (sw e70 .normal (asCons l71 fun v78 l79 => asBool v78 fun b80 => asCons l79 fun v81 l82 => asBool v81 fun b83 => asNil l82 (.ret .normal [(.int .i64 (wi64 (i44 + 1))), (.bool b80), (.bool b83)])) (.fail))

noncomputable def T8b1 (n39 : Nat) (p38 : (Option Addr)) (i36 : Int) (i3 : Int) : List Value → Pg :=
  fun l41 => asCons l41 fun v42 l43 => asInt .i64 v42 fun i44 => asCons l43 fun v45 l46 => asBool v45 fun b47 => asCons l46 fun v48 l49 => asBool v48 fun b50 => asNil l49 (bif (decide (i44 < ((n39 : Nat) : Int))) then (.join (.join (bif b50 == false then (asSome p38 fun a51 => grd ((decide (0 ≤ i44)) && (decide (i44 < ((n39 : Nat) : Int)))) (.act (ld1 (aadd a51 ((Int.toNat i44) * 1))) fun v52 => asInt .i64 v52 fun i53 => .ret .normal [(.bool (i53 == i36))])) else (.ret .normal [(.bool true)])) (T8k2 p38 i44 n39 i36 i3 b47)) (T8k3 i44)) else (.ret (.exit 2) [(.int .i64 i44), (.bool b47), (.bool b50)]))

noncomputable def T8k4 : Ex → List Value → Pg :=
  fun e97 l98 => sw e97 .normal (asCons l98 fun v99 l100 => asBool v99 fun b101 => asNil l100 (.ret .ret [(.bool b101)])) (.fail)

noncomputable def T8k5 (i36 : Int) (i3 : Int) (p10 : (Option Addr)) : Ex → List Value → Pg :=
  fun e84 l85 => sw e84 (.exit 2) (asCons l85 fun v86 l87 => asInt .i64 v86 fun i88 => asCons l87 fun v89 l90 => asBool v89 fun b91 => asCons l90 fun v92 l93 => asBool v92 fun b94 => asNil l93 (.join (bif (b94 && (decide (i36 ≤ i3))) == true then (.call 30 [(.pointer p10), (.int .i64 (-1))] fun v95 => asInt .i64 v95 fun i96 => .ret .normal [(.bool (i96 == 0))]) else (.ret .normal [(.bool false)])) (T8k4))) (sw e84 .ret (asCons l85 fun v102 l103 => asInt .i64 v102 fun i104 => asCons l103 fun v105 l106 => asBool v105 fun b107 => asCons l106 fun v108 l109 => asBool v108 fun b110 => asNil l109 (.ret .ret [(.bool b107)])) (.fail))

noncomputable def T8k6 (p10 : (Option Addr)) (i3 : Int) : Ex → List Value → Pg :=
  fun e30 l31 => sw e30 (.exit 0) (asCons l31 fun v32 l33 => asInt .i64 v32 fun i34 => asNil l33 (.call 30 [(.pointer p10), (.int .i64 i3)] fun v35 => asInt .i64 v35 fun i36 => .call 29 [(.pointer p10)] fun v37 => asSlice v37 fun p38 n39 n40 => .loop [(.int .i64 0), (.bool false), (.bool false)] (T8b1 n39 p38 i36 i3) (T8k5 i36 i3 p10))) (.fail)

/-- hindsight/hindsightlaw22.KeepBefore -/
noncomputable def T8 (i0 : Int) (i1 : Int) (i2 : Int) (i3 : Int) : Pg :=
  .call 22 [] fun v4 => asBool v4 fun b5 => bif (!b5) then (.ret .ret [(.bool false)]) else (bif (((((((decide (i0 < 1)) || (decide (i0 > 1000))) || (decide (i1 < 2))) || (decide (i1 > 64))) || (decide (i2 < 0))) || (decide (i2 > 100))) || (decide (i3 < 0))) then (.ret .ret [(.bool true)]) else (.call 23 [(.int .i64 i0), (.int .i64 i1)] fun v6 => asTuple v6 fun l7 => asCons l7 fun v8 l9 => asPtr v8 fun p10 => asCons l9 fun v11 l12 => asInt .i64 v11 fun i13 => asNil l12 (bif ((i13 != 0) || (Option.isNone p10)) then (.ret .ret [(.bool false)]) else (.loop [(.int .i64 1)] (T8b0 i2 p10 i0) (T8k6 p10 i3)))))
theorem T8_eq (i0 : Int) (i1 : Int) (i2 : Int) (i3 : Int) : progOf PROG false 8 [(.int .i64 i0), (.int .i64 i1), (.int .i64 i2), (.int .i64 i3)] = T8 i0 i1 i2 i3 := by kernel_rfl

noncomputable def T22k0 : Ex → List Value → Pg :=
  fun e48 l49 => sw e48 .normal (asCons l49 fun v50 l51 => asBool v50 fun b52 => asNil l51 (.ret .ret [(.bool b52)])) (.fail)

/-- hindsight/hindsightlaw22.awake -/
noncomputable def T22 : Pg :=
  .call 23 [(.int .i64 1), (.int .i64 2)] fun v0 => asTuple v0 fun l1 => asCons l1 fun v2 l3 => asPtr v2 fun p4 => asCons l3 fun v5 l6 => asInt .i64 v5 fun i7 => asNil l6 (bif ((i7 != 0) || (Option.isNone p4)) then (.ret .ret [(.bool false)]) else (.call 26 [(.pointer p4), (.int .i64 1)] fun v8 => asTuple v8 fun l9 => asCons l9 fun v10 l11 => asSlice v10 fun p12 n13 n14 => asCons l11 fun v15 l16 => asInt .i64 v15 fun i17 => asNil l16 (.call 26 [(.pointer p4), (.int .i64 2)] fun v18 => asTuple v18 fun l19 => asCons l19 fun v20 l21 => asSlice v20 fun p22 n23 n24 => asCons l21 fun v25 l26 => asInt .i64 v25 fun i27 => asNil l26 (.join (bif (i17 == 0) == true then (bif ((((n13 : Nat) : Int) == 0) && (i27 == 0)) == true then (.act (bdSl 1 1 [(.int .i64 1)]) fun v28 => asSlice v28 fun p29 n30 n31 => .call 28 [(.slice p22 n23 n24), (.slice p29 n30 n31)] fun v32 => asBool v32 fun b33 => bif b33 == true then (.call 29 [(.pointer p4)] fun v34 => asSlice v34 fun p35 n36 n37 => .act (bdSl 1 2 [(.int .i64 0), (.int .i64 2)]) fun v38 => asSlice v38 fun p39 n40 n41 => .call 28 [(.slice p35 n36 n37), (.slice p39 n40 n41)] fun v42 => asBool v42 fun b43 => bif b43 == true then (.call 32 [(.pointer p4)] fun v44 => asInt .i64 v44 fun i45 => bif (i45 == 2) == true then (.call 30 [(.pointer p4), (.int .i64 1)] fun v46 => asInt .i64 v46 fun i47 => .ret .normal [(.bool (i47 == 0))]) else (.ret .normal [(.bool false)])) else (.ret .normal [(.bool false)])) else (.ret .normal [(.bool false)])) else (.ret .normal [(.bool false)])) else (.ret .normal [(.bool false)])) (T22k0)))))
theorem T22_eq : progOf PROG false 22 [] = T22 := by kernel_rfl

/-- hindsight/keep.New -/
noncomputable def T23 (i0 : Int) (i1 : Int) : Pg :=
  bif ((((decide (i0 < 1)) || (decide (i0 > 1000000))) || (decide (i1 < 2))) || (decide (i1 > 64))) then (.ret .ret [(.tuple #[(.pointer none), (.int .i64 1)])]) else (.act (bdSl 1 1 [(.int .i64 0)]) fun v2 => asSlice v2 fun p3 n4 n5 => .act (newC [(.int .i64 i0), (.int .i64 i1), (.slice p3 n4 n5)]) fun v6 => asPtr v6 fun p7 => asSome p7 fun a8 => .ret .ret [(.tuple #[(.pointer (some a8)), (.int .i64 0)])])
theorem T23_eq (i0 : Int) (i1 : Int) : progOf PROG false 23 [(.int .i64 i0), (.int .i64 i1)] = T23 i0 i1 := by kernel_rfl

noncomputable def T24k0 : Ex → List Value → Pg :=
  fun e7 l8 => sw e7 .normal (asCons l8 fun v9 l10 => asBool v9 fun b11 => asNil l10 (.ret .ret [(.bool b11)])) (.fail)

/-- (*hindsight/keep.Keeper).Wants -/
noncomputable def T24 (p0 : (Option Addr)) (i1 : Int) : Pg :=
  .join (.call 34 [(.pointer p0)] fun v2 => asInt .i64 v2 fun i3 => bif (decide (i1 > i3)) == true then (asSome p0 fun a4 => .act (ld1 (aadd a4 0)) fun v5 => asInt .i64 v5 fun i6 => grd (!(decide (i6 = 0))) (.ret .normal [(.bool ((Int.tmod i1 i6) == 0))])) else (.ret .normal [(.bool false)])) (T24k0)
theorem T24_eq (p0 : (Option Addr)) (i1 : Int) : progOf PROG false 24 [(.pointer p0), (.int .i64 i1)] = T24 p0 i1 := by kernel_rfl

noncomputable def T25k0 : Ex → List Value → Pg :=
  fun e18 l19 => sw e18 .normal (asCons l19 fun v20 l21 => asBool v20 fun b22 => asNil l21 (.ret .ret [(.bool b22)])) (.fail)

/-- (*hindsight/hindsightref11.Keeper).Wants -/
noncomputable def T25 (p0 : (Option Addr)) (i1 : Int) : Pg :=
  .join (bif (decide (i1 ≥ 0)) == true then (asSome p0 fun a2 => .act (ld1 (aadd a2 0)) fun v3 => asInt .i64 v3 fun i4 => grd (!(decide (i4 = 0))) (bif ((Int.tmod i1 i4) == 0) == true then (asSome p0 fun a5 => .act (ld1 (aadd a5 2)) fun v6 => asSlice v6 fun p7 n8 n9 => asSome p0 fun a10 => .act (ld1 (aadd a10 2)) fun v11 => asSlice v11 fun p12 n13 n14 => asSome p7 fun a15 => grd ((decide (0 ≤ (wi64 (((n13 : Nat) : Int) - 1)))) && (decide ((wi64 (((n13 : Nat) : Int) - 1)) < ((n8 : Nat) : Int)))) (.act (ld1 (aadd a15 ((Int.toNat (wi64 (((n13 : Nat) : Int) - 1))) * 1))) fun v16 => asInt .i64 v16 fun i17 => .ret .normal [(.bool (decide (i1 > i17)))])) else (.ret .normal [(.bool false)]))) else (.ret .normal [(.bool false)])) (T25k0)
theorem T25_eq (p0 : (Option Addr)) (i1 : Int) : progOf PROG false 25 [(.pointer p0), (.int .i64 i1)] = T25 p0 i1 := by kernel_rfl

noncomputable def T26k0 : Ex → List Value → Pg :=
  fun e72 l73 => sw e72 .normal (asCons l73 fun v74 l75 => asInt .i64 v74 fun i76 => asNil l75 (.ret .normal [(.int .i64 i76)])) (.fail)

noncomputable def T26k1 (i31 : Int) : Ex → List Value → Pg :=
  fun e77 l78 => sw e77 .normal (asCons l78 fun v79 l80 => asInt .i64 v79 fun i81 => asNil l80 (.ret .normal [(.int .i64 (wi64 (i31 + 1))), (.int .i64 i81)])) (.fail)

noncomputable def T26b0 (p0 : (Option Addr)) : List Value → Pg :=
  fun l28 => asCons l28 fun v29 l30 => asInt .i64 v29 fun i31 => asCons l30 fun v32 l33 => asInt .i64 v32 fun i34 => asNil l33 (asSome p0 fun a35 => .act (ld1 (aadd a35 2)) fun v36 => asSlice v36 fun p37 n38 n39 => bif (decide (i31 < (wi64 (((n38 : Nat) : Int) - 1)))) then (.join (asSome p0 fun a40 => .act (ld1 (aadd a40 2)) fun v41 => asSlice v41 fun p42 n43 n44 => asSome p42 fun a45 => grd ((decide (0 ≤ (wi64 (i31 + 1)))) && (decide ((wi64 (i31 + 1)) < ((n43 : Nat) : Int)))) (.act (ld1 (aadd a45 ((Int.toNat (wi64 (i31 + 1))) * 1))) fun v46 => asInt .i64 v46 fun i47 => asSome p0 fun a48 => .act (ld1 (aadd a48 2)) fun v49 => asSlice v49 fun p50 n51 n52 => asSome p50 fun a53 => grd ((decide (0 ≤ (wi64 (i31 - 1)))) && (decide ((wi64 (i31 - 1)) < ((n51 : Nat) : Int)))) (.act (ld1 (aadd a53 ((Int.toNat (wi64 (i31 - 1))) * 1))) fun v54 => asInt .i64 v54 fun i55 => asSome p0 fun a56 => .act (ld1 (aadd a56 2)) fun v57 => asSlice v57 fun p58 n59 n60 => asSome p58 fun a61 => grd ((decide (0 ≤ (wi64 (i34 + 1)))) && (decide ((wi64 (i34 + 1)) < ((n59 : Nat) : Int)))) (.act (ld1 (aadd a61 ((Int.toNat (wi64 (i34 + 1))) * 1))) fun v62 => asInt .i64 v62 fun i63 => asSome p0 fun a64 => .act (ld1 (aadd a64 2)) fun v65 => asSlice v65 fun p66 n67 n68 => asSome p66 fun a69 => grd ((decide (0 ≤ (wi64 (i34 - 1)))) && (decide ((wi64 (i34 - 1)) < ((n67 : Nat) : Int)))) (.act (ld1 (aadd a69 ((Int.toNat (wi64 (i34 - 1))) * 1))) fun v70 => asInt .i64 v70 fun i71 => .join (bif (decide ((wi64 (i47 - i55)) < (wi64 (i63 - i71)))) then (.ret .normal [(.int .i64 i31)]) else (.ret .normal [(.int .i64 i34)])) (T26k0)))))) (T26k1 i31)) else (.ret (.exit 0) [(.int .i64 i31), (.int .i64 i34)]))

noncomputable def T26k2 (p0 : (Option Addr)) : Ex → List Value → Pg :=
  fun e82 l83 => sw e82 (.exit 0) (asCons l83 fun v84 l85 => asInt .i64 v84 fun i86 => asCons l85 fun v87 l88 => asInt .i64 v87 fun i89 => asNil l88 (asSome p0 fun a90 => .act (ld1 (aadd a90 2)) fun v91 => asSlice v91 fun p92 n93 n94 => asSome p92 fun a95 => grd ((decide (0 ≤ i89)) && (decide (i89 < ((n93 : Nat) : Int)))) (.act (ld1 (aadd a95 ((Int.toNat i89) * 1))) fun v96 => asInt .i64 v96 fun i97 => .act (bdSl 1 1 [(.int .i64 i97)]) fun v98 => asSlice v98 fun p99 n100 n101 => asSome p0 fun a102 => .act (ld1 (aadd a102 2)) fun v103 => asSlice v103 fun p104 n105 n106 => .call 35 [(.slice p104 n105 n106), (.int .i64 i89), (.int .i64 (wi64 (i89 + 1)))] fun v107 => asSlice v107 fun p108 n109 n110 => asSome p0 fun a111 => .act (stC (aadd a111 2) [(.slice p108 n109 n110)]) fun v112 => asTuple v112 fun l113 => asNil l113 (.ret .ret [(.tuple #[(.slice p99 n100 n101), (.int .i64 0)])])))) (.fail)

/-- (*hindsight/keep.Keeper).Add -/
noncomputable def T26 (p0 : (Option Addr)) (i1 : Int) : Pg :=
  .call 24 [(.pointer p0), (.int .i64 i1)] fun v2 => asBool v2 fun b3 => bif (!b3) then (.ret .ret [(.tuple #[(.slice none 0 0), (.int .i64 1)])]) else (asSome p0 fun a4 => .act (ld1 (aadd a4 2)) fun v5 => asSlice v5 fun p6 n7 n8 => .act (bdSl 1 1 [(.int .i64 i1)]) fun v9 => asSlice v9 fun p10 n11 n12 => .act (apS 1 8 p6 n7 n8 p10 n11 n12) fun v13 => asSlice v13 fun p14 n15 n16 => asSome p0 fun a17 => .act (stC (aadd a17 2) [(.slice p14 n15 n16)]) fun v18 => asTuple v18 fun l19 => asNil l19 (asSome p0 fun a20 => .act (ld1 (aadd a20 2)) fun v21 => asSlice v21 fun p22 n23 n24 => asSome p0 fun a25 => .act (ld1 (aadd a25 1)) fun v26 => asInt .i64 v26 fun i27 => bif (decide (((n23 : Nat) : Int) ≤ i27)) then (.ret .ret [(.tuple #[(.slice none 0 0), (.int .i64 0)])]) else (.loop [(.int .i64 1), (.int .i64 1)] (T26b0 p0) (T26k2 p0))))
theorem T26_eq (p0 : (Option Addr)) (i1 : Int) : progOf PROG false 26 [(.pointer p0), (.int .i64 i1)] = T26 p0 i1 := by kernel_rfl

noncomputable def T27k0 : Ex → List Value → Pg :=
  fun e50 l51 => sw e50 .normal (asCons l51 fun v52 l53 => asInt .i64 v52 fun i54 => asNil l53 (.ret .normal [(.int .i64 i54)])) (.fail)

noncomputable def T27k1 (i34 : Int) : Ex → List Value → Pg :=
  fun e55 l56 => sw e55 .normal (asCons l56 fun v57 l58 => asInt .i64 v57 fun i59 => asNil l58 (.ret .normal [(.int .i64 (wi64 (i34 + 1))), (.int .i64 i59)])) (.fail)

noncomputable def T27b0 (n23 : Nat) (p22 : (Option Addr)) : List Value → Pg :=
  fun l31 => asCons l31 fun v32 l33 => asInt .i64 v32 fun i34 => asCons l33 fun v35 l36 => asInt .i64 v35 fun i37 => asNil l36 (bif (decide (i34 < (wi64 (((n23 : Nat) : Int) - 1)))) then (.join (asSome p22 fun a38 => grd ((decide (0 ≤ (wi64 (i34 + 1)))) && (decide ((wi64 (i34 + 1)) < ((n23 : Nat) : Int)))) (.act (ld1 (aadd a38 ((Int.toNat (wi64 (i34 + 1))) * 1))) fun v39 => asInt .i64 v39 fun i40 => asSome p22 fun a41 => grd ((decide (0 ≤ (wi64 (i34 - 1)))) && (decide ((wi64 (i34 - 1)) < ((n23 : Nat) : Int)))) (.act (ld1 (aadd a41 ((Int.toNat (wi64 (i34 - 1))) * 1))) fun v42 => asInt .i64 v42 fun i43 => asSome p22 fun a44 => grd ((decide (0 ≤ (wi64 (i37 + 1)))) && (decide ((wi64 (i37 + 1)) < ((n23 : Nat) : Int)))) (.act (ld1 (aadd a44 ((Int.toNat (wi64 (i37 + 1))) * 1))) fun v45 => asInt .i64 v45 fun i46 => asSome p22 fun a47 => grd ((decide (0 ≤ (wi64 (i37 - 1)))) && (decide ((wi64 (i37 - 1)) < ((n23 : Nat) : Int)))) (.act (ld1 (aadd a47 ((Int.toNat (wi64 (i37 - 1))) * 1))) fun v48 => asInt .i64 v48 fun i49 => .join (bif (decide ((wi64 (i40 - i43)) < (wi64 (i46 - i49)))) then (.ret .normal [(.int .i64 i34)]) else (.ret .normal [(.int .i64 i37)])) (T27k0)))))) (T27k1 i34)) else (.ret (.exit 0) [(.int .i64 i34), (.int .i64 i37)]))

noncomputable def T27k2 (p22 : (Option Addr)) (n23 : Nat) (n24 : Nat) (p0 : (Option Addr)) : Ex → List Value → Pg :=
  fun e60 l61 => sw e60 (.exit 0) (asCons l61 fun v62 l63 => asInt .i64 v62 fun i64 => asCons l63 fun v65 l66 => asInt .i64 v65 fun i67 => asNil l66 (asSome p22 fun a68 => grd ((decide (0 ≤ i67)) && (decide (i67 < ((n23 : Nat) : Int)))) (.act (ld1 (aadd a68 ((Int.toNat i67) * 1))) fun v69 => asInt .i64 v69 fun i70 => .act (bdSl 1 0 []) fun v71 => asSlice v71 fun p72 n73 n74 => grd ((((decide (0 ≤ i67)) && (decide (i67 ≤ ((n24 : Nat) : Int)))) && (decide (((n24 : Nat) : Int) ≤ ((n24 : Nat) : Int)))) && ((mayCut p22 1) || true)) (.act (apS 1 8 p72 n73 n74 p22 (Int.toNat i67) n24) fun v75 => asSlice v75 fun p76 n77 n78 => grd (((((decide (0 ≤ (wi64 (i67 + 1)))) && (decide ((wi64 (i67 + 1)) ≤ ((n23 : Nat) : Int)))) && (decide (((n23 : Nat) : Int) ≤ ((n24 : Nat) : Int)))) && (decide (((n24 : Nat) : Int) ≤ ((n24 : Nat) : Int)))) && ((mayCut p22 1) || (decide ((wi64 (i67 + 1)) = 0)))) (.act (apS 1 8 p76 n77 n78 (cutS p22 ((Int.toNat (wi64 (i67 + 1))) * 1)) (n23 - (Int.toNat (wi64 (i67 + 1)))) (n24 - (Int.toNat (wi64 (i67 + 1))))) fun v79 => asSlice v79 fun p80 n81 n82 => asSome p0 fun a83 => .act (stC (aadd a83 2) [(.slice p80 n81 n82)]) fun v84 => asTuple v84 fun l85 => asNil l85 (.act (bdSl 1 1 [(.int .i64 i70)]) fun v86 => asSlice v86 fun p87 n88 n89 => .ret .ret [(.tuple #[(.slice p87 n88 n89), (.int .i64 0)])])))))) (.fail)

/-- (*hindsight/hindsightref11.Keeper).Add -/
noncomputable def T27 (p0 : (Option Addr)) (i1 : Int) : Pg :=
  .call 25 [(.pointer p0), (.int .i64 i1)] fun v2 => asBool v2 fun b3 => bif (!b3) then (.ret .ret [(.tuple #[(.slice none 0 0), (.int .i64 1)])]) else (.act (bdSl 1 0 []) fun v4 => asSlice v4 fun p5 n6 n7 => asSome p0 fun a8 => .act (ld1 (aadd a8 2)) fun v9 => asSlice v9 fun p10 n11 n12 => .act (apS 1 8 p5 n6 n7 p10 n11 n12) fun v13 => asSlice v13 fun p14 n15 n16 => .act (bdSl 1 1 [(.int .i64 i1)]) fun v17 => asSlice v17 fun p18 n19 n20 => .act (apS 1 8 p14 n15 n16 p18 n19 n20) fun v21 => asSlice v21 fun p22 n23 n24 => asSome p0 fun a25 => .act (stC (aadd a25 2) [(.slice p22 n23 n24)]) fun v26 => asTuple v26 fun l27 => asNil l27 (asSome p0 fun a28 => .act (ld1 (aadd a28 1)) fun v29 => asInt .i64 v29 fun i30 => bif (decide (((n23 : Nat) : Int) ≤ i30)) then (.ret .ret [(.tuple #[(.slice none 0 0), (.int .i64 0)])]) else (.loop [(.int .i64 2), (.int .i64 1)] (T27b0 n23 p22) (T27k2 p22 n23 n24 p0))))
theorem T27_eq (p0 : (Option Addr)) (i1 : Int) : progOf PROG false 27 [(.pointer p0), (.int .i64 i1)] = T27 p0 i1 := by kernel_rfl

noncomputable def T28k0 (i9 : Int) : Ex → List Value → Pg :=
  fun e19 l20 => sw e19 .ret (asCons l20 fun v21 l22 => asBool v21 fun b23 => asNil l22 (.ret .ret [(.int .i64 i9), (.bool b23)])) (sw e19 .normal (asCons l20 fun v24 l25 => asBool v24 fun b26 => asNil l25 (.ret .normal [(.int .i64 (wi64 (i9 + 1))), (.bool b26)])) (.fail))

noncomputable def T28b0 (n1 : Nat) (p0 : (Option Addr)) (p3 : (Option Addr)) (n4 : Nat) : List Value → Pg :=
  fun l6 => asCons l6 fun v7 l8 => asInt .i64 v7 fun i9 => asCons l8 fun v10 l11 => asBool v10 fun b12 => asNil l11 (bif (decide (i9 < ((n1 : Nat) : Int))) then (.join (asSome p0 fun a13 => grd ((decide (0 ≤ i9)) && (decide (i9 < ((n1 : Nat) : Int)))) (.act (ld1 (aadd a13 ((Int.toNat i9) * 1))) fun v14 => asInt .i64 v14 fun i15 => asSome p3 fun a16 => grd ((decide (0 ≤ i9)) && (decide (i9 < ((n4 : Nat) : Int)))) (.act (ld1 (aadd a16 ((Int.toNat i9) * 1))) fun v17 => asInt .i64 v17 fun i18 => bif (i15 != i18) then (.ret .ret [(.bool false)]) else (.ret .normal [(.bool b12)])))) (T28k0 i9)) else (.ret (.exit 0) [(.int .i64 i9), (.bool b12)]))

noncomputable def T28k1 : Ex → List Value → Pg :=
  fun e27 l28 => sw e27 (.exit 0) (asCons l28 fun v29 l30 => asInt .i64 v29 fun i31 => asCons l30 fun v32 l33 => asBool v32 fun b34 => asNil l33 (.ret .ret [(.bool true)])) (sw e27 .ret (asCons l28 fun v35 l36 => asInt .i64 v35 fun i37 => asCons l36 fun v38 l39 => asBool v38 fun b40 => asNil l39 (.ret .ret [(.bool b40)])) (.fail))

/-- hindsight/hindsightlaw22.counts -/
noncomputable def T28 (p0 : (Option Addr)) (n1 : Nat) (n2 : Nat) (p3 : (Option Addr)) (n4 : Nat) (n5 : Nat) : Pg :=
  bif (((n1 : Nat) : Int) != ((n4 : Nat) : Int)) then (.ret .ret [(.bool false)]) else (.loop [(.int .i64 0), (.bool false)] (T28b0 n1 p0 p3 n4) (T28k1))
theorem T28_eq (p0 : (Option Addr)) (n1 : Nat) (n2 : Nat) (p3 : (Option Addr)) (n4 : Nat) (n5 : Nat) : progOf PROG false 28 [(.slice p0 n1 n2), (.slice p3 n4 n5)] = T28 p0 n1 n2 p3 n4 n5 := by kernel_rfl

/-- (*hindsight/keep.Keeper).Kept -/
noncomputable def T29 (p0 : (Option Addr)) : Pg :=
  asSome p0 fun a1 => .act (ld1 (aadd a1 2)) fun v2 => asSlice v2 fun p3 n4 n5 => .call 36 [(.slice p3 n4 n5)] fun v6 => asSlice v6 fun p7 n8 n9 => .ret .ret [(.slice p7 n8 n9)]
theorem T29_eq (p0 : (Option Addr)) : progOf PROG false 29 [(.pointer p0)] = T29 p0 := by kernel_rfl

noncomputable def T30k0 : Ex → List Value → Pg :=
  fun e17 l18 => sw e17 .normal (asCons l18 fun v19 l20 => asInt .i64 v19 fun i21 => asNil l20 (.ret .normal [(.int .i64 i21)])) (.fail)

noncomputable def T30k1 (i10 : Int) : Ex → List Value → Pg :=
  fun e22 l23 => sw e22 .normal (asCons l23 fun v24 l25 => asInt .i64 v24 fun i26 => asNil l25 (.ret .normal [(.int .i64 (wi64 (i10 + 1))), (.int .i64 i26)])) (.fail)

noncomputable def T30b0 (n5 : Nat) (p4 : (Option Addr)) (i1 : Int) : List Value → Pg :=
  fun l7 => asCons l7 fun v8 l9 => asInt .i64 v8 fun i10 => asCons l9 fun v11 l12 => asInt .i64 v11 fun i13 => asNil l12 (bif (decide (i10 < ((n5 : Nat) : Int))) then (.join (asSome p4 fun a14 => grd ((decide (0 ≤ i10)) && (decide (i10 < ((n5 : Nat) : Int)))) (.act (ld1 (aadd a14 ((Int.toNat i10) * 1))) fun v15 => asInt .i64 v15 fun i16 => .join (bif (decide (i16 ≤ i1)) then (.ret .normal [(.int .i64 i16)]) else (.ret .normal [(.int .i64 i13)])) (T30k0))) (T30k1 i10)) else (.ret (.exit 0) [(.int .i64 i10), (.int .i64 i13)]))

noncomputable def T30k2 : Ex → List Value → Pg :=
  fun e27 l28 => sw e27 (.exit 0) (asCons l28 fun v29 l30 => asInt .i64 v29 fun i31 => asCons l30 fun v32 l33 => asInt .i64 v32 fun i34 => asNil l33 (.ret .ret [(.int .i64 i34)])) (.fail)

/-- (*hindsight/keep.Keeper).Before -/
noncomputable def T30 (p0 : (Option Addr)) (i1 : Int) : Pg :=
  asSome p0 fun a2 => .act (ld1 (aadd a2 2)) fun v3 => asSlice v3 fun p4 n5 n6 => .loop [(.int .i64 0), (.int .i64 0)] (T30b0 n5 p4 i1) (T30k2)
theorem T30_eq (p0 : (Option Addr)) (i1 : Int) : progOf PROG false 30 [(.pointer p0), (.int .i64 i1)] = T30 p0 i1 := by kernel_rfl

noncomputable def T31k0 : Ex → List Value → Pg :=
  fun e30 l31 => sw e30 .normal (asCons l31 fun v32 l33 => asInt .i64 v32 fun i34 => asNil l33 (.ret .normal [(.int .i64 i34)])) (.fail)

noncomputable def T31k1 (i5 : Int) : Ex → List Value → Pg :=
  fun e35 l36 => sw e35 .normal (asCons l36 fun v37 l38 => asInt .i64 v37 fun i39 => asNil l38 (.ret .normal [(.int .i64 (wi64 (i5 + 1))), (.int .i64 i39)])) (.fail)

noncomputable def T31b0 (p0 : (Option Addr)) (i1 : Int) : List Value → Pg :=
  fun l2 => asCons l2 fun v3 l4 => asInt .i64 v3 fun i5 => asCons l4 fun v6 l7 => asInt .i64 v6 fun i8 => asNil l7 (asSome p0 fun a9 => .act (ld1 (aadd a9 2)) fun v10 => asSlice v10 fun p11 n12 n13 => bif (decide (i5 < ((n12 : Nat) : Int))) then (.join (asSome p0 fun a14 => .act (ld1 (aadd a14 2)) fun v15 => asSlice v15 fun p16 n17 n18 => asSome p16 fun a19 => grd ((decide (0 ≤ i5)) && (decide (i5 < ((n17 : Nat) : Int)))) (.act (ld1 (aadd a19 ((Int.toNat i5) * 1))) fun v20 => asInt .i64 v20 fun i21 => .join (bif (decide (i21 ≤ i1)) then (asSome p0 fun a22 => .act (ld1 (aadd a22 2)) fun v23 => asSlice v23 fun p24 n25 n26 => asSome p24 fun a27 => grd ((decide (0 ≤ i5)) && (decide (i5 < ((n25 : Nat) : Int)))) (.act (ld1 (aadd a27 ((Int.toNat i5) * 1))) fun v28 => asInt .i64 v28 fun i29 => .ret .normal [(.int .i64 i29)])) else (.ret .normal [(.int .i64 i8)])) (T31k0))) (T31k1 i5)) else (.ret (.exit 0) [(.int .i64 i5), (.int .i64 i8)]))

noncomputable def T31k2 : Ex → List Value → Pg :=
  fun e40 l41 => sw e40 (.exit 0) (asCons l41 fun v42 l43 => asInt .i64 v42 fun i44 => asCons l43 fun v45 l46 => asInt .i64 v45 fun i47 => asNil l46 (.ret .ret [(.int .i64 i47)])) (.fail)

/-- (*hindsight/hindsightref11.Keeper).Before -/
noncomputable def T31 (p0 : (Option Addr)) (i1 : Int) : Pg :=
  .loop [(.int .i64 0), (.int .i64 0)] (T31b0 p0 i1) (T31k2)
theorem T31_eq (p0 : (Option Addr)) (i1 : Int) : progOf PROG false 31 [(.pointer p0), (.int .i64 i1)] = T31 p0 i1 := by kernel_rfl

noncomputable def T32k0 (i4 : Int) : Ex → List Value → Pg :=
  fun e29 l30 => sw e29 .normal (asCons l30 fun v31 l32 => asInt .i64 v31 fun i33 => asNil l32 (.ret .normal [(.int .i64 (wi64 (i4 + 1))), (.int .i64 i33)])) (.fail)

noncomputable def T32b0 (p0 : (Option Addr)) : List Value → Pg :=
  fun l1 => asCons l1 fun v2 l3 => asInt .i64 v2 fun i4 => asCons l3 fun v5 l6 => asInt .i64 v5 fun i7 => asNil l6 (asSome p0 fun a8 => .act (ld1 (aadd a8 2)) fun v9 => asSlice v9 fun p10 n11 n12 => bif (decide (i4 < ((n11 : Nat) : Int))) then (.join (asSome p0 fun a13 => .act (ld1 (aadd a13 2)) fun v14 => asSlice v14 fun p15 n16 n17 => asSome p15 fun a18 => grd ((decide (0 ≤ i4)) && (decide (i4 < ((n16 : Nat) : Int)))) (.act (ld1 (aadd a18 ((Int.toNat i4) * 1))) fun v19 => asInt .i64 v19 fun i20 => asSome p0 fun a21 => .act (ld1 (aadd a21 2)) fun v22 => asSlice v22 fun p23 n24 n25 => asSome p23 fun a26 => grd ((decide (0 ≤ (wi64 (i4 - 1)))) && (decide ((wi64 (i4 - 1)) < ((n24 : Nat) : Int)))) (.act (ld1 (aadd a26 ((Int.toNat (wi64 (i4 - 1))) * 1))) fun v27 => asInt .i64 v27 fun i28 => .ret .normal [(.int .i64 (maxV i7 (wi64 (i20 - i28))))]))) (T32k0 i4)) else (.ret (.exit 0) [(.int .i64 i4), (.int .i64 i7)]))

noncomputable def T32k1 : Ex → List Value → Pg :=
  fun e34 l35 => sw e34 (.exit 0) (asCons l35 fun v36 l37 => asInt .i64 v36 fun i38 => asCons l37 fun v39 l40 => asInt .i64 v39 fun i41 => asNil l40 (.ret .ret [(.int .i64 i41)])) (.fail)

/-- (*hindsight/keep.Keeper).Gap -/
noncomputable def T32 (p0 : (Option Addr)) : Pg :=
  .loop [(.int .i64 1), (.int .i64 0)] (T32b0 p0) (T32k1)
theorem T32_eq (p0 : (Option Addr)) : progOf PROG false 32 [(.pointer p0)] = T32 p0 := by kernel_rfl

noncomputable def T33k0 : Ex → List Value → Pg :=
  fun e45 l46 => sw e45 .normal (asCons l46 fun v47 l48 => asInt .i64 v47 fun i49 => asNil l48 (.ret .normal [(.int .i64 i49)])) (.fail)

noncomputable def T33k1 (i4 : Int) : Ex → List Value → Pg :=
  fun e50 l51 => sw e50 .normal (asCons l51 fun v52 l53 => asInt .i64 v52 fun i54 => asNil l53 (.ret .normal [(.int .i64 (wi64 (i4 + 1))), (.int .i64 i54)])) (.fail)

noncomputable def T33b0 (p0 : (Option Addr)) : List Value → Pg :=
  fun l1 => asCons l1 fun v2 l3 => asInt .i64 v2 fun i4 => asCons l3 fun v5 l6 => asInt .i64 v5 fun i7 => asNil l6 (asSome p0 fun a8 => .act (ld1 (aadd a8 2)) fun v9 => asSlice v9 fun p10 n11 n12 => bif (decide (i4 < ((n11 : Nat) : Int))) then (.join (asSome p0 fun a13 => .act (ld1 (aadd a13 2)) fun v14 => asSlice v14 fun p15 n16 n17 => asSome p15 fun a18 => grd ((decide (0 ≤ i4)) && (decide (i4 < ((n16 : Nat) : Int)))) (.act (ld1 (aadd a18 ((Int.toNat i4) * 1))) fun v19 => asInt .i64 v19 fun i20 => asSome p0 fun a21 => .act (ld1 (aadd a21 2)) fun v22 => asSlice v22 fun p23 n24 n25 => asSome p23 fun a26 => grd ((decide (0 ≤ (wi64 (i4 - 1)))) && (decide ((wi64 (i4 - 1)) < ((n24 : Nat) : Int)))) (.act (ld1 (aadd a26 ((Int.toNat (wi64 (i4 - 1))) * 1))) fun v27 => asInt .i64 v27 fun i28 => .join (bif (decide ((wi64 (i20 - i28)) > i7)) then (asSome p0 fun a29 => .act (ld1 (aadd a29 2)) fun v30 => asSlice v30 fun p31 n32 n33 => asSome p31 fun a34 => grd ((decide (0 ≤ i4)) && (decide (i4 < ((n32 : Nat) : Int)))) (.act (ld1 (aadd a34 ((Int.toNat i4) * 1))) fun v35 => asInt .i64 v35 fun i36 => asSome p0 fun a37 => .act (ld1 (aadd a37 2)) fun v38 => asSlice v38 fun p39 n40 n41 => asSome p39 fun a42 => grd ((decide (0 ≤ (wi64 (i4 - 1)))) && (decide ((wi64 (i4 - 1)) < ((n40 : Nat) : Int)))) (.act (ld1 (aadd a42 ((Int.toNat (wi64 (i4 - 1))) * 1))) fun v43 => asInt .i64 v43 fun i44 => .ret .normal [(.int .i64 (wi64 (i36 - i44)))]))) else (.ret .normal [(.int .i64 i7)])) (T33k0)))) (T33k1 i4)) else (.ret (.exit 0) [(.int .i64 i4), (.int .i64 i7)]))

noncomputable def T33k2 : Ex → List Value → Pg :=
  fun e55 l56 => sw e55 (.exit 0) (asCons l56 fun v57 l58 => asInt .i64 v57 fun i59 => asCons l58 fun v60 l61 => asInt .i64 v60 fun i62 => asNil l61 (.ret .ret [(.int .i64 i62)])) (.fail)

/-- (*hindsight/hindsightref11.Keeper).Gap -/
noncomputable def T33 (p0 : (Option Addr)) : Pg :=
  .loop [(.int .i64 1), (.int .i64 0)] (T33b0 p0) (T33k2)
theorem T33_eq (p0 : (Option Addr)) : progOf PROG false 33 [(.pointer p0)] = T33 p0 := by kernel_rfl

/-- (*hindsight/keep.Keeper).newest -/
noncomputable def T34 (p0 : (Option Addr)) : Pg :=
  asSome p0 fun a1 => .act (ld1 (aadd a1 2)) fun v2 => asSlice v2 fun p3 n4 n5 => asSome p0 fun a6 => .act (ld1 (aadd a6 2)) fun v7 => asSlice v7 fun p8 n9 n10 => asSome p3 fun a11 => grd ((decide (0 ≤ (wi64 (((n9 : Nat) : Int) - 1)))) && (decide ((wi64 (((n9 : Nat) : Int) - 1)) < ((n4 : Nat) : Int)))) (.act (ld1 (aadd a11 ((Int.toNat (wi64 (((n9 : Nat) : Int) - 1))) * 1))) fun v12 => asInt .i64 v12 fun i13 => .ret .ret [(.int .i64 i13)])
theorem T34_eq (p0 : (Option Addr)) : progOf PROG false 34 [(.pointer p0)] = T34 p0 := by kernel_rfl

/-- slices.Delete[[]int64,int64] -/
noncomputable def T35 (p0 : (Option Addr)) (n1 : Nat) (n2 : Nat) (i3 : Int) (i4 : Int) : Pg :=
  grd (((((decide (0 ≤ i3)) && (decide (i3 ≤ i4))) && (decide (i4 ≤ ((n1 : Nat) : Int)))) && (decide (((n1 : Nat) : Int) ≤ ((n2 : Nat) : Int)))) && ((mayCut p0 1) || (decide (i3 = 0)))) (bif (i3 == i4) then (.ret .ret [(.slice p0 n1 n2)]) else (grd ((((decide (0 ≤ i3)) && (decide (i3 ≤ ((n2 : Nat) : Int)))) && (decide (((n2 : Nat) : Int) ≤ ((n2 : Nat) : Int)))) && ((mayCut p0 1) || true)) (grd (((((decide (0 ≤ i4)) && (decide (i4 ≤ ((n1 : Nat) : Int)))) && (decide (((n1 : Nat) : Int) ≤ ((n2 : Nat) : Int)))) && (decide (((n2 : Nat) : Int) ≤ ((n2 : Nat) : Int)))) && ((mayCut p0 1) || (decide (i4 = 0)))) (.act (apS 1 8 p0 (Int.toNat i3) n2 (cutS p0 ((Int.toNat i4) * 1)) (n1 - (Int.toNat i4)) (n2 - (Int.toNat i4))) fun v5 => asSlice v5 fun p6 n7 n8 => grd ((((decide (((n7 : Nat) : Int) ≤ ((n1 : Nat) : Int))) && (decide (((n1 : Nat) : Int) ≤ ((n8 : Nat) : Int)))) && (decide (((n8 : Nat) : Int) ≤ ((n8 : Nat) : Int)))) && ((mayCut p6 1) || (decide (((n7 : Nat) : Int) = 0)))) (.act (clr [(.int .i64 0)] (cutS p6 (n7 * 1)) (n1 - n7)) fun v9 => asTuple v9 fun l10 => asNil l10 (.ret .ret [(.slice p6 n7 n8)]))))))
theorem T35_eq (p0 : (Option Addr)) (n1 : Nat) (n2 : Nat) (i3 : Int) (i4 : Int) : progOf PROG false 35 [(.slice p0 n1 n2), (.int .i64 i3), (.int .i64 i4)] = T35 p0 n1 n2 i3 i4 := by kernel_rfl

/-- slices.Clone[[]int64,int64] -/
noncomputable def T36 (p0 : (Option Addr)) (n1 : Nat) (n2 : Nat) : Pg :=
  bif (Option.isNone p0) then (.ret .ret [(.slice none 0 0)]) else (.act (bdSl 1 0 []) fun v3 => asSlice v3 fun p4 n5 n6 => .act (apS 1 8 p4 n5 n6 p0 n1 n2) fun v7 => asSlice v7 fun p8 n9 n10 => .ret .ret [(.slice p8 n9 n10)])
theorem T36_eq (p0 : (Option Addr)) (n1 : Nat) (n2 : Nat) : progOf PROG false 36 [(.slice p0 n1 n2)] = T36 p0 n1 n2 := by kernel_rfl

end Go.Pg
