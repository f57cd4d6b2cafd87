/- The trees of the functions that the law reaches, written out by program; each is shown to be the function's own; then their table. -/
import Derived.Test.YtbhkeboldklodaaProg
import Derived.KernelRfl
import Derived.Test.YtbhkeboldklodaaPg2
namespace Go.Pg
open Go.Proofs
set_option linter.unusedVariables false
noncomputable abbrev PROG : Program := Try.prog

/-- hindsight/word.Num -/
noncomputable def T9 (i0 : Int) : Pg :=
  .ret .ret [(.int .u64 (orI .u64 (shlI .u64 (wu64 i0) 1) 1))]
theorem T9_eq (i0 : Int) : progOf PROG false 9 [(.int .i64 i0)] = T9 i0 := by kernel_rfl


noncomputable def T18k0 : Ex → List Value → Pg :=
  fun e72 l73 => sw e72 .normal (asCons l73 fun v74 l75 => asBool v74 fun b76 => asNil l75 (.ret .ret [(.bool b76)])) (.fail)

/-- hindsight/hindsightlaw12.awake -/
noncomputable def T18 : Pg :=
  .call 19 [(.int .i64 100)] fun v0 => asTuple v0 fun l1 => asCons l1 fun v2 l3 => asPtr v2 fun p4 => asCons l3 fun v5 l6 => asInt .i64 v5 fun i7 => asNil l6 (bif ((i7 != 0) || (Option.isNone p4)) then (.ret .ret [(.bool false)]) else (.call 9 [(.int .i64 5)] fun v8 => asInt .u64 v8 fun i9 => .act (bdSl 1 1 [(.int .u64 i9)]) fun v10 => asSlice v10 fun p11 n12 n13 => .call 20 [(.pointer p4), (.int .i64 1), (.int .i64 7), (.slice p11 n12 n13)] fun v14 => asTuple v14 fun l15 => asCons l15 fun v16 l17 => asInt .u64 v16 fun i18 => asCons l17 fun v19 l20 => asInt .i64 v19 fun i21 => asNil l20 (.call 9 [(.int .i64 6)] fun v22 => asInt .u64 v22 fun i23 => .call 9 [(.int .i64 7)] fun v24 => asInt .u64 v24 fun i25 => .act (bdSl 1 2 [(.int .u64 i23), (.int .u64 i25)]) fun v26 => asSlice v26 fun p27 n28 n29 => .call 20 [(.pointer p4), (.int .i64 1), (.int .i64 8), (.slice p27 n28 n29)] fun v30 => asTuple v30 fun l31 => asCons l31 fun v32 l33 => asInt .u64 v32 fun i34 => asCons l33 fun v35 l36 => asInt .i64 v35 fun i37 => asNil l36 (.act (bdSl 1 1 [(.int .u64 i34)]) fun v38 => asSlice v38 fun p39 n40 n41 => .call 24 [(.pointer p4), (.slice p39 n40 n41)] fun v42 => asSlice v42 fun p43 n44 n45 => .call 21 [(.int .i64 0)] fun v46 => asInt .u64 v46 fun i47 => .call 23 [(.pointer p4), (.int .u64 i47), (.int .i64 1)] fun v48 => asTuple v48 fun l49 => asCons l49 fun v50 l51 => asInt .u64 v50 fun i52 => asCons l51 fun v53 l54 => asInt .i64 v53 fun i55 => asNil l54 (.join (bif (i21 == 0) == true then (bif (i37 == 0) == true then (.call 21 [(.int .i64 0)] fun v56 => asInt .u64 v56 fun i57 => bif (i18 == i57) == true then (.call 21 [(.int .i64 2)] fun v58 => asInt .u64 v58 fun i59 => bif (i34 == i59) == true then (bif (((n44 : Nat) : Int) == 1) == true then (asSome p43 fun a60 => grd (decide (0 < ((n44 : Nat) : Int))) (.act (ld1 (aadd a60 0)) fun v61 => asInt .u64 v61 fun i62 => .call 21 [(.int .i64 0)] fun v63 => asInt .u64 v63 fun i64 => .get fun h71 => grd (chks [((ld1 (aadd a60 0)), v61)] h71) (bif (i62 == i64) == true then (bif (i55 == 0) == true then (.call 9 [(.int .i64 7)] fun v65 => asInt .u64 v65 fun i66 => bif (i52 == i66) == true then (.call 36 [(.pointer p4)] fun v67 => asInt .i64 v67 fun i68 => bif (i68 == 3) == true then (.call 37 [(.pointer p4)] fun v69 => asInt .i64 v69 fun i70 => .ret .normal [(.bool (i70 == 1))]) else (.ret .normal [(.bool false)])) else (.ret .normal [(.bool false)])) else (.ret .normal [(.bool false)])) else (.ret .normal [(.bool false)])))) else (.ret .normal [(.bool false)])) else (.ret .normal [(.bool false)])) else (.ret .normal [(.bool false)])) else (.ret .normal [(.bool false)])) else (.ret .normal [(.bool false)])) (T18k0))))))
theorem T18_eq : progOf PROG false 18 [] = T18 := by kernel_rfl


/-- hindsight/heap.New -/
noncomputable def T19 (i0 : Int) : Pg :=
  bif ((decide (i0 < 16)) || (decide (i0 > 65536))) then (.ret .ret [(.tuple #[(.pointer none), (.int .i64 1)])]) else (.act (newC [(.int .i64 i0), (.int .i64 0), (.slice none 0 0), (.slice none 0 0)]) fun v1 => asPtr v1 fun p2 => asSome p2 fun a3 => .ret .ret [(.tuple #[(.pointer (some a3)), (.int .i64 0)])])
theorem T19_eq (i0 : Int) : progOf PROG false 19 [(.int .i64 i0)] = T19 i0 := by kernel_rfl


noncomputable def T20k0 (a8 : Addr) (n4 : Nat) (i13 : Int) (p3 : (Option Addr)) (n5 : Nat) : Ex → List Value → Pg :=
  fun e19 l20 => sw e19 .normal (asCons l20 fun v21 l22 => asBool v21 fun b23 => asNil l22 (bif b23 then (.ret .ret [(.tuple #[(.int .u64 0), (.int .i64 1)])]) else (.act (ld1 a8) fun v24 => asPtr v24 fun p25 => .call 42 [(.pointer p25), (.int .i64 ((n4 : Nat) : Int))] fun v26 => asBool v26 fun b27 => bif (!b27) then (.ret .ret [(.tuple #[(.int .u64 0), (.int .i64 8)])]) else (.act (ld1 a8) fun v28 => asPtr v28 fun p29 => .call 43 [(.pointer p29), (.int .u64 i13), (.slice p3 n4 n5)] fun v30 => asInt .u64 v30 fun i31 => .ret .ret [(.tuple #[(.int .u64 i31), (.int .i64 0)])])))) (.fail)

/-- (*hindsight/heap.Heap).Make -/
noncomputable def T20 (p0 : (Option Addr)) (i1 : Int) (i2 : Int) (p3 : (Option Addr)) (n4 : Nat) (n5 : Nat) : Pg :=
  .act (newC [(.pointer p0)]) fun v6 => asPtr v6 fun p7 => asSome p7 fun a8 => .call 38 [(.int .i64 i1), (.int .i64 i2), (.int .i64 ((n4 : Nat) : Int))] fun v9 => asTuple v9 fun l10 => asCons l10 fun v11 l12 => asInt .u64 v11 fun i13 => asCons l12 fun v14 l15 => asBool v14 fun b16 => asNil l15 (.join (bif (!b16) == false then (.call 39 [(.slice p3 n4 n5), (.func (.func 40) #[] #[(.pointer (some a8))])] fun v17 => asBool v17 fun b18 => .ret .normal [(.bool b18)]) else (.ret .normal [(.bool true)])) (T20k0 a8 n4 i13 p3 n5))
theorem T20_eq (p0 : (Option Addr)) (i1 : Int) (i2 : Int) (p3 : (Option Addr)) (n4 : Nat) (n5 : Nat) : progOf PROG false 20 [(.pointer p0), (.int .i64 i1), (.int .i64 i2), (.slice p3 n4 n5)] = T20 p0 i1 i2 p3 n4 n5 := by kernel_rfl


/-- hindsight/word.Ptr -/
noncomputable def T21 (i0 : Int) : Pg :=
  .ret .ret [(.int .u64 (shlI .u64 (wu64 (minV (maxV i0 0) 2147483647)) 1))]
theorem T21_eq (i0 : Int) : progOf PROG false 21 [(.int .i64 i0)] = T21 i0 := by kernel_rfl


noncomputable def T22k0 (p8 : (Option Addr)) (i3 : Int) : Ex → List Value → Pg :=
  fun e14 l15 => sw e14 .ret (asCons l15 fun v16 l17 => asInt .i64 v16 fun i18 => asNil l17 (.ret .ret [(.int .i64 i18)])) (sw e14 .normal (asCons l15 fun v19 l20 => asInt .i64 v19 fun i21 => asNil l20 (asSome p8 fun a22 => .act (stC a22 [(.int .u64 i3)]) fun v23 => asTuple v23 fun l24 => asNil l24 (.ret .ret [(.int .i64 0)]))) (.fail))

/-- (*hindsight/heap.Heap).Set -/
noncomputable def T22 (p0 : (Option Addr)) (i1 : Int) (i2 : Int) (i3 : Int) : Pg :=
  .call 44 [(.pointer p0), (.int .u64 i1), (.int .i64 i2)] fun v4 => asTuple v4 fun l5 => asCons l5 fun v6 l7 => asPtr v6 fun p8 => asCons l7 fun v9 l10 => asInt .i64 v9 fun i11 => asNil l10 (.join (bif (i11 != 0) then (.ret .ret [(.int .i64 i11)]) else (.call 41 [(.pointer p0), (.int .u64 i3)] fun v12 => asBool v12 fun b13 => bif (!b13) then (.ret .ret [(.int .i64 1)]) else (.ret .normal [(.int .i64 0)]))) (T22k0 p8 i3))
theorem T22_eq (p0 : (Option Addr)) (i1 : Int) (i2 : Int) (i3 : Int) : progOf PROG false 22 [(.pointer p0), (.int .u64 i1), (.int .i64 i2), (.int .u64 i3)] = T22 p0 i1 i2 i3 := by kernel_rfl


/-- (*hindsight/heap.Heap).Get -/
noncomputable def T23 (p0 : (Option Addr)) (i1 : Int) (i2 : Int) : Pg :=
  .call 44 [(.pointer p0), (.int .u64 i1), (.int .i64 i2)] fun v3 => asTuple v3 fun l4 => asCons l4 fun v5 l6 => asPtr v5 fun p7 => asCons l6 fun v8 l9 => asInt .i64 v8 fun i10 => asNil l9 (bif (i10 != 0) then (.ret .ret [(.tuple #[(.int .u64 0), (.int .i64 i10)])]) else (asSome p7 fun a11 => .act (ld1 a11) fun v12 => asInt .u64 v12 fun i13 => .ret .ret [(.tuple #[(.int .u64 i13), (.int .i64 0)])]))
theorem T23_eq (p0 : (Option Addr)) (i1 : Int) (i2 : Int) : progOf PROG false 23 [(.pointer p0), (.int .u64 i1), (.int .i64 i2)] = T23 p0 i1 i2 := by kernel_rfl


noncomputable def T24k0 (i28 : Int) : Ex → List Value → Pg :=
  fun e47 l48 => sw e47 .normal (asCons l48 fun v49 l50 => asSlice v49 fun p51 n52 n53 => asNil l50 (.ret .normal [(.int .i64 (wi64 (i28 + 1))), (.slice p51 n52 n53)])) (.fail)

noncomputable def T24b0 (n2 : Nat) (p1 : (Option Addr)) (a24 : Addr) : List Value → Pg :=
  fun l25 => asCons l25 fun v26 l27 => asInt .i64 v26 fun i28 => asCons l27 fun v29 l30 => asSlice v29 fun p31 n32 n33 => asNil l30 (bif (decide (i28 < ((n2 : Nat) : Int))) then (.join (asSome p1 fun a34 => grd ((decide (0 ≤ i28)) && (decide (i28 < ((n2 : Nat) : Int)))) (.act (ld1 (aadd a34 ((Int.toNat i28) * 1))) fun v35 => asInt .u64 v35 fun i36 => .call 45 [(.pointer (some a24)), (.int .u64 i36)] fun v37 => asInt .u64 v37 fun i38 => .act (bdSl 1 1 [(.int .u64 i38)]) fun v39 => asSlice v39 fun p40 n41 n42 => .act (apS 1 8 p31 n32 n33 p40 n41 n42) fun v43 => asSlice v43 fun p44 n45 n46 => .ret .normal [(.slice p44 n45 n46)])) (T24k0 i28)) else (.ret (.exit 0) [(.int .i64 i28), (.slice p31 n32 n33)]))

noncomputable def T24k1 : Ex → List Value → Pg :=
  fun e107 l108 => sw e107 .normal (asNil l108 (.ret .normal [])) (.fail)

noncomputable def T24k2 (i67 : Int) : Ex → List Value → Pg :=
  fun e109 l110 => sw e109 .normal (asNil l110 (.ret .normal [(.int .i64 (wi64 (i67 + 1)))])) (.fail)

noncomputable def T24b1 (a24 : Addr) : List Value → Pg :=
  fun l64 => asCons l64 fun v65 l66 => asInt .i64 v65 fun i67 => asNil l66 (.act (ld1 (aadd a24 1)) fun v68 => asPtr v68 fun p69 => asSome p69 fun a70 => .act (ld1 (aadd a70 2)) fun v71 => asSlice v71 fun p72 n73 n74 => bif (decide (i67 < ((n73 : Nat) : Int))) then (.join (.act (ld1 (aadd a24 1)) fun v75 => asPtr v75 fun p76 => asSome p76 fun a77 => .act (ld1 (aadd a77 3)) fun v78 => asSlice v78 fun p79 n80 n81 => asSome p79 fun a82 => grd ((decide (0 ≤ i67)) && (decide (i67 < ((n80 : Nat) : Int)))) (.act (ld1 (aadd a82 ((Int.toNat i67) * 1))) fun v83 => asBool v83 fun b84 => .join (bif (!b84) then (.act (ld1 (aadd a24 1)) fun v85 => asPtr v85 fun p86 => asSome p86 fun a87 => .act (ld1 (aadd a87 2)) fun v88 => asSlice v88 fun p89 n90 n91 => asSome p89 fun a92 => grd ((decide (0 ≤ i67)) && (decide (i67 < ((n90 : Nat) : Int)))) (.act (ld1 (aadd a92 ((Int.toNat i67) * 1))) fun v93 => asInt .u64 v93 fun i94 => .call 45 [(.pointer (some a24)), (.int .u64 i94)] fun v95 => asInt .u64 v95 fun i96 => .act (ld1 (aadd a24 1)) fun v97 => asPtr v97 fun p98 => asSome p98 fun a99 => .act (ld1 (aadd a99 2)) fun v100 => asSlice v100 fun p101 n102 n103 => asSome p101 fun a104 => grd ((decide (0 ≤ i67)) && (decide (i67 < ((n102 : Nat) : Int)))) (.act (stC (aadd a104 ((Int.toNat i67) * 1)) [(.int .u64 i96)]) fun v105 => asTuple v105 fun l106 => asNil l106 (.ret .normal [])))) else (.ret .normal [])) (T24k1))) (T24k2 i67)) else (.ret (.exit 2) [(.int .i64 i67)]))

noncomputable def T24k3 (a24 : Addr) (p0 : (Option Addr)) (p61 : (Option Addr)) (n62 : Nat) (n63 : Nat) : Ex → List Value → Pg :=
  fun e111 l112 => sw e111 (.exit 2) (asCons l112 fun v113 l114 => asInt .i64 v113 fun i115 => asNil l114 (.act (ld1 (aadd a24 1)) fun v116 => asPtr v116 fun p117 => asSome p117 fun a118 => .act (ldN 4 a118) fun v119 => asAgg v119 fun l120 => asCons l120 fun v121 l122 => asInt .i64 v121 fun i123 => asCons l122 fun v124 l125 => asInt .i64 v124 fun i126 => asCons l125 fun v127 l128 => asSlice v127 fun p129 n130 n131 => asCons l128 fun v132 l133 => asSlice v132 fun p134 n135 n136 => asNil l133 (asSome p0 fun a137 => .act (stC a137 [(.int .i64 i123), (.int .i64 i126), (.slice p129 n130 n131), (.slice p134 n135 n136)]) fun v138 => asTuple v138 fun l139 => asNil l139 (.ret .ret [(.slice p61 n62 n63)])))) (.fail)

noncomputable def T24k4 (a24 : Addr) (p0 : (Option Addr)) : Ex → List Value → Pg :=
  fun e54 l55 => sw e54 (.exit 0) (asCons l55 fun v56 l57 => asInt .i64 v56 fun i58 => asCons l57 fun v59 l60 => asSlice v59 fun p61 n62 n63 => asNil l60 (.loop [(.int .i64 0)] (T24b1 a24) (T24k3 a24 p0 p61 n62 n63))) (.fail)

/-- (*hindsight/heap.Heap).Collect -/
noncomputable def T24 (p0 : (Option Addr)) (p1 : (Option Addr)) (n2 : Nat) (n3 : Nat) : Pg :=
  .get fun h4 => asSome p0 fun a5 => .act (ld1 (aadd a5 0)) fun v6 => asInt .i64 v6 fun i7 => asSome p0 fun a8 => .act (ld1 (aadd a8 1)) fun v9 => asInt .i64 v9 fun i10 => .get fun h12 => grd (newN h4.n h12 []) (.act (newC [(.int .i64 i7), (.int .i64 (wi64 (i10 + 1))), (.slice none 0 0), (.slice none 0 0)]) fun v11 => asPtr v11 fun p14 => asSome p14 fun a15 => .get fun h13 => .get fun h17 => grd (newN h4.n h17 [h12.n]) (.act makeMapAct fun v16 => asMap v16 fun m19 => .get fun h18 => .get fun h21 => grd (newN h4.n h21 [h17.n, h12.n]) (.act (newC [(.pointer p0), (.pointer (some a15)), (.map m19)]) fun v20 => asPtr v20 fun p23 => asSome p23 fun a24 => .get fun h22 => .loop [(.int .i64 0), (.slice none 0 0)] (T24b0 n2 p1 a24) (T24k4 a24 p0))))
theorem T24_eq (p0 : (Option Addr)) (p1 : (Option Addr)) (n2 : Nat) (n3 : Nat) : progOf PROG false 24 [(.pointer p0), (.slice p1 n2 n3)] = T24 p0 p1 n2 n3 := by kernel_rfl


/-- (*hindsight/heap.Heap).Head -/
noncomputable def T25 (p0 : (Option Addr)) (i1 : Int) : Pg :=
  .call 46 [(.pointer p0), (.int .u64 i1)] fun v2 => asTuple v2 fun l3 => asCons l3 fun v4 l5 => asInt .i64 v4 fun i6 => asCons l5 fun v7 l8 => asBool v7 fun b9 => asNil l8 (bif (!b9) then (.ret .ret [(.tuple #[(.int .i64 0), (.int .i64 0), (.int .i64 0), (.int .i64 4)])]) else (asSome p0 fun a10 => .act (ld1 (aadd a10 2)) fun v11 => asSlice v11 fun p12 n13 n14 => asSome p12 fun a15 => grd ((decide (0 ≤ i6)) && (decide (i6 < ((n13 : Nat) : Int)))) (.act (ld1 (aadd a15 ((Int.toNat i6) * 1))) fun v16 => asInt .u64 v16 fun i17 => .call 47 [(.int .u64 i17)] fun v18 => asTuple v18 fun l19 => asCons l19 fun v20 l21 => asInt .i64 v20 fun i22 => asCons l21 fun v23 l24 => asInt .i64 v23 fun i25 => asCons l24 fun v26 l27 => asInt .i64 v26 fun i28 => asCons l27 fun v29 l30 => asBool v29 fun b31 => asNil l30 (.ret .ret [(.tuple #[(.int .i64 i22), (.int .i64 i25), (.int .i64 i28), (.int .i64 0)])]))))
theorem T25_eq (p0 : (Option Addr)) (i1 : Int) : progOf PROG false 25 [(.pointer p0), (.int .u64 i1)] = T25 p0 i1 := by kernel_rfl


noncomputable def T26k0 (n27 : Nat) (n28 : Nat) (p26 : (Option Addr)) : Ex → List Value → Pg :=
  fun e44 l45 => sw e44 .normal (asCons l45 fun v46 l47 => asSlice v46 fun p48 n49 n50 => asNil l47 (grd ((((decide (8 ≤ ((n27 : Nat) : Int))) && (decide (((n27 : Nat) : Int) ≤ ((n28 : Nat) : Int)))) && (decide (((n28 : Nat) : Int) ≤ ((n28 : Nat) : Int)))) && ((mayCut p26 1) || false)) (.ret .normal [(.slice (cutS p26 8) (n27 - 8) (n28 - 8)), (.slice p48 n49 n50)]))) (.fail)

noncomputable def T26b0 : List Value → Pg :=
  fun l23 => asCons l23 fun v24 l25 => asSlice v24 fun p26 n27 n28 => asCons l25 fun v29 l30 => asSlice v29 fun p31 n32 n33 => asNil l30 (bif (decide (((n27 : Nat) : Int) > 0)) then (.join (.call 48 [(.slice p26 n27 n28)] fun v34 => asInt .u64 v34 fun i35 => .act (bdSl 1 1 [(.int .u64 i35)]) fun v36 => asSlice v36 fun p37 n38 n39 => .act (apS 1 8 p31 n32 n33 p37 n38 n39) fun v40 => asSlice v40 fun p41 n42 n43 => .ret .normal [(.slice p41 n42 n43)]) (T26k0 n27 n28 p26)) else (.ret (.exit 0) [(.slice p26 n27 n28), (.slice p31 n32 n33)]))

noncomputable def T26k1 (p16 : (Option Addr)) : Ex → List Value → Pg :=
  fun e51 l52 => sw e51 (.exit 0) (asCons l52 fun v53 l54 => asSlice v53 fun p55 n56 n57 => asCons l54 fun v58 l59 => asSlice v58 fun p60 n61 n62 => asNil l59 (.call 49 [(.pointer p16), (.slice p60 n61 n62)] fun v63 => asBool v63 fun b64 => bif (!b64) then (.ret .ret [(.tuple #[(.pointer none), (.int .i64 3)])]) else (.ret .ret [(.tuple #[(.pointer p16), (.int .i64 0)])]))) (.fail)

noncomputable def T26k2 (p0 : (Option Addr)) (n1 : Nat) (n2 : Nat) : Ex → List Value → Pg :=
  fun e3 l4 => sw e3 .normal (asCons l4 fun v5 l6 => asBool v5 fun b7 => asNil l6 (bif b7 then (.ret .ret [(.tuple #[(.pointer none), (.int .i64 3)])]) else (.call 48 [(.slice p0 n1 n2)] fun v8 => asInt .u64 v8 fun i9 => grd ((((decide (8 ≤ ((n1 : Nat) : Int))) && (decide (((n1 : Nat) : Int) ≤ ((n2 : Nat) : Int)))) && (decide (((n2 : Nat) : Int) ≤ ((n2 : Nat) : Int)))) && ((mayCut p0 1) || false)) (.call 48 [(.slice (cutS p0 8) (n1 - 8) (n2 - 8))] fun v10 => asInt .u64 v10 fun i11 => bif ((decide (i9 > 65536)) || (decide (i11 > 9223372036854775807))) then (.ret .ret [(.tuple #[(.pointer none), (.int .i64 3)])]) else (.call 19 [(.int .i64 (wi64 i9))] fun v12 => asTuple v12 fun l13 => asCons l13 fun v14 l15 => asPtr v14 fun p16 => asCons l15 fun v17 l18 => asInt .i64 v17 fun i19 => asNil l18 (bif (i19 != 0) then (.ret .ret [(.tuple #[(.pointer none), (.int .i64 3)])]) else (asSome p16 fun a20 => .act (stC (aadd a20 1) [(.int .i64 (wi64 i11))]) fun v21 => asTuple v21 fun l22 => asNil l22 (grd ((((decide (16 ≤ ((n1 : Nat) : Int))) && (decide (((n1 : Nat) : Int) ≤ ((n2 : Nat) : Int)))) && (decide (((n2 : Nat) : Int) ≤ ((n2 : Nat) : Int)))) && ((mayCut p0 1) || false)) (.loop [(.slice (cutS p0 16) (n1 - 16) (n2 - 16)), (.slice none 0 0)] (T26b0) (T26k1 p16)))))))))) (.fail)

/-- hindsight/heap.Load -/
noncomputable def T26 (p0 : (Option Addr)) (n1 : Nat) (n2 : Nat) : Pg :=
  .join (bif (decide (((n1 : Nat) : Int) < 16)) == false then (.ret .normal [(.bool ((Int.tmod ((n1 : Nat) : Int) 8) != 0))]) else (.ret .normal [(.bool true)])) (T26k2 p0 n1 n2)
theorem T26_eq (p0 : (Option Addr)) (n1 : Nat) (n2 : Nat) : progOf PROG false 26 [(.slice p0 n1 n2)] = T26 p0 n1 n2 := by kernel_rfl


noncomputable def T27k0 (i23 : Int) : Ex → List Value → Pg :=
  fun e36 l37 => sw e36 .normal (asCons l37 fun v38 l39 => asSlice v38 fun p40 n41 n42 => asNil l39 (.ret .normal [(.int .i64 (wi64 (i23 + 1))), (.slice p40 n41 n42)])) (.fail)

noncomputable def T27b0 (n18 : Nat) (p17 : (Option Addr)) : List Value → Pg :=
  fun l20 => asCons l20 fun v21 l22 => asInt .i64 v21 fun i23 => asCons l22 fun v24 l25 => asSlice v24 fun p26 n27 n28 => asNil l25 (bif (decide (i23 < ((n18 : Nat) : Int))) then (.join (asSome p17 fun a29 => grd ((decide (0 ≤ i23)) && (decide (i23 < ((n18 : Nat) : Int)))) (.act (ld1 (aadd a29 ((Int.toNat i23) * 1))) fun v30 => asInt .u64 v30 fun i31 => .call 50 [(.slice p26 n27 n28), (.int .u64 i31)] fun v32 => asSlice v32 fun p33 n34 n35 => .ret .normal [(.slice p33 n34 n35)])) (T27k0 i23)) else (.ret (.exit 0) [(.int .i64 i23), (.slice p26 n27 n28)]))

noncomputable def T27k1 : Ex → List Value → Pg :=
  fun e43 l44 => sw e43 (.exit 0) (asCons l44 fun v45 l46 => asInt .i64 v45 fun i47 => asCons l46 fun v48 l49 => asSlice v48 fun p50 n51 n52 => asNil l49 (.ret .ret [(.slice p50 n51 n52)])) (.fail)

/-- (*hindsight/heap.Heap).Put -/
noncomputable def T27 (p0 : (Option Addr)) : Pg :=
  asSome p0 fun a1 => .act (ld1 (aadd a1 0)) fun v2 => asInt .i64 v2 fun i3 => .call 50 [(.slice none 0 0), (.int .u64 (wu64 i3))] fun v4 => asSlice v4 fun p5 n6 n7 => asSome p0 fun a8 => .act (ld1 (aadd a8 1)) fun v9 => asInt .i64 v9 fun i10 => .call 50 [(.slice p5 n6 n7), (.int .u64 (wu64 i10))] fun v11 => asSlice v11 fun p12 n13 n14 => asSome p0 fun a15 => .act (ld1 (aadd a15 2)) fun v16 => asSlice v16 fun p17 n18 n19 => .loop [(.int .i64 0), (.slice p12 n13 n14)] (T27b0 n18 p17) (T27k1)
theorem T27_eq (p0 : (Option Addr)) : progOf PROG false 27 [(.pointer p0)] = T27 p0 := by kernel_rfl


/-- (*hindsight/heap.Heap).Room -/
noncomputable def T28 (p0 : (Option Addr)) : Pg :=
  asSome p0 fun a1 => .act (ld1 (aadd a1 0)) fun v2 => asInt .i64 v2 fun i3 => .ret .ret [(.int .i64 i3)]
theorem T28_eq (p0 : (Option Addr)) : progOf PROG false 28 [(.pointer p0)] = T28 p0 := by kernel_rfl


/-- (*hindsight/heap.Heap).Used -/
noncomputable def T36 (p0 : (Option Addr)) : Pg :=
  asSome p0 fun a1 => .act (ld1 (aadd a1 2)) fun v2 => asSlice v2 fun p3 n4 n5 => .ret .ret [(.int .i64 ((n4 : Nat) : Int))]
theorem T36_eq (p0 : (Option Addr)) : progOf PROG false 36 [(.pointer p0)] = T36 p0 := by kernel_rfl


/-- (*hindsight/heap.Heap).Turns -/
noncomputable def T37 (p0 : (Option Addr)) : Pg :=
  asSome p0 fun a1 => .act (ld1 (aadd a1 1)) fun v2 => asInt .i64 v2 fun i3 => .ret .ret [(.int .i64 i3)]
theorem T37_eq (p0 : (Option Addr)) : progOf PROG false 37 [(.pointer p0)] = T37 p0 := by kernel_rfl


/-- hindsight/word.Head -/
noncomputable def T38 (i0 : Int) (i1 : Int) (i2 : Int) : Pg :=
  bif ((((((decide (i0 < 1)) || (decide (i0 > 3))) || (decide (i1 < 0))) || (decide (i1 > 255))) || (decide (i2 < 0))) || (decide (i2 > 65535))) then (.ret .ret [(.tuple #[(.int .u64 0), (.bool false)])]) else (.call 9 [(.int .i64 (orI .i64 (orI .i64 i2 (shlI .i64 i1 16)) (shlI .i64 i0 24)))] fun v3 => asInt .u64 v3 fun i4 => .ret .ret [(.tuple #[(.int .u64 i4), (.bool true)])])
theorem T38_eq (i0 : Int) (i1 : Int) (i2 : Int) : progOf PROG false 38 [(.int .i64 i0), (.int .i64 i1), (.int .i64 i2)] = T38 i0 i1 i2 := by kernel_rfl


/-- slices.ContainsFunc[[]hindsight/word.Word,hindsight/word.Word] -/
noncomputable def T39 (p0 : (Option Addr)) (n1 : Nat) (n2 : Nat) (v3 : Value) : Pg :=
  .call 52 [(.slice p0 n1 n2), v3] fun v4 => asInt .i64 v4 fun i5 => .ret .ret [(.bool (decide (i5 ≥ 0)))]
theorem T39_eq (p0 : (Option Addr)) (n1 : Nat) (n2 : Nat) (v3 : Value) : progOf PROG false 39 [(.slice p0 n1 n2), v3] = T39 p0 n1 n2 v3 := by kernel_rfl


/-- (*hindsight/heap.Heap).Make$1 -/
noncomputable def T40 (i0 : Int) (a1 : Addr) : Pg :=
  .act (ld1 a1) fun v2 => asPtr v2 fun p3 => .call 41 [(.pointer p3), (.int .u64 i0)] fun v4 => asBool v4 fun b5 => .ret .ret [(.bool (!b5))]
theorem T40_eq (i0 : Int) (a1 : Addr) : progOf PROG false 40 [(.int .u64 i0), (.pointer (some a1))] = T40 i0 a1 := by kernel_rfl


/-- (*hindsight/heap.Heap).may -/
noncomputable def T41 (p0 : (Option Addr)) (i1 : Int) : Pg :=
  .call 53 [(.int .u64 i1)] fun v2 => asTuple v2 fun l3 => asCons l3 fun v4 l5 => asInt .i64 v4 fun i6 => asCons l5 fun v7 l8 => asBool v7 fun b9 => asNil l8 (bif b9 then (.ret .ret [(.bool true)]) else (.call 46 [(.pointer p0), (.int .u64 i1)] fun v10 => asTuple v10 fun l11 => asCons l11 fun v12 l13 => asInt .i64 v12 fun i14 => asCons l13 fun v15 l16 => asBool v15 fun b17 => asNil l16 (.ret .ret [(.bool b17)])))
theorem T41_eq (p0 : (Option Addr)) (i1 : Int) : progOf PROG false 41 [(.pointer p0), (.int .u64 i1)] = T41 p0 i1 := by kernel_rfl


/-- (*hindsight/heap.Heap).Fits -/
noncomputable def T42 (p0 : (Option Addr)) (i1 : Int) : Pg :=
  asSome p0 fun a2 => .act (ld1 (aadd a2 0)) fun v3 => asInt .i64 v3 fun i4 => asSome p0 fun a5 => .act (ld1 (aadd a5 2)) fun v6 => asSlice v6 fun p7 n8 n9 => .ret .ret [(.bool (decide (i1 < (wi64 (i4 - ((n8 : Nat) : Int))))))]
theorem T42_eq (p0 : (Option Addr)) (i1 : Int) : progOf PROG false 42 [(.pointer p0), (.int .i64 i1)] = T42 p0 i1 := by kernel_rfl


/-- (*hindsight/heap.Heap).put -/
noncomputable def T43 (p0 : (Option Addr)) (i1 : Int) (p2 : (Option Addr)) (n3 : Nat) (n4 : Nat) : Pg :=
  asSome p0 fun a5 => .act (ld1 (aadd a5 2)) fun v6 => asSlice v6 fun p7 n8 n9 => asSome p0 fun a10 => .act (ld1 (aadd a10 2)) fun v11 => asSlice v11 fun p12 n13 n14 => .act (bdSl 1 1 [(.int .u64 i1)]) fun v15 => asSlice v15 fun p16 n17 n18 => .act (apS 1 8 p12 n13 n14 p16 n17 n18) fun v19 => asSlice v19 fun p20 n21 n22 => .act (apS 1 8 p20 n21 n22 p2 n3 n4) fun v23 => asSlice v23 fun p24 n25 n26 => asSome p0 fun a27 => .act (stC (aadd a27 2) [(.slice p24 n25 n26)]) fun v28 => asTuple v28 fun l29 => asNil l29 (asSome p0 fun a30 => .act (ld1 (aadd a30 3)) fun v31 => asSlice v31 fun p32 n33 n34 => .act (apI 1 1 p32 n33 n34 [(.bool false)] (wi64 (((n3 : Nat) : Int) + 1))) fun v35 => asSlice v35 fun p36 n37 n38 => asSome p0 fun a39 => .act (stC (aadd a39 3) [(.slice p36 n37 n38)]) fun v40 => asTuple v40 fun l41 => asNil l41 (asSome p0 fun a42 => .act (ld1 (aadd a42 3)) fun v43 => asSlice v43 fun p44 n45 n46 => asSome p44 fun a47 => grd (decide (((n8 : Nat) : Int) < ((n45 : Nat) : Int))) (.act (stC (aadd a47 (n8 * 1)) [(.bool true)]) fun v48 => asTuple v48 fun l49 => asNil l49 (.call 21 [(.int .i64 ((n8 : Nat) : Int))] fun v50 => asInt .u64 v50 fun i51 => .ret .ret [(.int .u64 i51)]))))
theorem T43_eq (p0 : (Option Addr)) (i1 : Int) (p2 : (Option Addr)) (n3 : Nat) (n4 : Nat) : progOf PROG false 43 [(.pointer p0), (.int .u64 i1), (.slice p2 n3 n4)] = T43 p0 i1 p2 n3 n4 := by kernel_rfl


noncomputable def T44k0 (p12 : (Option Addr)) (i2 : Int) (n13 : Nat) : Ex → List Value → Pg :=
  fun e15 l16 => sw e15 .normal (asCons l16 fun v17 l18 => asBool v17 fun b19 => asNil l18 (bif b19 then (.ret .ret [(.tuple #[(.pointer none), (.int .i64 1)])]) else (asSome p12 fun a20 => grd ((decide (0 ≤ i2)) && (decide (i2 < ((n13 : Nat) : Int)))) (.ret .ret [(.tuple #[(.pointer (some (aadd a20 ((Int.toNat i2) * 1)))), (.int .i64 0)])])))) (.fail)

/-- (*hindsight/heap.Heap).find -/
noncomputable def T44 (p0 : (Option Addr)) (i1 : Int) (i2 : Int) : Pg :=
  .call 46 [(.pointer p0), (.int .u64 i1)] fun v3 => asTuple v3 fun l4 => asCons l4 fun v5 l6 => asInt .i64 v5 fun i7 => asCons l6 fun v8 l9 => asBool v8 fun b10 => asNil l9 (bif (!b10) then (.ret .ret [(.tuple #[(.pointer none), (.int .i64 4)])]) else (.call 54 [(.pointer p0), (.int .i64 i7)] fun v11 => asSlice v11 fun p12 n13 n14 => .join (bif (decide (i2 < 0)) == false then (.ret .normal [(.bool (decide (i2 ≥ ((n13 : Nat) : Int))))]) else (.ret .normal [(.bool true)])) (T44k0 p12 i2 n13)))
theorem T44_eq (p0 : (Option Addr)) (i1 : Int) (i2 : Int) : progOf PROG false 44 [(.pointer p0), (.int .u64 i1), (.int .i64 i2)] = T44 p0 i1 i2 := by kernel_rfl


noncomputable def T45k0 : Ex → List Value → Pg :=
  fun e53 l54 => sw e53 .normal (asCons l54 fun v55 l56 => asInt .u64 v55 fun i57 => asNil l56 (.ret .ret [(.int .u64 i57)])) (.fail)

/-- (*hindsight/heap.mover).moved -/
noncomputable def T45 (p0 : (Option Addr)) (i1 : Int) : Pg :=
  asSome p0 fun a2 => .act (ld1 (aadd a2 0)) fun v3 => asPtr v3 fun p4 => .call 46 [(.pointer p4), (.int .u64 i1)] fun v5 => asTuple v5 fun l6 => asCons l6 fun v7 l8 => asInt .i64 v7 fun i9 => asCons l8 fun v10 l11 => asBool v10 fun b12 => asNil l11 (bif (!b12) then (.ret .ret [(.int .u64 i1)]) else (asSome p0 fun a13 => .act (ld1 (aadd a13 2)) fun v14 => asMap v14 fun m15 => .act (lkp (.int .i64) (.int .u64 0) m15 (.int .i64 i9) true) fun v16 => asTuple v16 fun l17 => asCons l17 fun v18 l19 => asInt .u64 v18 fun i20 => asCons l19 fun v21 l22 => asBool v21 fun b23 => asNil l22 (.join (bif (!b23) then (asSome p0 fun a24 => .act (ld1 (aadd a24 1)) fun v25 => asPtr v25 fun p26 => asSome p0 fun a27 => .act (ld1 (aadd a27 0)) fun v28 => asPtr v28 fun p29 => asSome p29 fun a30 => .act (ld1 (aadd a30 2)) fun v31 => asSlice v31 fun p32 n33 n34 => asSome p32 fun a35 => grd ((decide (0 ≤ i9)) && (decide (i9 < ((n33 : Nat) : Int)))) (.act (ld1 (aadd a35 ((Int.toNat i9) * 1))) fun v36 => asInt .u64 v36 fun i37 => asSome p0 fun a38 => .act (ld1 (aadd a38 0)) fun v39 => asPtr v39 fun p40 => .call 54 [(.pointer p40), (.int .i64 i9)] fun v41 => asSlice v41 fun p42 n43 n44 => .get fun h52 => grd (chks [((ld1 (aadd a35 ((Int.toNat i9) * 1))), v36), ((ld1 (aadd a30 2)), v31), ((ld1 (aadd a27 0)), v28), ((ld1 (aadd a24 1)), v25)] h52) (.call 43 [(.pointer p26), (.int .u64 i37), (.slice p42 n43 n44)] fun v45 => asInt .u64 v45 fun i46 => asSome p0 fun a47 => .act (ld1 (aadd a47 2)) fun v48 => asMap v48 fun m49 => .act (mup (.int .i64) m49 (.int .i64 i9) (.int .u64 i46)) fun v50 => asTuple v50 fun l51 => asNil l51 (.ret .normal [(.int .u64 i46)])))) else (.ret .normal [(.int .u64 i20)])) (T45k0))))
theorem T45_eq (p0 : (Option Addr)) (i1 : Int) : progOf PROG false 45 [(.pointer p0), (.int .u64 i1)] = T45 p0 i1 := by kernel_rfl


noncomputable def T46k0 : Ex → List Value → Pg :=
  fun e23 l24 => sw e23 .normal (asCons l24 fun v25 l26 => asBool v25 fun b27 => asCons l26 fun v28 l29 => asInt .i64 v28 fun i30 => asNil l29 (.ret .ret [(.tuple #[(.int .i64 i30), (.bool b27)])])) (.fail)

/-- (*hindsight/heap.Heap).place -/
noncomputable def T46 (p0 : (Option Addr)) (i1 : Int) : Pg :=
  .call 55 [(.int .u64 i1)] fun v2 => asTuple v2 fun l3 => asCons l3 fun v4 l5 => asInt .i64 v4 fun i6 => asCons l5 fun v7 l8 => asBool v7 fun b9 => asNil l8 (.join (bif b9 == true then (asSome p0 fun a10 => .act (ld1 (aadd a10 3)) fun v11 => asSlice v11 fun p12 n13 n14 => bif (decide (i6 < ((n13 : Nat) : Int))) == true then (asSome p0 fun a15 => .act (ld1 (aadd a15 3)) fun v16 => asSlice v16 fun p17 n18 n19 => asSome p17 fun a20 => grd ((decide (0 ≤ i6)) && (decide (i6 < ((n18 : Nat) : Int)))) (.act (ld1 (aadd a20 ((Int.toNat i6) * 1))) fun v21 => asBool v21 fun b22 => .ret .normal [(.bool b22), (.int .i64 i6)])) else (.ret .normal [(.bool false), (.int .i64 i6)])) else (.ret .normal [(.bool false), (.int .i64 i6)])) (T46k0))
theorem T46_eq (p0 : (Option Addr)) (i1 : Int) : progOf PROG false 46 [(.pointer p0), (.int .u64 i1)] = T46 p0 i1 := by kernel_rfl


/-- hindsight/word.Split -/
noncomputable def T47 (i0 : Int) : Pg :=
  .call 53 [(.int .u64 i0)] fun v1 => asTuple v1 fun l2 => asCons l2 fun v3 l4 => asInt .i64 v3 fun i5 => asCons l4 fun v6 l7 => asBool v6 fun b8 => asNil l7 (bif ((((!b8) || (decide (i5 < 0))) || (decide (i5 > 67108863))) || (decide ((shrI .i64 i5 24) < 1))) then (.ret .ret [(.tuple #[(.int .i64 0), (.int .i64 0), (.int .i64 0), (.bool false)])]) else (.ret .ret [(.tuple #[(.int .i64 (shrI .i64 i5 24)), (.int .i64 (andI .i64 (shrI .i64 i5 16) 255)), (.int .i64 (andI .i64 i5 65535)), (.bool true)])]))
theorem T47_eq (i0 : Int) : progOf PROG false 47 [(.int .u64 i0)] = T47 i0 := by kernel_rfl


noncomputable def T48k0 (i6 : Int) : Ex → List Value → Pg :=
  fun e13 l14 => sw e13 .normal (asCons l14 fun v15 l16 => asInt .u64 v15 fun i17 => asNil l16 (.ret .normal [(.int .i64 (wi64 (i6 + 1))), (.int .u64 i17)])) (.fail)

noncomputable def T48b0 (p0 : (Option Addr)) : List Value → Pg :=
  fun l3 => asCons l3 fun v4 l5 => asInt .i64 v4 fun i6 => asCons l5 fun v7 l8 => asInt .u64 v7 fun i9 => asNil l8 (bif (decide (i6 < 8)) then (.join (asSome p0 fun a10 => grd ((decide (0 ≤ i6)) && (decide (i6 < 8))) (.act (ld1 (aadd a10 ((Int.toNat i6) * 1))) fun v11 => asInt .u8 v11 fun i12 => .ret .normal [(.int .u64 (orI .u64 (shlI .u64 i9 8) (wu64 i12)))])) (T48k0 i6)) else (.ret (.exit 0) [(.int .i64 i6), (.int .u64 i9)]))

noncomputable def T48k1 : Ex → List Value → Pg :=
  fun e18 l19 => sw e18 (.exit 0) (asCons l19 fun v20 l21 => asInt .i64 v20 fun i22 => asCons l21 fun v23 l24 => asInt .u64 v23 fun i25 => asNil l24 (.ret .ret [(.int .u64 i25)])) (.fail)

/-- hindsight/heap.read -/
noncomputable def T48 (p0 : (Option Addr)) (n1 : Nat) (n2 : Nat) : Pg :=
  grd (((decide (8 ≤ ((n2 : Nat) : Int))) && (decide (((n2 : Nat) : Int) ≤ ((n2 : Nat) : Int)))) && ((mayCut p0 1) || true)) (.loop [(.int .i64 0), (.int .u64 0)] (T48b0 p0) (T48k1))
theorem T48_eq (p0 : (Option Addr)) (n1 : Nat) (n2 : Nat) : progOf PROG false 48 [(.slice p0 n1 n2)] = T48 p0 n1 n2 := by kernel_rfl


noncomputable def T49k0 (p7 : (Option Addr)) (n8 : Nat) (n9 : Nat) (i26 : Int) (p0 : (Option Addr)) (b12 : Bool) : Ex → List Value → Pg :=
  fun e30 l31 => sw e30 .normal (asCons l31 fun v32 l33 => asBool v32 fun b34 => asNil l33 (bif b34 then (.ret .ret [(.slice p7 n8 n9), (.bool false)]) else (asSome p7 fun a35 => grd (decide (0 < ((n8 : Nat) : Int))) (.act (ld1 (aadd a35 0)) fun v36 => asInt .u64 v36 fun i37 => grd ((((decide (1 ≤ (wi64 (1 + i26)))) && (decide ((wi64 (1 + i26)) ≤ ((n9 : Nat) : Int)))) && (decide (((n9 : Nat) : Int) ≤ ((n9 : Nat) : Int)))) && ((mayCut p7 1) || false)) (.call 43 [(.pointer p0), (.int .u64 i37), (.slice (cutS p7 1) ((Int.toNat (wi64 (1 + i26))) - 1) (n9 - 1))] fun v38 => asInt .u64 v38 fun i39 => grd (((((decide (0 ≤ (wi64 (1 + i26)))) && (decide ((wi64 (1 + i26)) ≤ ((n8 : Nat) : Int)))) && (decide (((n8 : Nat) : Int) ≤ ((n9 : Nat) : Int)))) && (decide (((n9 : Nat) : Int) ≤ ((n9 : Nat) : Int)))) && ((mayCut p7 1) || (decide ((wi64 (1 + i26)) = 0)))) (.ret .normal [(.slice (cutS p7 ((Int.toNat (wi64 (1 + i26))) * 1)) (n8 - (Int.toNat (wi64 (1 + i26)))) (n9 - (Int.toNat (wi64 (1 + i26))))), (.bool b12)])))))) (.fail)

noncomputable def T49k1 : Ex → List Value → Pg :=
  fun e40 l41 => sw e40 .ret (asCons l41 fun v42 l43 => asSlice v42 fun p44 n45 n46 => asCons l43 fun v47 l48 => asBool v47 fun b49 => asNil l48 (.ret .ret [(.slice p44 n45 n46), (.bool b49)])) (sw e40 .normal (asCons l41 fun v50 l51 => asSlice v50 fun p52 n53 n54 => asCons l51 fun v55 l56 => asBool v55 fun b57 => asNil l56 (.ret .normal [(.slice p52 n53 n54), (.bool b57)])) (.fail))

noncomputable def T49b0 (p0 : (Option Addr)) : List Value → Pg :=
  fun l4 => asCons l4 fun v5 l6 => asSlice v5 fun p7 n8 n9 => asCons l6 fun v10 l11 => asBool v10 fun b12 => asNil l11 (bif (decide (((n8 : Nat) : Int) > 0)) then (.join (asSome p7 fun a13 => grd (decide (0 < ((n8 : Nat) : Int))) (.act (ld1 (aadd a13 0)) fun v14 => asInt .u64 v14 fun i15 => .call 47 [(.int .u64 i15)] fun v16 => asTuple v16 fun l17 => asCons l17 fun v18 l19 => asInt .i64 v18 fun i20 => asCons l19 fun v21 l22 => asInt .i64 v21 fun i23 => asCons l22 fun v24 l25 => asInt .i64 v24 fun i26 => asCons l25 fun v27 l28 => asBool v27 fun b29 => asNil l28 (.join (bif (!b29) == false then (.ret .normal [(.bool (decide (i26 ≥ ((n8 : Nat) : Int))))]) else (.ret .normal [(.bool true)])) (T49k0 p7 n8 n9 i26 p0 b12)))) (T49k1)) else (.ret (.exit 0) [(.slice p7 n8 n9), (.bool b12)]))

noncomputable def T49k2 (b79 : Bool) : Ex → List Value → Pg :=
  fun e93 l94 => sw e93 .normal (asCons l94 fun v95 l96 => asBool v95 fun b97 => asNil l96 (bif b97 then (.ret .ret [(.bool false)]) else (.ret .normal [(.bool b79)]))) (.fail)

noncomputable def T49k3 (i76 : Int) : Ex → List Value → Pg :=
  fun e98 l99 => sw e98 .ret (asCons l99 fun v100 l101 => asBool v100 fun b102 => asNil l101 (.ret .ret [(.int .i64 i76), (.bool b102)])) (sw e98 .normal (asCons l99 fun v103 l104 => asBool v103 fun b105 => asNil l104 (.ret .normal [(.int .i64 (wi64 (i76 + 1))), (.bool b105)])) (.fail))

noncomputable def T49b1 (n71 : Nat) (p70 : (Option Addr)) (p0 : (Option Addr)) : List Value → Pg :=
  fun l73 => asCons l73 fun v74 l75 => asInt .i64 v74 fun i76 => asCons l75 fun v77 l78 => asBool v77 fun b79 => asNil l78 (bif (decide (i76 < ((n71 : Nat) : Int))) then (.join (asSome p70 fun a80 => grd ((decide (0 ≤ i76)) && (decide (i76 < ((n71 : Nat) : Int)))) (.act (ld1 (aadd a80 ((Int.toNat i76) * 1))) fun v81 => asInt .u64 v81 fun i82 => .join (asSome p0 fun a83 => .act (ld1 (aadd a83 3)) fun v84 => asSlice v84 fun p85 n86 n87 => asSome p85 fun a88 => grd ((decide (0 ≤ i76)) && (decide (i76 < ((n86 : Nat) : Int)))) (.act (ld1 (aadd a88 ((Int.toNat i76) * 1))) fun v89 => asBool v89 fun b90 => bif (!b90) == true then (.call 41 [(.pointer p0), (.int .u64 i82)] fun v91 => asBool v91 fun b92 => .ret .normal [(.bool (!b92))]) else (.ret .normal [(.bool false)]))) (T49k2 b79))) (T49k3 i76)) else (.ret (.exit 2) [(.int .i64 i76), (.bool b79)]))

noncomputable def T49k4 (p0 : (Option Addr)) : Ex → List Value → Pg :=
  fun e106 l107 => sw e106 (.exit 2) (asCons l107 fun v108 l109 => asInt .i64 v108 fun i110 => asCons l109 fun v111 l112 => asBool v111 fun b113 => asNil l112 (asSome p0 fun a114 => .act (ld1 (aadd a114 2)) fun v115 => asSlice v115 fun p116 n117 n118 => asSome p0 fun a119 => .act (ld1 (aadd a119 0)) fun v120 => asInt .i64 v120 fun i121 => .ret .ret [(.bool (decide (((n117 : Nat) : Int) ≤ i121)))])) (sw e106 .ret (asCons l107 fun v122 l123 => asInt .i64 v122 fun i124 => asCons l123 fun v125 l126 => asBool v125 fun b127 => asNil l126 (.ret .ret [(.bool b127)])) (.fail))

noncomputable def T49k5 (p0 : (Option Addr)) : Ex → List Value → Pg :=
  fun e58 l59 => sw e58 (.exit 0) (asCons l59 fun v60 l61 => asSlice v60 fun p62 n63 n64 => asCons l61 fun v65 l66 => asBool v65 fun b67 => asNil l66 (asSome p0 fun a68 => .act (ld1 (aadd a68 2)) fun v69 => asSlice v69 fun p70 n71 n72 => .loop [(.int .i64 0), (.bool b67)] (T49b1 n71 p70 p0) (T49k4 p0))) (sw e58 .ret (asCons l59 fun v128 l129 => asSlice v128 fun p130 n131 n132 => asCons l129 fun v133 l134 => asBool v133 fun b135 => asNil l134 (.ret .ret [(.bool b135)])) (.fail))

/-- (*hindsight/heap.Heap).load -/
noncomputable def T49 (p0 : (Option Addr)) (p1 : (Option Addr)) (n2 : Nat) (n3 : Nat) : Pg :=
  .loop [(.slice p1 n2 n3), (.bool false)] (T49b0 p0) (T49k5 p0)
theorem T49_eq (p0 : (Option Addr)) (p1 : (Option Addr)) (n2 : Nat) (n3 : Nat) : progOf PROG false 49 [(.pointer p0), (.slice p1 n2 n3)] = T49 p0 p1 n2 n3 := by kernel_rfl


noncomputable def T50k0 (i7 : Int) : Ex → List Value → Pg :=
  fun e21 l22 => sw e21 .normal (asCons l22 fun v23 l24 => asSlice v23 fun p25 n26 n27 => asNil l24 (.ret .normal [(.int .i64 (wi64 (i7 - 1))), (.slice p25 n26 n27)])) (.fail)

noncomputable def T50b0 (i3 : Int) : List Value → Pg :=
  fun l4 => asCons l4 fun v5 l6 => asInt .i64 v5 fun i7 => asCons l6 fun v8 l9 => asSlice v8 fun p10 n11 n12 => asNil l9 (bif (decide (i7 ≥ 0)) then (.join (grd (decide (0 ≤ (wi64 (8 * i7)))) (.act (bdSl 1 1 [(.int .u8 (wu8 (shrI .u64 i3 (wi64 (8 * i7)))))]) fun v13 => asSlice v13 fun p14 n15 n16 => .act (apS 1 1 p10 n11 n12 p14 n15 n16) fun v17 => asSlice v17 fun p18 n19 n20 => .ret .normal [(.slice p18 n19 n20)])) (T50k0 i7)) else (.ret (.exit 0) [(.int .i64 i7), (.slice p10 n11 n12)]))

noncomputable def T50k1 : Ex → List Value → Pg :=
  fun e28 l29 => sw e28 (.exit 0) (asCons l29 fun v30 l31 => asInt .i64 v30 fun i32 => asCons l31 fun v33 l34 => asSlice v33 fun p35 n36 n37 => asNil l34 (.ret .ret [(.slice p35 n36 n37)])) (.fail)

/-- hindsight/heap.number -/
noncomputable def T50 (p0 : (Option Addr)) (n1 : Nat) (n2 : Nat) (i3 : Int) : Pg :=
  .loop [(.int .i64 7), (.slice p0 n1 n2)] (T50b0 i3) (T50k1)
theorem T50_eq (p0 : (Option Addr)) (n1 : Nat) (n2 : Nat) (i3 : Int) : progOf PROG false 50 [(.slice p0 n1 n2), (.int .u64 i3)] = T50 p0 n1 n2 i3 := by kernel_rfl


noncomputable def T52k0 (i7 : Int) : Ex → List Value → Pg :=
  fun e19 l20 => sw e19 .ret (asCons l20 fun v21 l22 => asInt .i64 v21 fun i23 => asNil l22 (.ret .ret [(.int .i64 i7), (.int .i64 i23)])) (sw e19 .normal (asCons l20 fun v24 l25 => asInt .i64 v24 fun i26 => asNil l25 (.ret .normal [(.int .i64 (wi64 (i7 + 1))), (.int .i64 i26)])) (.fail))

noncomputable def T52b0 (n1 : Nat) (p0 : (Option Addr)) (v3 : Value) : List Value → Pg :=
  fun l4 => asCons l4 fun v5 l6 => asInt .i64 v5 fun i7 => asCons l6 fun v8 l9 => asInt .i64 v8 fun i10 => asNil l9 (bif (decide (i7 < ((n1 : Nat) : Int))) then (.join (asSome p0 fun a11 => grd ((decide (0 ≤ i7)) && (decide (i7 < ((n1 : Nat) : Int)))) (.act (ld1 (aadd a11 ((Int.toNat i7) * 1))) fun v12 => asInt .u64 v12 fun i13 => asFunc v3 fun n14 l15 l16 => .call n14 (l15 ++ [(.int .u64 i13)] ++ l16) fun v17 => asBool v17 fun b18 => bif b18 then (.ret .ret [(.int .i64 i7)]) else (.ret .normal [(.int .i64 i10)]))) (T52k0 i7)) else (.ret (.exit 0) [(.int .i64 i7), (.int .i64 i10)]))

noncomputable def T52k1 : Ex → List Value → Pg :=
  fun e27 l28 => sw e27 (.exit 0) (asCons l28 fun v29 l30 => asInt .i64 v29 fun i31 => asCons l30 fun v32 l33 => asInt .i64 v32 fun i34 => asNil l33 (.ret .ret [(.int .i64 (-1))])) (sw e27 .ret (asCons l28 fun v35 l36 => asInt .i64 v35 fun i37 => asCons l36 fun v38 l39 => asInt .i64 v38 fun i40 => asNil l39 (.ret .ret [(.int .i64 i40)])) (.fail))

/-- slices.IndexFunc[[]hindsight/word.Word,hindsight/word.Word] -/
noncomputable def T52 (p0 : (Option Addr)) (n1 : Nat) (n2 : Nat) (v3 : Value) : Pg :=
  .loop [(.int .i64 0), (.int .i64 0)] (T52b0 n1 p0 v3) (T52k1)
theorem T52_eq (p0 : (Option Addr)) (n1 : Nat) (n2 : Nat) (v3 : Value) : progOf PROG false 52 [(.slice p0 n1 n2), v3] = T52 p0 n1 n2 v3 := by kernel_rfl


/-- hindsight/word.Int -/
noncomputable def T53 (i0 : Int) : Pg :=
  bif ((andI .u64 i0 1) == 0) then (.ret .ret [(.tuple #[(.int .i64 0), (.bool false)])]) else (.ret .ret [(.tuple #[(.int .i64 (shrI .i64 (wi64 i0) 1)), (.bool true)])])
theorem T53_eq (i0 : Int) : progOf PROG false 53 [(.int .u64 i0)] = T53 i0 := by kernel_rfl


/-- (*hindsight/heap.Heap).thing -/
noncomputable def T54 (p0 : (Option Addr)) (i1 : Int) : Pg :=
  asSome p0 fun a2 => .act (ld1 (aadd a2 2)) fun v3 => asSlice v3 fun p4 n5 n6 => asSome p4 fun a7 => grd ((decide (0 ≤ i1)) && (decide (i1 < ((n5 : Nat) : Int)))) (.act (ld1 (aadd a7 ((Int.toNat i1) * 1))) fun v8 => asInt .u64 v8 fun i9 => .call 47 [(.int .u64 i9)] fun v10 => asTuple v10 fun l11 => asCons l11 fun v12 l13 => asInt .i64 v12 fun i14 => asCons l13 fun v15 l16 => asInt .i64 v15 fun i17 => asCons l16 fun v18 l19 => asInt .i64 v18 fun i20 => asCons l19 fun v21 l22 => asBool v21 fun b23 => asNil l22 (asSome p0 fun a24 => .act (ld1 (aadd a24 2)) fun v25 => asSlice v25 fun p26 n27 n28 => grd (((((decide (0 ≤ (wi64 (i1 + 1)))) && (decide ((wi64 (i1 + 1)) ≤ (wi64 ((wi64 (i1 + 1)) + i20))))) && (decide ((wi64 ((wi64 (i1 + 1)) + i20)) ≤ ((n28 : Nat) : Int)))) && (decide (((n28 : Nat) : Int) ≤ ((n28 : Nat) : Int)))) && ((mayCut p26 1) || (decide ((wi64 (i1 + 1)) = 0)))) (.ret .ret [(.slice (cutS p26 ((Int.toNat (wi64 (i1 + 1))) * 1)) ((Int.toNat (wi64 ((wi64 (i1 + 1)) + i20))) - (Int.toNat (wi64 (i1 + 1)))) (n28 - (Int.toNat (wi64 (i1 + 1)))))])))
theorem T54_eq (p0 : (Option Addr)) (i1 : Int) : progOf PROG false 54 [(.pointer p0), (.int .i64 i1)] = T54 p0 i1 := by kernel_rfl


noncomputable def T55k0 (i0 : Int) : Ex → List Value → Pg :=
  fun e1 l2 => sw e1 .normal (asCons l2 fun v3 l4 => asBool v3 fun b5 => asNil l4 (bif b5 then (.ret .ret [(.tuple #[(.int .i64 0), (.bool false)])]) else (.ret .ret [(.tuple #[(.int .i64 (wi64 (shrI .u64 i0 1))), (.bool true)])]))) (.fail)

/-- hindsight/word.At -/
noncomputable def T55 (i0 : Int) : Pg :=
  .join (bif ((andI .u64 i0 1) == 1) == false then (.ret .normal [(.bool (decide ((shrI .u64 i0 1) > 2147483647)))]) else (.ret .normal [(.bool true)])) (T55k0 i0)
theorem T55_eq (i0 : Int) : progOf PROG false 55 [(.int .u64 i0)] = T55 i0 := by kernel_rfl

noncomputable def A4 (args : List Value) : Option Pg := some (progOf PROG false 4 args)
theorem A4_ok : ∀ args p, A4 args = some p → progOf PROG false 4 args = p := fun args p h => Option.some.inj h
noncomputable def A9 : List Value → Option Pg
  | [(.int .i64 i0)] => some (T9 i0)
  | _ => none
theorem A9_ok : ∀ args p, A9 args = some p → progOf PROG false 9 args = p := by
  intro args p h
  unfold A9 at h
  split at h
  · cases h; exact T9_eq _
  · cases h
noncomputable def A18 : List Value → Option Pg
  | [] => some (T18)
  | _ => none
theorem A18_ok : ∀ args p, A18 args = some p → progOf PROG false 18 args = p := by
  intro args p h
  unfold A18 at h
  split at h
  · cases h; exact T18_eq 
  · cases h
noncomputable def A19 : List Value → Option Pg
  | [(.int .i64 i0)] => some (T19 i0)
  | _ => none
theorem A19_ok : ∀ args p, A19 args = some p → progOf PROG false 19 args = p := by
  intro args p h
  unfold A19 at h
  split at h
  · cases h; exact T19_eq _
  · cases h
noncomputable def A20 : List Value → Option Pg
  | [(.pointer p0), (.int .i64 i1), (.int .i64 i2), (.slice p3 n4 n5)] => some (T20 p0 i1 i2 p3 n4 n5)
  | _ => none
theorem A20_ok : ∀ args p, A20 args = some p → progOf PROG false 20 args = p := by
  intro args p h
  unfold A20 at h
  split at h
  · cases h; exact T20_eq _ _ _ _ _ _
  · cases h
noncomputable def A21 : List Value → Option Pg
  | [(.int .i64 i0)] => some (T21 i0)
  | _ => none
theorem A21_ok : ∀ args p, A21 args = some p → progOf PROG false 21 args = p := by
  intro args p h
  unfold A21 at h
  split at h
  · cases h; exact T21_eq _
  · cases h
noncomputable def A22 : List Value → Option Pg
  | [(.pointer p0), (.int .u64 i1), (.int .i64 i2), (.int .u64 i3)] => some (T22 p0 i1 i2 i3)
  | _ => none
theorem A22_ok : ∀ args p, A22 args = some p → progOf PROG false 22 args = p := by
  intro args p h
  unfold A22 at h
  split at h
  · cases h; exact T22_eq _ _ _ _
  · cases h
noncomputable def A23 : List Value → Option Pg
  | [(.pointer p0), (.int .u64 i1), (.int .i64 i2)] => some (T23 p0 i1 i2)
  | _ => none
theorem A23_ok : ∀ args p, A23 args = some p → progOf PROG false 23 args = p := by
  intro args p h
  unfold A23 at h
  split at h
  · cases h; exact T23_eq _ _ _
  · cases h
noncomputable def A24 : List Value → Option Pg
  | [(.pointer p0), (.slice p1 n2 n3)] => some (T24 p0 p1 n2 n3)
  | _ => none
theorem A24_ok : ∀ args p, A24 args = some p → progOf PROG false 24 args = p := by
  intro args p h
  unfold A24 at h
  split at h
  · cases h; exact T24_eq _ _ _ _
  · cases h
noncomputable def A25 : List Value → Option Pg
  | [(.pointer p0), (.int .u64 i1)] => some (T25 p0 i1)
  | _ => none
theorem A25_ok : ∀ args p, A25 args = some p → progOf PROG false 25 args = p := by
  intro args p h
  unfold A25 at h
  split at h
  · cases h; exact T25_eq _ _
  · cases h
noncomputable def A26 : List Value → Option Pg
  | [(.slice p0 n1 n2)] => some (T26 p0 n1 n2)
  | _ => none
theorem A26_ok : ∀ args p, A26 args = some p → progOf PROG false 26 args = p := by
  intro args p h
  unfold A26 at h
  split at h
  · cases h; exact T26_eq _ _ _
  · cases h
noncomputable def A27 : List Value → Option Pg
  | [(.pointer p0)] => some (T27 p0)
  | _ => none
theorem A27_ok : ∀ args p, A27 args = some p → progOf PROG false 27 args = p := by
  intro args p h
  unfold A27 at h
  split at h
  · cases h; exact T27_eq _
  · cases h
noncomputable def A28 : List Value → Option Pg
  | [(.pointer p0)] => some (T28 p0)
  | _ => none
theorem A28_ok : ∀ args p, A28 args = some p → progOf PROG false 28 args = p := by
  intro args p h
  unfold A28 at h
  split at h
  · cases h; exact T28_eq _
  · cases h
noncomputable def A36 : List Value → Option Pg
  | [(.pointer p0)] => some (T36 p0)
  | _ => none
theorem A36_ok : ∀ args p, A36 args = some p → progOf PROG false 36 args = p := by
  intro args p h
  unfold A36 at h
  split at h
  · cases h; exact T36_eq _
  · cases h
noncomputable def A37 : List Value → Option Pg
  | [(.pointer p0)] => some (T37 p0)
  | _ => none
theorem A37_ok : ∀ args p, A37 args = some p → progOf PROG false 37 args = p := by
  intro args p h
  unfold A37 at h
  split at h
  · cases h; exact T37_eq _
  · cases h
noncomputable def A38 : List Value → Option Pg
  | [(.int .i64 i0), (.int .i64 i1), (.int .i64 i2)] => some (T38 i0 i1 i2)
  | _ => none
theorem A38_ok : ∀ args p, A38 args = some p → progOf PROG false 38 args = p := by
  intro args p h
  unfold A38 at h
  split at h
  · cases h; exact T38_eq _ _ _
  · cases h
noncomputable def A39 : List Value → Option Pg
  | [(.slice p0 n1 n2), v3] => some (T39 p0 n1 n2 v3)
  | _ => none
theorem A39_ok : ∀ args p, A39 args = some p → progOf PROG false 39 args = p := by
  intro args p h
  unfold A39 at h
  split at h
  · cases h; exact T39_eq _ _ _ _
  · cases h
noncomputable def A40 : List Value → Option Pg
  | [(.int .u64 i0), (.pointer (some a1))] => some (T40 i0 a1)
  | _ => none
theorem A40_ok : ∀ args p, A40 args = some p → progOf PROG false 40 args = p := by
  intro args p h
  unfold A40 at h
  split at h
  · cases h; exact T40_eq _ _
  · cases h
noncomputable def A41 : List Value → Option Pg
  | [(.pointer p0), (.int .u64 i1)] => some (T41 p0 i1)
  | _ => none
theorem A41_ok : ∀ args p, A41 args = some p → progOf PROG false 41 args = p := by
  intro args p h
  unfold A41 at h
  split at h
  · cases h; exact T41_eq _ _
  · cases h
noncomputable def A42 : List Value → Option Pg
  | [(.pointer p0), (.int .i64 i1)] => some (T42 p0 i1)
  | _ => none
theorem A42_ok : ∀ args p, A42 args = some p → progOf PROG false 42 args = p := by
  intro args p h
  unfold A42 at h
  split at h
  · cases h; exact T42_eq _ _
  · cases h
noncomputable def A43 : List Value → Option Pg
  | [(.pointer p0), (.int .u64 i1), (.slice p2 n3 n4)] => some (T43 p0 i1 p2 n3 n4)
  | _ => none
theorem A43_ok : ∀ args p, A43 args = some p → progOf PROG false 43 args = p := by
  intro args p h
  unfold A43 at h
  split at h
  · cases h; exact T43_eq _ _ _ _ _
  · cases h
noncomputable def A44 : List Value → Option Pg
  | [(.pointer p0), (.int .u64 i1), (.int .i64 i2)] => some (T44 p0 i1 i2)
  | _ => none
theorem A44_ok : ∀ args p, A44 args = some p → progOf PROG false 44 args = p := by
  intro args p h
  unfold A44 at h
  split at h
  · cases h; exact T44_eq _ _ _
  · cases h
noncomputable def A45 : List Value → Option Pg
  | [(.pointer p0), (.int .u64 i1)] => some (T45 p0 i1)
  | _ => none
theorem A45_ok : ∀ args p, A45 args = some p → progOf PROG false 45 args = p := by
  intro args p h
  unfold A45 at h
  split at h
  · cases h; exact T45_eq _ _
  · cases h
noncomputable def A46 : List Value → Option Pg
  | [(.pointer p0), (.int .u64 i1)] => some (T46 p0 i1)
  | _ => none
theorem A46_ok : ∀ args p, A46 args = some p → progOf PROG false 46 args = p := by
  intro args p h
  unfold A46 at h
  split at h
  · cases h; exact T46_eq _ _
  · cases h
noncomputable def A47 : List Value → Option Pg
  | [(.int .u64 i0)] => some (T47 i0)
  | _ => none
theorem A47_ok : ∀ args p, A47 args = some p → progOf PROG false 47 args = p := by
  intro args p h
  unfold A47 at h
  split at h
  · cases h; exact T47_eq _
  · cases h
noncomputable def A48 : List Value → Option Pg
  | [(.slice p0 n1 n2)] => some (T48 p0 n1 n2)
  | _ => none
theorem A48_ok : ∀ args p, A48 args = some p → progOf PROG false 48 args = p := by
  intro args p h
  unfold A48 at h
  split at h
  · cases h; exact T48_eq _ _ _
  · cases h
noncomputable def A49 : List Value → Option Pg
  | [(.pointer p0), (.slice p1 n2 n3)] => some (T49 p0 p1 n2 n3)
  | _ => none
theorem A49_ok : ∀ args p, A49 args = some p → progOf PROG false 49 args = p := by
  intro args p h
  unfold A49 at h
  split at h
  · cases h; exact T49_eq _ _ _ _
  · cases h
noncomputable def A50 : List Value → Option Pg
  | [(.slice p0 n1 n2), (.int .u64 i3)] => some (T50 p0 n1 n2 i3)
  | _ => none
theorem A50_ok : ∀ args p, A50 args = some p → progOf PROG false 50 args = p := by
  intro args p h
  unfold A50 at h
  split at h
  · cases h; exact T50_eq _ _ _ _
  · cases h
noncomputable def A52 : List Value → Option Pg
  | [(.slice p0 n1 n2), v3] => some (T52 p0 n1 n2 v3)
  | _ => none
theorem A52_ok : ∀ args p, A52 args = some p → progOf PROG false 52 args = p := by
  intro args p h
  unfold A52 at h
  split at h
  · cases h; exact T52_eq _ _ _ _
  · cases h
noncomputable def A53 : List Value → Option Pg
  | [(.int .u64 i0)] => some (T53 i0)
  | _ => none
theorem A53_ok : ∀ args p, A53 args = some p → progOf PROG false 53 args = p := by
  intro args p h
  unfold A53 at h
  split at h
  · cases h; exact T53_eq _
  · cases h
noncomputable def A54 : List Value → Option Pg
  | [(.pointer p0), (.int .i64 i1)] => some (T54 p0 i1)
  | _ => none
theorem A54_ok : ∀ args p, A54 args = some p → progOf PROG false 54 args = p := by
  intro args p h
  unfold A54 at h
  split at h
  · cases h; exact T54_eq _ _
  · cases h
noncomputable def A55 : List Value → Option Pg
  | [(.int .u64 i0)] => some (T55 i0)
  | _ => none
theorem A55_ok : ∀ args p, A55 args = some p → progOf PROG false 55 args = p := by
  intro args p h
  unfold A55 at h
  split at h
  · cases h; exact T55_eq _
  · cases h
noncomputable def TAB : Tab := (.low 38 (.low 23 (.low 19 (.low 9 (.one 4 A4 (.one 9 A9 .nil)) (.one 18 A18 (.one 19 A19 .nil))) (.low 21 (.one 20 A20 (.one 21 A21 .nil)) (.one 22 A22 (.one 23 A23 .nil)))) (.low 27 (.low 25 (.one 24 A24 (.one 25 A25 .nil)) (.one 26 A26 (.one 27 A27 .nil))) (.low 36 (.one 28 A28 (.one 36 A36 .nil)) (.one 37 A37 (.one 38 A38 .nil))))) (.low 46 (.low 42 (.low 40 (.one 39 A39 (.one 40 A40 .nil)) (.one 41 A41 (.one 42 A42 .nil))) (.low 44 (.one 43 A43 (.one 44 A44 .nil)) (.one 45 A45 (.one 46 A46 .nil)))) (.low 50 (.low 48 (.one 47 A47 (.one 48 A48 .nil)) (.one 49 A49 (.one 50 A50 .nil))) (.low 53 (.one 52 A52 (.one 53 A53 .nil)) (.one 54 A54 (.one 55 A55 .nil))))))
theorem TAB_ok : TabOK PROG TAB := (.low (.low (.low (.low (.one A4_ok (.one A9_ok .nil)) (.one A18_ok (.one A19_ok .nil))) (.low (.one A20_ok (.one A21_ok .nil)) (.one A22_ok (.one A23_ok .nil)))) (.low (.low (.one A24_ok (.one A25_ok .nil)) (.one A26_ok (.one A27_ok .nil))) (.low (.one A28_ok (.one A36_ok .nil)) (.one A37_ok (.one A38_ok .nil))))) (.low (.low (.low (.one A39_ok (.one A40_ok .nil)) (.one A41_ok (.one A42_ok .nil))) (.low (.one A43_ok (.one A44_ok .nil)) (.one A45_ok (.one A46_ok .nil)))) (.low (.low (.one A47_ok (.one A48_ok .nil)) (.one A49_ok (.one A50_ok .nil))) (.low (.one A52_ok (.one A53_ok .nil)) (.one A54_ok (.one A55_ok .nil))))))

end Go.Pg
