/- The trees of the functions that the law reaches, written out by program; each is shown to be the function's own; then their table. -/
import Derived.Test.YtdphfhpngkhhhaaDoorProg
import Derived.KernelRfl
import Derived.Test.YtdphfhpngkhhhaaDoorPg3
namespace Go.Pg
open Go.Proofs
set_option linter.unusedVariables false
noncomputable abbrev PROG : Program := Tryd.prog

noncomputable def T4k0 : Ex → List Value → Pg :=
  fun e44 l45 => sw e44 .normal (asCons l45 fun v46 l47 => asBool v46 fun b48 => asNil l47 (.ret .ret [(.bool b48)])) (.fail)

/-- hindsight/hindsightlaw9.awake -/
noncomputable def T4 : Pg :=
  .call 5 [(.string (bs [43])), (.int .i64 4611686018427387903), (.int .i64 1)] fun v0 => asTuple v0 fun l1 => asCons l1 fun v2 l3 => asAgg v2 fun l4 => asCons l4 fun v5 l6 => asInt .i64 v5 fun i7 => asCons l6 fun v8 l9 => asInt .i64 v8 fun i10 => asCons l9 fun v11 l12 => asStr v11 fun s13 => asCons l12 fun v14 l15 => asSlice v14 fun p16 n17 n18 => asCons l15 fun v19 l20 => asInt .i64 v19 fun i21 => asCons l20 fun v22 l23 => asPtr v22 fun p24 => asCons l23 fun v25 l26 => asInt .i64 v25 fun i27 => asNil l26 (asCons l3 fun v28 l29 => asBool v28 fun b30 => asNil l29 (.act (newC [(.int .i64 0), (.int .i64 0), (.string (bs [])), (.slice none 0 0), (.int .i64 0), (.pointer none), (.int .i64 0)]) fun v31 => asPtr v31 fun p32 => asSome p32 fun a33 => .act (stC a33 [(.int .i64 i7), (.int .i64 i10), (.string s13), (.slice p16 n17 n18), (.int .i64 i21), (.pointer p24), (.int .i64 i27)]) fun v34 => asTuple v34 fun l35 => asNil l35 (.join (.call 11 [(.int .i64 4611686018427387904)] fun v36 => asInt .i64 v36 fun i37 => bif ((i37 == (-4611686018427387904)) && b30) == true then (.act (ld1 (aadd a33 0)) fun v38 => asInt .i64 v38 fun i39 => bif (i39 == 1) == true then (.act (ld1 (aadd a33 1)) fun v40 => asInt .i64 v40 fun i41 => bif (i41 == (-4611686018427387904)) == true then (.call 9 [(.agg #[(.int .i64 2), (.int .i64 1), (.string (bs [])), (.slice none 0 0), (.int .i64 0), (.pointer none), (.int .i64 0)]), (.agg #[(.int .i64 2), (.string (bs [])), (.int .i64 0), (.slice none 0 0)]), (.slice none 0 0), (.slice none 0 0)] fun v42 => asStr v42 fun s43 => .ret .normal [(.bool (s43.toList == (bs [116, 114, 117, 101]).toList))]) else (.ret .normal [(.bool false)])) else (.ret .normal [(.bool false)])) else (.ret .normal [(.bool false)])) (T4k0))))
theorem T4_eq : progOf PROG false 4 [] = T4 := by kernel_rfl


noncomputable def T5k0 (a5 : Addr) : Ex → List Value → Pg :=
  fun e141 l142 => sw e141 .ret (asCons l142 fun v143 l144 => asBool v143 fun b145 => asNil l144 (.act (ldN 7 a5) fun v146 => .ret .ret [(.tuple #[v146, (.bool b145)])])) (sw e141 .normal (asCons l142 fun v147 l148 => asBool v147 fun b149 => asNil l148 (.act (stC a5 [(.int .i64 0), (.int .i64 0), (.string (bs [])), (.slice none 0 0), (.int .i64 0), (.pointer none), (.int .i64 0)]) fun v150 => asTuple v150 fun l151 => asNil l151 (.act (ldN 7 a5) fun v152 => .ret .ret [(.tuple #[v152, (.bool false)])]))) (.fail))

/-- hindsight/val.Op -/
noncomputable def T5 (s0 : ByteArray) (i1 : Int) (i2 : Int) : Pg :=
  .act (newC [(.int .i64 0), (.int .i64 0), (.string (bs [])), (.slice none 0 0), (.int .i64 0), (.pointer none), (.int .i64 0)]) fun v3 => asPtr v3 fun p4 => asSome p4 fun a5 => .join (bif (s0.toList == (bs [43]).toList) then (.call 12 [(.int .i64 (wi64 (i1 + i2)))] fun v6 => asAgg v6 fun l7 => asCons l7 fun v8 l9 => asInt .i64 v8 fun i10 => asCons l9 fun v11 l12 => asInt .i64 v11 fun i13 => asCons l12 fun v14 l15 => asStr v14 fun s16 => asCons l15 fun v17 l18 => asSlice v17 fun p19 n20 n21 => asCons l18 fun v22 l23 => asInt .i64 v22 fun i24 => asCons l23 fun v25 l26 => asPtr v25 fun p27 => asCons l26 fun v28 l29 => asInt .i64 v28 fun i30 => asNil l29 (.act (stC a5 [(.int .i64 i10), (.int .i64 i13), (.string s16), (.slice p19 n20 n21), (.int .i64 i24), (.pointer p27), (.int .i64 i30)]) fun v31 => asTuple v31 fun l32 => asNil l32 (.ret .ret [(.bool true)]))) else (bif (s0.toList == (bs [45]).toList) then (.call 12 [(.int .i64 (wi64 (i1 - i2)))] fun v33 => asAgg v33 fun l34 => asCons l34 fun v35 l36 => asInt .i64 v35 fun i37 => asCons l36 fun v38 l39 => asInt .i64 v38 fun i40 => asCons l39 fun v41 l42 => asStr v41 fun s43 => asCons l42 fun v44 l45 => asSlice v44 fun p46 n47 n48 => asCons l45 fun v49 l50 => asInt .i64 v49 fun i51 => asCons l50 fun v52 l53 => asPtr v52 fun p54 => asCons l53 fun v55 l56 => asInt .i64 v55 fun i57 => asNil l56 (.act (stC a5 [(.int .i64 i37), (.int .i64 i40), (.string s43), (.slice p46 n47 n48), (.int .i64 i51), (.pointer p54), (.int .i64 i57)]) fun v58 => asTuple v58 fun l59 => asNil l59 (.ret .ret [(.bool true)]))) else (bif (s0.toList == (bs [42]).toList) then (.call 12 [(.int .i64 (wi64 (i1 * i2)))] fun v60 => asAgg v60 fun l61 => asCons l61 fun v62 l63 => asInt .i64 v62 fun i64 => asCons l63 fun v65 l66 => asInt .i64 v65 fun i67 => asCons l66 fun v68 l69 => asStr v68 fun s70 => asCons l69 fun v71 l72 => asSlice v71 fun p73 n74 n75 => asCons l72 fun v76 l77 => asInt .i64 v76 fun i78 => asCons l77 fun v79 l80 => asPtr v79 fun p81 => asCons l80 fun v82 l83 => asInt .i64 v82 fun i84 => asNil l83 (.act (stC a5 [(.int .i64 i64), (.int .i64 i67), (.string s70), (.slice p73 n74 n75), (.int .i64 i78), (.pointer p81), (.int .i64 i84)]) fun v85 => asTuple v85 fun l86 => asNil l86 (.ret .ret [(.bool true)]))) else (bif (s0.toList == (bs [60]).toList) then (.call 13 [(.bool (decide (i1 < i2)))] fun v87 => asAgg v87 fun l88 => asCons l88 fun v89 l90 => asInt .i64 v89 fun i91 => asCons l90 fun v92 l93 => asInt .i64 v92 fun i94 => asCons l93 fun v95 l96 => asStr v95 fun s97 => asCons l96 fun v98 l99 => asSlice v98 fun p100 n101 n102 => asCons l99 fun v103 l104 => asInt .i64 v103 fun i105 => asCons l104 fun v106 l107 => asPtr v106 fun p108 => asCons l107 fun v109 l110 => asInt .i64 v109 fun i111 => asNil l110 (.act (stC a5 [(.int .i64 i91), (.int .i64 i94), (.string s97), (.slice p100 n101 n102), (.int .i64 i105), (.pointer p108), (.int .i64 i111)]) fun v112 => asTuple v112 fun l113 => asNil l113 (.ret .ret [(.bool true)]))) else (bif (s0.toList == (bs [61]).toList) then (.call 13 [(.bool (i1 == i2))] fun v114 => asAgg v114 fun l115 => asCons l115 fun v116 l117 => asInt .i64 v116 fun i118 => asCons l117 fun v119 l120 => asInt .i64 v119 fun i121 => asCons l120 fun v122 l123 => asStr v122 fun s124 => asCons l123 fun v125 l126 => asSlice v125 fun p127 n128 n129 => asCons l126 fun v130 l131 => asInt .i64 v130 fun i132 => asCons l131 fun v133 l134 => asPtr v133 fun p135 => asCons l134 fun v136 l137 => asInt .i64 v136 fun i138 => asNil l137 (.act (stC a5 [(.int .i64 i118), (.int .i64 i121), (.string s124), (.slice p127 n128 n129), (.int .i64 i132), (.pointer p135), (.int .i64 i138)]) fun v139 => asTuple v139 fun l140 => asNil l140 (.ret .ret [(.bool true)]))) else (.ret .normal [(.bool false)])))))) (T5k0 a5)
theorem T5_eq (s0 : ByteArray) (i1 : Int) (i2 : Int) : progOf PROG false 5 [(.string s0), (.int .i64 i1), (.int .i64 i2)] = T5 s0 i1 i2 := by kernel_rfl


noncomputable def T6k0 (p8 : (Option Addr)) : Ex → List Value → Pg :=
  fun e43 l44 => sw e43 .ret (asCons l44 fun v45 l46 => asBool v45 fun b47 => asNil l46 (.ret .ret [(.pointer p8), (.bool b47)])) (sw e43 .normal (asCons l44 fun v48 l49 => asBool v48 fun b50 => asNil l49 (asSome p8 fun a51 => .act (ld1 (aadd a51 8)) fun v52 => asPtr v52 fun p53 => .ret .normal [(.pointer p53), (.bool b50)])) (.fail))

noncomputable def T6b0 (s1 : ByteArray) (a4 : Addr) : List Value → Pg :=
  fun l5 => asCons l5 fun v6 l7 => asPtr v6 fun p8 => asCons l7 fun v9 l10 => asBool v9 fun b11 => asNil l10 (bif (!(Option.isNone p8)) then (.join (asSome p8 fun a12 => .act (ld1 (aadd a12 0)) fun v13 => asStr v13 fun s14 => bif (s14.toList == s1.toList) then (asSome p8 fun a15 => .act (ldN 7 (aadd a15 1)) fun v16 => asAgg v16 fun l17 => asCons l17 fun v18 l19 => asInt .i64 v18 fun i20 => asCons l19 fun v21 l22 => asInt .i64 v21 fun i23 => asCons l22 fun v24 l25 => asStr v24 fun s26 => asCons l25 fun v27 l28 => asSlice v27 fun p29 n30 n31 => asCons l28 fun v32 l33 => asInt .i64 v32 fun i34 => asCons l33 fun v35 l36 => asPtr v35 fun p37 => asCons l36 fun v38 l39 => asInt .i64 v38 fun i40 => asNil l39 (.act (stC a4 [(.int .i64 i20), (.int .i64 i23), (.string s26), (.slice p29 n30 n31), (.int .i64 i34), (.pointer p37), (.int .i64 i40)]) fun v41 => asTuple v41 fun l42 => asNil l42 (.ret .ret [(.bool true)]))) else (.ret .normal [(.bool b11)])) (T6k0 p8)) else (.ret (.exit 0) [(.pointer p8), (.bool b11)]))

noncomputable def T6k1 (a4 : Addr) : Ex → List Value → Pg :=
  fun e54 l55 => sw e54 (.exit 0) (asCons l55 fun v56 l57 => asPtr v56 fun p58 => asCons l57 fun v59 l60 => asBool v59 fun b61 => asNil l60 (.act (stC a4 [(.int .i64 0), (.int .i64 0), (.string (bs [])), (.slice none 0 0), (.int .i64 0), (.pointer none), (.int .i64 0)]) fun v62 => asTuple v62 fun l63 => asNil l63 (.act (ldN 7 a4) fun v64 => .ret .ret [(.tuple #[v64, (.bool false)])]))) (sw e54 .ret (asCons l55 fun v65 l66 => asPtr v65 fun p67 => asCons l66 fun v68 l69 => asBool v68 fun b70 => asNil l69 (.act (ldN 7 a4) fun v71 => .ret .ret [(.tuple #[v71, (.bool b70)])])) (.fail))

/-- hindsight/val.Find -/
noncomputable def T6 (p0 : (Option Addr)) (s1 : ByteArray) : Pg :=
  .act (newC [(.int .i64 0), (.int .i64 0), (.string (bs [])), (.slice none 0 0), (.int .i64 0), (.pointer none), (.int .i64 0)]) fun v2 => asPtr v2 fun p3 => asSome p3 fun a4 => .loop [(.pointer p0), (.bool false)] (T6b0 s1 a4) (T6k1 a4)
theorem T6_eq (p0 : (Option Addr)) (s1 : ByteArray) : progOf PROG false 6 [(.pointer p0), (.string s1)] = T6 p0 s1 := by kernel_rfl


noncomputable def T7k0 (i9 : Int) : Ex → List Value → Pg :=
  fun e19 l20 => sw e19 .ret (asCons l20 fun v21 l22 => asBool v21 fun b23 => asNil l22 (.ret .ret [(.int .i64 i9), (.bool b23)])) (sw e19 .normal (asCons l20 fun v24 l25 => asBool v24 fun b26 => asNil l25 (.ret .normal [(.int .i64 (wi64 (i9 + 1))), (.bool b26)])) (.fail))

noncomputable def T7b0 (n1 : Nat) (p0 : (Option Addr)) (p3 : (Option Addr)) (n4 : Nat) : List Value → Pg :=
  fun l6 => asCons l6 fun v7 l8 => asInt .i64 v7 fun i9 => asCons l8 fun v10 l11 => asBool v10 fun b12 => asNil l11 (bif (decide (i9 < ((n1 : Nat) : Int))) then (.join (asSome p0 fun a13 => grd ((decide (0 ≤ i9)) && (decide (i9 < ((n1 : Nat) : Int)))) (.act (ld1 (aadd a13 ((Int.toNat i9) * 1))) fun v14 => asStr v14 fun s15 => asSome p3 fun a16 => grd ((decide (0 ≤ i9)) && (decide (i9 < ((n4 : Nat) : Int)))) (.act (ld1 (aadd a16 ((Int.toNat i9) * 1))) fun v17 => asStr v17 fun s18 => bif (!(s15.toList == s18.toList)) then (.ret .ret [(.bool false)]) else (.ret .normal [(.bool b12)])))) (T7k0 i9)) else (.ret (.exit 0) [(.int .i64 i9), (.bool b12)]))

noncomputable def T7k1 : Ex → List Value → Pg :=
  fun e27 l28 => sw e27 (.exit 0) (asCons l28 fun v29 l30 => asInt .i64 v29 fun i31 => asCons l30 fun v32 l33 => asBool v32 fun b34 => asNil l33 (.ret .ret [(.bool true)])) (sw e27 .ret (asCons l28 fun v35 l36 => asInt .i64 v35 fun i37 => asCons l36 fun v38 l39 => asBool v38 fun b40 => asNil l39 (.ret .ret [(.bool b40)])) (.fail))

/-- hindsight/hindsightlaw9.texts -/
noncomputable def T7 (p0 : (Option Addr)) (n1 : Nat) (n2 : Nat) (p3 : (Option Addr)) (n4 : Nat) (n5 : Nat) : Pg :=
  bif (((n1 : Nat) : Int) != ((n4 : Nat) : Int)) then (.ret .ret [(.bool false)]) else (.loop [(.int .i64 0), (.bool false)] (T7b0 n1 p0 p3 n4) (T7k1))
theorem T7_eq (p0 : (Option Addr)) (n1 : Nat) (n2 : Nat) (p3 : (Option Addr)) (n4 : Nat) (n5 : Nat) : progOf PROG false 7 [(.slice p0 n1 n2), (.slice p3 n4 n5)] = T7 p0 n1 n2 p3 n4 n5 := by kernel_rfl


noncomputable def T8k0 : Ex → List Value → Pg :=
  fun e26 l27 => sw e26 .normal (asCons l27 fun v28 l29 => asSlice v28 fun p30 n31 n32 => asNil l29 (.ret .normal [(.slice p30 n31 n32)])) (.fail)

noncomputable def T8k1 (p4 : (Option Addr)) : Ex → List Value → Pg :=
  fun e33 l34 => sw e33 .normal (asCons l34 fun v35 l36 => asSlice v35 fun p37 n38 n39 => asNil l36 (asSome p4 fun a40 => .act (ld1 (aadd a40 8)) fun v41 => asPtr v41 fun p42 => .ret .normal [(.pointer p42), (.slice p37 n38 n39)])) (.fail)

noncomputable def T8b0 : List Value → Pg :=
  fun l1 => asCons l1 fun v2 l3 => asPtr v2 fun p4 => asCons l3 fun v5 l6 => asSlice v5 fun p7 n8 n9 => asNil l6 (bif (!(Option.isNone p4)) then (.join (asSome p4 fun a10 => .act (ld1 (aadd a10 0)) fun v11 => asStr v11 fun s12 => .call 14 [(.slice p7 n8 n9), (.string s12)] fun v13 => asBool v13 fun b14 => .join (bif (!b14) then (asSome p4 fun a15 => .act (ld1 (aadd a15 0)) fun v16 => asStr v16 fun s17 => .act (bdSl 1 1 [(.string s17)]) fun v18 => asSlice v18 fun p19 n20 n21 => .act (apS 1 16 p7 n8 n9 p19 n20 n21) fun v22 => asSlice v22 fun p23 n24 n25 => .ret .normal [(.slice p23 n24 n25)]) else (.ret .normal [(.slice p7 n8 n9)])) (T8k0)) (T8k1 p4)) else (.ret (.exit 0) [(.pointer p4), (.slice p7 n8 n9)]))

noncomputable def T8k2 : Ex → List Value → Pg :=
  fun e43 l44 => sw e43 (.exit 0) (asCons l44 fun v45 l46 => asPtr v45 fun p47 => asCons l46 fun v48 l49 => asSlice v48 fun p50 n51 n52 => asNil l49 (.ret .ret [(.slice p50 n51 n52)])) (.fail)

/-- hindsight/val.Names -/
noncomputable def T8 (p0 : (Option Addr)) : Pg :=
  .loop [(.pointer p0), (.slice none 0 0)] (T8b0) (T8k2)
theorem T8_eq (p0 : (Option Addr)) : progOf PROG false 8 [(.pointer p0)] = T8 p0 := by kernel_rfl


/-- hindsight/val.Render -/
noncomputable def T9 (i0 : Int) (i1 : Int) (s2 : ByteArray) (p3 : (Option Addr)) (n4 : Nat) (n5 : Nat) (i6 : Int) (p7 : (Option Addr)) (i8 : Int) (i9 : Int) (s10 : ByteArray) (i11 : Int) (p12 : (Option Addr)) (n13 : Nat) (n14 : Nat) (p15 : (Option Addr)) (n16 : Nat) (n17 : Nat) (p18 : (Option Addr)) (n19 : Nat) (n20 : Nat) : Pg :=
  .act (newC [(.int .i64 i0), (.int .i64 i1), (.string s2), (.slice p3 n4 n5), (.int .i64 i6), (.pointer p7), (.int .i64 i8)]) fun v21 => asPtr v21 fun p22 => asSome p22 fun a23 => .act (newC [(.int .i64 i9), (.string s10), (.int .i64 i11), (.slice p12 n13 n14)]) fun v24 => asPtr v24 fun p25 => asSome p25 fun a26 => .act (ldN 7 a23) fun v27 => asAgg v27 fun l28 => asCons l28 fun v29 l30 => asInt .i64 v29 fun i31 => asCons l30 fun v32 l33 => asInt .i64 v32 fun i34 => asCons l33 fun v35 l36 => asStr v35 fun s37 => asCons l36 fun v38 l39 => asSlice v38 fun p40 n41 n42 => asCons l39 fun v43 l44 => asInt .i64 v43 fun i45 => asCons l44 fun v46 l47 => asPtr v46 fun p48 => asCons l47 fun v49 l50 => asInt .i64 v49 fun i51 => asNil l50 (.act (ldN 4 a26) fun v52 => asAgg v52 fun l53 => asCons l53 fun v54 l55 => asInt .i64 v54 fun i56 => asCons l55 fun v57 l58 => asStr v57 fun s59 => asCons l58 fun v60 l61 => asInt .i64 v60 fun i62 => asCons l61 fun v63 l64 => asSlice v63 fun p65 n66 n67 => asNil l64 (.call 15 [(.agg #[(.slice p15 n16 n17), (.slice p18 n19 n20)]), (.agg #[(.int .i64 i31), (.int .i64 i34), (.string s37), (.slice p40 n41 n42), (.int .i64 i45), (.pointer p48), (.int .i64 i51)]), (.agg #[(.int .i64 i56), (.string s59), (.int .i64 i62), (.slice p65 n66 n67)]), (.int .i64 0)] fun v68 => asStr v68 fun s69 => .ret .ret [(.string s69)]))
theorem T9_eq (i0 : Int) (i1 : Int) (s2 : ByteArray) (p3 : (Option Addr)) (n4 : Nat) (n5 : Nat) (i6 : Int) (p7 : (Option Addr)) (i8 : Int) (i9 : Int) (s10 : ByteArray) (i11 : Int) (p12 : (Option Addr)) (n13 : Nat) (n14 : Nat) (p15 : (Option Addr)) (n16 : Nat) (n17 : Nat) (p18 : (Option Addr)) (n19 : Nat) (n20 : Nat) : progOf PROG false 9 [(.agg #[(.int .i64 i0), (.int .i64 i1), (.string s2), (.slice p3 n4 n5), (.int .i64 i6), (.pointer p7), (.int .i64 i8)]), (.agg #[(.int .i64 i9), (.string s10), (.int .i64 i11), (.slice p12 n13 n14)]), (.slice p15 n16 n17), (.slice p18 n19 n20)] = T9 i0 i1 s2 p3 n4 n5 i6 p7 i8 i9 s10 i11 p12 n13 n14 p15 n16 n17 p18 n19 n20 := by kernel_rfl


noncomputable def T10k0 (i64 : Int) : Ex → List Value → Pg :=
  fun e130 l131 => sw e130 .ret (asCons l131 fun v132 l133 => asBool v132 fun b134 => asNil l133 (.ret .ret [(.int .i64 i64), (.bool b134)])) (sw e130 .normal (asCons l131 fun v135 l136 => asBool v135 fun b137 => asNil l136 (.ret .normal [(.int .i64 (wi64 (i64 + 1))), (.bool b137)])) (.fail))

noncomputable def T10b0 (n59 : Nat) (a20 : Addr) (a23 : Addr) : List Value → Pg :=
  fun l61 => asCons l61 fun v62 l63 => asInt .i64 v62 fun i64 => asCons l63 fun v65 l66 => asBool v65 fun b67 => asNil l66 (bif (decide (i64 < ((n59 : Nat) : Int))) then (.join (.act (ld1 (aadd a20 3)) fun v68 => asSlice v68 fun p69 n70 n71 => asSome p69 fun a72 => grd ((decide (0 ≤ i64)) && (decide (i64 < ((n70 : Nat) : Int)))) (.act (ldN 7 (aadd a72 ((Int.toNat i64) * 7))) fun v73 => asAgg v73 fun l74 => asCons l74 fun v75 l76 => asInt .i64 v75 fun i77 => asCons l76 fun v78 l79 => asInt .i64 v78 fun i80 => asCons l79 fun v81 l82 => asStr v81 fun s83 => asCons l82 fun v84 l85 => asSlice v84 fun p86 n87 n88 => asCons l85 fun v89 l90 => asInt .i64 v89 fun i91 => asCons l90 fun v92 l93 => asPtr v92 fun p94 => asCons l93 fun v95 l96 => asInt .i64 v95 fun i97 => asNil l96 (.act (ld1 (aadd a23 3)) fun v98 => asSlice v98 fun p99 n100 n101 => asSome p99 fun a102 => grd ((decide (0 ≤ i64)) && (decide (i64 < ((n100 : Nat) : Int)))) (.act (ldN 7 (aadd a102 ((Int.toNat i64) * 7))) fun v103 => asAgg v103 fun l104 => asCons l104 fun v105 l106 => asInt .i64 v105 fun i107 => asCons l106 fun v108 l109 => asInt .i64 v108 fun i110 => asCons l109 fun v111 l112 => asStr v111 fun s113 => asCons l112 fun v114 l115 => asSlice v114 fun p116 n117 n118 => asCons l115 fun v119 l120 => asInt .i64 v119 fun i121 => asCons l120 fun v122 l123 => asPtr v122 fun p124 => asCons l123 fun v125 l126 => asInt .i64 v125 fun i127 => asNil l126 (.call 10 [(.agg #[(.int .i64 i77), (.int .i64 i80), (.string s83), (.slice p86 n87 n88), (.int .i64 i91), (.pointer p94), (.int .i64 i97)]), (.agg #[(.int .i64 i107), (.int .i64 i110), (.string s113), (.slice p116 n117 n118), (.int .i64 i121), (.pointer p124), (.int .i64 i127)])] fun v128 => asBool v128 fun b129 => bif (!b129) then (.ret .ret [(.bool false)]) else (.ret .normal [(.bool b67)])))))) (T10k0 i64)) else (.ret (.exit 0) [(.int .i64 i64), (.bool b67)]))

noncomputable def T10k1 : Ex → List Value → Pg :=
  fun e138 l139 => sw e138 (.exit 0) (asCons l139 fun v140 l141 => asInt .i64 v140 fun i142 => asCons l141 fun v143 l144 => asBool v143 fun b145 => asNil l144 (.ret .ret [(.bool true)])) (sw e138 .ret (asCons l139 fun v146 l147 => asInt .i64 v146 fun i148 => asCons l147 fun v149 l150 => asBool v149 fun b151 => asNil l150 (.ret .ret [(.bool b151)])) (.fail))

noncomputable def T10k2 (a20 : Addr) (a23 : Addr) : Ex → List Value → Pg :=
  fun e52 l53 => sw e52 .normal (asCons l53 fun v54 l55 => asBool v54 fun b56 => asNil l55 (bif b56 then (.ret .ret [(.bool false)]) else (.act (ld1 (aadd a20 3)) fun v57 => asSlice v57 fun p58 n59 n60 => .loop [(.int .i64 0), (.bool false)] (T10b0 n59 a20 a23) (T10k1)))) (.fail)

/-- hindsight/val.Same -/
noncomputable def T10 (i0 : Int) (i1 : Int) (s2 : ByteArray) (p3 : (Option Addr)) (n4 : Nat) (n5 : Nat) (i6 : Int) (p7 : (Option Addr)) (i8 : Int) (i9 : Int) (i10 : Int) (s11 : ByteArray) (p12 : (Option Addr)) (n13 : Nat) (n14 : Nat) (i15 : Int) (p16 : (Option Addr)) (i17 : Int) : Pg :=
  .act (newC [(.int .i64 i0), (.int .i64 i1), (.string s2), (.slice p3 n4 n5), (.int .i64 i6), (.pointer p7), (.int .i64 i8)]) fun v18 => asPtr v18 fun p19 => asSome p19 fun a20 => .act (newC [(.int .i64 i9), (.int .i64 i10), (.string s11), (.slice p12 n13 n14), (.int .i64 i15), (.pointer p16), (.int .i64 i17)]) fun v21 => asPtr v21 fun p22 => asSome p22 fun a23 => .join (.act (ld1 (aadd a20 0)) fun v24 => asInt .i64 v24 fun i25 => .act (ld1 (aadd a23 0)) fun v26 => asInt .i64 v26 fun i27 => bif (i25 != i27) == false then (.act (ld1 (aadd a20 1)) fun v28 => asInt .i64 v28 fun i29 => .act (ld1 (aadd a23 1)) fun v30 => asInt .i64 v30 fun i31 => bif (i29 != i31) == false then (.act (ld1 (aadd a20 2)) fun v32 => asStr v32 fun s33 => .act (ld1 (aadd a23 2)) fun v34 => asStr v34 fun s35 => bif (!(s33.toList == s35.toList)) == false then (.act (ld1 (aadd a20 4)) fun v36 => asInt .i64 v36 fun i37 => .act (ld1 (aadd a23 4)) fun v38 => asInt .i64 v38 fun i39 => bif (i37 != i39) == false then (.act (ld1 (aadd a20 6)) fun v40 => asInt .i64 v40 fun i41 => .act (ld1 (aadd a23 6)) fun v42 => asInt .i64 v42 fun i43 => bif (i41 != i43) == false then (.act (ld1 (aadd a20 3)) fun v44 => asSlice v44 fun p45 n46 n47 => .act (ld1 (aadd a23 3)) fun v48 => asSlice v48 fun p49 n50 n51 => .ret .normal [(.bool (((n46 : Nat) : Int) != ((n50 : Nat) : Int)))]) else (.ret .normal [(.bool true)])) else (.ret .normal [(.bool true)])) else (.ret .normal [(.bool true)])) else (.ret .normal [(.bool true)])) else (.ret .normal [(.bool true)])) (T10k2 a20 a23)
theorem T10_eq (i0 : Int) (i1 : Int) (s2 : ByteArray) (p3 : (Option Addr)) (n4 : Nat) (n5 : Nat) (i6 : Int) (p7 : (Option Addr)) (i8 : Int) (i9 : Int) (i10 : Int) (s11 : ByteArray) (p12 : (Option Addr)) (n13 : Nat) (n14 : Nat) (i15 : Int) (p16 : (Option Addr)) (i17 : Int) : progOf PROG false 10 [(.agg #[(.int .i64 i0), (.int .i64 i1), (.string s2), (.slice p3 n4 n5), (.int .i64 i6), (.pointer p7), (.int .i64 i8)]), (.agg #[(.int .i64 i9), (.int .i64 i10), (.string s11), (.slice p12 n13 n14), (.int .i64 i15), (.pointer p16), (.int .i64 i17)])] = T10 i0 i1 s2 p3 n4 n5 i6 p7 i8 i9 i10 s11 p12 n13 n14 i15 p16 i17 := by kernel_rfl


/-- hindsight/val.Wrap -/
noncomputable def T11 (i0 : Int) : Pg :=
  .ret .ret [(.int .i64 (shrI .i64 (shlI .i64 i0 1) 1))]
theorem T11_eq (i0 : Int) : progOf PROG false 11 [(.int .i64 i0)] = T11 i0 := by kernel_rfl


/-- hindsight/val.Number -/
noncomputable def T12 (i0 : Int) : Pg :=
  .act (newC [(.int .i64 0), (.int .i64 0), (.string (bs [])), (.slice none 0 0), (.int .i64 0), (.pointer none), (.int .i64 0)]) fun v1 => asPtr v1 fun p2 => asSome p2 fun a3 => .call 11 [(.int .i64 i0)] fun v4 => asInt .i64 v4 fun i5 => .act (stC a3 [(.int .i64 1), (.int .i64 i5), (.string (bs [])), (.slice none 0 0), (.int .i64 0), (.pointer none), (.int .i64 0)]) fun v6 => asTuple v6 fun l7 => asNil l7 (.act (ldN 7 a3) fun v8 => .ret .ret [v8])
theorem T12_eq (i0 : Int) : progOf PROG false 12 [(.int .i64 i0)] = T12 i0 := by kernel_rfl


noncomputable def T13k0 (a6 : Addr) (a3 : Addr) : Ex → List Value → Pg :=
  fun e11 l12 => sw e11 .normal (asNil l12 (.act (ldN 7 a6) fun v13 => asAgg v13 fun l14 => asCons l14 fun v15 l16 => asInt .i64 v15 fun i17 => asCons l16 fun v18 l19 => asInt .i64 v18 fun i20 => asCons l19 fun v21 l22 => asStr v21 fun s23 => asCons l22 fun v24 l25 => asSlice v24 fun p26 n27 n28 => asCons l25 fun v29 l30 => asInt .i64 v29 fun i31 => asCons l30 fun v32 l33 => asPtr v32 fun p34 => asCons l33 fun v35 l36 => asInt .i64 v35 fun i37 => asNil l36 (.act (stC a3 [(.int .i64 i17), (.int .i64 i20), (.string s23), (.slice p26 n27 n28), (.int .i64 i31), (.pointer p34), (.int .i64 i37)]) fun v38 => asTuple v38 fun l39 => asNil l39 (.act (ldN 7 a3) fun v40 => .ret .ret [v40])))) (.fail)

/-- hindsight/val.truth -/
noncomputable def T13 (b0 : Bool) : Pg :=
  .act (newC [(.int .i64 0), (.int .i64 0), (.string (bs [])), (.slice none 0 0), (.int .i64 0), (.pointer none), (.int .i64 0)]) fun v1 => asPtr v1 fun p2 => asSome p2 fun a3 => .act (newC [(.int .i64 0), (.int .i64 0), (.string (bs [])), (.slice none 0 0), (.int .i64 0), (.pointer none), (.int .i64 0)]) fun v4 => asPtr v4 fun p5 => asSome p5 fun a6 => .act (stC a6 [(.int .i64 2), (.int .i64 0), (.string (bs [])), (.slice none 0 0), (.int .i64 0), (.pointer none), (.int .i64 0)]) fun v7 => asTuple v7 fun l8 => asNil l8 (.join (bif b0 then (.act (stC (aadd a6 1) [(.int .i64 1)]) fun v9 => asTuple v9 fun l10 => asNil l10 (.ret .normal [])) else (.ret .normal [])) (T13k0 a6 a3))
theorem T13_eq (b0 : Bool) : progOf PROG false 13 [(.bool b0)] = T13 b0 := by kernel_rfl


/-- slices.Contains[[]string,string] -/
noncomputable def T14 (p0 : (Option Addr)) (n1 : Nat) (n2 : Nat) (s3 : ByteArray) : Pg :=
  .call 16 [(.slice p0 n1 n2), (.string s3)] fun v4 => asInt .i64 v4 fun i5 => .ret .ret [(.bool (decide (i5 ≥ 0)))]
theorem T14_eq (p0 : (Option Addr)) (n1 : Nat) (n2 : Nat) (s3 : ByteArray) : progOf PROG false 14 [(.slice p0 n1 n2), (.string s3)] = T14 p0 n1 n2 s3 := by kernel_rfl


noncomputable def T15k0 : Ex → List Value → Pg :=
  fun e158 l159 => sw e158 .ret (asCons l159 fun v160 l161 => asStr v160 fun s162 => asNil l161 (.ret .ret [(.string s162)])) (sw e158 .normal (asCons l159 fun v163 l164 => asStr v163 fun s165 => asNil l164 (.ret .ret [(.string (bs [63]))])) (.fail))

noncomputable def T15k1 (a27 : Addr) (a24 : Addr) (a30 : Addr) (i21 : Int) : Ex → List Value → Pg :=
  fun e40 l41 => sw e40 .ret (asCons l41 fun v42 l43 => asStr v42 fun s44 => asNil l43 (.ret .ret [(.string s44)])) (sw e40 .normal (asCons l41 fun v45 l46 => asStr v45 fun s47 => asNil l46 (.act (ld1 (aadd a27 0)) fun v48 => asInt .i64 v48 fun i49 => .join (bif (i49 == 1) then (.act (ld1 (aadd a27 1)) fun v50 => asInt .i64 v50 fun i51 => .call 18 [(.int .i64 i51), (.int .i64 10)] fun v52 => asStr v52 fun s53 => .ret .ret [(.string s53)]) else (bif (i49 == 2) then (.act (ld1 (aadd a27 1)) fun v54 => asInt .i64 v54 fun i55 => .call 19 [(.bool (i55 == 1))] fun v56 => asStr v56 fun s57 => .ret .ret [(.string s57)]) else (bif (i49 == 3) then (.ret .ret [(.string (bs [40, 41]))]) else (bif (i49 == 5) then (.ret .ret [(.string (bs [60, 102, 117, 110, 62]))]) else (bif (i49 == 6) then (.act (ldN 2 a24) fun v58 => asAgg v58 fun l59 => asCons l59 fun v60 l61 => asSlice v60 fun p62 n63 n64 => asCons l61 fun v65 l66 => asSlice v65 fun p67 n68 n69 => asNil l66 (.act (ldN 7 a27) fun v70 => asAgg v70 fun l71 => asCons l71 fun v72 l73 => asInt .i64 v72 fun i74 => asCons l73 fun v75 l76 => asInt .i64 v75 fun i77 => asCons l76 fun v78 l79 => asStr v78 fun s80 => asCons l79 fun v81 l82 => asSlice v81 fun p83 n84 n85 => asCons l82 fun v86 l87 => asInt .i64 v86 fun i88 => asCons l87 fun v89 l90 => asPtr v89 fun p91 => asCons l90 fun v92 l93 => asInt .i64 v92 fun i94 => asNil l93 (.act (ldN 4 a30) fun v95 => asAgg v95 fun l96 => asCons l96 fun v97 l98 => asInt .i64 v97 fun i99 => asCons l98 fun v100 l101 => asStr v100 fun s102 => asCons l101 fun v103 l104 => asInt .i64 v103 fun i105 => asCons l104 fun v106 l107 => asSlice v106 fun p108 n109 n110 => asNil l107 (.call 20 [(.agg #[(.slice p62 n63 n64), (.slice p67 n68 n69)]), (.agg #[(.int .i64 i74), (.int .i64 i77), (.string s80), (.slice p83 n84 n85), (.int .i64 i88), (.pointer p91), (.int .i64 i94)]), (.agg #[(.int .i64 i99), (.string s102), (.int .i64 i105), (.slice p108 n109 n110)]), (.int .i64 i21)] fun v111 => asStr v111 fun s112 => .ret .ret [(.string s112)])))) else (bif (i49 == 4) then (.act (ld1 (aadd a27 3)) fun v113 => asSlice v113 fun p114 n115 n116 => bif (decide (((n115 : Nat) : Int) > 0)) then (.act (ldN 2 a24) fun v117 => asAgg v117 fun l118 => asCons l118 fun v119 l120 => asSlice v119 fun p121 n122 n123 => asCons l120 fun v124 l125 => asSlice v124 fun p126 n127 n128 => asNil l125 (.act (ldN 7 a27) fun v129 => asAgg v129 fun l130 => asCons l130 fun v131 l132 => asInt .i64 v131 fun i133 => asCons l132 fun v134 l135 => asInt .i64 v134 fun i136 => asCons l135 fun v137 l138 => asStr v137 fun s139 => asCons l138 fun v140 l141 => asSlice v140 fun p142 n143 n144 => asCons l141 fun v145 l146 => asInt .i64 v145 fun i147 => asCons l146 fun v148 l149 => asPtr v148 fun p150 => asCons l149 fun v151 l152 => asInt .i64 v151 fun i153 => asNil l152 (.call 21 [(.agg #[(.slice p121 n122 n123), (.slice p126 n127 n128)]), (.agg #[(.int .i64 i133), (.int .i64 i136), (.string s139), (.slice p142 n143 n144), (.int .i64 i147), (.pointer p150), (.int .i64 i153)]), (.int .i64 i21)] fun v154 => asStr v154 fun s155 => .ret .ret [(.string s155)]))) else (.act (ld1 (aadd a27 2)) fun v156 => asStr v156 fun s157 => .ret .ret [(.string s157)])) else (.ret .normal [(.string s47)]))))))) (T15k0))) (.fail))

/-- (hindsight/val.renderer).value -/
noncomputable def T15 (p0 : (Option Addr)) (n1 : Nat) (n2 : Nat) (p3 : (Option Addr)) (n4 : Nat) (n5 : Nat) (i6 : Int) (i7 : Int) (s8 : ByteArray) (p9 : (Option Addr)) (n10 : Nat) (n11 : Nat) (i12 : Int) (p13 : (Option Addr)) (i14 : Int) (i15 : Int) (s16 : ByteArray) (i17 : Int) (p18 : (Option Addr)) (n19 : Nat) (n20 : Nat) (i21 : Int) : Pg :=
  .act (newC [(.slice p0 n1 n2), (.slice p3 n4 n5)]) fun v22 => asPtr v22 fun p23 => asSome p23 fun a24 => .act (newC [(.int .i64 i6), (.int .i64 i7), (.string s8), (.slice p9 n10 n11), (.int .i64 i12), (.pointer p13), (.int .i64 i14)]) fun v25 => asPtr v25 fun p26 => asSome p26 fun a27 => .act (newC [(.int .i64 i15), (.string s16), (.int .i64 i17), (.slice p18 n19 n20)]) fun v28 => asPtr v28 fun p29 => asSome p29 fun a30 => .join (bif (decide (i21 ≥ 50)) then (.ret .ret [(.string (bs [46, 46]))]) else (.act (ld1 (aadd a30 0)) fun v31 => asInt .i64 v31 fun i32 => bif (i32 == 7) then (.ret .ret [(.string (bs [60, 112, 111, 108, 121, 62]))]) else (.act (ld1 (aadd a27 0)) fun v33 => asInt .i64 v33 fun i34 => .act (ld1 (aadd a30 0)) fun v35 => asInt .i64 v35 fun i36 => .call 17 [(.int .i64 i36)] fun v37 => asInt .i64 v37 fun i38 => .get fun h39 => grd (chks [((ld1 (aadd a27 0)), v33)] h39) (bif (i34 != i38) then (.ret .ret [(.string (bs [63]))]) else (.ret .normal [(.string (bs []))]))))) (T15k1 a27 a24 a30 i21)
theorem T15_eq (p0 : (Option Addr)) (n1 : Nat) (n2 : Nat) (p3 : (Option Addr)) (n4 : Nat) (n5 : Nat) (i6 : Int) (i7 : Int) (s8 : ByteArray) (p9 : (Option Addr)) (n10 : Nat) (n11 : Nat) (i12 : Int) (p13 : (Option Addr)) (i14 : Int) (i15 : Int) (s16 : ByteArray) (i17 : Int) (p18 : (Option Addr)) (n19 : Nat) (n20 : Nat) (i21 : Int) : progOf PROG false 15 [(.agg #[(.slice p0 n1 n2), (.slice p3 n4 n5)]), (.agg #[(.int .i64 i6), (.int .i64 i7), (.string s8), (.slice p9 n10 n11), (.int .i64 i12), (.pointer p13), (.int .i64 i14)]), (.agg #[(.int .i64 i15), (.string s16), (.int .i64 i17), (.slice p18 n19 n20)]), (.int .i64 i21)] = T15 p0 n1 n2 p3 n4 n5 i6 i7 s8 p9 n10 n11 i12 p13 i14 i15 s16 i17 p18 n19 n20 i21 := by kernel_rfl


noncomputable def T16k0 (i7 : Int) : Ex → List Value → Pg :=
  fun e14 l15 => sw e14 .ret (asCons l15 fun v16 l17 => asInt .i64 v16 fun i18 => asNil l17 (.ret .ret [(.int .i64 i7), (.int .i64 i18)])) (sw e14 .normal (asCons l15 fun v19 l20 => asInt .i64 v19 fun i21 => asNil l20 (.ret .normal [(.int .i64 (wi64 (i7 + 1))), (.int .i64 i21)])) (.fail))

noncomputable def T16b0 (n1 : Nat) (p0 : (Option Addr)) (s3 : ByteArray) : List Value → Pg :=
  fun l4 => asCons l4 fun v5 l6 => asInt .i64 v5 fun i7 => asCons l6 fun v8 l9 => asInt .i64 v8 fun i10 => asNil l9 (bif (decide (i7 < ((n1 : Nat) : Int))) then (.join (asSome p0 fun a11 => grd ((decide (0 ≤ i7)) && (decide (i7 < ((n1 : Nat) : Int)))) (.act (ld1 (aadd a11 ((Int.toNat i7) * 1))) fun v12 => asStr v12 fun s13 => bif (s3.toList == s13.toList) then (.ret .ret [(.int .i64 i7)]) else (.ret .normal [(.int .i64 i10)]))) (T16k0 i7)) else (.ret (.exit 0) [(.int .i64 i7), (.int .i64 i10)]))

noncomputable def T16k1 : Ex → List Value → Pg :=
  fun e22 l23 => sw e22 (.exit 0) (asCons l23 fun v24 l25 => asInt .i64 v24 fun i26 => asCons l25 fun v27 l28 => asInt .i64 v27 fun i29 => asNil l28 (.ret .ret [(.int .i64 (-1))])) (sw e22 .ret (asCons l23 fun v30 l31 => asInt .i64 v30 fun i32 => asCons l31 fun v33 l34 => asInt .i64 v33 fun i35 => asNil l34 (.ret .ret [(.int .i64 i35)])) (.fail))

/-- slices.Index[[]string,string] -/
noncomputable def T16 (p0 : (Option Addr)) (n1 : Nat) (n2 : Nat) (s3 : ByteArray) : Pg :=
  .loop [(.int .i64 0), (.int .i64 0)] (T16b0 n1 p0 s3) (T16k1)
theorem T16_eq (p0 : (Option Addr)) (n1 : Nat) (n2 : Nat) (s3 : ByteArray) : progOf PROG false 16 [(.slice p0 n1 n2), (.string s3)] = T16 p0 n1 n2 s3 := by kernel_rfl


noncomputable def T17k0 : Ex → List Value → Pg :=
  fun e1 l2 => sw e1 .ret (asCons l2 fun v3 l4 => asInt .i64 v3 fun i5 => asNil l4 (.ret .ret [(.int .i64 i5)])) (sw e1 .normal (asCons l2 fun v6 l7 => asInt .i64 v6 fun i8 => asNil l7 (.ret .ret [(.int .i64 0)])) (.fail))

/-- hindsight/val.fits -/
noncomputable def T17 (i0 : Int) : Pg :=
  .join (bif (i0 == 1) then (.ret .ret [(.int .i64 1)]) else (bif (i0 == 2) then (.ret .ret [(.int .i64 2)]) else (bif (i0 == 3) then (.ret .ret [(.int .i64 3)]) else (bif (i0 == 4) then (.ret .ret [(.int .i64 4)]) else (bif (i0 == 5) then (.ret .ret [(.int .i64 5)]) else (bif (i0 == 6) then (.ret .ret [(.int .i64 6)]) else (.ret .normal [(.int .i64 0)]))))))) (T17k0)
theorem T17_eq (i0 : Int) : progOf PROG false 17 [(.int .i64 i0)] = T17 i0 := by kernel_rfl


/-- strconv.FormatBool -/
noncomputable def T19 (b0 : Bool) : Pg :=
  .call 23 [(.bool b0)] fun v1 => asStr v1 fun s2 => .ret .ret [(.string s2)]
theorem T19_eq (b0 : Bool) : progOf PROG false 19 [(.bool b0)] = T19 b0 := by kernel_rfl


noncomputable def T20k0 (a24 : Addr) (a27 : Addr) (a30 : Addr) (i21 : Int) : Ex → List Value → Pg :=
  fun e43 l44 => sw e43 .normal (asCons l44 fun v45 l46 => asBool v45 fun b47 => asNil l46 (bif b47 then (.ret .ret [(.string (bs [114, 101, 102, 32, 63]))]) else (.act (ldN 2 a24) fun v48 => asAgg v48 fun l49 => asCons l49 fun v50 l51 => asSlice v50 fun p52 n53 n54 => asCons l51 fun v55 l56 => asSlice v55 fun p57 n58 n59 => asNil l56 (.act (ld1 (aadd a24 0)) fun v60 => asSlice v60 fun p61 n62 n63 => .act (ld1 (aadd a27 6)) fun v64 => asInt .i64 v64 fun i65 => asSome p61 fun a66 => grd ((decide (0 ≤ i65)) && (decide (i65 < ((n62 : Nat) : Int)))) (.act (ldN 7 (aadd a66 ((Int.toNat i65) * 7))) fun v67 => asAgg v67 fun l68 => asCons l68 fun v69 l70 => asInt .i64 v69 fun i71 => asCons l70 fun v72 l73 => asInt .i64 v72 fun i74 => asCons l73 fun v75 l76 => asStr v75 fun s77 => asCons l76 fun v78 l79 => asSlice v78 fun p80 n81 n82 => asCons l79 fun v83 l84 => asInt .i64 v83 fun i85 => asCons l84 fun v86 l87 => asPtr v86 fun p88 => asCons l87 fun v89 l90 => asInt .i64 v89 fun i91 => asNil l90 (.act (ld1 (aadd a30 3)) fun v92 => asSlice v92 fun p93 n94 n95 => asSome p93 fun a96 => grd (decide (0 < ((n94 : Nat) : Int))) (.act (ldN 4 (aadd a96 0)) fun v97 => asAgg v97 fun l98 => asCons l98 fun v99 l100 => asInt .i64 v99 fun i101 => asCons l100 fun v102 l103 => asStr v102 fun s104 => asCons l103 fun v105 l106 => asInt .i64 v105 fun i107 => asCons l106 fun v108 l109 => asSlice v108 fun p110 n111 n112 => asNil l109 (.call 15 [(.agg #[(.slice p52 n53 n54), (.slice p57 n58 n59)]), (.agg #[(.int .i64 i71), (.int .i64 i74), (.string s77), (.slice p80 n81 n82), (.int .i64 i85), (.pointer p88), (.int .i64 i91)]), (.agg #[(.int .i64 i101), (.string s104), (.int .i64 i107), (.slice p110 n111 n112)]), (.int .i64 (wi64 (i21 + 1)))] fun v113 => asStr v113 fun s114 => grd (Nat.ble (4 + s114.size) 9223372036854775807) (.ret .ret [(.string ((bs [114, 101, 102, 32]) ++ s114))]))))))))) (.fail)

/-- (hindsight/val.renderer).cell -/
noncomputable def T20 (p0 : (Option Addr)) (n1 : Nat) (n2 : Nat) (p3 : (Option Addr)) (n4 : Nat) (n5 : Nat) (i6 : Int) (i7 : Int) (s8 : ByteArray) (p9 : (Option Addr)) (n10 : Nat) (n11 : Nat) (i12 : Int) (p13 : (Option Addr)) (i14 : Int) (i15 : Int) (s16 : ByteArray) (i17 : Int) (p18 : (Option Addr)) (n19 : Nat) (n20 : Nat) (i21 : Int) : Pg :=
  .act (newC [(.slice p0 n1 n2), (.slice p3 n4 n5)]) fun v22 => asPtr v22 fun p23 => asSome p23 fun a24 => .act (newC [(.int .i64 i6), (.int .i64 i7), (.string s8), (.slice p9 n10 n11), (.int .i64 i12), (.pointer p13), (.int .i64 i14)]) fun v25 => asPtr v25 fun p26 => asSome p26 fun a27 => .act (newC [(.int .i64 i15), (.string s16), (.int .i64 i17), (.slice p18 n19 n20)]) fun v28 => asPtr v28 fun p29 => asSome p29 fun a30 => .join (.act (ld1 (aadd a27 6)) fun v31 => asInt .i64 v31 fun i32 => bif (decide (i32 < 0)) == false then (.act (ld1 (aadd a27 6)) fun v33 => asInt .i64 v33 fun i34 => .act (ld1 (aadd a24 0)) fun v35 => asSlice v35 fun p36 n37 n38 => bif (decide (i34 ≥ ((n37 : Nat) : Int))) == false then (.act (ld1 (aadd a30 3)) fun v39 => asSlice v39 fun p40 n41 n42 => .ret .normal [(.bool (((n41 : Nat) : Int) != 1))]) else (.ret .normal [(.bool true)])) else (.ret .normal [(.bool true)])) (T20k0 a24 a27 a30 i21)
theorem T20_eq (p0 : (Option Addr)) (n1 : Nat) (n2 : Nat) (p3 : (Option Addr)) (n4 : Nat) (n5 : Nat) (i6 : Int) (i7 : Int) (s8 : ByteArray) (p9 : (Option Addr)) (n10 : Nat) (n11 : Nat) (i12 : Int) (p13 : (Option Addr)) (i14 : Int) (i15 : Int) (s16 : ByteArray) (i17 : Int) (p18 : (Option Addr)) (n19 : Nat) (n20 : Nat) (i21 : Int) : progOf PROG false 20 [(.agg #[(.slice p0 n1 n2), (.slice p3 n4 n5)]), (.agg #[(.int .i64 i6), (.int .i64 i7), (.string s8), (.slice p9 n10 n11), (.int .i64 i12), (.pointer p13), (.int .i64 i14)]), (.agg #[(.int .i64 i15), (.string s16), (.int .i64 i17), (.slice p18 n19 n20)]), (.int .i64 i21)] = T20 p0 n1 n2 p3 n4 n5 i6 i7 s8 p9 n10 n11 i12 p13 i14 i15 s16 i17 p18 n19 n20 i21 := by kernel_rfl


noncomputable def T21k0 (p54 : (Option Addr)) (n55 : Nat) (n56 : Nat) : Ex → List Value → Pg :=
  fun e147 l148 => sw e147 .normal (asCons l148 fun v149 l150 => asStr v149 fun s151 => asNil l150 (.act (bdSl 1 1 [(.string s151)]) fun v152 => asSlice v152 fun p153 n154 n155 => .act (apS 1 16 p54 n55 n56 p153 n154 n155) fun v156 => asSlice v156 fun p157 n158 n159 => .ret .normal [(.slice p157 n158 n159)])) (.fail)

noncomputable def T21k1 (i51 : Int) : Ex → List Value → Pg :=
  fun e160 l161 => sw e160 .normal (asCons l161 fun v162 l163 => asSlice v162 fun p164 n165 n166 => asNil l163 (.ret .normal [(.int .i64 (wi64 (i51 + 1))), (.slice p164 n165 n166)])) (.fail)

noncomputable def T21b0 (n46 : Nat) (p45 : (Option Addr)) (n42 : Nat) (a18 : Addr) (p41 : (Option Addr)) (i15 : Int) : List Value → Pg :=
  fun l48 => asCons l48 fun v49 l50 => asInt .i64 v49 fun i51 => asCons l50 fun v52 l53 => asSlice v52 fun p54 n55 n56 => asNil l53 (bif (decide (i51 < ((n46 : Nat) : Int))) then (.join (asSome p45 fun a57 => grd ((decide (0 ≤ i51)) && (decide (i51 < ((n46 : Nat) : Int)))) (.act (ldN 7 (aadd a57 ((Int.toNat i51) * 7))) fun v58 => asAgg v58 fun l59 => asCons l59 fun v60 l61 => asInt .i64 v60 fun i62 => asCons l61 fun v63 l64 => asInt .i64 v63 fun i65 => asCons l64 fun v66 l67 => asStr v66 fun s68 => asCons l67 fun v69 l70 => asSlice v69 fun p71 n72 n73 => asCons l70 fun v74 l75 => asInt .i64 v74 fun i76 => asCons l75 fun v77 l78 => asPtr v77 fun p79 => asCons l78 fun v80 l81 => asInt .i64 v80 fun i82 => asNil l81 (.act (newC [(.int .i64 0), (.int .i64 0), (.string (bs [])), (.slice none 0 0), (.int .i64 0), (.pointer none), (.int .i64 0)]) fun v83 => asPtr v83 fun p84 => asSome p84 fun a85 => .act (stC a85 [(.int .i64 i62), (.int .i64 i65), (.string s68), (.slice p71 n72 n73), (.int .i64 i76), (.pointer p79), (.int .i64 i82)]) fun v86 => asTuple v86 fun l87 => asNil l87 (.join (bif (decide (i51 < ((n42 : Nat) : Int))) then (.act (ldN 2 a18) fun v88 => asAgg v88 fun l89 => asCons l89 fun v90 l91 => asSlice v90 fun p92 n93 n94 => asCons l91 fun v95 l96 => asSlice v95 fun p97 n98 n99 => asNil l96 (.act (ldN 7 a85) fun v100 => asAgg v100 fun l101 => asCons l101 fun v102 l103 => asInt .i64 v102 fun i104 => asCons l103 fun v105 l106 => asInt .i64 v105 fun i107 => asCons l106 fun v108 l109 => asStr v108 fun s110 => asCons l109 fun v111 l112 => asSlice v111 fun p113 n114 n115 => asCons l112 fun v116 l117 => asInt .i64 v116 fun i118 => asCons l117 fun v119 l120 => asPtr v119 fun p121 => asCons l120 fun v122 l123 => asInt .i64 v122 fun i124 => asNil l123 (asSome p41 fun a125 => grd ((decide (0 ≤ i51)) && (decide (i51 < ((n42 : Nat) : Int)))) (.act (ld1 (aadd a125 ((Int.toNat i51) * 1))) fun v126 => asStr v126 fun s127 => .call 26 [(.string s127)] fun v128 => asAgg v128 fun l129 => asCons l129 fun v130 l131 => asInt .i64 v130 fun i132 => asCons l131 fun v133 l134 => asStr v133 fun s135 => asCons l134 fun v136 l137 => asInt .i64 v136 fun i138 => asCons l137 fun v139 l140 => asSlice v139 fun p141 n142 n143 => asNil l140 (.get fun h146 => grd (chks [((ldN 7 a85), v100), ((ldN 2 a18), v88)] h146) (.call 15 [(.agg #[(.slice p92 n93 n94), (.slice p97 n98 n99)]), (.agg #[(.int .i64 i104), (.int .i64 i107), (.string s110), (.slice p113 n114 n115), (.int .i64 i118), (.pointer p121), (.int .i64 i124)]), (.agg #[(.int .i64 i132), (.string s135), (.int .i64 i138), (.slice p141 n142 n143)]), (.int .i64 (wi64 (i15 + 1)))] fun v144 => asStr v144 fun s145 => .ret .normal [(.string s145)])))))) else (.ret .normal [(.string (bs [63]))])) (T21k0 p54 n55 n56))))) (T21k1 i51)) else (.ret (.exit 0) [(.int .i64 i51), (.slice p54 n55 n56)]))

noncomputable def T21k2 (a21 : Addr) : Ex → List Value → Pg :=
  fun e167 l168 => sw e167 (.exit 0) (asCons l168 fun v169 l170 => asInt .i64 v169 fun i171 => asCons l170 fun v172 l173 => asSlice v172 fun p174 n175 n176 => asNil l173 (.act (ld1 (aadd a21 2)) fun v177 => asStr v177 fun s178 => grd (Nat.ble (s178.size + 2) 9223372036854775807) (.call 27 [(.slice p174 n175 n176), (.string (bs [44, 32]))] fun v179 => asStr v179 fun s180 => .get fun h181 => grd (chks [((ld1 (aadd a21 2)), v177)] h181) (grd (Nat.ble ((s178 ++ (bs [32, 40])).size + s180.size) 9223372036854775807) (grd (Nat.ble (((s178 ++ (bs [32, 40])) ++ s180).size + 1) 9223372036854775807) (.ret .ret [(.string (((s178 ++ (bs [32, 40])) ++ s180) ++ (bs [41])))])))))) (.fail)

noncomputable def T21k3 (a21 : Addr) (a18 : Addr) (i15 : Int) : Ex → List Value → Pg :=
  fun e37 l38 => sw e37 .normal (asCons l38 fun v39 l40 => asSlice v39 fun p41 n42 n43 => asNil l40 (.act (ld1 (aadd a21 3)) fun v44 => asSlice v44 fun p45 n46 n47 => .loop [(.int .i64 0), (.slice none 0 0)] (T21b0 n46 p45 n42 a18 p41 i15) (T21k2 a21))) (.fail)

/-- (hindsight/val.renderer).args -/
noncomputable def T21 (p0 : (Option Addr)) (n1 : Nat) (n2 : Nat) (p3 : (Option Addr)) (n4 : Nat) (n5 : Nat) (i6 : Int) (i7 : Int) (s8 : ByteArray) (p9 : (Option Addr)) (n10 : Nat) (n11 : Nat) (i12 : Int) (p13 : (Option Addr)) (i14 : Int) (i15 : Int) : Pg :=
  .act (newC [(.slice p0 n1 n2), (.slice p3 n4 n5)]) fun v16 => asPtr v16 fun p17 => asSome p17 fun a18 => .act (newC [(.int .i64 i6), (.int .i64 i7), (.string s8), (.slice p9 n10 n11), (.int .i64 i12), (.pointer p13), (.int .i64 i14)]) fun v19 => asPtr v19 fun p20 => asSome p20 fun a21 => .act (ld1 (aadd a18 1)) fun v22 => asSlice v22 fun p23 n24 n25 => .call 24 [(.slice p23 n24 n25), (.func (.func 25) #[] #[(.pointer (some a21))])] fun v26 => asInt .i64 v26 fun i27 => .join (bif (decide (i27 ≥ 0)) then (.act (ld1 (aadd a18 1)) fun v28 => asSlice v28 fun p29 n30 n31 => asSome p29 fun a32 => grd ((decide (0 ≤ i27)) && (decide (i27 < ((n30 : Nat) : Int)))) (.act (ld1 (aadd (aadd a32 ((Int.toNat i27) * 2)) 1)) fun v33 => asSlice v33 fun p34 n35 n36 => .ret .normal [(.slice p34 n35 n36)])) else (.ret .normal [(.slice none 0 0)])) (T21k3 a21 a18 i15)
theorem T21_eq (p0 : (Option Addr)) (n1 : Nat) (n2 : Nat) (p3 : (Option Addr)) (n4 : Nat) (n5 : Nat) (i6 : Int) (i7 : Int) (s8 : ByteArray) (p9 : (Option Addr)) (n10 : Nat) (n11 : Nat) (i12 : Int) (p13 : (Option Addr)) (i14 : Int) (i15 : Int) : progOf PROG false 21 [(.agg #[(.slice p0 n1 n2), (.slice p3 n4 n5)]), (.agg #[(.int .i64 i6), (.int .i64 i7), (.string s8), (.slice p9 n10 n11), (.int .i64 i12), (.pointer p13), (.int .i64 i14)]), (.int .i64 i15)] = T21 p0 n1 n2 p3 n4 n5 i6 i7 s8 p9 n10 n11 i12 p13 i14 i15 := by kernel_rfl


/-- internal/strconv.FormatBool -/
noncomputable def T23 (b0 : Bool) : Pg :=
  bif b0 then (.ret .ret [(.string (bs [116, 114, 117, 101]))]) else (.ret .ret [(.string (bs [102, 97, 108, 115, 101]))])
theorem T23_eq (b0 : Bool) : progOf PROG false 23 [(.bool b0)] = T23 b0 := by kernel_rfl


noncomputable def T24k0 (i7 : Int) : Ex → List Value → Pg :=
  fun e27 l28 => sw e27 .ret (asCons l28 fun v29 l30 => asInt .i64 v29 fun i31 => asNil l30 (.ret .ret [(.int .i64 i7), (.int .i64 i31)])) (sw e27 .normal (asCons l28 fun v32 l33 => asInt .i64 v32 fun i34 => asNil l33 (.ret .normal [(.int .i64 (wi64 (i7 + 1))), (.int .i64 i34)])) (.fail))

noncomputable def T24b0 (n1 : Nat) (p0 : (Option Addr)) (v3 : Value) : List Value → Pg :=
  fun l4 => asCons l4 fun v5 l6 => asInt .i64 v5 fun i7 => asCons l6 fun v8 l9 => asInt .i64 v8 fun i10 => asNil l9 (bif (decide (i7 < ((n1 : Nat) : Int))) then (.join (asSome p0 fun a11 => grd ((decide (0 ≤ i7)) && (decide (i7 < ((n1 : Nat) : Int)))) (.act (ldN 2 (aadd a11 ((Int.toNat i7) * 2))) fun v12 => asAgg v12 fun l13 => asCons l13 fun v14 l15 => asStr v14 fun s16 => asCons l15 fun v17 l18 => asSlice v17 fun p19 n20 n21 => asNil l18 (asFunc v3 fun n22 l23 l24 => .call n22 (l23 ++ [(.agg #[(.string s16), (.slice p19 n20 n21)])] ++ l24) fun v25 => asBool v25 fun b26 => bif b26 then (.ret .ret [(.int .i64 i7)]) else (.ret .normal [(.int .i64 i10)])))) (T24k0 i7)) else (.ret (.exit 0) [(.int .i64 i7), (.int .i64 i10)]))

noncomputable def T24k1 : Ex → List Value → Pg :=
  fun e35 l36 => sw e35 (.exit 0) (asCons l36 fun v37 l38 => asInt .i64 v37 fun i39 => asCons l38 fun v40 l41 => asInt .i64 v40 fun i42 => asNil l41 (.ret .ret [(.int .i64 (-1))])) (sw e35 .ret (asCons l36 fun v43 l44 => asInt .i64 v43 fun i45 => asCons l44 fun v46 l47 => asInt .i64 v46 fun i48 => asNil l47 (.ret .ret [(.int .i64 i48)])) (.fail))

/-- slices.IndexFunc[[]hindsight/val.Arg,hindsight/val.Arg] -/
noncomputable def T24 (p0 : (Option Addr)) (n1 : Nat) (n2 : Nat) (v3 : Value) : Pg :=
  .loop [(.int .i64 0), (.int .i64 0)] (T24b0 n1 p0 v3) (T24k1)
theorem T24_eq (p0 : (Option Addr)) (n1 : Nat) (n2 : Nat) (v3 : Value) : progOf PROG false 24 [(.slice p0 n1 n2), v3] = T24 p0 n1 n2 v3 := by kernel_rfl


/-- (hindsight/val.renderer).args$1 -/
noncomputable def T25 (s0 : ByteArray) (p1 : (Option Addr)) (n2 : Nat) (n3 : Nat) (a4 : Addr) : Pg :=
  .act (newC [(.string s0), (.slice p1 n2 n3)]) fun v5 => asPtr v5 fun p6 => asSome p6 fun a7 => .act (ld1 (aadd a7 0)) fun v8 => asStr v8 fun s9 => .act (ld1 (aadd a4 2)) fun v10 => asStr v10 fun s11 => .ret .ret [(.bool (s9.toList == s11.toList))]
theorem T25_eq (s0 : ByteArray) (p1 : (Option Addr)) (n2 : Nat) (n3 : Nat) (a4 : Addr) : progOf PROG false 25 [(.agg #[(.string s0), (.slice p1 n2 n3)]), (.pointer (some a4))] = T25 s0 p1 n2 n3 a4 := by kernel_rfl


noncomputable def T26k0 (a3 : Addr) (s0 : ByteArray) : Ex → List Value → Pg :=
  fun e58 l59 => sw e58 .ret (asNil l59 (.act (ldN 4 a3) fun v60 => .ret .ret [v60])) (sw e58 .normal (asNil l59 (.act (stC a3 [(.int .i64 4), (.string s0), (.int .i64 0), (.slice none 0 0)]) fun v61 => asTuple v61 fun l62 => asNil l62 (.act (ldN 4 a3) fun v63 => .ret .ret [v63]))) (.fail))

/-- hindsight/ty.Named -/
noncomputable def T26 (s0 : ByteArray) : Pg :=
  .act (newC [(.int .i64 0), (.string (bs [])), (.int .i64 0), (.slice none 0 0)]) fun v1 => asPtr v1 fun p2 => asSome p2 fun a3 => .join (bif (s0.toList == (bs [105, 110, 116]).toList) then (.call 32 [(.int .i64 1), (.slice none 0 0)] fun v4 => asAgg v4 fun l5 => asCons l5 fun v6 l7 => asInt .i64 v6 fun i8 => asCons l7 fun v9 l10 => asStr v9 fun s11 => asCons l10 fun v12 l13 => asInt .i64 v12 fun i14 => asCons l13 fun v15 l16 => asSlice v15 fun p17 n18 n19 => asNil l16 (.act (stC a3 [(.int .i64 i8), (.string s11), (.int .i64 i14), (.slice p17 n18 n19)]) fun v20 => asTuple v20 fun l21 => asNil l21 (.ret .ret []))) else (bif (s0.toList == (bs [98, 111, 111, 108]).toList) then (.call 32 [(.int .i64 2), (.slice none 0 0)] fun v22 => asAgg v22 fun l23 => asCons l23 fun v24 l25 => asInt .i64 v24 fun i26 => asCons l25 fun v27 l28 => asStr v27 fun s29 => asCons l28 fun v30 l31 => asInt .i64 v30 fun i32 => asCons l31 fun v33 l34 => asSlice v33 fun p35 n36 n37 => asNil l34 (.act (stC a3 [(.int .i64 i26), (.string s29), (.int .i64 i32), (.slice p35 n36 n37)]) fun v38 => asTuple v38 fun l39 => asNil l39 (.ret .ret []))) else (bif (s0.toList == (bs [117, 110, 105, 116]).toList) then (.call 32 [(.int .i64 3), (.slice none 0 0)] fun v40 => asAgg v40 fun l41 => asCons l41 fun v42 l43 => asInt .i64 v42 fun i44 => asCons l43 fun v45 l46 => asStr v45 fun s47 => asCons l46 fun v48 l49 => asInt .i64 v48 fun i50 => asCons l49 fun v51 l52 => asSlice v51 fun p53 n54 n55 => asNil l52 (.act (stC a3 [(.int .i64 i44), (.string s47), (.int .i64 i50), (.slice p53 n54 n55)]) fun v56 => asTuple v56 fun l57 => asNil l57 (.ret .ret []))) else (.ret .normal [])))) (T26k0 a3 s0)
theorem T26_eq (s0 : ByteArray) : progOf PROG false 26 [(.string s0)] = T26 s0 := by kernel_rfl


/-- hindsight/ty.Of -/
noncomputable def T32 (i0 : Int) (p1 : (Option Addr)) (n2 : Nat) (n3 : Nat) : Pg :=
  .act (newC [(.int .i64 0), (.string (bs [])), (.int .i64 0), (.slice none 0 0)]) fun v4 => asPtr v4 fun p5 => asSome p5 fun a6 => .act (stC a6 [(.int .i64 i0), (.string (bs [])), (.int .i64 0), (.slice p1 n2 n3)]) fun v7 => asTuple v7 fun l8 => asNil l8 (.act (ldN 4 a6) fun v9 => .ret .ret [v9])
theorem T32_eq (i0 : Int) (p1 : (Option Addr)) (n2 : Nat) (n3 : Nat) : progOf PROG false 32 [(.int .i64 i0), (.slice p1 n2 n3)] = T32 i0 p1 n2 n3 := by kernel_rfl

noncomputable def A3 (args : List Value) : Option Pg := some (progOf PROG false 3 args)
theorem A3_ok : ∀ args p, A3 args = some p → progOf PROG false 3 args = p := fun args p h => Option.some.inj h
noncomputable def A4 : List Value → Option Pg
  | [] => some (T4)
  | _ => none
theorem A4_ok : ∀ args p, A4 args = some p → progOf PROG false 4 args = p := by
  intro args p h
  unfold A4 at h
  split at h
  · cases h; exact T4_eq 
  · cases h
noncomputable def A5 : List Value → Option Pg
  | [(.string s0), (.int .i64 i1), (.int .i64 i2)] => some (T5 s0 i1 i2)
  | _ => none
theorem A5_ok : ∀ args p, A5 args = some p → progOf PROG false 5 args = p := by
  intro args p h
  unfold A5 at h
  split at h
  · cases h; exact T5_eq _ _ _
  · cases h
noncomputable def A6 : List Value → Option Pg
  | [(.pointer p0), (.string s1)] => some (T6 p0 s1)
  | _ => none
theorem A6_ok : ∀ args p, A6 args = some p → progOf PROG false 6 args = p := by
  intro args p h
  unfold A6 at h
  split at h
  · cases h; exact T6_eq _ _
  · cases h
noncomputable def A7 : List Value → Option Pg
  | [(.slice p0 n1 n2), (.slice p3 n4 n5)] => some (T7 p0 n1 n2 p3 n4 n5)
  | _ => none
theorem A7_ok : ∀ args p, A7 args = some p → progOf PROG false 7 args = p := by
  intro args p h
  unfold A7 at h
  split at h
  · cases h; exact T7_eq _ _ _ _ _ _
  · cases h
noncomputable def A8 : List Value → Option Pg
  | [(.pointer p0)] => some (T8 p0)
  | _ => none
theorem A8_ok : ∀ args p, A8 args = some p → progOf PROG false 8 args = p := by
  intro args p h
  unfold A8 at h
  split at h
  · cases h; exact T8_eq _
  · cases h
noncomputable def A9 : List Value → Option Pg
  | [(.agg c0), (.agg c1), (.slice p15 n16 n17), (.slice p18 n19 n20)] => (match c0.toList with
    | [(.int .i64 i0), (.int .i64 i1), (.string s2), (.slice p3 n4 n5), (.int .i64 i6), (.pointer p7), (.int .i64 i8)] => (match c1.toList with
    | [(.int .i64 i9), (.string s10), (.int .i64 i11), (.slice p12 n13 n14)] => some (T9 i0 i1 s2 p3 n4 n5 i6 p7 i8 i9 s10 i11 p12 n13 n14 p15 n16 n17 p18 n19 n20)
    | _ => none)
    | _ => none)
  | _ => none
theorem A9_ok : ∀ args p, A9 args = some p → progOf PROG false 9 args = p := by
  intro args p h
  unfold A9 at h
  split at h
  · split at h
    · split at h
      · rename_i e0 d1 x1_0 x1_1 x1_2 x1_3 x1_4 x1_5 e1
        have f0 := agg_of e0
        subst f0
        have f1 := agg_of e1
        subst f1
        cases h
        exact T9_eq _ _ _ _ _ _ _ _ _ _ _ _ _ _ _ _ _ _ _ _ _
      · cases h
    · cases h
  · cases h
noncomputable def A10 : List Value → Option Pg
  | [(.agg c0), (.agg c1)] => (match c0.toList with
    | [(.int .i64 i0), (.int .i64 i1), (.string s2), (.slice p3 n4 n5), (.int .i64 i6), (.pointer p7), (.int .i64 i8)] => (match c1.toList with
    | [(.int .i64 i9), (.int .i64 i10), (.string s11), (.slice p12 n13 n14), (.int .i64 i15), (.pointer p16), (.int .i64 i17)] => some (T10 i0 i1 s2 p3 n4 n5 i6 p7 i8 i9 i10 s11 p12 n13 n14 i15 p16 i17)
    | _ => none)
    | _ => none)
  | _ => none
theorem A10_ok : ∀ args p, A10 args = some p → progOf PROG false 10 args = p := by
  intro args p h
  unfold A10 at h
  split at h
  · split at h
    · split at h
      · rename_i e0 d1 x1_0 x1_1 x1_2 x1_3 x1_4 x1_5 x1_6 x1_7 x1_8 e1
        have f0 := agg_of e0
        subst f0
        have f1 := agg_of e1
        subst f1
        cases h
        exact T10_eq _ _ _ _ _ _ _ _ _ _ _ _ _ _ _ _ _ _
      · cases h
    · cases h
  · cases h
noncomputable def A11 : List Value → Option Pg
  | [(.int .i64 i0)] => some (T11 i0)
  | _ => none
theorem A11_ok : ∀ args p, A11 args = some p → progOf PROG false 11 args = p := by
  intro args p h
  unfold A11 at h
  split at h
  · cases h; exact T11_eq _
  · cases h
noncomputable def A12 : List Value → Option Pg
  | [(.int .i64 i0)] => some (T12 i0)
  | _ => none
theorem A12_ok : ∀ args p, A12 args = some p → progOf PROG false 12 args = p := by
  intro args p h
  unfold A12 at h
  split at h
  · cases h; exact T12_eq _
  · cases h
noncomputable def A13 : List Value → Option Pg
  | [(.bool b0)] => some (T13 b0)
  | _ => none
theorem A13_ok : ∀ args p, A13 args = some p → progOf PROG false 13 args = p := by
  intro args p h
  unfold A13 at h
  split at h
  · cases h; exact T13_eq _
  · cases h
noncomputable def A14 : List Value → Option Pg
  | [(.slice p0 n1 n2), (.string s3)] => some (T14 p0 n1 n2 s3)
  | _ => none
theorem A14_ok : ∀ args p, A14 args = some p → progOf PROG false 14 args = p := by
  intro args p h
  unfold A14 at h
  split at h
  · cases h; exact T14_eq _ _ _ _
  · cases h
noncomputable def A15 : List Value → Option Pg
  | [(.agg c0), (.agg c1), (.agg c2), (.int .i64 i21)] => (match c0.toList with
    | [(.slice p0 n1 n2), (.slice p3 n4 n5)] => (match c1.toList with
    | [(.int .i64 i6), (.int .i64 i7), (.string s8), (.slice p9 n10 n11), (.int .i64 i12), (.pointer p13), (.int .i64 i14)] => (match c2.toList with
    | [(.int .i64 i15), (.string s16), (.int .i64 i17), (.slice p18 n19 n20)] => some (T15 p0 n1 n2 p3 n4 n5 i6 i7 s8 p9 n10 n11 i12 p13 i14 i15 s16 i17 p18 n19 n20 i21)
    | _ => none)
    | _ => none)
    | _ => none)
  | _ => none
theorem A15_ok : ∀ args p, A15 args = some p → progOf PROG false 15 args = p := by
  intro args p h
  unfold A15 at h
  split at h
  · split at h
    · split at h
      · split at h
        · rename_i e0 d1 x1_0 x1_1 x1_2 x1_3 x1_4 x1_5 x1_6 x1_7 x1_8 e1 d2 x2_0 x2_1 x2_2 x2_3 x2_4 x2_5 e2
          have f0 := agg_of e0
          subst f0
          have f1 := agg_of e1
          subst f1
          have f2 := agg_of e2
          subst f2
          cases h
          exact T15_eq _ _ _ _ _ _ _ _ _ _ _ _ _ _ _ _ _ _ _ _ _ _
        · cases h
      · cases h
    · cases h
  · cases h
noncomputable def A16 : List Value → Option Pg
  | [(.slice p0 n1 n2), (.string s3)] => some (T16 p0 n1 n2 s3)
  | _ => none
theorem A16_ok : ∀ args p, A16 args = some p → progOf PROG false 16 args = p := by
  intro args p h
  unfold A16 at h
  split at h
  · cases h; exact T16_eq _ _ _ _
  · cases h
noncomputable def A17 : List Value → Option Pg
  | [(.int .i64 i0)] => some (T17 i0)
  | _ => none
theorem A17_ok : ∀ args p, A17 args = some p → progOf PROG false 17 args = p := by
  intro args p h
  unfold A17 at h
  split at h
  · cases h; exact T17_eq _
  · cases h
noncomputable def A19 : List Value → Option Pg
  | [(.bool b0)] => some (T19 b0)
  | _ => none
theorem A19_ok : ∀ args p, A19 args = some p → progOf PROG false 19 args = p := by
  intro args p h
  unfold A19 at h
  split at h
  · cases h; exact T19_eq _
  · cases h
noncomputable def A20 : List Value → Option Pg
  | [(.agg c0), (.agg c1), (.agg c2), (.int .i64 i21)] => (match c0.toList with
    | [(.slice p0 n1 n2), (.slice p3 n4 n5)] => (match c1.toList with
    | [(.int .i64 i6), (.int .i64 i7), (.string s8), (.slice p9 n10 n11), (.int .i64 i12), (.pointer p13), (.int .i64 i14)] => (match c2.toList with
    | [(.int .i64 i15), (.string s16), (.int .i64 i17), (.slice p18 n19 n20)] => some (T20 p0 n1 n2 p3 n4 n5 i6 i7 s8 p9 n10 n11 i12 p13 i14 i15 s16 i17 p18 n19 n20 i21)
    | _ => none)
    | _ => none)
    | _ => none)
  | _ => none
theorem A20_ok : ∀ args p, A20 args = some p → progOf PROG false 20 args = p := by
  intro args p h
  unfold A20 at h
  split at h
  · split at h
    · split at h
      · split at h
        · rename_i e0 d1 x1_0 x1_1 x1_2 x1_3 x1_4 x1_5 x1_6 x1_7 x1_8 e1 d2 x2_0 x2_1 x2_2 x2_3 x2_4 x2_5 e2
          have f0 := agg_of e0
          subst f0
          have f1 := agg_of e1
          subst f1
          have f2 := agg_of e2
          subst f2
          cases h
          exact T20_eq _ _ _ _ _ _ _ _ _ _ _ _ _ _ _ _ _ _ _ _ _ _
        · cases h
      · cases h
    · cases h
  · cases h
noncomputable def A21 : List Value → Option Pg
  | [(.agg c0), (.agg c1), (.int .i64 i15)] => (match c0.toList with
    | [(.slice p0 n1 n2), (.slice p3 n4 n5)] => (match c1.toList with
    | [(.int .i64 i6), (.int .i64 i7), (.string s8), (.slice p9 n10 n11), (.int .i64 i12), (.pointer p13), (.int .i64 i14)] => some (T21 p0 n1 n2 p3 n4 n5 i6 i7 s8 p9 n10 n11 i12 p13 i14 i15)
    | _ => none)
    | _ => none)
  | _ => none
theorem A21_ok : ∀ args p, A21 args = some p → progOf PROG false 21 args = p := by
  intro args p h
  unfold A21 at h
  split at h
  · split at h
    · split at h
      · rename_i e0 d1 x1_0 x1_1 x1_2 x1_3 x1_4 x1_5 x1_6 x1_7 x1_8 e1
        have f0 := agg_of e0
        subst f0
        have f1 := agg_of e1
        subst f1
        cases h
        exact T21_eq _ _ _ _ _ _ _ _ _ _ _ _ _ _ _ _
      · cases h
    · cases h
  · cases h
noncomputable def A23 : List Value → Option Pg
  | [(.bool b0)] => some (T23 b0)
  | _ => none
theorem A23_ok : ∀ args p, A23 args = some p → progOf PROG false 23 args = p := by
  intro args p h
  unfold A23 at h
  split at h
  · cases h; exact T23_eq _
  · cases h
noncomputable def A24 : List Value → Option Pg
  | [(.slice p0 n1 n2), v3] => some (T24 p0 n1 n2 v3)
  | _ => none
theorem A24_ok : ∀ args p, A24 args = some p → progOf PROG false 24 args = p := by
  intro args p h
  unfold A24 at h
  split at h
  · cases h; exact T24_eq _ _ _ _
  · cases h
noncomputable def A25 : List Value → Option Pg
  | [(.agg c0), (.pointer (some a4))] => (match c0.toList with
    | [(.string s0), (.slice p1 n2 n3)] => some (T25 s0 p1 n2 n3 a4)
    | _ => none)
  | _ => none
theorem A25_ok : ∀ args p, A25 args = some p → progOf PROG false 25 args = p := by
  intro args p h
  unfold A25 at h
  split at h
  · split at h
    · rename_i e0
      have f0 := agg_of e0
      subst f0
      cases h
      exact T25_eq _ _ _ _ _
    · cases h
  · cases h
noncomputable def A26 : List Value → Option Pg
  | [(.string s0)] => some (T26 s0)
  | _ => none
theorem A26_ok : ∀ args p, A26 args = some p → progOf PROG false 26 args = p := by
  intro args p h
  unfold A26 at h
  split at h
  · cases h; exact T26_eq _
  · cases h
noncomputable def A32 : List Value → Option Pg
  | [(.int .i64 i0), (.slice p1 n2 n3)] => some (T32 i0 p1 n2 n3)
  | _ => none
theorem A32_ok : ∀ args p, A32 args = some p → progOf PROG false 32 args = p := by
  intro args p h
  unfold A32 at h
  split at h
  · cases h; exact T32_eq _ _ _ _
  · cases h
noncomputable def TAB : Tab := (.low 13 (.low 7 (.low 4 (.one 3 A3 (.one 4 A4 .nil)) (.one 5 A5 (.one 6 A6 (.one 7 A7 .nil)))) (.low 10 (.one 8 A8 (.one 9 A9 (.one 10 A10 .nil))) (.one 11 A11 (.one 12 A12 (.one 13 A13 .nil))))) (.low 20 (.low 16 (.one 14 A14 (.one 15 A15 (.one 16 A16 .nil))) (.one 17 A17 (.one 19 A19 (.one 20 A20 .nil)))) (.low 24 (.one 21 A21 (.one 23 A23 (.one 24 A24 .nil))) (.one 25 A25 (.one 26 A26 (.one 32 A32 .nil))))))
theorem TAB_ok : TabOK PROG TAB := (.low (.low (.low (.one A3_ok (.one A4_ok .nil)) (.one A5_ok (.one A6_ok (.one A7_ok .nil)))) (.low (.one A8_ok (.one A9_ok (.one A10_ok .nil))) (.one A11_ok (.one A12_ok (.one A13_ok .nil))))) (.low (.low (.one A14_ok (.one A15_ok (.one A16_ok .nil))) (.one A17_ok (.one A19_ok (.one A20_ok .nil)))) (.low (.one A21_ok (.one A23_ok (.one A24_ok .nil))) (.one A25_ok (.one A26_ok (.one A32_ok .nil))))))

end Go.Pg
