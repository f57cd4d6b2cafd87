/- The trees of the functions that the laws reach, written out by program; each is shown to be the function's own; then their table. -/
import Derived.Test.YtocbeccmmfdnfaaDoorProg
import Derived.KernelRfl
import Derived.Test.YtocbeccmmfdnfaaDoorPg3
namespace Go.Pg
open Go.Proofs
set_option linter.unusedVariables false
noncomputable abbrev PROG : Program := Tryd.prog
noncomputable def T3k0 : Ex → List Value → Pg :=
  fun e152 l153 => sw e152 .normal (asCons l153 fun v154 l155 => asBool v154 fun b156 => asNil l155 (.ret .ret [(.bool b156)])) (.fail)

noncomputable def T3k1 (s0 : ByteArray) (a6 : Addr) : Ex → List Value → Pg :=
  fun e11 l12 => sw e11 .normal (asCons l12 fun v13 l14 => asBool v13 fun b15 => asNil l14 (bif b15 then (.ret .ret [(.bool true)]) else (.call 7 [(.string s0)] fun v16 => asTuple v16 fun l17 => asCons l17 fun v18 l19 => asAgg v18 fun l20 => asCons l20 fun v21 l22 => asInt .i64 v21 fun i23 => asCons l22 fun v24 l25 => asInt .i64 v24 fun i26 => asCons l25 fun v27 l28 => asStr v27 fun s29 => asNil l28 (asCons l19 fun v30 l31 => asInt .i64 v30 fun i32 => asNil l31 (.act (newC [(.int .i64 0), (.int .i64 0), (.string (bs []))]) fun v33 => asPtr v33 fun p34 => asSome p34 fun a35 => .act (stC a35 [(.int .i64 i23), (.int .i64 i26), (.string s29)]) fun v36 => asTuple v36 fun l37 => asNil l37 (.call 8 [(.string s0)] fun v38 => asTuple v38 fun l39 => asCons l39 fun v40 l41 => asAgg v40 fun l42 => asCons l42 fun v43 l44 => asInt .i64 v43 fun i45 => asCons l44 fun v46 l47 => asInt .i64 v46 fun i48 => asCons l47 fun v49 l50 => asStr v49 fun s51 => asNil l50 (asCons l41 fun v52 l53 => asBool v52 fun b54 => asNil l53 (.act (newC [(.int .i64 0), (.int .i64 0), (.string (bs []))]) fun v55 => asPtr v55 fun p56 => asSome p56 fun a57 => .act (stC a57 [(.int .i64 i45), (.int .i64 i48), (.string s51)]) fun v58 => asTuple v58 fun l59 => asNil l59 (.join (.act (ld1 (aadd a35 0)) fun v60 => asInt .i64 v60 fun i61 => .act (ld1 (aadd a57 0)) fun v62 => asInt .i64 v62 fun i63 => bif (i61 == i63) == true then (.act (ld1 (aadd a35 1)) fun v64 => asInt .i64 v64 fun i65 => .act (ld1 (aadd a57 1)) fun v66 => asInt .i64 v66 fun i67 => bif (i65 == i67) == true then (.act (ld1 (aadd a35 2)) fun v68 => asStr v68 fun s69 => .act (ld1 (aadd a57 2)) fun v70 => asStr v70 fun s71 => bif (s69.toList == s71.toList) == true then (bif ((i32 == 0) == b54) == true then (bif b54 == false then (bif (i32 == 13) == true then (.act (ldN 3 a6) fun v72 => asAgg v72 fun l73 => asCons l73 fun v74 l75 => asInt .i64 v74 fun i76 => asCons l75 fun v77 l78 => asInt .i64 v77 fun i79 => asCons l78 fun v80 l81 => asStr v80 fun s82 => asNil l81 (.get fun h84 => .call 9 [(.agg #[(.int .i64 i76), (.int .i64 i79), (.string s82)])] fun v83 => asStr v83 fun s85 => .act (ld1 (aadd a6 0)) fun v86 => grd (past (ld1 (aadd a6 0)) v86 [h84]) (asInt .i64 v86 fun i87 => .act (ld1 (aadd a6 1)) fun v88 => grd (past (ld1 (aadd a6 1)) v88 [h84]) (asInt .i64 v88 fun i89 => .act (ld1 (aadd a6 2)) fun v90 => grd (past (ld1 (aadd a6 2)) v90 [h84]) (asStr v90 fun s91 => .call 10 [(.agg #[(.int .i64 i87), (.int .i64 i89), (.string s91)])] fun v92 => asStr v92 fun s93 => bif (s85.toList == s93.toList) == true then (.act (ldN 3 a6) fun v94 => asAgg v94 fun l95 => asCons l95 fun v96 l97 => asInt .i64 v96 fun i98 => asCons l97 fun v99 l100 => asInt .i64 v99 fun i101 => asCons l100 fun v102 l103 => asStr v102 fun s104 => asNil l103 (.get fun h106 => .call 11 [(.agg #[(.int .i64 i98), (.int .i64 i101), (.string s104)])] fun v105 => asBool v105 fun b107 => .act (ld1 (aadd a6 0)) fun v108 => grd (past (ld1 (aadd a6 0)) v108 [h106]) (asInt .i64 v108 fun i109 => bif (decide (i109 ≥ 3)) == true then (.act (ld1 (aadd a6 0)) fun v110 => asInt .i64 v110 fun i111 => .ret .normal [(.bool (b107 == (decide (i111 ≤ 6))))]) else (.ret .normal [(.bool (b107 == false))])))) else (.ret .normal [(.bool false)])))))) else (.ret .normal [(.bool false)])) else (.act (ldN 3 a6) fun v112 => asAgg v112 fun l113 => asCons l113 fun v114 l115 => asInt .i64 v114 fun i116 => asCons l115 fun v117 l118 => asInt .i64 v117 fun i119 => asCons l118 fun v120 l121 => asStr v120 fun s122 => asNil l121 (.get fun h124 => .call 9 [(.agg #[(.int .i64 i116), (.int .i64 i119), (.string s122)])] fun v123 => asStr v123 fun s125 => .act (ld1 (aadd a6 0)) fun v126 => grd (past (ld1 (aadd a6 0)) v126 [h124]) (asInt .i64 v126 fun i127 => .act (ld1 (aadd a6 1)) fun v128 => grd (past (ld1 (aadd a6 1)) v128 [h124]) (asInt .i64 v128 fun i129 => .act (ld1 (aadd a6 2)) fun v130 => grd (past (ld1 (aadd a6 2)) v130 [h124]) (asStr v130 fun s131 => .call 10 [(.agg #[(.int .i64 i127), (.int .i64 i129), (.string s131)])] fun v132 => asStr v132 fun s133 => bif (s125.toList == s133.toList) == true then (.act (ldN 3 a6) fun v134 => asAgg v134 fun l135 => asCons l135 fun v136 l137 => asInt .i64 v136 fun i138 => asCons l137 fun v139 l140 => asInt .i64 v139 fun i141 => asCons l140 fun v142 l143 => asStr v142 fun s144 => asNil l143 (.get fun h146 => .call 11 [(.agg #[(.int .i64 i138), (.int .i64 i141), (.string s144)])] fun v145 => asBool v145 fun b147 => .act (ld1 (aadd a6 0)) fun v148 => grd (past (ld1 (aadd a6 0)) v148 [h146]) (asInt .i64 v148 fun i149 => bif (decide (i149 ≥ 3)) == true then (.act (ld1 (aadd a6 0)) fun v150 => asInt .i64 v150 fun i151 => .ret .normal [(.bool (b147 == (decide (i151 ≤ 6))))]) else (.ret .normal [(.bool (b147 == false))])))) else (.ret .normal [(.bool false)]))))))) else (.ret .normal [(.bool false)])) else (.ret .normal [(.bool false)])) else (.ret .normal [(.bool false)])) else (.ret .normal [(.bool false)])) (T3k0)))))))))) (.fail)

/-- hindsight/hindsightlaw24.CmdSays -/
noncomputable def T3 (s0 : ByteArray) (i1 : Int) (i2 : Int) (s3 : ByteArray) : Pg :=
  .act (newC [(.int .i64 i1), (.int .i64 i2), (.string s3)]) fun v4 => asPtr v4 fun p5 => asSome p5 fun a6 => .call 6 [] fun v7 => asBool v7 fun b8 => bif (!b8) then (.ret .ret [(.bool false)]) else (.join (bif (decide (((s0.size : Nat) : Int) > 200)) == false then (.act (ld1 (aadd a6 2)) fun v9 => asStr v9 fun s10 => .ret .normal [(.bool (decide (((s10.size : Nat) : Int) > 200)))]) else (.ret .normal [(.bool true)])) (T3k1 s0 a6))
theorem T3_eq (s0 : ByteArray) (i1 : Int) (i2 : Int) (s3 : ByteArray) : progOf PROG false 3 [(.string s0), (.agg #[(.int .i64 i1), (.int .i64 i2), (.string s3)])] = T3 s0 i1 i2 s3 := by kernel_rfl


noncomputable def T4k0 : Ex → List Value → Pg :=
  fun e137 l138 => sw e137 .normal (asCons l138 fun v139 l140 => asBool v139 fun b141 => asNil l140 (.ret .ret [(.bool b141)])) (.fail)

/-- hindsight/hindsightlaw24.CmdBack -/
noncomputable def T4 (s0 : ByteArray) : Pg :=
  .call 6 [] fun v1 => asBool v1 fun b2 => bif (!b2) then (.ret .ret [(.bool false)]) else (bif (decide (((s0.size : Nat) : Int) > 200)) then (.ret .ret [(.bool true)]) else (.call 7 [(.string s0)] fun v3 => asTuple v3 fun l4 => asCons l4 fun v5 l6 => asAgg v5 fun l7 => asCons l7 fun v8 l9 => asInt .i64 v8 fun i10 => asCons l9 fun v11 l12 => asInt .i64 v11 fun i13 => asCons l12 fun v14 l15 => asStr v14 fun s16 => asNil l15 (asCons l6 fun v17 l18 => asInt .i64 v17 fun i19 => asNil l18 (.act (newC [(.int .i64 0), (.int .i64 0), (.string (bs []))]) fun v20 => asPtr v20 fun p21 => asSome p21 fun a22 => .act (stC a22 [(.int .i64 i10), (.int .i64 i13), (.string s16)]) fun v23 => asTuple v23 fun l24 => asNil l24 (bif (i19 != 0) then (.act (ldN 3 a22) fun v25 => asAgg v25 fun l26 => asCons l26 fun v27 l28 => asInt .i64 v27 fun i29 => asCons l28 fun v30 l31 => asInt .i64 v30 fun i32 => asCons l31 fun v33 l34 => asStr v33 fun s35 => asNil l34 (.ret .ret [(.bool ((i29 == 0) && ((i32 == 0) && ((s35.toList == (bs []).toList) && true))))])) else (.act (ldN 3 a22) fun v36 => asAgg v36 fun l37 => asCons l37 fun v38 l39 => asInt .i64 v38 fun i40 => asCons l39 fun v41 l42 => asInt .i64 v41 fun i43 => asCons l42 fun v44 l45 => asStr v44 fun s46 => asNil l45 (.call 9 [(.agg #[(.int .i64 i40), (.int .i64 i43), (.string s46)])] fun v47 => asStr v47 fun s48 => .call 7 [(.string s48)] fun v49 => asTuple v49 fun l50 => asCons l50 fun v51 l52 => asAgg v51 fun l53 => asCons l53 fun v54 l55 => asInt .i64 v54 fun i56 => asCons l55 fun v57 l58 => asInt .i64 v57 fun i59 => asCons l58 fun v60 l61 => asStr v60 fun s62 => asNil l61 (asCons l52 fun v63 l64 => asInt .i64 v63 fun i65 => asNil l64 (.act (newC [(.int .i64 0), (.int .i64 0), (.string (bs []))]) fun v66 => asPtr v66 fun p67 => asSome p67 fun a68 => .act (stC a68 [(.int .i64 i56), (.int .i64 i59), (.string s62)]) fun v69 => asTuple v69 fun l70 => asNil l70 (grd (Nat.ble (1 + s0.size) 9223372036854775807) (grd (Nat.ble (((bs [32]) ++ s0).size + 1) 9223372036854775807) (.call 7 [(.string (((bs [32]) ++ s0) ++ (bs [10])))] fun v71 => asTuple v71 fun l72 => asCons l72 fun v73 l74 => asAgg v73 fun l75 => asCons l75 fun v76 l77 => asInt .i64 v76 fun i78 => asCons l77 fun v79 l80 => asInt .i64 v79 fun i81 => asCons l80 fun v82 l83 => asStr v82 fun s84 => asNil l83 (asCons l74 fun v85 l86 => asInt .i64 v85 fun i87 => asNil l86 (.act (newC [(.int .i64 0), (.int .i64 0), (.string (bs []))]) fun v88 => asPtr v88 fun p89 => asSome p89 fun a90 => .act (stC a90 [(.int .i64 i78), (.int .i64 i81), (.string s84)]) fun v91 => asTuple v91 fun l92 => asNil l92 (.join (bif (i65 == 0) == true then (.act (ldN 3 a68) fun v93 => asAgg v93 fun l94 => asCons l94 fun v95 l96 => asInt .i64 v95 fun i97 => asCons l96 fun v98 l99 => asInt .i64 v98 fun i100 => asCons l99 fun v101 l102 => asStr v101 fun s103 => asNil l102 (.act (ldN 3 a22) fun v104 => asAgg v104 fun l105 => asCons l105 fun v106 l107 => asInt .i64 v106 fun i108 => asCons l107 fun v109 l110 => asInt .i64 v109 fun i111 => asCons l110 fun v112 l113 => asStr v112 fun s114 => asNil l113 (bif (((i97 == i108) && ((i100 == i111) && ((s103.toList == s114.toList) && true))) && (i87 == 0)) == true then (.act (ldN 3 a90) fun v115 => asAgg v115 fun l116 => asCons l116 fun v117 l118 => asInt .i64 v117 fun i119 => asCons l118 fun v120 l121 => asInt .i64 v120 fun i122 => asCons l121 fun v123 l124 => asStr v123 fun s125 => asNil l124 (.act (ldN 3 a22) fun v126 => asAgg v126 fun l127 => asCons l127 fun v128 l129 => asInt .i64 v128 fun i130 => asCons l129 fun v131 l132 => asInt .i64 v131 fun i133 => asCons l132 fun v134 l135 => asStr v134 fun s136 => asNil l135 (.ret .normal [(.bool ((i119 == i130) && ((i122 == i133) && ((s125.toList == s136.toList) && true))))]))) else (.ret .normal [(.bool false)])))) else (.ret .normal [(.bool false)])) (T4k0))))))))))))))))
theorem T4_eq (s0 : ByteArray) : progOf PROG false 4 [(.string s0)] = T4 s0 := by kernel_rfl


noncomputable def T5k0 (i13 : Int) : Ex → List Value → Pg :=
  fun e17 l18 => sw e17 .normal (asCons l18 fun v19 l20 => asStr v19 fun s21 => asNil l20 (.ret .normal [(.int .i64 (wi64 (i13 + 1))), (.string s21)])) (.fail)

noncomputable def T5b0 (i2 : Int) : List Value → Pg :=
  fun l10 => asCons l10 fun v11 l12 => asInt .i64 v11 fun i13 => asCons l12 fun v14 l15 => asStr v14 fun s16 => asNil l15 (bif (decide (i13 < i2)) then (.join (grd (Nat.ble (s16.size + 1) 9223372036854775807) (.ret .normal [(.string (s16 ++ (bs [9])))])) (T5k0 i13)) else (.ret (.exit 0) [(.int .i64 i13), (.string s16)]))

noncomputable def T5k1 (s0 : ByteArray) (s1 : ByteArray) : Ex → List Value → Pg :=
  fun e22 l23 => sw e22 (.exit 0) (asCons l23 fun v24 l25 => asInt .i64 v24 fun i26 => asCons l25 fun v27 l28 => asStr v27 fun s29 => asNil l28 (grd (Nat.ble (s0.size + 1) 9223372036854775807) (grd (Nat.ble ((s0 ++ (bs [32])).size + s1.size) 9223372036854775807) (.call 7 [(.string ((s0 ++ (bs [32])) ++ s1))] fun v30 => asTuple v30 fun l31 => asCons l31 fun v32 l33 => asAgg v32 fun l34 => asCons l34 fun v35 l36 => asInt .i64 v35 fun i37 => asCons l36 fun v38 l39 => asInt .i64 v38 fun i40 => asCons l39 fun v41 l42 => asStr v41 fun s43 => asNil l42 (asCons l33 fun v44 l45 => asInt .i64 v44 fun i46 => asNil l45 (.act (newC [(.int .i64 0), (.int .i64 0), (.string (bs []))]) fun v47 => asPtr v47 fun p48 => asSome p48 fun a49 => .act (stC a49 [(.int .i64 i37), (.int .i64 i40), (.string s43)]) fun v50 => asTuple v50 fun l51 => asNil l51 (grd (Nat.ble (s29.size + s0.size) 9223372036854775807) (grd (Nat.ble ((s29 ++ s0).size + s29.size) 9223372036854775807) (grd (Nat.ble (((s29 ++ s0) ++ s29).size + s1.size) 9223372036854775807) (grd (Nat.ble ((((s29 ++ s0) ++ s29) ++ s1).size + s29.size) 9223372036854775807) (.call 7 [(.string ((((s29 ++ s0) ++ s29) ++ s1) ++ s29))] fun v52 => asTuple v52 fun l53 => asCons l53 fun v54 l55 => asAgg v54 fun l56 => asCons l56 fun v57 l58 => asInt .i64 v57 fun i59 => asCons l58 fun v60 l61 => asInt .i64 v60 fun i62 => asCons l61 fun v63 l64 => asStr v63 fun s65 => asNil l64 (asCons l55 fun v66 l67 => asInt .i64 v66 fun i68 => asNil l67 (.act (newC [(.int .i64 0), (.int .i64 0), (.string (bs []))]) fun v69 => asPtr v69 fun p70 => asSome p70 fun a71 => .act (stC a71 [(.int .i64 i59), (.int .i64 i62), (.string s65)]) fun v72 => asTuple v72 fun l73 => asNil l73 (.act (ldN 3 a49) fun v74 => asAgg v74 fun l75 => asCons l75 fun v76 l77 => asInt .i64 v76 fun i78 => asCons l77 fun v79 l80 => asInt .i64 v79 fun i81 => asCons l80 fun v82 l83 => asStr v82 fun s84 => asNil l83 (.act (ldN 3 a71) fun v85 => asAgg v85 fun l86 => asCons l86 fun v87 l88 => asInt .i64 v87 fun i89 => asCons l88 fun v90 l91 => asInt .i64 v90 fun i92 => asCons l91 fun v93 l94 => asStr v93 fun s95 => asNil l94 (.ret .ret [(.bool (((i78 == i89) && ((i81 == i92) && ((s84.toList == s95.toList) && true))) && (i46 == i68)))])))))))))))))))) (.fail)

noncomputable def T5k2 (i2 : Int) (s0 : ByteArray) (s1 : ByteArray) : Ex → List Value → Pg :=
  fun e5 l6 => sw e5 .normal (asCons l6 fun v7 l8 => asBool v7 fun b9 => asNil l8 (bif b9 then (.ret .ret [(.bool true)]) else (.loop [(.int .i64 0), (.string (bs [32]))] (T5b0 i2) (T5k1 s0 s1)))) (.fail)

/-- hindsight/hindsightlaw24.CmdWords -/
noncomputable def T5 (s0 : ByteArray) (s1 : ByteArray) (i2 : Int) : Pg :=
  .call 6 [] fun v3 => asBool v3 fun b4 => bif (!b4) then (.ret .ret [(.bool false)]) else (.join (bif (decide (((s0.size : Nat) : Int) > 60)) == false then (.ret .normal [(.bool (((decide (((s1.size : Nat) : Int) > 60)) || (decide (i2 < 0))) || (decide (i2 > 10))))]) else (.ret .normal [(.bool true)])) (T5k2 i2 s0 s1))
theorem T5_eq (s0 : ByteArray) (s1 : ByteArray) (i2 : Int) : progOf PROG false 5 [(.string s0), (.string s1), (.int .i64 i2)] = T5 s0 s1 i2 := by kernel_rfl


noncomputable def T6k0 : Ex → List Value → Pg :=
  fun e59 l60 => sw e59 .normal (asCons l60 fun v61 l62 => asBool v61 fun b63 => asNil l62 (.ret .ret [(.bool b63)])) (.fail)

/-- hindsight/hindsightlaw24.awake -/
noncomputable def T6 : Pg :=
  .call 7 [(.string (bs [32, 32, 115, 116, 101, 112]))] fun v0 => asTuple v0 fun l1 => asCons l1 fun v2 l3 => asAgg v2 fun l4 => asCons l4 fun v5 l6 => asInt .i64 v5 fun i7 => asCons l6 fun v8 l9 => asInt .i64 v8 fun i10 => asCons l9 fun v11 l12 => asStr v11 fun s13 => asNil l12 (asCons l3 fun v14 l15 => asInt .i64 v14 fun i16 => asNil l15 (.act (newC [(.int .i64 0), (.int .i64 0), (.string (bs []))]) fun v17 => asPtr v17 fun p18 => asSome p18 fun a19 => .act (stC a19 [(.int .i64 i7), (.int .i64 i10), (.string s13)]) fun v20 => asTuple v20 fun l21 => asNil l21 (.join (bif (i16 == 0) == true then (.act (ldN 3 a19) fun v22 => asAgg v22 fun l23 => asCons l23 fun v24 l25 => asInt .i64 v24 fun i26 => asCons l25 fun v27 l28 => asInt .i64 v27 fun i29 => asCons l28 fun v30 l31 => asStr v30 fun s32 => asNil l31 (bif ((i26 == 3) && ((i29 == 1) && ((s32.toList == (bs []).toList) && true))) == true then (.act (ldN 3 a19) fun v33 => asAgg v33 fun l34 => asCons l34 fun v35 l36 => asInt .i64 v35 fun i37 => asCons l36 fun v38 l39 => asInt .i64 v38 fun i40 => asCons l39 fun v41 l42 => asStr v41 fun s43 => asNil l42 (.call 9 [(.agg #[(.int .i64 i37), (.int .i64 i40), (.string s43)])] fun v44 => asStr v44 fun s45 => bif (s45.toList == (bs [115, 116, 101, 112, 32, 49]).toList) == true then (.act (ldN 3 a19) fun v46 => asAgg v46 fun l47 => asCons l47 fun v48 l49 => asInt .i64 v48 fun i50 => asCons l49 fun v51 l52 => asInt .i64 v51 fun i53 => asCons l52 fun v54 l55 => asStr v54 fun s56 => asNil l55 (.call 11 [(.agg #[(.int .i64 i50), (.int .i64 i53), (.string s56)])] fun v57 => asBool v57 fun b58 => .ret .normal [(.bool b58)])) else (.ret .normal [(.bool false)]))) else (.ret .normal [(.bool false)]))) else (.ret .normal [(.bool false)])) (T6k0))))
theorem T6_eq : progOf PROG false 6 [] = T6 := by kernel_rfl


/-- hindsight/cmd.Parse -/
noncomputable def T7 (s0 : ByteArray) : Pg :=
  .act (newC [(.int .i64 0), (.int .i64 0), (.string (bs []))]) fun v1 => asPtr v1 fun p2 => asSome p2 fun a3 => .call 12 [(.string s0)] fun v4 => asSlice v4 fun p5 n6 n7 => bif (((n6 : Nat) : Int) == 0) then (.act (stC a3 [(.int .i64 0), (.int .i64 0), (.string (bs []))]) fun v8 => asTuple v8 fun l9 => asNil l9 (.act (ldN 3 a3) fun v10 => .ret .ret [(.tuple #[v10, (.int .i64 13)])])) else (asSome p5 fun a11 => grd (decide (0 < ((n6 : Nat) : Int))) (.act (ld1 (aadd a11 0)) fun v12 => asStr v12 fun s13 => .call 13 [(.string s13)] fun v14 => asInt .i64 v14 fun i15 => grd ((((decide (1 ≤ ((n6 : Nat) : Int))) && (decide (((n6 : Nat) : Int) ≤ ((n7 : Nat) : Int)))) && (decide (((n7 : Nat) : Int) ≤ ((n7 : Nat) : Int)))) && ((mayCut p5 1) || false)) (.call 14 [(.int .i64 i15), (.slice (cutS p5 1) (n6 - 1) (n7 - 1))] fun v16 => asTuple v16 fun l17 => asCons l17 fun v18 l19 => asAgg v18 fun l20 => asCons l20 fun v21 l22 => asInt .i64 v21 fun i23 => asCons l22 fun v24 l25 => asInt .i64 v24 fun i26 => asCons l25 fun v27 l28 => asStr v27 fun s29 => asNil l28 (asCons l19 fun v30 l31 => asBool v30 fun b32 => asNil l31 (.act (newC [(.int .i64 0), (.int .i64 0), (.string (bs []))]) fun v33 => asPtr v33 fun p34 => asSome p34 fun a35 => .act (stC a35 [(.int .i64 i23), (.int .i64 i26), (.string s29)]) fun v36 => asTuple v36 fun l37 => asNil l37 (bif ((i15 == 0) || (!b32)) then (.act (stC a3 [(.int .i64 0), (.int .i64 0), (.string (bs []))]) fun v38 => asTuple v38 fun l39 => asNil l39 (.act (ldN 3 a3) fun v40 => .ret .ret [(.tuple #[v40, (.int .i64 13)])])) else (.act (ldN 3 a35) fun v41 => asAgg v41 fun l42 => asCons l42 fun v43 l44 => asInt .i64 v43 fun i45 => asCons l44 fun v46 l47 => asInt .i64 v46 fun i48 => asCons l47 fun v49 l50 => asStr v49 fun s51 => asNil l50 (.act (stC a3 [(.int .i64 i45), (.int .i64 i48), (.string s51)]) fun v52 => asTuple v52 fun l53 => asNil l53 (.act (ldN 3 a3) fun v54 => .ret .ret [(.tuple #[v54, (.int .i64 0)])])))))))))
theorem T7_eq (s0 : ByteArray) : progOf PROG false 7 [(.string s0)] = T7 s0 := by kernel_rfl


noncomputable def T8k0 (a3 : Addr) (p5 : (Option Addr)) (n6 : Nat) (a43 : Addr) : Ex → List Value → Pg :=
  fun e69 l70 => sw e69 .normal (asCons l70 fun v71 l72 => asBool v71 fun b73 => asNil l72 (bif b73 then (.act (stC a3 [(.int .i64 0), (.int .i64 0), (.string (bs []))]) fun v74 => asTuple v74 fun l75 => asNil l75 (.ret .ret [(.bool false)])) else (asSome p5 fun a76 => grd (decide (1 < ((n6 : Nat) : Int))) (.act (ld1 (aadd a76 1)) fun v77 => asStr v77 fun s78 => .act (stC (aadd a43 2) [(.string s78)]) fun v79 => asTuple v79 fun l80 => asNil l80 (.act (ldN 3 a43) fun v81 => asAgg v81 fun l82 => asCons l82 fun v83 l84 => asInt .i64 v83 fun i85 => asCons l84 fun v86 l87 => asInt .i64 v86 fun i88 => asCons l87 fun v89 l90 => asStr v89 fun s91 => asNil l90 (.act (stC a3 [(.int .i64 i85), (.int .i64 i88), (.string s91)]) fun v92 => asTuple v92 fun l93 => asNil l93 (.ret .ret [(.bool true)]))))))) (.fail)

noncomputable def T8k1 (a3 : Addr) (a43 : Addr) : Ex → List Value → Pg :=
  fun e133 l134 => sw e133 .normal (asCons l134 fun v135 l136 => asBool v135 fun b137 => asNil l136 (bif b137 then (.act (stC a3 [(.int .i64 0), (.int .i64 0), (.string (bs []))]) fun v138 => asTuple v138 fun l139 => asNil l139 (.ret .ret [(.bool false)])) else (.act (ldN 3 a43) fun v140 => asAgg v140 fun l141 => asCons l141 fun v142 l143 => asInt .i64 v142 fun i144 => asCons l143 fun v145 l146 => asInt .i64 v145 fun i147 => asCons l146 fun v148 l149 => asStr v148 fun s150 => asNil l149 (.act (stC a3 [(.int .i64 i144), (.int .i64 i147), (.string s150)]) fun v151 => asTuple v151 fun l152 => asNil l152 (.ret .ret [(.bool true)]))))) (.fail)

noncomputable def T8k2 (n6 : Nat) (p25 : (Option Addr)) (i31 : Int) (n26 : Nat) (a3 : Addr) (a43 : Addr) (p5 : (Option Addr)) : Ex → List Value → Pg :=
  fun e94 l95 => sw e94 .ret (asCons l95 fun v96 l97 => asBool v96 fun b98 => asNil l97 (.ret .ret [(.bool b98)])) (sw e94 .normal (asCons l95 fun v99 l100 => asBool v99 fun b101 => asNil l100 (bif (((n6 : Nat) : Int) == 1) then (asSome p25 fun a102 => grd ((decide (0 ≤ i31)) && (decide (i31 < ((n26 : Nat) : Int)))) (.act (ld1 (aadd a102 ((Int.toNat i31) * 1))) fun v103 => asInt .i64 v103 fun i104 => bif (i104 != 3) then (.act (stC a3 [(.int .i64 0), (.int .i64 0), (.string (bs []))]) fun v105 => asTuple v105 fun l106 => asNil l106 (.ret .ret [(.bool false)])) else (.act (stC (aadd a43 1) [(.int .i64 1)]) fun v107 => asTuple v107 fun l108 => asNil l108 (.act (ldN 3 a43) fun v109 => asAgg v109 fun l110 => asCons l110 fun v111 l112 => asInt .i64 v111 fun i113 => asCons l112 fun v114 l115 => asInt .i64 v114 fun i116 => asCons l115 fun v117 l118 => asStr v117 fun s119 => asNil l118 (.act (stC a3 [(.int .i64 i113), (.int .i64 i116), (.string s119)]) fun v120 => asTuple v120 fun l121 => asNil l121 (.ret .ret [(.bool true)])))))) else (asSome p5 fun a122 => grd (decide (1 < ((n6 : Nat) : Int))) (.act (ld1 (aadd a122 1)) fun v123 => asStr v123 fun s124 => .call 18 [(.string s124)] fun v125 => asInt .i64 v125 fun i126 => .act (stC (aadd a43 1) [(.int .i64 i126)]) fun v127 => asTuple v127 fun l128 => asNil l128 (.join (.act (ld1 (aadd a43 1)) fun v129 => asInt .i64 v129 fun i130 => bif (decide (i130 < 0)) == false then (.act (ld1 (aadd a43 1)) fun v131 => asInt .i64 v131 fun i132 => .ret .normal [(.bool ((i132 == 0) && (i31 != 10)))]) else (.ret .normal [(.bool true)])) (T8k1 a3 a43)))))) (.fail))

noncomputable def T8k3 (i31 : Int) : Ex → List Value → Pg :=
  fun e153 l154 => sw e153 .ret (asCons l154 fun v155 l156 => asBool v155 fun b157 => asNil l156 (.ret .ret [(.int .i64 i31), (.bool b157)])) (sw e153 .normal (asCons l154 fun v158 l159 => asBool v158 fun b160 => asNil l159 (.ret .normal [(.int .i64 (wi64 (i31 + 1))), (.bool b160)])) (.fail))

noncomputable def T8b0 (n21 : Nat) (p20 : (Option Addr)) (p5 : (Option Addr)) (n6 : Nat) (p25 : (Option Addr)) (n26 : Nat) (a3 : Addr) : List Value → Pg :=
  fun l28 => asCons l28 fun v29 l30 => asInt .i64 v29 fun i31 => asCons l30 fun v32 l33 => asBool v32 fun b34 => asNil l33 (bif (decide (i31 < ((n21 : Nat) : Int))) then (.join (asSome p20 fun a35 => grd ((decide (0 ≤ i31)) && (decide (i31 < ((n21 : Nat) : Int)))) (.act (ld1 (aadd a35 ((Int.toNat i31) * 1))) fun v36 => asStr v36 fun s37 => asSome p5 fun a38 => grd (decide (0 < ((n6 : Nat) : Int))) (.act (ld1 (aadd a38 0)) fun v39 => asStr v39 fun s40 => bif (!(s37.toList == s40.toList)) then (.ret .normal [(.bool b34)]) else (.act (newC [(.int .i64 0), (.int .i64 0), (.string (bs []))]) fun v41 => asPtr v41 fun p42 => asSome p42 fun a43 => .act (stC a43 [(.int .i64 i31), (.int .i64 0), (.string (bs []))]) fun v44 => asTuple v44 fun l45 => asNil l45 (asSome p25 fun a46 => grd ((decide (0 ≤ i31)) && (decide (i31 < ((n26 : Nat) : Int)))) (.act (ld1 (aadd a46 ((Int.toNat i31) * 1))) fun v47 => asInt .i64 v47 fun i48 => .join (bif (i48 == 0) then (bif (((n6 : Nat) : Int) != 1) then (.act (stC a3 [(.int .i64 0), (.int .i64 0), (.string (bs []))]) fun v49 => asTuple v49 fun l50 => asNil l50 (.ret .ret [(.bool false)])) else (.act (ldN 3 a43) fun v51 => asAgg v51 fun l52 => asCons l52 fun v53 l54 => asInt .i64 v53 fun i55 => asCons l54 fun v56 l57 => asInt .i64 v56 fun i58 => asCons l57 fun v59 l60 => asStr v59 fun s61 => asNil l60 (.act (stC a3 [(.int .i64 i55), (.int .i64 i58), (.string s61)]) fun v62 => asTuple v62 fun l63 => asNil l63 (.ret .ret [(.bool true)])))) else (bif (i48 == 2) then (.join (bif (((n6 : Nat) : Int) != 2) == false then (asSome p5 fun a64 => grd (decide (1 < ((n6 : Nat) : Int))) (.act (ld1 (aadd a64 1)) fun v65 => asStr v65 fun s66 => .call 17 [(.string s66)] fun v67 => asBool v67 fun b68 => .ret .normal [(.bool (!b68))])) else (.ret .normal [(.bool true)])) (T8k0 a3 p5 n6 a43)) else (.ret .normal [(.bool b34)]))) (T8k2 n6 p25 i31 n26 a3 a43 p5))))))) (T8k3 i31)) else (.ret (.exit 0) [(.int .i64 i31), (.bool b34)]))

noncomputable def T8k4 (a3 : Addr) : Ex → List Value → Pg :=
  fun e161 l162 => sw e161 (.exit 0) (asCons l162 fun v163 l164 => asInt .i64 v163 fun i165 => asCons l164 fun v166 l167 => asBool v166 fun b168 => asNil l167 (.act (stC a3 [(.int .i64 0), (.int .i64 0), (.string (bs []))]) fun v169 => asTuple v169 fun l170 => asNil l170 (.act (ldN 3 a3) fun v171 => .ret .ret [(.tuple #[v171, (.bool false)])]))) (sw e161 .ret (asCons l162 fun v172 l173 => asInt .i64 v172 fun i174 => asCons l173 fun v175 l176 => asBool v175 fun b177 => asNil l176 (.act (ldN 3 a3) fun v178 => .ret .ret [(.tuple #[v178, (.bool b177)])])) (.fail))

noncomputable def T8k5 (a3 : Addr) (p5 : (Option Addr)) (n6 : Nat) : Ex → List Value → Pg :=
  fun e8 l9 => sw e8 .normal (asCons l9 fun v10 l11 => asBool v10 fun b12 => asNil l11 (bif b12 then (.act (stC a3 [(.int .i64 0), (.int .i64 0), (.string (bs []))]) fun v13 => asTuple v13 fun l14 => asNil l14 (.act (ldN 3 a3) fun v15 => .ret .ret [(.tuple #[v15, (.bool false)])])) else (.call 16 [] fun v16 => asTuple v16 fun l17 => asCons l17 fun v18 l19 => asSlice v18 fun p20 n21 n22 => asCons l19 fun v23 l24 => asSlice v23 fun p25 n26 n27 => asNil l24 (.loop [(.int .i64 1), (.bool false)] (T8b0 n21 p20 p5 n6 p25 n26 a3) (T8k4 a3))))) (.fail)

/-- hindsight/hindsightref1.ParseCmd -/
noncomputable def T8 (s0 : ByteArray) : Pg :=
  .act (newC [(.int .i64 0), (.int .i64 0), (.string (bs []))]) fun v1 => asPtr v1 fun p2 => asSome p2 fun a3 => .call 15 [(.string s0)] fun v4 => asSlice v4 fun p5 n6 n7 => .join (bif (decide (((n6 : Nat) : Int) < 1)) == false then (.ret .normal [(.bool (decide (((n6 : Nat) : Int) > 2)))]) else (.ret .normal [(.bool true)])) (T8k5 a3 p5 n6)
theorem T8_eq (s0 : ByteArray) : progOf PROG false 8 [(.string s0)] = T8 s0 := by kernel_rfl


noncomputable def T9k0 (b22 : Bool) (s9 : ByteArray) (a5 : Addr) : Ex → List Value → Pg :=
  fun e42 l43 => sw e42 .normal (asCons l43 fun v44 l45 => asBool v44 fun b46 => asNil l45 (bif b46 then (.ret .ret [(.string (bs []))]) else (bif b22 then (grd (Nat.ble (s9.size + 1) 9223372036854775807) (.act (ld1 (aadd a5 1)) fun v47 => asInt .i64 v47 fun i48 => .call 22 [(.int .i64 i48), (.int .i64 10)] fun v49 => asStr v49 fun s50 => grd (Nat.ble ((s9 ++ (bs [32])).size + s50.size) 9223372036854775807) (.ret .ret [(.string ((s9 ++ (bs [32])) ++ s50))]))) else (.act (ld1 (aadd a5 0)) fun v51 => asInt .i64 v51 fun i52 => .call 21 [(.int .i64 i52)] fun v53 => asBool v53 fun b54 => bif (!b54) then (.ret .ret [(.string s9)]) else (.act (ld1 (aadd a5 2)) fun v55 => asStr v55 fun s56 => .call 23 [(.string s56)] fun v57 => asBool v57 fun b58 => bif (!b58) then (.ret .ret [(.string (bs []))]) else (.ret .normal [(.string (bs []))])))))) (.fail)

noncomputable def T9k1 (b22 : Bool) (a5 : Addr) (i16 : Int) (s9 : ByteArray) : Ex → List Value → Pg :=
  fun e33 l34 => sw e33 .normal (asCons l34 fun v35 l36 => asBool v35 fun b37 => asNil l36 (bif b37 then (.ret .ret [(.string (bs []))]) else (.join (bif b22 == true then (.act (ld1 (aadd a5 1)) fun v38 => asInt .i64 v38 fun i39 => bif (decide (i39 < i16)) == false then (.act (ld1 (aadd a5 1)) fun v40 => asInt .i64 v40 fun i41 => .ret .normal [(.bool (decide (i41 > 999999999)))]) else (.ret .normal [(.bool true)])) else (.ret .normal [(.bool false)])) (T9k0 b22 s9 a5)))) (.fail)

noncomputable def T9k2 (s9 : ByteArray) (a5 : Addr) : Ex → List Value → Pg :=
  fun e59 l60 => sw e59 .ret (asCons l60 fun v61 l62 => asStr v61 fun s63 => asNil l62 (.ret .ret [(.string s63)])) (sw e59 .normal (asCons l60 fun v64 l65 => asStr v64 fun s66 => asNil l65 (grd (Nat.ble (s9.size + 1) 9223372036854775807) (.act (ld1 (aadd a5 2)) fun v67 => asStr v67 fun s68 => grd (Nat.ble ((s9 ++ (bs [32])).size + s68.size) 9223372036854775807) (.ret .ret [(.string ((s9 ++ (bs [32])) ++ s68))])))) (.fail))

/-- hindsight/cmd.Show -/
noncomputable def T9 (i0 : Int) (i1 : Int) (s2 : ByteArray) : Pg :=
  .act (newC [(.int .i64 i0), (.int .i64 i1), (.string s2)]) fun v3 => asPtr v3 fun p4 => asSome p4 fun a5 => .act (ld1 (aadd a5 0)) fun v6 => asInt .i64 v6 fun i7 => .call 19 [(.int .i64 i7)] fun v8 => asStr v8 fun s9 => .act (ld1 (aadd a5 0)) fun v10 => asInt .i64 v10 fun i11 => .call 20 [(.int .i64 i11)] fun v12 => asTuple v12 fun l13 => asCons l13 fun v14 l15 => asInt .i64 v14 fun i16 => asCons l15 fun v17 l18 => asBool v17 fun b19 => asCons l18 fun v20 l21 => asBool v20 fun b22 => asNil l21 (.join (.join (bif (s9.toList == (bs []).toList) == false then (.act (ld1 (aadd a5 0)) fun v23 => asInt .i64 v23 fun i24 => .call 21 [(.int .i64 i24)] fun v25 => asBool v25 fun b26 => bif (!b26) == true then (.act (ld1 (aadd a5 2)) fun v27 => asStr v27 fun s28 => bif (!(s28.toList == (bs []).toList)) == false then (bif (!b22) == true then (.act (ld1 (aadd a5 1)) fun v29 => asInt .i64 v29 fun i30 => .ret .normal [(.bool (i30 != 0))]) else (.ret .normal [(.bool false)])) else (.ret .normal [(.bool true)])) else (bif (!b22) == true then (.act (ld1 (aadd a5 1)) fun v31 => asInt .i64 v31 fun i32 => .ret .normal [(.bool (i32 != 0))]) else (.ret .normal [(.bool false)]))) else (.ret .normal [(.bool true)])) (T9k1 b22 a5 i16 s9)) (T9k2 s9 a5))
theorem T9_eq (i0 : Int) (i1 : Int) (s2 : ByteArray) : progOf PROG false 9 [(.agg #[(.int .i64 i0), (.int .i64 i1), (.string s2)])] = T9 i0 i1 s2 := by kernel_rfl


noncomputable def T10k0 (a5 : Addr) (p19 : (Option Addr)) (n20 : Nat) : Ex → List Value → Pg :=
  fun e36 l37 => sw e36 .normal (asCons l37 fun v38 l39 => asBool v38 fun b40 => asNil l39 (bif b40 then (.ret .ret [(.string (bs []))]) else (.act (ld1 (aadd a5 0)) fun v41 => asInt .i64 v41 fun i42 => asSome p19 fun a43 => grd ((decide (0 ≤ i42)) && (decide (i42 < ((n20 : Nat) : Int)))) (.act (ld1 (aadd a43 ((Int.toNat i42) * 1))) fun v44 => asStr v44 fun s45 => .ret .ret [(.string s45)])))) (.fail)

noncomputable def T10k1 (a5 : Addr) (p19 : (Option Addr)) (n20 : Nat) : Ex → List Value → Pg :=
  fun e52 l53 => sw e52 .normal (asCons l53 fun v54 l55 => asBool v54 fun b56 => asNil l55 (bif b56 then (.ret .ret [(.string (bs []))]) else (.act (ld1 (aadd a5 0)) fun v57 => asInt .i64 v57 fun i58 => asSome p19 fun a59 => grd ((decide (0 ≤ i58)) && (decide (i58 < ((n20 : Nat) : Int)))) (.act (ld1 (aadd a59 ((Int.toNat i58) * 1))) fun v60 => asStr v60 fun s61 => grd (Nat.ble (s61.size + 1) 9223372036854775807) (.act (ld1 (aadd a5 2)) fun v62 => asStr v62 fun s63 => grd (Nat.ble ((s61 ++ (bs [32])).size + s63.size) 9223372036854775807) (.ret .ret [(.string ((s61 ++ (bs [32])) ++ s63))])))))) (.fail)

noncomputable def T10k2 (a5 : Addr) (p19 : (Option Addr)) (n20 : Nat) : Ex → List Value → Pg :=
  fun e86 l87 => sw e86 .normal (asCons l87 fun v88 l89 => asBool v88 fun b90 => asNil l89 (bif b90 then (.ret .ret [(.string (bs []))]) else (.act (ld1 (aadd a5 0)) fun v91 => asInt .i64 v91 fun i92 => asSome p19 fun a93 => grd ((decide (0 ≤ i92)) && (decide (i92 < ((n20 : Nat) : Int)))) (.act (ld1 (aadd a93 ((Int.toNat i92) * 1))) fun v94 => asStr v94 fun s95 => grd (Nat.ble (s95.size + 1) 9223372036854775807) (.act (ld1 (aadd a5 1)) fun v96 => asInt .i64 v96 fun i97 => .call 24 [(.int .i64 i97)] fun v98 => asStr v98 fun s99 => .get fun h100 => grd (chks [((ld1 (aadd a93 ((Int.toNat i92) * 1))), v94), ((ld1 (aadd a5 0)), v91)] h100) (grd (Nat.ble ((s95 ++ (bs [32])).size + s99.size) 9223372036854775807) (.ret .ret [(.string ((s95 ++ (bs [32])) ++ s99))]))))))) (.fail)

noncomputable def T10k3 (a5 : Addr) (p19 : (Option Addr)) (n20 : Nat) : Ex → List Value → Pg :=
  fun e64 l65 => sw e64 .ret (asCons l65 fun v66 l67 => asStr v66 fun s68 => asNil l67 (.ret .ret [(.string s68)])) (sw e64 .normal (asCons l65 fun v69 l70 => asStr v69 fun s71 => asNil l70 (.join (.act (ld1 (aadd a5 1)) fun v72 => asInt .i64 v72 fun i73 => bif (decide (i73 < 0)) == false then (.act (ld1 (aadd a5 1)) fun v74 => asInt .i64 v74 fun i75 => bif (i75 == 0) == true then (.act (ld1 (aadd a5 0)) fun v76 => asInt .i64 v76 fun i77 => bif (i77 != 10) == false then (.act (ld1 (aadd a5 1)) fun v78 => asInt .i64 v78 fun i79 => bif (decide (i79 > 999999999)) == false then (.act (ld1 (aadd a5 2)) fun v80 => asStr v80 fun s81 => .ret .normal [(.bool (!(s81.toList == (bs []).toList)))]) else (.ret .normal [(.bool true)])) else (.ret .normal [(.bool true)])) else (.act (ld1 (aadd a5 1)) fun v82 => asInt .i64 v82 fun i83 => bif (decide (i83 > 999999999)) == false then (.act (ld1 (aadd a5 2)) fun v84 => asStr v84 fun s85 => .ret .normal [(.bool (!(s85.toList == (bs []).toList)))]) else (.ret .normal [(.bool true)]))) else (.ret .normal [(.bool true)])) (T10k2 a5 p19 n20))) (.fail))

noncomputable def T10k4 (a5 : Addr) : Ex → List Value → Pg :=
  fun e10 l11 => sw e10 .normal (asCons l11 fun v12 l13 => asBool v12 fun b14 => asNil l13 (bif b14 then (.ret .ret [(.string (bs []))]) else (.call 16 [] fun v15 => asTuple v15 fun l16 => asCons l16 fun v17 l18 => asSlice v17 fun p19 n20 n21 => asCons l18 fun v22 l23 => asSlice v22 fun p24 n25 n26 => asNil l23 (.act (ld1 (aadd a5 0)) fun v27 => asInt .i64 v27 fun i28 => asSome p24 fun a29 => grd ((decide (0 ≤ i28)) && (decide (i28 < ((n25 : Nat) : Int)))) (.act (ld1 (aadd a29 ((Int.toNat i28) * 1))) fun v30 => asInt .i64 v30 fun i31 => .join (bif (i31 == 0) then (.join (.act (ld1 (aadd a5 1)) fun v32 => asInt .i64 v32 fun i33 => bif (i33 != 0) == false then (.act (ld1 (aadd a5 2)) fun v34 => asStr v34 fun s35 => .ret .normal [(.bool (!(s35.toList == (bs []).toList)))]) else (.ret .normal [(.bool true)])) (T10k0 a5 p19 n20)) else (bif (i31 == 2) then (.join (.act (ld1 (aadd a5 1)) fun v46 => asInt .i64 v46 fun i47 => bif (i47 != 0) == false then (.act (ld1 (aadd a5 2)) fun v48 => asStr v48 fun s49 => .call 17 [(.string s49)] fun v50 => asBool v50 fun b51 => .ret .normal [(.bool (!b51))]) else (.ret .normal [(.bool true)])) (T10k1 a5 p19 n20)) else (.ret .normal [(.string (bs []))]))) (T10k3 a5 p19 n20)))))) (.fail)

/-- hindsight/hindsightref1.ShowCmd -/
noncomputable def T10 (i0 : Int) (i1 : Int) (s2 : ByteArray) : Pg :=
  .act (newC [(.int .i64 i0), (.int .i64 i1), (.string s2)]) fun v3 => asPtr v3 fun p4 => asSome p4 fun a5 => .join (.act (ld1 (aadd a5 0)) fun v6 => asInt .i64 v6 fun i7 => bif (decide (i7 < 1)) == false then (.act (ld1 (aadd a5 0)) fun v8 => asInt .i64 v8 fun i9 => .ret .normal [(.bool (decide (i9 > 17)))]) else (.ret .normal [(.bool true)])) (T10k4 a5)
theorem T10_eq (i0 : Int) (i1 : Int) (s2 : ByteArray) : progOf PROG false 10 [(.agg #[(.int .i64 i0), (.int .i64 i1), (.string s2)])] = T10 i0 i1 s2 := by kernel_rfl


noncomputable def T11k0 : Ex → List Value → Pg :=
  fun e10 l11 => sw e10 .normal (asCons l11 fun v12 l13 => asBool v12 fun b14 => asNil l13 (.ret .ret [(.bool b14)])) (.fail)

/-- hindsight/cmd.Forward -/
noncomputable def T11 (i0 : Int) (i1 : Int) (s2 : ByteArray) : Pg :=
  .act (newC [(.int .i64 i0), (.int .i64 i1), (.string s2)]) fun v3 => asPtr v3 fun p4 => asSome p4 fun a5 => .join (.act (ld1 (aadd a5 0)) fun v6 => asInt .i64 v6 fun i7 => bif (decide (i7 ≥ 3)) == true then (.act (ld1 (aadd a5 0)) fun v8 => asInt .i64 v8 fun i9 => .ret .normal [(.bool (decide (i9 ≤ 6)))]) else (.ret .normal [(.bool false)])) (T11k0)
theorem T11_eq (i0 : Int) (i1 : Int) (s2 : ByteArray) : progOf PROG false 11 [(.agg #[(.int .i64 i0), (.int .i64 i1), (.string s2)])] = T11 i0 i1 s2 := by kernel_rfl


/-- hindsight/cmd.words -/
noncomputable def T12 (s0 : ByteArray) : Pg :=
  .call 25 [(.string s0), (.func (.func 26) #[] #[])] fun v1 => asSlice v1 fun p2 n3 n4 => .ret .ret [(.slice p2 n3 n4)]
theorem T12_eq (s0 : ByteArray) : progOf PROG false 12 [(.string s0)] = T12 s0 := by kernel_rfl


noncomputable def T13k0 (i4 : Int) : Ex → List Value → Pg :=
  fun e10 l11 => sw e10 .ret (asCons l11 fun v12 l13 => asInt .i64 v12 fun i14 => asNil l13 (.ret .ret [(.int .i64 i4), (.int .i64 i14)])) (sw e10 .normal (asCons l11 fun v15 l16 => asInt .i64 v15 fun i17 => asNil l16 (.ret .normal [(.int .i64 (wi64 (i4 + 1))), (.int .i64 i17)])) (.fail))

noncomputable def T13b0 (s0 : ByteArray) : List Value → Pg :=
  fun l1 => asCons l1 fun v2 l3 => asInt .i64 v2 fun i4 => asCons l3 fun v5 l6 => asInt .i64 v5 fun i7 => asNil l6 (bif (decide (i4 ≤ 17)) then (.join (.call 19 [(.int .i64 i4)] fun v8 => asStr v8 fun s9 => bif (s9.toList == s0.toList) then (.ret .ret [(.int .i64 i4)]) else (.ret .normal [(.int .i64 i7)])) (T13k0 i4)) else (.ret (.exit 0) [(.int .i64 i4), (.int .i64 i7)]))

noncomputable def T13k1 : Ex → List Value → Pg :=
  fun e18 l19 => sw e18 (.exit 0) (asCons l19 fun v20 l21 => asInt .i64 v20 fun i22 => asCons l21 fun v23 l24 => asInt .i64 v23 fun i25 => asNil l24 (.ret .ret [(.int .i64 0)])) (sw e18 .ret (asCons l19 fun v26 l27 => asInt .i64 v26 fun i28 => asCons l27 fun v29 l30 => asInt .i64 v29 fun i31 => asNil l30 (.ret .ret [(.int .i64 i31)])) (.fail))

/-- hindsight/cmd.find -/
noncomputable def T13 (s0 : ByteArray) : Pg :=
  .loop [(.int .i64 1), (.int .i64 0)] (T13b0 s0) (T13k1)
theorem T13_eq (s0 : ByteArray) : progOf PROG false 13 [(.string s0)] = T13 s0 := by kernel_rfl


noncomputable def T14k0 (p1 : (Option Addr)) (n2 : Nat) (a9 : Addr) (a6 : Addr) : Ex → List Value → Pg :=
  fun e76 l77 => sw e76 .normal (asCons l77 fun v78 l79 => asBool v78 fun b80 => asNil l79 (bif b80 then (asSome p1 fun a81 => grd (decide (0 < ((n2 : Nat) : Int))) (.act (ld1 (aadd a81 0)) fun v82 => asStr v82 fun s83 => .act (stC (aadd a9 2) [(.string s83)]) fun v84 => asTuple v84 fun l85 => asNil l85 (.act (ldN 3 a9) fun v86 => asAgg v86 fun l87 => asCons l87 fun v88 l89 => asInt .i64 v88 fun i90 => asCons l89 fun v91 l92 => asInt .i64 v91 fun i93 => asCons l92 fun v94 l95 => asStr v94 fun s96 => asNil l95 (asSome p1 fun a97 => grd (decide (0 < ((n2 : Nat) : Int))) (.act (ld1 (aadd a97 0)) fun v98 => asStr v98 fun s99 => .call 23 [(.string s99)] fun v100 => asBool v100 fun b101 => .get fun h104 => grd (chks [((ldN 3 a9), v86)] h104) (.act (stC a6 [(.int .i64 i90), (.int .i64 i93), (.string s96)]) fun v102 => asTuple v102 fun l103 => asNil l103 (.ret .ret [(.bool b101)]))))))) else (.ret .normal [(.bool false)]))) (.fail)

noncomputable def T14k1 (p1 : (Option Addr)) (n2 : Nat) (a9 : Addr) (a6 : Addr) (i16 : Int) (i0 : Int) : Ex → List Value → Pg :=
  fun e43 l44 => sw e43 .normal (asCons l44 fun v45 l46 => asBool v45 fun b47 => asNil l46 (bif b47 then (asSome p1 fun a48 => grd (decide (0 < ((n2 : Nat) : Int))) (.act (ld1 (aadd a48 0)) fun v49 => asStr v49 fun s50 => .call 28 [(.string s50)] fun v51 => asTuple v51 fun l52 => asCons l52 fun v53 l54 => asInt .i64 v53 fun i55 => asCons l54 fun v56 l57 => asBool v56 fun b58 => asNil l57 (.act (stC (aadd a9 1) [(.int .i64 i55)]) fun v59 => asTuple v59 fun l60 => asNil l60 (.act (ldN 3 a9) fun v61 => asAgg v61 fun l62 => asCons l62 fun v63 l64 => asInt .i64 v63 fun i65 => asCons l64 fun v66 l67 => asInt .i64 v66 fun i68 => asCons l67 fun v69 l70 => asStr v69 fun s71 => asNil l70 (.act (stC a6 [(.int .i64 i65), (.int .i64 i68), (.string s71)]) fun v72 => asTuple v72 fun l73 => asNil l73 (.ret .ret [(.bool (b58 && (decide (i55 ≥ i16))))])))))) else (.join (.call 21 [(.int .i64 i0)] fun v74 => asBool v74 fun b75 => bif b75 == true then (.ret .normal [(.bool (((n2 : Nat) : Int) == 1))]) else (.ret .normal [(.bool false)])) (T14k0 p1 n2 a9 a6)))) (.fail)

noncomputable def T14k2 (a9 : Addr) (a6 : Addr) (b22 : Bool) (n2 : Nat) (p1 : (Option Addr)) (i16 : Int) (i0 : Int) : Ex → List Value → Pg :=
  fun e23 l24 => sw e23 .normal (asCons l24 fun v25 l26 => asBool v25 fun b27 => asNil l26 (bif b27 then (.act (stC (aadd a9 1) [(.int .i64 1)]) fun v28 => asTuple v28 fun l29 => asNil l29 (.act (ldN 3 a9) fun v30 => asAgg v30 fun l31 => asCons l31 fun v32 l33 => asInt .i64 v32 fun i34 => asCons l33 fun v35 l36 => asInt .i64 v35 fun i37 => asCons l36 fun v38 l39 => asStr v38 fun s40 => asNil l39 (.act (stC a6 [(.int .i64 i34), (.int .i64 i37), (.string s40)]) fun v41 => asTuple v41 fun l42 => asNil l42 (.ret .ret [(.bool true)])))) else (.join (bif b22 == true then (.ret .normal [(.bool (((n2 : Nat) : Int) == 1))]) else (.ret .normal [(.bool false)])) (T14k1 p1 n2 a9 a6 i16 i0)))) (.fail)

noncomputable def T14k3 (a6 : Addr) : Ex → List Value → Pg :=
  fun e134 l135 => sw e134 .normal (asCons l135 fun v136 l137 => asBool v136 fun b138 => asNil l137 (.act (ldN 3 a6) fun v139 => .ret .ret [(.tuple #[v139, (.bool b138)])])) (.fail)

noncomputable def T14k4 (a6 : Addr) (a9 : Addr) (b22 : Bool) (i0 : Int) (n2 : Nat) : Ex → List Value → Pg :=
  fun e105 l106 => sw e105 .ret (asCons l106 fun v107 l108 => asBool v107 fun b109 => asNil l108 (.act (ldN 3 a6) fun v110 => .ret .ret [(.tuple #[v110, (.bool b109)])])) (sw e105 .normal (asCons l106 fun v111 l112 => asBool v111 fun b113 => asNil l112 (.join (.act (ldN 3 a9) fun v114 => asAgg v114 fun l115 => asCons l115 fun v116 l117 => asInt .i64 v116 fun i118 => asCons l117 fun v119 l120 => asInt .i64 v119 fun i121 => asCons l120 fun v122 l123 => asStr v122 fun s124 => asNil l123 (bif (!b22) == true then (.call 21 [(.int .i64 i0)] fun v125 => asBool v125 fun b126 => .get fun h131 => grd (chks [((ldN 3 a9), v114)] h131) (bif (!b126) == true then (.act (stC a6 [(.int .i64 i118), (.int .i64 i121), (.string s124)]) fun v127 => asTuple v127 fun l128 => asNil l128 (.ret .normal [(.bool (((n2 : Nat) : Int) == 0))])) else (.act (stC a6 [(.int .i64 i118), (.int .i64 i121), (.string s124)]) fun v129 => asTuple v129 fun l130 => asNil l130 (.ret .normal [(.bool false)])))) else (.act (stC a6 [(.int .i64 i118), (.int .i64 i121), (.string s124)]) fun v132 => asTuple v132 fun l133 => asNil l133 (.ret .normal [(.bool false)])))) (T14k3 a6))) (.fail))

/-- hindsight/cmd.filled -/
noncomputable def T14 (i0 : Int) (p1 : (Option Addr)) (n2 : Nat) (n3 : Nat) : Pg :=
  .act (newC [(.int .i64 0), (.int .i64 0), (.string (bs []))]) fun v4 => asPtr v4 fun p5 => asSome p5 fun a6 => .act (newC [(.int .i64 0), (.int .i64 0), (.string (bs []))]) fun v7 => asPtr v7 fun p8 => asSome p8 fun a9 => .act (stC a9 [(.int .i64 i0), (.int .i64 0), (.string (bs []))]) fun v10 => asTuple v10 fun l11 => asNil l11 (.call 20 [(.int .i64 i0)] fun v12 => asTuple v12 fun l13 => asCons l13 fun v14 l15 => asInt .i64 v14 fun i16 => asCons l15 fun v17 l18 => asBool v17 fun b19 => asCons l18 fun v20 l21 => asBool v20 fun b22 => asNil l21 (.join (.join (bif (b22 && b19) == true then (.ret .normal [(.bool (((n2 : Nat) : Int) == 0))]) else (.ret .normal [(.bool false)])) (T14k2 a9 a6 b22 n2 p1 i16 i0)) (T14k4 a6 a9 b22 i0 n2)))
theorem T14_eq (i0 : Int) (p1 : (Option Addr)) (n2 : Nat) (n3 : Nat) : progOf PROG false 14 [(.int .i64 i0), (.slice p1 n2 n3)] = T14 i0 p1 n2 n3 := by kernel_rfl


noncomputable def T15k0 : Ex → List Value → Pg :=
  fun e34 l35 => sw e34 .normal (asCons l35 fun v36 l37 => asSlice v36 fun p38 n39 n40 => asNil l37 (.ret .normal [(.string (bs [])), (.slice p38 n39 n40)])) (.fail)

noncomputable def T15k1 : Ex → List Value → Pg :=
  fun e41 l42 => sw e41 .normal (asCons l42 fun v43 l44 => asStr v43 fun s45 => asCons l44 fun v46 l47 => asSlice v46 fun p48 n49 n50 => asNil l47 (.ret .normal [(.string s45), (.slice p48 n49 n50)])) (.fail)

noncomputable def T15b0 (a3 : Addr) (s0 : ByteArray) : List Value → Pg :=
  fun l4 => asCons l4 fun v5 l6 => asStr v5 fun s7 => asCons l6 fun v8 l9 => asSlice v8 fun p10 n11 n12 => asNil l9 (.act (nxt (some a3)) fun v13 => asNx v13 (fun i14 i15 => .join (grd (((decide (0 ≤ i14)) && (decide (i14 ≤ ((s0.size : Nat) : Int)))) && (decide (((s0.size : Nat) : Int) ≤ ((s0.size : Nat) : Int)))) (.call 29 [(.string (s0.extract (Int.toNat i14) s0.size))] fun v16 => asTuple v16 fun l17 => asCons l17 fun v18 l19 => asInt .i32 v18 fun i20 => asCons l19 fun v21 l22 => asInt .i64 v21 fun i23 => asNil l22 (.call 30 [(.int .i32 i15)] fun v24 => asInt .i64 v24 fun i25 => bif (i25 == 3) then (.join (bif (!(s7.toList == (bs []).toList)) then (.act (bdSl 1 1 [(.string s7)]) fun v26 => asSlice v26 fun p27 n28 n29 => .act (apS 1 16 p10 n11 n12 p27 n28 n29) fun v30 => asSlice v30 fun p31 n32 n33 => .ret .normal [(.slice p31 n32 n33)]) else (.ret .normal [(.slice p10 n11 n12)])) (T15k0)) else (grd (((decide (0 ≤ i14)) && (decide (i14 ≤ (wi64 (i14 + i23))))) && (decide ((wi64 (i14 + i23)) ≤ ((s0.size : Nat) : Int)))) (grd (Nat.ble (s7.size + (s0.extract (Int.toNat i14) (Int.toNat (wi64 (i14 + i23)))).size) 9223372036854775807) (.ret .normal [(.string (s7 ++ (s0.extract (Int.toNat i14) (Int.toNat (wi64 (i14 + i23)))))), (.slice p10 n11 n12)])))))) (T15k1)) (.ret (.exit 0) [(.string s7), (.slice p10 n11 n12)]))

noncomputable def T15k2 : Ex → List Value → Pg :=
  fun e69 l70 => sw e69 .normal (asCons l70 fun v71 l72 => asSlice v71 fun p73 n74 n75 => asNil l72 (.ret .ret [(.slice p73 n74 n75)])) (.fail)

noncomputable def T15k3 : Ex → List Value → Pg :=
  fun e51 l52 => sw e51 (.exit 0) (asCons l52 fun v53 l54 => asStr v53 fun s55 => asCons l54 fun v56 l57 => asSlice v56 fun p58 n59 n60 => asNil l57 (.join (bif (!(s55.toList == (bs []).toList)) then (.act (bdSl 1 1 [(.string s55)]) fun v61 => asSlice v61 fun p62 n63 n64 => .act (apS 1 16 p58 n59 n60 p62 n63 n64) fun v65 => asSlice v65 fun p66 n67 n68 => .ret .normal [(.slice p66 n67 n68)]) else (.ret .normal [(.slice p58 n59 n60)])) (T15k2))) (.fail)

/-- hindsight/hindsightref1.cut -/
noncomputable def T15 (s0 : ByteArray) : Pg :=
  .act (rng s0) fun v1 => asPtr v1 fun p2 => asSome p2 fun a3 => .loop [(.string (bs [])), (.slice none 0 0)] (T15b0 a3 s0) (T15k3)
theorem T15_eq (s0 : ByteArray) : progOf PROG false 15 [(.string s0)] = T15 s0 := by kernel_rfl


/-- hindsight/hindsightref1.kinds -/
noncomputable def T16 : Pg :=
  .act (bdSl 1 18 [(.string (bs [])), (.string (bs [98, 114, 101, 97, 107])), (.string (bs [100, 101, 108, 101, 116, 101])), (.string (bs [115, 116, 101, 112])), (.string (bs [110, 101, 120, 116])), (.string (bs [102, 105, 110, 105, 115, 104])), (.string (bs [99, 111, 110, 116, 105, 110, 117, 101])), (.string (bs [98, 97, 99, 107])), (.string (bs [114, 110, 101, 120, 116])), (.string (bs [114, 99, 111, 110, 116, 105, 110, 117, 101])), (.string (bs [103, 111, 116, 111])), (.string (bs [119, 104, 101, 114, 101])), (.string (bs [108, 111, 99, 97, 108, 115])), (.string (bs [112, 114, 105, 110, 116])), (.string (bs [98, 97, 99, 107, 116, 114, 97, 99, 101])), (.string (bs [111, 117, 116])), (.string (bs [119, 97, 116, 99, 104])), (.string (bs [117, 110, 119, 97, 116, 99, 104]))]) fun v0 => asSlice v0 fun p1 n2 n3 => .act (bdSl 1 18 [(.int .i64 0), (.int .i64 1), (.int .i64 1), (.int .i64 3), (.int .i64 0), (.int .i64 0), (.int .i64 0), (.int .i64 3), (.int .i64 0), (.int .i64 0), (.int .i64 1), (.int .i64 0), (.int .i64 0), (.int .i64 2), (.int .i64 0), (.int .i64 0), (.int .i64 2), (.int .i64 2)]) fun v4 => asSlice v4 fun p5 n6 n7 => .ret .ret [(.tuple #[(.slice p1 n2 n3), (.slice p5 n6 n7)])]
theorem T16_eq : progOf PROG false 16 [] = T16 := by kernel_rfl


noncomputable def T17k0 : Ex → List Value → Pg :=
  fun e17 l18 => sw e17 .normal (asCons l18 fun v19 l20 => asBool v19 fun b21 => asNil l20 (.ret .ret [(.bool b21)])) (.fail)

/-- hindsight/hindsightref1.named -/
noncomputable def T17 (s0 : ByteArray) : Pg :=
  .call 29 [(.string s0)] fun v1 => asTuple v1 fun l2 => asCons l2 fun v3 l4 => asInt .i32 v3 fun i5 => asCons l4 fun v6 l7 => asInt .i64 v6 fun i8 => asNil l7 (.join (bif (decide (((s0.size : Nat) : Int) > 0)) == true then (.call 30 [(.int .i32 i5)] fun v9 => asInt .i64 v9 fun i10 => bif ((i10 == 1) && (i5 != 39)) == true then (.call 31 [(.int .i32 i5)] fun v11 => asBool v11 fun b12 => bif (!b12) == true then (.call 32 [(.string s0)] fun v13 => asInt .i64 v13 fun i14 => bif (i14 == ((s0.size : Nat) : Int)) == true then (.call 33 [(.string s0)] fun v15 => asInt .i64 v15 fun i16 => .ret .normal [(.bool (decide (i16 ≤ 40)))]) else (.ret .normal [(.bool false)])) else (.ret .normal [(.bool false)])) else (.ret .normal [(.bool false)])) else (.ret .normal [(.bool false)])) (T17k0))
theorem T17_eq (s0 : ByteArray) : progOf PROG false 17 [(.string s0)] = T17 s0 := by kernel_rfl


noncomputable def T18k0 (i12 : Int) (i9 : Int) (s0 : ByteArray) (i15 : Int) : Ex → List Value → Pg :=
  fun e16 l17 => sw e16 .normal (asCons l17 fun v18 l19 => asBool v18 fun b20 => asNil l19 (bif b20 then (.ret .ret [(.int .i64 i12), (.int .i64 (-1))]) else (grd ((decide (0 ≤ i9)) && (decide (i9 < ((s0.size : Nat) : Int)))) (.ret .normal [(.int .i64 (wi64 ((wi64 (10 * i12)) + (wi64 (wu8 ((byteAt s0 (Int.toNat i9)) - 48)))))), (.int .i64 i15)])))) (.fail)

noncomputable def T18k1 (i9 : Int) : Ex → List Value → Pg :=
  fun e21 l22 => sw e21 .ret (asCons l22 fun v23 l24 => asInt .i64 v23 fun i25 => asCons l24 fun v26 l27 => asInt .i64 v26 fun i28 => asNil l27 (.ret .ret [(.int .i64 i9), (.int .i64 i25), (.int .i64 i28)])) (sw e21 .normal (asCons l22 fun v29 l30 => asInt .i64 v29 fun i31 => asCons l30 fun v32 l33 => asInt .i64 v32 fun i34 => asNil l33 (.ret .normal [(.int .i64 (wi64 (i9 + 1))), (.int .i64 i31), (.int .i64 i34)])) (.fail))

noncomputable def T18b0 (s0 : ByteArray) : List Value → Pg :=
  fun l6 => asCons l6 fun v7 l8 => asInt .i64 v7 fun i9 => asCons l8 fun v10 l11 => asInt .i64 v10 fun i12 => asCons l11 fun v13 l14 => asInt .i64 v13 fun i15 => asNil l14 (bif (decide (i9 < ((s0.size : Nat) : Int))) then (.join (.join (grd ((decide (0 ≤ i9)) && (decide (i9 < ((s0.size : Nat) : Int)))) (bif (decide ((byteAt s0 (Int.toNat i9)) < 48)) == false then (grd ((decide (0 ≤ i9)) && (decide (i9 < ((s0.size : Nat) : Int)))) (.ret .normal [(.bool (decide ((byteAt s0 (Int.toNat i9)) > 57)))])) else (.ret .normal [(.bool true)]))) (T18k0 i12 i9 s0 i15)) (T18k1 i9)) else (.ret (.exit 0) [(.int .i64 i9), (.int .i64 i12), (.int .i64 i15)]))

noncomputable def T18k2 : Ex → List Value → Pg :=
  fun e35 l36 => sw e35 (.exit 0) (asCons l36 fun v37 l38 => asInt .i64 v37 fun i39 => asCons l38 fun v40 l41 => asInt .i64 v40 fun i42 => asCons l41 fun v43 l44 => asInt .i64 v43 fun i45 => asNil l44 (.ret .ret [(.int .i64 i42)])) (sw e35 .ret (asCons l36 fun v46 l47 => asInt .i64 v46 fun i48 => asCons l47 fun v49 l50 => asInt .i64 v49 fun i51 => asCons l50 fun v52 l53 => asInt .i64 v52 fun i54 => asNil l53 (.ret .ret [(.int .i64 i54)])) (.fail))

noncomputable def T18k3 (s0 : ByteArray) : Ex → List Value → Pg :=
  fun e1 l2 => sw e1 .normal (asCons l2 fun v3 l4 => asBool v3 fun b5 => asNil l4 (bif b5 then (.ret .ret [(.int .i64 (-1))]) else (.loop [(.int .i64 0), (.int .i64 0), (.int .i64 0)] (T18b0 s0) (T18k2)))) (.fail)

/-- hindsight/hindsightref1.count -/
noncomputable def T18 (s0 : ByteArray) : Pg :=
  .join (bif (decide (((s0.size : Nat) : Int) < 1)) == false then (.ret .normal [(.bool (decide (((s0.size : Nat) : Int) > 9)))]) else (.ret .normal [(.bool true)])) (T18k3 s0)
theorem T18_eq (s0 : ByteArray) : progOf PROG false 18 [(.string s0)] = T18 s0 := by kernel_rfl


noncomputable def T19k0 (i0 : Int) : Ex → List Value → Pg :=
  fun e1 l2 => sw e1 .ret (asCons l2 fun v3 l4 => asStr v3 fun s5 => asNil l4 (.ret .ret [(.string s5)])) (sw e1 .normal (asCons l2 fun v6 l7 => asStr v6 fun s8 => asNil l7 (.call 34 [(.int .i64 i0)] fun v9 => asStr v9 fun s10 => .ret .ret [(.string s10)])) (.fail))

/-- hindsight/cmd.word -/
noncomputable def T19 (i0 : Int) : Pg :=
  .join (bif (i0 == 1) then (.ret .ret [(.string (bs [98, 114, 101, 97, 107]))]) else (bif (i0 == 2) then (.ret .ret [(.string (bs [100, 101, 108, 101, 116, 101]))]) else (bif (i0 == 3) then (.ret .ret [(.string (bs [115, 116, 101, 112]))]) else (bif (i0 == 4) then (.ret .ret [(.string (bs [110, 101, 120, 116]))]) else (bif (i0 == 5) then (.ret .ret [(.string (bs [102, 105, 110, 105, 115, 104]))]) else (bif (i0 == 6) then (.ret .ret [(.string (bs [99, 111, 110, 116, 105, 110, 117, 101]))]) else (bif (i0 == 7) then (.ret .ret [(.string (bs [98, 97, 99, 107]))]) else (bif (i0 == 8) then (.ret .ret [(.string (bs [114, 110, 101, 120, 116]))]) else (bif (i0 == 9) then (.ret .ret [(.string (bs [114, 99, 111, 110, 116, 105, 110, 117, 101]))]) else (.ret .normal [(.string (bs []))])))))))))) (T19k0 i0)
theorem T19_eq (i0 : Int) : progOf PROG false 19 [(.int .i64 i0)] = T19 i0 := by kernel_rfl


noncomputable def T20k0 (i0 : Int) : Ex → List Value → Pg :=
  fun e6 l7 => sw e6 .normal (asCons l7 fun v8 l9 => asBool v8 fun b10 => asNil l9 (bif b10 then (.ret .ret [(.bool true), (.bool true), (.int .i64 1)]) else (bif (i0 == 10) then (.ret .ret [(.bool true), (.bool false), (.int .i64 0)]) else (.ret .normal [(.bool false), (.bool false), (.int .i64 0)])))) (.fail)

noncomputable def T20k1 (i0 : Int) : Ex → List Value → Pg :=
  fun e1 l2 => sw e1 .normal (asCons l2 fun v3 l4 => asBool v3 fun b5 => asNil l4 (bif b5 then (.ret .ret [(.bool true), (.bool false), (.int .i64 1)]) else (.join (bif (i0 == 3) then (.ret .normal [(.bool (i0 == 3))]) else (.ret .normal [(.bool (i0 == 7))])) (T20k0 i0)))) (.fail)

noncomputable def T20k2 : Ex → List Value → Pg :=
  fun e11 l12 => sw e11 .ret (asCons l12 fun v13 l14 => asBool v13 fun b15 => asCons l14 fun v16 l17 => asBool v16 fun b18 => asCons l17 fun v19 l20 => asInt .i64 v19 fun i21 => asNil l20 (.ret .ret [(.tuple #[(.int .i64 i21), (.bool b18), (.bool b15)])])) (sw e11 .normal (asCons l12 fun v22 l23 => asBool v22 fun b24 => asCons l23 fun v25 l26 => asBool v25 fun b27 => asCons l26 fun v28 l29 => asInt .i64 v28 fun i30 => asNil l29 (.ret .ret [(.tuple #[(.int .i64 0), (.bool false), (.bool false)])])) (.fail))

/-- hindsight/cmd.counted -/
noncomputable def T20 (i0 : Int) : Pg :=
  .join (.join (bif (i0 == 1) then (.ret .normal [(.bool (i0 == 1))]) else (.ret .normal [(.bool (i0 == 2))])) (T20k1 i0)) (T20k2)
theorem T20_eq (i0 : Int) : progOf PROG false 20 [(.int .i64 i0)] = T20 i0 := by kernel_rfl


/-- hindsight/cmd.named -/
noncomputable def T21 (i0 : Int) : Pg :=
  .ret .ret [(.bool (((i0 == 13) || (i0 == 16)) || (i0 == 17)))]
theorem T21_eq (i0 : Int) : progOf PROG false 21 [(.int .i64 i0)] = T21 i0 := by kernel_rfl


noncomputable def T23k0 : Ex → List Value → Pg :=
  fun e22 l23 => sw e22 .ret (asCons l23 fun v24 l25 => asBool v24 fun b26 => asNil l25 (.ret .ret [(.bool b26)])) (sw e22 .normal (asCons l23 fun v27 l28 => asBool v27 fun b29 => asNil l28 (.ret .normal [(.bool b29)])) (.fail))

noncomputable def T23b0 (a12 : Addr) : List Value → Pg :=
  fun l13 => asCons l13 fun v14 l15 => asBool v14 fun b16 => asNil l15 (.act (nxt (some a12)) fun v17 => asNx v17 (fun i18 i19 => .join (.call 27 [(.int .i32 i19)] fun v20 => asInt .i64 v20 fun i21 => bif ((i21 != 1) && ((i18 == 0) || (i21 != 2))) then (.ret .ret [(.bool false)]) else (.ret .normal [(.bool b16)])) (T23k0)) (.ret (.exit 0) [(.bool b16)]))

noncomputable def T23k1 : Ex → List Value → Pg :=
  fun e30 l31 => sw e30 (.exit 0) (asCons l31 fun v32 l33 => asBool v32 fun b34 => asNil l33 (.ret .ret [(.bool true)])) (sw e30 .ret (asCons l31 fun v35 l36 => asBool v35 fun b37 => asNil l36 (.ret .ret [(.bool b37)])) (.fail))

noncomputable def T23k2 (s0 : ByteArray) : Ex → List Value → Pg :=
  fun e5 l6 => sw e5 .normal (asCons l6 fun v7 l8 => asBool v7 fun b9 => asNil l8 (bif b9 then (.ret .ret [(.bool false)]) else (.act (rng s0) fun v10 => asPtr v10 fun p11 => asSome p11 fun a12 => .loop [(.bool false)] (T23b0 a12) (T23k1)))) (.fail)

/-- hindsight/cmd.name -/
noncomputable def T23 (s0 : ByteArray) : Pg :=
  .join (bif (s0.toList == (bs []).toList) == false then (.call 36 [(.string s0)] fun v1 => asBool v1 fun b2 => bif b2 == false then (grd (decide (0 < ((s0.size : Nat) : Int))) (bif ((byteAt s0 0) == 39) == false then (.call 37 [(.string s0)] fun v3 => asInt .i64 v3 fun i4 => .ret .normal [(.bool (decide (i4 > 40)))]) else (.ret .normal [(.bool true)]))) else (.ret .normal [(.bool true)])) else (.ret .normal [(.bool true)])) (T23k2 s0)
theorem T23_eq (s0 : ByteArray) : progOf PROG false 23 [(.string s0)] = T23 s0 := by kernel_rfl


/-- hindsight/hindsightref1.Digits -/
noncomputable def T24 (i0 : Int) : Pg :=
  bif (decide (i0 < 0)) then (bif (decide ((wu64 (wi64 (0 - i0))) ≥ 10)) then (.call 24 [(.int .i64 (wi64 (wu64 (Int.tdiv (wu64 (wi64 (0 - i0))) 10))))] fun v1 => asStr v1 fun s2 => grd (Nat.ble (1 + s2.size) 9223372036854775807) (.call 24 [(.int .i64 (wi64 (Int.tmod (wu64 (wi64 (0 - i0))) 10)))] fun v3 => asStr v3 fun s4 => grd (Nat.ble (((bs [45]) ++ s2).size + s4.size) 9223372036854775807) (.ret .ret [(.string (((bs [45]) ++ s2) ++ s4))]))) else (.call 24 [(.int .i64 (wi64 (wu64 (wi64 (0 - i0)))))] fun v5 => asStr v5 fun s6 => grd (Nat.ble (1 + s6.size) 9223372036854775807) (.ret .ret [(.string ((bs [45]) ++ s6))]))) else (bif (decide (i0 < 10)) then (.act (bdSl 1 1 [(.int .u8 (wu8 (wi64 (48 + i0))))]) fun v7 => asSlice v7 fun p8 n9 n10 => .act (bytesToStringAct (.slice p8 n9 n10)) fun v11 => asStr v11 fun s12 => .ret .ret [(.string s12)]) else (.call 24 [(.int .i64 (wi64 (Int.tdiv i0 10)))] fun v13 => asStr v13 fun s14 => .call 24 [(.int .i64 (Int.tmod i0 10))] fun v15 => asStr v15 fun s16 => grd (Nat.ble (s14.size + s16.size) 9223372036854775807) (.ret .ret [(.string (s14 ++ s16))])))
theorem T24_eq (i0 : Int) : progOf PROG false 24 [(.int .i64 i0)] = T24 i0 := by kernel_rfl


noncomputable def T25k0 : Ex → List Value → Pg :=
  fun e34 l35 => sw e34 .normal (asCons l35 fun v36 l37 => asInt .i64 v36 fun i38 => asCons l37 fun v39 l40 => asSlice v39 fun p41 n42 n43 => asNil l40 (.ret .normal [(.int .i64 i38), (.slice p41 n42 n43)])) (.fail)

noncomputable def T25k1 (p15 : (Option Addr)) (n16 : Nat) (n17 : Nat) : Ex → List Value → Pg :=
  fun e44 l45 => sw e44 .normal (asCons l45 fun v46 l47 => asInt .i64 v46 fun i48 => asNil l47 (.ret .normal [(.int .i64 i48), (.slice p15 n16 n17)])) (.fail)

noncomputable def T25k2 : Ex → List Value → Pg :=
  fun e49 l50 => sw e49 .normal (asCons l50 fun v51 l52 => asInt .i64 v51 fun i53 => asCons l52 fun v54 l55 => asSlice v54 fun p56 n57 n58 => asNil l55 (.ret .normal [(.int .i64 i53), (.slice p56 n57 n58)])) (.fail)

noncomputable def T25k3 : Ex → List Value → Pg :=
  fun e59 l60 => sw e59 .normal (asCons l60 fun v61 l62 => asInt .i64 v61 fun i63 => asCons l62 fun v64 l65 => asSlice v64 fun p66 n67 n68 => asNil l65 (.ret .normal [(.int .i64 i63), (.slice p66 n67 n68)])) (.fail)

noncomputable def T25b0 (a8 : Addr) (v1 : Value) : List Value → Pg :=
  fun l9 => asCons l9 fun v10 l11 => asInt .i64 v10 fun i12 => asCons l11 fun v13 l14 => asSlice v13 fun p15 n16 n17 => asNil l14 (.act (nxt (some a8)) fun v18 => asNx v18 (fun i19 i20 => .join (asFunc v1 fun n21 l22 l23 => .call n21 (l22 ++ [(.int .i32 i20)] ++ l23) fun v24 => asBool v24 fun b25 => .join (bif b25 then (.join (bif (decide (i12 ≥ 0)) then (.act (bdSl 2 1 [(.int .i64 i12), (.int .i64 i19)]) fun v26 => asSlice v26 fun p27 n28 n29 => .act (apS 2 16 p15 n16 n17 p27 n28 n29) fun v30 => asSlice v30 fun p31 n32 n33 => .ret .normal [(.int .i64 (xorI .i64 (-1) i12)), (.slice p31 n32 n33)]) else (.ret .normal [(.int .i64 i12), (.slice p15 n16 n17)])) (T25k0)) else (.join (bif (decide (i12 < 0)) then (.ret .normal [(.int .i64 i19)]) else (.ret .normal [(.int .i64 i12)])) (T25k1 p15 n16 n17))) (T25k2)) (T25k3)) (.ret (.exit 0) [(.int .i64 i12), (.slice p15 n16 n17)]))

noncomputable def T25k4 (i101 : Int) : Ex → List Value → Pg :=
  fun e123 l124 => sw e123 .normal (asNil l124 (.ret .normal [(.int .i64 (wi64 (i101 + 1)))])) (.fail)

noncomputable def T25b1 (n92 : Nat) (p91 : (Option Addr)) (s0 : ByteArray) (p95 : (Option Addr)) (n96 : Nat) : List Value → Pg :=
  fun l98 => asCons l98 fun v99 l100 => asInt .i64 v99 fun i101 => asNil l100 (bif (decide (i101 < ((n92 : Nat) : Int))) then (.join (asSome p91 fun a102 => grd ((decide (0 ≤ i101)) && (decide (i101 < ((n92 : Nat) : Int)))) (.act (ldN 2 (aadd a102 ((Int.toNat i101) * 2))) fun v103 => asAgg v103 fun l104 => asCons l104 fun v105 l106 => asInt .i64 v105 fun i107 => asCons l106 fun v108 l109 => asInt .i64 v108 fun i110 => asNil l109 (.act (newC [(.int .i64 0), (.int .i64 0)]) fun v111 => asPtr v111 fun p112 => asSome p112 fun a113 => .act (stC a113 [(.int .i64 i107), (.int .i64 i110)]) fun v114 => asTuple v114 fun l115 => asNil l115 (.act (ld1 (aadd a113 0)) fun v116 => asInt .i64 v116 fun i117 => .act (ld1 (aadd a113 1)) fun v118 => asInt .i64 v118 fun i119 => grd (((decide (0 ≤ i117)) && (decide (i117 ≤ i119))) && (decide (i119 ≤ ((s0.size : Nat) : Int)))) (asSome p95 fun a120 => grd ((decide (0 ≤ i101)) && (decide (i101 < ((n96 : Nat) : Int)))) (.act (stC (aadd a120 ((Int.toNat i101) * 1)) [(.string (s0.extract (Int.toNat i117) (Int.toNat i119)))]) fun v121 => asTuple v121 fun l122 => asNil l122 (.ret .normal []))))))) (T25k4 i101)) else (.ret (.exit 2) [(.int .i64 i101)]))

noncomputable def T25k5 (p95 : (Option Addr)) (n96 : Nat) (n97 : Nat) : Ex → List Value → Pg :=
  fun e125 l126 => sw e125 (.exit 2) (asCons l126 fun v127 l128 => asInt .i64 v127 fun i129 => asNil l128 (.ret .ret [(.slice p95 n96 n97)])) (.fail)

noncomputable def T25k6 (s0 : ByteArray) : Ex → List Value → Pg :=
  fun e87 l88 => sw e87 .normal (asCons l88 fun v89 l90 => asSlice v89 fun p91 n92 n93 => asNil l90 (.act (mkSl 1 16 [(.string (bs []))] ((n92 : Nat) : Int) ((n92 : Nat) : Int)) fun v94 => asSlice v94 fun p95 n96 n97 => .loop [(.int .i64 0)] (T25b1 n92 p91 s0 p95 n96) (T25k5 p95 n96 n97))) (.fail)

noncomputable def T25k7 (s0 : ByteArray) : Ex → List Value → Pg :=
  fun e69 l70 => sw e69 (.exit 0) (asCons l70 fun v71 l72 => asInt .i64 v71 fun i73 => asCons l72 fun v74 l75 => asSlice v74 fun p76 n77 n78 => asNil l75 (.join (bif (decide (i73 ≥ 0)) then (.act (bdSl 2 1 [(.int .i64 i73), (.int .i64 ((s0.size : Nat) : Int))]) fun v79 => asSlice v79 fun p80 n81 n82 => .act (apS 2 16 p76 n77 n78 p80 n81 n82) fun v83 => asSlice v83 fun p84 n85 n86 => .ret .normal [(.slice p84 n85 n86)]) else (.ret .normal [(.slice p76 n77 n78)])) (T25k6 s0))) (.fail)

/-- strings.FieldsFunc -/
noncomputable def T25 (s0 : ByteArray) (v1 : Value) : Pg :=
  .act (mkSl 2 16 [(.int .i64 0), (.int .i64 0)] 0 32) fun v2 => asSlice v2 fun p3 n4 n5 => .act (rng s0) fun v6 => asPtr v6 fun p7 => asSome p7 fun a8 => .loop [(.int .i64 (-1)), (.slice p3 n4 n5)] (T25b0 a8 v1) (T25k7 s0)
theorem T25_eq (s0 : ByteArray) (v1 : Value) : progOf PROG false 25 [(.string s0), v1] = T25 s0 v1 := by kernel_rfl


/-- hindsight/cmd.words$1 -/
noncomputable def T26 (i0 : Int) : Pg :=
  .call 27 [(.int .i32 i0)] fun v1 => asInt .i64 v1 fun i2 => .ret .ret [(.bool (i2 == 3))]
theorem T26_eq (i0 : Int) : progOf PROG false 26 [(.int .i32 i0)] = T26 i0 := by kernel_rfl


noncomputable def T27k0 (i0 : Int) : Ex → List Value → Pg :=
  fun e3 l4 => sw e3 .normal (asCons l4 fun v5 l6 => asBool v5 fun b7 => asNil l6 (bif b7 then (.ret .ret [(.int .i64 1)]) else (bif ((decide (i0 ≥ 48)) && (decide (i0 ≤ 57))) then (.ret .ret [(.int .i64 2)]) else (.ret .normal [(.int .i64 0)])))) (.fail)

noncomputable def T27k1 : Ex → List Value → Pg :=
  fun e16 l17 => sw e16 .normal (asCons l17 fun v18 l19 => asBool v18 fun b20 => asNil l19 (.ret .normal [(.bool b20)])) (.fail)

noncomputable def T27k2 : Ex → List Value → Pg :=
  fun e21 l22 => sw e21 .normal (asCons l22 fun v23 l24 => asBool v23 fun b25 => asNil l24 (.ret .normal [(.bool b25)])) (.fail)

noncomputable def T27k3 : Ex → List Value → Pg :=
  fun e31 l32 => sw e31 .normal (asCons l32 fun v33 l34 => asBool v33 fun b35 => asNil l34 (.ret .normal [(.bool b35)])) (.fail)

noncomputable def T27k4 : Ex → List Value → Pg :=
  fun e36 l37 => sw e36 .normal (asCons l37 fun v38 l39 => asBool v38 fun b40 => asNil l39 (.ret .normal [(.bool b40)])) (.fail)

noncomputable def T27k5 : Ex → List Value → Pg :=
  fun e41 l42 => sw e41 .normal (asCons l42 fun v43 l44 => asBool v43 fun b45 => asNil l44 (.ret .normal [(.bool b45)])) (.fail)

noncomputable def T27k6 : Ex → List Value → Pg :=
  fun e46 l47 => sw e46 .normal (asCons l47 fun v48 l49 => asBool v48 fun b50 => asNil l49 (.ret .normal [(.bool b50)])) (.fail)

noncomputable def T27k7 : Ex → List Value → Pg :=
  fun e51 l52 => sw e51 .normal (asCons l52 fun v53 l54 => asBool v53 fun b55 => asNil l54 (.ret .normal [(.bool b55)])) (.fail)

noncomputable def T27k8 : Ex → List Value → Pg :=
  fun e56 l57 => sw e56 .normal (asCons l57 fun v58 l59 => asBool v58 fun b60 => asNil l59 (.ret .normal [(.bool b60)])) (.fail)

noncomputable def T27k9 : Ex → List Value → Pg :=
  fun e61 l62 => sw e61 .normal (asCons l62 fun v63 l64 => asBool v63 fun b65 => asNil l64 (.ret .normal [(.bool b65)])) (.fail)

noncomputable def T27k10 : Ex → List Value → Pg :=
  fun e66 l67 => sw e66 .normal (asCons l67 fun v68 l69 => asBool v68 fun b70 => asNil l69 (.ret .normal [(.bool b70)])) (.fail)

noncomputable def T27k11 : Ex → List Value → Pg :=
  fun e71 l72 => sw e71 .normal (asCons l72 fun v73 l74 => asBool v73 fun b75 => asNil l74 (.ret .normal [(.bool b75)])) (.fail)

noncomputable def T27k12 : Ex → List Value → Pg :=
  fun e76 l77 => sw e76 .normal (asCons l77 fun v78 l79 => asBool v78 fun b80 => asNil l79 (.ret .normal [(.bool b80)])) (.fail)

noncomputable def T27k13 : Ex → List Value → Pg :=
  fun e81 l82 => sw e81 .normal (asCons l82 fun v83 l84 => asBool v83 fun b85 => asNil l84 (.ret .normal [(.bool b85)])) (.fail)

noncomputable def T27k14 (i15 : Int) : Ex → List Value → Pg :=
  fun e86 l87 => sw e86 .normal (asCons l87 fun v88 l89 => asBool v88 fun b90 => asNil l89 (bif b90 then (.ret .ret [(.int .i64 4)]) else (.ret .normal [(.int .i64 i15)]))) (.fail)

noncomputable def T27k15 (i0 : Int) (i15 : Int) : Ex → List Value → Pg :=
  fun e26 l27 => sw e26 .normal (asCons l27 fun v28 l29 => asBool v28 fun b30 => asNil l29 (bif b30 then (.ret .ret [(.int .i64 3)]) else (.join (bif (i0 == 40) then (.ret .normal [(.bool (i0 == 40))]) else (.join (bif (i0 == 41) then (.ret .normal [(.bool (i0 == 41))]) else (.join (bif (i0 == 44) then (.ret .normal [(.bool (i0 == 44))]) else (.join (bif (i0 == 59) then (.ret .normal [(.bool (i0 == 59))]) else (.join (bif (i0 == 61) then (.ret .normal [(.bool (i0 == 61))]) else (.join (bif (i0 == 60) then (.ret .normal [(.bool (i0 == 60))]) else (.join (bif (i0 == 62) then (.ret .normal [(.bool (i0 == 62))]) else (.join (bif (i0 == 43) then (.ret .normal [(.bool (i0 == 43))]) else (.join (bif (i0 == 45) then (.ret .normal [(.bool (i0 == 45))]) else (.join (bif (i0 == 42) then (.ret .normal [(.bool (i0 == 42))]) else (.join (bif (i0 == 124) then (.ret .normal [(.bool (i0 == 124))]) else (.join (bif (i0 == 33) then (.ret .normal [(.bool (i0 == 33))]) else (.ret .normal [(.bool (i0 == 58))])) (T27k3))) (T27k4))) (T27k5))) (T27k6))) (T27k7))) (T27k8))) (T27k9))) (T27k10))) (T27k11))) (T27k12))) (T27k13))) (T27k14 i15)))) (.fail)

noncomputable def T27k16 : Ex → List Value → Pg :=
  fun e91 l92 => sw e91 .ret (asCons l92 fun v93 l94 => asInt .i64 v93 fun i95 => asNil l94 (.ret .ret [(.int .i64 i95)])) (sw e91 .normal (asCons l92 fun v96 l97 => asInt .i64 v96 fun i98 => asNil l97 (.ret .ret [(.int .i64 0)])) (.fail))

noncomputable def T27k17 (i0 : Int) : Ex → List Value → Pg :=
  fun e8 l9 => sw e8 .ret (asCons l9 fun v10 l11 => asInt .i64 v10 fun i12 => asNil l11 (.ret .ret [(.int .i64 i12)])) (sw e8 .normal (asCons l9 fun v13 l14 => asInt .i64 v13 fun i15 => asNil l14 (.join (.join (bif (i0 == 32) then (.ret .normal [(.bool (i0 == 32))]) else (.join (bif (i0 == 9) then (.ret .normal [(.bool (i0 == 9))]) else (.join (bif (i0 == 10) then (.ret .normal [(.bool (i0 == 10))]) else (.ret .normal [(.bool (i0 == 13))])) (T27k1))) (T27k2))) (T27k15 i0 i15)) (T27k16))) (.fail))

/-- hindsight/chars.Class -/
noncomputable def T27 (i0 : Int) : Pg :=
  .join (.join (bif ((i0 == 95) || (i0 == 39)) == false then (.call 38 [(.int .i32 i0)] fun v1 => asBool v1 fun b2 => .ret .normal [(.bool b2)]) else (.ret .normal [(.bool true)])) (T27k0 i0)) (T27k17 i0)
theorem T27_eq (i0 : Int) : progOf PROG false 27 [(.int .i32 i0)] = T27 i0 := by kernel_rfl


noncomputable def T28k0 : Ex → List Value → Pg :=
  fun e24 l25 => sw e24 .ret (asCons l25 fun v26 l27 => asInt .i64 v26 fun i28 => asCons l27 fun v29 l30 => asBool v29 fun b31 => asCons l30 fun v32 l33 => asInt .i64 v32 fun i34 => asNil l33 (.ret .ret [(.int .i64 i28), (.bool b31), (.int .i64 i34)])) (sw e24 .normal (asCons l25 fun v35 l36 => asInt .i64 v35 fun i37 => asCons l36 fun v38 l39 => asBool v38 fun b40 => asCons l39 fun v41 l42 => asInt .i64 v41 fun i43 => asNil l42 (.ret .normal [(.int .i64 i37), (.bool b40), (.int .i64 i43)])) (.fail))

noncomputable def T28b0 (a8 : Addr) : List Value → Pg :=
  fun l9 => asCons l9 fun v10 l11 => asInt .i64 v10 fun i12 => asCons l11 fun v13 l14 => asBool v13 fun b15 => asCons l14 fun v16 l17 => asInt .i64 v16 fun i18 => asNil l17 (.act (nxt (some a8)) fun v19 => asNx v19 (fun i20 i21 => .join (.call 27 [(.int .i32 i21)] fun v22 => asInt .i64 v22 fun i23 => bif (i23 != 2) then (.ret .ret [(.int .i64 i12), (.bool false), (.int .i64 0)]) else (.ret .normal [(.int .i64 (wi64 ((wi64 (10 * i12)) + (wi64 (wi32 (i21 - 48)))))), (.bool b15), (.int .i64 i18)])) (T28k0)) (.ret (.exit 0) [(.int .i64 i12), (.bool b15), (.int .i64 i18)]))

noncomputable def T28k1 : Ex → List Value → Pg :=
  fun e44 l45 => sw e44 (.exit 0) (asCons l45 fun v46 l47 => asInt .i64 v46 fun i48 => asCons l47 fun v49 l50 => asBool v49 fun b51 => asCons l50 fun v52 l53 => asInt .i64 v52 fun i54 => asNil l53 (.ret .ret [(.tuple #[(.int .i64 i48), (.bool true)])])) (sw e44 .ret (asCons l45 fun v55 l56 => asInt .i64 v55 fun i57 => asCons l56 fun v58 l59 => asBool v58 fun b60 => asCons l59 fun v61 l62 => asInt .i64 v61 fun i63 => asNil l62 (.ret .ret [(.tuple #[(.int .i64 i63), (.bool b60)])])) (.fail))

noncomputable def T28k2 (s0 : ByteArray) : Ex → List Value → Pg :=
  fun e1 l2 => sw e1 .normal (asCons l2 fun v3 l4 => asBool v3 fun b5 => asNil l4 (bif b5 then (.ret .ret [(.tuple #[(.int .i64 0), (.bool false)])]) else (.act (rng s0) fun v6 => asPtr v6 fun p7 => asSome p7 fun a8 => .loop [(.int .i64 0), (.bool false), (.int .i64 0)] (T28b0 a8) (T28k1)))) (.fail)

/-- hindsight/cmd.number -/
noncomputable def T28 (s0 : ByteArray) : Pg :=
  .join (bif (decide (((s0.size : Nat) : Int) < 1)) == false then (.ret .normal [(.bool (decide (((s0.size : Nat) : Int) > 9)))]) else (.ret .normal [(.bool true)])) (T28k2 s0)
theorem T28_eq (s0 : ByteArray) : progOf PROG false 28 [(.string s0)] = T28 s0 := by kernel_rfl


noncomputable def T29k0 (i7 : Int) (i15 : Int) (i10 : Int) : Ex → List Value → Pg :=
  fun e17 l18 => sw e17 .normal (asCons l18 fun v19 l20 => asInt .i32 v19 fun i21 => asNil l20 (bif (i7 == 1) then (.ret (.exit 0) [(.int .i64 i7), (.int .i64 i15), (.int .i32 i21)]) else (.ret .normal [(.int .i64 (wi64 (i7 + 1))), (.int .i64 i10), (.int .i32 i21)]))) (.fail)

noncomputable def T29k1 : Ex → List Value → Pg :=
  fun e22 l23 => sw e22 (.exit 0) (asCons l23 fun v24 l25 => asInt .i64 v24 fun i26 => asCons l25 fun v27 l28 => asInt .i64 v27 fun i29 => asCons l28 fun v30 l31 => asInt .i32 v30 fun i32 => asNil l31 (.ret (.exit 0) [(.int .i64 i26), (.int .i64 i29), (.int .i32 i32)])) (sw e22 .normal (asCons l23 fun v33 l34 => asInt .i64 v33 fun i35 => asCons l34 fun v36 l37 => asInt .i64 v36 fun i38 => asCons l37 fun v39 l40 => asInt .i32 v39 fun i41 => asNil l40 (.ret .normal [(.int .i64 i35), (.int .i64 i38), (.int .i32 i41)])) (.fail))

noncomputable def T29b0 (a3 : Addr) : List Value → Pg :=
  fun l4 => asCons l4 fun v5 l6 => asInt .i64 v5 fun i7 => asCons l6 fun v8 l9 => asInt .i64 v8 fun i10 => asCons l9 fun v11 l12 => asInt .i32 v11 fun i13 => asNil l12 (.act (nxt (some a3)) fun v14 => asNx v14 (fun i15 i16 => .join (.join (bif (i7 == 0) then (.ret .normal [(.int .i32 i16)]) else (.ret .normal [(.int .i32 i13)])) (T29k0 i7 i15 i10)) (T29k1)) (.ret (.exit 0) [(.int .i64 i7), (.int .i64 i10), (.int .i32 i13)]))

noncomputable def T29k2 : Ex → List Value → Pg :=
  fun e42 l43 => sw e42 (.exit 0) (asCons l43 fun v44 l45 => asInt .i64 v44 fun i46 => asCons l45 fun v47 l48 => asInt .i64 v47 fun i49 => asCons l48 fun v50 l51 => asInt .i32 v50 fun i52 => asNil l51 (.ret .ret [(.tuple #[(.int .i32 i52), (.int .i64 i49)])])) (.fail)

/-- hindsight/hindsightref1.first -/
noncomputable def T29 (s0 : ByteArray) : Pg :=
  .act (rng s0) fun v1 => asPtr v1 fun p2 => asSome p2 fun a3 => .loop [(.int .i64 0), (.int .i64 ((s0.size : Nat) : Int)), (.int .i32 0)] (T29b0 a3) (T29k2)
theorem T29_eq (s0 : ByteArray) : progOf PROG false 29 [(.string s0)] = T29 s0 := by kernel_rfl


noncomputable def T30k0 (i0 : Int) : Ex → List Value → Pg :=
  fun e3 l4 => sw e3 .normal (asCons l4 fun v5 l6 => asBool v5 fun b7 => asNil l6 (bif b7 then (.ret .ret [(.int .i64 1)]) else (bif ((decide (i0 ≥ 48)) && (decide (i0 ≤ 57))) then (.ret .ret [(.int .i64 2)]) else (bif ((((i0 == 32) || (i0 == 9)) || (i0 == 10)) || (i0 == 13)) then (.ret .ret [(.int .i64 3)]) else (.ret .normal [(.int .i64 0)]))))) (.fail)

noncomputable def T30k1 (i19 : Int) : Ex → List Value → Pg :=
  fun e23 l24 => sw e23 .ret (asCons l24 fun v25 l26 => asInt .i64 v25 fun i27 => asNil l26 (.ret .ret [(.int .i64 i19), (.int .i64 i27)])) (sw e23 .normal (asCons l24 fun v28 l29 => asInt .i64 v28 fun i30 => asNil l29 (.ret .normal [(.int .i64 (wi64 (i19 + 1))), (.int .i64 i30)])) (.fail))

noncomputable def T30b0 (i0 : Int) : List Value → Pg :=
  fun l16 => asCons l16 fun v17 l18 => asInt .i64 v17 fun i19 => asCons l18 fun v20 l21 => asInt .i64 v20 fun i22 => asNil l21 (bif (decide (i19 < 13)) then (.join (grd ((decide (0 ≤ i19)) && (decide (i19 < 13))) (bif (i0 == (wi32 (byteAt (bs [40, 41, 44, 59, 61, 60, 62, 43, 45, 42, 124, 33, 58]) (Int.toNat i19)))) then (.ret .ret [(.int .i64 4)]) else (.ret .normal [(.int .i64 i22)]))) (T30k1 i19)) else (.ret (.exit 1) [(.int .i64 i19), (.int .i64 i22)]))

noncomputable def T30k2 : Ex → List Value → Pg :=
  fun e31 l32 => sw e31 (.exit 1) (asCons l32 fun v33 l34 => asInt .i64 v33 fun i35 => asCons l34 fun v36 l37 => asInt .i64 v36 fun i38 => asNil l37 (.ret .ret [(.int .i64 0)])) (sw e31 .ret (asCons l32 fun v39 l40 => asInt .i64 v39 fun i41 => asCons l40 fun v42 l43 => asInt .i64 v42 fun i44 => asNil l43 (.ret .ret [(.int .i64 i44)])) (.fail))

noncomputable def T30k3 (i0 : Int) : Ex → List Value → Pg :=
  fun e8 l9 => sw e8 .ret (asCons l9 fun v10 l11 => asInt .i64 v10 fun i12 => asNil l11 (.ret .ret [(.int .i64 i12)])) (sw e8 .normal (asCons l9 fun v13 l14 => asInt .i64 v13 fun i15 => asNil l14 (.loop [(.int .i64 0), (.int .i64 i15)] (T30b0 i0) (T30k2))) (.fail))

/-- hindsight/hindsightref1.Class -/
noncomputable def T30 (i0 : Int) : Pg :=
  .join (.join (bif ((i0 == 95) || (i0 == 39)) == false then (.call 38 [(.int .i32 i0)] fun v1 => asBool v1 fun b2 => .ret .normal [(.bool b2)]) else (.ret .normal [(.bool true)])) (T30k0 i0)) (T30k3 i0)
theorem T30_eq (i0 : Int) : progOf PROG false 30 [(.int .i32 i0)] = T30 i0 := by kernel_rfl


noncomputable def T32k0 : Ex → List Value → Pg :=
  fun e13 l14 => sw e13 .ret (asCons l14 fun v15 l16 => asInt .i64 v15 fun i17 => asNil l16 (.ret .ret [(.int .i64 i17)])) (sw e13 .normal (asCons l14 fun v18 l19 => asInt .i64 v18 fun i20 => asNil l19 (.ret .normal [(.int .i64 i20)])) (.fail))

noncomputable def T32b0 (a3 : Addr) : List Value → Pg :=
  fun l4 => asCons l4 fun v5 l6 => asInt .i64 v5 fun i7 => asNil l6 (.act (nxt (some a3)) fun v8 => asNx v8 (fun i9 i10 => .join (.call 30 [(.int .i32 i10)] fun v11 => asInt .i64 v11 fun i12 => bif ((i12 != 1) && (i12 != 2)) then (.ret .ret [(.int .i64 i9)]) else (.ret .normal [(.int .i64 i7)])) (T32k0)) (.ret (.exit 0) [(.int .i64 i7)]))

noncomputable def T32k1 (s0 : ByteArray) : Ex → List Value → Pg :=
  fun e21 l22 => sw e21 (.exit 0) (asCons l22 fun v23 l24 => asInt .i64 v23 fun i25 => asNil l24 (.ret .ret [(.int .i64 ((s0.size : Nat) : Int))])) (sw e21 .ret (asCons l22 fun v26 l27 => asInt .i64 v26 fun i28 => asNil l27 (.ret .ret [(.int .i64 i28)])) (.fail))

/-- hindsight/hindsightref1.tail -/
noncomputable def T32 (s0 : ByteArray) : Pg :=
  .act (rng s0) fun v1 => asPtr v1 fun p2 => asSome p2 fun a3 => .loop [(.int .i64 0)] (T32b0 a3) (T32k1 s0)
theorem T32_eq (s0 : ByteArray) : progOf PROG false 32 [(.string s0)] = T32 s0 := by kernel_rfl


noncomputable def T33k0 : Ex → List Value → Pg :=
  fun e11 l12 => sw e11 .normal (asCons l12 fun v13 l14 => asInt .i64 v13 fun i15 => asNil l14 (.ret .normal [(.int .i64 i15)])) (.fail)

noncomputable def T33b0 (a3 : Addr) : List Value → Pg :=
  fun l4 => asCons l4 fun v5 l6 => asInt .i64 v5 fun i7 => asNil l6 (.act (nxt (some a3)) fun v8 => asNx v8 (fun i9 i10 => .join (.ret .normal [(.int .i64 (wi64 (i7 + 1)))]) (T33k0)) (.ret (.exit 0) [(.int .i64 i7)]))

noncomputable def T33k1 : Ex → List Value → Pg :=
  fun e16 l17 => sw e16 (.exit 0) (asCons l17 fun v18 l19 => asInt .i64 v18 fun i20 => asNil l19 (.ret .ret [(.int .i64 i20)])) (.fail)

/-- hindsight/hindsightref1.Count -/
noncomputable def T33 (s0 : ByteArray) : Pg :=
  .act (rng s0) fun v1 => asPtr v1 fun p2 => asSome p2 fun a3 => .loop [(.int .i64 0)] (T33b0 a3) (T33k1)
theorem T33_eq (s0 : ByteArray) : progOf PROG false 33 [(.string s0)] = T33 s0 := by kernel_rfl


noncomputable def T34k0 : Ex → List Value → Pg :=
  fun e1 l2 => sw e1 .ret (asCons l2 fun v3 l4 => asStr v3 fun s5 => asNil l4 (.ret .ret [(.string s5)])) (sw e1 .normal (asCons l2 fun v6 l7 => asStr v6 fun s8 => asNil l7 (.ret .ret [(.string (bs []))])) (.fail))

/-- hindsight/cmd.other -/
noncomputable def T34 (i0 : Int) : Pg :=
  .join (bif (i0 == 10) then (.ret .ret [(.string (bs [103, 111, 116, 111]))]) else (bif (i0 == 11) then (.ret .ret [(.string (bs [119, 104, 101, 114, 101]))]) else (bif (i0 == 12) then (.ret .ret [(.string (bs [108, 111, 99, 97, 108, 115]))]) else (bif (i0 == 13) then (.ret .ret [(.string (bs [112, 114, 105, 110, 116]))]) else (bif (i0 == 14) then (.ret .ret [(.string (bs [98, 97, 99, 107, 116, 114, 97, 99, 101]))]) else (bif (i0 == 15) then (.ret .ret [(.string (bs [111, 117, 116]))]) else (bif (i0 == 16) then (.ret .ret [(.string (bs [119, 97, 116, 99, 104]))]) else (bif (i0 == 17) then (.ret .ret [(.string (bs [117, 110, 119, 97, 116, 99, 104]))]) else (.ret .normal [(.string (bs []))]))))))))) (T34k0)
theorem T34_eq (i0 : Int) : progOf PROG false 34 [(.int .i64 i0)] = T34 i0 := by kernel_rfl


noncomputable def T36k0 : Ex → List Value → Pg :=
  fun e13 l14 => sw e13 .ret (asCons l14 fun v15 l16 => asBool v15 fun b17 => asNil l16 (.ret .ret [(.bool b17)])) (.fail)

noncomputable def T36b0 (a3 : Addr) : List Value → Pg :=
  fun l4 => asCons l4 fun v5 l6 => asBool v5 fun b7 => asNil l6 (.act (nxt (some a3)) fun v8 => asNx v8 (fun i9 i10 => .join (.call 31 [(.int .i32 i10)] fun v11 => asBool v11 fun b12 => .ret .ret [(.bool b12)]) (T36k0)) (.ret (.exit 0) [(.bool b7)]))

noncomputable def T36k1 : Ex → List Value → Pg :=
  fun e18 l19 => sw e18 (.exit 0) (asCons l19 fun v20 l21 => asBool v20 fun b22 => asNil l21 (.ret .ret [(.bool false)])) (sw e18 .ret (asCons l19 fun v23 l24 => asBool v23 fun b25 => asNil l24 (.ret .ret [(.bool b25)])) (.fail))

/-- hindsight/chars.Upper -/
noncomputable def T36 (s0 : ByteArray) : Pg :=
  .act (rng s0) fun v1 => asPtr v1 fun p2 => asSome p2 fun a3 => .loop [(.bool false)] (T36b0 a3) (T36k1)
theorem T36_eq (s0 : ByteArray) : progOf PROG false 36 [(.string s0)] = T36 s0 := by kernel_rfl


noncomputable def T37k0 : Ex → List Value → Pg :=
  fun e11 l12 => sw e11 .normal (asCons l12 fun v13 l14 => asInt .i64 v13 fun i15 => asNil l14 (.ret .normal [(.int .i64 i15)])) (.fail)

noncomputable def T37b0 (a3 : Addr) : List Value → Pg :=
  fun l4 => asCons l4 fun v5 l6 => asInt .i64 v5 fun i7 => asNil l6 (.act (nxt (some a3)) fun v8 => asNx v8 (fun i9 i10 => .join (.ret .normal [(.int .i64 (wi64 (i7 + 1)))]) (T37k0)) (.ret (.exit 0) [(.int .i64 i7)]))

noncomputable def T37k1 : Ex → List Value → Pg :=
  fun e16 l17 => sw e16 (.exit 0) (asCons l17 fun v18 l19 => asInt .i64 v18 fun i20 => asNil l19 (.ret .ret [(.int .i64 i20)])) (.fail)

/-- hindsight/chars.Runes -/
noncomputable def T37 (s0 : ByteArray) : Pg :=
  .act (rng s0) fun v1 => asPtr v1 fun p2 => asSome p2 fun a3 => .loop [(.int .i64 0)] (T37b0 a3) (T37k1)
theorem T37_eq (s0 : ByteArray) : progOf PROG false 37 [(.string s0)] = T37 s0 := by kernel_rfl

noncomputable def A3 : List Value → Option Pg
  | [(.string s0), (.agg c0)] => (match c0.toList with
    | [(.int .i64 i1), (.int .i64 i2), (.string s3)] => some (T3 s0 i1 i2 s3)
    | _ => none)
  | _ => none
theorem A3_ok : ∀ args p, A3 args = some p → progOf PROG false 3 args = p := by
  intro args p h
  unfold A3 at h
  split at h
  · split at h
    · rename_i e0
      have f0 := agg_of e0
      subst f0
      cases h
      exact T3_eq _ _ _ _
    · cases h
  · cases h
noncomputable def A4 : List Value → Option Pg
  | [(.string s0)] => some (T4 s0)
  | _ => none
theorem A4_ok : ∀ args p, A4 args = some p → progOf PROG false 4 args = p := by
  intro args p h
  unfold A4 at h
  split at h
  · cases h; exact T4_eq _
  · cases h
noncomputable def A5 : List Value → Option Pg
  | [(.string s0), (.string s1), (.int .i64 i2)] => some (T5 s0 s1 i2)
  | _ => none
theorem A5_ok : ∀ args p, A5 args = some p → progOf PROG false 5 args = p := by
  intro args p h
  unfold A5 at h
  split at h
  · cases h; exact T5_eq _ _ _
  · cases h
noncomputable def A6 : List Value → Option Pg
  | [] => some (T6)
  | _ => none
theorem A6_ok : ∀ args p, A6 args = some p → progOf PROG false 6 args = p := by
  intro args p h
  unfold A6 at h
  split at h
  · cases h; exact T6_eq 
  · cases h
noncomputable def A7 : List Value → Option Pg
  | [(.string s0)] => some (T7 s0)
  | _ => none
theorem A7_ok : ∀ args p, A7 args = some p → progOf PROG false 7 args = p := by
  intro args p h
  unfold A7 at h
  split at h
  · cases h; exact T7_eq _
  · cases h
noncomputable def A8 : List Value → Option Pg
  | [(.string s0)] => some (T8 s0)
  | _ => none
theorem A8_ok : ∀ args p, A8 args = some p → progOf PROG false 8 args = p := by
  intro args p h
  unfold A8 at h
  split at h
  · cases h; exact T8_eq _
  · cases h
noncomputable def A9 : List Value → Option Pg
  | [(.agg c0)] => (match c0.toList with
    | [(.int .i64 i0), (.int .i64 i1), (.string s2)] => some (T9 i0 i1 s2)
    | _ => none)
  | _ => none
theorem A9_ok : ∀ args p, A9 args = some p → progOf PROG false 9 args = p := by
  intro args p h
  unfold A9 at h
  split at h
  · split at h
    · rename_i e0
      have f0 := agg_of e0
      subst f0
      cases h
      exact T9_eq _ _ _
    · cases h
  · cases h
noncomputable def A10 : List Value → Option Pg
  | [(.agg c0)] => (match c0.toList with
    | [(.int .i64 i0), (.int .i64 i1), (.string s2)] => some (T10 i0 i1 s2)
    | _ => none)
  | _ => none
theorem A10_ok : ∀ args p, A10 args = some p → progOf PROG false 10 args = p := by
  intro args p h
  unfold A10 at h
  split at h
  · split at h
    · rename_i e0
      have f0 := agg_of e0
      subst f0
      cases h
      exact T10_eq _ _ _
    · cases h
  · cases h
noncomputable def A11 : List Value → Option Pg
  | [(.agg c0)] => (match c0.toList with
    | [(.int .i64 i0), (.int .i64 i1), (.string s2)] => some (T11 i0 i1 s2)
    | _ => none)
  | _ => none
theorem A11_ok : ∀ args p, A11 args = some p → progOf PROG false 11 args = p := by
  intro args p h
  unfold A11 at h
  split at h
  · split at h
    · rename_i e0
      have f0 := agg_of e0
      subst f0
      cases h
      exact T11_eq _ _ _
    · cases h
  · cases h
noncomputable def A12 : List Value → Option Pg
  | [(.string s0)] => some (T12 s0)
  | _ => none
theorem A12_ok : ∀ args p, A12 args = some p → progOf PROG false 12 args = p := by
  intro args p h
  unfold A12 at h
  split at h
  · cases h; exact T12_eq _
  · cases h
noncomputable def A13 : List Value → Option Pg
  | [(.string s0)] => some (T13 s0)
  | _ => none
theorem A13_ok : ∀ args p, A13 args = some p → progOf PROG false 13 args = p := by
  intro args p h
  unfold A13 at h
  split at h
  · cases h; exact T13_eq _
  · cases h
noncomputable def A14 : List Value → Option Pg
  | [(.int .i64 i0), (.slice p1 n2 n3)] => some (T14 i0 p1 n2 n3)
  | _ => none
theorem A14_ok : ∀ args p, A14 args = some p → progOf PROG false 14 args = p := by
  intro args p h
  unfold A14 at h
  split at h
  · cases h; exact T14_eq _ _ _ _
  · cases h
noncomputable def A15 : List Value → Option Pg
  | [(.string s0)] => some (T15 s0)
  | _ => none
theorem A15_ok : ∀ args p, A15 args = some p → progOf PROG false 15 args = p := by
  intro args p h
  unfold A15 at h
  split at h
  · cases h; exact T15_eq _
  · cases h
noncomputable def A16 : List Value → Option Pg
  | [] => some (T16)
  | _ => none
theorem A16_ok : ∀ args p, A16 args = some p → progOf PROG false 16 args = p := by
  intro args p h
  unfold A16 at h
  split at h
  · cases h; exact T16_eq 
  · cases h
noncomputable def A17 : List Value → Option Pg
  | [(.string s0)] => some (T17 s0)
  | _ => none
theorem A17_ok : ∀ args p, A17 args = some p → progOf PROG false 17 args = p := by
  intro args p h
  unfold A17 at h
  split at h
  · cases h; exact T17_eq _
  · cases h
noncomputable def A18 : List Value → Option Pg
  | [(.string s0)] => some (T18 s0)
  | _ => none
theorem A18_ok : ∀ args p, A18 args = some p → progOf PROG false 18 args = p := by
  intro args p h
  unfold A18 at h
  split at h
  · cases h; exact T18_eq _
  · cases h
noncomputable def A19 : List Value → Option Pg
  | [(.int .i64 i0)] => some (T19 i0)
  | _ => none
theorem A19_ok : ∀ args p, A19 args = some p → progOf PROG false 19 args = p := by
  intro args p h
  unfold A19 at h
  split at h
  · cases h; exact T19_eq _
  · cases h
noncomputable def A20 : List Value → Option Pg
  | [(.int .i64 i0)] => some (T20 i0)
  | _ => none
theorem A20_ok : ∀ args p, A20 args = some p → progOf PROG false 20 args = p := by
  intro args p h
  unfold A20 at h
  split at h
  · cases h; exact T20_eq _
  · cases h
noncomputable def A21 : List Value → Option Pg
  | [(.int .i64 i0)] => some (T21 i0)
  | _ => none
theorem A21_ok : ∀ args p, A21 args = some p → progOf PROG false 21 args = p := by
  intro args p h
  unfold A21 at h
  split at h
  · cases h; exact T21_eq _
  · cases h
noncomputable def A23 : List Value → Option Pg
  | [(.string s0)] => some (T23 s0)
  | _ => none
theorem A23_ok : ∀ args p, A23 args = some p → progOf PROG false 23 args = p := by
  intro args p h
  unfold A23 at h
  split at h
  · cases h; exact T23_eq _
  · cases h
noncomputable def A24 : List Value → Option Pg
  | [(.int .i64 i0)] => some (T24 i0)
  | _ => none
theorem A24_ok : ∀ args p, A24 args = some p → progOf PROG false 24 args = p := by
  intro args p h
  unfold A24 at h
  split at h
  · cases h; exact T24_eq _
  · cases h
noncomputable def A25 : List Value → Option Pg
  | [(.string s0), v1] => some (T25 s0 v1)
  | _ => none
theorem A25_ok : ∀ args p, A25 args = some p → progOf PROG false 25 args = p := by
  intro args p h
  unfold A25 at h
  split at h
  · cases h; exact T25_eq _ _
  · cases h
noncomputable def A26 : List Value → Option Pg
  | [(.int .i32 i0)] => some (T26 i0)
  | _ => none
theorem A26_ok : ∀ args p, A26 args = some p → progOf PROG false 26 args = p := by
  intro args p h
  unfold A26 at h
  split at h
  · cases h; exact T26_eq _
  · cases h
noncomputable def A27 : List Value → Option Pg
  | [(.int .i32 i0)] => some (T27 i0)
  | _ => none
theorem A27_ok : ∀ args p, A27 args = some p → progOf PROG false 27 args = p := by
  intro args p h
  unfold A27 at h
  split at h
  · cases h; exact T27_eq _
  · cases h
noncomputable def A28 : List Value → Option Pg
  | [(.string s0)] => some (T28 s0)
  | _ => none
theorem A28_ok : ∀ args p, A28 args = some p → progOf PROG false 28 args = p := by
  intro args p h
  unfold A28 at h
  split at h
  · cases h; exact T28_eq _
  · cases h
noncomputable def A29 : List Value → Option Pg
  | [(.string s0)] => some (T29 s0)
  | _ => none
theorem A29_ok : ∀ args p, A29 args = some p → progOf PROG false 29 args = p := by
  intro args p h
  unfold A29 at h
  split at h
  · cases h; exact T29_eq _
  · cases h
noncomputable def A30 : List Value → Option Pg
  | [(.int .i32 i0)] => some (T30 i0)
  | _ => none
theorem A30_ok : ∀ args p, A30 args = some p → progOf PROG false 30 args = p := by
  intro args p h
  unfold A30 at h
  split at h
  · cases h; exact T30_eq _
  · cases h
noncomputable def A32 : List Value → Option Pg
  | [(.string s0)] => some (T32 s0)
  | _ => none
theorem A32_ok : ∀ args p, A32 args = some p → progOf PROG false 32 args = p := by
  intro args p h
  unfold A32 at h
  split at h
  · cases h; exact T32_eq _
  · cases h
noncomputable def A33 : List Value → Option Pg
  | [(.string s0)] => some (T33 s0)
  | _ => none
theorem A33_ok : ∀ args p, A33 args = some p → progOf PROG false 33 args = p := by
  intro args p h
  unfold A33 at h
  split at h
  · cases h; exact T33_eq _
  · cases h
noncomputable def A34 : List Value → Option Pg
  | [(.int .i64 i0)] => some (T34 i0)
  | _ => none
theorem A34_ok : ∀ args p, A34 args = some p → progOf PROG false 34 args = p := by
  intro args p h
  unfold A34 at h
  split at h
  · cases h; exact T34_eq _
  · cases h
noncomputable def A36 : List Value → Option Pg
  | [(.string s0)] => some (T36 s0)
  | _ => none
theorem A36_ok : ∀ args p, A36 args = some p → progOf PROG false 36 args = p := by
  intro args p h
  unfold A36 at h
  split at h
  · cases h; exact T36_eq _
  · cases h
noncomputable def A37 : List Value → Option Pg
  | [(.string s0)] => some (T37 s0)
  | _ => none
theorem A37_ok : ∀ args p, A37 args = some p → progOf PROG false 37 args = p := by
  intro args p h
  unfold A37 at h
  split at h
  · cases h; exact T37_eq _
  · cases h
noncomputable def TAB : Tab := (.low 18 (.low 10 (.low 6 (.low 4 (.one 3 A3 (.one 4 A4 .nil)) (.one 5 A5 (.one 6 A6 .nil))) (.low 8 (.one 7 A7 (.one 8 A8 .nil)) (.one 9 A9 (.one 10 A10 .nil)))) (.low 14 (.low 12 (.one 11 A11 (.one 12 A12 .nil)) (.one 13 A13 (.one 14 A14 .nil))) (.low 16 (.one 15 A15 (.one 16 A16 .nil)) (.one 17 A17 (.one 18 A18 .nil))))) (.low 27 (.low 23 (.low 20 (.one 19 A19 (.one 20 A20 .nil)) (.one 21 A21 (.one 23 A23 .nil))) (.low 25 (.one 24 A24 (.one 25 A25 .nil)) (.one 26 A26 (.one 27 A27 .nil)))) (.low 32 (.low 29 (.one 28 A28 (.one 29 A29 .nil)) (.one 30 A30 (.one 32 A32 .nil))) (.low 34 (.one 33 A33 (.one 34 A34 .nil)) (.one 36 A36 (.one 37 A37 .nil))))))
theorem TAB_ok : TabOK PROG TAB := (.low (.low (.low (.low (.one A3_ok (.one A4_ok .nil)) (.one A5_ok (.one A6_ok .nil))) (.low (.one A7_ok (.one A8_ok .nil)) (.one A9_ok (.one A10_ok .nil)))) (.low (.low (.one A11_ok (.one A12_ok .nil)) (.one A13_ok (.one A14_ok .nil))) (.low (.one A15_ok (.one A16_ok .nil)) (.one A17_ok (.one A18_ok .nil))))) (.low (.low (.low (.one A19_ok (.one A20_ok .nil)) (.one A21_ok (.one A23_ok .nil))) (.low (.one A24_ok (.one A25_ok .nil)) (.one A26_ok (.one A27_ok .nil)))) (.low (.low (.one A28_ok (.one A29_ok .nil)) (.one A30_ok (.one A32_ok .nil))) (.low (.one A33_ok (.one A34_ok .nil)) (.one A36_ok (.one A37_ok .nil))))))

end Go.Pg
